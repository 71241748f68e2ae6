/- A part of the proofs of the laws of this seat: the engine that reads the program's code, plain functions, or facts of the program's functions. Conditions: none. -/
import Derived.Ground.NamesProg
import Derived.Shelf.Small.Strs
import Derived.Shelf.Strings.Search1
import Derived.Shelf.Strings.OnBuilder
import Derived.Test.YtcilfbaaaipbcaaGreatDoorProg
import Derived.Test.YtcilfbaaaipbcaaGreatDoorP1
import Derived.Test.YtcilfbaaaipbcaaGreatDoorE4
set_option linter.unusedSectionVars false
set_option linter.unusedVariables false
set_option linter.unusedSimpArgs false
set_option linter.unnecessarySimpa false
set_option maxRecDepth 100000
namespace Go.Proofs
open Go.Shelf
def Tryz.Cv:Go.Shelf.Ren:=⟨fun|106=>181|213=>196|265=>204|n=>n,fun|9=>9|3=>3|n=>n,fun|n=>n⟩
theorem Tryz.Mm:Go.Proofs.Lays.n106 Tryz.prog Tryz.Cv:={
 mixed:=by kernel_rfl
 f106:=Tryz.func181.trans (congrArg some (by kernel_rfl))
 f213:=Tryz.func196.trans (congrArg some (by kernel_rfl))
 f265:=Tryz.func204.trans (congrArg some (by kernel_rfl))
 t3:=Tryz.underlying3
 a3:=Tryz.isAgg3
 z3:=Tryz.sizeOf3
 v3:=Tryz.zeroValue3
 t9:=Tryz.underlying9
 a9:=Tryz.isAgg9
 z9:=Tryz.sizeOf9
 v9:=Tryz.zeroValue9}
def Tryz.CM:Go.Shelf.Ren:=⟨fun|217=>175|266=>194|n=>n,fun|9=>9|5=>5|3=>3|n=>n,fun|n=>n⟩
theorem Tryz.Ny:Go.Proofs.Lays.n217 Tryz.prog Tryz.CM:={
 mixed:=by kernel_rfl
 f217:=Tryz.func175.trans (congrArg some (by kernel_rfl))
 f266:=Tryz.func194.trans (congrArg some (by kernel_rfl))
 t3:=Tryz.underlying3
 a3:=Tryz.isAgg3
 z3:=Tryz.sizeOf3
 v3:=Tryz.zeroValue3
 t5:=Tryz.underlying5
 a5:=Tryz.isAgg5
 z5:=Tryz.sizeOf5
 v5:=Tryz.zeroValue5
 t9:=Tryz.underlying9
 a9:=Tryz.isAgg9
 z9:=Tryz.sizeOf9
 v9:=Tryz.zeroValue9}
def Tryz.vz:Go.Shelf.Ren:=⟨fun|156=>149|165=>171|166=>172|169=>173|240=>188|241=>189|276=>200|277=>201|n=>n,fun|31=>106|9=>9|3=>3|4=>4|0=>0|20=>20|72=>174|76=>178|70=>171|37=>172|75=>177|127=>189|164=>200|5=>5|80=>180|n=>n,fun|n=>n⟩
theorem Tryz.Gj:Go.Proofs.Lays.n156 Tryz.prog Tryz.vz:={
 mixed:=by kernel_rfl
 f156:=Tryz.func149.trans (congrArg some (by kernel_rfl))
 f165:=Tryz.func171.trans (congrArg some (by kernel_rfl))
 f166:=Tryz.func172.trans (congrArg some (by kernel_rfl))
 f169:=Tryz.func173.trans (congrArg some (by kernel_rfl))
 f240:=Tryz.func188.trans (congrArg some (by kernel_rfl))
 f241:=Tryz.func189.trans (congrArg some (by kernel_rfl))
 f276:=Tryz.func200.trans (congrArg some (by kernel_rfl))
 f277:=Tryz.func201.trans (congrArg some (by kernel_rfl))
 t0:=Tryz.underlying0
 a0:=Tryz.isAgg0
 z0:=Tryz.sizeOf0
 v0:=Tryz.zeroValue0
 t3:=Tryz.underlying3
 a3:=Tryz.isAgg3
 z3:=Tryz.sizeOf3
 v3:=Tryz.zeroValue3
 t4:=Tryz.underlying4
 a4:=Tryz.isAgg4
 z4:=Tryz.sizeOf4
 v4:=Tryz.zeroValue4
 t9:=Tryz.underlying9
 a9:=Tryz.isAgg9
 z9:=Tryz.sizeOf9
 v9:=Tryz.zeroValue9
 t20:=Tryz.underlying20
 a20:=Tryz.isAgg20
 z20:=Tryz.sizeOf20
 v20:=Tryz.zeroValue20
 t31:=Tryz.underlying106
 a31:=Tryz.isAgg106
 z31:=Tryz.sizeOf106
 v31:=Tryz.zeroValue106
 t37:=Tryz.underlying172
 a37:=Tryz.isAgg172
 z37:=Tryz.sizeOf172
 v37:=Tryz.zeroValue172
 t70:=Tryz.underlying171
 a70:=Tryz.isAgg171
 z70:=Tryz.sizeOf171
 v70:=Tryz.zeroValue171
 t72:=Tryz.underlying174
 a72:=Tryz.isAgg174
 z72:=Tryz.sizeOf174
 v72:=Tryz.zeroValue174
 t75:=Tryz.underlying177
 a75:=Tryz.isAgg177
 z75:=Tryz.sizeOf177
 v75:=Tryz.zeroValue177
 t76:=Tryz.underlying178
 a76:=Tryz.isAgg178
 z76:=Tryz.sizeOf178
 v76:=Tryz.zeroValue178
 t127:=Tryz.underlying189
 a127:=Tryz.isAgg189
 z127:=Tryz.sizeOf189
 v127:=Tryz.zeroValue189
 t164:=Tryz.underlying200
 a164:=Tryz.isAgg200
 z164:=Tryz.sizeOf200
 v164:=Tryz.zeroValue200}
end Go.Proofs
namespace Go.Eng
open Go Go.Proofs Go.Shelf
noncomputable instance:aE Tryz.prog:=⟨[(0,⟨.parts,nq⟩)]⟩
noncomputable def gr:Spec:=aO (X:=Str×Str) (Y:=Int) [.one .str, .one .str] [.one (.int .i64)] (fun v=>(v.1,v.2.1)) (fun y=>y) (fun x=>strings_Compare x.1 x.2)
theorem mG:aN Tryz.prog 181 gr where
 enters:=enters_of Tryz.func181 (by kernel_rfl) rfl
 calls:=by
  intro S w args vs x y hS _ hal hp hf;simp only[gr,aO] at hp hf⊢;split at hp
  ·rename_i v hv
   cases hp;cases hf;rw[HP.eq hv] at hal;cases hal with
   |cons h1 h2=>
    cases h2 with
    |cons h2 h3=>
     cases h3;rename_i v1 v2;cases (show VA _ w (.str v.1) v1 from h1) with
     |str _ b1 e1=>
      cases (show VA _ w (.str v.2.1) v2 from h2) with
      |str _ b2 e2=>
       refine(Any.strings_Compare Tryz.Mm b1 b2 w).mono ?_;rintro e w' ⟨rfl,rfl⟩;refine⟨_,rfl,Go.RowKit.Below.refl _ _, ?_⟩;rw[e1,e2];exact VA.int _ _
  ·cases hp
noncomputable def cM:Spec:=aO (X:=Str×Int) (Y:=Int) [.one .str, .one (.int .u8)] [.one (.int .i64)] (fun v=>(v.1,v.2.1)) (fun y=>y) (fun x=>stringslite_IndexByte x.1 x.2)
theorem dW:aN Tryz.prog 175 cM where
 enters:=enters_of Tryz.func175 (by kernel_rfl) rfl
 calls:=by
  intro S w args vs x y hS _ hal hp hf;simp only[cM,aO] at hp hf⊢;split at hp
  ·rename_i v hv
   cases hp;cases hf;rw[HP.eq hv] at hal;cases hal with
   |cons h1 h2=>
    cases h2 with
    |cons h2 h3=>
     cases h3;rename_i v1 v2;cases (show VA _ w (.str v.1) v1 from h1) with
     |str _ b1 e1=>
      cases (show VA _ w (.int .u8 v.2.1) v2 from h2) with
      |int _ _=>
       refine(Any.stringslite_IndexByte Tryz.Ny b1 v.2.1 w).mono ?_;rintro e w' ⟨rfl,rfl⟩;refine⟨_,rfl,Go.RowKit.Below.refl _ _, ?_⟩;rw[e1];exact VA.int _ _
  ·cases hp
theorem OA:Go.Proofs.Builder.Extra Tryz.prog Tryz.vz where
 sizeBuilder:=by kernel_rfl
 liesBuilder:=by kernel_rfl
 t5:=Tryz.underlying5
 a5:=Tryz.isAgg5
 z5:=Tryz.sizeOf5
 v5:=Tryz.zeroValue5
 infoByte:=by kernel_rfl
 cellsByte:=by kernel_rfl
 sizeByte:=by kernel_rfl
 neB5:=by decide
noncomputable def lg:Spec:=aO (X:=List Str×Str) (Y:=Str) [.one (.sl .str), .one .str] [.one .str] (fun v=>(v.1,v.2.1)) (fun y=>y) (fun x=>strings_Join x.1 x.2)
theorem vM:aN Tryz.prog 149 lg where
 enters:=enters_of Tryz.func149 (by kernel_rfl) rfl
 calls:=by
  intro S w args vs x y hS _ hal hp hf;simp only[lg,aO] at hp hf⊢;split at hp
  ·rename_i v hv
   cases hp;unfold strings_Join at hf;split at hf
   rotate_left
   ·cases hf
   rename_i hlen;have hlen:(Lib.join v.1 v.2.1).length+List.length v.1≤67108864:=hlen;cases hf;rw[HP.eq hv] at hal;cases hal with
   |cons h1 h2=>
    cases h2 with
    |cons h2 h3=>
     cases h3;rename_i v1 v2;cases (show VA _ w (.sl .str v.1) v1 from h1) with
     |sl _ _ ad len cap bk of f hn hc ha hcell hff=>
      cases (show VA _ w (.str v.2.1) v2 from h2) with
      |str _ b2 e2=>
       by_cases hne:v.1= []
       ·have hlen0:len=0:=by rw[hn,hne];rfl
        subst hlen0;refine(Any.strings_Join_none Tryz.Gj OA ad cap b2 w).mono ?_;rintro e w' ⟨rfl,rfl⟩;refine⟨_,rfl,Go.RowKit.Below.refl _ _, ?_⟩;rw[hne];exact VA.str _ _ rfl
       ·obtain⟨rfl,hSb⟩:=ha hne
        obtain⟨xs,hxl,hxs,hxd⟩:=Jj (w:=w) (bk:=bk) (of:=of) v.1 (fun i hi=>by
         have:=hcell i 0 hi (by decide);have h9:=hff i v.1[i] 0 (.str v.1[i]) (by simp [hi]) rfl;generalize f i 0=u at this h9;cases h9 with
         |str _ b e=>exact⟨b,by simpa [Ty.n] using this,e⟩)
        subst hn;have:=Any.strings_Join Tryz.Gj OA bk of cap xs b2 w hxs (hS bk hSb) (by
         rw[hxl];omega) (by rw[hxl];exact hc) (by
         rw[hxd,e2];omega)
        rw[hxl] at this;refine this.mono ?_;rintro e w' ⟨rfl,hb⟩;refine⟨_,rfl,hb, ?_⟩;rw[hxd,e2];exact VA.str _ _ (by simp)
  ·cases hp
theorem yk:vf Tryz.prog 137:=xW Tryz.func137 (by kernel_rfl) (by kernel_rfl) (tS:=22) (tR:=4) (e:=55) (size:=6) (by kernel_rfl) (by kernel_rfl) (by kernel_rfl) Tryz.sizeOf55
theorem JJ:vf Tryz.prog 165:=xW Tryz.func165 (by kernel_rfl) (by kernel_rfl) (tS:=25) (tR:=4) (e:=66) (size:=4) (by kernel_rfl) (by kernel_rfl) (by kernel_rfl) Tryz.sizeOf66
theorem Ek:vf Tryz.prog 182:=xW Tryz.func182 (by kernel_rfl) (by kernel_rfl) (tS:=53) (tR:=4) (e:=85) (size:=2) (by kernel_rfl) (by kernel_rfl) (by kernel_rfl) Tryz.sizeOf85
end Go.Eng
namespace Go.Eng
noncomputable section
open Go Go.Proofs
def G7:List (Nat×TI):=[(9,⟨false,1, .one (.str []), .str⟩),(106,⟨false,1, .one (.clip .str []), .slice .str 9⟩)]
def HC:List (Nat×List EK):= []
theorem IK:Tryz.prog.follows .mixedOrders=true:=by kernel_rfl
theorem Kt:(G7.all fun x=>tiB Tryz.prog x.1 x.2)=true:=by kernel_rfl
theorem Jz:(HC.all fun x=>eqB Tryz.prog x.1 x.2)=true:=by kernel_rfl
def Mg:Code:=bd Tryz.f40
def KU:Code:=bd Tryz.f81
def KS:Code:=bd Tryz.f84
def LZ:Code:=bd Tryz.f85
def Lh:Code:=bd Tryz.f115
def ER:HS:=⟨[(0, .one (.str)),(3, .one (.int .i64))], [],0⟩
def NV {R:Type}:Nat→HS.V ER→(Ex→St→Option R)→Option R:=fun q v K=>
 iw v.1.1 (K .ret {az:=[(2, .v (.one (.bool false)))],mem:= [],nx:=0}) (K (.exit 0) {az:=[(0, .v (.one (.str v.1.1)))],mem:= [],nx:=0}) q v.1.2.1
def WJ:List HV:=[.one (.str)]
def Ul:List HV:=[.one (.bool)]
def amg:HP.V WJ→Str:=fun v=>(v.1)
def adk:HX.V Ul→Bool:=fun v=>(v)
def avp:Bool→HX.V Ul:=fun y=>(y)
def auB:Str→Option (Bool):=fun x=>j5 x
def Je:Spec:=aO WJ Ul amg avp auB
def Y0 {R:Type}:List (Nat×Hd R):=[(2,bQ ER NV)]
def SK {R:Type}:List (Nat×Inl R):= []
def OP:Cfg:={T:=G7,ba:=aE.G Tryz.prog,eqs:=HC,N:=36,fuel:=64,loops:=[(2,⟨[0,3], [], [],0, [], [], [], []⟩)],blocks:=[(0,⟨[0], [], [],0, [], [], [], []⟩)],gS:=some ⟨[2], [], [],0, [], [], [], []⟩,fid:=81}
theorem anu:aF Tryz.prog OP:=bg Kt Jz trivial
theorem aog {R:Type}:aQ Tryz.prog (R:=R) 0 SK:=aC _ _
theorem aps {R:Type}:bL (R:=R) (hnd 0 SK) OP Y0 (sub [1,0,1,0,0] KU) (HS.V ER) (HS.st ER) (HS.sh ER) NV (bQ ER NV):=aX ER NV (fun _ _=>rfl) (by intro q v K;kernel_rfl)
theorem afE {R:Type}:aK (R:=R) (hnd 0 SK) OP Y0 KU:=aB (l:=[sub [1,0,1,0,0] KU]) (by kernel_rfl) (aM (b:=sub [1,0,1,0,0] KU) (rid:=2) (by kernel_rfl) (by kernel_rfl) aps (trivial))
theorem Nu:aN Tryz.prog 81 Je:=bu Tryz.f81 anu IK (d:=0) aog afE (bC (by kernel_rfl)) (toY:=adk)
def F0:HS:=⟨[(0, .one (.str)),(3, .one (.own 0)),(4, .one (.str)),(5, .one (.int .i64))],[(0, .row .str)],1⟩
def LA {R:Type}:Nat→HS.V F0→(Ex→St→Option R)→Option R:=fun q v K=>
 cT v.1.1 (fun y6=>K (.exit 0) {az:=[(3, .v (.one (.own 0)))],mem:=[(0, .row .str y6)],nx:=1}) q v.1.2.2.1 v.1.2.2.2.1 v.2.1
def aax:List HV:=[.one (.str)]
def S4:List HV:=[.one (.sl .str)]
def arA:HP.V aax→Str:=fun v=>(v.1)
def apv:HX.V S4→(List Str):=fun v=>(v)
def apT:(List Str)→HX.V S4:=fun y=>(y)
def arY:Str→Option ((List Str)):=fun x=>gh x
def TN:Spec:=aO aax S4 arA apT arY
def Ut {R:Type}:List (Nat×Hd R):=[(4,bQ F0 LA)]
def To {R:Type}:List (Nat×Inl R):= []
def QZ:Cfg:={T:=G7,ba:=aE.G Tryz.prog,eqs:=HC,N:=36,fuel:=64,loops:=[(4,⟨[0,3,4,5],[(3,0, .str)],[0],1, [], [], [], []⟩)],blocks:=[(0,⟨[3], [],[0],1, [], [], [], []⟩)],fid:=85}
theorem aoE:aF Tryz.prog QZ:=bg Kt Jz trivial
theorem atS {R:Type}:aQ Tryz.prog (R:=R) 0 To:=aC _ _
theorem ai3 {R:Type}:bL (R:=R) (hnd 0 To) QZ Ut (sub [1,1,1,0,1,0,0] LZ) (HS.V F0) (HS.st F0) (HS.sh F0) LA (bQ F0 LA):=aX F0 LA (fun _ _=>rfl) (by intro q v K;kernel_rfl)
theorem adi {R:Type}:aK (R:=R) (hnd 0 To) QZ Ut LZ:=aB (l:=[sub [1,1,1,0,1,0,0] LZ]) (by kernel_rfl) (aM (b:=sub [1,1,1,0,1,0,0] LZ) (rid:=4) (by kernel_rfl) (by kernel_rfl) ai3 (trivial))
theorem Xx:aN Tryz.prog 85 TN:=bu Tryz.f85 aoE IK (d:=0) atS adi (bC (by kernel_rfl)) (toY:=apv)
def Dy:HS:=⟨[(0, .one (.sl .str)),(3, .one (.str)),(4, .one (.int .i64))], [],0⟩
def KI {R:Type}:Nat→HS.V Dy→(Ex→St→Option R)→Option R:=fun q v K=>
 gI v.1.1 (fun y5=>K (.exit 0) {az:=[(3, .v (.one (.str y5)))],mem:= [],nx:=0}) q v.1.2.1 v.1.2.2.1
def aae:List HV:=[.one (.sl .str)]
def TA:List HV:=[.one (.str)]
def ajp:HP.V aae→(List Str):=fun v=>(v.1)
def avm:HX.V TA→Str:=fun v=>(v)
def apn:Str→HX.V TA:=fun y=>(y)
def alh:(List Str)→Option (Str):=fun x=>oQ x
def aaj:Spec:=aO aae TA ajp apn alh
def Y9 {R:Type}:List (Nat×Hd R):=[(5,bQ Dy KI)]
def RC {R:Type}:List (Nat×Inl R):= []
def TB:Cfg:={T:=G7,ba:=aE.G Tryz.prog,eqs:=HC,N:=22,fuel:=64,loops:=[(5,⟨[0,3,4], [], [],0, [], [], [], []⟩)],blocks:=[(0,⟨[3], [], [],0, [], [], [], []⟩)],fid:=115}
theorem auR:aF Tryz.prog TB:=bg Kt Jz trivial
theorem an1 {R:Type}:aQ Tryz.prog (R:=R) 0 RC:=aC _ _
theorem ao8 {R:Type}:bL (R:=R) (hnd 0 RC) TB Y9 (sub [1,1,1,0,1,0,0] Lh) (HS.V Dy) (HS.st Dy) (HS.sh Dy) KI (bQ Dy KI):=aX Dy KI (fun _ _=>rfl) (by intro q v K;kernel_rfl)
theorem aim {R:Type}:aK (R:=R) (hnd 0 RC) TB Y9 Lh:=aB (l:=[sub [1,1,1,0,1,0,0] Lh]) (by kernel_rfl) (aM (b:=sub [1,1,1,0,1,0,0] Lh) (rid:=5) (by kernel_rfl) (by kernel_rfl) ao8 (trivial))
theorem aip:aN Tryz.prog 115 aaj:=bu Tryz.f115 auR IK (d:=0) an1 aim (bC (by kernel_rfl)) (toY:=avm)
def FI:HS:=⟨[(0, .one (.str)),(4, .one (.sl .str)),(5, .one (.int .i64))], [],0⟩
def Mf {R:Type}:Nat→HS.V FI→(Ex→St→Option R)→Option R:=fun q v K=>
 eX v.1.2.1 (K .ret {az:=[(2, .v (.one (.clip .str ([] :List Str)))),(3, .v (.one (.bool false)))],mem:= [],nx:=0}) (K (.exit 0) {az:=[(0, .v (.one (.str v.1.1))),(4, .v (.one (.sl .str v.1.2.1)))],mem:= [],nx:=0}) q v.1.2.2.1
def Y6:List HV:=[.one (.str)]
def Qq:List HV:=[.one (.sl .str), .one (.bool)]
def au4:HP.V Y6→Str:=fun v=>(v.1)
def adY:HX.V Qq→(List Str)×Bool:=fun v=>(v.1,v.2)
def an7:(List Str)×Bool→HX.V Qq:=fun y=>(y.1,y.2)
def acv:Str→Option ((List Str)×Bool):=fun x=>kN x
def TR:Spec:=aO Y6 Qq au4 an7 acv
def VD {R:Type}:List (Nat×Hd R):=[(3,bQ FI Mf)]
def P3 {R:Type}:List (Nat×Inl R):= []
def Uh:Cfg:={T:=G7,spec:=[(81,Je),(85,TN),(115,aaj)],ba:=aE.G Tryz.prog,eqs:=HC,N:=25,fuel:=64,loops:=[(3,⟨[0,4,5], [], [],0, [], [], [], []⟩)],blocks:=[(0,⟨[0,4], [], [],0, [], [], [], []⟩)],gS:=some ⟨[2,3], [], [],0, [], [], [], []⟩,fid:=84}
theorem ahL:aF Tryz.prog Uh:=bg Kt Jz ⟨Nu,⟨Xx,⟨aip,trivial⟩⟩⟩
theorem ah2 {R:Type}:aQ Tryz.prog (R:=R) 0 P3:=aC _ _
theorem ab7 {R:Type}:bL (R:=R) (hnd 0 P3) Uh VD (sub [1,1,0,1,0,0] KS) (HS.V FI) (HS.st FI) (HS.sh FI) Mf (bQ FI Mf):=aX FI Mf (fun _ _=>rfl) (by intro q v K;kernel_rfl)
theorem aud {R:Type}:aK (R:=R) (hnd 0 P3) Uh VD KS:=aB (l:=[sub [1,1,0,1,0,0] KS]) (by kernel_rfl) (aM (b:=sub [1,1,0,1,0,0] KS) (rid:=3) (by kernel_rfl) (by kernel_rfl) ab7 (trivial))
theorem VN:aN Tryz.prog 84 TR:=bu Tryz.f84 ahL IK (d:=0) ah2 aud (bC (by kernel_rfl)) (toY:=adY)
def F1:HS:=⟨[(5, .one (.sl .str)),(6, .one (.sl .str)),(7, .one (.int .i64))], [],0⟩
def KW {R:Type}:Nat→HS.V F1→(Ex→St→Option R)→Option R:=fun q v K=>
 fP v.1.1 v.1.2.1 (K .ret {az:=[(4, .v (.one (.bool false)))],mem:= [],nx:=0}) (K (.exit 0) {az:= [],mem:= [],nx:=0}) q v.1.2.2.1
def We:List HV:=[.one (.str), .one (.str)]
def SV:List HV:=[.one (.bool)]
def ati:HP.V We→Str×Str:=fun v=>(v.1,v.2.1)
def ajh:HX.V SV→Bool:=fun v=>(v)
def abF:Bool→HX.V SV:=fun y=>(y)
def akz:(Str×Str)→Option (Bool):=fun x=>bh x.1 x.2
def Vs:Spec:=aO We SV ati abF akz
def Yd {R:Type}:List (Nat×Hd R):=[(6,bQ F1 KW)]
def SB {R:Type}:List (Nat×Inl R):= []
def ON:Cfg:={T:=G7,spec:=[(85,TN)],ba:=aE.G Tryz.prog,eqs:=HC,N:=32,fuel:=64,loops:=[(6,⟨[5,6,7], [], [],0, [], [], [], []⟩)],blocks:=[(0,⟨[], [], [],0, [], [], [], []⟩)],gS:=some ⟨[4], [], [],0, [], [], [], []⟩,fid:=40}
theorem aql:aF Tryz.prog ON:=bg Kt Jz ⟨Xx,trivial⟩
theorem am8 {R:Type}:aQ Tryz.prog (R:=R) 0 SB:=aC _ _
theorem amU {R:Type}:bL (R:=R) (hnd 0 SB) ON Yd (sub [1,1,1,1,0,1,0,0] Mg) (HS.V F1) (HS.st F1) (HS.sh F1) KW (bQ F1 KW):=aX F1 KW (fun _ _=>rfl) (by intro q v K;kernel_rfl)
theorem avG {R:Type}:aK (R:=R) (hnd 0 SB) ON Yd Mg:=aB (l:=[sub [1,1,1,1,0,1,0,0] Mg]) (by kernel_rfl) (aM (b:=sub [1,1,1,1,0,1,0,0] Mg) (rid:=6) (by kernel_rfl) (by kernel_rfl) amU (trivial))
theorem am0:aN Tryz.prog 40 Vs:=bu Tryz.f40 aql IK (d:=0) am8 avG (bC (by kernel_rfl)) (toY:=ajh)
end
end Go.Eng
namespace Go.Eng
noncomputable section
open Go Go.Proofs
def GO:List (Nat×TI):=[(3,⟨false,1, .one (.int .i64 0), .int .i64⟩),(9,⟨false,1, .one (.str []), .str⟩),(53,⟨false,1, .one (.clip .entry []), .slice .entry 85⟩),(85,⟨true,2, .agg [.str [], .int .i64 0], .struct [(0,9),(1,3)]⟩)]
def It:List (Nat×List EK):=[(85,[.s, .i])]
theorem IA:Tryz.prog.follows .mixedOrders=true:=by kernel_rfl
theorem Jc:(GO.all fun x=>tiB Tryz.prog x.1 x.2)=true:=by kernel_rfl
theorem Kj:(It.all fun x=>eqB Tryz.prog x.1 x.2)=true:=by kernel_rfl
def Nn:Code:=bd Tryz.f77
def M9:Code:=bd Tryz.f78
def Ly:Code:=bd Tryz.f86
def Of:Code:=bd Tryz.f113
def N1:Code:=bd Tryz.f114
def DG:HS:=⟨[(0, .one (.sl .entry)),(1, .one (.sl .entry)),(5, .one (.int .i64))], [],0⟩
def Lm {R:Type}:Nat→HS.V DG→(Ex→St→Option R)→Option R:=fun q v K=>
 gG v.1.1 v.1.2.1 (K .ret {az:=[(4, .v (.one (.bool false)))],mem:= [],nx:=0}) (K (.exit 0) {az:= [],mem:= [],nx:=0}) q v.1.2.2.1
def Yq:List HV:=[.one (.sl .entry), .one (.sl .entry)]
def TF:List HV:=[.one (.bool)]
def asN:HP.V Yq→(List Entry)×(List Entry):=fun v=>(v.1,v.2.1)
def aeo:HX.V TF→Bool:=fun v=>(v)
def atd:Bool→HX.V TF:=fun y=>(y)
def aeW:(List Entry)×(List Entry)→Option (Bool):=fun x=>oO x.1 x.2
def Yu:Spec:=aO Yq TF asN atd aeW
def U0 {R:Type}:List (Nat×Hd R):=[(4,bQ DG Lm)]
def P7 {R:Type}:List (Nat×Inl R):= []
def Up:Cfg:={T:=GO,ba:=aE.G Tryz.prog,eqs:=It,N:=26,fuel:=64,loops:=[(4,⟨[0,1,5], [], [],0, [], [], [], []⟩)],blocks:=[(0,⟨[], [], [],0, [], [], [], []⟩)],gS:=some ⟨[4], [], [],0, [], [], [], []⟩,fid:=114}
theorem aby:aF Tryz.prog Up:=bg Jc Kj trivial
theorem acm {R:Type}:aQ Tryz.prog (R:=R) 0 P7:=aC _ _
theorem atf {R:Type}:bL (R:=R) (hnd 0 P7) Up U0 (sub [1,1,0,1,0,0] N1) (HS.V DG) (HS.st DG) (HS.sh DG) Lm (bQ DG Lm):=aX DG Lm (fun _ _=>rfl) (by intro q v K;kernel_rfl)
theorem ahR {R:Type}:aK (R:=R) (hnd 0 P7) Up U0 N1:=aB (l:=[sub [1,1,0,1,0,0] N1]) (by kernel_rfl) (aM (b:=sub [1,1,0,1,0,0] N1) (rid:=4) (by kernel_rfl) (by kernel_rfl) atf (trivial))
theorem agb:aN Tryz.prog 114 Yu:=bu Tryz.f114 aby IA (d:=0) acm ahR (bC (by kernel_rfl)) (toY:=aeo)
def EZ:HS:=⟨[(0, .one (.sl .entry)),(3, .one (.int .i64))], [],0⟩
def NC {R:Type}:Nat→HS.V EZ→(Ex→St→Option R)→Option R:=fun q v K=>
 e_ v.1.1 (K .ret {az:=[(2, .v (.one (.bool false)))],mem:= [],nx:=0}) (K (.exit 0) {az:= [],mem:= [],nx:=0}) q v.1.2.1
def VC:List HV:=[.one (.sl .entry)]
def Qd:List HV:=[.one (.bool)]
def aob:HP.V VC→(List Entry):=fun v=>(v.1)
def au7:HX.V Qd→Bool:=fun v=>(v)
def alO:Bool→HX.V Qd:=fun y=>(y)
def apQ:(List Entry)→Option (Bool):=fun x=>fo x
def Xf:Spec:=aO VC Qd aob alO apQ
def YC {R:Type}:List (Nat×Hd R):=[(2,bQ EZ NC)]
def SA {R:Type}:List (Nat×Inl R):= []
def Qa:Cfg:={T:=GO,spec:=[(81,Je)],ba:=aE.G Tryz.prog,eqs:=It,N:=41,fuel:=64,loops:=[(2,⟨[0,3], [], [],0, [], [], [], []⟩)],blocks:=[(0,⟨[], [], [],0, [], [], [], []⟩)],gS:=some ⟨[2], [], [],0, [], [], [], []⟩,fid:=86}
theorem aij:aF Tryz.prog Qa:=bg Jc Kj ⟨Nu,trivial⟩
theorem anv {R:Type}:aQ Tryz.prog (R:=R) 0 SA:=aC _ _
theorem aos {R:Type}:bL (R:=R) (hnd 0 SA) Qa YC (sub [1,0,1,0,0] Ly) (HS.V EZ) (HS.st EZ) (HS.sh EZ) NC (bQ EZ NC):=aX EZ NC (fun _ _=>rfl) (by intro q v K;kernel_rfl)
theorem anq {R:Type}:aK (R:=R) (hnd 0 SA) Qa YC Ly:=aB (l:=[sub [1,0,1,0,0] Ly]) (by kernel_rfl) (aM (b:=sub [1,0,1,0,0] Ly) (rid:=2) (by kernel_rfl) (by kernel_rfl) aos (trivial))
theorem ajP:aN Tryz.prog 86 Xf:=bu Tryz.f86 aij IA (d:=0) anv anq (bC (by kernel_rfl)) (toY:=au7)
def FY:HS:=⟨[(0, .one (.sl .entry)),(1, .one (.str)),(6, .one (.int .i64))], [],0⟩
def NB {R:Type}:Nat→HS.V FY→(Ex→St→Option R)→Option R:=fun q v K=>
 gJ v.1.1 v.1.2.1 (fun y6=>K .ret {az:=[(4, .v (.one (.int .i64 y6))),(5, .v (.one (.bool true)))],mem:= [],nx:=0}) (K (.exit 0) {az:= [],mem:= [],nx:=0}) q v.1.2.2.1
def Wn:List HV:=[.one (.sl .entry), .one (.str)]
def Q2:List HV:=[.one (.int .i64), .one (.bool)]
def ajl:HP.V Wn→(List Entry)×Str:=fun v=>(v.1,v.2.1)
def afA:HX.V Q2→Int×Bool:=fun v=>(v.1,v.2)
def amT:(Int×Bool)→HX.V Q2:=fun y=>(y.1,y.2)
def ap3:(List Entry)×Str→Option (Int×Bool):=fun x=>km x.1 x.2
def abf:Spec:=aO Wn Q2 ajl amT ap3
def VQ {R:Type}:List (Nat×Hd R):=[(2,bQ FY NB)]
def Rb {R:Type}:List (Nat×Inl R):= []
def QS:Cfg:={T:=GO,ba:=aE.G Tryz.prog,eqs:=It,N:=25,fuel:=64,loops:=[(2,⟨[0,1,6], [], [],0, [], [], [], []⟩)],blocks:=[(0,⟨[], [], [],0, [], [], [], []⟩)],gS:=some ⟨[4,5], [], [],0, [], [], [], []⟩,fid:=113}
theorem am5:aF Tryz.prog QS:=bg Jc Kj trivial
theorem adT {R:Type}:aQ Tryz.prog (R:=R) 0 Rb:=aC _ _
theorem alo {R:Type}:bL (R:=R) (hnd 0 Rb) QS VQ (sub [1,0,1,0,0] Of) (HS.V FY) (HS.st FY) (HS.sh FY) NB (bQ FY NB):=aX FY NB (fun _ _=>rfl) (by intro q v K;kernel_rfl)
theorem ada {R:Type}:aK (R:=R) (hnd 0 Rb) QS VQ Of:=aB (l:=[sub [1,0,1,0,0] Of]) (by kernel_rfl) (aM (b:=sub [1,0,1,0,0] Of) (rid:=2) (by kernel_rfl) (by kernel_rfl) alo (trivial))
theorem akL:aN Tryz.prog 113 abf:=bu Tryz.f113 am5 IA (d:=0) adT ada (bC (by kernel_rfl)) (toY:=afA)
def Et:HS:=⟨[(0, .one (.sl .entry)),(1, .one (.str)),(5, .one (.own 0)),(6, .one (.int .i64))],[(0, .row .entry)],1⟩
def Lj {R:Type}:Nat→HS.V Et→(Ex→St→Option R)→Option R:=fun q v K=>
 dO v.1.1 v.1.2.1 (fun y7=>K (.exit 0) {az:=[(5, .v (.one (.own 0)))],mem:=[(0, .row .entry y7)],nx:=1}) q v.1.2.2.2.1 v.2.1
def YY:List HV:=[.one (.sl .entry), .one (.str)]
def Tg:List HV:=[.one (.sl .entry)]
def arZ:HP.V YY→(List Entry)×Str:=fun v=>(v.1,v.2.1)
def atw:HX.V Tg→(List Entry):=fun v=>(v)
def ap9:(List Entry)→HX.V Tg:=fun y=>(y)
def aqe:(List Entry)×Str→Option ((List Entry)):=fun x=>eI x.1 x.2
def N3:Spec:=aO YY Tg arZ ap9 aqe
def XF {R:Type}:List (Nat×Hd R):=[(3,bQ Et Lj)]
def P8 {R:Type}:List (Nat×Inl R):= []
def OG:Cfg:={T:=GO,ba:=aE.G Tryz.prog,eqs:=It,N:=28,fuel:=64,loops:=[(3,⟨[0,1,5,6],[(5,0, .entry)],[0],1, [], [], [], []⟩)],blocks:=[(0,⟨[5], [],[0],1, [], [], [], []⟩)],fid:=78}
theorem auf:aF Tryz.prog OG:=bg Jc Kj trivial
theorem anx {R:Type}:aQ Tryz.prog (R:=R) 0 P8:=aC _ _
theorem aoi {R:Type}:bL (R:=R) (hnd 0 P8) OG XF (sub [1,1,0,1,0,0] M9) (HS.V Et) (HS.st Et) (HS.sh Et) Lj (bQ Et Lj):=aX Et Lj (fun _ _=>rfl) (by intro q v K;kernel_rfl)
theorem amJ {R:Type}:aK (R:=R) (hnd 0 P8) OG XF M9:=aB (l:=[sub [1,1,0,1,0,0] M9]) (by kernel_rfl) (aM (b:=sub [1,1,0,1,0,0] M9) (rid:=3) (by kernel_rfl) (by kernel_rfl) aoi (trivial))
theorem Ui:aN Tryz.prog 78 N3:=bu Tryz.f78 auf IA (d:=0) anx amJ (bC (by kernel_rfl)) (toY:=atw)
def D_:HS:=⟨[(1, .one (.str)),(2, .one (.int .i64)),(7, .one (.sl .entry)),(8, .one (.own 0)),(9, .one (.bool)),(10, .one (.int .i64))],[(0, .row .entry)],1⟩
def LU {R:Type}:Nat→HS.V D_→(Ex→St→Option R)→Option R:=fun q v K=>
 eG v.1.1 v.1.2.1 v.1.2.2.1 (fun y14 y15=>K (.exit 0) {az:=[(1, .v (.one (.str v.1.1))),(2, .v (.one (.int .i64 v.1.2.1))),(8, .v (.one (.own 0))),(9, .v (.one (.bool y14)))],mem:=[(0, .row .entry y15)],nx:=1}) q v.1.2.2.2.2.1 v.1.2.2.2.2.2.1 v.2.1
def XY:List HV:=[.one (.sl .entry), .one (.str), .one (.int .i64)]
def RD:List HV:=[.one (.sl .entry)]
def adf:HP.V XY→(List Entry)×Str×Int:=fun v=>(v.1,v.2.1,v.2.2.1)
def alA:HX.V RD→(List Entry):=fun v=>(v)
def aeu:(List Entry)→HX.V RD:=fun y=>(y)
def abI:(List Entry)×Str×Int→Option ((List Entry)):=fun x=>fE x.1 x.2.1 x.2.2
def LV:Spec:=aO XY RD adf aeu abI
def Vr {R:Type}:List (Nat×Hd R):=[(5,bQ D_ LU)]
def SC {R:Type}:List (Nat×Inl R):= []
def O4:Cfg:={T:=GO,spec:=[(78,N3)],ba:=aE.G Tryz.prog,eqs:=It,N:=53,fuel:=64,loops:=[(5,⟨[1,2,7,8,9,10],[(8,0, .entry)],[0],1, [], [], [], []⟩)],blocks:=[(0,⟨[1,2,8,9], [],[0],1, [], [], [], []⟩)],fid:=77}
theorem ahr:aF Tryz.prog O4:=bg Jc Kj ⟨Ui,trivial⟩
theorem ael {R:Type}:aQ Tryz.prog (R:=R) 0 SC:=aC _ _
theorem avd {R:Type}:bL (R:=R) (hnd 0 SC) O4 Vr (sub [1,1,1,1,0,1,0,0] Nn) (HS.V D_) (HS.st D_) (HS.sh D_) LU (bQ D_ LU):=aX D_ LU (fun _ _=>rfl) (by intro q v K;kernel_rfl)
theorem ahq {R:Type}:aK (R:=R) (hnd 0 SC) O4 Vr Nn:=aB (l:=[sub [1,1,1,1,0,1,0,0] Nn]) (by kernel_rfl) (aM (b:=sub [1,1,1,1,0,1,0,0] Nn) (rid:=5) (by kernel_rfl) (by kernel_rfl) avd (trivial))
theorem PB:aN Tryz.prog 77 LV:=bu Tryz.f77 ahr IA (d:=0) ael ahq (bC (by kernel_rfl)) (toY:=alA)
end
end Go.Eng
namespace Go.Eng
noncomputable section
open Go Go.Proofs
def yK:List (Nat×TI):=[(3,⟨false,1, .one (.int .i64 0), .int .i64⟩),(9,⟨false,1, .one (.str []), .str⟩),(22,⟨false,1, .one (.clip .aS []), .slice .aS 55⟩),(24,⟨true,4, .agg [.int .i64 0, .int .i64 0, .int .i64 0, .clip .aS []], .struct [(0,3),(1,3),(2,3),(3,22)]⟩),(53,⟨false,1, .one (.clip .entry []), .slice .entry 85⟩),(55,⟨true,6, .agg [.int .i64 0, .int .i64 0, .int .i64 0, .str [], .int .i64 0, .clip .entry []], .struct [(0,3),(1,3),(2,3),(3,9),(4,3),(5,53)]⟩),(85,⟨true,2, .agg [.str [], .int .i64 0], .struct [(0,9),(1,3)]⟩)]
def zm:List (Nat×List EK):= []
theorem BB:Tryz.prog.follows .mixedOrders=true:=by kernel_rfl
theorem BN:(yK.all fun x=>tiB Tryz.prog x.1 x.2)=true:=by kernel_rfl
theorem AJ:(zm.all fun x=>eqB Tryz.prog x.1 x.2)=true:=by kernel_rfl
def K8:Code:=bd Tryz.f36
def MP:Code:=bd Tryz.f41
def Oq:Code:=bd Tryz.f44
def N6:Code:=bd Tryz.f52
def NT:Code:=bd Tryz.f80
def ED:Code:=bd Tryz.f89
def Xt:List HV:=[.agg hIn, .agg hIn]
def QX:List HV:=[.one (.bool)]
def afa:HP.V Xt→al×al:=fun v=>((cIn v.1),(cIn v.2.1))
def aup:HX.V QX→Bool:=fun v=>(v)
def acC:Bool→HX.V QX:=fun y=>(y)
def afB:(al×al)→Option (Bool):=fun x=>qZ x.1 x.2
def Wl:Spec:=aO Xt QX afa acC afB
def aey:Cfg:={T:=yK,spec:=[(114,Yu)],ba:=aE.G Tryz.prog,eqs:=zm,N:=45,fuel:=64,fid:=83}
theorem afp:aF Tryz.prog aey:=bg BN AJ ⟨agb,trivial⟩
theorem aq8:aN Tryz.prog 83 Wl:=br Tryz.f83 afp BB (toY:=aup)
def ES:HS:=⟨[(0, .one (.sl .aS)),(1, .one (.sl .aS)),(5, .one (.int .i64))], [],0⟩
def LW {R:Type}:Nat→HS.V ES→(Ex→St→Option R)→Option R:=fun q v K=>
 gE v.1.1 v.1.2.1 (K .ret {az:=[(4, .v (.one (.bool false)))],mem:= [],nx:=0}) (K (.exit 0) {az:= [],mem:= [],nx:=0}) q v.1.2.2.1
def XO:List HV:=[.one (.sl .aS), .one (.sl .aS)]
def SX:List HV:=[.one (.bool)]
def aqv:HP.V XO→(List al)×(List al):=fun v=>(v.1,v.2.1)
def adQ:HX.V SX→Bool:=fun v=>(v)
def aq7:Bool→HX.V SX:=fun y=>(y)
def avo:(List al)×(List al)→Option (Bool):=fun x=>mB x.1 x.2
def Rj:Spec:=aO XO SX aqv aq7 avo
def Zl {R:Type}:List (Nat×Hd R):=[(4,bQ ES LW)]
def QL {R:Type}:List (Nat×Inl R):= []
def Re:Cfg:={T:=yK,spec:=[(83,Wl)],ba:=aE.G Tryz.prog,eqs:=zm,N:=27,fuel:=64,loops:=[(4,⟨[0,1,5], [], [],0, [], [], [], []⟩)],blocks:=[(0,⟨[], [], [],0, [], [], [], []⟩)],gS:=some ⟨[4], [], [],0, [], [], [], []⟩,fid:=36}
theorem apy:aF Tryz.prog Re:=bg BN AJ ⟨aq8,trivial⟩
theorem acF {R:Type}:aQ Tryz.prog (R:=R) 0 QL:=aC _ _
theorem alR {R:Type}:bL (R:=R) (hnd 0 QL) Re Zl (sub [1,1,0,1,0,0] K8) (HS.V ES) (HS.st ES) (HS.sh ES) LW (bQ ES LW):=aX ES LW (fun _ _=>rfl) (by intro q v K;kernel_rfl)
theorem at6 {R:Type}:aK (R:=R) (hnd 0 QL) Re Zl K8:=aB (l:=[sub [1,1,0,1,0,0] K8]) (by kernel_rfl) (aM (b:=sub [1,1,0,1,0,0] K8) (rid:=4) (by kernel_rfl) (by kernel_rfl) alR (trivial))
theorem Ym:aN Tryz.prog 36 Rj:=bu Tryz.f36 apy BB (d:=0) acF at6 (bC (by kernel_rfl)) (toY:=adQ)
def VY:List HV:=[.agg hFs, .agg hFs]
def RH:List HV:=[.one (.bool)]
def ajv:HP.V VY→Fs×Fs:=fun v=>((cFs v.1),(cFs v.2.1))
def aie:HX.V RH→Bool:=fun v=>(v)
def aj3:Bool→HX.V RH:=fun y=>(y)
def aqD:(Fs×Fs)→Option (Bool):=fun x=>j4 x.1 x.2
def VP:Spec:=aO VY RH ajv aj3 aqD
def afh:Cfg:={T:=yK,spec:=[(36,Rj)],ba:=aE.G Tryz.prog,eqs:=zm,N:=31,fuel:=64,fid:=35}
theorem avh:aF Tryz.prog afh:=bg BN AJ ⟨Ym,trivial⟩
theorem adU:aN Tryz.prog 35 VP:=br Tryz.f35 avh BB (toY:=aie)
def Yj:List HV:=[.one (.int .i64), .one (.int .i64)]
def SH:List HV:=[.agg hFs]
def afN:HP.V Yj→Int×Int:=fun v=>(v.1,v.2.1)
def aih:HX.V SH→Fs:=fun v=>((cFs v))
def afI:Fs→HX.V SH:=fun y=>(uFs y)
def ahe:(Int×Int)→Option (Fs):=fun x=>uD x.1 x.2
def aa_:Spec:=aO Yj SH afN afI ahe
def akU:Cfg:={T:=yK,ba:=aE.G Tryz.prog,eqs:=zm,N:=10,fuel:=64,fid:=51}
theorem agF:aF Tryz.prog akU:=bg BN AJ trivial
theorem alS:aN Tryz.prog 51 aa_:=br Tryz.f51 agF BB (toY:=aih)
def Fz:HS:=⟨[(1, .one (.int .i64)),(2, .one (.ptr 0 0)),(4, .one (.ptr 1 0)),(5, .one (.own 2)),(6, .one (.int .i64))],[(0, .cells hFs),(1, .cells hFs),(2, .row .aS)],3⟩
def Nr {R:Type}:Nat→HS.V Fz→(Ex→St→Option R)→Option R:=fun q v K=>
 fI v.1.1 (cFs v.2.1) (fun y10=>K (.exit 0) {az:=[(2, .v (.one (.ptr 0 0))),(4, .v (.one (.ptr 1 0))),(5, .v (.one (.own 2)))],mem:=[(0, .cells (rFs (cFs v.2.1))),(1, .cells (rFs (cFs v.2.2.1))),(2, .row .aS y10)],nx:=3}) q v.1.2.2.2.2.1 v.2.2.2.1
def Wj:List HV:=[.agg hFs, .one (.int .i64)]
def Qr:List HV:=[.agg hFs]
def ahm:HP.V Wj→Fs×Int:=fun v=>((cFs v.1),v.2.1)
def arT:HX.V Qr→Fs:=fun v=>((cFs v))
def ajs:Fs→HX.V Qr:=fun y=>(uFs y)
def ak_:(Fs×Int)→Option (Fs):=fun x=>dB x.1 x.2
def Lt:Spec:=aO Wj Qr ahm ajs ak_
def VM {R:Type}:List (Nat×Hd R):=[(3,bQ Fz Nr)]
def Qo {R:Type}:List (Nat×Inl R):= []
def RX:Cfg:={T:=yK,ba:=aE.G Tryz.prog,eqs:=zm,N:=33,fuel:=64,loops:=[(3,⟨[1,2,4,5,6],[(5,2, .aS)],[0,1,2],3, [],[1], [], []⟩)],blocks:=[(0,⟨[2,4,5], [],[0,1,2],3, [], [], [], []⟩)],fid:=80}
theorem au_:aF Tryz.prog RX:=bg BN AJ trivial
theorem ah5 {R:Type}:aQ Tryz.prog (R:=R) 0 Qo:=aC _ _
theorem aiA {R:Type}:bL (R:=R) (hnd 0 Qo) RX VM (sub [1,1,0,1,0,0] NT) (HS.V Fz) (HS.st Fz) (HS.sh Fz) Nr (bQ Fz Nr):=aX Fz Nr (fun _ _=>rfl) (by intro q v K;kernel_rfl)
theorem amC {R:Type}:aK (R:=R) (hnd 0 Qo) RX VM NT:=aB (l:=[sub [1,1,0,1,0,0] NT]) (by kernel_rfl) (aM (b:=sub [1,1,0,1,0,0] NT) (rid:=3) (by kernel_rfl) (by kernel_rfl) aiA (trivial))
theorem PF:aN Tryz.prog 80 Lt:=bu Tryz.f80 au_ BB (d:=0) ah5 amC (bC (by kernel_rfl)) (toY:=arT)
def Fv:HS:=⟨[(2, .one (.ptr 0 0)),(3, .one (.ptr 1 0)),(4, .one (.ptr 2 0)),(5, .one (.sl .aS)),(6, .one (.own 3)),(7, .one (.bool)),(8, .one (.int .i64))],[(0, .cells hFs),(1, .cells hIn),(2, .cells hFs),(3, .row .aS)],4⟩
def On {R:Type}:Nat→HS.V Fv→(Ex→St→Option R)→Option R:=fun q v K=>
 fw v.1.2.2.2.1 (cIn v.2.2.1) (fun y13 y17=>K (.exit 0) {az:=[(2, .v (.one (.ptr 0 0))),(3, .v (.one (.ptr 1 0))),(4, .v (.one (.ptr 2 0))),(6, .v (.one (.own 3))),(7, .v (.one (.bool y13)))],mem:=[(0, .cells (rFs (cFs v.2.1))),(1, .cells (rIn (cIn v.2.2.1))),(2, .cells (rFs (cFs v.2.2.2.1))),(3, .row .aS y17)],nx:=4}) q v.1.2.2.2.2.2.1 v.1.2.2.2.2.2.2.1 v.2.2.2.2.1
def Wa:List HV:=[.agg hFs, .agg hIn]
def TP:List HV:=[.agg hFs]
def ajT:HP.V Wa→Fs×al:=fun v=>((cFs v.1),(cIn v.2.1))
def aeE:HX.V TP→Fs:=fun v=>((cFs v))
def ats:Fs→HX.V TP:=fun y=>(uFs y)
def agd:(Fs×al)→Option (Fs):=fun x=>bG x.1 x.2
def zg:Spec:=aO Wa TP ajT ats agd
def YU {R:Type}:List (Nat×Hd R):=[(5,bQ Fv On)]
def Ur {R:Type}:List (Nat×Inl R):= []
def O5:Cfg:={T:=yK,spec:=[(80,Lt)],ba:=aE.G Tryz.prog,eqs:=zm,N:=52,fuel:=64,loops:=[(5,⟨[2,3,4,5,6,7,8],[(6,3, .aS)],[0,1,2,3],4, [],[2], [], []⟩)],blocks:=[(0,⟨[2,3,4,6,7], [],[0,1,2,3],4, [], [], [], []⟩)],fid:=52}
theorem at7:aF Tryz.prog O5:=bg BN AJ ⟨PF,trivial⟩
theorem avx {R:Type}:aQ Tryz.prog (R:=R) 0 Ur:=aC _ _
theorem apo {R:Type}:bL (R:=R) (hnd 0 Ur) O5 YU (sub [1,1,1,1,0,1,0,0] N6) (HS.V Fv) (HS.st Fv) (HS.sh Fv) On (bQ Fv On):=aX Fv On (fun _ _=>rfl) (by intro q v K;kernel_rfl)
theorem anN {R:Type}:aK (R:=R) (hnd 0 Ur) O5 YU N6:=aB (l:=[sub [1,1,1,1,0,1,0,0] N6]) (by kernel_rfl) (aM (b:=sub [1,1,1,1,0,1,0,0] N6) (rid:=5) (by kernel_rfl) (by kernel_rfl) apo (trivial))
theorem BO:aN Tryz.prog 52 zg:=bu Tryz.f52 at7 BB (d:=0) avx anN (bC (by kernel_rfl)) (toY:=aeE)
def EJ:HS:=⟨[(1, .one (.ptr 0 0)),(3, .one (.int .i64))],[(0, .cells hFs)],1⟩
def LC {R:Type}:Nat→HS.V EJ→(Ex→St→Option R)→Option R:=fun q v K=>
 iK (cFs v.2.1) (K .ret {az:=[(2, .v (.one (.bool false)))],mem:= [],nx:=0}) (K (.exit 0) {az:= [],mem:= [],nx:=0}) q v.1.2.1
def Vb:List HV:=[.agg hFs]
def Uc:List HV:=[.one (.bool)]
def asE:HP.V Vb→Fs:=fun v=>((cFs v.1))
def al7:HX.V Uc→Bool:=fun v=>(v)
def ac1:Bool→HX.V Uc:=fun y=>(y)
def ar_:Fs→Option (Bool):=fun x=>mf x
def SQ:Spec:=aO Vb Uc asE ac1 ar_
def Zk {R:Type}:List (Nat×Hd R):=[(2,bQ EJ LC)]
def Ry {R:Type}:List (Nat×Inl R):= []
def TQ:Cfg:={T:=yK,ba:=aE.G Tryz.prog,eqs:=zm,N:=25,fuel:=64,loops:=[(2,⟨[1,3], [],[0],1, [], [], [], []⟩)],blocks:=[(0,⟨[], [], [],0, [], [], [], []⟩)],gS:=some ⟨[2], [], [],0, [], [], [], []⟩,fid:=41}
theorem abu:aF Tryz.prog TQ:=bg BN AJ trivial
theorem aoJ {R:Type}:aQ Tryz.prog (R:=R) 0 Ry:=aC _ _
theorem arH {R:Type}:bL (R:=R) (hnd 0 Ry) TQ Zk (sub [1,0,1,0,0] MP) (HS.V EJ) (HS.st EJ) (HS.sh EJ) LC (bQ EJ LC):=aX EJ LC (fun _ _=>rfl) (by intro q v K;kernel_rfl)
theorem aoH {R:Type}:aK (R:=R) (hnd 0 Ry) TQ Zk MP:=aB (l:=[sub [1,0,1,0,0] MP]) (by kernel_rfl) (aM (b:=sub [1,0,1,0,0] MP) (rid:=2) (by kernel_rfl) (by kernel_rfl) arH (trivial))
theorem YJ:aN Tryz.prog 41 SQ:=bu Tryz.f41 abu BB (d:=0) aoJ aoH (bC (by kernel_rfl)) (toY:=al7)
def DA:HS:=⟨[(1, .one (.int .i64)),(2, .one (.ptr 0 0)),(4, .one (.ptr 1 0)),(6, .one (.int .i64))],[(0, .cells hFs),(1, .cells hIn)],2⟩
def L9 {R:Type}:Nat→HS.V DA→(Ex→St→Option R)→Option R:=fun q v K=>
 iB v.1.1 (cFs v.2.1) (fun y8=>K .ret {az:=[(4, .v (.one (.ptr 1 0))),(5, .v (.one (.bool true)))],mem:=[(1, .cells [.int .i64 y8.ino, .int .i64 y8.kind, .int .i64 y8.aI, .str y8.data, .int .i64 y8.parent, .sl .entry y8.entries])],nx:=2}) (K (.exit 0) {az:=[(4, .v (.one (.ptr 1 0)))],mem:=[(1, .cells (rIn (cIn v.2.2.1)))],nx:=2}) q v.1.2.2.2.1
def aa7:List HV:=[.agg hFs, .one (.int .i64)]
def Qw:List HV:=[.agg hIn, .one (.bool)]
def amX:HP.V aa7→Fs×Int:=fun v=>((cFs v.1),v.2.1)
def ao3:HX.V Qw→al×Bool:=fun v=>((cIn v.1),v.2)
def amI:(al×Bool)→HX.V Qw:=fun y=>(uIn y.1,y.2)
def akx:(Fs×Int)→Option (al×Bool):=fun x=>bH x.1 x.2
def qp:Spec:=aO aa7 Qw amX amI akx
def abk {R:Type}:List (Nat×Hd R):=[(2,bQ DA L9)]
def T1 {R:Type}:List (Nat×Inl R):= []
def Rt:Cfg:={T:=yK,ba:=aE.G Tryz.prog,eqs:=zm,N:=28,fuel:=64,loops:=[(2,⟨[1,2,4,6], [],[0,1],2, [],[1], [], []⟩)],blocks:=[(0,⟨[4], [],[1],2, [], [], [], []⟩)],gS:=some ⟨[4,5], [],[1],2, [],[1], [], []⟩,fid:=44}
theorem apu:aF Tryz.prog Rt:=bg BN AJ trivial
theorem amF {R:Type}:aQ Tryz.prog (R:=R) 0 T1:=aC _ _
theorem an6 {R:Type}:bL (R:=R) (hnd 0 T1) Rt abk (sub [1,0,1,0,0] Oq) (HS.V DA) (HS.st DA) (HS.sh DA) L9 (bQ DA L9):=aX DA L9 (fun _ _=>rfl) (by intro q v K;kernel_rfl)
theorem agT {R:Type}:aK (R:=R) (hnd 0 T1) Rt abk Oq:=aB (l:=[sub [1,0,1,0,0] Oq]) (by kernel_rfl) (aM (b:=sub [1,0,1,0,0] Oq) (rid:=2) (by kernel_rfl) (by kernel_rfl) an6 (trivial))
theorem q_:aN Tryz.prog 44 qp:=bu Tryz.f44 apu BB (d:=0) amF agT (bC (by kernel_rfl)) (toY:=ao3)
def DW:HS:=⟨[(1, .one (.ptr 0 0)),(3, .one (.int .i64)),(4, .one (.ptr 1 0)),(5, .one (.int .i64))],[(0, .cells hFs),(1, .cells hIn)],2⟩
def Mk {R:Type}:Nat→HS.V DW→(Ex→St→Option R)→Option R:=fun q v K=>
 gj (cIn v.2.2.1) (K .ret {az:=[(2, .v (.one (.bool false)))],mem:= [],nx:=0}) (K (.exit 2) {az:=[(1, .v (.one (.ptr 0 0))),(3, .v (.one (.int .i64 v.1.2.1)))],mem:=[(0, .cells (rFs (cFs v.2.1)))],nx:=1}) q v.1.2.2.2.1
def FF:HS:=⟨[(1, .one (.ptr 0 0)),(3, .one (.int .i64))],[(0, .cells hFs)],1⟩
def NM {R:Type}:Nat→HS.V FF→(Ex→St→Option R)→Option R:=fun q v K=>
 iy (cFs v.2.1) (K .ret {az:=[(2, .v (.one (.bool false)))],mem:= [],nx:=0}) (K (.exit 0) {az:=[(1, .v (.one (.ptr 0 0)))],mem:=[(0, .cells (rFs (cFs v.2.1)))],nx:=1}) q v.1.2.1
def V7:List HV:=[.agg hFs]
def Pe:List HV:=[.one (.bool)]
def aq3:HP.V V7→Fs:=fun v=>((cFs v.1))
def avt:HX.V Pe→Bool:=fun v=>(v)
def apI:Bool→HX.V Pe:=fun y=>(y)
def alb:Fs→Option (Bool):=fun x=>kj x
def UZ:Spec:=aO V7 Pe aq3 apI alb
def PS {R:Type}:List (Nat×Hd R):=[(2,bQ FF NM),(8,bQ DW Mk)]
def KL {R:Type}:List (Nat×Inl R):= []
def KR:Cfg:={T:=yK,ba:=aE.G Tryz.prog,eqs:=zm,N:=51,fuel:=64,loops:=[(8,⟨[1,3,4,5], [],[0,1],2, [], [], [], []⟩),(2,⟨[1,3], [],[0],1, [], [], [], []⟩)],blocks:=[(0,⟨[1], [],[0],1, [], [], [], []⟩),(1,⟨[1,3], [],[0],1, [], [], [], []⟩),(2,⟨[1,3], [],[0],1, [], [], [], []⟩)],gS:=some ⟨[2], [], [],0, [], [], [], []⟩,fid:=89}
theorem adw:aF Tryz.prog KR:=bg BN AJ trivial
theorem am7 {R:Type}:aQ Tryz.prog (R:=R) 0 KL:=aC _ _
theorem agX {R:Type}:bL (R:=R) (hnd 0 KL) KR PS (sub [1,0,1,0,0] ED) (HS.V FF) (HS.st FF) (HS.sh FF) NM (bQ FF NM):=aX FF NM (fun _ _=>rfl) (by intro q v K;kernel_rfl)
theorem ajk {R:Type}:bL (R:=R) (hnd 0 KL) KR PS (sub [1,0,1,0,0,1,0,0,1,1,1,0,0] ED) (HS.V DW) (HS.st DW) (HS.sh DW) Mk (bQ DW Mk):=aX DW Mk (fun _ _=>rfl) (by intro q v K;kernel_rfl)
theorem ah7 {R:Type}:aK (R:=R) (hnd 0 KL) KR PS ED:=aB (l:=[sub [1,0,1,0,0] ED,sub [1,0,1,0,0,1,0,0,1,1,1,0,0] ED]) (by kernel_rfl) (aM (b:=sub [1,0,1,0,0] ED) (rid:=2) (by kernel_rfl) (by kernel_rfl) agX (aM (b:=sub [1,0,1,0,0,1,0,0,1,1,1,0,0] ED) (rid:=8) (by kernel_rfl) (by kernel_rfl) ajk (trivial)))
theorem anR:aN Tryz.prog 89 UZ:=bu Tryz.f89 adw BB (d:=0) am7 ah7 (bC (by kernel_rfl)) (toY:=avt)
end
end Go.Eng
namespace Go.Eng
noncomputable section
open Go Go.Proofs
def TO:List (Nat×TI):=[(3,⟨false,1, .one (.int .i64 0), .int .i64⟩),(9,⟨false,1, .one (.str []), .str⟩),(22,⟨false,1, .one (.clip .aS []), .slice .aS 55⟩),(24,⟨true,4, .agg [.int .i64 0, .int .i64 0, .int .i64 0, .clip .aS []], .struct [(0,3),(1,3),(2,3),(3,22)]⟩),(55,⟨true,6, .agg [.int .i64 0, .int .i64 0, .int .i64 0, .str [], .int .i64 0, .clip .entry []], .struct [(0,3),(1,3),(2,3),(3,9),(4,3),(5,53)]⟩)]
def Sx:List (Nat×List EK):= []
theorem aaU:Tryz.prog.follows .mixedOrders=true:=by kernel_rfl
theorem Y4:(TO.all fun x=>tiB Tryz.prog x.1 x.2)=true:=by kernel_rfl
theorem XD:(Sx.all fun x=>eqB Tryz.prog x.1 x.2)=true:=by kernel_rfl
def NJ:Code:=bd Tryz.f88
def Eu:HS:=⟨[(1, .one (.ptr 0 0)),(3, .one (.int .i64)),(4, .one (.int .i64))],[(0, .cells hFs)],1⟩
def Ln {R:Type}:Nat→HS.V Eu→(Ex→St→Option R)→Option R:=fun q v K=>
 eZ (cFs v.2.1) (fun y6=>K (.exit 0) {az:=[(3, .v (.one (.int .i64 y6)))],mem:= [],nx:=0}) q v.1.2.1 v.1.2.2.1
def YN:List HV:=[.agg hFs]
def Tb:List HV:=[.one (.int .i64)]
def amO:HP.V YN→Fs:=fun v=>((cFs v.1))
def arq:HX.V Tb→Int:=fun v=>(v)
def au0:Int→HX.V Tb:=fun y=>(y)
def ajL:Fs→Option (Int):=fun x=>mJ x
def Zc:Spec:=aO YN Tb amO au0 ajL
def aag {R:Type}:List (Nat×Hd R):=[(3,bQ Eu Ln)]
def O_ {R:Type}:List (Nat×Inl R):= []
def QN:Cfg:={T:=TO,ba:=aE.G Tryz.prog,eqs:=Sx,N:=29,fuel:=64,loops:=[(3,⟨[1,3,4], [],[0],1, [], [], [], []⟩)],blocks:=[(0,⟨[3], [], [],0, [], [], [], []⟩)],fid:=88}
theorem afJ:aF Tryz.prog QN:=bg Y4 XD trivial
theorem aqV {R:Type}:aQ Tryz.prog (R:=R) 0 O_:=aC _ _
theorem au8 {R:Type}:bL (R:=R) (hnd 0 O_) QN aag (sub [1,1,0,1,0,0] NJ) (HS.V Eu) (HS.st Eu) (HS.sh Eu) Ln (bQ Eu Ln):=aX Eu Ln (fun _ _=>rfl) (by intro q v K;kernel_rfl)
theorem af7 {R:Type}:aK (R:=R) (hnd 0 O_) QN aag NJ:=aB (l:=[sub [1,1,0,1,0,0] NJ]) (by kernel_rfl) (aM (b:=sub [1,1,0,1,0,0] NJ) (rid:=3) (by kernel_rfl) (by kernel_rfl) au8 (trivial))
theorem aef:aN Tryz.prog 88 Zc:=bu Tryz.f88 afJ aaU (d:=0) aqV af7 (bC (by kernel_rfl)) (toY:=arq)
def aap:List HV:=[.agg hFs, .one (.int .i64), .one (.int .i64)]
def SY:List HV:=[.one (.bool)]
def aiQ:HP.V aap→Fs×Int×Int:=fun v=>((cFs v.1),v.2.1,v.2.2.1)
def ahj:HX.V SY→Bool:=fun v=>(v)
def ap4:Bool→HX.V SY:=fun y=>(y)
def abL:(Fs×Int×Int)→Option (Bool):=fun x=>eu x.1 x.2.1 x.2.2
def G1:Spec:=aO aap SY aiQ ap4 abL
def asW:Cfg:={T:=TO,spec:=[(88,Zc)],ba:=aE.G Tryz.prog,eqs:=Sx,N:=22,fuel:=64,fid:=50}
theorem aiY:aF Tryz.prog asW:=bg Y4 XD ⟨aef,trivial⟩
theorem Jk:aN Tryz.prog 50 G1:=br Tryz.f50 aiY aaU (toY:=ahj)
end
end Go.Eng
namespace Go.Eng
noncomputable section
open Go Go.Proofs
def CK:List (Nat×TI):=[(3,⟨false,1, .one (.int .i64 0), .int .i64⟩),(9,⟨false,1, .one (.str []), .str⟩),(22,⟨false,1, .one (.clip .aS []), .slice .aS 55⟩),(24,⟨true,4, .agg [.int .i64 0, .int .i64 0, .int .i64 0, .clip .aS []], .struct [(0,3),(1,3),(2,3),(3,22)]⟩),(53,⟨false,1, .one (.clip .entry []), .slice .entry 85⟩),(55,⟨true,6, .agg [.int .i64 0, .int .i64 0, .int .i64 0, .str [], .int .i64 0, .clip .entry []], .struct [(0,3),(1,3),(2,3),(3,9),(4,3),(5,53)]⟩),(85,⟨true,2, .agg [.str [], .int .i64 0], .struct [(0,9),(1,3)]⟩),(113,⟨false,1, .one (.clip .int []), .slice .int 3⟩)]
def Ch:List (Nat×List EK):= []
theorem D0:Tryz.prog.follows .mixedOrders=true:=by kernel_rfl
theorem Fo:(CK.all fun x=>tiB Tryz.prog x.1 x.2)=true:=by kernel_rfl
theorem FN:(Ch.all fun x=>eqB Tryz.prog x.1 x.2)=true:=by kernel_rfl
def Lc:Code:=bd Tryz.f45
def EI:Code:=bd Tryz.f46
def Ep:Code:=bd Tryz.f47
def Lk:Code:=bd Tryz.f48
def zn:Code:=bd Tryz.f49
def FE:Code:=bd Tryz.f87
def DC:HS:=⟨[(1, .one (.ptr 0 0)),(3, .one (.int .i64))],[(0, .cells hFs)],1⟩
def NX {R:Type}:Nat→HS.V DC→(Ex→St→Option R)→Option R:=fun q v K=>
 fU (cFs v.2.1) (K .ret {az:=[(2, .v (.one (.bool false)))],mem:= [],nx:=0}) (K (.exit 0) {az:=[(1, .v (.one (.ptr 0 0)))],mem:=[(0, .cells (rFs (cFs v.2.1)))],nx:=1}) q v.1.2.1
def aaI:List HV:=[.agg hFs]
def RY:List HV:=[.one (.bool)]
def acB:HP.V aaI→Fs:=fun v=>((cFs v.1))
def ad_:HX.V RY→Bool:=fun v=>(v)
def anC:Bool→HX.V RY:=fun y=>(y)
def acR:Fs→Option (Bool):=fun x=>nc x
def UU:Spec:=aO aaI RY acB anC acR
def VH {R:Type}:List (Nat×Hd R):=[(4,bQ DC NX)]
def Tf {R:Type}:List (Nat×Inl R):= []
def RI:Cfg:={T:=CK,spec:=[(41,SQ),(44,qp)],ba:=aE.G Tryz.prog,eqs:=Ch,N:=69,fuel:=64,loops:=[(4,⟨[1,3], [],[0],1, [], [], [], []⟩)],blocks:=[(0,⟨[1], [],[0],1, [], [], [], []⟩)],gS:=some ⟨[2], [], [],0, [], [], [], []⟩,fid:=45}
theorem av1:aF Tryz.prog RI:=bg Fo FN ⟨YJ,⟨q_,trivial⟩⟩
theorem auX {R:Type}:aQ Tryz.prog (R:=R) 0 Tf:=aC _ _
theorem afW {R:Type}:bL (R:=R) (hnd 0 Tf) RI VH (sub [1,1,0,1,0,0] Lc) (HS.V DC) (HS.st DC) (HS.sh DC) NX (bQ DC NX):=aX DC NX (fun _ _=>rfl) (by intro q v K;kernel_rfl)
theorem aqY {R:Type}:aK (R:=R) (hnd 0 Tf) RI VH Lc:=aB (l:=[sub [1,1,0,1,0,0] Lc]) (by kernel_rfl) (aM (b:=sub [1,1,0,1,0,0] Lc) (rid:=4) (by kernel_rfl) (by kernel_rfl) afW (trivial))
theorem ard:aN Tryz.prog 45 UU:=bu Tryz.f45 av1 D0 (d:=0) auX aqY (bC (by kernel_rfl)) (toY:=ad_)
def FW:HS:=⟨[(1, .one (.ptr 0 0)),(3, .one (.int .i64)),(4, .one (.ptr 1 0)),(5, .one (.int .i64))],[(0, .cells hFs),(1, .cells hIn)],2⟩
def Lf {R:Type}:Nat→HS.V FW→(Ex→St→Option R)→Option R:=fun q v K=>
 aU (cIn v.2.2.1) (K .ret {az:=[(2, .v (.one (.bool false)))],mem:= [],nx:=0}) (K (.exit 2) {az:=[(1, .v (.one (.ptr 0 0))),(3, .v (.one (.int .i64 v.1.2.1)))],mem:=[(0, .cells (rFs (cFs v.2.1)))],nx:=1}) q v.1.2.2.2.1
def DN:HS:=⟨[(1, .one (.ptr 0 0)),(3, .one (.int .i64))],[(0, .cells hFs)],1⟩
def L6 {R:Type}:Nat→HS.V DN→(Ex→St→Option R)→Option R:=fun q v K=>
 bl (cFs v.2.1) (K .ret {az:=[(2, .v (.one (.bool false)))],mem:= [],nx:=0}) (K (.exit 0) {az:= [],mem:= [],nx:=0}) q v.1.2.1
def XG:List HV:=[.agg hFs]
def SI:List HV:=[.one (.bool)]
def aqa:HP.V XG→Fs:=fun v=>((cFs v.1))
def ait:HX.V SI→Bool:=fun v=>(v)
def amQ:Bool→HX.V SI:=fun y=>(y)
def avl:Fs→Option (Bool):=fun x=>lQ x
def Vi:Spec:=aO XG SI aqa amQ avl
def O8 {R:Type}:List (Nat×Hd R):=[(2,bQ DN L6),(14,bQ FW Lf)]
def N_ {R:Type}:List (Nat×Inl R):= []
def MI:Cfg:={T:=CK,spec:=[(86,Xf)],ba:=aE.G Tryz.prog,eqs:=Ch,N:=91,fuel:=64,loops:=[(14,⟨[1,3,4,5], [],[0,1],2, [], [], [], []⟩),(2,⟨[1,3], [],[0],1, [], [], [], []⟩)],blocks:=[(0,⟨[], [], [],0, [], [], [], []⟩),(1,⟨[1,3], [],[0],1, [], [], [], []⟩),(2,⟨[1,3], [],[0],1, [], [], [], []⟩)],gS:=some ⟨[2], [], [],0, [], [], [], []⟩,fid:=46}
theorem adX:aF Tryz.prog MI:=bg Fo FN ⟨ajP,trivial⟩
theorem aqN {R:Type}:aQ Tryz.prog (R:=R) 0 N_:=aC _ _
theorem ana {R:Type}:bL (R:=R) (hnd 0 N_) MI O8 (sub [1,0,1,0,0] EI) (HS.V DN) (HS.st DN) (HS.sh DN) L6 (bQ DN L6):=aX DN L6 (fun _ _=>rfl) (by intro q v K;kernel_rfl)
theorem arV {R:Type}:bL (R:=R) (hnd 0 N_) MI O8 (sub [1,0,1,0,0,1,0,0,1,1,1,1,1,1,0,0] EI) (HS.V FW) (HS.st FW) (HS.sh FW) Lf (bQ FW Lf):=aX FW Lf (fun _ _=>rfl) (by intro q v K;kernel_rfl)
theorem aiH {R:Type}:aK (R:=R) (hnd 0 N_) MI O8 EI:=aB (l:=[sub [1,0,1,0,0] EI,sub [1,0,1,0,0,1,0,0,1,1,1,1,1,1,0,0] EI]) (by kernel_rfl) (aM (b:=sub [1,0,1,0,0] EI) (rid:=2) (by kernel_rfl) (by kernel_rfl) ana (aM (b:=sub [1,0,1,0,0,1,0,0,1,1,1,1,1,1,0,0] EI) (rid:=14) (by kernel_rfl) (by kernel_rfl) arV (trivial)))
theorem alB:aN Tryz.prog 46 Vi:=bu Tryz.f46 adX D0 (d:=0) aqN aiH (bC (by kernel_rfl)) (toY:=ait)
def EN:HS:=⟨[(1, .one (.ptr 0 0)),(3, .one (.int .i64)),(4, .one (.int .i64))],[(0, .cells hFs)],1⟩
def Mp {R:Type}:Nat→HS.V EN→(Ex→St→Option R)→Option R:=fun q v K=>
 eY v.1.2.1 (cFs v.2.1) (K .ret {az:=[(2, .v (.one (.bool false)))],mem:= [],nx:=0}) (K (.exit 2) {az:=[(1, .v (.one (.ptr 0 0))),(3, .v (.one (.int .i64 v.1.2.1)))],mem:=[(0, .cells (rFs (cFs v.2.1)))],nx:=1}) q v.1.2.2.1
def EC:HS:=⟨[(1, .one (.ptr 0 0)),(3, .one (.int .i64))],[(0, .cells hFs)],1⟩
def Mu {R:Type}:Nat→HS.V EC→(Ex→St→Option R)→Option R:=fun q v K=>
 fQ (cFs v.2.1) (K .ret {az:=[(2, .v (.one (.bool false)))],mem:= [],nx:=0}) (K (.exit 0) {az:= [],mem:= [],nx:=0}) q v.1.2.1
def Ws:List HV:=[.agg hFs]
def Sp:List HV:=[.one (.bool)]
def agq:HP.V Ws→Fs:=fun v=>((cFs v.1))
def apX:HX.V Sp→Bool:=fun v=>(v)
def aeq:Bool→HX.V Sp:=fun y=>(y)
def agi:Fs→Option (Bool):=fun x=>nb x
def Xm:Spec:=aO Ws Sp agq aeq agi
def Rw {R:Type}:List (Nat×Hd R):=[(2,bQ EC Mu),(5,bQ EN Mp)]
def KE {R:Type}:List (Nat×Inl R):= []
def K6:Cfg:={T:=CK,spec:=[(44,qp)],ba:=aE.G Tryz.prog,eqs:=Ch,N:=42,fuel:=64,loops:=[(5,⟨[1,3,4], [],[0],1, [], [], [], []⟩),(2,⟨[1,3], [],[0],1, [], [], [], []⟩)],blocks:=[(0,⟨[], [], [],0, [], [], [], []⟩),(1,⟨[1,3], [],[0],1, [], [], [], []⟩),(2,⟨[1,3], [],[0],1, [], [], [], []⟩)],gS:=some ⟨[2], [], [],0, [], [], [], []⟩,fid:=47}
theorem ajR:aF Tryz.prog K6:=bg Fo FN ⟨q_,trivial⟩
theorem aqT {R:Type}:aQ Tryz.prog (R:=R) 0 KE:=aC _ _
theorem av0 {R:Type}:bL (R:=R) (hnd 0 KE) K6 Rw (sub [1,0,1,0,0] Ep) (HS.V EC) (HS.st EC) (HS.sh EC) Mu (bQ EC Mu):=aX EC Mu (fun _ _=>rfl) (by intro q v K;kernel_rfl)
theorem anV {R:Type}:bL (R:=R) (hnd 0 KE) K6 Rw (sub [1,0,1,0,0,1,0,0,1,0,0] Ep) (HS.V EN) (HS.st EN) (HS.sh EN) Mp (bQ EN Mp):=aX EN Mp (fun _ _=>rfl) (by intro q v K;kernel_rfl)
theorem amN {R:Type}:aK (R:=R) (hnd 0 KE) K6 Rw Ep:=aB (l:=[sub [1,0,1,0,0] Ep,sub [1,0,1,0,0,1,0,0,1,0,0] Ep]) (by kernel_rfl) (aM (b:=sub [1,0,1,0,0] Ep) (rid:=2) (by kernel_rfl) (by kernel_rfl) av0 (aM (b:=sub [1,0,1,0,0,1,0,0,1,0,0] Ep) (rid:=5) (by kernel_rfl) (by kernel_rfl) anV (trivial)))
theorem apR:aN Tryz.prog 47 Xm:=bu Tryz.f47 ajR D0 (d:=0) aqT amN (bC (by kernel_rfl)) (toY:=apX)
def F2:HS:=⟨[(1, .one (.int .i64)),(2, .one (.ptr 0 0)),(6, .one (.int .i64)),(7, .one (.int .i64)),(8, .one (.int .i64)),(9, .one (.int .i64))],[(0, .cells hFs)],1⟩
def Nj {R:Type}:Nat→HS.V F2→(Ex→St→Option R)→Option R:=fun q v K=>
 ei v.1.1 v.1.2.2.2.2.1 (cFs v.2.1) (fun y17 y18=>K (.exit 2) {az:=[(1, .v (.one (.int .i64 v.1.1))),(2, .v (.one (.ptr 0 0))),(6, .v (.one (.int .i64 y17))),(7, .v (.one (.int .i64 y18))),(8, .v (.one (.int .i64 v.1.2.2.2.2.1)))],mem:=[(0, .cells (rFs (cFs v.2.1)))],nx:=1}) q v.1.2.2.1 v.1.2.2.2.1 v.1.2.2.2.2.2.1
def Ea:HS:=⟨[(1, .one (.int .i64)),(2, .one (.ptr 0 0)),(6, .one (.int .i64)),(7, .one (.int .i64)),(8, .one (.int .i64))],[(0, .cells hFs)],1⟩
def M7 {R:Type}:Nat→HS.V Ea→(Ex→St→Option R)→Option R:=fun q v K=>
 fS v.1.1 (cFs v.2.1) (fun y23 y24=>K (.exit 0) {az:=[(6, .v (.one (.int .i64 y23))),(7, .v (.one (.int .i64 y24)))],mem:= [],nx:=0}) q v.1.2.2.1 v.1.2.2.2.1 v.1.2.2.2.2.1
def X_:List HV:=[.agg hFs, .one (.int .i64)]
def OL:List HV:=[.one (.int .i64), .one (.int .i64)]
def awb:HP.V X_→Fs×Int:=fun v=>((cFs v.1),v.2.1)
def alW:HX.V OL→Int×Int:=fun v=>(v.1,v.2)
def ams:(Int×Int)→HX.V OL:=fun y=>(y.1,y.2)
def aoC:(Fs×Int)→Option (Int×Int):=fun x=>mK x.1 x.2
def WU:Spec:=aO X_ OL awb ams aoC
def Sl {R:Type}:List (Nat×Hd R):=[(4,bQ Ea M7),(7,bQ F2 Nj)]
def KG {R:Type}:List (Nat×Inl R):= []
def Ns:Cfg:={T:=CK,ba:=aE.G Tryz.prog,eqs:=Ch,N:=50,fuel:=64,loops:=[(7,⟨[1,2,6,7,8,9], [],[0],1, [], [], [], []⟩),(4,⟨[1,2,6,7,8], [],[0],1, [], [], [], []⟩)],blocks:=[(0,⟨[6,7], [], [],0, [], [], [], []⟩),(1,⟨[1,2,6,7,8], [],[0],1, [], [], [], []⟩),(2,⟨[1,2,6,7,8], [],[0],1, [], [], [], []⟩)],fid:=87}
theorem at5:aF Tryz.prog Ns:=bg Fo FN trivial
theorem aoj {R:Type}:aQ Tryz.prog (R:=R) 0 KG:=aC _ _
theorem abx {R:Type}:bL (R:=R) (hnd 0 KG) Ns Sl (sub [1,1,1,0,1,0,0] FE) (HS.V Ea) (HS.st Ea) (HS.sh Ea) M7 (bQ Ea M7):=aX Ea M7 (fun _ _=>rfl) (by intro q v K;kernel_rfl)
theorem asT {R:Type}:bL (R:=R) (hnd 0 KG) Ns Sl (sub [1,1,1,0,1,0,0,1,0,0,1,0,0] FE) (HS.V F2) (HS.st F2) (HS.sh F2) Nj (bQ F2 Nj):=aX F2 Nj (fun _ _=>rfl) (by intro q v K;kernel_rfl)
theorem af6 {R:Type}:aK (R:=R) (hnd 0 KG) Ns Sl FE:=aB (l:=[sub [1,1,1,0,1,0,0] FE,sub [1,1,1,0,1,0,0,1,0,0,1,0,0] FE]) (by kernel_rfl) (aM (b:=sub [1,1,1,0,1,0,0] FE) (rid:=4) (by kernel_rfl) (by kernel_rfl) abx (aM (b:=sub [1,1,1,0,1,0,0,1,0,0,1,0,0] FE) (rid:=7) (by kernel_rfl) (by kernel_rfl) asT (trivial)))
theorem aiy:aN Tryz.prog 87 WU:=bu Tryz.f87 at5 D0 (d:=0) aoj af6 (bC (by kernel_rfl)) (toY:=alW)
def EX:HS:=⟨[(1, .one (.ptr 0 0)),(3, .one (.int .i64))],[(0, .cells hFs)],1⟩
def Nx {R:Type}:Nat→HS.V EX→(Ex→St→Option R)→Option R:=fun q v K=>
 dJ (cFs v.2.1) (K .ret {az:=[(2, .v (.one (.bool false)))],mem:= [],nx:=0}) (K (.exit 0) {az:= [],mem:= [],nx:=0}) q v.1.2.1
def XE:List HV:=[.agg hFs]
def QP:List HV:=[.one (.bool)]
def ave:HP.V XE→Fs:=fun v=>((cFs v.1))
def aua:HX.V QP→Bool:=fun v=>(v)
def av4:Bool→HX.V QP:=fun y=>(y)
def aen:Fs→Option (Bool):=fun x=>lK x
def Wm:Spec:=aO XE QP ave av4 aen
def Xq {R:Type}:List (Nat×Hd R):=[(2,bQ EX Nx)]
def Uo {R:Type}:List (Nat×Inl R):= []
def Pv:Cfg:={T:=CK,spec:=[(87,WU)],ba:=aE.G Tryz.prog,eqs:=Ch,N:=57,fuel:=64,loops:=[(2,⟨[1,3], [],[0],1, [], [], [], []⟩)],blocks:=[(0,⟨[], [], [],0, [], [], [], []⟩)],gS:=some ⟨[2], [], [],0, [], [], [], []⟩,fid:=48}
theorem aeN:aF Tryz.prog Pv:=bg Fo FN ⟨aiy,trivial⟩
theorem afi {R:Type}:aQ Tryz.prog (R:=R) 0 Uo:=aC _ _
theorem aki {R:Type}:bL (R:=R) (hnd 0 Uo) Pv Xq (sub [1,0,1,0,0] Lk) (HS.V EX) (HS.st EX) (HS.sh EX) Nx (bQ EX Nx):=aX EX Nx (fun _ _=>rfl) (by intro q v K;kernel_rfl)
theorem ajz {R:Type}:aK (R:=R) (hnd 0 Uo) Pv Xq Lk:=aB (l:=[sub [1,0,1,0,0] Lk]) (by kernel_rfl) (aM (b:=sub [1,0,1,0,0] Lk) (rid:=2) (by kernel_rfl) (by kernel_rfl) aki (trivial))
theorem apU:aN Tryz.prog 48 Wm:=bu Tryz.f48 aeN D0 (d:=0) afi ajz (bC (by kernel_rfl)) (toY:=aua)
def Er:HS:=⟨[(1, .one (.ptr 0 0)),(3, .one (.own 1)),(4, .one (.int .i64)),(5, .one (.ptr 2 0)),(7, .one (.int .i64)),(8, .one (.bool)),(9, .one (.int .i64))],[(0, .cells hFs),(1, .row .int),(2, .cells hIn)],3⟩
def K5 {R:Type}:Nat→HS.V Er→(Ex→St→Option R)→Option R:=fun q v K=>
 dH v.1.2.2.2.2.1 v.2.2.1 (cIn v.2.2.2.1) (fun y22=>K (.exit 4) {az:=[(1, .v (.one (.ptr 0 0))),(3, .v (.one (.own 1))),(4, .v (.one (.int .i64 v.1.2.2.1))),(5, .v (.one (.ptr 2 0))),(7, .v (.one (.int .i64 v.1.2.2.2.2.1))),(8, .v (.one (.bool y22)))],mem:=[(0, .cells (rFs (cFs v.2.1))),(1, .row .int v.2.2.1),(2, .cells (rIn (cIn v.2.2.2.1)))],nx:=3}) q v.1.2.2.2.2.2.1 v.1.2.2.2.2.2.2.1
def Fm:HS:=⟨[(1, .one (.ptr 0 0)),(3, .one (.own 1)),(4, .one (.int .i64)),(5, .one (.ptr 2 0)),(7, .one (.int .i64))],[(0, .cells hFs),(1, .row .int),(2, .cells hIn)],3⟩
def N4 {R:Type}:Nat→HS.V Fm→(Ex→St→Option R)→Option R:=fun q v K=>
 ef (cIn v.2.2.2.1) (fun y30=>K (.exit 2) {az:=[(1, .v (.one (.ptr 0 0))),(3, .v (.one (.own 1))),(4, .v (.one (.int .i64 v.1.2.2.1)))],mem:=[(0, .cells (rFs (cFs v.2.1))),(1, .row .int y30)],nx:=2}) q v.1.2.2.2.2.1 v.2.2.1
def FZ:HS:=⟨[(1, .one (.ptr 0 0)),(3, .one (.own 1)),(4, .one (.int .i64))],[(0, .cells hFs),(1, .row .int)],2⟩
def Mi {R:Type}:Nat→HS.V FZ→(Ex→St→Option R)→Option R:=fun q v K=>
 hC (cFs v.2.1) (fun y33=>K (.exit 0) {az:=[(1, .v (.one (.ptr 0 0))),(3, .v (.one (.own 1)))],mem:=[(0, .cells (rFs (cFs v.2.1))),(1, .row .int y33)],nx:=2}) q v.1.2.2.1 v.2.2.1
def XX:List HV:=[.agg hFs]
def R_:List HV:=[.one (.bool)]
def akr:HP.V XX→Fs:=fun v=>((cFs v.1))
def anm:HX.V R_→Bool:=fun v=>(v)
def atb:Bool→HX.V R_:=fun y=>(y)
def anW:Fs→Option (Bool):=fun x=>mX x
def aa3:Spec:=aO XX R_ akr atb anW
def Mr {R:Type}:List (Nat×Hd R):=[(3,bQ FZ Mi),(7,bQ Fm N4),(11,bQ Er K5)]
def Jm {R:Type}:List (Nat×Inl R):= []
def JP:Cfg:={T:=CK,spec:=[(44,qp)],ba:=aE.G Tryz.prog,eqs:=Ch,N:=70,fuel:=64,loops:=[(11,⟨[1,3,4,5,7,8,9], [],[0,1,2],3, [], [], [], []⟩),(7,⟨[1,3,4,5,7], [],[0,1,2],3, [], [], [], []⟩),(3,⟨[1,3,4], [],[0,1],2, [], [], [], []⟩)],blocks:=[(0,⟨[1,3], [],[0,1],2, [], [], [], []⟩),(1,⟨[1,3,4], [],[0,1],2, [], [], [], []⟩),(2,⟨[1,3,4], [],[0,1],2, [], [], [], []⟩),(3,⟨[1,3,4,5,7], [],[0,1,2],3, [], [], [], []⟩),(4,⟨[1,3,4,5,7,8], [],[0,1,2],3, [], [], [], []⟩)],fid:=49}
theorem arS:aF Tryz.prog JP:=bg Fo FN ⟨q_,trivial⟩
theorem alk {R:Type}:aQ Tryz.prog (R:=R) 0 Jm:=aC _ _
theorem arR {R:Type}:bL (R:=R) (hnd 0 Jm) JP Mr (sub [1,1,0,1,0,0] zn) (HS.V FZ) (HS.st FZ) (HS.sh FZ) Mi (bQ FZ Mi):=aX FZ Mi (fun _ _=>rfl) (by intro q v K;kernel_rfl)
theorem agy {R:Type}:bL (R:=R) (hnd 0 Jm) JP Mr (sub [1,1,0,1,0,0,1,0,0,1,1,0,0] zn) (HS.V Fm) (HS.st Fm) (HS.sh Fm) N4 (bQ Fm N4):=aX Fm N4 (fun _ _=>rfl) (by intro q v K;kernel_rfl)
theorem alT {R:Type}:bL (R:=R) (hnd 0 Jm) JP Mr (sub [1,1,0,1,0,0,1,0,0,1,1,0,0,1,0,0,1,0,1,0,0] zn) (HS.V Er) (HS.st Er) (HS.sh Er) K5 (bQ Er K5):=aX Er K5 (fun _ _=>rfl) (by intro q v K;kernel_rfl)
theorem afv {R:Type}:aK (R:=R) (hnd 0 Jm) JP Mr zn:=aB (l:=[sub [1,1,0,1,0,0] zn,sub [1,1,0,1,0,0,1,0,0,1,1,0,0] zn,sub [1,1,0,1,0,0,1,0,0,1,1,0,0,1,0,0,1,0,1,0,0] zn]) (by kernel_rfl) (aM (b:=sub [1,1,0,1,0,0] zn) (rid:=3) (by kernel_rfl) (by kernel_rfl) arR (aM (b:=sub [1,1,0,1,0,0,1,0,0,1,1,0,0] zn) (rid:=7) (by kernel_rfl) (by kernel_rfl) agy (aM (b:=sub [1,1,0,1,0,0,1,0,0,1,1,0,0,1,0,0,1,0,1,0,0] zn) (rid:=11) (by kernel_rfl) (by kernel_rfl) alT (trivial))))
theorem alq:aN Tryz.prog 49 aa3:=bu Tryz.f49 arS D0 (d:=0) alk afv (bC (by kernel_rfl)) (toY:=anm)
def aaa:List HV:=[.agg hFs]
def Ph:List HV:=[.one (.int .i64)]
def amu:HP.V aaa→Fs:=fun v=>((cFs v.1))
def an3:HX.V Ph→Int:=fun v=>(v)
def atr:Int→HX.V Ph:=fun y=>(y)
def atQ:Fs→Option (Int):=fun x=>gW x
def TT:Spec:=aO aaa Ph amu atr atQ
def aqQ:Cfg:={T:=CK,spec:=[(45,UU),(46,Vi),(47,Xm),(48,Wm),(49,aa3),(50,G1)],ba:=aE.G Tryz.prog,eqs:=Ch,N:=21,fuel:=64,fid:=19}
theorem ark:aF Tryz.prog aqQ:=bg Fo FN ⟨ard,⟨alB,⟨apR,⟨apU,⟨alq,⟨Jk,trivial⟩⟩⟩⟩⟩⟩
theorem Wx:aN Tryz.prog 19 TT:=br Tryz.f19 ark D0 (toY:=an3)
end
end Go.Eng
namespace Go.Eng
noncomputable section
open Go Go.Proofs
def E2:List (Nat×TI):=[(3,⟨false,1, .one (.int .i64 0), .int .i64⟩),(9,⟨false,1, .one (.str []), .str⟩),(31,⟨true,5, .agg [.int .i64 0, .int .i64 0, .str [], .str [], .str []], .struct [(0,3),(1,3),(2,9),(3,9),(4,9)]⟩),(34,⟨false,1, .one (.clip .opn []), .slice .opn 31⟩),(106,⟨false,1, .one (.clip .str []), .slice .str 9⟩)]
def E4:List (Nat×List EK):= []
theorem HJ:Tryz.prog.follows .mixedOrders=true:=by kernel_rfl
theorem GY:(E2.all fun x=>tiB Tryz.prog x.1 x.2)=true:=by kernel_rfl
theorem HF:(E4.all fun x=>eqB Tryz.prog x.1 x.2)=true:=by kernel_rfl
def L0:Code:=bd Tryz.f13
def Mb:Code:=bd Tryz.f17
def N5:Code:=bd Tryz.f39
def DB:HS:=⟨[(0, .one (.sl .opn)),(3, .one (.int .i64))], [],0⟩
def KV {R:Type}:Nat→HS.V DB→(Ex→St→Option R)→Option R:=fun q v K=>
 iE v.1.1 (K .ret {az:=[(2, .v (.one (.bool false)))],mem:= [],nx:=0}) (K (.exit 0) {az:=[(0, .v (.one (.sl .opn v.1.1)))],mem:= [],nx:=0}) q v.1.2.1
def V0:List HV:=[.one (.sl .opn)]
def PX:List HV:=[.one (.bool)]
def aqG:HP.V V0→(List Opn):=fun v=>(v.1)
def akJ:HX.V PX→Bool:=fun v=>(v)
def avW:Bool→HX.V PX:=fun y=>(y)
def anz:(List Opn)→Option (Bool):=fun x=>nU x
def SZ:Spec:=aO V0 PX aqG avW anz
def Wu {R:Type}:List (Nat×Hd R):=[(2,bQ DB KV)]
def Q3 {R:Type}:List (Nat×Inl R):= []
def SS:Cfg:={T:=E2,ba:=aE.G Tryz.prog,eqs:=E4,N:=42,fuel:=64,loops:=[(2,⟨[0,3], [], [],0, [], [], [], []⟩)],blocks:=[(0,⟨[0], [], [],0, [], [], [], []⟩)],gS:=some ⟨[2], [], [],0, [], [], [], []⟩,fid:=13}
theorem atk:aF Tryz.prog SS:=bg GY HF trivial
theorem als {R:Type}:aQ Tryz.prog (R:=R) 0 Q3:=aC _ _
theorem adu {R:Type}:bL (R:=R) (hnd 0 Q3) SS Wu (sub [1,0,1,0,0] L0) (HS.V DB) (HS.st DB) (HS.sh DB) KV (bQ DB KV):=aX DB KV (fun _ _=>rfl) (by intro q v K;kernel_rfl)
theorem alD {R:Type}:aK (R:=R) (hnd 0 Q3) SS Wu L0:=aB (l:=[sub [1,0,1,0,0] L0]) (by kernel_rfl) (aM (b:=sub [1,0,1,0,0] L0) (rid:=2) (by kernel_rfl) (by kernel_rfl) adu (trivial))
theorem Zj:aN Tryz.prog 13 SZ:=bu Tryz.f13 atk HJ (d:=0) als alD (bC (by kernel_rfl)) (toY:=akJ)
def Zu:List HV:=[.one (.str)]
def Ql:List HV:=[.one (.bool)]
def afn:HP.V Zu→Str:=fun v=>(v.1)
def aeA:HX.V Ql→Bool:=fun v=>(v)
def anK:Bool→HX.V Ql:=fun y=>(y)
def acN:Str→Option (Bool):=fun x=>dv x
def WC:Spec:=aO Zu Ql afn anK acN
def aiS:Cfg:={T:=E2,spec:=[(84,TR)],ba:=aE.G Tryz.prog,eqs:=E4,N:=16,fuel:=64,fid:=37}
theorem ahy:aF Tryz.prog aiS:=bg GY HF ⟨VN,trivial⟩
theorem avS:aN Tryz.prog 37 WC:=br Tryz.f37 ahy HJ (toY:=aeA)
def Z2:List HV:=[.one (.int .i64)]
def Rm:List HV:=[.one (.bool)]
def aex:HP.V Z2→Int:=fun v=>(v.1)
def aj8:HX.V Rm→Bool:=fun v=>(v)
def asJ:Bool→HX.V Rm:=fun y=>(y)
def aqB:Int→Option (Bool):=fun x=>iT x
def QF:Spec:=aO Z2 Rm aex asJ aqB
def ahB:Cfg:={T:=E2,ba:=aE.G Tryz.prog,eqs:=E4,N:=17,fuel:=64,fid:=38}
theorem aiV:aF Tryz.prog ahB:=bg GY HF trivial
theorem Xe:aN Tryz.prog 38 QF:=br Tryz.f38 aiV HJ (toY:=aj8)
def Ed:HS:=⟨[(0, .one (.str)),(3, .one (.int .i64))], [],0⟩
def LG {R:Type}:Nat→HS.V Ed→(Ex→St→Option R)→Option R:=fun q v K=>
 fj v.1.1 (K .ret {az:=[(2, .v (.one (.bool false)))],mem:= [],nx:=0}) (K (.exit 0) {az:=[(0, .v (.one (.str v.1.1)))],mem:= [],nx:=0}) q v.1.2.1
def Xz:List HV:=[.one (.str)]
def S7:List HV:=[.one (.bool)]
def anI:HP.V Xz→Str:=fun v=>(v.1)
def aiU:HX.V S7→Bool:=fun v=>(v)
def ap8:Bool→HX.V S7:=fun y=>(y)
def aiJ:Str→Option (Bool):=fun x=>cP x
def UM:Spec:=aO Xz S7 anI ap8 aiJ
def aaF {R:Type}:List (Nat×Hd R):=[(2,bQ Ed LG)]
def Pl {R:Type}:List (Nat×Inl R):= []
def PQ:Cfg:={T:=E2,ba:=aE.G Tryz.prog,eqs:=E4,N:=22,fuel:=64,loops:=[(2,⟨[0,3], [], [],0, [], [], [], []⟩)],blocks:=[(0,⟨[0], [], [],0, [], [], [], []⟩)],gS:=some ⟨[2], [], [],0, [], [], [], []⟩,fid:=39}
theorem aeC:aF Tryz.prog PQ:=bg GY HF trivial
theorem aeT {R:Type}:aQ Tryz.prog (R:=R) 0 Pl:=aC _ _
theorem asF {R:Type}:bL (R:=R) (hnd 0 Pl) PQ aaF (sub [1,0,1,0,0] N5) (HS.V Ed) (HS.st Ed) (HS.sh Ed) LG (bQ Ed LG):=aX Ed LG (fun _ _=>rfl) (by intro q v K;kernel_rfl)
theorem aiG {R:Type}:aK (R:=R) (hnd 0 Pl) PQ aaF N5:=aB (l:=[sub [1,0,1,0,0] N5]) (by kernel_rfl) (aM (b:=sub [1,0,1,0,0] N5) (rid:=2) (by kernel_rfl) (by kernel_rfl) asF (trivial))
theorem anJ:aN Tryz.prog 39 UM:=bu Tryz.f39 aeC HJ (d:=0) aeT aiG (bC (by kernel_rfl)) (toY:=aiU)
def X9:List HV:=[.agg [.int .i64, .int .i64, .str, .str, .str]]
def Sn:List HV:=[.one (.bool)]
def agR:HP.V X9→Opn:=fun v=>((⟨v.1.1,v.1.2.1,v.1.2.2.1,v.1.2.2.2.1,v.1.2.2.2.2.1⟩:Opn))
def air:HX.V Sn→Bool:=fun v=>(v)
def adG:Bool→HX.V Sn:=fun y=>(y)
def ahO:Opn→Option (Bool):=fun x=>jh x
def Na:Spec:=aO X9 Sn agR adG ahO
def adM:Cfg:={T:=E2,spec:=[(37,WC),(38,QF),(39,UM),(40,Vs)],ba:=aE.G Tryz.prog,eqs:=E4,N:=85,fuel:=64,fid:=16}
theorem adA:aF Tryz.prog adM:=bg GY HF ⟨avS,⟨Xe,⟨anJ,⟨am0,trivial⟩⟩⟩⟩
theorem S6:aN Tryz.prog 16 Na:=br Tryz.f16 adA HJ (toY:=air)
def EP:HS:=⟨[(0, .one (.sl .opn)),(3, .one (.int .i64)),(4, .one (.int .i64))], [],0⟩
def Nq {R:Type}:Nat→HS.V EP→(Ex→St→Option R)→Option R:=fun q v K=>
 fG v.1.1 (K .ret {az:=[(2, .v (.one (.bool false)))],mem:= [],nx:=0}) (K (.exit 0) {az:= [],mem:= [],nx:=0}) q v.1.2.1 v.1.2.2.1
def Zn:List HV:=[.one (.sl .opn)]
def Qy:List HV:=[.one (.bool)]
def ato:HP.V Zn→(List Opn):=fun v=>(v.1)
def ate:HX.V Qy→Bool:=fun v=>(v)
def ahN:Bool→HX.V Qy:=fun y=>(y)
def apa:(List Opn)→Option (Bool):=fun x=>oL x
def Yr:Spec:=aO Zn Qy ato ahN apa
def Y7 {R:Type}:List (Nat×Hd R):=[(3,bQ EP Nq)]
def Pp {R:Type}:List (Nat×Inl R):= []
def RZ:Cfg:={T:=E2,spec:=[(16,Na),(38,QF)],ba:=aE.G Tryz.prog,eqs:=E4,N:=51,fuel:=64,loops:=[(3,⟨[0,3,4], [], [],0, [], [], [], []⟩)],blocks:=[(0,⟨[], [], [],0, [], [], [], []⟩)],gS:=some ⟨[2], [], [],0, [], [], [], []⟩,fid:=17}
theorem ag3:aF Tryz.prog RZ:=bg GY HF ⟨S6,⟨Xe,trivial⟩⟩
theorem ahK {R:Type}:aQ Tryz.prog (R:=R) 0 Pp:=aC _ _
theorem acp {R:Type}:bL (R:=R) (hnd 0 Pp) RZ Y7 (sub [1,1,0,1,0,0] Mb) (HS.V EP) (HS.st EP) (HS.sh EP) Nq (bQ EP Nq):=aX EP Nq (fun _ _=>rfl) (by intro q v K;kernel_rfl)
theorem aoW {R:Type}:aK (R:=R) (hnd 0 Pp) RZ Y7 Mb:=aB (l:=[sub [1,1,0,1,0,0] Mb]) (by kernel_rfl) (aM (b:=sub [1,1,0,1,0,0] Mb) (rid:=3) (by kernel_rfl) (by kernel_rfl) acp (trivial))
theorem ae2:aN Tryz.prog 17 Yr:=bu Tryz.f17 ag3 HJ (d:=0) ahK aoW (bC (by kernel_rfl)) (toY:=ate)
end
end Go.Eng
namespace Go.Eng
noncomputable section
open Go Go.Proofs
def Qv:List (Nat×TI):=[(3,⟨false,1, .one (.int .i64 0), .int .i64⟩),(9,⟨false,1, .one (.str []), .str⟩),(24,⟨true,4, .agg [.int .i64 0, .int .i64 0, .int .i64 0, .clip .aS []], .struct [(0,3),(1,3),(2,3),(3,22)]⟩),(53,⟨false,1, .one (.clip .entry []), .slice .entry 85⟩),(55,⟨true,6, .agg [.int .i64 0, .int .i64 0, .int .i64 0, .str [], .int .i64 0, .clip .entry []], .struct [(0,3),(1,3),(2,3),(3,9),(4,3),(5,53)]⟩),(59,⟨true,3, .agg [.int .i64 0, .str [], .int .i64 0], .struct [(0,3),(1,9),(2,3)]⟩)]
def SL:List (Nat×List EK):= []
theorem ZY:Tryz.prog.follows .mixedOrders=true:=by kernel_rfl
theorem X7:(Qv.all fun x=>tiB Tryz.prog x.1 x.2)=true:=by kernel_rfl
theorem UQ:(SL.all fun x=>eqB Tryz.prog x.1 x.2)=true:=by kernel_rfl
def abo:List HV:=[.agg hFs, .agg [.int .i64, .str, .int .i64], .one (.int .i64)]
def Tz:List HV:=[.agg hFs]
def atL:HP.V abo→Fs×ar×Int:=fun v=>((cFs v.1),(⟨v.2.1.1,v.2.1.2.1,v.2.1.2.2.1⟩:ar),v.2.2.1)
def auI:HX.V Tz→Fs:=fun v=>((cFs v))
def agS:Fs→HX.V Tz:=fun y=>(uFs y)
def ag7:(Fs×ar×Int)→Option (Fs):=fun x=>dp x.1 x.2.1 x.2.2
def Ps:Spec:=aO abo Tz atL agS ag7
def ag8:Cfg:={T:=Qv,spec:=[(44,qp),(52,zg),(77,LV)],ba:=aE.G Tryz.prog,eqs:=SL,N:=40,fuel:=64,fid:=28}
theorem ald:aF Tryz.prog ag8:=bg X7 UQ ⟨q_,⟨BO,⟨PB,trivial⟩⟩⟩
theorem aay:aN Tryz.prog 28 Ps:=br Tryz.f28 ald ZY (toY:=auI)
def XM:List HV:=[.agg hFs, .agg [.int .i64, .str, .int .i64]]
def Ub:List HV:=[.agg hFs]
def akI:HP.V XM→Fs×ar:=fun v=>((cFs v.1),(⟨v.2.1.1,v.2.1.2.1,v.2.1.2.2.1⟩:ar))
def asr:HX.V Ub→Fs:=fun v=>((cFs v))
def ahX:Fs→HX.V Ub:=fun y=>(uFs y)
def atl:(Fs×ar)→Option (Fs):=fun x=>eF x.1 x.2
def ND:Spec:=aO XM Ub akI ahX atl
def ajW:Cfg:={T:=Qv,spec:=[(44,qp),(52,zg),(78,N3),(80,Lt)],ba:=aE.G Tryz.prog,eqs:=SL,N:=46,fuel:=64,fid:=31}
theorem ajd:aF Tryz.prog ajW:=bg X7 UQ ⟨q_,⟨BO,⟨Ui,⟨PF,trivial⟩⟩⟩⟩
theorem O6:aN Tryz.prog 31 ND:=br Tryz.f31 ajd ZY (toY:=asr)
end
end Go.Eng
namespace Go.Eng
noncomputable section
open Go Go.Proofs
def sC:List (Nat×TI):=[(3,⟨false,1, .one (.int .i64 0), .int .i64⟩),(4,⟨false,1, .one (.bool false), .bool⟩),(9,⟨false,1, .one (.str []), .str⟩),(22,⟨false,1, .one (.clip .aS []), .slice .aS 55⟩),(24,⟨true,4, .agg [.int .i64 0, .int .i64 0, .int .i64 0, .clip .aS []], .struct [(0,3),(1,3),(2,3),(3,22)]⟩),(25,⟨false,1, .one (.clip .kept []), .slice .kept 66⟩),(27,⟨true,2, .agg [.clip .kept [], .clip .aS []], .struct [(0,25),(1,22)]⟩),(29,⟨true,6, .agg [.int .i64 0, .int .i64 0, .int .i64 0, .clip .aS [], .clip .kept [], .clip .aS []], .struct [(0,24),(4,27)]⟩),(53,⟨false,1, .one (.clip .entry []), .slice .entry 85⟩),(55,⟨true,6, .agg [.int .i64 0, .int .i64 0, .int .i64 0, .str [], .int .i64 0, .clip .entry []], .struct [(0,3),(1,3),(2,3),(3,9),(4,3),(5,53)]⟩),(59,⟨true,3, .agg [.int .i64 0, .str [], .int .i64 0], .struct [(0,3),(1,9),(2,3)]⟩),(66,⟨true,4, .agg [.int .i64 0, .int .i64 0, .bool false, .str []], .struct [(0,3),(1,3),(2,4),(3,9)]⟩)]
def s_:List (Nat×List EK):=[(66,[.i, .i, .b, .s])]
theorem uv:Tryz.prog.follows .mixedOrders=true:=by kernel_rfl
theorem uq:(sC.all fun x=>tiB Tryz.prog x.1 x.2)=true:=by kernel_rfl
theorem tM:(s_.all fun x=>eqB Tryz.prog x.1 x.2)=true:=by kernel_rfl
def MR:Code:=bd Tryz.f12
def EV:Code:=bd Tryz.f18
def Mw:Code:=bd Tryz.f33
def DU:Code:=bd Tryz.f43
def KY:Code:=bd Tryz.f53
def KX:Code:=bd Tryz.f79
def M_:Code:=bd Tryz.f82
def FB:HS:=⟨[(2, .one (.ptr 0 0)),(3, .one (.ptr 1 0)),(5, .one (.int .i64))],[(0, .cells hW),(1, .cells hW)],2⟩
def KN {R:Type}:Nat→HS.V FB→(Ex→St→Option R)→Option R:=fun q v K=>
 gH (cW v.2.1) (cW v.2.2.1) (K .ret {az:=[(4, .v (.one (.bool false)))],mem:= [],nx:=0}) (K (.exit 0) {az:= [],mem:= [],nx:=0}) q v.1.2.2.1
def aar:List HV:=[.agg hW, .agg hW]
def PA:List HV:=[.one (.bool)]
def asm:HP.V aar→ao×ao:=fun v=>((cW v.1),(cW v.2.1))
def auj:HX.V PA→Bool:=fun v=>(v)
def asX:Bool→HX.V PA:=fun y=>(y)
def aif:(ao×ao)→Option (Bool):=fun x=>ep x.1 x.2
def G_:Spec:=aO aar PA asm asX aif
def WI {R:Type}:List (Nat×Hd R):=[(4,bQ FB KN)]
def OQ {R:Type}:List (Nat×Inl R):= []
def R6:Cfg:={T:=sC,spec:=[(35,VP),(36,Rj)],ba:=aE.G Tryz.prog,eqs:=s_,N:=54,fuel:=64,loops:=[(4,⟨[2,3,5], [],[0,1],2, [], [], [], []⟩)],blocks:=[(0,⟨[], [], [],0, [], [], [], []⟩)],gS:=some ⟨[4], [], [],0, [], [], [], []⟩,fid:=12}
theorem aow:aF Tryz.prog R6:=bg uq tM ⟨adU,⟨Ym,trivial⟩⟩
theorem aus {R:Type}:aQ Tryz.prog (R:=R) 0 OQ:=aC _ _
theorem acV {R:Type}:bL (R:=R) (hnd 0 OQ) R6 WI (sub [1,1,0,1,0,0] MR) (HS.V FB) (HS.st FB) (HS.sh FB) KN (bQ FB KN):=aX FB KN (fun _ _=>rfl) (by intro q v K;kernel_rfl)
theorem amK {R:Type}:aK (R:=R) (hnd 0 OQ) R6 WI MR:=aB (l:=[sub [1,1,0,1,0,0] MR]) (by kernel_rfl) (aM (b:=sub [1,1,0,1,0,0] MR) (rid:=4) (by kernel_rfl) (by kernel_rfl) acV (trivial))
theorem Jw:aN Tryz.prog 12 G_:=bu Tryz.f12 aow uv (d:=0) aus amK (bC (by kernel_rfl)) (toY:=auj)
def ZR:List HV:=[.agg hW]
def QY:List HV:=[.agg hFs]
def aq0:HP.V ZR→ao:=fun v=>((cW v.1))
def ahv:HX.V QY→Fs:=fun v=>((cFs v))
def aoc:Fs→HX.V QY:=fun y=>(uFs y)
def ab6:ao→Option (Fs):=fun x=>cH x
def Jp:Spec:=aO ZR QY aq0 aoc ab6
def amx:Cfg:={T:=sC,ba:=aE.G Tryz.prog,eqs:=s_,N:=7,fuel:=64,fid:=42}
theorem afF:aF Tryz.prog amx:=bg uq tM trivial
theorem Lr:aN Tryz.prog 42 Jp:=br Tryz.f42 afF uv (toY:=ahv)
def Fj:HS:=⟨[(2, .one (.ptr 0 0)),(3, .one (.ptr 1 0)),(7, .one (.int .i64))],[(0, .cells hW),(1, .cells hIn)],2⟩
def LM {R:Type}:Nat→HS.V Fj→(Ex→St→Option R)→Option R:=fun q v K=>
 cA (cIn v.2.2.1) (K .ret {az:=[(4, .v (.one (.bool false)))],mem:= [],nx:=0}) (K (.exit 0) {az:=[(2, .v (.one (.ptr 0 0))),(3, .v (.one (.ptr 1 0)))],mem:=[(0, .cells [.int .i64 ((cW v.2.1).fs.aA), .int .i64 ((cW v.2.1).fs.aH), .int .i64 ((cW v.2.1).fs.next), .sl .aS ((cW v.2.1).fs.aa), .sl .kept ((cW v.2.1).aq.kept), .sl .aS ((cW v.2.1).aq.aV)]),(1, .cells (rIn (cIn v.2.2.1)))],nx:=2}) q v.1.2.2.1
def FT:HS:=⟨[(2, .one (.ptr 0 0)),(3, .one (.ptr 1 0)),(8, .one (.bool)),(9, .one (.int .i64))],[(0, .cells hW),(1, .cells hIn)],2⟩
def KP {R:Type}:Nat→HS.V FT→(Ex→St→Option R)→Option R:=fun q v K=>
 ct (cW v.2.1) (cIn v.2.2.1) (fun y15=>K (.exit 2) {az:=[(8, .v (.one (.bool y15)))],mem:= [],nx:=0}) q v.1.2.2.1 v.1.2.2.2.1
def Xr:List HV:=[.agg hW, .agg hIn]
def Ua:List HV:=[.one (.bool)]
def auu:HP.V Xr→ao×al:=fun v=>((cW v.1),(cIn v.2.1))
def abZ:HX.V Ua→Bool:=fun v=>(v)
def aqS:Bool→HX.V Ua:=fun y=>(y)
def atV:(ao×al)→Option (Bool):=fun x=>lM x.1 x.2
def Zv:Spec:=aO Xr Ua auu aqS atV
def OJ {R:Type}:List (Nat×Hd R):=[(7,bQ Fj LM),(13,bQ FT KP)]
def Lq {R:Type}:List (Nat×Inl R):= []
def MM:Cfg:={T:=sC,spec:=[(44,qp)],ba:=aE.G Tryz.prog,eqs:=s_,N:=132,fuel:=64,loops:=[(13,⟨[2,3,8,9], [],[0,1],2, [], [], [], []⟩),(7,⟨[2,3,7], [],[0,1],2, [], [], [], []⟩)],blocks:=[(2,⟨[8], [], [],0, [], [], [], []⟩),(0,⟨[2,3], [],[0,1],2, [], [], [], []⟩)],gS:=some ⟨[4], [], [],0, [], [], [], []⟩,fid:=43}
theorem al5:aF Tryz.prog MM:=bg uq tM ⟨q_,trivial⟩
theorem au3 {R:Type}:aQ Tryz.prog (R:=R) 0 Lq:=aC _ _
theorem ah4 {R:Type}:bL (R:=R) (hnd 0 Lq) MM OJ (sub [1,1,1,1,0,1,0,0] DU) (HS.V Fj) (HS.st Fj) (HS.sh Fj) LM (bQ Fj LM):=aX Fj LM (fun _ _=>rfl) (by intro q v K;kernel_rfl)
theorem ap0 {R:Type}:bL (R:=R) (hnd 0 Lq) MM OJ (sub [1,1,1,1,1,1,0,1,0,0] DU) (HS.V FT) (HS.st FT) (HS.sh FT) KP (bQ FT KP):=aX FT KP (fun _ _=>rfl) (by intro q v K;kernel_rfl)
theorem au5 {R:Type}:aK (R:=R) (hnd 0 Lq) MM OJ DU:=aB (l:=[sub [1,1,1,1,0,1,0,0] DU,sub [1,1,1,1,1,1,0,1,0,0] DU]) (by kernel_rfl) (aM (b:=sub [1,1,1,1,0,1,0,0] DU) (rid:=7) (by kernel_rfl) (by kernel_rfl) ah4 (aM (b:=sub [1,1,1,1,1,1,0,1,0,0] DU) (rid:=13) (by kernel_rfl) (by kernel_rfl) ap0 (trivial)))
theorem auc:aN Tryz.prog 43 Zv:=bu Tryz.f43 al5 uv (d:=0) au3 au5 (bC (by kernel_rfl)) (toY:=abZ)
def Em:HS:=⟨[(1, .one (.ptr 0 0)),(3, .one (.int .i64))],[(0, .cells hW)],1⟩
def Nf {R:Type}:Nat→HS.V Em→(Ex→St→Option R)→Option R:=fun q v K=>
 fV (cW v.2.1) (K .ret {az:=[(2, .v (.one (.bool false)))],mem:= [],nx:=0}) (K (.exit 0) {az:=[(1, .v (.one (.ptr 0 0)))],mem:=[(0, .cells [.int .i64 ((cW v.2.1).fs.aA), .int .i64 ((cW v.2.1).fs.aH), .int .i64 ((cW v.2.1).fs.next), .sl .aS ((cW v.2.1).fs.aa), .sl .kept ((cW v.2.1).aq.kept), .sl .aS ((cW v.2.1).aq.aV)])],nx:=1}) q v.1.2.1
def FQ:HS:=⟨[(1, .one (.ptr 0 0)),(4, .one (.int .i64)),(5, .one (.int .i64))],[(0, .cells hW)],1⟩
def Ms {R:Type}:Nat→HS.V FQ→(Ex→St→Option R)→Option R:=fun q v K=>
 bD (cW v.2.1) (K .ret {az:=[(2, .v (.one (.bool false)))],mem:= [],nx:=0}) (K (.exit 2) {az:= [],mem:= [],nx:=0}) q v.1.2.1 v.1.2.2.1
def WH:List HV:=[.agg hW]
def T5:List HV:=[.one (.bool)]
def agL:HP.V WH→ao:=fun v=>((cW v.1))
def acS:HX.V T5→Bool:=fun v=>(v)
def apq:Bool→HX.V T5:=fun y=>(y)
def adZ:ao→Option (Bool):=fun x=>im x
def Lg:Spec:=aO WH T5 agL apq adZ
def PV {R:Type}:List (Nat×Hd R):=[(4,bQ Em Nf),(10,bQ FQ Ms)]
def LB {R:Type}:List (Nat×Inl R):= []
def MB:Cfg:={T:=sC,spec:=[(19,TT),(41,SQ),(42,Jp),(43,Zv),(44,qp)],ba:=aE.G Tryz.prog,eqs:=s_,N:=106,fuel:=64,loops:=[(10,⟨[1,4,5], [],[0],1, [], [], [], []⟩),(4,⟨[1,3], [],[0],1, [], [], [], []⟩)],blocks:=[(2,⟨[], [], [],0, [], [], [], []⟩),(0,⟨[1], [],[0],1, [], [], [], []⟩)],gS:=some ⟨[2], [], [],0, [], [], [], []⟩,fid:=18}
theorem afL:aF Tryz.prog MB:=bg uq tM ⟨Wx,⟨YJ,⟨Lr,⟨auc,⟨q_,trivial⟩⟩⟩⟩⟩
theorem atp {R:Type}:aQ Tryz.prog (R:=R) 0 LB:=aC _ _
theorem acw {R:Type}:bL (R:=R) (hnd 0 LB) MB PV (sub [1,1,0,1,0,0] EV) (HS.V Em) (HS.st Em) (HS.sh Em) Nf (bQ Em Nf):=aX Em Nf (fun _ _=>rfl) (by intro q v K;kernel_rfl)
theorem acM {R:Type}:bL (R:=R) (hnd 0 LB) MB PV (sub [1,1,1,1,0,1,0,0] EV) (HS.V FQ) (HS.st FQ) (HS.sh FQ) Ms (bQ FQ Ms):=aX FQ Ms (fun _ _=>rfl) (by intro q v K;kernel_rfl)
theorem atM {R:Type}:aK (R:=R) (hnd 0 LB) MB PV EV:=aB (l:=[sub [1,1,0,1,0,0] EV,sub [1,1,1,1,0,1,0,0] EV]) (by kernel_rfl) (aM (b:=sub [1,1,0,1,0,0] EV) (rid:=4) (by kernel_rfl) (by kernel_rfl) acw (aM (b:=sub [1,1,1,1,0,1,0,0] EV) (rid:=10) (by kernel_rfl) (by kernel_rfl) acM (trivial)))
theorem Pr:aN Tryz.prog 18 Lg:=bu Tryz.f18 afL uv (d:=0) atp atM (bC (by kernel_rfl)) (toY:=acS)
def Fh:HS:=⟨[(1, .one (.ptr 0 0)),(3, .one (.int .i64))],[(0, .cells hW)],1⟩
def N7 {R:Type}:Nat→HS.V Fh→(Ex→St→Option R)→Option R:=fun q v K=>
 iC (cW v.2.1) (K .ret {az:=[(2, .v (.one (.bool false)))],mem:= [],nx:=0}) (K (.exit 0) {az:=[(1, .v (.one (.ptr 0 0)))],mem:=[(0, .cells [.int .i64 ((cW v.2.1).fs.aA), .int .i64 ((cW v.2.1).fs.aH), .int .i64 ((cW v.2.1).fs.next), .sl .aS ((cW v.2.1).fs.aa), .sl .kept ((cW v.2.1).aq.kept), .sl .aS ((cW v.2.1).aq.aV)])],nx:=1}) q v.1.2.1
def UJ:List HV:=[.agg hW]
def QU:List HV:=[.one (.bool)]
def ajj:HP.V UJ→ao:=fun v=>((cW v.1))
def akT:HX.V QU→Bool:=fun v=>(v)
def ahY:Bool→HX.V QU:=fun y=>(y)
def agN:ao→Option (Bool):=fun x=>qM x
def aaf:Spec:=aO UJ QU ajj ahY agN
def Xw {R:Type}:List (Nat×Hd R):=[(2,bQ Fh N7)]
def PT {R:Type}:List (Nat×Inl R):= []
def PJ:Cfg:={T:=sC,spec:=[(42,Jp),(89,UZ)],ba:=aE.G Tryz.prog,eqs:=s_,N:=40,fuel:=64,loops:=[(2,⟨[1,3], [],[0],1, [], [], [], []⟩)],blocks:=[(0,⟨[1], [],[0],1, [], [], [], []⟩)],gS:=some ⟨[2], [], [],0, [], [], [], []⟩,fid:=53}
theorem art:aF Tryz.prog PJ:=bg uq tM ⟨Lr,⟨anR,trivial⟩⟩
theorem abQ {R:Type}:aQ Tryz.prog (R:=R) 0 PT:=aC _ _
theorem aiu {R:Type}:bL (R:=R) (hnd 0 PT) PJ Xw (sub [1,0,1,0,0] KY) (HS.V Fh) (HS.st Fh) (HS.sh Fh) N7 (bQ Fh N7):=aX Fh N7 (fun _ _=>rfl) (by intro q v K;kernel_rfl)
theorem apm {R:Type}:aK (R:=R) (hnd 0 PT) PJ Xw KY:=aB (l:=[sub [1,0,1,0,0] KY]) (by kernel_rfl) (aM (b:=sub [1,0,1,0,0] KY) (rid:=2) (by kernel_rfl) (by kernel_rfl) aiu (trivial))
theorem ajH:aN Tryz.prog 53 aaf:=bu Tryz.f53 art uv (d:=0) abQ apm (bC (by kernel_rfl)) (toY:=akT)
def Vh:List HV:=[.agg hW]
def QR:List HV:=[.one (.bool)]
def aoP:HP.V Vh→ao:=fun v=>((cW v.1))
def akb:HX.V QR→Bool:=fun v=>(v)
def acU:Bool→HX.V QR:=fun y=>(y)
def avi:ao→Option (Bool):=fun x=>sP x
def X2:Spec:=aO Vh QR aoP acU avi
def aku:Cfg:={T:=sC,spec:=[(18,Lg),(53,aaf)],ba:=aE.G Tryz.prog,eqs:=s_,N:=9,fuel:=64,fid:=21}
theorem ab8:aF Tryz.prog aku:=bg uq tM ⟨Pr,⟨ajH,trivial⟩⟩
theorem ahJ:aN Tryz.prog 21 X2:=br Tryz.f21 ab8 uv (toY:=akb)
def DM:HS:=⟨[(1, .one (.int .i64)),(2, .one (.ptr 0 0)),(4, .one (.ptr 1 0)),(6, .one (.int .i64))],[(0, .cells hW),(1, .cells [.int .i64, .int .i64, .bool, .str])],2⟩
def K1 {R:Type}:Nat→HS.V DM→(Ex→St→Option R)→Option R:=fun q v K=>
 gR v.1.1 (cW v.2.1) (fun y8=>K .ret {az:=[(4, .v (.one (.ptr 1 0))),(5, .v (.one (.bool true)))],mem:=[(1, .cells [.int .i64 y8.slot, .int .i64 y8.ino, .bool y8.content, .str y8.data])],nx:=2}) (K (.exit 0) {az:=[(4, .v (.one (.ptr 1 0)))],mem:=[(1, .cells [.int .i64 ((⟨v.2.2.1.1,v.2.2.1.2.1,v.2.2.1.2.2.1,v.2.2.1.2.2.2.1⟩:Kept).slot), .int .i64 ((⟨v.2.2.1.1,v.2.2.1.2.1,v.2.2.1.2.2.1,v.2.2.1.2.2.2.1⟩:Kept).ino), .bool ((⟨v.2.2.1.1,v.2.2.1.2.1,v.2.2.1.2.2.1,v.2.2.1.2.2.2.1⟩:Kept).content), .str ((⟨v.2.2.1.1,v.2.2.1.2.1,v.2.2.1.2.2.1,v.2.2.1.2.2.2.1⟩:Kept).data)])],nx:=2}) q v.1.2.2.2.1
def abh:List HV:=[.agg hW, .one (.int .i64)]
def T0:List HV:=[.agg [.int .i64, .int .i64, .bool, .str], .one (.bool)]
def av5:HP.V abh→ao×Int:=fun v=>((cW v.1),v.2.1)
def am9:HX.V T0→Kept×Bool:=fun v=>((⟨v.1.1,v.1.2.1,v.1.2.2.1,v.1.2.2.2.1⟩:Kept),v.2)
def aqL:(Kept×Bool)→HX.V T0:=fun y=>((y.1.slot,(y.1.ino,(y.1.content,(y.1.data,())))),y.2)
def am6:(ao×Int)→Option (Kept×Bool):=fun x=>gk x.1 x.2
def GQ:Spec:=aO abh T0 av5 aqL am6
def aa2 {R:Type}:List (Nat×Hd R):=[(2,bQ DM K1)]
def RT {R:Type}:List (Nat×Inl R):= []
def Sc:Cfg:={T:=sC,ba:=aE.G Tryz.prog,eqs:=s_,N:=31,fuel:=64,loops:=[(2,⟨[1,2,4,6], [],[0,1],2, [], [], [], []⟩)],blocks:=[(0,⟨[4], [],[1],2, [], [], [], []⟩)],gS:=some ⟨[4,5], [],[1],2, [], [], [], []⟩,fid:=33}
theorem aiC:aF Tryz.prog Sc:=bg uq tM trivial
theorem acH {R:Type}:aQ Tryz.prog (R:=R) 0 RT:=aC _ _
theorem ab1 {R:Type}:bL (R:=R) (hnd 0 RT) Sc aa2 (sub [1,0,1,0,0] Mw) (HS.V DM) (HS.st DM) (HS.sh DM) K1 (bQ DM K1):=aX DM K1 (fun _ _=>rfl) (by intro q v K;kernel_rfl)
theorem apd {R:Type}:aK (R:=R) (hnd 0 RT) Sc aa2 Mw:=aB (l:=[sub [1,0,1,0,0] Mw]) (by kernel_rfl) (aM (b:=sub [1,0,1,0,0] Mw) (rid:=2) (by kernel_rfl) (by kernel_rfl) ab1 (trivial))
theorem JQ:aN Tryz.prog 33 GQ:=bu Tryz.f33 aiC uv (d:=0) acH apd (bC (by kernel_rfl)) (toY:=am9)
def Ft:HS:=⟨[(2, .one (.ptr 0 0)),(3, .one (.ptr 1 0)),(4, .one (.ptr 2 0)),(5, .one (.own 3)),(6, .one (.bool)),(7, .one (.int .i64))],[(0, .cells hW),(1, .cells [.int .i64, .int .i64, .bool, .str]),(2, .cells hW),(3, .row .kept)],4⟩
def Oj {R:Type}:Nat→HS.V Ft→(Ex→St→Option R)→Option R:=fun q v K=>
 eK (cW v.2.1) (⟨v.2.2.1.1,v.2.2.1.2.1,v.2.2.1.2.2.1,v.2.2.1.2.2.2.1⟩:Kept) (fun y11 y15=>K (.exit 0) {az:=[(2, .v (.one (.ptr 0 0))),(3, .v (.one (.ptr 1 0))),(4, .v (.one (.ptr 2 0))),(5, .v (.one (.own 3))),(6, .v (.one (.bool y11)))],mem:=[(0, .cells [.int .i64 ((cW v.2.1).fs.aA), .int .i64 ((cW v.2.1).fs.aH), .int .i64 ((cW v.2.1).fs.next), .sl .aS ((cW v.2.1).fs.aa), .sl .kept ((cW v.2.1).aq.kept), .sl .aS ((cW v.2.1).aq.aV)]),(1, .cells [.int .i64 ((⟨v.2.2.1.1,v.2.2.1.2.1,v.2.2.1.2.2.1,v.2.2.1.2.2.2.1⟩:Kept).slot), .int .i64 ((⟨v.2.2.1.1,v.2.2.1.2.1,v.2.2.1.2.2.1,v.2.2.1.2.2.2.1⟩:Kept).ino), .bool ((⟨v.2.2.1.1,v.2.2.1.2.1,v.2.2.1.2.2.1,v.2.2.1.2.2.2.1⟩:Kept).content), .str ((⟨v.2.2.1.1,v.2.2.1.2.1,v.2.2.1.2.2.1,v.2.2.1.2.2.2.1⟩:Kept).data)]),(2, .cells [.int .i64 ((cW v.2.2.2.1).fs.aA), .int .i64 ((cW v.2.2.2.1).fs.aH), .int .i64 ((cW v.2.2.2.1).fs.next), .sl .aS ((cW v.2.2.2.1).fs.aa), .sl .kept ((cW v.2.2.2.1).aq.kept), .sl .aS ((cW v.2.2.2.1).aq.aV)]),(3, .row .kept y15)],nx:=4}) q v.1.2.2.2.2.1 v.1.2.2.2.2.2.1 v.2.2.2.2.1
def V2:List HV:=[.agg hW, .agg [.int .i64, .int .i64, .bool, .str]]
def Pd:List HV:=[.agg hW]
def akt:HP.V V2→ao×Kept:=fun v=>((cW v.1),(⟨v.2.1.1,v.2.1.2.1,v.2.1.2.2.1,v.2.1.2.2.2.1⟩:Kept))
def af3:HX.V Pd→ao:=fun v=>((cW v))
def aqj:ao→HX.V Pd:=fun y=>(uW y)
def aoS:(ao×Kept)→Option (ao):=fun x=>kb x.1 x.2
def Ts:Spec:=aO V2 Pd akt aqj aoS
def Ye {R:Type}:List (Nat×Hd R):=[(4,bQ Ft Oj)]
def Sg {R:Type}:List (Nat×Inl R):= []
def Qj:Cfg:={T:=sC,ba:=aE.G Tryz.prog,eqs:=s_,N:=53,fuel:=64,loops:=[(4,⟨[2,3,4,5,6,7],[(5,3, .kept)],[0,1,2,3],4, [],[2], [], []⟩)],blocks:=[(0,⟨[2,3,4,5,6], [],[0,1,2,3],4, [], [], [], []⟩)],fid:=79}
theorem avM:aF Tryz.prog Qj:=bg uq tM trivial
theorem aja {R:Type}:aQ Tryz.prog (R:=R) 0 Sg:=aC _ _
theorem amn {R:Type}:bL (R:=R) (hnd 0 Sg) Qj Ye (sub [1,1,1,0,1,0,0] KX) (HS.V Ft) (HS.st Ft) (HS.sh Ft) Oj (bQ Ft Oj):=aX Ft Oj (fun _ _=>rfl) (by intro q v K;kernel_rfl)
theorem aov {R:Type}:aK (R:=R) (hnd 0 Sg) Qj Ye KX:=aB (l:=[sub [1,1,1,0,1,0,0] KX]) (by kernel_rfl) (aM (b:=sub [1,1,1,0,1,0,0] KX) (rid:=4) (by kernel_rfl) (by kernel_rfl) amn (trivial))
theorem UG:aN Tryz.prog 79 Ts:=bu Tryz.f79 avM uv (d:=0) aja aov (bC (by kernel_rfl)) (toY:=af3)
def Vt:List HV:=[.agg hW, .one (.int .i64), .one (.int .i64)]
def Qp:List HV:=[.agg hW, .one (.int .i64)]
def agl:HP.V Vt→ao×Int×Int:=fun v=>((cW v.1),v.2.1,v.2.2.1)
def apP:HX.V Qp→ao×Int:=fun v=>((cW v.1),v.2)
def apC:(ao×Int)→HX.V Qp:=fun y=>(uW y.1,y.2)
def aqs:(ao×Int×Int)→Option (ao×Int):=fun x=>jK x.1 x.2.1 x.2.2
def abm:Spec:=aO Vt Qp agl apC aqs
def amG:Cfg:={T:=sC,spec:=[(33,GQ),(44,qp),(79,Ts)],ba:=aE.G Tryz.prog,eqs:=s_,N:=34,fuel:=64,fid:=74}
theorem am3:aF Tryz.prog amG:=bg uq tM ⟨JQ,⟨q_,⟨UG,trivial⟩⟩⟩
theorem ak6:aN Tryz.prog 74 abm:=br Tryz.f74 am3 uv (toY:=apP)
def U7:List HV:=[.agg hW, .one (.int .i64), .agg [.int .i64, .str, .int .i64]]
def Uj:List HV:=[.agg hW, .one (.int .i64)]
def alJ:HP.V U7→ao×Int×ar:=fun v=>((cW v.1),v.2.1,(⟨v.2.2.1.1,v.2.2.1.2.1,v.2.2.1.2.2.1⟩:ar))
def acn:HX.V Uj→ao×Int:=fun v=>((cW v.1),v.2)
def ajX:(ao×Int)→HX.V Uj:=fun y=>(uW y.1,y.2)
def aqm:(ao×Int×ar)→Option (ao×Int):=fun x=>h_ x.1 x.2.1 x.2.2
def Vo:Spec:=aO U7 Uj alJ ajX aqm
def aui:Cfg:={T:=sC,spec:=[(31,ND),(33,GQ),(42,Jp),(44,qp),(52,zg),(79,Ts)],ba:=aE.G Tryz.prog,eqs:=s_,N:=51,fuel:=64,fid:=30}
theorem anB:aF Tryz.prog aui:=bg uq tM ⟨O6,⟨JQ,⟨Lr,⟨q_,⟨BO,⟨UG,trivial⟩⟩⟩⟩⟩⟩
theorem aiq:aN Tryz.prog 30 Vo:=br Tryz.f30 anB uv (toY:=acn)
def D9:HS:=⟨[(1, .one (.int .i64)),(2, .one (.ptr 0 0)),(4, .one (.ptr 1 0)),(5, .one (.own 2)),(6, .one (.int .i64))],[(0, .cells hW),(1, .cells hW),(2, .row .kept)],3⟩
def Og {R:Type}:Nat→HS.V D9→(Ex→St→Option R)→Option R:=fun q v K=>
 dS v.1.1 (cW v.2.1) (fun y10=>K (.exit 0) {az:=[(2, .v (.one (.ptr 0 0))),(4, .v (.one (.ptr 1 0))),(5, .v (.one (.own 2)))],mem:=[(0, .cells [.int .i64 ((cW v.2.1).fs.aA), .int .i64 ((cW v.2.1).fs.aH), .int .i64 ((cW v.2.1).fs.next), .sl .aS ((cW v.2.1).fs.aa), .sl .kept ((cW v.2.1).aq.kept), .sl .aS ((cW v.2.1).aq.aV)]),(1, .cells [.int .i64 ((cW v.2.2.1).fs.aA), .int .i64 ((cW v.2.2.1).fs.aH), .int .i64 ((cW v.2.2.1).fs.next), .sl .aS ((cW v.2.2.1).fs.aa), .sl .kept ((cW v.2.2.1).aq.kept), .sl .aS ((cW v.2.2.1).aq.aV)]),(2, .row .kept y10)],nx:=3}) q v.1.2.2.2.2.1 v.2.2.2.1
def ZQ:List HV:=[.agg hW, .one (.int .i64)]
def Qx:List HV:=[.agg hW]
def amz:HP.V ZQ→ao×Int:=fun v=>((cW v.1),v.2.1)
def aoQ:HX.V Qx→ao:=fun v=>((cW v))
def avB:ao→HX.V Qx:=fun y=>(uW y)
def aez:(ao×Int)→Option (ao):=fun x=>cE x.1 x.2
def PN:Spec:=aO ZQ Qx amz avB aez
def X5 {R:Type}:List (Nat×Hd R):=[(3,bQ D9 Og)]
def Tp {R:Type}:List (Nat×Inl R):= []
def RB:Cfg:={T:=sC,ba:=aE.G Tryz.prog,eqs:=s_,N:=37,fuel:=64,loops:=[(3,⟨[1,2,4,5,6],[(5,2, .kept)],[0,1,2],3, [],[1], [], []⟩)],blocks:=[(0,⟨[2,4,5], [],[0,1,2],3, [], [], [], []⟩)],fid:=82}
theorem anH:aF Tryz.prog RB:=bg uq tM trivial
theorem atq {R:Type}:aQ Tryz.prog (R:=R) 0 Tp:=aC _ _
theorem auH {R:Type}:bL (R:=R) (hnd 0 Tp) RB X5 (sub [1,1,0,1,0,0] M_) (HS.V D9) (HS.st D9) (HS.sh D9) Og (bQ D9 Og):=aX D9 Og (fun _ _=>rfl) (by intro q v K;kernel_rfl)
theorem ajm {R:Type}:aK (R:=R) (hnd 0 Tp) RB X5 M_:=aB (l:=[sub [1,1,0,1,0,0] M_]) (by kernel_rfl) (aM (b:=sub [1,1,0,1,0,0] M_) (rid:=3) (by kernel_rfl) (by kernel_rfl) auH (trivial))
theorem Yy:aN Tryz.prog 82 PN:=bu Tryz.f82 anH uv (d:=0) atq ajm (bC (by kernel_rfl)) (toY:=aoQ)
def XN:List HV:=[.agg hW, .one (.int .i64), .agg [.int .i64, .str, .int .i64]]
def PY:List HV:=[.agg hW, .one (.int .i64)]
def alQ:HP.V XN→ao×Int×ar:=fun v=>((cW v.1),v.2.1,(⟨v.2.2.1.1,v.2.2.1.2.1,v.2.2.1.2.2.1⟩:ar))
def abz:HX.V PY→ao×Int:=fun v=>((cW v.1),v.2)
def acO:(ao×Int)→HX.V PY:=fun y=>(uW y.1,y.2)
def amy:(ao×Int×ar)→Option (ao×Int):=fun x=>mj x.1 x.2.1 x.2.2
def U9:Spec:=aO XN PY alQ acO amy
def aiX:Cfg:={T:=sC,spec:=[(28,Ps),(33,GQ),(42,Jp),(44,qp),(50,G1),(52,zg),(80,Lt),(81,Je),(82,PN)],ba:=aE.G Tryz.prog,eqs:=s_,N:=100,fuel:=64,fid:=32}
theorem amr:aF Tryz.prog aiX:=bg uq tM ⟨aay,⟨JQ,⟨Lr,⟨q_,⟨Jk,⟨BO,⟨PF,⟨Nu,⟨Yy,trivial⟩⟩⟩⟩⟩⟩⟩⟩⟩
theorem ajc:aN Tryz.prog 32 U9:=br Tryz.f32 amr uv (toY:=abz)
def ZI:List HV:=[.agg hW, .one (.int .i64)]
def P2:List HV:=[.agg hW, .one (.int .i64)]
def ab0:HP.V ZI→ao×Int:=fun v=>((cW v.1),v.2.1)
def ai6:HX.V P2→ao×Int:=fun v=>((cW v.1),v.2)
def abA:(ao×Int)→HX.V P2:=fun y=>(uW y.1,y.2)
def ae9:(ao×Int)→Option (ao×Int):=fun x=>hZ x.1 x.2
def aav:Spec:=aO ZI P2 ab0 abA ae9
def aiD:Cfg:={T:=sC,spec:=[(33,GQ),(44,qp),(50,G1),(52,zg),(82,PN)],ba:=aE.G Tryz.prog,eqs:=s_,N:=59,fuel:=64,fid:=34}
theorem aqq:aF Tryz.prog aiD:=bg uq tM ⟨JQ,⟨q_,⟨Jk,⟨BO,⟨Yy,trivial⟩⟩⟩⟩⟩
theorem alp:aN Tryz.prog 34 aav:=br Tryz.f34 aqq uv (toY:=ai6)
end
end Go.Eng
namespace Go.Eng
noncomputable section
open Go Go.Proofs
def Yo:List (Nat×TI):=[(3,⟨false,1, .one (.int .i64 0), .int .i64⟩),(9,⟨false,1, .one (.str []), .str⟩),(24,⟨true,4, .agg [.int .i64 0, .int .i64 0, .int .i64 0, .clip .aS []], .struct [(0,3),(1,3),(2,3),(3,22)]⟩),(53,⟨false,1, .one (.clip .entry []), .slice .entry 85⟩),(55,⟨true,6, .agg [.int .i64 0, .int .i64 0, .int .i64 0, .str [], .int .i64 0, .clip .entry []], .struct [(0,3),(1,3),(2,3),(3,9),(4,3),(5,53)]⟩),(59,⟨true,3, .agg [.int .i64 0, .str [], .int .i64 0], .struct [(0,3),(1,9),(2,3)]⟩),(106,⟨false,1, .one (.clip .str []), .slice .str 9⟩)]
def Yi:List (Nat×List EK):= []
theorem ahc:Tryz.prog.follows .mixedOrders=true:=by kernel_rfl
theorem aco:(Yo.all fun x=>tiB Tryz.prog x.1 x.2)=true:=by kernel_rfl
theorem ao7:(Yi.all fun x=>eqB Tryz.prog x.1 x.2)=true:=by kernel_rfl
def KO:Code:=bd Tryz.f76
def FV:HS:=⟨[(2, .one (.ptr 0 0)),(4, .one (.ptr 1 0)),(6, .one (.sl .str)),(8, .one (.ptr 2 0)),(9, .one (.int .i64))],[(0, .cells hFs),(1, .cells [.int .i64, .str, .int .i64]),(2, .cells [.int .i64, .str, .int .i64])],3⟩
def No {R:Type}:Nat→HS.V FV→(Ex→St→Option R)→Option R:=fun q v K=>
 jm v.1.2.2.1 (cFs v.2.1) (fun y11=>K .ret {az:=[(4, .v (.one (.ptr 1 0))),(5, .v (.one (.int .i64 y11)))],mem:=[(1, .cells [.int .i64 ((⟨0, [],0⟩:ar).dir), .str ((⟨0, [],0⟩:ar).name), .int .i64 ((⟨0, [],0⟩:ar).ino)])],nx:=2}) (fun y14=>K (.exit 0) {az:=[(4, .v (.one (.ptr 1 0))),(8, .v (.one (.ptr 2 0)))],mem:=[(1, .cells [.int .i64 ((⟨v.2.2.1.1,v.2.2.1.2.1,v.2.2.1.2.2.1⟩:ar).dir), .str ((⟨v.2.2.1.1,v.2.2.1.2.1,v.2.2.1.2.2.1⟩:ar).name), .int .i64 ((⟨v.2.2.1.1,v.2.2.1.2.1,v.2.2.1.2.2.1⟩:ar).ino)]),(2, .cells [.int .i64 y14.dir, .str y14.name, .int .i64 y14.ino])],nx:=3}) q v.1.2.2.2.2.1 (⟨v.2.2.2.1.1,v.2.2.2.1.2.1,v.2.2.2.1.2.2.1⟩:ar)
def WM:List HV:=[.agg hFs, .one (.str)]
def R8:List HV:=[.agg [.int .i64, .str, .int .i64], .one (.int .i64)]
def aqd:HP.V WM→Fs×Str:=fun v=>((cFs v.1),v.2.1)
def akg:HX.V R8→ar×Int:=fun v=>((⟨v.1.1,v.1.2.1,v.1.2.2.1⟩:ar),v.2)
def asP:(ar×Int)→HX.V R8:=fun y=>((y.1.dir,(y.1.name,(y.1.ino,()))),y.2)
def alr:(Fs×Str)→Option (ar×Int):=fun x=>qt x.1 x.2
def YZ:Spec:=aO WM R8 aqd asP alr
def Z3 {R:Type}:List (Nat×Hd R):=[(6,bQ FV No)]
def Tk {R:Type}:List (Nat×Inl R):= []
def TE:Cfg:={T:=Yo,spec:=[(44,qp),(84,TR),(113,abf)],ba:=aE.G Tryz.prog,eqs:=Yi,N:=63,fuel:=64,loops:=[(6,⟨[2,4,6,8,9], [],[0,1,2],3, [], [], [], []⟩)],blocks:=[(0,⟨[4,8], [],[1,2],3, [], [], [], []⟩)],gS:=some ⟨[4,5], [],[1],2, [], [], [], []⟩,fid:=76}
theorem ani:aF Tryz.prog TE:=bg aco ao7 ⟨q_,⟨VN,⟨akL,trivial⟩⟩⟩
theorem arz {R:Type}:aQ Tryz.prog (R:=R) 0 Tk:=aC _ _
theorem arl {R:Type}:bL (R:=R) (hnd 0 Tk) TE Z3 (sub [1,1,1,1,0,1,0,0] KO) (HS.V FV) (HS.st FV) (HS.sh FV) No (bQ FV No):=aX FV No (fun _ _=>rfl) (by intro q v K;kernel_rfl)
theorem ab9 {R:Type}:aK (R:=R) (hnd 0 Tk) TE Z3 KO:=aB (l:=[sub [1,1,1,1,0,1,0,0] KO]) (by kernel_rfl) (aM (b:=sub [1,1,1,1,0,1,0,0] KO) (rid:=6) (by kernel_rfl) (by kernel_rfl) arl (trivial))
theorem aj4:aN Tryz.prog 76 YZ:=bu Tryz.f76 ani ahc (d:=0) arz ab9 (bC (by kernel_rfl)) (toY:=akg)
end
end Go.Eng
namespace Go.Eng
noncomputable section
open Go Go.Proofs
def ZT:List (Nat×TI):=[(3,⟨false,1, .one (.int .i64 0), .int .i64⟩),(9,⟨false,1, .one (.str []), .str⟩),(24,⟨true,4, .agg [.int .i64 0, .int .i64 0, .int .i64 0, .clip .aS []], .struct [(0,3),(1,3),(2,3),(3,22)]⟩),(53,⟨false,1, .one (.clip .entry []), .slice .entry 85⟩),(55,⟨true,6, .agg [.int .i64 0, .int .i64 0, .int .i64 0, .str [], .int .i64 0, .clip .entry []], .struct [(0,3),(1,3),(2,3),(3,9),(4,3),(5,53)]⟩),(59,⟨true,3, .agg [.int .i64 0, .str [], .int .i64 0], .struct [(0,3),(1,9),(2,3)]⟩)]
def abg:List (Nat×List EK):= []
theorem af1:Tryz.prog.follows .mixedOrders=true:=by kernel_rfl
theorem ama:(ZT.all fun x=>tiB Tryz.prog x.1 x.2)=true:=by kernel_rfl
theorem afr:(abg.all fun x=>eqB Tryz.prog x.1 x.2)=true:=by kernel_rfl
def aa9:List HV:=[.agg hFs, .agg [.int .i64, .str, .int .i64], .one (.int .i64), .one (.str)]
def Th:List HV:=[.agg hFs, .one (.int .i64)]
def aej:HP.V aa9→Fs×ar×Int×Str:=fun v=>((cFs v.1),(⟨v.2.1.1,v.2.1.2.1,v.2.1.2.2.1⟩:ar),v.2.2.1,v.2.2.2.1)
def anF:HX.V Th→Fs×Int:=fun v=>((cFs v.1),v.2)
def aqU:(Fs×Int)→HX.V Th:=fun y=>(uFs y.1,y.2)
def anp:(Fs×ar×Int×Str)→Option (Fs×Int):=fun x=>jV x.1 x.2.1 x.2.2.1 x.2.2.2
def ZE:Spec:=aO aa9 Th aej aqU anp
def ast:Cfg:={T:=ZT,spec:=[(44,qp),(50,G1),(52,zg),(77,LV),(81,Je)],ba:=aE.G Tryz.prog,eqs:=abg,N:=63,fuel:=64,fid:=73}
theorem as9:aF Tryz.prog ast:=bg ama afr ⟨q_,⟨Jk,⟨BO,⟨PB,⟨Nu,trivial⟩⟩⟩⟩⟩
theorem aul:aN Tryz.prog 73 ZE:=br Tryz.f73 as9 af1 (toY:=anF)
end
end Go.Eng
namespace Go.Eng
noncomputable section
open Go Go.Proofs
def WY:List (Nat×TI):=[(3,⟨false,1, .one (.int .i64 0), .int .i64⟩),(9,⟨false,1, .one (.str []), .str⟩),(24,⟨true,4, .agg [.int .i64 0, .int .i64 0, .int .i64 0, .clip .aS []], .struct [(0,3),(1,3),(2,3),(3,22)]⟩),(55,⟨true,6, .agg [.int .i64 0, .int .i64 0, .int .i64 0, .str [], .int .i64 0, .clip .entry []], .struct [(0,3),(1,3),(2,3),(3,9),(4,3),(5,53)]⟩)]
def Yn:List (Nat×List EK):= []
theorem atg:Tryz.prog.follows .mixedOrders=true:=by kernel_rfl
theorem avs:(WY.all fun x=>tiB Tryz.prog x.1 x.2)=true:=by kernel_rfl
theorem aoG:(Yn.all fun x=>eqB Tryz.prog x.1 x.2)=true:=by kernel_rfl
def UX:List HV:=[.agg hFs, .one (.int .i64), .one (.str)]
def TU:List HV:=[.agg hFs, .one (.int .i64)]
def afP:HP.V UX→Fs×Int×Str:=fun v=>((cFs v.1),v.2.1,v.2.2.1)
def ab4:HX.V TU→Fs×Int:=fun v=>((cFs v.1),v.2)
def adE:(Fs×Int)→HX.V TU:=fun y=>(uFs y.1,y.2)
def ahZ:(Fs×Int×Str)→Option (Fs×Int):=fun x=>nT x.1 x.2.1 x.2.2
def Uv:Spec:=aO UX TU afP adE ahZ
def ajU:Cfg:={T:=WY,spec:=[(44,qp),(50,G1),(52,zg)],ba:=aE.G Tryz.prog,eqs:=Yn,N:=31,fuel:=64,fid:=75}
theorem afg:aF Tryz.prog ajU:=bg avs aoG ⟨q_,⟨Jk,⟨BO,trivial⟩⟩⟩
theorem ah0:aN Tryz.prog 75 Uv:=br Tryz.f75 afg atg (toY:=ab4)
end
end Go.Eng
namespace Go.Eng
noncomputable section
open Go Go.Proofs
def UI:List (Nat×TI):=[(3,⟨false,1, .one (.int .i64 0), .int .i64⟩),(9,⟨false,1, .one (.str []), .str⟩),(24,⟨true,4, .agg [.int .i64 0, .int .i64 0, .int .i64 0, .clip .aS []], .struct [(0,3),(1,3),(2,3),(3,22)]⟩),(53,⟨false,1, .one (.clip .entry []), .slice .entry 85⟩),(55,⟨true,6, .agg [.int .i64 0, .int .i64 0, .int .i64 0, .str [], .int .i64 0, .clip .entry []], .struct [(0,3),(1,3),(2,3),(3,9),(4,3),(5,53)]⟩),(59,⟨true,3, .agg [.int .i64 0, .str [], .int .i64 0], .struct [(0,3),(1,9),(2,3)]⟩)]
def Zr:List (Nat×List EK):= []
theorem aqi:Tryz.prog.follows .mixedOrders=true:=by kernel_rfl
theorem alM:(UI.all fun x=>tiB Tryz.prog x.1 x.2)=true:=by kernel_rfl
theorem atZ:(Zr.all fun x=>eqB Tryz.prog x.1 x.2)=true:=by kernel_rfl
def Vv:List HV:=[.agg hFs, .agg [.int .i64, .str, .int .i64], .agg [.int .i64, .str, .int .i64]]
def Pf:List HV:=[.agg hFs]
def aqn:HP.V Vv→Fs×ar×ar:=fun v=>((cFs v.1),(⟨v.2.1.1,v.2.1.2.1,v.2.1.2.2.1⟩:ar),(⟨v.2.2.1.1,v.2.2.1.2.1,v.2.2.1.2.2.1⟩:ar))
def amD:HX.V Pf→Fs:=fun v=>((cFs v))
def aci:Fs→HX.V Pf:=fun y=>(uFs y)
def aor:(Fs×ar×ar)→Option (Fs):=fun x=>oC x.1 x.2.1 x.2.2
def YR:Spec:=aO Vv Pf aqn aci aor
def apt:Cfg:={T:=UI,spec:=[(31,ND),(44,qp),(52,zg),(77,LV),(78,N3)],ba:=aE.G Tryz.prog,eqs:=Zr,N:=70,fuel:=64,fid:=29}
theorem aq_:aF Tryz.prog apt:=bg alM atZ ⟨O6,⟨q_,⟨BO,⟨PB,⟨Ui,trivial⟩⟩⟩⟩⟩
theorem ajN:aN Tryz.prog 29 YR:=br Tryz.f29 aq_ aqi (toY:=amD)
end
end Go.Eng
namespace Go.Eng
noncomputable section
open Go Go.Proofs
def Fi:List (Nat×TI):=[(3,⟨false,1, .one (.int .i64 0), .int .i64⟩),(4,⟨false,1, .one (.bool false), .bool⟩),(9,⟨false,1, .one (.str []), .str⟩),(24,⟨true,4, .agg [.int .i64 0, .int .i64 0, .int .i64 0, .clip .aS []], .struct [(0,3),(1,3),(2,3),(3,22)]⟩),(25,⟨false,1, .one (.clip .kept []), .slice .kept 66⟩),(27,⟨true,2, .agg [.clip .kept [], .clip .aS []], .struct [(0,25),(1,22)]⟩),(29,⟨true,6, .agg [.int .i64 0, .int .i64 0, .int .i64 0, .clip .aS [], .clip .kept [], .clip .aS []], .struct [(0,24),(4,27)]⟩),(31,⟨true,5, .agg [.int .i64 0, .int .i64 0, .str [], .str [], .str []], .struct [(0,3),(1,3),(2,9),(3,9),(4,9)]⟩),(53,⟨false,1, .one (.clip .entry []), .slice .entry 85⟩),(55,⟨true,6, .agg [.int .i64 0, .int .i64 0, .int .i64 0, .str [], .int .i64 0, .clip .entry []], .struct [(0,3),(1,3),(2,3),(3,9),(4,3),(5,53)]⟩),(59,⟨true,3, .agg [.int .i64 0, .str [], .int .i64 0], .struct [(0,3),(1,9),(2,3)]⟩),(66,⟨true,4, .agg [.int .i64 0, .int .i64 0, .bool false, .str []], .struct [(0,3),(1,3),(2,4),(3,9)]⟩)]
def E3:List (Nat×List EK):= []
theorem HE:Tryz.prog.follows .mixedOrders=true:=by kernel_rfl
theorem Hm:(Fi.all fun x=>tiB Tryz.prog x.1 x.2)=true:=by kernel_rfl
theorem Iu:(E3.all fun x=>eqB Tryz.prog x.1 x.2)=true:=by kernel_rfl
def La:Code:=bd Tryz.f11
def aaZ:List HV:=[.agg hFs, .one (.str), .one (.int .i64)]
def Px:List HV:=[.agg [.int .i64, .str, .int .i64], .agg hIn, .one (.int .i64)]
def aha:HP.V aaZ→Fs×Str×Int:=fun v=>((cFs v.1),v.2.1,v.2.2.1)
def ahV:HX.V Px→ar×al×Int:=fun v=>((⟨v.1.1,v.1.2.1,v.1.2.2.1⟩:ar),(cIn v.2.1),v.2.2)
def ame:(ar×al×Int)→HX.V Px:=fun y=>((y.1.dir,(y.1.name,(y.1.ino,()))),uIn y.2.1,y.2.2)
def acu:(Fs×Str×Int)→Option (ar×al×Int):=fun x=>dN x.1 x.2.1 x.2.2
def L2:Spec:=aO aaZ Px aha ame acu
def asK:Cfg:={T:=Fi,spec:=[(44,qp),(76,YZ)],ba:=aE.G Tryz.prog,eqs:=E3,N:=48,fuel:=64,fid:=27}
theorem acY:aF Tryz.prog asK:=bg Hm Iu ⟨q_,⟨aj4,trivial⟩⟩
theorem S9:aN Tryz.prog 27 L2:=br Tryz.f27 acY HE (toY:=ahV)
def aao:List HV:=[.agg hW, .one (.str), .one (.int .i64), .one (.str)]
def QA:List HV:=[.agg hW, .one (.int .i64)]
def aj6:HP.V aao→ao×Str×Int×Str:=fun v=>((cW v.1),v.2.1,v.2.2.1,v.2.2.2.1)
def abS:HX.V QA→ao×Int:=fun v=>((cW v.1),v.2)
def alZ:(ao×Int)→HX.V QA:=fun y=>(uW y.1,y.2)
def auS:(ao×Str×Int×Str)→Option (ao×Int):=fun x=>j7 x.1 x.2.1 x.2.2.1 x.2.2.2
def aah:Spec:=aO aao QA aj6 alZ auS
def ars:Cfg:={T:=Fi,spec:=[(27,L2),(73,ZE)],ba:=aE.G Tryz.prog,eqs:=E3,N:=40,fuel:=64,fid:=24}
theorem aev:aF Tryz.prog ars:=bg Hm Iu ⟨S9,⟨aul,trivial⟩⟩
theorem ase:aN Tryz.prog 24 aah:=br Tryz.f24 aev HE (toY:=abS)
def XQ:List HV:=[.agg hFs, .one (.str)]
def SR:List HV:=[.agg hIn, .one (.int .i64)]
def aem:HP.V XQ→Fs×Str:=fun v=>((cFs v.1),v.2.1)
def auF:HX.V SR→al×Int:=fun v=>((cIn v.1),v.2)
def arU:(al×Int)→HX.V SR:=fun y=>(uIn y.1,y.2)
def acL:(Fs×Str)→Option (al×Int):=fun x=>ko x.1 x.2
def TL:Spec:=aO XQ SR aem arU acL
def amH:Cfg:={T:=Fi,spec:=[(27,L2)],ba:=aE.G Tryz.prog,eqs:=E3,N:=32,fuel:=64,fid:=25}
theorem ake:aF Tryz.prog amH:=bg Hm Iu ⟨S9,trivial⟩
theorem UB:aN Tryz.prog 25 TL:=br Tryz.f25 ake HE (toY:=auF)
def ZW:List HV:=[.agg hW, .agg [.int .i64, .int .i64, .str, .str, .str]]
def Qk:List HV:=[.agg hW, .one (.int .i64)]
def atT:HP.V ZW→ao×Opn:=fun v=>((cW v.1),(⟨v.2.1.1,v.2.1.2.1,v.2.1.2.2.1,v.2.1.2.2.2.1,v.2.1.2.2.2.2.1⟩:Opn))
def ak0:HX.V Qk→ao×Int:=fun v=>((cW v.1),v.2)
def acx:(ao×Int)→HX.V Qk:=fun y=>(uW y.1,y.2)
def adW:(ao×Opn)→Option (ao×Int):=fun x=>kC x.1 x.2
def Wv:Spec:=aO ZW Qk atT acx adW
def apx:Cfg:={T:=Fi,spec:=[(25,TL),(74,abm),(75,Uv)],ba:=aE.G Tryz.prog,eqs:=E3,N:=74,fuel:=64,fid:=26}
theorem anS:aF Tryz.prog apx:=bg Hm Iu ⟨UB,⟨ak6,⟨ah0,trivial⟩⟩⟩
theorem agQ:aN Tryz.prog 26 Wv:=br Tryz.f26 anS HE (toY:=ak0)
def EE:HS:=⟨[(2, .one (.ptr 0 0)),(4, .one (.ptr 2 0)),(20, .one (.ptr 3 0)),(21, .one (.ptr 4 0)),(23, .one (.int .i64))],[(0, .cells hW),(2, .cells hW),(3, .cells [.int .i64, .str, .int .i64]),(4, .cells hIn)],5⟩
def M5 {R:Type}:Nat→HS.V EE→(Ex→St→Option R)→Option R:=fun q v K=>
 dE (cW v.2.1) (cIn v.2.2.2.2.1) (K .ret {az:=[(4, .v (.one (.ptr 2 0))),(5, .v (.one (.int .i64 (13:Int))))],mem:=[(2, .cells [.int .i64 ((cW v.2.1).fs.aA), .int .i64 ((cW v.2.1).fs.aH), .int .i64 ((cW v.2.1).fs.next), .sl .aS ((cW v.2.1).fs.aa), .sl .kept ((cW v.2.1).aq.kept), .sl .aS ((cW v.2.1).aq.aV)])],nx:=3}) (K (.exit 1) {az:=[(2, .v (.one (.ptr 0 0))),(4, .v (.one (.ptr 2 0))),(20, .v (.one (.ptr 3 0)))],mem:=[(0, .cells [.int .i64 ((cW v.2.1).fs.aA), .int .i64 ((cW v.2.1).fs.aH), .int .i64 ((cW v.2.1).fs.next), .sl .aS ((cW v.2.1).fs.aa), .sl .kept ((cW v.2.1).aq.kept), .sl .aS ((cW v.2.1).aq.aV)]),(2, .cells [.int .i64 ((cW v.2.2.1).fs.aA), .int .i64 ((cW v.2.2.1).fs.aH), .int .i64 ((cW v.2.2.1).fs.next), .sl .aS ((cW v.2.2.1).fs.aa), .sl .kept ((cW v.2.2.1).aq.kept), .sl .aS ((cW v.2.2.1).aq.aV)]),(3, .cells [.int .i64 ((⟨v.2.2.2.1.1,v.2.2.2.1.2.1,v.2.2.2.1.2.2.1⟩:ar).dir), .str ((⟨v.2.2.2.1.1,v.2.2.2.1.2.1,v.2.2.2.1.2.2.1⟩:ar).name), .int .i64 ((⟨v.2.2.2.1.1,v.2.2.2.1.2.1,v.2.2.2.1.2.2.1⟩:ar).ino)])],nx:=4}) q v.1.2.2.2.2.1
def W9:List HV:=[.agg hW, .agg [.int .i64, .int .i64, .str, .str, .str]]
def Sa:List HV:=[.agg hW, .one (.int .i64)]
def ajZ:HP.V W9→ao×Opn:=fun v=>((cW v.1),(⟨v.2.1.1,v.2.1.2.1,v.2.1.2.2.1,v.2.1.2.2.2.1,v.2.1.2.2.2.2.1⟩:Opn))
def aep:HX.V Sa→ao×Int:=fun v=>((cW v.1),v.2)
def anZ:(ao×Int)→HX.V Sa:=fun y=>(uW y.1,y.2)
def aln:(ao×Opn)→Option (ao×Int):=fun x=>pU x.1 x.2
def RP:Spec:=aO W9 Sa ajZ anZ aln
def Xd {R:Type}:List (Nat×Hd R):=[(45,bQ EE M5)]
def T6 {R:Type}:List (Nat×Inl R):= []
def QK:Cfg:={T:=Fi,spec:=[(16,Na),(24,aah),(25,TL),(26,Wv),(27,L2),(28,Ps),(29,YR),(30,Vo),(31,ND),(32,U9),(33,GQ),(34,aav)],ba:=aE.G Tryz.prog,eqs:=E3,N:=290,fuel:=64,loops:=[(45,⟨[2,4,20,21,23], [],[0,2,3,4],5, [],[2], [], []⟩)],blocks:=[(0,⟨[2,3,4], [],[0,1,2],3, [],[2], [], []⟩),(1,⟨[2,4,20], [],[0,2,3],4, [], [], [], []⟩)],gS:=some ⟨[4,5], [],[2],3, [], [], [], []⟩,fid:=11}
theorem aek:aF Tryz.prog QK:=bg Hm Iu ⟨S6,⟨ase,⟨UB,⟨agQ,⟨S9,⟨aay,⟨ajN,⟨aiq,⟨O6,⟨ajc,⟨JQ,⟨alp,trivial⟩⟩⟩⟩⟩⟩⟩⟩⟩⟩⟩⟩
theorem ad4 {R:Type}:aQ Tryz.prog (R:=R) 0 T6:=aC _ _
theorem ape {R:Type}:bL (R:=R) (hnd 0 T6) QK Xd (sub [1,1,0,1,0,1,1,1,1,1,1,1,1,1,1,1,1,1,0,1,1,1,1,0,1,0,0] La) (HS.V EE) (HS.st EE) (HS.sh EE) M5 (bQ EE M5):=aX EE M5 (fun _ _=>rfl) (by intro q v K;kernel_rfl)
theorem auN {R:Type}:aK (R:=R) (hnd 0 T6) QK Xd La:=aB (l:=[sub [1,1,0,1,0,1,1,1,1,1,1,1,1,1,1,1,1,1,0,1,1,1,1,0,1,0,0] La]) (by kernel_rfl) (aM (b:=sub [1,1,0,1,0,1,1,1,1,1,1,1,1,1,1,1,1,1,0,1,1,1,1,0,1,0,0] La) (rid:=45) (by kernel_rfl) (by kernel_rfl) ape (trivial))
theorem Ve:aN Tryz.prog 11 RP:=bu Tryz.f11 aek HE (d:=0) ad4 auN (bC (by kernel_rfl)) (toY:=aep)
def U1:List HV:=[.agg [.int .i64, .int .i64, .str, .str, .str]]
def Ud:List HV:=[.agg [.int .i64, .int .i64, .str, .str, .str], .one (.bool)]
def ajr:HP.V U1→Opn:=fun v=>((⟨v.1.1,v.1.2.1,v.1.2.2.1,v.1.2.2.2.1,v.1.2.2.2.2.1⟩:Opn))
def agZ:HX.V Ud→Opn×Bool:=fun v=>((⟨v.1.1,v.1.2.1,v.1.2.2.1,v.1.2.2.2.1,v.1.2.2.2.2.1⟩:Opn),v.2)
def av3:(Opn×Bool)→HX.V Ud:=fun y=>((y.1.kind,(y.1.slot,(y.1.a,(y.1.b,(y.1.data,()))))),y.2)
def ajA:Opn→Option (Opn×Bool):=fun x=>nr x
def YL:Spec:=aO U1 Ud ajr av3 ajA
def atN:Cfg:={T:=Fi,ba:=aE.G Tryz.prog,eqs:=E3,N:=40,fuel:=64,fid:=15}
theorem aoh:aF Tryz.prog atN:=bg Hm Iu trivial
theorem aq9:aN Tryz.prog 15 YL:=br Tryz.f15 aoh HE (toY:=agZ)
end
end Go.Eng
namespace Go.Eng
noncomputable section
open Go Go.Proofs
def wv:List (Nat×TI):=[(3,⟨false,1, .one (.int .i64 0), .int .i64⟩),(9,⟨false,1, .one (.str []), .str⟩),(53,⟨false,1, .one (.clip .entry []), .slice .entry 85⟩),(85,⟨true,2, .agg [.str [], .int .i64 0], .struct [(0,9),(1,3)]⟩),(165,⟨false,1, .one (.int .u64 0), .int .u64⟩)]
def xr:List (Nat×List EK):= []
theorem Nw:Tryz.prog.follows .mixedOrders=true:=by kernel_rfl
theorem zl:(wv.all fun x=>tiB Tryz.prog x.1 x.2)=true:=by kernel_rfl
theorem zc:(xr.all fun x=>eqB Tryz.prog x.1 x.2)=true:=by kernel_rfl
def WO:Code:=bd Tryz.f127
def VF:Code:=bd Tryz.f129
def aei:Code:=bd Tryz.f156
def Wd:Code:=bd Tryz.f157
def amW:Code:=bd Tryz.f158
def JU:Code:=bd Tryz.f179
def Wg:Code:=bd Tryz.f180
def EU:HS:=⟨[(0, .one (.sl .entry)),(1, .one (.str)),(2, .one (.fnc 180)),(8, .one (.int .i64)),(9, .one (.int .i64)),(10, .one (.int .i64))], [],0⟩
def Ou {R:Type}:Nat→HS.V EU→(Ex→St→Option R)→Option R:=fun q v K=>
 eH v.1.1 v.1.2.1 (fun y11=>K (.exit 0) {az:=[(0, .v (.one (.sl .entry v.1.1))),(1, .v (.one (.str v.1.2.1))),(2, .v (.one (.fnc 180))),(8, .v (.one (.int .i64 v.1.2.2.2.1))),(9, .v (.one (.int .i64 y11)))],mem:= [],nx:=0}) q v.1.2.2.2.2.1 v.1.2.2.2.2.2.1
def aaQ:List HV:=[.one (.sl .entry), .one (.str)]
def SM:List HV:=[.one (.int .i64), .one (.bool)]
def adx:HP.V aaQ→(List Entry)×Str:=fun v=>(v.1,v.2.1)
def arn:HX.V SM→Int×Bool:=fun v=>(v.1,v.2)
def atC:(Int×Bool)→HX.V SM:=fun y=>(y.1,y.2)
def atn:(List Entry)×Str→Option (Int×Bool):=fun x=>nZ x.1 x.2
def DT:Spec:=aO aaQ SM adx atC atn
def abl:Cfg:={T:=wv,spec:=[(181,gr)],ba:=aE.G Tryz.prog,eqs:=xr,N:=9,fuel:=64,fid:=180}
theorem afY:aF Tryz.prog abl:=bg zl zc ⟨mG,trivial⟩
def aqx {R:Type}:Inl R:= .mk 180 abl [] Wg Tryz.f180.results.toList []
def Yp:Cfg:={T:=wv,spec:=[(181,gr)],ba:=aE.G Tryz.prog,eqs:=xr,N:=9,fuel:=64,fid:=180}
theorem af2:aF Tryz.prog Yp:=bg zl zc ⟨mG,trivial⟩
def atJ {R:Type}:Inl R:= .mk 180 Yp [] Wg Tryz.f180.results.toList []
def O9 {R:Type}:List (Nat×Hd R):=[(3,bQ EU Ou)]
def NF {R:Type}:List (Nat×Inl R):=[(30,aqx),(46,atJ)]
def Od:Cfg:={T:=wv,ba:=aE.G Tryz.prog,eqs:=xr,N:=49,fuel:=64,loops:=[(3,⟨[0,1,2,8,9,10], [], [],0, [], [], [], []⟩)],blocks:=[(0,⟨[0,1,2,8,9], [], [],0, [], [], [], []⟩)],fid:=179}
theorem apc:aF Tryz.prog Od:=bg zl zc trivial
theorem afl {R:Type}:aQ Tryz.prog (R:=R) 1 NF:=bM Tryz.f180 afY (bM Tryz.f180 af2 (aC _ _))
theorem ang {R:Type}:bL (R:=R) (hnd 1 NF) Od O9 (sub [1,1,1,0,0,0] JU) (HS.V EU) (HS.st EU) (HS.sh EU) Ou (bQ EU Ou):=aX EU Ou (fun _ _=>rfl) (by intro q v K;kernel_rfl)
theorem aqC {R:Type}:aK (R:=R) (hnd 1 NF) Od O9 JU:=aB (l:=[sub [1,1,1,0,0,0] JU]) (by kernel_rfl) (aM (b:=sub [1,1,1,0,0,0] JU) (rid:=3) (by kernel_rfl) (by kernel_rfl) ang (trivial))
def ack {R:Type}:Inl R:= .mk 179 Od O9 JU Tryz.f179.results.toList NF
def aoK {R:Type}:List (Nat×Hd R):= []
def V4 {R:Type}:List (Nat×Inl R):=[(8,ack)]
def UW:Cfg:={T:=wv,ba:=aE.G Tryz.prog,eqs:=xr,N:=11,fuel:=64,fid:=156}
theorem amR:aF Tryz.prog UW:=bg zl zc trivial
theorem atD {R:Type}:aQ Tryz.prog (R:=R) 2 V4:=bT Tryz.f179 apc aqC (bC (by kernel_rfl)) afl (aC _ _)
theorem aqg {R:Type}:aK (R:=R) (hnd 2 V4) UW aoK aei:=aB (l:= []) (by kernel_rfl) (trivial)
theorem HO:aN Tryz.prog 156 DT:=bu Tryz.f156 amR Nw (d:=2) atD aqg (bC (by kernel_rfl)) (toY:=arn)
def abj:List HV:=[.one (.sl .entry), .one (.str)]
def Q0:List HV:=[.one (.int .i64), .one (.bool)]
def aof:HP.V abj→(List Entry)×Str:=fun v=>(v.1,v.2.1)
def aoR:HX.V Q0→Int×Bool:=fun v=>(v.1,v.2)
def acJ:(Int×Bool)→HX.V Q0:=fun y=>(y.1,y.2)
def ale:(List Entry)×Str→Option (Int×Bool):=fun x=>my x.1 x.2
def Z9:Spec:=aO abj Q0 aof acJ ale
def akc:Cfg:={T:=wv,spec:=[(156,DT)],ba:=aE.G Tryz.prog,eqs:=xr,N:=21,fuel:=64,fid:=153}
theorem abM:aF Tryz.prog akc:=bg zl zc ⟨HO,trivial⟩
theorem apk:aN Tryz.prog 153 Z9:=br Tryz.f153 abM Nw (toY:=aoR)
def XS:List HV:=[.one (.sl .entry), .one (.str), .one (.int .i64)]
def P6:List HV:=[.one (.sl .entry)]
def acZ:HP.V XS→(List Entry)×Str×Int:=fun v=>(v.1,v.2.1,v.2.2.1)
def adB:HX.V P6→(List Entry):=fun v=>(v)
def arX:(List Entry)→HX.V P6:=fun y=>(y)
def ar4:(List Entry)×Str×Int→Option ((List Entry)):=fun x=>eo x.1 x.2.1 x.2.2
def Ng:Spec:=aO XS P6 acZ arX ar4
def UF:Cfg:={T:=wv,spec:=[(156,DT)],ba:=aE.G Tryz.prog,eqs:=xr,N:=8,fuel:=64,ovl:=[182],fid:=157}
theorem ahd:aF Tryz.prog UF:=bg zl zc ⟨HO,trivial⟩ (ov:=⟨Ek,trivial⟩)
def auz {R:Type}:Inl R:= .mk 157 UF [] Wd Tryz.f157.results.toList []
def XP:Cfg:={T:=wv,spec:=[(156,DT)],ba:=aE.G Tryz.prog,eqs:=xr,N:=95,fuel:=64,ovl:=[182],fid:=158}
theorem aoD:aF Tryz.prog XP:=bg zl zc ⟨HO,trivial⟩ (ov:=⟨Ek,trivial⟩)
def ahs {R:Type}:Inl R:= .mk 158 XP [] amW Tryz.f158.results.toList []
def ak1 {R:Type}:List (Nat×Hd R):= []
def Xs {R:Type}:List (Nat×Inl R):=[(17,auz),(31,ahs)]
def Sz:Cfg:={T:=wv,spec:=[(156,DT)],ba:=aE.G Tryz.prog,eqs:=xr,N:=32,fuel:=64,ovl:=[182],fid:=127}
theorem asZ:aF Tryz.prog Sz:=bg zl zc ⟨HO,trivial⟩ (ov:=⟨Ek,trivial⟩)
theorem apD {R:Type}:aQ Tryz.prog (R:=R) 1 Xs:=bM Tryz.f157 ahd (bM Tryz.f158 aoD (aC _ _))
theorem amt {R:Type}:aK (R:=R) (hnd 1 Xs) Sz ak1 WO:=aB (l:= []) (by kernel_rfl) (trivial)
theorem adq:ff Tryz.prog Sz WO:=bC (by kernel_rfl)
theorem Tc:aN Tryz.prog 127 Ng:=bu Tryz.f127 asZ Nw (d:=1) apD amt adq (toY:=adB)
def VG:List HV:=[.one (.sl .entry), .one (.str)]
def Pk:List HV:=[.one (.sl .entry)]
def alV:HP.V VG→(List Entry)×Str:=fun v=>(v.1,v.2.1)
def apJ:HX.V Pk→(List Entry):=fun v=>(v)
def ae6:(List Entry)→HX.V Pk:=fun y=>(y)
def aka:(List Entry)×Str→Option ((List Entry)):=fun x=>fH x.1 x.2
def Q5:Spec:=aO VG Pk alV ae6 aka
def WB:Cfg:={T:=wv,spec:=[(156,DT)],ba:=aE.G Tryz.prog,eqs:=xr,N:=8,fuel:=64,fid:=157}
theorem amh:aF Tryz.prog WB:=bg zl zc ⟨HO,trivial⟩
def aqE {R:Type}:Inl R:= .mk 157 WB [] Wd Tryz.f157.results.toList []
def aeg {R:Type}:List (Nat×Hd R):= []
def YK {R:Type}:List (Nat×Inl R):=[(17,aqE)]
def Rp:Cfg:={T:=wv,spec:=[(156,DT)],ba:=aE.G Tryz.prog,eqs:=xr,N:=35,fuel:=64,fid:=129}
theorem aop:aF Tryz.prog Rp:=bg zl zc ⟨HO,trivial⟩
theorem alI {R:Type}:aQ Tryz.prog (R:=R) 1 YK:=bM Tryz.f157 amh (aC _ _)
theorem ap7 {R:Type}:aK (R:=R) (hnd 1 YK) Rp aeg VF:=aB (l:= []) (by kernel_rfl) (trivial)
theorem akM:ff Tryz.prog Rp VF:=bC (by kernel_rfl)
theorem XW:aN Tryz.prog 129 Q5:=bu Tryz.f129 aop Nw (d:=1) alI ap7 akM (toY:=apJ)
end
end Go.Eng
namespace Go.Eng
noncomputable section
open Go Go.Proofs
def iP:List (Nat×TI):=[(3,⟨false,1, .one (.int .i64 0), .int .i64⟩),(4,⟨false,1, .one (.bool false), .bool⟩),(5,⟨false,1, .one (.int .u8 0), .int .u8⟩),(9,⟨false,1, .one (.str []), .str⟩),(21,⟨false,1, .one (.int .i32 0), .int .i32⟩),(73,⟨false,1, .one (.mC), .other⟩),(106,⟨false,1, .one (.clip .str []), .slice .str 9⟩),(192,⟨true,256, .agg [.bool false, .bool false, .bool false, .bool false, .bool false, .bool false, .bool false, .bool false, .bool false, .bool false, .bool false, .bool false, .bool false, .bool false, .bool false, .bool false, .bool false, .bool false, .bool false, .bool false, .bool false, .bool false, .bool false, .bool false, .bool false, .bool false, .bool false, .bool false, .bool false, .bool false, .bool false, .bool false, .bool false, .bool false, .bool false, .bool false, .bool false, .bool false, .bool false, .bool false, .bool false, .bool false, .bool false, .bool false, .bool false, .bool false, .bool false, .bool false, .bool false, .bool false, .bool false, .bool false, .bool false, .bool false, .bool false, .bool false, .bool false, .bool false, .bool false, .bool false, .bool false, .bool false, .bool false, .bool false, .bool false, .bool false, .bool false, .bool false, .bool false, .bool false, .bool false, .bool false, .bool false, .bool false, .bool false, .bool false, .bool false, .bool false, .bool false, .bool false, .bool false, .bool false, .bool false, .bool false, .bool false, .bool false, .bool false, .bool false, .bool false, .bool false, .bool false, .bool false, .bool false, .bool false, .bool false, .bool false, .bool false, .bool false, .bool false, .bool false, .bool false, .bool false, .bool false, .bool false, .bool false, .bool false, .bool false, .bool false, .bool false, .bool false, .bool false, .bool false, .bool false, .bool false, .bool false, .bool false, .bool false, .bool false, .bool false, .bool false, .bool false, .bool false, .bool false, .bool false, .bool false, .bool false, .bool false, .bool false, .bool false, .bool false, .bool false, .bool false, .bool false, .bool false, .bool false, .bool false, .bool false, .bool false, .bool false, .bool false, .bool false, .bool false, .bool false, .bool false, .bool false, .bool false, .bool false, .bool false, .bool false, .bool false, .bool false, .bool false, .bool false, .bool false, .bool false, .bool false, .bool false, .bool false, .bool false, .bool false, .bool false, .bool false, .bool false, .bool false, .bool false, .bool false, .bool false, .bool false, .bool false, .bool false, .bool false, .bool false, .bool false, .bool false, .bool false, .bool false, .bool false, .bool false, .bool false, .bool false, .bool false, .bool false, .bool false, .bool false, .bool false, .bool false, .bool false, .bool false, .bool false, .bool false, .bool false, .bool false, .bool false, .bool false, .bool false, .bool false, .bool false, .bool false, .bool false, .bool false, .bool false, .bool false, .bool false, .bool false, .bool false, .bool false, .bool false, .bool false, .bool false, .bool false, .bool false, .bool false, .bool false, .bool false, .bool false, .bool false, .bool false, .bool false, .bool false, .bool false, .bool false, .bool false, .bool false, .bool false, .bool false, .bool false, .bool false, .bool false, .bool false, .bool false, .bool false, .bool false, .bool false, .bool false, .bool false, .bool false, .bool false, .bool false, .bool false, .bool false, .bool false, .bool false, .bool false, .bool false, .bool false, .bool false, .bool false, .bool false, .bool false, .bool false, .bool false, .bool false, .bool false, .bool false, .bool false, .bool false], .array 256 4⟩)]
def iO:List (Nat×List EK):= []
theorem KB:Tryz.prog.follows .mixedOrders=true:=by kernel_rfl
theorem jd:(iP.all fun x=>tiB Tryz.prog x.1 x.2)=true:=by kernel_rfl
theorem i_:(iO.all fun x=>eqB Tryz.prog x.1 x.2)=true:=by kernel_rfl
def at2:Code:=bd Tryz.f56
def asY:Code:=bd Tryz.f90
def WX:Code:=bd Tryz.f92
def Wz:Code:=bd Tryz.f116
def anc:Code:=bd Tryz.f117
def W2:Code:=bd Tryz.f119
def ais:Code:=bd Tryz.f120
def U3:Code:=bd Tryz.f122
def aeO:Code:=bd Tryz.f123
def CQ:Code:=bd Tryz.f146
def Dn:Code:=bd Tryz.f147
def Xc:Code:=bd Tryz.f148
def JN:Code:=bd Tryz.f150
def an9:Code:=bd Tryz.f151
def Lv:Code:=bd Tryz.f152
def ags:Code:=bd Tryz.f170
def Cc:Code:=bd Tryz.f174
def EO:Code:=bd Tryz.f186
def ss:Code:=bd Tryz.f190
def acq:Code:=bd Tryz.f191
def LK:Code:=bd Tryz.f192
def afo:Code:=bd Tryz.f193
def aa6:Code:=bd Tryz.f202
def abP:Code:=bd Tryz.f203
def V_:List HV:=[.one (.sl .str)]
def S8:List HV:=[.one (.str)]
def av_:HP.V V_→(List Str):=fun v=>(v.1)
def ar0:HX.V S8→Str:=fun v=>(v)
def arh:Str→HX.V S8:=fun y=>(y)
def ae7:(List Str)→Option (Str):=fun x=>lW x
def pr:Spec:=aO V_ S8 av_ arh ae7
def aue:Cfg:={T:=iP,spec:=[(149,lg)],ba:=aE.G Tryz.prog,eqs:=iO,N:=9,fuel:=64,fid:=118}
theorem av6:aF Tryz.prog aue:=bg jd i_ ⟨vM,trivial⟩
theorem pY:aN Tryz.prog 118 pr:=br Tryz.f118 av6 KB (toY:=ar0)
def F5:HS:=⟨[(0, .one (.str)),(6, .one (.ptr 1 0)),(8, .one (.int .i64))],[(1, .cells [.aG true, .aG false, .aG false, .aG false, .aG false, .aG false, .aG false, .aG false, .aG false, .aG false, .aG false, .aG false, .aG false, .aG false, .aG false, .aG false, .aG false, .aG false, .aG false, .aG false, .aG false, .aG false, .aG false, .aG false, .aG false, .aG false, .aG false, .aG false, .aG false, .aG false, .aG false, .aG false, .aG false, .aG false, .aG false, .aG false, .aG false, .aG false, .aG false, .aG false, .aG false, .aG false, .aG false, .aG false, .aG false, .aG false, .aG false, .aG true, .aG false, .aG false, .aG false, .aG false, .aG false, .aG false, .aG false, .aG false, .aG false, .aG false, .aG false, .aG false, .aG false, .aG false, .aG false, .aG false, .aG false, .aG false, .aG false, .aG false, .aG false, .aG false, .aG false, .aG false, .aG false, .aG false, .aG false, .aG false, .aG false, .aG false, .aG false, .aG false, .aG false, .aG false, .aG false, .aG false, .aG false, .aG false, .aG false, .aG false, .aG false, .aG false, .aG false, .aG false, .aG false, .aG false, .aG false, .aG false, .aG false, .aG false, .aG false, .aG false, .aG false, .aG false, .aG false, .aG false, .aG false, .aG false, .aG false, .aG false, .aG false, .aG false, .aG false, .aG false, .aG false, .aG false, .aG false, .aG false, .aG false, .aG false, .aG false, .aG false, .aG false, .aG false, .aG false, .aG false, .aG false, .aG false, .aG false, .aG false, .aG false, .aG false, .aG false, .aG false, .aG false, .aG false, .aG false, .aG false, .aG false, .aG false, .aG false, .aG false, .aG false, .aG false, .aG false, .aG false, .aG false, .aG false, .aG false, .aG false, .aG false, .aG false, .aG false, .aG false, .aG false, .aG false, .aG false, .aG false, .aG false, .aG false, .aG false, .aG false, .aG false, .aG false, .aG false, .aG false, .aG false, .aG false, .aG false, .aG false, .aG false, .aG false, .aG false, .aG false, .aG false, .aG false, .aG false, .aG false, .aG false, .aG false, .aG false, .aG false, .aG false, .aG false, .aG false, .aG false, .aG false, .aG false, .aG false, .aG false, .aG false, .aG false, .aG false, .aG false, .aG false, .aG false, .aG false, .aG false, .aG false, .aG false, .aG false, .aG false, .aG false, .aG false, .aG false, .aG false, .aG false, .aG false, .aG false, .aG false, .aG false, .aG false, .aG false, .aG false, .aG false, .aG false, .aG false, .aG false, .aG false, .aG false, .aG false, .aG false, .aG false, .aG false, .aG false, .aG false, .aG false, .aG false, .aG false, .aG false, .aG false, .aG false, .aG false, .aG false, .aG false, .aG false, .aG false, .aG false, .aG false, .aG false, .aG false, .aG false, .aG false, .aG false, .aG false, .aG false, .aG false, .aG false, .aG false, .aG false, .aG false, .aG false, .aG false, .aG false, .aG false, .aG false, .aG false, .aG false])],2⟩
def Oh {R:Type}:Nat→HS.V F5→(Ex→St→Option R)→Option R:=fun q v K=>
 cz v.1.1 (fun y5=>K .ret {az:=[(4, .v (.one (.int .i64 y5)))],mem:= [],nx:=0}) (K (.exit 0) {az:= [],mem:= [],nx:=0}) q v.1.2.2.1
def DP:HS:=⟨[(175, .one (.iter 1)),(1000001, .one (.xI ([47,0]:Str))),(1000009, .one (.int .i64)),(1000045, .one (.iter 0))],[(0, .iter),(1, .iter)],2⟩
def KF {R:Type}:Nat→HS.V DP→(Ex→St→Option R)→Option R:=fun q v K=>
 cK v.2.2.1.1 (fun y15=>K .ret {az:=[(4, .v (.one (.int .i64 y15))),(1000001, .v (.one (.str ([47,0]:Str)))),(1000009, .v (.one (.int .i64 v.1.2.2.1))),(1000045, .v (.one (.iter 0)))],mem:=[(0, .iter v.2.1.1 v.2.1.2)],nx:=1}) (K (.exit 9) {az:=[(1000001, .v (.one (.str ([47,0]:Str)))),(1000009, .v (.one (.int .i64 v.1.2.2.1))),(1000045, .v (.one (.iter 0)))],mem:=[(0, .iter v.2.1.1 v.2.1.2)],nx:=1}) q v.2.2.1.2
def EM:HS:=⟨[(0, .one (.xI ([47,0]:Str))),(7, .one (.str)),(8, .one (.int .i64)),(9, .one (.int .i64)),(12, .one (.int .i64)),(1000001, .one (.xI ([47,0]:Str))),(1000009, .one (.int .i64)),(1000045, .one (.iter 0))],[(0, .iter)],1⟩
def L5 {R:Type}:Nat→HS.V EM→(Ex→St→Option R)→Option R:=fun q v K=>
 di v.1.2.1 v.1.2.2.1 v.1.2.2.2.1 (K (.exit 3) {az:=[(8, .v (.one (.int .i64 v.1.2.2.1))),(9, .v (.one (.int .i64 v.1.2.2.2.1))),(1000001, .v (.one (.str ([47,0]:Str)))),(1000009, .v (.one (.int .i64 v.1.2.2.2.2.2.2.1))),(1000045, .v (.one (.iter 0)))],mem:=[(0, .iter v.2.1.1 v.2.1.2)],nx:=1}) q v.1.2.2.2.2.1
def D2:HS:=⟨[(0, .one (.xI ([47,0]:Str))),(7, .one (.str)),(8, .one (.int .i64)),(9, .one (.int .i64)),(1000001, .one (.xI ([47,0]:Str))),(1000009, .one (.int .i64)),(1000045, .one (.iter 0))],[(0, .iter)],1⟩
def M4 {R:Type}:Nat→HS.V D2→(Ex→St→Option R)→Option R:=fun q v K=>
 bJ v.1.2.1 v.1.2.2.1 v.1.2.2.2.1 (fun y50=>K .ret {az:=[(4, .v (.one (.int .i64 y50))),(1000001, .v (.one (.str ([47,0]:Str)))),(1000009, .v (.one (.int .i64 v.1.2.2.2.2.2.1))),(1000045, .v (.one (.iter 0)))],mem:=[(0, .iter v.2.1.1 v.2.1.2)],nx:=1}) (K (.exit 1) {az:=[(1000001, .v (.one (.str ([47,0]:Str)))),(1000009, .v (.one (.int .i64 v.1.2.2.2.2.2.1))),(1000045, .v (.one (.iter 0)))],mem:=[(0, .iter v.2.1.1 v.2.1.2)],nx:=1}) q
def DS:HS:=⟨[(1, .one (.xI ([47,0]:Str))),(45, .one (.iter 0))],[(0, .iter)],1⟩
def MH {R:Type}:Nat→HS.V DS→(Ex→St→Option R)→Option R:=fun q v K=>
 aJ v.2.1.1 (fun y66=>K .ret {az:=[(4, .v (.one (.int .i64 y66)))],mem:= [],nx:=0}) (K (.exit 2) {az:= [],mem:= [],nx:=0}) q v.2.1.2
def Xn:List HV:=[.one (.str), .one (.xI ([47,0]:Str))]
def P9:List HV:=[.one (.bool)]
def anD:HP.V Xn→Str:=fun v=>(v.1)
def abJ:HX.V P9→Bool:=fun v=>(v)
def acG:Bool→HX.V P9:=fun y=>(y)
def avO:Str→Option (Bool):=fun x=>fL x
def VS:Spec:=aO Xn P9 anD acG avO
def ZN:Cfg:={T:=iP,ba:=aE.G Tryz.prog,eqs:=iO,N:=5,fuel:=64,fid:=191}
theorem ag2:aF Tryz.prog ZN:=bg jd i_ trivial
def avz {R:Type}:Inl R:= .mk 191 ZN [] acq Tryz.f191.results.toList []
def WR {R:Type}:List (Nat×Hd R):= []
def SJ {R:Type}:List (Nat×Inl R):= []
def S_:Cfg:={T:=iP,ba:=aE.G Tryz.prog,eqs:=iO,N:=21,fuel:=64,loops:=[(2,⟨[0,2,4,1000000,1000001], [],[0],1, [], [], [], []⟩)],blocks:=[(0,⟨[2,1000000,1000001], [],[0],1, [], [], [], []⟩)],gS:=some ⟨[2,3,1000000,1000001], [],[0],1, [], [], [], []⟩,fid:=192}
theorem akZ:aF Tryz.prog S_:=bg jd i_ trivial
theorem aqw {R:Type}:aQ Tryz.prog (R:=R) 1 SJ:=aC _ _
theorem afq {R:Type}:aK (R:=R) (hnd 1 SJ) S_ WR LK:=aB (l:=[sub [1,0,1,0,0] LK]) (by kernel_rfl) (jq (b:=sub [1,0,1,0,0] LK) (rid:=2) (by kernel_rfl) (by kernel_rfl) (trivial))
def ajt {R:Type}:Inl R:= .mk 192 S_ WR LK Tryz.f192.results.toList SJ
def Yk:Cfg:={T:=iP,ba:=aE.G Tryz.prog,eqs:=iO,N:=10,fuel:=64,fid:=193}
theorem aqM:aF Tryz.prog Yk:=bg jd i_ trivial
def ap6 {R:Type}:Inl R:= .mk 193 Yk [] afo Tryz.f193.results.toList []
def aaP:Cfg:={T:=iP,spec:=[(175,cM)],ba:=aE.G Tryz.prog,eqs:=iO,N:=8,fuel:=64,fid:=202}
theorem ach:aF Tryz.prog aaP:=bg jd i_ ⟨dW,trivial⟩
def aeD {R:Type}:Inl R:= .mk 202 aaP [] aa6 Tryz.f202.results.toList []
def Z6:Cfg:={T:=iP,ba:=aE.G Tryz.prog,eqs:=iO,N:=17,fuel:=64,fid:=203}
theorem aks:aF Tryz.prog Z6:=bg jd i_ trivial
def acD {R:Type}:Inl R:= .mk 203 Z6 [] abP Tryz.f203.results.toList []
def abc:Cfg:={T:=iP,spec:=[(175,cM)],ba:=aE.G Tryz.prog,eqs:=iO,N:=8,fuel:=64,fid:=202}
theorem asD:aF Tryz.prog abc:=bg jd i_ ⟨dW,trivial⟩
def aft {R:Type}:Inl R:= .mk 202 abc [] aa6 Tryz.f202.results.toList []
def JD {R:Type}:List (Nat×Hd R):=[(38,bQ DP KF),(5,bQ D2 M4),(12,bQ EM L5)]
def Iv {R:Type}:List (Nat×Inl R):=[(170,aeD),(185,acD),(41,aft)]
def H5:Cfg:={T:=iP,ba:=aE.G Tryz.prog,eqs:=iO,N:=187,fuel:=64,loops:=[(38,⟨[175,1000001,1000009,1000045], [],[0,1],2, [], [], [], []⟩),(12,⟨[0,7,8,9,12,1000001,1000009,1000045], [],[0],1, [], [], [], []⟩),(5,⟨[0,7,8,9,1000001,1000009,1000045], [],[0],1, [], [], [], []⟩)],blocks:=[(9,⟨[1000001,1000009,1000045], [],[0],1, [], [], [], []⟩),(1,⟨[1000001,1000009,1000045], [],[0],1, [], [], [], []⟩),(3,⟨[8,9,1000001,1000009,1000045], [],[0],1, [], [], [], []⟩)],gS:=some ⟨[4,1000001,1000009,1000045], [],[0],1, [], [], [], []⟩,fid:=190}
theorem asC:aF Tryz.prog H5:=bg jd i_ trivial
theorem ak5 {R:Type}:aQ Tryz.prog (R:=R) 1 Iv:=bM Tryz.f202 ach (bM Tryz.f203 aks (bM Tryz.f202 asD (aC _ _)))
theorem abY {R:Type}:bL (R:=R) (hnd 1 Iv) H5 JD (sub [1,0,1,1,1,0,0,1,0,0] ss) (HS.V DP) (HS.st DP) (HS.sh DP) KF (bQ DP KF):=aX DP KF (fun _ _=>rfl) (by intro q v K;kernel_rfl)
theorem av8 {R:Type}:bL (R:=R) (hnd 1 Iv) H5 JD (sub [1,0,1,1,1,1,1,1,0,1,1,1,1,0,0,0] ss) (HS.V D2) (HS.st D2) (HS.sh D2) M4 (bQ D2 M4):=aX D2 M4 (fun _ _=>rfl) (by intro q v K;kernel_rfl)
theorem adL {R:Type}:bL (R:=R) (hnd 1 Iv) H5 JD (sub [1,0,1,1,1,1,1,1,0,1,1,1,1,0,0,0,1,0,0,1,0,1,0,0] ss) (HS.V EM) (HS.st EM) (HS.sh EM) L5 (bQ EM L5):=aX EM L5 (fun _ _=>rfl) (by intro q v K;kernel_rfl)
theorem akv {R:Type}:aK (R:=R) (hnd 1 Iv) H5 JD ss:=aB (l:=[sub [1,0,1,1,1,0,0,1,0,0] ss,sub [1,0,1,1,1,1,1,1,0,1,1,1,1,0,0,0] ss,sub [1,0,1,1,1,1,1,1,0,1,1,1,1,0,0,0,1,0,0,1,0,1,0,0] ss,sub [1,0,1,1,1,1,1,1,0,1,1,1,1,1,1,1,0,1,0,1,1,1,0,0] ss,sub [1,0,1,1,1,1,1,1,0,1,1,1,1,1,1,1,0,1,0,1,1,1,0,0,1,0,0,1,0,0,1,0,0] ss]) (by kernel_rfl) (aM (b:=sub [1,0,1,1,1,0,0,1,0,0] ss) (rid:=38) (by kernel_rfl) (by kernel_rfl) abY (aM (b:=sub [1,0,1,1,1,1,1,1,0,1,1,1,1,0,0,0] ss) (rid:=5) (by kernel_rfl) (by kernel_rfl) av8 (aM (b:=sub [1,0,1,1,1,1,1,1,0,1,1,1,1,0,0,0,1,0,0,1,0,1,0,0] ss) (rid:=12) (by kernel_rfl) (by kernel_rfl) adL (jq (b:=sub [1,0,1,1,1,1,1,1,0,1,1,1,1,1,1,1,0,1,0,1,1,1,0,0] ss) (rid:=25) (by kernel_rfl) (by kernel_rfl) (jq (b:=sub [1,0,1,1,1,1,1,1,0,1,1,1,1,1,1,1,0,1,0,1,1,1,0,0,1,0,0,1,0,0,1,0,0] ss) (rid:=29) (by kernel_rfl) (by kernel_rfl) (trivial))))))
def asv {R:Type}:Inl R:= .mk 190 H5 JD ss Tryz.f190.results.toList Iv
def NA {R:Type}:List (Nat×Hd R):=[(12,bQ F5 Oh),(18,bQ DS MH)]
def Jf {R:Type}:List (Nat×Inl R):=[(26,avz),(29,ajt),(42,ap6),(52,asv)]
def Kp:Cfg:={T:=iP,ba:=aE.G Tryz.prog,eqs:=iO,N:=55,fuel:=64,loops:=[(18,⟨[1,45], [],[0],1, [], [], [], []⟩),(12,⟨[0,6,8], [],[1],2, [], [], [], []⟩)],blocks:=[(2,⟨[], [], [],0, [], [], [], []⟩),(0,⟨[], [], [],0, [], [], [], []⟩)],gS:=some ⟨[4], [], [],0, [], [], [], []⟩,fid:=174}
theorem aol:aF Tryz.prog Kp:=bg jd i_ trivial
theorem aj7 {R:Type}:aQ Tryz.prog (R:=R) 2 Jf:=bM Tryz.f191 ag2 (bT Tryz.f192 akZ afq (bC (by kernel_rfl)) aqw (bM Tryz.f193 aqM (bT Tryz.f190 asC akv (bC (by kernel_rfl)) ak5 (aC _ _))))
theorem auO {R:Type}:bL (R:=R) (hnd 2 Jf) Kp NA (sub [1,1,1,0,1,0,1,1,0,0,1,0,0] Cc) (HS.V F5) (HS.st F5) (HS.sh F5) Oh (bQ F5 Oh):=aX F5 Oh (fun _ _=>rfl) (by intro q v K;kernel_rfl)
theorem ak7 {R:Type}:bL (R:=R) (hnd 2 Jf) Kp NA (sub [1,1,1,1,0,1,0,0] Cc) (HS.V DS) (HS.st DS) (HS.sh DS) MH (bQ DS MH):=aX DS MH (fun _ _=>rfl) (by intro q v K;kernel_rfl)
theorem aeM {R:Type}:aK (R:=R) (hnd 2 Jf) Kp NA Cc:=aB (l:=[sub [1,1,1,0,1,0,1,1,0,0,1,0,0] Cc,sub [1,1,1,1,0,1,0,0] Cc]) (by kernel_rfl) (aM (b:=sub [1,1,1,0,1,0,1,1,0,0,1,0,0] Cc) (rid:=12) (by kernel_rfl) (by kernel_rfl) auO (aM (b:=sub [1,1,1,1,0,1,0,0] Cc) (rid:=18) (by kernel_rfl) (by kernel_rfl) ak7 (trivial)))
def auq {R:Type}:Inl R:= .mk 174 Kp NA Cc Tryz.f174.results.toList Jf
def ami {R:Type}:List (Nat×Hd R):= []
def ZC {R:Type}:List (Nat×Inl R):=[(7,auq)]
def W_:Cfg:={T:=iP,ba:=aE.G Tryz.prog,eqs:=iO,N:=9,fuel:=64,fid:=151}
theorem anL:aF Tryz.prog W_:=bg jd i_ trivial
theorem ab3 {R:Type}:aQ Tryz.prog (R:=R) 3 ZC:=bT Tryz.f174 aol aeM (bC (by kernel_rfl)) aj7 (aC _ _)
theorem aji {R:Type}:aK (R:=R) (hnd 3 ZC) W_ ami an9:=aB (l:= []) (by kernel_rfl) (trivial)
theorem aee:aN Tryz.prog 151 VS:=bu Tryz.f151 anL KB (d:=3) ab3 aji (bC (by kernel_rfl)) (toY:=abJ)
def Z0:List HV:=[.one (.str)]
def Uq:List HV:=[.one (.bool)]
def ary:HP.V Z0→Str:=fun v=>(v.1)
def akG:HX.V Uq→Bool:=fun v=>(v)
def asf:Bool→HX.V Uq:=fun y=>(y)
def aic:Str→Option (Bool):=fun x=>mu x
def C1:Spec:=aO Z0 Uq ary asf aic
def amb:Cfg:={T:=iP,spec:=[(151,VS)],ba:=aE.G Tryz.prog,eqs:=iO,N:=23,fuel:=64,fid:=121}
theorem au6:aF Tryz.prog amb:=bg jd i_ ⟨aee,trivial⟩
theorem E8:aN Tryz.prog 121 C1:=br Tryz.f121 au6 KB (toY:=akG)
def EB:HS:=⟨[(0, .one (.yld 9)),(1, .one (.ptr 6 0)),(2, .one (.ptr 5 0)),(3, .one (.ptr 7 0)),(2000002, .one (.ptr 2 0)),(4000000, .one (.str))],[(2, .cells [.own 10]),(3, .loop true 13 146 3 [(2, .one (.ptr 2 0))]),(4, .cells [.yld 3]),(5, .cells [.str]),(6, .cells [.xI ([47]:Str)]),(7, .cells [.Ks .i64 (0:Int)]),(9, .loop true 15 147 3 [(2, .one (.ptr 4 0))]),(10, .row .str)],11⟩
def NG {R:Type}:Nat→HS.V EB→(Ex→St→Option R)→Option R:=fun q v K=>
 bB (fun y6 y7=>K (.exit 2) {az:=[(0, .v (.one (.yld 9))),(2, .v (.one (.ptr 5 0))),(2000002, .v (.one (.ptr 2 0))),(4000000, .v (.one (.str v.1.2.2.2.2.2.1)))],mem:=[(2, .cells [.own 10]),(3, .loop true 13 146 3 [(2, .v (.one (.ptr 2 0)))]),(4, .cells [.yld 3]),(5, .cells [.str y6]),(9, .loop true 15 147 3 [(2, .v (.one (.ptr 4 0)))]),(10, .row .str y7)],nx:=11}) q v.2.2.2.2.1.1 v.2.2.2.2.2.2.2.2.1
def Dx:HS:=⟨[(0, .one (.own 10)),(1, .one (.fnc 120)),(7, .one (.int .i64)),(8, .one (.int .i64)),(2000004, .one (.own 10)),(2000012, .one (.bool))],[(10, .row .str)],11⟩
def KZ {R:Type}:Nat→HS.V Dx→(Ex→St→Option R)→Option R:=fun q v K=>
 cJ v.1.2.2.1 v.2.1 (fun y17=>K .ret {az:=[(4, .v (.one (.int .i64 y17))),(2000004, .v (.one (.own 10))),(2000012, .v (.one (.bool v.1.2.2.2.2.2.1)))],mem:=[(10, .row .str v.2.1)],nx:=11}) (K (.exit 0) {az:=[(2000004, .v (.one (.own 10))),(2000012, .v (.one (.bool v.1.2.2.2.2.2.1)))],mem:=[(10, .row .str v.2.1)],nx:=11}) q v.1.2.2.2.1
def ZV:List HV:=[.one (.str)]
def RE:List HV:=[.one (.sl .str), .one (.bool)]
def asx:HP.V ZV→Str:=fun v=>(v.1)
def ac7:HX.V RE→(List Str)×Bool:=fun v=>(v.1,v.2)
def aiT:(List Str)×Bool→HX.V RE:=fun y=>(y.1,y.2)
def apH:Str→Option ((List Str)×Bool):=fun x=>l6 x
def Uk:Spec:=aO ZV RE asx aiT apH
def VT:Cfg:={T:=iP,spec:=[(118,pr)],ba:=aE.G Tryz.prog,eqs:=iO,N:=4,fuel:=64,fid:=117}
theorem arv:aF Tryz.prog VT:=bg jd i_ ⟨pY,trivial⟩
def acI {R:Type}:Inl R:= .mk 117 VT [] anc Tryz.f117.results.toList []
def UN:Cfg:={T:=iP,spec:=[(118,pr)],ba:=aE.G Tryz.prog,eqs:=iO,N:=8,fuel:=64,fid:=170}
theorem anO:aF Tryz.prog UN:=bg jd i_ ⟨pY,trivial⟩
def am1 {R:Type}:Inl R:= .mk 170 UN [] ags Tryz.f170.results.toList []
def Z5 {R:Type}:List (Nat×Hd R):= []
def SN {R:Type}:List (Nat×Inl R):=[(7,am1)]
def QT:Cfg:={T:=iP,spec:=[(118,pr)],ba:=aE.G Tryz.prog,eqs:=iO,N:=8,fuel:=64,fid:=148}
theorem are:aF Tryz.prog QT:=bg jd i_ ⟨pY,trivial⟩
theorem adS {R:Type}:aQ Tryz.prog (R:=R) 2 SN:=bM Tryz.f170 anO (aC _ _)
theorem arM {R:Type}:aK (R:=R) (hnd 2 SN) QT Z5 Xc:=aB (l:= []) (by kernel_rfl) (trivial)
def ath {R:Type}:Inl R:= .mk 148 QT Z5 Xc Tryz.f148.results.toList SN
def Zg {R:Type}:List (Nat×Hd R):= []
def SW {R:Type}:List (Nat×Inl R):= []
def PH:Cfg:={T:=iP,spec:=[(118,pr),(175,cM)],ba:=aE.G Tryz.prog,eqs:=iO,N:=143,fuel:=64,gS:=some ⟨[4,2000000,2000001,2000002,2000003,4000002,6000000], [],[2,3,4,5,6,7,9,10],11, [], [], [], []⟩,fid:=152}
theorem amd:aF Tryz.prog PH:=bg jd i_ ⟨pY,⟨dW,trivial⟩⟩
theorem abO {R:Type}:aQ Tryz.prog (R:=R) 0 SW:=aC _ _
theorem acs {R:Type}:aK (R:=R) (hnd 0 SW) PH Zg Lv:=aB (l:=[sub [1,1,1,1,1,1,1,1,0,0,0] Lv]) (by kernel_rfl) (jq (b:=sub [1,1,1,1,1,1,1,1,0,0,0] Lv) (rid:=15) (by kernel_rfl) (by kernel_rfl) (trivial))
def ahI {R:Type}:Inl R:= .mk 152 PH Zg Lv Tryz.f152.results.toList SW
def aak {R:Type}:List (Nat×Hd R):= []
def QC {R:Type}:List (Nat×Inl R):=[(7,ahI)]
def Qt:Cfg:={T:=iP,spec:=[(118,pr)],ba:=aE.G Tryz.prog,eqs:=iO,N:=8,fuel:=64,fid:=122}
theorem anb:aF Tryz.prog Qt:=bg jd i_ ⟨pY,trivial⟩
theorem alX {R:Type}:aQ Tryz.prog (R:=R) 1 QC:=bT Tryz.f152 amd acs (bC (by kernel_rfl)) abO (aC _ _)
theorem acb {R:Type}:aK (R:=R) (hnd 1 QC) Qt aak U3:=aB (l:= []) (by kernel_rfl) (trivial)
def ahC {R:Type}:Inl R:= .mk 122 Qt aak U3 Tryz.f122.results.toList QC
def UO:Code:=(nh 3 CQ).2.1
def XJ:Code:=(nh 3 CQ).2.2
def R1 {R:Type}:List (Nat×Hd R):= []
def K3 {R:Type}:List (Nat×Inl R):= []
def LQ:Cfg:={T:=iP,spec:=[(118,pr)],ba:=aE.G Tryz.prog,eqs:=iO,N:=13,fuel:=64,fid:=146,rnd:=true}
theorem ajx:aF Tryz.prog LQ:=bg jd i_ ⟨pY,trivial⟩
theorem aii {R:Type}:aQ Tryz.prog (R:=R) 0 K3:=aC _ _
theorem apM {R:Type}:aK (R:=R) (hnd 0 K3) LQ R1 UO:=aB (l:= []) (by kernel_rfl) (trivial)
theorem aoM {R:Type}:aK (R:=R) (hnd 0 K3) LQ R1 XJ:=aB (l:= []) (by kernel_rfl) (trivial)
def afO {R:Type}:Inl R:= .rnd 146 3 LQ R1 [7] UO XJ K3
def W0:Code:=(nh 3 Dn).2.1
def Yb:Code:=(nh 3 Dn).2.2
def T7 {R:Type}:List (Nat×Hd R):= []
def LX {R:Type}:List (Nat×Inl R):=[(12,afO)]
def MK:Cfg:={T:=iP,spec:=[(118,pr)],ba:=aE.G Tryz.prog,eqs:=iO,N:=15,fuel:=64,fid:=147,rnd:=true}
theorem aoY:aF Tryz.prog MK:=bg jd i_ ⟨pY,trivial⟩
theorem aib {R:Type}:aQ Tryz.prog (R:=R) 1 LX:=lP (by kernel_rfl) ajx apM aoM aii (aC _ _)
theorem as4 {R:Type}:aK (R:=R) (hnd 1 LX) MK T7 W0:=aB (l:= []) (by kernel_rfl) (trivial)
theorem ai9 {R:Type}:aK (R:=R) (hnd 1 LX) MK T7 Yb:=aB (l:= []) (by kernel_rfl) (trivial)
def anQ {R:Type}:Inl R:= .rnd 147 3 MK T7 [6] W0 Yb LX
def XT:Code:=(nh 3 CQ).2.1
def X8:Code:=(nh 3 CQ).2.2
def OZ {R:Type}:List (Nat×Hd R):= []
def Mz {R:Type}:List (Nat×Inl R):= []
def LR:Cfg:={T:=iP,spec:=[(118,pr)],ba:=aE.G Tryz.prog,eqs:=iO,N:=13,fuel:=64,fid:=146,rnd:=true}
theorem aqF:aF Tryz.prog LR:=bg jd i_ ⟨pY,trivial⟩
theorem adr {R:Type}:aQ Tryz.prog (R:=R) 0 Mz:=aC _ _
theorem ai4 {R:Type}:aK (R:=R) (hnd 0 Mz) LR OZ XT:=aB (l:= []) (by kernel_rfl) (trivial)
theorem aoz {R:Type}:aK (R:=R) (hnd 0 Mz) LR OZ X8:=aB (l:= []) (by kernel_rfl) (trivial)
def abE {R:Type}:Inl R:= .rnd 146 3 LR OZ [7] XT X8 Mz
def VZ:Code:=(nh 3 Dn).2.1
def VO:Code:=(nh 3 Dn).2.2
def Qh {R:Type}:List (Nat×Hd R):= []
def LN {R:Type}:List (Nat×Inl R):=[(12,abE)]
def Me:Cfg:={T:=iP,spec:=[(118,pr)],ba:=aE.G Tryz.prog,eqs:=iO,N:=15,fuel:=64,fid:=147,rnd:=true}
theorem avL:aF Tryz.prog Me:=bg jd i_ ⟨pY,trivial⟩
theorem aiI {R:Type}:aQ Tryz.prog (R:=R) 1 LN:=lP (by kernel_rfl) aqF ai4 aoz adr (aC _ _)
theorem agx {R:Type}:aK (R:=R) (hnd 1 LN) Me Qh VZ:=aB (l:= []) (by kernel_rfl) (trivial)
theorem asy {R:Type}:aK (R:=R) (hnd 1 LN) Me Qh VO:=aB (l:= []) (by kernel_rfl) (trivial)
def auY {R:Type}:Inl R:= .rnd 147 3 Me Qh [6] VZ VO LN
def PU {R:Type}:List (Nat×Hd R):=[(5,bQ EB NG)]
def K0 {R:Type}:List (Nat×Inl R):=[(31,ahC),(41,anQ),(51,auY)]
def KJ:Cfg:={T:=iP,spec:=[(118,pr)],ba:=aE.G Tryz.prog,eqs:=iO,N:=52,fuel:=64,loops:=[(5,⟨[0,1,2,3,2000002,4000000], [],[2,3,4,5,6,7,9,10],11, [], [],[(2,0,10, .str)], []⟩)],blocks:=[(2,⟨[0,2,2000002,4000000], [],[2,3,4,5,9,10],11, [], [], [], []⟩)],fid:=186}
theorem aff:aF Tryz.prog KJ:=bg jd i_ ⟨pY,trivial⟩
theorem abT {R:Type}:aQ Tryz.prog (R:=R) 2 K0:=bT Tryz.f122 anb acb (bC (by kernel_rfl)) alX (lP (by kernel_rfl) aoY as4 ai9 aib (lP (by kernel_rfl) avL agx asy aiI (aC _ _)))
theorem alG {R:Type}:bL (R:=R) (hnd 2 K0) KJ PU (sub [1,0,0,0] EO) (HS.V EB) (HS.st EB) (HS.sh EB) NG (bQ EB NG):=aX EB NG (fun _ _=>rfl) (by intro q v K;kernel_rfl)
theorem akW {R:Type}:aK (R:=R) (hnd 2 K0) KJ PU EO:=aB (l:=[sub [0,1,0,0,0,0] EO,sub [1,0,0,0] EO]) (by kernel_rfl) (jq (b:=sub [0,1,0,0,0,0] EO) (rid:=1) (by kernel_rfl) (by kernel_rfl) (aM (b:=sub [1,0,0,0] EO) (rid:=5) (by kernel_rfl) (by kernel_rfl) alG (trivial)))
def akh {R:Type}:Inl R:= .mk 186 KJ PU EO Tryz.f186.results.toList K0
def aaM {R:Type}:List (Nat×Hd R):= []
def P4 {R:Type}:List (Nat×Inl R):=[(5,ath),(1000003,akh)]
def NL:Cfg:={T:=iP,spec:=[(118,pr)],ba:=aE.G Tryz.prog,eqs:=iO,N:=15,fuel:=64,fid:=147,J8:=[(3,[2])]}
theorem agI:aF Tryz.prog NL:=bg jd i_ ⟨pY,trivial⟩
theorem ar8 {R:Type}:aQ Tryz.prog (R:=R) 3 P4:=bT Tryz.f148 are arM (bC (by kernel_rfl)) adS (bT Tryz.f186 aff akW (bC (by kernel_rfl)) abT (aC _ _))
theorem afS {R:Type}:aK (R:=R) (hnd 3 P4) NL aaM Dn:=aB (l:= []) (by kernel_rfl) (trivial)
theorem amP:ff Tryz.prog NL Dn:=Oy (x:=nh 3 Dn) (by kernel_rfl) (by kernel_rfl)
def aj5 {R:Type}:Inl R:= .mk 147 NL aaM Dn Tryz.f147.results.toList P4
def ZU {R:Type}:List (Nat×Hd R):= []
def OH {R:Type}:List (Nat×Inl R):=[(1000003,aj5)]
def LP:Cfg:={T:=iP,spec:=[(118,pr)],ba:=aE.G Tryz.prog,eqs:=iO,N:=13,fuel:=64,fid:=146,J8:=[(3,[2])]}
theorem apA:aF Tryz.prog LP:=bg jd i_ ⟨pY,trivial⟩
theorem aju {R:Type}:aQ Tryz.prog (R:=R) 4 OH:=bT Tryz.f147 agI afS amP ar8 (aC _ _)
theorem as6 {R:Type}:aK (R:=R) (hnd 4 OH) LP ZU CQ:=aB (l:= []) (by kernel_rfl) (trivial)
theorem ac_:ff Tryz.prog LP CQ:=Oy (x:=nh 3 CQ) (by kernel_rfl) (by kernel_rfl)
def agz {R:Type}:Inl R:= .mk 146 LP ZU CQ Tryz.f146.results.toList OH
def Vg {R:Type}:List (Nat×Hd R):= []
def TH {R:Type}:List (Nat×Inl R):=[(4,agz)]
def Td:Cfg:={T:=iP,spec:=[(118,pr)],ba:=aE.G Tryz.prog,eqs:=iO,N:=5,fuel:=64,fid:=116}
theorem acg:aF Tryz.prog Td:=bg jd i_ ⟨pY,trivial⟩
theorem ab2 {R:Type}:aQ Tryz.prog (R:=R) 5 TH:=bT Tryz.f146 apA as6 ac_ aju (aC _ _)
theorem abR {R:Type}:aK (R:=R) (hnd 5 TH) Td Vg Wz:=aB (l:= []) (by kernel_rfl) (trivial)
def atE {R:Type}:Inl R:= .mk 116 Td Vg Wz Tryz.f116.results.toList TH
def W5:Cfg:={T:=iP,spec:=[(118,pr),(121,C1)],ba:=aE.G Tryz.prog,eqs:=iO,N:=6,fuel:=64,fid:=120}
theorem alm:aF Tryz.prog W5:=bg jd i_ ⟨pY,⟨E8,trivial⟩⟩
def akD {R:Type}:Inl R:= .mk 120 W5 [] ais Tryz.f120.results.toList []
def R4 {R:Type}:List (Nat×Hd R):=[(2,bQ Dx KZ)]
def MG {R:Type}:List (Nat×Inl R):=[(16,akD)]
def K7:Cfg:={T:=iP,spec:=[(118,pr)],ba:=aE.G Tryz.prog,eqs:=iO,N:=19,fuel:=64,loops:=[(2,⟨[0,1,7,8,2000004,2000012], [],[10],11, [], [], [], []⟩)],blocks:=[(0,⟨[2000004,2000012], [],[10],11, [], [], [], []⟩)],gS:=some ⟨[4,2000004,2000012], [],[10],11, [], [], [], []⟩,fid:=150}
theorem as0:aF Tryz.prog K7:=bg jd i_ ⟨pY,trivial⟩
theorem arQ {R:Type}:aQ Tryz.prog (R:=R) 4 MG:=bM Tryz.f120 alm (aC _ _)
theorem akE {R:Type}:bL (R:=R) (hnd 4 MG) K7 R4 (sub [1,0,1,0,0] JN) (HS.V Dx) (HS.st Dx) (HS.sh Dx) KZ (bQ Dx KZ):=aX Dx KZ (fun _ _=>rfl) (by intro q v K;kernel_rfl)
theorem akw {R:Type}:aK (R:=R) (hnd 4 MG) K7 R4 JN:=aB (l:=[sub [1,0,1,0,0] JN]) (by kernel_rfl) (aM (b:=sub [1,0,1,0,0] JN) (rid:=2) (by kernel_rfl) (by kernel_rfl) akE (trivial))
def afZ {R:Type}:Inl R:= .mk 150 K7 R4 JN Tryz.f150.results.toList MG
def aaX {R:Type}:List (Nat×Hd R):= []
def QG {R:Type}:List (Nat×Inl R):=[(7,afZ)]
def Pa:Cfg:={T:=iP,spec:=[(118,pr)],ba:=aE.G Tryz.prog,eqs:=iO,N:=9,fuel:=64,fid:=119}
theorem arW:aF Tryz.prog Pa:=bg jd i_ ⟨pY,trivial⟩
theorem agt {R:Type}:aQ Tryz.prog (R:=R) 5 QG:=bT Tryz.f150 as0 akw (bC (by kernel_rfl)) arQ (aC _ _)
theorem ac3 {R:Type}:aK (R:=R) (hnd 5 QG) Pa aaX W2:=aB (l:= []) (by kernel_rfl) (trivial)
def aro {R:Type}:Inl R:= .mk 119 Pa aaX W2 Tryz.f119.results.toList QG
def arF {R:Type}:List (Nat×Hd R):= []
def Vk {R:Type}:List (Nat×Inl R):=[(6,acI),(7,atE),(14,aro)]
def aaA:Cfg:={T:=iP,spec:=[(118,pr)],ba:=aE.G Tryz.prog,eqs:=iO,N:=17,fuel:=64,fid:=90}
theorem agw:aF Tryz.prog aaA:=bg jd i_ ⟨pY,trivial⟩
theorem agK {R:Type}:aQ Tryz.prog (R:=R) 6 Vk:=bM Tryz.f117 arv (bT Tryz.f116 acg abR (bC (by kernel_rfl)) ab2 (bT Tryz.f119 arW ac3 (bC (by kernel_rfl)) agt (aC _ _)))
theorem apf {R:Type}:aK (R:=R) (hnd 6 Vk) aaA arF asY:=aB (l:= []) (by kernel_rfl) (trivial)
theorem aal:aN Tryz.prog 90 Uk:=bu Tryz.f90 agw KB (d:=6) agK apf (bC (by kernel_rfl)) (toY:=ac7)
def aa4:List HV:=[.one (.str), .one (.str)]
def OU:List HV:=[.one (.bool)]
def auG:HP.V aa4→Str×Str:=fun v=>(v.1,v.2.1)
def aur:HX.V OU→Bool:=fun v=>(v)
def ab5:Bool→HX.V OU:=fun y=>(y)
def arf:(Str×Str)→Option (Bool):=fun x=>aw x.1 x.2
def UC:Spec:=aO aa4 OU auG ab5 arf
def Ze:Cfg:={T:=iP,ba:=aE.G Tryz.prog,eqs:=iO,N:=18,fuel:=64,fid:=123}
theorem ali:aF Tryz.prog Ze:=bg jd i_ trivial
def aot {R:Type}:Inl R:= .mk 123 Ze [] aeO Tryz.f123.results.toList []
def Wp {R:Type}:List (Nat×Hd R):= []
def O3 {R:Type}:List (Nat×Inl R):=[(7,aot)]
def Un:Cfg:={T:=iP,ba:=aE.G Tryz.prog,eqs:=iO,N:=8,fuel:=64,fid:=92}
theorem ail:aF Tryz.prog Un:=bg jd i_ trivial
theorem agk {R:Type}:aQ Tryz.prog (R:=R) 1 O3:=bM Tryz.f123 ali (aC _ _)
theorem avU {R:Type}:aK (R:=R) (hnd 1 O3) Un Wp WX:=aB (l:= []) (by kernel_rfl) (trivial)
def amV {R:Type}:Inl R:= .mk 92 Un Wp WX Tryz.f92.results.toList O3
def adP {R:Type}:List (Nat×Hd R):= []
def Vy {R:Type}:List (Nat×Inl R):=[(16,amV)]
def Y5:Cfg:={T:=iP,ba:=aE.G Tryz.prog,eqs:=iO,N:=18,fuel:=64,fid:=56}
theorem aeR:aF Tryz.prog Y5:=bg jd i_ trivial
theorem aeG {R:Type}:aQ Tryz.prog (R:=R) 2 Vy:=bT Tryz.f92 ail avU (bC (by kernel_rfl)) agk (aC _ _)
theorem afy {R:Type}:aK (R:=R) (hnd 2 Vy) Y5 adP at2:=aB (l:= []) (by kernel_rfl) (trivial)
theorem asb:aN Tryz.prog 56 UC:=bu Tryz.f56 aeR KB (d:=2) aeG afy (bC (by kernel_rfl)) (toY:=aur)
end
end Go.Eng
namespace Go.Eng
noncomputable section
open Go Go.Proofs
def Mq:List (Nat×TI):=[(3,⟨false,1, .one (.int .i64 0), .int .i64⟩),(9,⟨false,1, .one (.str []), .str⟩),(22,⟨false,1, .one (.clip .aS []), .slice .aS 55⟩),(24,⟨true,4, .agg [.int .i64 0, .int .i64 0, .int .i64 0, .clip .aS []], .struct [(0,3),(1,3),(2,3),(3,22)]⟩),(55,⟨true,6, .agg [.int .i64 0, .int .i64 0, .int .i64 0, .str [], .int .i64 0, .clip .entry []], .struct [(0,3),(1,3),(2,3),(3,9),(4,3),(5,53)]⟩)]
def Ob:List (Nat×List EK):= []
theorem O1:Tryz.prog.follows .mixedOrders=true:=by kernel_rfl
theorem QQ:(Mq.all fun x=>tiB Tryz.prog x.1 x.2)=true:=by kernel_rfl
theorem TD:(Ob.all fun x=>eqB Tryz.prog x.1 x.2)=true:=by kernel_rfl
def LY:Code:=bd Tryz.f155
def Z_:List HV:=[.agg hFs]
def Tt:List HV:=[.one (.int .i64)]
def asq:HP.V Z_→Fs:=fun v=>((cFs v.1))
def al2:HX.V Tt→Int:=fun v=>(v)
def apr:Int→HX.V Tt:=fun y=>(y)
def aix:Fs→Option (Int):=fun x=>qe x
def VW:Spec:=aO Z_ Tt asq apr aix
def avQ:Cfg:={T:=Mq,ba:=aE.G Tryz.prog,eqs:=Ob,N:=6,fuel:=64,fid:=154}
theorem agu:aF Tryz.prog avQ:=bg QQ TD trivial
theorem al8:aN Tryz.prog 154 VW:=br Tryz.f154 agu O1 (toY:=al2)
def DZ:HS:=⟨[(1, .one (.ptr 0 0)),(3, .one (.int .i64)),(7, .one (.int .i64)),(8, .one (.int .i64))],[(0, .cells hFs)],1⟩
def Oi {R:Type}:Nat→HS.V DZ→(Ex→St→Option R)→Option R:=fun q v K=>
 fy v.1.2.2.1 (cFs v.2.1) (fun y7=>K (.exit 0) {az:=[(3, .v (.one (.int .i64 y7)))],mem:= [],nx:=0}) q v.1.2.1 v.1.2.2.2.1
def abe:List HV:=[.agg hFs]
def T9:List HV:=[.one (.int .i64)]
def am4:HP.V abe→Fs:=fun v=>((cFs v.1))
def akj:HX.V T9→Int:=fun v=>(v)
def avP:Int→HX.V T9:=fun y=>(y)
def ad3:Fs→Option (Int):=fun x=>oU x
def WE:Spec:=aO abe T9 am4 avP ad3
def VU {R:Type}:List (Nat×Hd R):=[(3,bQ DZ Oi)]
def OS {R:Type}:List (Nat×Inl R):= []
def Py:Cfg:={T:=Mq,ba:=aE.G Tryz.prog,eqs:=Ob,N:=29,fuel:=64,loops:=[(3,⟨[1,3,7,8], [],[0],1, [], [], [], []⟩)],blocks:=[(0,⟨[3], [], [],0, [], [], [], []⟩)],fid:=155}
theorem ahg:aF Tryz.prog Py:=bg QQ TD trivial
theorem apz {R:Type}:aQ Tryz.prog (R:=R) 0 OS:=aC _ _
theorem aeZ {R:Type}:bL (R:=R) (hnd 0 OS) Py VU (sub [1,1,0,1,0,0] LY) (HS.V DZ) (HS.st DZ) (HS.sh DZ) Oi (bQ DZ Oi):=aX DZ Oi (fun _ _=>rfl) (by intro q v K;kernel_rfl)
theorem ans {R:Type}:aK (R:=R) (hnd 0 OS) Py VU LY:=aB (l:=[sub [1,1,0,1,0,0] LY]) (by kernel_rfl) (aM (b:=sub [1,1,0,1,0,0] LY) (rid:=3) (by kernel_rfl) (by kernel_rfl) aeZ (trivial))
theorem aqP:aN Tryz.prog 155 WE:=bu Tryz.f155 ahg O1 (d:=0) apz ans (bC (by kernel_rfl)) (toY:=akj)
def aaC:List HV:=[.agg hFs, .one (.int .i64), .one (.int .i64)]
def Um:List HV:=[.one (.bool)]
def ads:HP.V aaC→Fs×Int×Int:=fun v=>((cFs v.1),v.2.1,v.2.2.1)
def aj9:HX.V Um→Bool:=fun v=>(v)
def an_:Bool→HX.V Um:=fun y=>(y)
def akd:(Fs×Int×Int)→Option (Bool):=fun x=>fN x.1 x.2.1 x.2.2
def Bo:Spec:=aO aaC Um ads an_ akd
def af5:Cfg:={T:=Mq,spec:=[(154,VW),(155,WE)],ba:=aE.G Tryz.prog,eqs:=Ob,N:=23,fuel:=64,fid:=125}
theorem asS:aF Tryz.prog af5:=bg QQ TD ⟨al8,⟨aqP,trivial⟩⟩
theorem Cl:aN Tryz.prog 125 Bo:=br Tryz.f125 asS O1 (toY:=aj9)
end
end Go.Eng
namespace Go.Eng
noncomputable section
open Go Go.Proofs
def nI:List (Nat×TI):=[(3,⟨false,1, .one (.int .i64 0), .int .i64⟩),(22,⟨false,1, .one (.clip .aS []), .slice .aS 55⟩),(24,⟨true,4, .agg [.int .i64 0, .int .i64 0, .int .i64 0, .clip .aS []], .struct [(0,3),(1,3),(2,3),(3,22)]⟩),(55,⟨true,6, .agg [.int .i64 0, .int .i64 0, .int .i64 0, .str [], .int .i64 0, .clip .entry []], .struct [(0,3),(1,3),(2,3),(3,9),(4,3),(5,53)]⟩),(165,⟨false,1, .one (.int .u64 0), .int .u64⟩)]
def nL:List (Nat×List EK):= []
theorem Kc:Tryz.prog.follows .mixedOrders=true:=by kernel_rfl
theorem o8:(nI.all fun x=>tiB Tryz.prog x.1 x.2)=true:=by kernel_rfl
theorem o5:(nL.all fun x=>eqB Tryz.prog x.1 x.2)=true:=by kernel_rfl
def asU:Code:=bd Tryz.f106
def Pc:Code:=bd Tryz.f107
def afs:Code:=bd Tryz.f126
def alL:Code:=bd Tryz.f128
def amA:Code:=bd Tryz.f132
def aj0:Code:=bd Tryz.f133
def Ji:Code:=bd Tryz.f134
def Nt:Code:=bd Tryz.f136
def Ls:Code:=bd Tryz.f161
def avV:Code:=bd Tryz.f162
def Ov:Code:=bd Tryz.f163
def DI:HS:=⟨[(0, .one (.sl .aS)),(1, .one (.int .i64)),(2, .one (.fnc 161)),(8, .one (.int .i64)),(9, .one (.int .i64)),(10, .one (.int .i64))], [],0⟩
def Nc {R:Type}:Nat→HS.V DI→(Ex→St→Option R)→Option R:=fun q v K=>
 cY v.1.1 v.1.2.1 (fun y10=>K (.exit 0) {az:=[(0, .v (.one (.sl .aS v.1.1))),(1, .v (.one (.int .i64 v.1.2.1))),(2, .v (.one (.fnc 161))),(8, .v (.one (.int .i64 v.1.2.2.2.1))),(9, .v (.one (.int .i64 y10)))],mem:= [],nx:=0}) q v.1.2.2.2.2.1 v.1.2.2.2.2.2.1
def Z7:List HV:=[.agg hFs, .one (.int .i64)]
def Su:List HV:=[.one (.int .i64), .one (.bool)]
def avj:HP.V Z7→Fs×Int:=fun v=>((cFs v.1),v.2.1)
def amL:HX.V Su→Int×Bool:=fun v=>(v.1,v.2)
def apL:(Int×Bool)→HX.V Su:=fun y=>(y.1,y.2)
def avC:(Fs×Int)→Option (Int×Bool):=fun x=>nM x.1 x.2
def Dj:Spec:=aO Z7 Su avj apL avC
def Xb:Cfg:={T:=nI,ba:=aE.G Tryz.prog,eqs:=nL,N:=6,fuel:=64,fid:=163}
theorem ahb:aF Tryz.prog Xb:=bg o8 o5 trivial
def avA {R:Type}:Inl R:= .mk 163 Xb [] Ov Tryz.f163.results.toList []
def aaB:Cfg:={T:=nI,ba:=aE.G Tryz.prog,eqs:=nL,N:=6,fuel:=64,fid:=163}
theorem ata:aF Tryz.prog aaB:=bg o8 o5 trivial
def aqX {R:Type}:Inl R:= .mk 163 aaB [] Ov Tryz.f163.results.toList []
def aat {R:Type}:List (Nat×Hd R):= []
def Q1 {R:Type}:List (Nat×Inl R):=[(8,avA),(10,aqX)]
def Ta:Cfg:={T:=nI,ba:=aE.G Tryz.prog,eqs:=nL,N:=20,fuel:=64,fid:=136}
theorem arK:aF Tryz.prog Ta:=bg o8 o5 trivial
theorem ahH {R:Type}:aQ Tryz.prog (R:=R) 1 Q1:=bM Tryz.f163 ahb (bM Tryz.f163 ata (aC _ _))
theorem ajF {R:Type}:aK (R:=R) (hnd 1 Q1) Ta aat Nt:=aB (l:= []) (by kernel_rfl) (trivial)
def aeK {R:Type}:Inl R:= .mk 136 Ta aat Nt Tryz.f136.results.toList Q1
def Yc {R:Type}:List (Nat×Hd R):= []
def Ti {R:Type}:List (Nat×Inl R):=[(8,aeK)]
def T8:Cfg:={T:=nI,ba:=aE.G Tryz.prog,eqs:=nL,N:=9,fuel:=64,fid:=161}
theorem aox:aF Tryz.prog T8:=bg o8 o5 trivial
theorem as5 {R:Type}:aQ Tryz.prog (R:=R) 2 Ti:=bT Tryz.f136 arK ajF (bC (by kernel_rfl)) ahH (aC _ _)
theorem ahn {R:Type}:aK (R:=R) (hnd 2 Ti) T8 Yc Ls:=aB (l:= []) (by kernel_rfl) (trivial)
def anh {R:Type}:Inl R:= .mk 161 T8 Yc Ls Tryz.f161.results.toList Ti
def VE:Cfg:={T:=nI,ba:=aE.G Tryz.prog,eqs:=nL,N:=6,fuel:=64,fid:=163}
theorem ak3:aF Tryz.prog VE:=bg o8 o5 trivial
def ao1 {R:Type}:Inl R:= .mk 163 VE [] Ov Tryz.f163.results.toList []
def Zp:Cfg:={T:=nI,ba:=aE.G Tryz.prog,eqs:=nL,N:=6,fuel:=64,fid:=163}
theorem acr:aF Tryz.prog Zp:=bg o8 o5 trivial
def ala {R:Type}:Inl R:= .mk 163 Zp [] Ov Tryz.f163.results.toList []
def Vl {R:Type}:List (Nat×Hd R):= []
def TV {R:Type}:List (Nat×Inl R):=[(8,ao1),(10,ala)]
def Pz:Cfg:={T:=nI,ba:=aE.G Tryz.prog,eqs:=nL,N:=20,fuel:=64,fid:=136}
theorem asp:aF Tryz.prog Pz:=bg o8 o5 trivial
theorem ag9 {R:Type}:aQ Tryz.prog (R:=R) 1 TV:=bM Tryz.f163 ak3 (bM Tryz.f163 acr (aC _ _))
theorem aoV {R:Type}:aK (R:=R) (hnd 1 TV) Pz Vl Nt:=aB (l:= []) (by kernel_rfl) (trivial)
def afK {R:Type}:Inl R:= .mk 136 Pz Vl Nt Tryz.f136.results.toList TV
def aai {R:Type}:List (Nat×Hd R):= []
def Tm {R:Type}:List (Nat×Inl R):=[(8,afK)]
def Rz:Cfg:={T:=nI,ba:=aE.G Tryz.prog,eqs:=nL,N:=9,fuel:=64,fid:=161}
theorem aqt:aF Tryz.prog Rz:=bg o8 o5 trivial
theorem aqu {R:Type}:aQ Tryz.prog (R:=R) 2 Tm:=bT Tryz.f136 asp aoV (bC (by kernel_rfl)) ag9 (aC _ _)
theorem af_ {R:Type}:aK (R:=R) (hnd 2 Tm) Rz aai Ls:=aB (l:= []) (by kernel_rfl) (trivial)
def at3 {R:Type}:Inl R:= .mk 161 Rz aai Ls Tryz.f161.results.toList Tm
def Tu {R:Type}:List (Nat×Hd R):=[(3,bQ DI Nc)]
def NW {R:Type}:List (Nat×Inl R):=[(30,anh),(46,at3)]
def Mx:Cfg:={T:=nI,ba:=aE.G Tryz.prog,eqs:=nL,N:=49,fuel:=64,loops:=[(3,⟨[0,1,2,8,9,10], [], [],0, [], [], [], []⟩)],blocks:=[(0,⟨[0,1,2,8,9], [], [],0, [], [], [], []⟩)],fid:=134}
theorem as3:aF Tryz.prog Mx:=bg o8 o5 trivial
theorem ahx {R:Type}:aQ Tryz.prog (R:=R) 3 NW:=bT Tryz.f161 aox ahn (bC (by kernel_rfl)) as5 (bT Tryz.f161 aqt af_ (bC (by kernel_rfl)) aqu (aC _ _))
theorem ai_ {R:Type}:bL (R:=R) (hnd 3 NW) Mx Tu (sub [1,1,1,0,0,0] Ji) (HS.V DI) (HS.st DI) (HS.sh DI) Nc (bQ DI Nc):=aX DI Nc (fun _ _=>rfl) (by intro q v K;kernel_rfl)
theorem ap2 {R:Type}:aK (R:=R) (hnd 3 NW) Mx Tu Ji:=aB (l:=[sub [1,1,1,0,0,0] Ji]) (by kernel_rfl) (aM (b:=sub [1,1,1,0,0,0] Ji) (rid:=3) (by kernel_rfl) (by kernel_rfl) ai_ (trivial))
def anY {R:Type}:Inl R:= .mk 134 Mx Tu Ji Tryz.f134.results.toList NW
def ao_ {R:Type}:List (Nat×Hd R):= []
def V5 {R:Type}:List (Nat×Inl R):=[(9,anY)]
def abi:Cfg:={T:=nI,ba:=aE.G Tryz.prog,eqs:=nL,N:=12,fuel:=64,fid:=132}
theorem abG:aF Tryz.prog abi:=bg o8 o5 trivial
theorem as7 {R:Type}:aQ Tryz.prog (R:=R) 4 V5:=bT Tryz.f134 as3 ap2 (bC (by kernel_rfl)) ahx (aC _ _)
theorem auK {R:Type}:aK (R:=R) (hnd 4 V5) abi ao_ amA:=aB (l:= []) (by kernel_rfl) (trivial)
theorem EH:aN Tryz.prog 132 Dj:=bu Tryz.f132 abG Kc (d:=4) as7 auK (bC (by kernel_rfl)) (toY:=amL)
def W4:List HV:=[.agg hFs, .one (.int .i64)]
def Pt:List HV:=[.agg hIn, .one (.bool)]
def aj2:HP.V W4→Fs×Int:=fun v=>((cFs v.1),v.2.1)
def apV:HX.V Pt→al×Bool:=fun v=>((cIn v.1),v.2)
def apZ:(al×Bool)→HX.V Pt:=fun y=>(uIn y.1,y.2)
def aty:(Fs×Int)→Option (al×Bool):=fun x=>cf x.1 x.2
def mH:Spec:=aO W4 Pt aj2 apZ aty
def acT:Cfg:={T:=nI,spec:=[(132,Dj)],ba:=aE.G Tryz.prog,eqs:=nL,N:=22,fuel:=64,fid:=102}
theorem amk:aF Tryz.prog acT:=bg o8 o5 ⟨EH,trivial⟩
theorem nj:aN Tryz.prog 102 mH:=br Tryz.f102 amk Kc (toY:=apV)
def Yx:List HV:=[.agg hFs]
def Sd:List HV:=[.agg hFs, .one (.int .i64)]
def ahi:HP.V Yx→Fs:=fun v=>((cFs v.1))
def acX:HX.V Sd→Fs×Int:=fun v=>((cFs v.1),v.2)
def ac0:(Fs×Int)→HX.V Sd:=fun y=>(uFs y.1,y.2)
def ao4:Fs→Option (Fs×Int):=fun x=>kc x
def aac:Spec:=aO Yx Sd ahi ac0 ao4
def XR:Cfg:={T:=nI,ba:=aE.G Tryz.prog,eqs:=nL,N:=8,fuel:=64,fid:=107}
theorem ahQ:aF Tryz.prog XR:=bg o8 o5 trivial
def ahG {R:Type}:Inl R:= .mk 107 XR [] Pc Tryz.f107.results.toList []
def adV {R:Type}:List (Nat×Hd R):= []
def aaN {R:Type}:List (Nat×Inl R):=[(13,ahG)]
def WL:Cfg:={T:=nI,ba:=aE.G Tryz.prog,eqs:=nL,N:=17,fuel:=64,fid:=126}
theorem ai7:aF Tryz.prog WL:=bg o8 o5 trivial
theorem ac6 {R:Type}:aQ Tryz.prog (R:=R) 1 aaN:=bM Tryz.f107 ahQ (aC _ _)
theorem ajf {R:Type}:aK (R:=R) (hnd 1 aaN) WL adV afs:=aB (l:= []) (by kernel_rfl) (trivial)
theorem aed:aN Tryz.prog 126 aac:=bu Tryz.f126 ai7 Kc (d:=1) ac6 ajf (bC (by kernel_rfl)) (toY:=acX)
def Vz:List HV:=[.agg hFs, .agg hIn]
def SO:List HV:=[.agg hFs]
def apF:HP.V Vz→Fs×al:=fun v=>((cFs v.1),(cIn v.2.1))
def asu:HX.V SO→Fs:=fun v=>((cFs v))
def af0:Fs→HX.V SO:=fun y=>(uFs y)
def adI:(Fs×al)→Option (Fs):=fun x=>a_ x.1 x.2
def vQ:Spec:=aO Vz SO apF af0 adI
def aaJ:Cfg:={T:=nI,spec:=[(132,Dj)],ba:=aE.G Tryz.prog,eqs:=nL,N:=8,fuel:=64,ovl:=[137],fid:=107}
theorem aod:aF Tryz.prog aaJ:=bg o8 o5 ⟨EH,trivial⟩ (ov:=⟨yk,trivial⟩)
def akk {R:Type}:Inl R:= .mk 107 aaJ [] Pc Tryz.f107.results.toList []
def YW:Cfg:={T:=nI,spec:=[(132,Dj)],ba:=aE.G Tryz.prog,eqs:=nL,N:=95,fuel:=64,ovl:=[137],fid:=106}
theorem ah8:aF Tryz.prog YW:=bg o8 o5 ⟨EH,trivial⟩ (ov:=⟨yk,trivial⟩)
def agG {R:Type}:Inl R:= .mk 106 YW [] asU Tryz.f106.results.toList []
def ac5 {R:Type}:List (Nat×Hd R):= []
def Zf {R:Type}:List (Nat×Inl R):=[(16,akk),(30,agG)]
def Y8:Cfg:={T:=nI,spec:=[(132,Dj)],ba:=aE.G Tryz.prog,eqs:=nL,N:=33,fuel:=64,ovl:=[137],fid:=128}
theorem ajV:aF Tryz.prog Y8:=bg o8 o5 ⟨EH,trivial⟩ (ov:=⟨yk,trivial⟩)
theorem asV {R:Type}:aQ Tryz.prog (R:=R) 1 Zf:=bM Tryz.f107 aod (bM Tryz.f106 ah8 (aC _ _))
theorem ajg {R:Type}:aK (R:=R) (hnd 1 Zf) Y8 ac5 alL:=aB (l:= []) (by kernel_rfl) (trivial)
theorem yF:aN Tryz.prog 128 vQ:=bu Tryz.f128 ajV Kc (d:=1) asV ajg (bC (by kernel_rfl)) (toY:=asu)
def X1:List HV:=[.agg hFs, .one (.int .i64)]
def QI:List HV:=[.agg hFs]
def at1:HP.V X1→Fs×Int:=fun v=>((cFs v.1),v.2.1)
def agY:HX.V QI→Fs:=fun v=>((cFs v))
def asc:Fs→HX.V QI:=fun y=>(uFs y)
def aph:(Fs×Int)→Option (Fs):=fun x=>o4 x.1 x.2
def Wq:Spec:=aO X1 QI at1 asc aph
def Vf:Cfg:={T:=nI,spec:=[(132,Dj)],ba:=aE.G Tryz.prog,eqs:=nL,N:=8,fuel:=64,fid:=107}
theorem aum:aF Tryz.prog Vf:=bg o8 o5 ⟨EH,trivial⟩
def akN {R:Type}:Inl R:= .mk 107 Vf [] Pc Tryz.f107.results.toList []
def XA:Cfg:={T:=nI,spec:=[(132,Dj)],ba:=aE.G Tryz.prog,eqs:=nL,N:=33,fuel:=64,fid:=162}
theorem ahF:aF Tryz.prog XA:=bg o8 o5 ⟨EH,trivial⟩
def aj_ {R:Type}:Inl R:= .mk 162 XA [] avV Tryz.f162.results.toList []
def aht {R:Type}:List (Nat×Hd R):= []
def V9 {R:Type}:List (Nat×Inl R):=[(15,akN),(23,aj_)]
def Zz:Cfg:={T:=nI,spec:=[(132,Dj)],ba:=aE.G Tryz.prog,eqs:=nL,N:=26,fuel:=64,fid:=133}
theorem atu:aF Tryz.prog Zz:=bg o8 o5 ⟨EH,trivial⟩
theorem alz {R:Type}:aQ Tryz.prog (R:=R) 1 V9:=bM Tryz.f107 aum (bM Tryz.f162 ahF (aC _ _))
theorem aoA {R:Type}:aK (R:=R) (hnd 1 V9) Zz aht aj0:=aB (l:= []) (by kernel_rfl) (trivial)
theorem aoF:aN Tryz.prog 133 Wq:=bu Tryz.f133 atu Kc (d:=1) alz aoA (bC (by kernel_rfl)) (toY:=agY)
end
end Go.Eng
namespace Go.Eng
noncomputable section
open Go Go.Proofs
def ZK:List (Nat×TI):=[(3,⟨false,1, .one (.int .i64 0), .int .i64⟩),(9,⟨false,1, .one (.str []), .str⟩),(24,⟨true,4, .agg [.int .i64 0, .int .i64 0, .int .i64 0, .clip .aS []], .struct [(0,3),(1,3),(2,3),(3,22)]⟩),(53,⟨false,1, .one (.clip .entry []), .slice .entry 85⟩),(55,⟨true,6, .agg [.int .i64 0, .int .i64 0, .int .i64 0, .str [], .int .i64 0, .clip .entry []], .struct [(0,3),(1,3),(2,3),(3,9),(4,3),(5,53)]⟩),(59,⟨true,3, .agg [.int .i64 0, .str [], .int .i64 0], .struct [(0,3),(1,9),(2,3)]⟩)]
def aaV:List (Nat×List EK):= []
theorem acW:Tryz.prog.follows .mixedOrders=true:=by kernel_rfl
theorem ag5:(ZK.all fun x=>tiB Tryz.prog x.1 x.2)=true:=by kernel_rfl
theorem ari:(aaV.all fun x=>eqB Tryz.prog x.1 x.2)=true:=by kernel_rfl
def Xy:List HV:=[.agg hFs, .agg [.int .i64, .str, .int .i64], .one (.int .i64), .one (.str)]
def Rr:List HV:=[.agg hFs, .one (.int .i64)]
def afV:HP.V Xy→Fs×ar×Int×Str:=fun v=>((cFs v.1),(⟨v.2.1.1,v.2.1.2.1,v.2.1.2.2.1⟩:ar),v.2.2.1,v.2.2.2.1)
def avg:HX.V Rr→Fs×Int:=fun v=>((cFs v.1),v.2)
def atX:(Fs×Int)→HX.V Rr:=fun y=>(uFs y.1,y.2)
def agj:(Fs×ar×Int×Str)→Option (Fs×Int):=fun x=>me x.1 x.2.1 x.2.2.1 x.2.2.2
def Vp:Spec:=aO Xy Rr afV atX agj
def ahl:Cfg:={T:=ZK,spec:=[(102,mH),(121,C1),(125,Bo),(126,aac),(127,Ng),(128,vQ)],ba:=aE.G Tryz.prog,eqs:=aaV,N:=65,fuel:=64,fid:=94}
theorem afw:aF Tryz.prog ahl:=bg ag5 ari ⟨nj,⟨E8,⟨Cl,⟨aed,⟨Tc,⟨yF,trivial⟩⟩⟩⟩⟩⟩
theorem alY:aN Tryz.prog 94 Vp:=br Tryz.f94 afw acW (toY:=avg)
end
end Go.Eng
namespace Go.Eng
noncomputable section
open Go Go.Proofs
def Wo:List (Nat×TI):=[(3,⟨false,1, .one (.int .i64 0), .int .i64⟩),(9,⟨false,1, .one (.str []), .str⟩),(24,⟨true,4, .agg [.int .i64 0, .int .i64 0, .int .i64 0, .clip .aS []], .struct [(0,3),(1,3),(2,3),(3,22)]⟩),(55,⟨true,6, .agg [.int .i64 0, .int .i64 0, .int .i64 0, .str [], .int .i64 0, .clip .entry []], .struct [(0,3),(1,3),(2,3),(3,9),(4,3),(5,53)]⟩)]
def UD:List (Nat×List EK):= []
theorem as8:Tryz.prog.follows .mixedOrders=true:=by kernel_rfl
theorem agV:(Wo.all fun x=>tiB Tryz.prog x.1 x.2)=true:=by kernel_rfl
theorem arG:(UD.all fun x=>eqB Tryz.prog x.1 x.2)=true:=by kernel_rfl
def aam:List HV:=[.agg hFs, .one (.int .i64), .one (.str)]
def TW:List HV:=[.agg hFs, .one (.int .i64)]
def ae4:HP.V aam→Fs×Int×Str:=fun v=>((cFs v.1),v.2.1,v.2.2.1)
def al0:HX.V TW→Fs×Int:=fun v=>((cFs v.1),v.2)
def alC:(Fs×Int)→HX.V TW:=fun y=>(uFs y.1,y.2)
def ak9:(Fs×Int×Str)→Option (Fs×Int):=fun x=>qw x.1 x.2.1 x.2.2
def YF:Spec:=aO aam TW ae4 alC ak9
def amw:Cfg:={T:=Wo,spec:=[(102,mH),(125,Bo),(128,vQ)],ba:=aE.G Tryz.prog,eqs:=UD,N:=31,fuel:=64,fid:=97}
theorem ahp:aF Tryz.prog amw:=bg agV arG ⟨nj,⟨Cl,⟨yF,trivial⟩⟩⟩
theorem aqZ:aN Tryz.prog 97 YF:=br Tryz.f97 ahp as8 (toY:=al0)
end
end Go.Eng
namespace Go.Eng
noncomputable section
open Go Go.Proofs
def PR:List (Nat×TI):=[(3,⟨false,1, .one (.int .i64 0), .int .i64⟩),(9,⟨false,1, .one (.str []), .str⟩),(24,⟨true,4, .agg [.int .i64 0, .int .i64 0, .int .i64 0, .clip .aS []], .struct [(0,3),(1,3),(2,3),(3,22)]⟩),(53,⟨false,1, .one (.clip .entry []), .slice .entry 85⟩),(55,⟨true,6, .agg [.int .i64 0, .int .i64 0, .int .i64 0, .str [], .int .i64 0, .clip .entry []], .struct [(0,3),(1,3),(2,3),(3,9),(4,3),(5,53)]⟩),(59,⟨true,3, .agg [.int .i64 0, .str [], .int .i64 0], .struct [(0,3),(1,9),(2,3)]⟩)]
def S2:List (Nat×List EK):= []
theorem UH:Tryz.prog.follows .mixedOrders=true:=by kernel_rfl
theorem aa5:(PR.all fun x=>tiB Tryz.prog x.1 x.2)=true:=by kernel_rfl
theorem VX:(S2.all fun x=>eqB Tryz.prog x.1 x.2)=true:=by kernel_rfl
def YA:List HV:=[.agg hFs, .agg [.int .i64, .str, .int .i64], .one (.int .i64)]
def S5:List HV:=[.agg hFs]
def acK:HP.V YA→Fs×ar×Int:=fun v=>((cFs v.1),(⟨v.2.1.1,v.2.1.2.1,v.2.1.2.2.1⟩:ar),v.2.2.1)
def aoL:HX.V S5→Fs:=fun v=>((cFs v))
def af9:Fs→HX.V S5:=fun y=>(uFs y)
def adF:(Fs×ar×Int)→Option (Fs):=fun x=>bN x.1 x.2.1 x.2.2
def DQ:Spec:=aO YA S5 acK af9 adF
def afk:Cfg:={T:=PR,spec:=[(102,mH),(127,Ng),(128,vQ)],ba:=aE.G Tryz.prog,eqs:=S2,N:=41,fuel:=64,fid:=99}
theorem aiE:aF Tryz.prog afk:=bg aa5 VX ⟨nj,⟨Tc,⟨yF,trivial⟩⟩⟩
theorem HQ:aN Tryz.prog 99 DQ:=br Tryz.f99 aiE UH (toY:=aoL)
def ZF:List HV:=[.agg hFs, .agg [.int .i64, .str, .int .i64]]
def QE:List HV:=[.agg hFs]
def avY:HP.V ZF→Fs×ar:=fun v=>((cFs v.1),(⟨v.2.1.1,v.2.1.2.1,v.2.1.2.2.1⟩:ar))
def asz:HX.V QE→Fs:=fun v=>((cFs v))
def amY:Fs→HX.V QE:=fun y=>(uFs y)
def adl:(Fs×ar)→Option (Fs):=fun x=>gf x.1 x.2
def B6:Spec:=aO ZF QE avY amY adl
def abB:Cfg:={T:=PR,spec:=[(102,mH),(128,vQ),(129,Q5),(133,Wq)],ba:=aE.G Tryz.prog,eqs:=S2,N:=46,fuel:=64,fid:=103}
theorem auy:aF Tryz.prog abB:=bg aa5 VX ⟨nj,⟨yF,⟨XW,⟨aoF,trivial⟩⟩⟩⟩
theorem Fu:aN Tryz.prog 103 B6:=br Tryz.f103 auy UH (toY:=asz)
end
end Go.Eng
namespace Go.Eng
noncomputable section
open Go Go.Proofs
def WA:List (Nat×TI):=[(3,⟨false,1, .one (.int .i64 0), .int .i64⟩),(9,⟨false,1, .one (.str []), .str⟩),(24,⟨true,4, .agg [.int .i64 0, .int .i64 0, .int .i64 0, .clip .aS []], .struct [(0,3),(1,3),(2,3),(3,22)]⟩),(53,⟨false,1, .one (.clip .entry []), .slice .entry 85⟩),(55,⟨true,6, .agg [.int .i64 0, .int .i64 0, .int .i64 0, .str [], .int .i64 0, .clip .entry []], .struct [(0,3),(1,3),(2,3),(3,9),(4,3),(5,53)]⟩),(59,⟨true,3, .agg [.int .i64 0, .str [], .int .i64 0], .struct [(0,3),(1,9),(2,3)]⟩)]
def V3:List (Nat×List EK):= []
theorem auo:Tryz.prog.follows .mixedOrders=true:=by kernel_rfl
theorem ady:(WA.all fun x=>tiB Tryz.prog x.1 x.2)=true:=by kernel_rfl
theorem afd:(V3.all fun x=>eqB Tryz.prog x.1 x.2)=true:=by kernel_rfl
def Yz:List HV:=[.agg hFs, .agg [.int .i64, .str, .int .i64], .agg [.int .i64, .str, .int .i64]]
def Sk:List HV:=[.agg hFs]
def aje:HP.V Yz→Fs×ar×ar:=fun v=>((cFs v.1),(⟨v.2.1.1,v.2.1.2.1,v.2.1.2.2.1⟩:ar),(⟨v.2.2.1.1,v.2.2.1.2.1,v.2.2.1.2.2.1⟩:ar))
def aiM:HX.V Sk→Fs:=fun v=>((cFs v))
def aoT:Fs→HX.V Sk:=fun y=>(uFs y)
def aoe:(Fs×ar×ar)→Option (Fs):=fun x=>qD x.1 x.2.1 x.2.2
def WT:Spec:=aO Yz Sk aje aoT aoe
def agU:Cfg:={T:=WA,spec:=[(102,mH),(103,B6),(127,Ng),(128,vQ),(129,Q5)],ba:=aE.G Tryz.prog,eqs:=V3,N:=69,fuel:=64,fid:=100}
theorem ao6:aF Tryz.prog agU:=bg ady afd ⟨nj,⟨Fu,⟨Tc,⟨yF,⟨XW,trivial⟩⟩⟩⟩⟩
theorem agc:aN Tryz.prog 100 WT:=br Tryz.f100 ao6 auo (toY:=aiM)
end
end Go.Eng
