/- A part of the proofs of the laws of this seat: the engine that reads the program's code, plain functions, or facts of the program's functions. Conditions: none. -/
import Derived.Ground.NamesProg
import Derived.Shelf.Small.Strs
import Derived.Shelf.Strings.Search1
import Derived.Shelf.Strings.OnBuilder
import Derived.Test.YtcilfbaaaipbcaaGreatProg
import Derived.Test.YtcilfbaaaipbcaaGreatP1
import Derived.Test.YtcilfbaaaipbcaaGreatE4
set_option linter.unusedSectionVars false
set_option linter.unusedVariables false
set_option linter.unusedSimpArgs false
set_option linter.unnecessarySimpa false
namespace Go.Proofs
open Go.Shelf
def Tryz.Az:Go.Shelf.Ren:=⟨fun|106=>143|213=>155|265=>164|n=>n,fun|9=>9|3=>3|n=>n,fun|n=>n⟩
theorem Tryz.I3:Go.Proofs.Lays.n106 Tryz.prog Tryz.Az:={
 mixed:=by kernel_rfl
 f106:=Tryz.func143.trans (congrArg some (by kernel_rfl))
 f213:=Tryz.func155.trans (congrArg some (by kernel_rfl))
 f265:=Tryz.func164.trans (congrArg some (by kernel_rfl))
 t3:=Tryz.underlying3
 a3:=Tryz.isAgg3
 z3:=Tryz.sizeOf3
 v3:=Tryz.zeroValue3
 t9:=Tryz.underlying9
 a9:=Tryz.isAgg9
 z9:=Tryz.sizeOf9
 v9:=Tryz.zeroValue9}
def Tryz.zO:Go.Shelf.Ren:=⟨fun|217=>162|266=>166|n=>n,fun|9=>9|5=>5|3=>3|n=>n,fun|n=>n⟩
theorem Tryz.LB:Go.Proofs.Lays.n217 Tryz.prog Tryz.zO:={
 mixed:=by kernel_rfl
 f217:=Tryz.func162.trans (congrArg some (by kernel_rfl))
 f266:=Tryz.func166.trans (congrArg some (by kernel_rfl))
 t3:=Tryz.underlying3
 a3:=Tryz.isAgg3
 z3:=Tryz.sizeOf3
 v3:=Tryz.zeroValue3
 t5:=Tryz.underlying5
 a5:=Tryz.isAgg5
 z5:=Tryz.sizeOf5
 v5:=Tryz.zeroValue5
 t9:=Tryz.underlying9
 a9:=Tryz.isAgg9
 z9:=Tryz.sizeOf9
 v9:=Tryz.zeroValue9}
end Go.Proofs
set_option linter.unusedVariables false
set_option maxRecDepth 100000
namespace Go.Eng
open Go Go.Proofs Go.Shelf
noncomputable instance:aG Tryz.prog:=⟨[]⟩
noncomputable def fH:Spec:=aU (X:=Str×Str) (Y:=Int) [.one .str, .one .str] [.one (.int .i64)] (fun v=>(v.1,v.2.1)) (fun y=>y) (fun x=>strings_Compare x.1 x.2)
theorem k8:aT Tryz.prog 143 fH where
 enters:=enters_of Tryz.func143 (by kernel_rfl) rfl
 calls:=by
  intro S w args vs x y hS _ hal hp hf;simp only[fH,aU] at hp hf⊢;split at hp
  ·rename_i v hv
   cases hp;cases hf;rw[HP.eq hv] at hal;cases hal with
   |cons h1 h2=>
    cases h2 with
    |cons h2 h3=>
     cases h3;rename_i v1 v2;cases (show VA _ w (.str v.1) v1 from h1) with
     |str _ b1 e1=>
      cases (show VA _ w (.str v.2.1) v2 from h2) with
      |str _ b2 e2=>
       refine(Any.strings_Compare Tryz.I3 b1 b2 w).mono ?_;rintro e w' ⟨rfl,rfl⟩;refine⟨_,rfl,Go.RowKit.Below.refl _ _, ?_⟩;rw[e1,e2];exact VA.int _ _
  ·cases hp
noncomputable def cG:Spec:=aU (X:=Str×Int) (Y:=Int) [.one .str, .one (.int .u8)] [.one (.int .i64)] (fun v=>(v.1,v.2.1)) (fun y=>y) (fun x=>stringslite_IndexByte x.1 x.2)
theorem dD:aT Tryz.prog 162 cG where
 enters:=enters_of Tryz.func162 (by kernel_rfl) rfl
 calls:=by
  intro S w args vs x y hS _ hal hp hf;simp only[cG,aU] at hp hf⊢;split at hp
  ·rename_i v hv
   cases hp;cases hf;rw[HP.eq hv] at hal;cases hal with
   |cons h1 h2=>
    cases h2 with
    |cons h2 h3=>
     cases h3;rename_i v1 v2;cases (show VA _ w (.str v.1) v1 from h1) with
     |str _ b1 e1=>
      cases (show VA _ w (.int .u8 v.2.1) v2 from h2) with
      |int _ _=>
       refine(Any.stringslite_IndexByte Tryz.LB b1 v.2.1 w).mono ?_;rintro e w' ⟨rfl,rfl⟩;refine⟨_,rfl,Go.RowKit.Below.refl _ _, ?_⟩;rw[e1];exact VA.int _ _
  ·cases hp
theorem AW:sQ Tryz.prog 92:=uk Tryz.func92 (by kernel_rfl) (by kernel_rfl) (tS:=22) (tR:=4) (e:=39) (size:=6) (by kernel_rfl) (by kernel_rfl) (by kernel_rfl) Tryz.sizeOf39
theorem Hw:sQ Tryz.prog 130:=uk Tryz.func130 (by kernel_rfl) (by kernel_rfl) (tS:=25) (tR:=4) (e:=60) (size:=4) (by kernel_rfl) (by kernel_rfl) (by kernel_rfl) Tryz.sizeOf60
theorem Bz:sQ Tryz.prog 150:=uk Tryz.func150 (by kernel_rfl) (by kernel_rfl) (tS:=37) (tR:=4) (e:=90) (size:=2) (by kernel_rfl) (by kernel_rfl) (by kernel_rfl) Tryz.sizeOf90
end Go.Eng
set_option linter.unusedVariables false
set_option maxRecDepth 100000
namespace Go.Eng
noncomputable section
open Go Go.Proofs
def GQ:List (Nat×TI):=[(9,⟨false,1, .one (.str []), .str⟩),(67,⟨false,1, .one (.clip .str []), .slice .str 9⟩)]
def G2:List (Nat×List EK):= []
theorem Lz:Tryz.prog.follows .mixedOrders=true:=by kernel_rfl
theorem Ip:(GQ.all fun x=>tiB Tryz.prog x.1 x.2)=true:=by kernel_rfl
theorem HY:(G2.all fun x=>eqB Tryz.prog x.1 x.2)=true:=by kernel_rfl
def HD:Code:=bd Tryz.f36
def JM:Code:=bd Tryz.f57
def KK:Code:=bd Tryz.f84
def Le:Code:=bd Tryz.f85
def C6:HS:=⟨[(0, .one (.str)),(3, .one (.int .i64))], [],0⟩
def KG {R:Type}:Nat→HS.V C6→(Ex→St→Option R)→Option R:=fun q v K=>
 gS v.1.1 (K .ret {aA:=[(2, .v (.one (.bool false)))],mem:= [],nx:=0}) (K (.exit 0) {aA:=[(0, .v (.one (.str v.1.1)))],mem:= [],nx:=0}) q v.1.2.1
def TN:List HV:=[.one (.str)]
def MF:List HV:=[.one (.bool)]
def aoq:HP.V TN→Str:=fun v=>(v.1)
def aeb:HX.V MF→Bool:=fun v=>(v)
def aav:Bool→HX.V MF:=fun y=>(y)
def ZK:Str→Option (Bool):=fun x=>js x
def JK:Spec:=aU TN MF aoq aav ZK
def RE {R:Type}:List (Nat×Hd R):=[(2,bC C6 KG)]
def QC {R:Type}:List (Nat×Inl R):= []
def QZ:Cfg:={T:=GQ,aX:=aG.G Tryz.prog,eqs:=G2,N:=36,fuel:=64,loops:=[(2,⟨[0,3], [], [],0, [], [], [], []⟩)],blocks:=[(0,⟨[0], [], [],0, [], [], [], []⟩)],eV:=some ⟨[2], [], [],0, [], [], [], []⟩,fid:=57}
theorem amY:aH Tryz.prog QZ:=aZ Ip HY trivial
theorem ama {R:Type}:aP Tryz.prog (R:=R) 0 QC:=aC _ _
theorem anp {R:Type}:bA (R:=R) (hnd 0 QC) QZ RE (sub [1,0,1,0,0] JM) (HS.V C6) (HS.st C6) (HS.sh C6) KG (bC C6 KG):=aN C6 KG (fun _ _=>rfl) (by intro q v K;kernel_rfl)
theorem amS {R:Type}:aL (R:=R) (hnd 0 QC) QZ RE JM:=aD (l:=[sub [1,0,1,0,0] JM]) (by kernel_rfl) (aK (b:=sub [1,0,1,0,0] JM) (rid:=2) (by kernel_rfl) (by kernel_rfl) anp (trivial))
theorem NB:aT Tryz.prog 57 JK:=bl Tryz.f57 amY Lz (d:=0) ama amS (bw (by kernel_rfl)) (toY:=aeb)
def Dd:HS:=⟨[(0, .one (.str)),(3, .one (.own 0)),(4, .one (.str)),(5, .one (.int .i64))],[(0, .row .str)],1⟩
def JF {R:Type}:Nat→HS.V Dd→(Ex→St→Option R)→Option R:=fun q v K=>
 cK v.1.1 (fun y6=>K (.exit 0) {aA:=[(3, .v (.one (.own 0)))],mem:=[(0, .row .str y6)],nx:=1}) q v.1.2.2.1 v.1.2.2.2.1 v.2.1
def VV:List HV:=[.one (.str)]
def Rc:List HV:=[.one (.sl .str)]
def ag4:HP.V VV→Str:=fun v=>(v.1)
def ZJ:HX.V Rc→(List Str):=fun v=>(v)
def aoW:(List Str)→HX.V Rc:=fun y=>(y)
def acU:Str→Option ((List Str)):=fun x=>iC x
def RB:Spec:=aU VV Rc ag4 aoW acU
def SR {R:Type}:List (Nat×Hd R):=[(4,bC Dd JF)]
def Q4 {R:Type}:List (Nat×Inl R):= []
def Qf:Cfg:={T:=GQ,aX:=aG.G Tryz.prog,eqs:=G2,N:=36,fuel:=64,loops:=[(4,⟨[0,3,4,5],[(3,0, .str)],[0],1, [], [], [], []⟩)],blocks:=[(0,⟨[3], [],[0],1, [], [], [], []⟩)],fid:=84}
theorem ajF:aH Tryz.prog Qf:=aZ Ip HY trivial
theorem acb {R:Type}:aP Tryz.prog (R:=R) 0 Q4:=aC _ _
theorem acv {R:Type}:bA (R:=R) (hnd 0 Q4) Qf SR (sub [1,1,1,0,1,0,0] KK) (HS.V Dd) (HS.st Dd) (HS.sh Dd) JF (bC Dd JF):=aN Dd JF (fun _ _=>rfl) (by intro q v K;kernel_rfl)
theorem agz {R:Type}:aL (R:=R) (hnd 0 Q4) Qf SR KK:=aD (l:=[sub [1,1,1,0,1,0,0] KK]) (by kernel_rfl) (aK (b:=sub [1,1,1,0,1,0,0] KK) (rid:=4) (by kernel_rfl) (by kernel_rfl) acv (trivial))
theorem X3:aT Tryz.prog 84 RB:=bl Tryz.f84 ajF Lz (d:=0) acb agz (bw (by kernel_rfl)) (toY:=ZJ)
def B4:HS:=⟨[(0, .one (.sl .str)),(3, .one (.str)),(4, .one (.int .i64))], [],0⟩
def Kz {R:Type}:Nat→HS.V B4→(Ex→St→Option R)→Option R:=fun q v K=>
 fT v.1.1 (fun y5=>K (.exit 0) {aA:=[(3, .v (.one (.str y5)))],mem:= [],nx:=0}) q v.1.2.1 v.1.2.2.1
def VT:List HV:=[.one (.sl .str)]
def QM:List HV:=[.one (.str)]
def akw:HP.V VT→(List Str):=fun v=>(v.1)
def am2:HX.V QM→Str:=fun v=>(v)
def aoi:Str→HX.V QM:=fun y=>(y)
def ak3:(List Str)→Option (Str):=fun x=>m4 x
def Sl:Spec:=aU VT QM akw aoi ak3
def VP {R:Type}:List (Nat×Hd R):=[(5,bC B4 Kz)]
def MO {R:Type}:List (Nat×Inl R):= []
def Qi:Cfg:={T:=GQ,aX:=aG.G Tryz.prog,eqs:=G2,N:=22,fuel:=64,loops:=[(5,⟨[0,3,4], [], [],0, [], [], [], []⟩)],blocks:=[(0,⟨[3], [], [],0, [], [], [], []⟩)],fid:=85}
theorem ajX:aH Tryz.prog Qi:=aZ Ip HY trivial
theorem Y5 {R:Type}:aP Tryz.prog (R:=R) 0 MO:=aC _ _
theorem ae4 {R:Type}:bA (R:=R) (hnd 0 MO) Qi VP (sub [1,1,1,0,1,0,0] Le) (HS.V B4) (HS.st B4) (HS.sh B4) Kz (bC B4 Kz):=aN B4 Kz (fun _ _=>rfl) (by intro q v K;kernel_rfl)
theorem aoc {R:Type}:aL (R:=R) (hnd 0 MO) Qi VP Le:=aD (l:=[sub [1,1,1,0,1,0,0] Le]) (by kernel_rfl) (aK (b:=sub [1,1,1,0,1,0,0] Le) (rid:=5) (by kernel_rfl) (by kernel_rfl) ae4 (trivial))
theorem ac4:aT Tryz.prog 85 Sl:=bl Tryz.f85 ajX Lz (d:=0) Y5 aoc (bw (by kernel_rfl)) (toY:=am2)
def C5:HS:=⟨[(0, .one (.str)),(4, .one (.sl .str)),(5, .one (.int .i64))], [],0⟩
def Jy {R:Type}:Nat→HS.V C5→(Ex→St→Option R)→Option R:=fun q v K=>
 eG v.1.2.1 (K .ret {aA:=[(2, .v (.one (.clip .str ([] :List Str)))),(3, .v (.one (.bool false)))],mem:= [],nx:=0}) (K (.exit 0) {aA:=[(0, .v (.one (.str v.1.1))),(4, .v (.one (.sl .str v.1.2.1)))],mem:= [],nx:=0}) q v.1.2.2.1
def RY:List HV:=[.one (.str)]
def On:List HV:=[.one (.sl .str), .one (.bool)]
def adn:HP.V RY→Str:=fun v=>(v.1)
def akl:HX.V On→(List Str)×Bool:=fun v=>(v.1,v.2)
def agd:(List Str)×Bool→HX.V On:=fun y=>(y.1,y.2)
def afA:Str→Option ((List Str)×Bool):=fun x=>lZ x
def U7:Spec:=aU RY On adn agd afA
def WJ {R:Type}:List (Nat×Hd R):=[(3,bC C5 Jy)]
def M1 {R:Type}:List (Nat×Inl R):= []
def NF:Cfg:={T:=GQ,spec:=[(57,JK),(84,RB),(85,Sl)],aX:=aG.G Tryz.prog,eqs:=G2,N:=25,fuel:=64,loops:=[(3,⟨[0,4,5], [], [],0, [], [], [], []⟩)],blocks:=[(0,⟨[0,4], [], [],0, [], [], [], []⟩)],eV:=some ⟨[2,3], [], [],0, [], [], [], []⟩,fid:=36}
theorem alX:aH Tryz.prog NF:=aZ Ip HY ⟨NB,⟨X3,⟨ac4,trivial⟩⟩⟩
theorem aos {R:Type}:aP Tryz.prog (R:=R) 0 M1:=aC _ _
theorem aoI {R:Type}:bA (R:=R) (hnd 0 M1) NF WJ (sub [1,1,0,1,0,0] HD) (HS.V C5) (HS.st C5) (HS.sh C5) Jy (bC C5 Jy):=aN C5 Jy (fun _ _=>rfl) (by intro q v K;kernel_rfl)
theorem ajr {R:Type}:aL (R:=R) (hnd 0 M1) NF WJ HD:=aD (l:=[sub [1,1,0,1,0,0] HD]) (by kernel_rfl) (aK (b:=sub [1,1,0,1,0,0] HD) (rid:=3) (by kernel_rfl) (by kernel_rfl) aoI (trivial))
theorem aaD:aT Tryz.prog 36 U7:=bl Tryz.f36 alX Lz (d:=0) aos ajr (bw (by kernel_rfl)) (toY:=akl)
end
end Go.Eng
set_option linter.unusedVariables false
set_option maxRecDepth 100000
namespace Go.Eng
noncomputable section
open Go Go.Proofs
def E9:List (Nat×TI):=[(3,⟨false,1, .one (.int .i64 0), .int .i64⟩),(9,⟨false,1, .one (.str []), .str⟩),(37,⟨false,1, .one (.clip .entry []), .slice .entry 90⟩),(90,⟨true,2, .agg [.str [], .int .i64 0], .struct [(0,9),(1,3)]⟩)]
def ED:List (Nat×List EK):=[(90,[.s, .i])]
theorem Gr:Tryz.prog.follows .mixedOrders=true:=by kernel_rfl
theorem Gn:(E9.all fun x=>tiB Tryz.prog x.1 x.2)=true:=by kernel_rfl
theorem GG:(ED.all fun x=>eqB Tryz.prog x.1 x.2)=true:=by kernel_rfl
def Li:Code:=bd Tryz.f37
def HF:Code:=bd Tryz.f96
def KY:Code:=bd Tryz.f105
def K2:Code:=bd Tryz.f106
def IQ:Code:=bd Tryz.f123
def Bi:HS:=⟨[(0, .one (.sl .entry)),(1, .one (.sl .entry)),(5, .one (.int .i64))], [],0⟩
def Lv {R:Type}:Nat→HS.V Bi→(Ex→St→Option R)→Option R:=fun q v K=>
 fV v.1.1 v.1.2.1 (K .ret {aA:=[(4, .v (.one (.bool false)))],mem:= [],nx:=0}) (K (.exit 0) {aA:= [],mem:= [],nx:=0}) q v.1.2.2.1
def Vm:List HV:=[.one (.sl .entry), .one (.sl .entry)]
def Mb:List HV:=[.one (.bool)]
def aaZ:HP.V Vm→(List Entry)×(List Entry):=fun v=>(v.1,v.2.1)
def aeE:HX.V Mb→Bool:=fun v=>(v)
def aar:Bool→HX.V Mb:=fun y=>(y)
def akn:(List Entry)×(List Entry)→Option (Bool):=fun x=>nq x.1 x.2
def Tw:Spec:=aU Vm Mb aaZ aar akn
def VE {R:Type}:List (Nat×Hd R):=[(4,bC Bi Lv)]
def L4 {R:Type}:List (Nat×Inl R):= []
def Q1:Cfg:={T:=E9,aX:=aG.G Tryz.prog,eqs:=ED,N:=26,fuel:=64,loops:=[(4,⟨[0,1,5], [], [],0, [], [], [], []⟩)],blocks:=[(0,⟨[], [], [],0, [], [], [], []⟩)],eV:=some ⟨[4], [], [],0, [], [], [], []⟩,fid:=123}
theorem amP:aH Tryz.prog Q1:=aZ Gn GG trivial
theorem aoC {R:Type}:aP Tryz.prog (R:=R) 0 L4:=aC _ _
theorem ZU {R:Type}:bA (R:=R) (hnd 0 L4) Q1 VE (sub [1,1,0,1,0,0] IQ) (HS.V Bi) (HS.st Bi) (HS.sh Bi) Lv (bC Bi Lv):=aN Bi Lv (fun _ _=>rfl) (by intro q v K;kernel_rfl)
theorem ZY {R:Type}:aL (R:=R) (hnd 0 L4) Q1 VE IQ:=aD (l:=[sub [1,1,0,1,0,0] IQ]) (by kernel_rfl) (aK (b:=sub [1,1,0,1,0,0] IQ) (rid:=4) (by kernel_rfl) (by kernel_rfl) ZU (trivial))
theorem aen:aT Tryz.prog 123 Tw:=bl Tryz.f123 amP Gr (d:=0) aoC ZY (bw (by kernel_rfl)) (toY:=aeE)
def A1:HS:=⟨[(0, .one (.sl .entry)),(3, .one (.int .i64))], [],0⟩
def JR {R:Type}:Nat→HS.V A1→(Ex→St→Option R)→Option R:=fun q v K=>
 ep v.1.1 (K .ret {aA:=[(2, .v (.one (.bool false)))],mem:= [],nx:=0}) (K (.exit 0) {aA:= [],mem:= [],nx:=0}) q v.1.2.1
def WL:List HV:=[.one (.sl .entry)]
def Py:List HV:=[.one (.bool)]
def afn:HP.V WL→(List Entry):=fun v=>(v.1)
def aah:HX.V Py→Bool:=fun v=>(v)
def ajf:Bool→HX.V Py:=fun y=>(y)
def adH:(List Entry)→Option (Bool):=fun x=>eZ x
def VQ:Spec:=aU WL Py afn ajf adH
def Uu {R:Type}:List (Nat×Hd R):=[(2,bC A1 JR)]
def Oa {R:Type}:List (Nat×Inl R):= []
def LY:Cfg:={T:=E9,spec:=[(57,JK)],aX:=aG.G Tryz.prog,eqs:=ED,N:=41,fuel:=64,loops:=[(2,⟨[0,3], [], [],0, [], [], [], []⟩)],blocks:=[(0,⟨[], [], [],0, [], [], [], []⟩)],eV:=some ⟨[2], [], [],0, [], [], [], []⟩,fid:=106}
theorem adO:aH Tryz.prog LY:=aZ Gn GG ⟨NB,trivial⟩
theorem amy {R:Type}:aP Tryz.prog (R:=R) 0 Oa:=aC _ _
theorem anB {R:Type}:bA (R:=R) (hnd 0 Oa) LY Uu (sub [1,0,1,0,0] K2) (HS.V A1) (HS.st A1) (HS.sh A1) JR (bC A1 JR):=aN A1 JR (fun _ _=>rfl) (by intro q v K;kernel_rfl)
theorem aiz {R:Type}:aL (R:=R) (hnd 0 Oa) LY Uu K2:=aD (l:=[sub [1,0,1,0,0] K2]) (by kernel_rfl) (aK (b:=sub [1,0,1,0,0] K2) (rid:=2) (by kernel_rfl) (by kernel_rfl) anB (trivial))
theorem akb:aT Tryz.prog 106 VQ:=bl Tryz.f106 adO Gr (d:=0) amy aiz (bw (by kernel_rfl)) (toY:=aah)
def Bb:HS:=⟨[(0, .one (.sl .entry)),(1, .one (.str)),(6, .one (.int .i64))], [],0⟩
def Jf {R:Type}:Nat→HS.V Bb→(Ex→St→Option R)→Option R:=fun q v K=>
 fQ v.1.1 v.1.2.1 (fun y6=>K .ret {aA:=[(4, .v (.one (.int .i64 y6))),(5, .v (.one (.bool true)))],mem:= [],nx:=0}) (K (.exit 0) {aA:= [],mem:= [],nx:=0}) q v.1.2.2.1
def V5:List HV:=[.one (.sl .entry), .one (.str)]
def Ok:List HV:=[.one (.int .i64), .one (.bool)]
def XJ:HP.V V5→(List Entry)×Str:=fun v=>(v.1,v.2.1)
def akg:HX.V Ok→Int×Bool:=fun v=>(v.1,v.2)
def ajN:(Int×Bool)→HX.V Ok:=fun y=>(y.1,y.2)
def adV:(List Entry)×Str→Option (Int×Bool):=fun x=>ji x.1 x.2
def SK:Spec:=aU V5 Ok XJ ajN adV
def S3 {R:Type}:List (Nat×Hd R):=[(2,bC Bb Jf)]
def QD {R:Type}:List (Nat×Inl R):= []
def Ql:Cfg:={T:=E9,aX:=aG.G Tryz.prog,eqs:=ED,N:=25,fuel:=64,loops:=[(2,⟨[0,1,6], [], [],0, [], [], [], []⟩)],blocks:=[(0,⟨[], [], [],0, [], [], [], []⟩)],eV:=some ⟨[4,5], [], [],0, [], [], [], []⟩,fid:=37}
theorem Ya:aH Tryz.prog Ql:=aZ Gn GG trivial
theorem aeU {R:Type}:aP Tryz.prog (R:=R) 0 QD:=aC _ _
theorem aei {R:Type}:bA (R:=R) (hnd 0 QD) Ql S3 (sub [1,0,1,0,0] Li) (HS.V Bb) (HS.st Bb) (HS.sh Bb) Jf (bC Bb Jf):=aN Bb Jf (fun _ _=>rfl) (by intro q v K;kernel_rfl)
theorem amG {R:Type}:aL (R:=R) (hnd 0 QD) Ql S3 Li:=aD (l:=[sub [1,0,1,0,0] Li]) (by kernel_rfl) (aK (b:=sub [1,0,1,0,0] Li) (rid:=2) (by kernel_rfl) (by kernel_rfl) aei (trivial))
theorem ac1:aT Tryz.prog 37 SK:=bl Tryz.f37 Ya Gr (d:=0) aeU amG (bw (by kernel_rfl)) (toY:=akg)
def A9:HS:=⟨[(0, .one (.sl .entry)),(1, .one (.str)),(5, .one (.own 0)),(6, .one (.int .i64))],[(0, .row .entry)],1⟩
def Kv {R:Type}:Nat→HS.V A9→(Ex→St→Option R)→Option R:=fun q v K=>
 dA v.1.1 v.1.2.1 (fun y7=>K (.exit 0) {aA:=[(5, .v (.one (.own 0)))],mem:=[(0, .row .entry y7)],nx:=1}) q v.1.2.2.2.1 v.2.1
def Ru:List HV:=[.one (.sl .entry), .one (.str)]
def PU:List HV:=[.one (.sl .entry)]
def ZP:HP.V Ru→(List Entry)×Str:=fun v=>(v.1,v.2.1)
def akY:HX.V PU→(List Entry):=fun v=>(v)
def akO:(List Entry)→HX.V PU:=fun y=>(y)
def ajb:(List Entry)×Str→Option ((List Entry)):=fun x=>ij x.1 x.2
def NC:Spec:=aU Ru PU ZP akO ajb
def WX {R:Type}:List (Nat×Hd R):=[(3,bC A9 Kv)]
def Nb {R:Type}:List (Nat×Inl R):= []
def PZ:Cfg:={T:=E9,aX:=aG.G Tryz.prog,eqs:=ED,N:=28,fuel:=64,loops:=[(3,⟨[0,1,5,6],[(5,0, .entry)],[0],1, [], [], [], []⟩)],blocks:=[(0,⟨[5], [],[0],1, [], [], [], []⟩)],fid:=96}
theorem abD:aH Tryz.prog PZ:=aZ Gn GG trivial
theorem ajk {R:Type}:aP Tryz.prog (R:=R) 0 Nb:=aC _ _
theorem aer {R:Type}:bA (R:=R) (hnd 0 Nb) PZ WX (sub [1,1,0,1,0,0] HF) (HS.V A9) (HS.st A9) (HS.sh A9) Kv (bC A9 Kv):=aN A9 Kv (fun _ _=>rfl) (by intro q v K;kernel_rfl)
theorem amo {R:Type}:aL (R:=R) (hnd 0 Nb) PZ WX HF:=aD (l:=[sub [1,1,0,1,0,0] HF]) (by kernel_rfl) (aK (b:=sub [1,1,0,1,0,0] HF) (rid:=3) (by kernel_rfl) (by kernel_rfl) aer (trivial))
theorem Vt:aT Tryz.prog 96 NC:=bl Tryz.f96 abD Gr (d:=0) ajk amo (bw (by kernel_rfl)) (toY:=akY)
def Dj:HS:=⟨[(1, .one (.str)),(2, .one (.int .i64)),(7, .one (.sl .entry)),(8, .one (.own 0)),(9, .one (.bool)),(10, .one (.int .i64))],[(0, .row .entry)],1⟩
def KV {R:Type}:Nat→HS.V Dj→(Ex→St→Option R)→Option R:=fun q v K=>
 ef v.1.1 v.1.2.1 v.1.2.2.1 (fun y14 y15=>K (.exit 0) {aA:=[(1, .v (.one (.str v.1.1))),(2, .v (.one (.int .i64 v.1.2.1))),(8, .v (.one (.own 0))),(9, .v (.one (.bool y14)))],mem:=[(0, .row .entry y15)],nx:=1}) q v.1.2.2.2.2.1 v.1.2.2.2.2.2.1 v.2.1
def Sw:List HV:=[.one (.sl .entry), .one (.str), .one (.int .i64)]
def PD:List HV:=[.one (.sl .entry)]
def afP:HP.V Sw→(List Entry)×Str×Int:=fun v=>(v.1,v.2.1,v.2.2.1)
def ahp:HX.V PD→(List Entry):=fun v=>(v)
def alZ:(List Entry)→HX.V PD:=fun y=>(y)
def akZ:(List Entry)×Str×Int→Option ((List Entry)):=fun x=>iq x.1 x.2.1 x.2.2
def Tz:Spec:=aU Sw PD afP alZ akZ
def VJ {R:Type}:List (Nat×Hd R):=[(5,bC Dj KV)]
def Of {R:Type}:List (Nat×Inl R):= []
def Ny:Cfg:={T:=E9,spec:=[(96,NC)],aX:=aG.G Tryz.prog,eqs:=ED,N:=53,fuel:=64,loops:=[(5,⟨[1,2,7,8,9,10],[(8,0, .entry)],[0],1, [], [], [], []⟩)],blocks:=[(0,⟨[1,2,8,9], [],[0],1, [], [], [], []⟩)],fid:=105}
theorem aa0:aH Tryz.prog Ny:=aZ Gn GG ⟨Vt,trivial⟩
theorem aco {R:Type}:aP Tryz.prog (R:=R) 0 Of:=aC _ _
theorem aoj {R:Type}:bA (R:=R) (hnd 0 Of) Ny VJ (sub [1,1,1,1,0,1,0,0] KY) (HS.V Dj) (HS.st Dj) (HS.sh Dj) KV (bC Dj KV):=aN Dj KV (fun _ _=>rfl) (by intro q v K;kernel_rfl)
theorem abT {R:Type}:aL (R:=R) (hnd 0 Of) Ny VJ KY:=aD (l:=[sub [1,1,1,1,0,1,0,0] KY]) (by kernel_rfl) (aK (b:=sub [1,1,1,1,0,1,0,0] KY) (rid:=5) (by kernel_rfl) (by kernel_rfl) aoj (trivial))
theorem akS:aT Tryz.prog 105 Tz:=bl Tryz.f105 aa0 Gr (d:=0) aco abT (bw (by kernel_rfl)) (toY:=ahp)
end
end Go.Eng
set_option linter.unusedVariables false
set_option maxRecDepth 100000
namespace Go.Eng
noncomputable section
open Go Go.Proofs
def wo:List (Nat×TI):=[(3,⟨false,1, .one (.int .i64 0), .int .i64⟩),(9,⟨false,1, .one (.str []), .str⟩),(22,⟨false,1, .one (.clip .aB []), .slice .aB 39⟩),(24,⟨true,4, .agg [.int .i64 0, .int .i64 0, .int .i64 0, .clip .aB []], .struct [(0,3),(1,3),(2,3),(3,22)]⟩),(37,⟨false,1, .one (.clip .entry []), .slice .entry 90⟩),(39,⟨true,6, .agg [.int .i64 0, .int .i64 0, .int .i64 0, .str [], .int .i64 0, .clip .entry []], .struct [(0,3),(1,3),(2,3),(3,9),(4,3),(5,37)]⟩),(90,⟨true,2, .agg [.str [], .int .i64 0], .struct [(0,9),(1,3)]⟩)]
def v7:List (Nat×List EK):= []
theorem yI:Tryz.prog.follows .mixedOrders=true:=by kernel_rfl
theorem yL:(wo.all fun x=>tiB Tryz.prog x.1 x.2)=true:=by kernel_rfl
theorem yi:(v7.all fun x=>eqB Tryz.prog x.1 x.2)=true:=by kernel_rfl
def K1:Code:=bd Tryz.f15
def CF:Code:=bd Tryz.f31
def ID:Code:=bd Tryz.f35
def LL:Code:=bd Tryz.f47
def Ic:Code:=bd Tryz.f59
def KZ:Code:=bd Tryz.f62
def Xi:List HV:=[.agg hIn, .agg hIn]
def N8:List HV:=[.one (.bool)]
def aly:HP.V Xi→ae×ae:=fun v=>((cIn v.1),(cIn v.2.1))
def ach:HX.V N8→Bool:=fun v=>(v)
def ahX:Bool→HX.V N8:=fun y=>(y)
def alU:(ae×ae)→Option (Bool):=fun x=>oW x.1 x.2
def Xg:Spec:=aU Xi N8 aly ahX alU
def al9:Cfg:={T:=wo,spec:=[(123,Tw)],aX:=aG.G Tryz.prog,eqs:=v7,N:=45,fuel:=64,fid:=83}
theorem aa9:aH Tryz.prog al9:=aZ yL yi ⟨aen,trivial⟩
theorem amE:aT Tryz.prog 83 Xg:=bV Tryz.f83 aa9 yI (toY:=ach)
def Ce:HS:=⟨[(0, .one (.sl .aB)),(1, .one (.sl .aB)),(5, .one (.int .i64))], [],0⟩
def Jq {R:Type}:Nat→HS.V Ce→(Ex→St→Option R)→Option R:=fun q v K=>
 fX v.1.1 v.1.2.1 (K .ret {aA:=[(4, .v (.one (.bool false)))],mem:= [],nx:=0}) (K (.exit 0) {aA:= [],mem:= [],nx:=0}) q v.1.2.2.1
def Vf:List HV:=[.one (.sl .aB), .one (.sl .aB)]
def Qv:List HV:=[.one (.bool)]
def aeX:HP.V Vf→(List ae)×(List ae):=fun v=>(v.1,v.2.1)
def YR:HX.V Qv→Bool:=fun v=>(v)
def akB:Bool→HX.V Qv:=fun y=>(y)
def akp:(List ae)×(List ae)→Option (Bool):=fun x=>ld x.1 x.2
def Qp:Spec:=aU Vf Qv aeX akB akp
def Xd {R:Type}:List (Nat×Hd R):=[(4,bC Ce Jq)]
def Ps {R:Type}:List (Nat×Inl R):= []
def Mj:Cfg:={T:=wo,spec:=[(83,Xg)],aX:=aG.G Tryz.prog,eqs:=v7,N:=27,fuel:=64,loops:=[(4,⟨[0,1,5], [], [],0, [], [], [], []⟩)],blocks:=[(0,⟨[], [], [],0, [], [], [], []⟩)],eV:=some ⟨[4], [], [],0, [], [], [], []⟩,fid:=35}
theorem Yr:aH Tryz.prog Mj:=aZ yL yi ⟨amE,trivial⟩
theorem ZQ {R:Type}:aP Tryz.prog (R:=R) 0 Ps:=aC _ _
theorem ZH {R:Type}:bA (R:=R) (hnd 0 Ps) Mj Xd (sub [1,1,0,1,0,0] ID) (HS.V Ce) (HS.st Ce) (HS.sh Ce) Jq (bC Ce Jq):=aN Ce Jq (fun _ _=>rfl) (by intro q v K;kernel_rfl)
theorem alL {R:Type}:aL (R:=R) (hnd 0 Ps) Mj Xd ID:=aD (l:=[sub [1,1,0,1,0,0] ID]) (by kernel_rfl) (aK (b:=sub [1,1,0,1,0,0] ID) (rid:=4) (by kernel_rfl) (by kernel_rfl) ZH (trivial))
theorem UA:aT Tryz.prog 35 Qp:=bl Tryz.f35 Yr yI (d:=0) ZQ alL (bw (by kernel_rfl)) (toY:=YR)
def T7:List HV:=[.agg hFs, .agg hFs]
def P4:List HV:=[.one (.bool)]
def am1:HP.V T7→Fs×Fs:=fun v=>((cFs v.1),(cFs v.2.1))
def aal:HX.V P4→Bool:=fun v=>(v)
def abJ:Bool→HX.V P4:=fun y=>(y)
def aeB:(Fs×Fs)→Option (Bool):=fun x=>jF x.1 x.2
def VS:Spec:=aU T7 P4 am1 abJ aeB
def acE:Cfg:={T:=wo,spec:=[(35,Qp)],aX:=aG.G Tryz.prog,eqs:=v7,N:=31,fuel:=64,fid:=34}
theorem aaF:aH Tryz.prog acE:=aZ yL yi ⟨UA,trivial⟩
theorem aoL:aT Tryz.prog 34 VS:=bV Tryz.f34 aaF yI (toY:=aal)
def Br:HS:=⟨[(1, .one (.int .i64)),(2, .one (.ptr 0 0)),(4, .one (.ptr 1 0)),(5, .one (.own 2)),(6, .one (.int .i64))],[(0, .cells hFs),(1, .cells hFs),(2, .row .aB)],3⟩
def HK {R:Type}:Nat→HS.V Br→(Ex→St→Option R)→Option R:=fun q v K=>
 fb v.1.1 (cFs v.2.1) (fun y10=>K (.exit 0) {aA:=[(2, .v (.one (.ptr 0 0))),(4, .v (.one (.ptr 1 0))),(5, .v (.one (.own 2)))],mem:=[(0, .cells (rFs (cFs v.2.1))),(1, .cells (rFs (cFs v.2.2.1))),(2, .row .aB y10)],nx:=3}) q v.1.2.2.2.2.1 v.2.2.2.1
def RQ:List HV:=[.agg hFs, .one (.int .i64)]
def MP:List HV:=[.agg hFs]
def al5:HP.V RQ→Fs×Int:=fun v=>((cFs v.1),v.2.1)
def abv:HX.V MP→Fs:=fun v=>((cFs v))
def afc:Fs→HX.V MP:=fun y=>((y.aq,(y.au,(y.next,(y.aa,())))))
def aod:(Fs×Int)→Option (Fs):=fun x=>dh x.1 x.2
def K9:Spec:=aU RQ MP al5 afc aod
def T9 {R:Type}:List (Nat×Hd R):=[(3,bC Br HK)]
def OZ {R:Type}:List (Nat×Inl R):= []
def OG:Cfg:={T:=wo,aX:=aG.G Tryz.prog,eqs:=v7,N:=33,fuel:=64,loops:=[(3,⟨[1,2,4,5,6],[(5,2, .aB)],[0,1,2],3, [],[1], [], []⟩)],blocks:=[(0,⟨[2,4,5], [],[0,1,2],3, [], [], [], []⟩)],fid:=59}
theorem ahF:aH Tryz.prog OG:=aZ yL yi trivial
theorem X8 {R:Type}:aP Tryz.prog (R:=R) 0 OZ:=aC _ _
theorem abK {R:Type}:bA (R:=R) (hnd 0 OZ) OG T9 (sub [1,1,0,1,0,0] Ic) (HS.V Br) (HS.st Br) (HS.sh Br) HK (bC Br HK):=aN Br HK (fun _ _=>rfl) (by intro q v K;kernel_rfl)
theorem afM {R:Type}:aL (R:=R) (hnd 0 OZ) OG T9 Ic:=aD (l:=[sub [1,1,0,1,0,0] Ic]) (by kernel_rfl) (aK (b:=sub [1,1,0,1,0,0] Ic) (rid:=3) (by kernel_rfl) (by kernel_rfl) abK (trivial))
theorem Nx:aT Tryz.prog 59 K9:=bl Tryz.f59 ahF yI (d:=0) X8 afM (bw (by kernel_rfl)) (toY:=abv)
def CW:HS:=⟨[(2, .one (.ptr 0 0)),(3, .one (.ptr 1 0)),(4, .one (.ptr 2 0)),(5, .one (.sl .aB)),(6, .one (.own 3)),(7, .one (.bool)),(8, .one (.int .i64))],[(0, .cells hFs),(1, .cells hIn),(2, .cells hFs),(3, .row .aB)],4⟩
def Jv {R:Type}:Nat→HS.V CW→(Ex→St→Option R)→Option R:=fun q v K=>
 eT v.1.2.2.2.1 (cIn v.2.2.1) (fun y13 y17=>K (.exit 0) {aA:=[(2, .v (.one (.ptr 0 0))),(3, .v (.one (.ptr 1 0))),(4, .v (.one (.ptr 2 0))),(6, .v (.one (.own 3))),(7, .v (.one (.bool y13)))],mem:=[(0, .cells (rFs (cFs v.2.1))),(1, .cells (rIn (cIn v.2.2.1))),(2, .cells (rFs (cFs v.2.2.2.1))),(3, .row .aB y17)],nx:=4}) q v.1.2.2.2.2.2.1 v.1.2.2.2.2.2.2.1 v.2.2.2.2.1
def VB:List HV:=[.agg hFs, .agg hIn]
def M_:List HV:=[.agg hFs]
def aea:HP.V VB→Fs×ae:=fun v=>((cFs v.1),(cIn v.2.1))
def aff:HX.V M_→Fs:=fun v=>((cFs v))
def anf:Fs→HX.V M_:=fun y=>((y.aq,(y.au,(y.next,(y.aa,())))))
def amT:(Fs×ae)→Option (Fs):=fun x=>b7 x.1 x.2
def CX:Spec:=aU VB M_ aea anf amT
def Rk {R:Type}:List (Nat×Hd R):=[(5,bC CW Jv)]
def PB {R:Type}:List (Nat×Inl R):= []
def N4:Cfg:={T:=wo,spec:=[(59,K9)],aX:=aG.G Tryz.prog,eqs:=v7,N:=52,fuel:=64,loops:=[(5,⟨[2,3,4,5,6,7,8],[(6,3, .aB)],[0,1,2,3],4, [],[2], [], []⟩)],blocks:=[(0,⟨[2,3,4,6,7], [],[0,1,2,3],4, [], [], [], []⟩)],fid:=47}
theorem X9:aH Tryz.prog N4:=aZ yL yi ⟨Nx,trivial⟩
theorem anX {R:Type}:aP Tryz.prog (R:=R) 0 PB:=aC _ _
theorem amp {R:Type}:bA (R:=R) (hnd 0 PB) N4 Rk (sub [1,1,1,1,0,1,0,0] LL) (HS.V CW) (HS.st CW) (HS.sh CW) Jv (bC CW Jv):=aN CW Jv (fun _ _=>rfl) (by intro q v K;kernel_rfl)
theorem Y_ {R:Type}:aL (R:=R) (hnd 0 PB) N4 Rk LL:=aD (l:=[sub [1,1,1,1,0,1,0,0] LL]) (by kernel_rfl) (aK (b:=sub [1,1,1,1,0,1,0,0] LL) (rid:=5) (by kernel_rfl) (by kernel_rfl) amp (trivial))
theorem Ef:aT Tryz.prog 47 CX:=bl Tryz.f47 X9 yI (d:=0) anX Y_ (bw (by kernel_rfl)) (toY:=aff)
def Rt:List HV:=[.one (.int .i64), .one (.int .i64)]
def Pk:List HV:=[.agg hFs]
def ZV:HP.V Rt→Int×Int:=fun v=>(v.1,v.2.1)
def acz:HX.V Pk→Fs:=fun v=>((cFs v))
def aiX:Fs→HX.V Pk:=fun y=>((y.aq,(y.au,(y.next,(y.aa,())))))
def ZR:(Int×Int)→Option (Fs):=fun x=>r5 x.1 x.2
def T6:Spec:=aU Rt Pk ZV aiX ZR
def ah4:Cfg:={T:=wo,aX:=aG.G Tryz.prog,eqs:=v7,N:=10,fuel:=64,fid:=69}
theorem ajU:aH Tryz.prog ah4:=aZ yL yi trivial
theorem ac5:aT Tryz.prog 69 T6:=bV Tryz.f69 ajU yI (toY:=acz)
def Cj:HS:=⟨[(1, .one (.ptr 0 0)),(3, .one (.int .i64)),(4, .one (.ptr 1 0)),(5, .one (.int .i64))],[(0, .cells hFs),(1, .cells hIn)],2⟩
def LF {R:Type}:Nat→HS.V Cj→(Ex→St→Option R)→Option R:=fun q v K=>
 fF (cIn v.2.2.1) (K .ret {aA:=[(2, .v (.one (.bool false)))],mem:= [],nx:=0}) (K (.exit 2) {aA:=[(1, .v (.one (.ptr 0 0))),(3, .v (.one (.int .i64 v.1.2.1)))],mem:=[(0, .cells (rFs (cFs v.2.1)))],nx:=1}) q v.1.2.2.2.1
def BJ:HS:=⟨[(1, .one (.ptr 0 0)),(3, .one (.int .i64))],[(0, .cells hFs)],1⟩
def Ks {R:Type}:Nat→HS.V BJ→(Ex→St→Option R)→Option R:=fun q v K=>
 gU (cFs v.2.1) (K .ret {aA:=[(2, .v (.one (.bool false)))],mem:= [],nx:=0}) (K (.exit 0) {aA:=[(1, .v (.one (.ptr 0 0)))],mem:=[(0, .cells (rFs (cFs v.2.1)))],nx:=1}) q v.1.2.1
def Ut:List HV:=[.agg hFs]
def Nn:List HV:=[.one (.bool)]
def alo:HP.V Ut→Fs:=fun v=>((cFs v.1))
def acX:HX.V Nn→Bool:=fun v=>(v)
def air:Bool→HX.V Nn:=fun y=>(y)
def anU:Fs→Option (Bool):=fun x=>jy x
def RS:Spec:=aU Ut Nn alo air anU
def Oi {R:Type}:List (Nat×Hd R):=[(2,bC BJ Ks),(8,bC Cj LF)]
def I4 {R:Type}:List (Nat×Inl R):= []
def LS:Cfg:={T:=wo,aX:=aG.G Tryz.prog,eqs:=v7,N:=51,fuel:=64,loops:=[(8,⟨[1,3,4,5], [],[0,1],2, [], [], [], []⟩),(2,⟨[1,3], [],[0],1, [], [], [], []⟩)],blocks:=[(0,⟨[1], [],[0],1, [], [], [], []⟩),(1,⟨[1,3], [],[0],1, [], [], [], []⟩),(2,⟨[1,3], [],[0],1, [], [], [], []⟩)],eV:=some ⟨[2], [], [],0, [], [], [], []⟩,fid:=31}
theorem aiq:aH Tryz.prog LS:=aZ yL yi trivial
theorem abA {R:Type}:aP Tryz.prog (R:=R) 0 I4:=aC _ _
theorem ajL {R:Type}:bA (R:=R) (hnd 0 I4) LS Oi (sub [1,0,1,0,0] CF) (HS.V BJ) (HS.st BJ) (HS.sh BJ) Ks (bC BJ Ks):=aN BJ Ks (fun _ _=>rfl) (by intro q v K;kernel_rfl)
theorem an6 {R:Type}:bA (R:=R) (hnd 0 I4) LS Oi (sub [1,0,1,0,0,1,0,0,1,1,1,0,0] CF) (HS.V Cj) (HS.st Cj) (HS.sh Cj) LF (bC Cj LF):=aN Cj LF (fun _ _=>rfl) (by intro q v K;kernel_rfl)
theorem akh {R:Type}:aL (R:=R) (hnd 0 I4) LS Oi CF:=aD (l:=[sub [1,0,1,0,0] CF,sub [1,0,1,0,0,1,0,0,1,1,1,0,0] CF]) (by kernel_rfl) (aK (b:=sub [1,0,1,0,0] CF) (rid:=2) (by kernel_rfl) (by kernel_rfl) ajL (aK (b:=sub [1,0,1,0,0,1,0,0,1,1,1,0,0] CF) (rid:=8) (by kernel_rfl) (by kernel_rfl) an6 (trivial)))
theorem ajd:aT Tryz.prog 31 RS:=bl Tryz.f31 aiq yI (d:=0) abA akh (bw (by kernel_rfl)) (toY:=acX)
def Dm:HS:=⟨[(1, .one (.int .i64)),(2, .one (.ptr 0 0)),(4, .one (.ptr 1 0)),(6, .one (.int .i64))],[(0, .cells hFs),(1, .cells hIn)],2⟩
def Jn {R:Type}:Nat→HS.V Dm→(Ex→St→Option R)→Option R:=fun q v K=>
 gR v.1.1 (cFs v.2.1) (fun y8=>K .ret {aA:=[(4, .v (.one (.ptr 1 0))),(5, .v (.one (.bool true)))],mem:=[(1, .cells [.int .i64 y8.ino, .int .i64 y8.kind, .int .i64 y8.ar, .str y8.data, .int .i64 y8.parent, .sl .entry y8.entries])],nx:=2}) (K (.exit 0) {aA:=[(4, .v (.one (.ptr 1 0)))],mem:=[(1, .cells (rIn (cIn v.2.2.1)))],nx:=2}) q v.1.2.2.2.1
def UM:List HV:=[.agg hFs, .one (.int .i64)]
def N_:List HV:=[.agg hIn, .one (.bool)]
def aiQ:HP.V UM→Fs×Int:=fun v=>((cFs v.1),v.2.1)
def acn:HX.V N_→ae×Bool:=fun v=>((cIn v.1),v.2)
def YX:(ae×Bool)→HX.V N_:=fun y=>((y.1.ino,(y.1.kind,(y.1.ar,(y.1.data,(y.1.parent,(y.1.entries,())))))),y.2)
def anG:(Fs×Int)→Option (ae×Bool):=fun x=>bB x.1 x.2
def nR:Spec:=aU UM N_ aiQ YX anG
def V8 {R:Type}:List (Nat×Hd R):=[(2,bC Dm Jn)]
def MC {R:Type}:List (Nat×Inl R):= []
def Mz:Cfg:={T:=wo,aX:=aG.G Tryz.prog,eqs:=v7,N:=28,fuel:=64,loops:=[(2,⟨[1,2,4,6], [],[0,1],2, [],[1], [], []⟩)],blocks:=[(0,⟨[4], [],[1],2, [], [], [], []⟩)],eV:=some ⟨[4,5], [],[1],2, [],[1], [], []⟩,fid:=15}
theorem aiY:aH Tryz.prog Mz:=aZ yL yi trivial
theorem akI {R:Type}:aP Tryz.prog (R:=R) 0 MC:=aC _ _
theorem YK {R:Type}:bA (R:=R) (hnd 0 MC) Mz V8 (sub [1,0,1,0,0] K1) (HS.V Dm) (HS.st Dm) (HS.sh Dm) Jn (bC Dm Jn):=aN Dm Jn (fun _ _=>rfl) (by intro q v K;kernel_rfl)
theorem amZ {R:Type}:aL (R:=R) (hnd 0 MC) Mz V8 K1:=aD (l:=[sub [1,0,1,0,0] K1]) (by kernel_rfl) (aK (b:=sub [1,0,1,0,0] K1) (rid:=2) (by kernel_rfl) (by kernel_rfl) YK (trivial))
theorem oG:aT Tryz.prog 15 nR:=bl Tryz.f15 aiY yI (d:=0) akI amZ (bw (by kernel_rfl)) (toY:=acn)
def BK:HS:=⟨[(1, .one (.ptr 0 0)),(3, .one (.int .i64))],[(0, .cells hFs)],1⟩
def KQ {R:Type}:Nat→HS.V BK→(Ex→St→Option R)→Option R:=fun q v K=>
 ie (cFs v.2.1) (K .ret {aA:=[(2, .v (.one (.bool false)))],mem:= [],nx:=0}) (K (.exit 0) {aA:= [],mem:= [],nx:=0}) q v.1.2.1
def VG:List HV:=[.agg hFs]
def Oe:List HV:=[.one (.bool)]
def ahR:HP.V VG→Fs:=fun v=>((cFs v.1))
def aep:HX.V Oe→Bool:=fun v=>(v)
def aan:Bool→HX.V Oe:=fun y=>(y)
def akK:Fs→Option (Bool):=fun x=>kV x
def Qn:Spec:=aU VG Oe ahR aan akK
def Sv {R:Type}:List (Nat×Hd R):=[(2,bC BK KQ)]
def O5 {R:Type}:List (Nat×Inl R):= []
def NY:Cfg:={T:=wo,aX:=aG.G Tryz.prog,eqs:=v7,N:=25,fuel:=64,loops:=[(2,⟨[1,3], [],[0],1, [], [], [], []⟩)],blocks:=[(0,⟨[], [], [],0, [], [], [], []⟩)],eV:=some ⟨[2], [], [],0, [], [], [], []⟩,fid:=62}
theorem ad0:aH Tryz.prog NY:=aZ yL yi trivial
theorem anh {R:Type}:aP Tryz.prog (R:=R) 0 O5:=aC _ _
theorem afd {R:Type}:bA (R:=R) (hnd 0 O5) NY Sv (sub [1,0,1,0,0] KZ) (HS.V BK) (HS.st BK) (HS.sh BK) KQ (bC BK KQ):=aN BK KQ (fun _ _=>rfl) (by intro q v K;kernel_rfl)
theorem YH {R:Type}:aL (R:=R) (hnd 0 O5) NY Sv KZ:=aD (l:=[sub [1,0,1,0,0] KZ]) (by kernel_rfl) (aK (b:=sub [1,0,1,0,0] KZ) (rid:=2) (by kernel_rfl) (by kernel_rfl) afd (trivial))
theorem UG:aT Tryz.prog 62 Qn:=bl Tryz.f62 ad0 yI (d:=0) anh YH (bw (by kernel_rfl)) (toY:=aep)
end
end Go.Eng
set_option linter.unusedVariables false
set_option maxRecDepth 100000
namespace Go.Eng
noncomputable section
open Go Go.Proofs
def Qb:List (Nat×TI):=[(3,⟨false,1, .one (.int .i64 0), .int .i64⟩),(9,⟨false,1, .one (.str []), .str⟩),(22,⟨false,1, .one (.clip .aB []), .slice .aB 39⟩),(24,⟨true,4, .agg [.int .i64 0, .int .i64 0, .int .i64 0, .clip .aB []], .struct [(0,3),(1,3),(2,3),(3,22)]⟩),(39,⟨true,6, .agg [.int .i64 0, .int .i64 0, .int .i64 0, .str [], .int .i64 0, .clip .entry []], .struct [(0,3),(1,3),(2,3),(3,9),(4,3),(5,37)]⟩)]
def QA:List (Nat×List EK):= []
theorem V6:Tryz.prog.follows .mixedOrders=true:=by kernel_rfl
theorem SB:(Qb.all fun x=>tiB Tryz.prog x.1 x.2)=true:=by kernel_rfl
theorem TS:(QA.all fun x=>eqB Tryz.prog x.1 x.2)=true:=by kernel_rfl
def Jr:Code:=bd Tryz.f104
def Bf:HS:=⟨[(1, .one (.ptr 0 0)),(3, .one (.int .i64)),(4, .one (.int .i64))],[(0, .cells hFs)],1⟩
def IH {R:Type}:Nat→HS.V Bf→(Ex→St→Option R)→Option R:=fun q v K=>
 eB (cFs v.2.1) (fun y6=>K (.exit 0) {aA:=[(3, .v (.one (.int .i64 y6)))],mem:= [],nx:=0}) q v.1.2.1 v.1.2.2.1
def Uc:List HV:=[.agg hFs]
def PE:List HV:=[.one (.int .i64)]
def amC:HP.V Uc→Fs:=fun v=>((cFs v.1))
def Yk:HX.V PE→Int:=fun v=>(v)
def ahT:Int→HX.V PE:=fun y=>(y)
def adR:Fs→Option (Int):=fun x=>lF x
def Tx:Spec:=aU Uc PE amC ahT adR
def T4 {R:Type}:List (Nat×Hd R):=[(3,bC Bf IH)]
def Mg {R:Type}:List (Nat×Inl R):= []
def Mk:Cfg:={T:=Qb,aX:=aG.G Tryz.prog,eqs:=QA,N:=29,fuel:=64,loops:=[(3,⟨[1,3,4], [],[0],1, [], [], [], []⟩)],blocks:=[(0,⟨[3], [], [],0, [], [], [], []⟩)],fid:=104}
theorem aoN:aH Tryz.prog Mk:=aZ SB TS trivial
theorem ai7 {R:Type}:aP Tryz.prog (R:=R) 0 Mg:=aC _ _
theorem aiP {R:Type}:bA (R:=R) (hnd 0 Mg) Mk T4 (sub [1,1,0,1,0,0] Jr) (HS.V Bf) (HS.st Bf) (HS.sh Bf) IH (bC Bf IH):=aN Bf IH (fun _ _=>rfl) (by intro q v K;kernel_rfl)
theorem ado {R:Type}:aL (R:=R) (hnd 0 Mg) Mk T4 Jr:=aD (l:=[sub [1,1,0,1,0,0] Jr]) (by kernel_rfl) (aK (b:=sub [1,1,0,1,0,0] Jr) (rid:=3) (by kernel_rfl) (by kernel_rfl) aiP (trivial))
theorem ams:aT Tryz.prog 104 Tx:=bl Tryz.f104 aoN V6 (d:=0) ai7 ado (bw (by kernel_rfl)) (toY:=Yk)
def SF:List HV:=[.agg hFs, .one (.int .i64), .one (.int .i64)]
def L_:List HV:=[.one (.bool)]
def aiv:HP.V SF→Fs×Int×Int:=fun v=>((cFs v.1),v.2.1,v.2.2.1)
def abX:HX.V L_→Bool:=fun v=>(v)
def ZD:Bool→HX.V L_:=fun y=>(y)
def aiH:(Fs×Int×Int)→Option (Bool):=fun x=>eu x.1 x.2.1 x.2.2
def Jd:Spec:=aU SF L_ aiv ZD aiH
def ad5:Cfg:={T:=Qb,spec:=[(104,Tx)],aX:=aG.G Tryz.prog,eqs:=QA,N:=22,fuel:=64,fid:=58}
theorem abS:aH Tryz.prog ad5:=aZ SB TS ⟨ams,trivial⟩
theorem Pl:aT Tryz.prog 58 Jd:=bV Tryz.f58 abS V6 (toY:=abX)
end
end Go.Eng
set_option linter.unusedVariables false
set_option maxRecDepth 100000
namespace Go.Eng
noncomputable section
open Go Go.Proofs
def AE:List (Nat×TI):=[(3,⟨false,1, .one (.int .i64 0), .int .i64⟩),(9,⟨false,1, .one (.str []), .str⟩),(22,⟨false,1, .one (.clip .aB []), .slice .aB 39⟩),(24,⟨true,4, .agg [.int .i64 0, .int .i64 0, .int .i64 0, .clip .aB []], .struct [(0,3),(1,3),(2,3),(3,22)]⟩),(37,⟨false,1, .one (.clip .entry []), .slice .entry 90⟩),(39,⟨true,6, .agg [.int .i64 0, .int .i64 0, .int .i64 0, .str [], .int .i64 0, .clip .entry []], .struct [(0,3),(1,3),(2,3),(3,9),(4,3),(5,37)]⟩),(90,⟨true,2, .agg [.str [], .int .i64 0], .struct [(0,9),(1,3)]⟩),(118,⟨false,1, .one (.clip .int []), .slice .int 3⟩)]
def AF:List (Nat×List EK):= []
theorem CU:Tryz.prog.follows .mixedOrders=true:=by kernel_rfl
theorem AY:(AE.all fun x=>tiB Tryz.prog x.1 x.2)=true:=by kernel_rfl
theorem A_:(AF.all fun x=>eqB Tryz.prog x.1 x.2)=true:=by kernel_rfl
def KO:Code:=bd Tryz.f64
def Dl:Code:=bd Tryz.f65
def BE:Code:=bd Tryz.f66
def Im:Code:=bd Tryz.f67
def wc:Code:=bd Tryz.f68
def CD:Code:=bd Tryz.f107
def Bg:HS:=⟨[(1, .one (.ptr 0 0)),(3, .one (.int .i64))],[(0, .cells hFs)],1⟩
def Ig {R:Type}:Nat→HS.V Bg→(Ex→St→Option R)→Option R:=fun q v K=>
 fu (cFs v.2.1) (K .ret {aA:=[(2, .v (.one (.bool false)))],mem:= [],nx:=0}) (K (.exit 0) {aA:=[(1, .v (.one (.ptr 0 0)))],mem:=[(0, .cells (rFs (cFs v.2.1)))],nx:=1}) q v.1.2.1
def U1:List HV:=[.agg hFs]
def P7:List HV:=[.one (.bool)]
def ait:HP.V U1→Fs:=fun v=>((cFs v.1))
def ani:HX.V P7→Bool:=fun v=>(v)
def X4:Bool→HX.V P7:=fun y=>(y)
def ac7:Fs→Option (Bool):=fun x=>lM x
def WR:Spec:=aU U1 P7 ait X4 ac7
def SY {R:Type}:List (Nat×Hd R):=[(4,bC Bg Ig)]
def MN {R:Type}:List (Nat×Inl R):= []
def Pc:Cfg:={T:=AE,spec:=[(15,nR),(62,Qn)],aX:=aG.G Tryz.prog,eqs:=AF,N:=69,fuel:=64,loops:=[(4,⟨[1,3], [],[0],1, [], [], [], []⟩)],blocks:=[(0,⟨[1], [],[0],1, [], [], [], []⟩)],eV:=some ⟨[2], [], [],0, [], [], [], []⟩,fid:=64}
theorem ahr:aH Tryz.prog Pc:=aZ AY A_ ⟨oG,⟨UG,trivial⟩⟩
theorem anD {R:Type}:aP Tryz.prog (R:=R) 0 MN:=aC _ _
theorem abB {R:Type}:bA (R:=R) (hnd 0 MN) Pc SY (sub [1,1,0,1,0,0] KO) (HS.V Bg) (HS.st Bg) (HS.sh Bg) Ig (bC Bg Ig):=aN Bg Ig (fun _ _=>rfl) (by intro q v K;kernel_rfl)
theorem Yq {R:Type}:aL (R:=R) (hnd 0 MN) Pc SY KO:=aD (l:=[sub [1,1,0,1,0,0] KO]) (by kernel_rfl) (aK (b:=sub [1,1,0,1,0,0] KO) (rid:=4) (by kernel_rfl) (by kernel_rfl) abB (trivial))
theorem abp:aT Tryz.prog 64 WR:=bl Tryz.f64 ahr CU (d:=0) anD Yq (bw (by kernel_rfl)) (toY:=ani)
def Dg:HS:=⟨[(1, .one (.ptr 0 0)),(3, .one (.int .i64)),(4, .one (.ptr 1 0)),(5, .one (.int .i64))],[(0, .cells hFs),(1, .cells hIn)],2⟩
def I5 {R:Type}:Nat→HS.V Dg→(Ex→St→Option R)→Option R:=fun q v K=>
 aQ (cIn v.2.2.1) (K .ret {aA:=[(2, .v (.one (.bool false)))],mem:= [],nx:=0}) (K (.exit 2) {aA:=[(1, .v (.one (.ptr 0 0))),(3, .v (.one (.int .i64 v.1.2.1)))],mem:=[(0, .cells (rFs (cFs v.2.1)))],nx:=1}) q v.1.2.2.2.1
def Dk:HS:=⟨[(1, .one (.ptr 0 0)),(3, .one (.int .i64))],[(0, .cells hFs)],1⟩
def KW {R:Type}:Nat→HS.V Dk→(Ex→St→Option R)→Option R:=fun q v K=>
 aY (cFs v.2.1) (K .ret {aA:=[(2, .v (.one (.bool false)))],mem:= [],nx:=0}) (K (.exit 0) {aA:= [],mem:= [],nx:=0}) q v.1.2.1
def Ve:List HV:=[.agg hFs]
def M3:List HV:=[.one (.bool)]
def anz:HP.V Ve→Fs:=fun v=>((cFs v.1))
def Zw:HX.V M3→Bool:=fun v=>(v)
def ZS:Bool→HX.V M3:=fun y=>(y)
def adx:Fs→Option (Bool):=fun x=>ko x
def RN:Spec:=aU Ve M3 anz ZS adx
def Mh {R:Type}:List (Nat×Hd R):=[(2,bC Dk KW),(14,bC Dg I5)]
def HC {R:Type}:List (Nat×Inl R):= []
def I7:Cfg:={T:=AE,spec:=[(106,VQ)],aX:=aG.G Tryz.prog,eqs:=AF,N:=91,fuel:=64,loops:=[(14,⟨[1,3,4,5], [],[0,1],2, [], [], [], []⟩),(2,⟨[1,3], [],[0],1, [], [], [], []⟩)],blocks:=[(0,⟨[], [], [],0, [], [], [], []⟩),(1,⟨[1,3], [],[0],1, [], [], [], []⟩),(2,⟨[1,3], [],[0],1, [], [], [], []⟩)],eV:=some ⟨[2], [], [],0, [], [], [], []⟩,fid:=65}
theorem ajC:aH Tryz.prog I7:=aZ AY A_ ⟨akb,trivial⟩
theorem aj4 {R:Type}:aP Tryz.prog (R:=R) 0 HC:=aC _ _
theorem adb {R:Type}:bA (R:=R) (hnd 0 HC) I7 Mh (sub [1,0,1,0,0] Dl) (HS.V Dk) (HS.st Dk) (HS.sh Dk) KW (bC Dk KW):=aN Dk KW (fun _ _=>rfl) (by intro q v K;kernel_rfl)
theorem aia {R:Type}:bA (R:=R) (hnd 0 HC) I7 Mh (sub [1,0,1,0,0,1,0,0,1,1,1,1,1,1,0,0] Dl) (HS.V Dg) (HS.st Dg) (HS.sh Dg) I5 (bC Dg I5):=aN Dg I5 (fun _ _=>rfl) (by intro q v K;kernel_rfl)
theorem amt {R:Type}:aL (R:=R) (hnd 0 HC) I7 Mh Dl:=aD (l:=[sub [1,0,1,0,0] Dl,sub [1,0,1,0,0,1,0,0,1,1,1,1,1,1,0,0] Dl]) (by kernel_rfl) (aK (b:=sub [1,0,1,0,0] Dl) (rid:=2) (by kernel_rfl) (by kernel_rfl) adb (aK (b:=sub [1,0,1,0,0,1,0,0,1,1,1,1,1,1,0,0] Dl) (rid:=14) (by kernel_rfl) (by kernel_rfl) aia (trivial)))
theorem ajT:aT Tryz.prog 65 RN:=bl Tryz.f65 ajC CU (d:=0) aj4 amt (bw (by kernel_rfl)) (toY:=Zw)
def BN:HS:=⟨[(1, .one (.ptr 0 0)),(3, .one (.int .i64)),(4, .one (.int .i64))],[(0, .cells hFs)],1⟩
def HT {R:Type}:Nat→HS.V BN→(Ex→St→Option R)→Option R:=fun q v K=>
 eC v.1.2.1 (cFs v.2.1) (K .ret {aA:=[(2, .v (.one (.bool false)))],mem:= [],nx:=0}) (K (.exit 2) {aA:=[(1, .v (.one (.ptr 0 0))),(3, .v (.one (.int .i64 v.1.2.1)))],mem:=[(0, .cells (rFs (cFs v.2.1)))],nx:=1}) q v.1.2.2.1
def Cp:HS:=⟨[(1, .one (.ptr 0 0)),(3, .one (.int .i64))],[(0, .cells hFs)],1⟩
def Kr {R:Type}:Nat→HS.V Cp→(Ex→St→Option R)→Option R:=fun q v K=>
 fm (cFs v.2.1) (K .ret {aA:=[(2, .v (.one (.bool false)))],mem:= [],nx:=0}) (K (.exit 0) {aA:= [],mem:= [],nx:=0}) q v.1.2.1
def WZ:List HV:=[.agg hFs]
def PL:List HV:=[.one (.bool)]
def anH:HP.V WZ→Fs:=fun v=>((cFs v.1))
def ahn:HX.V PL→Bool:=fun v=>(v)
def ad4:Bool→HX.V PL:=fun y=>(y)
def abE:Fs→Option (Bool):=fun x=>lS x
def Vb:Spec:=aU WZ PL anH ad4 abE
def NQ {R:Type}:List (Nat×Hd R):=[(2,bC Cp Kr),(5,bC BN HT)]
def II {R:Type}:List (Nat×Inl R):= []
def IT:Cfg:={T:=AE,spec:=[(15,nR)],aX:=aG.G Tryz.prog,eqs:=AF,N:=42,fuel:=64,loops:=[(5,⟨[1,3,4], [],[0],1, [], [], [], []⟩),(2,⟨[1,3], [],[0],1, [], [], [], []⟩)],blocks:=[(0,⟨[], [], [],0, [], [], [], []⟩),(1,⟨[1,3], [],[0],1, [], [], [], []⟩),(2,⟨[1,3], [],[0],1, [], [], [], []⟩)],eV:=some ⟨[2], [], [],0, [], [], [], []⟩,fid:=66}
theorem abl:aH Tryz.prog IT:=aZ AY A_ ⟨oG,trivial⟩
theorem X_ {R:Type}:aP Tryz.prog (R:=R) 0 II:=aC _ _
theorem ahS {R:Type}:bA (R:=R) (hnd 0 II) IT NQ (sub [1,0,1,0,0] BE) (HS.V Cp) (HS.st Cp) (HS.sh Cp) Kr (bC Cp Kr):=aN Cp Kr (fun _ _=>rfl) (by intro q v K;kernel_rfl)
theorem acw {R:Type}:bA (R:=R) (hnd 0 II) IT NQ (sub [1,0,1,0,0,1,0,0,1,0,0] BE) (HS.V BN) (HS.st BN) (HS.sh BN) HT (bC BN HT):=aN BN HT (fun _ _=>rfl) (by intro q v K;kernel_rfl)
theorem anx {R:Type}:aL (R:=R) (hnd 0 II) IT NQ BE:=aD (l:=[sub [1,0,1,0,0] BE,sub [1,0,1,0,0,1,0,0,1,0,0] BE]) (by kernel_rfl) (aK (b:=sub [1,0,1,0,0] BE) (rid:=2) (by kernel_rfl) (by kernel_rfl) ahS (aK (b:=sub [1,0,1,0,0,1,0,0,1,0,0] BE) (rid:=5) (by kernel_rfl) (by kernel_rfl) acw (trivial)))
theorem am0:aT Tryz.prog 66 Vb:=bl Tryz.f66 abl CU (d:=0) X_ anx (bw (by kernel_rfl)) (toY:=ahn)
def Bp:HS:=⟨[(1, .one (.int .i64)),(2, .one (.ptr 0 0)),(6, .one (.int .i64)),(7, .one (.int .i64)),(8, .one (.int .i64)),(9, .one (.int .i64))],[(0, .cells hFs)],1⟩
def KS {R:Type}:Nat→HS.V Bp→(Ex→St→Option R)→Option R:=fun q v K=>
 dK v.1.1 v.1.2.2.2.2.1 (cFs v.2.1) (fun y17 y18=>K (.exit 2) {aA:=[(1, .v (.one (.int .i64 v.1.1))),(2, .v (.one (.ptr 0 0))),(6, .v (.one (.int .i64 y17))),(7, .v (.one (.int .i64 y18))),(8, .v (.one (.int .i64 v.1.2.2.2.2.1)))],mem:=[(0, .cells (rFs (cFs v.2.1)))],nx:=1}) q v.1.2.2.1 v.1.2.2.2.1 v.1.2.2.2.2.2.1
def Cy:HS:=⟨[(1, .one (.int .i64)),(2, .one (.ptr 0 0)),(6, .one (.int .i64)),(7, .one (.int .i64)),(8, .one (.int .i64))],[(0, .cells hFs)],1⟩
def Ls {R:Type}:Nat→HS.V Cy→(Ex→St→Option R)→Option R:=fun q v K=>
 ft v.1.1 (cFs v.2.1) (fun y23 y24=>K (.exit 0) {aA:=[(6, .v (.one (.int .i64 y23))),(7, .v (.one (.int .i64 y24)))],mem:= [],nx:=0}) q v.1.2.2.1 v.1.2.2.2.1 v.1.2.2.2.2.1
def Wg:List HV:=[.agg hFs, .one (.int .i64)]
def M5:List HV:=[.one (.int .i64), .one (.int .i64)]
def YY:HP.V Wg→Fs×Int:=fun v=>((cFs v.1),v.2.1)
def anu:HX.V M5→Int×Int:=fun v=>(v.1,v.2)
def aoh:(Int×Int)→HX.V M5:=fun y=>(y.1,y.2)
def ag3:(Fs×Int)→Option (Int×Int):=fun x=>lD x.1 x.2
def VU:Spec:=aU Wg M5 YY aoh ag3
def MV {R:Type}:List (Nat×Hd R):=[(4,bC Cy Ls),(7,bC Bp KS)]
def K0 {R:Type}:List (Nat×Inl R):= []
def Ld:Cfg:={T:=AE,aX:=aG.G Tryz.prog,eqs:=AF,N:=50,fuel:=64,loops:=[(7,⟨[1,2,6,7,8,9], [],[0],1, [], [], [], []⟩),(4,⟨[1,2,6,7,8], [],[0],1, [], [], [], []⟩)],blocks:=[(0,⟨[6,7], [], [],0, [], [], [], []⟩),(1,⟨[1,2,6,7,8], [],[0],1, [], [], [], []⟩),(2,⟨[1,2,6,7,8], [],[0],1, [], [], [], []⟩)],fid:=107}
theorem ag9:aH Tryz.prog Ld:=aZ AY A_ trivial
theorem aon {R:Type}:aP Tryz.prog (R:=R) 0 K0:=aC _ _
theorem agD {R:Type}:bA (R:=R) (hnd 0 K0) Ld MV (sub [1,1,1,0,1,0,0] CD) (HS.V Cy) (HS.st Cy) (HS.sh Cy) Ls (bC Cy Ls):=aN Cy Ls (fun _ _=>rfl) (by intro q v K;kernel_rfl)
theorem ad7 {R:Type}:bA (R:=R) (hnd 0 K0) Ld MV (sub [1,1,1,0,1,0,0,1,0,0,1,0,0] CD) (HS.V Bp) (HS.st Bp) (HS.sh Bp) KS (bC Bp KS):=aN Bp KS (fun _ _=>rfl) (by intro q v K;kernel_rfl)
theorem alF {R:Type}:aL (R:=R) (hnd 0 K0) Ld MV CD:=aD (l:=[sub [1,1,1,0,1,0,0] CD,sub [1,1,1,0,1,0,0,1,0,0,1,0,0] CD]) (by kernel_rfl) (aK (b:=sub [1,1,1,0,1,0,0] CD) (rid:=4) (by kernel_rfl) (by kernel_rfl) agD (aK (b:=sub [1,1,1,0,1,0,0,1,0,0,1,0,0] CD) (rid:=7) (by kernel_rfl) (by kernel_rfl) ad7 (trivial)))
theorem aof:aT Tryz.prog 107 VU:=bl Tryz.f107 ag9 CU (d:=0) aon alF (bw (by kernel_rfl)) (toY:=anu)
def De:HS:=⟨[(1, .one (.ptr 0 0)),(3, .one (.int .i64))],[(0, .cells hFs)],1⟩
def JQ {R:Type}:Nat→HS.V De→(Ex→St→Option R)→Option R:=fun q v K=>
 dn (cFs v.2.1) (K .ret {aA:=[(2, .v (.one (.bool false)))],mem:= [],nx:=0}) (K (.exit 0) {aA:= [],mem:= [],nx:=0}) q v.1.2.1
def UC:List HV:=[.agg hFs]
def Ot:List HV:=[.one (.bool)]
def Ys:HP.V UC→Fs:=fun v=>((cFs v.1))
def agc:HX.V Ot→Bool:=fun v=>(v)
def akA:Bool→HX.V Ot:=fun y=>(y)
def ake:Fs→Option (Bool):=fun x=>kq x
def Ws:Spec:=aU UC Ot Ys akA ake
def RC {R:Type}:List (Nat×Hd R):=[(2,bC De JQ)]
def P9 {R:Type}:List (Nat×Inl R):= []
def Qu:Cfg:={T:=AE,spec:=[(107,VU)],aX:=aG.G Tryz.prog,eqs:=AF,N:=57,fuel:=64,loops:=[(2,⟨[1,3], [],[0],1, [], [], [], []⟩)],blocks:=[(0,⟨[], [], [],0, [], [], [], []⟩)],eV:=some ⟨[2], [], [],0, [], [], [], []⟩,fid:=67}
theorem af9:aH Tryz.prog Qu:=aZ AY A_ ⟨aof,trivial⟩
theorem ak4 {R:Type}:aP Tryz.prog (R:=R) 0 P9:=aC _ _
theorem X2 {R:Type}:bA (R:=R) (hnd 0 P9) Qu RC (sub [1,0,1,0,0] Im) (HS.V De) (HS.st De) (HS.sh De) JQ (bC De JQ):=aN De JQ (fun _ _=>rfl) (by intro q v K;kernel_rfl)
theorem ZL {R:Type}:aL (R:=R) (hnd 0 P9) Qu RC Im:=aD (l:=[sub [1,0,1,0,0] Im]) (by kernel_rfl) (aK (b:=sub [1,0,1,0,0] Im) (rid:=2) (by kernel_rfl) (by kernel_rfl) X2 (trivial))
theorem anl:aT Tryz.prog 67 Ws:=bl Tryz.f67 af9 CU (d:=0) ak4 ZL (bw (by kernel_rfl)) (toY:=agc)
def Cu:HS:=⟨[(1, .one (.ptr 0 0)),(3, .one (.own 1)),(4, .one (.int .i64)),(5, .one (.ptr 2 0)),(7, .one (.int .i64)),(8, .one (.bool)),(9, .one (.int .i64))],[(0, .cells hFs),(1, .row .int),(2, .cells hIn)],3⟩
def K4 {R:Type}:Nat→HS.V Cu→(Ex→St→Option R)→Option R:=fun q v K=>
 dq v.1.2.2.2.2.1 v.2.2.1 (cIn v.2.2.2.1) (fun y22=>K (.exit 4) {aA:=[(1, .v (.one (.ptr 0 0))),(3, .v (.one (.own 1))),(4, .v (.one (.int .i64 v.1.2.2.1))),(5, .v (.one (.ptr 2 0))),(7, .v (.one (.int .i64 v.1.2.2.2.2.1))),(8, .v (.one (.bool y22)))],mem:=[(0, .cells (rFs (cFs v.2.1))),(1, .row .int v.2.2.1),(2, .cells (rIn (cIn v.2.2.2.1)))],nx:=3}) q v.1.2.2.2.2.2.1 v.1.2.2.2.2.2.2.1
def B2:HS:=⟨[(1, .one (.ptr 0 0)),(3, .one (.own 1)),(4, .one (.int .i64)),(5, .one (.ptr 2 0)),(7, .one (.int .i64))],[(0, .cells hFs),(1, .row .int),(2, .cells hIn)],3⟩
def JN {R:Type}:Nat→HS.V B2→(Ex→St→Option R)→Option R:=fun q v K=>
 dH (cIn v.2.2.2.1) (fun y30=>K (.exit 2) {aA:=[(1, .v (.one (.ptr 0 0))),(3, .v (.one (.own 1))),(4, .v (.one (.int .i64 v.1.2.2.1)))],mem:=[(0, .cells (rFs (cFs v.2.1))),(1, .row .int y30)],nx:=2}) q v.1.2.2.2.2.1 v.2.2.1
def Ds:HS:=⟨[(1, .one (.ptr 0 0)),(3, .one (.own 1)),(4, .one (.int .i64))],[(0, .cells hFs),(1, .row .int)],2⟩
def Lc {R:Type}:Nat→HS.V Ds→(Ex→St→Option R)→Option R:=fun q v K=>
 gr (cFs v.2.1) (fun y33=>K (.exit 0) {aA:=[(1, .v (.one (.ptr 0 0))),(3, .v (.one (.own 1)))],mem:=[(0, .cells (rFs (cFs v.2.1))),(1, .row .int y33)],nx:=2}) q v.1.2.2.1 v.2.2.1
def Us:List HV:=[.agg hFs]
def Na:List HV:=[.one (.bool)]
def af2:HP.V Us→Fs:=fun v=>((cFs v.1))
def aaW:HX.V Na→Bool:=fun v=>(v)
def akQ:Bool→HX.V Na:=fun y=>(y)
def acf:Fs→Option (Bool):=fun x=>lU x
def Wp:Spec:=aU Us Na af2 akQ acf
def Kn {R:Type}:List (Nat×Hd R):=[(3,bC Ds Lc),(7,bC B2 JN),(11,bC Cu K4)]
def Fv {R:Type}:List (Nat×Inl R):= []
def Gm:Cfg:={T:=AE,spec:=[(15,nR)],aX:=aG.G Tryz.prog,eqs:=AF,N:=70,fuel:=64,loops:=[(11,⟨[1,3,4,5,7,8,9], [],[0,1,2],3, [], [], [], []⟩),(7,⟨[1,3,4,5,7], [],[0,1,2],3, [], [], [], []⟩),(3,⟨[1,3,4], [],[0,1],2, [], [], [], []⟩)],blocks:=[(0,⟨[1,3], [],[0,1],2, [], [], [], []⟩),(1,⟨[1,3,4], [],[0,1],2, [], [], [], []⟩),(2,⟨[1,3,4], [],[0,1],2, [], [], [], []⟩),(3,⟨[1,3,4,5,7], [],[0,1,2],3, [], [], [], []⟩),(4,⟨[1,3,4,5,7,8], [],[0,1,2],3, [], [], [], []⟩)],fid:=68}
theorem abI:aH Tryz.prog Gm:=aZ AY A_ ⟨oG,trivial⟩
theorem agi {R:Type}:aP Tryz.prog (R:=R) 0 Fv:=aC _ _
theorem anZ {R:Type}:bA (R:=R) (hnd 0 Fv) Gm Kn (sub [1,1,0,1,0,0] wc) (HS.V Ds) (HS.st Ds) (HS.sh Ds) Lc (bC Ds Lc):=aN Ds Lc (fun _ _=>rfl) (by intro q v K;kernel_rfl)
theorem amV {R:Type}:bA (R:=R) (hnd 0 Fv) Gm Kn (sub [1,1,0,1,0,0,1,0,0,1,1,0,0] wc) (HS.V B2) (HS.st B2) (HS.sh B2) JN (bC B2 JN):=aN B2 JN (fun _ _=>rfl) (by intro q v K;kernel_rfl)
theorem amk {R:Type}:bA (R:=R) (hnd 0 Fv) Gm Kn (sub [1,1,0,1,0,0,1,0,0,1,1,0,0,1,0,0,1,0,1,0,0] wc) (HS.V Cu) (HS.st Cu) (HS.sh Cu) K4 (bC Cu K4):=aN Cu K4 (fun _ _=>rfl) (by intro q v K;kernel_rfl)
theorem ahu {R:Type}:aL (R:=R) (hnd 0 Fv) Gm Kn wc:=aD (l:=[sub [1,1,0,1,0,0] wc,sub [1,1,0,1,0,0,1,0,0,1,1,0,0] wc,sub [1,1,0,1,0,0,1,0,0,1,1,0,0,1,0,0,1,0,1,0,0] wc]) (by kernel_rfl) (aK (b:=sub [1,1,0,1,0,0] wc) (rid:=3) (by kernel_rfl) (by kernel_rfl) anZ (aK (b:=sub [1,1,0,1,0,0,1,0,0,1,1,0,0] wc) (rid:=7) (by kernel_rfl) (by kernel_rfl) amV (aK (b:=sub [1,1,0,1,0,0,1,0,0,1,1,0,0,1,0,0,1,0,1,0,0] wc) (rid:=11) (by kernel_rfl) (by kernel_rfl) amk (trivial))))
theorem af_:aT Tryz.prog 68 Wp:=bl Tryz.f68 abI CU (d:=0) agi ahu (bw (by kernel_rfl)) (toY:=aaW)
def Tu:List HV:=[.agg hFs]
def Rb:List HV:=[.one (.int .i64)]
def amW:HP.V Tu→Fs:=fun v=>((cFs v.1))
def ank:HX.V Rb→Int:=fun v=>(v)
def agk:Int→HX.V Rb:=fun y=>(y)
def ZT:Fs→Option (Int):=fun x=>eY x
def Oz:Spec:=aU Tu Rb amW agk ZT
def agQ:Cfg:={T:=AE,spec:=[(58,Jd),(64,WR),(65,RN),(66,Vb),(67,Ws),(68,Wp)],aX:=aG.G Tryz.prog,eqs:=AF,N:=21,fuel:=64,fid:=26}
theorem aaG:aH Tryz.prog agQ:=aZ AY A_ ⟨Pl,⟨abp,⟨ajT,⟨am0,⟨anl,⟨af_,trivial⟩⟩⟩⟩⟩⟩
theorem Um:aT Tryz.prog 26 Oz:=bV Tryz.f26 aaG CU (toY:=ank)
end
end Go.Eng
set_option linter.unusedVariables false
set_option maxRecDepth 100000
namespace Go.Eng
noncomputable section
open Go Go.Proofs
def V7:List (Nat×TI):=[(3,⟨false,1, .one (.int .i64 0), .int .i64⟩),(9,⟨false,1, .one (.str []), .str⟩),(24,⟨true,4, .agg [.int .i64 0, .int .i64 0, .int .i64 0, .clip .aB []], .struct [(0,3),(1,3),(2,3),(3,22)]⟩),(34,⟨true,3, .agg [.int .i64 0, .str [], .int .i64 0], .struct [(0,3),(1,9),(2,3)]⟩),(37,⟨false,1, .one (.clip .entry []), .slice .entry 90⟩),(39,⟨true,6, .agg [.int .i64 0, .int .i64 0, .int .i64 0, .str [], .int .i64 0, .clip .entry []], .struct [(0,3),(1,3),(2,3),(3,9),(4,3),(5,37)]⟩),(67,⟨false,1, .one (.clip .str []), .slice .str 9⟩)]
def Te:List (Nat×List EK):= []
theorem anS:Tryz.prog.follows .mixedOrders=true:=by kernel_rfl
theorem apb:(V7.all fun x=>tiB Tryz.prog x.1 x.2)=true:=by kernel_rfl
theorem agY:(Te.all fun x=>eqB Tryz.prog x.1 x.2)=true:=by kernel_rfl
def Ib:Code:=bd Tryz.f14
def BC:HS:=⟨[(2, .one (.ptr 0 0)),(4, .one (.ptr 1 0)),(6, .one (.sl .str)),(8, .one (.ptr 2 0)),(9, .one (.int .i64))],[(0, .cells hFs),(1, .cells [.int .i64, .str, .int .i64]),(2, .cells [.int .i64, .str, .int .i64])],3⟩
def LR {R:Type}:Nat→HS.V BC→(Ex→St→Option R)→Option R:=fun q v K=>
 iE v.1.2.2.1 (cFs v.2.1) (fun y11=>K .ret {aA:=[(4, .v (.one (.ptr 1 0))),(5, .v (.one (.int .i64 y11)))],mem:=[(1, .cells [.int .i64 ((⟨0, [],0⟩:ax).dir), .str ((⟨0, [],0⟩:ax).name), .int .i64 ((⟨0, [],0⟩:ax).ino)])],nx:=2}) (fun y14=>K (.exit 0) {aA:=[(4, .v (.one (.ptr 1 0))),(8, .v (.one (.ptr 2 0)))],mem:=[(1, .cells [.int .i64 ((⟨v.2.2.1.1,v.2.2.1.2.1,v.2.2.1.2.2.1⟩:ax).dir), .str ((⟨v.2.2.1.1,v.2.2.1.2.1,v.2.2.1.2.2.1⟩:ax).name), .int .i64 ((⟨v.2.2.1.1,v.2.2.1.2.1,v.2.2.1.2.2.1⟩:ax).ino)]),(2, .cells [.int .i64 y14.dir, .str y14.name, .int .i64 y14.ino])],nx:=3}) q v.1.2.2.2.2.1 (⟨v.2.2.2.1.1,v.2.2.2.1.2.1,v.2.2.2.1.2.2.1⟩:ax)
def TY:List HV:=[.agg hFs, .one (.str)]
def NS:List HV:=[.agg [.int .i64, .str, .int .i64], .one (.int .i64)]
def agJ:HP.V TY→Fs×Str:=fun v=>((cFs v.1),v.2.1)
def aeP:HX.V NS→ax×Int:=fun v=>((⟨v.1.1,v.1.2.1,v.1.2.2.1⟩:ax),v.2)
def Yf:(ax×Int)→HX.V NS:=fun y=>((y.1.dir,(y.1.name,(y.1.ino,()))),y.2)
def aaO:(Fs×Str)→Option (ax×Int):=fun x=>iP x.1 x.2
def Gv:Spec:=aU TY NS agJ Yf aaO
def Tk {R:Type}:List (Nat×Hd R):=[(6,bC BC LR)]
def NK {R:Type}:List (Nat×Inl R):= []
def P0:Cfg:={T:=V7,spec:=[(15,nR),(36,U7),(37,SK)],aX:=aG.G Tryz.prog,eqs:=Te,N:=63,fuel:=64,loops:=[(6,⟨[2,4,6,8,9], [],[0,1,2],3, [], [], [], []⟩)],blocks:=[(0,⟨[4,8], [],[1,2],3, [], [], [], []⟩)],eV:=some ⟨[4,5], [],[1],2, [], [], [], []⟩,fid:=14}
theorem ai9:aH Tryz.prog P0:=aZ apb agY ⟨oG,⟨aaD,⟨ac1,trivial⟩⟩⟩
theorem Yl {R:Type}:aP Tryz.prog (R:=R) 0 NK:=aC _ _
theorem aoU {R:Type}:bA (R:=R) (hnd 0 NK) P0 Tk (sub [1,1,1,1,0,1,0,0] Ib) (HS.V BC) (HS.st BC) (HS.sh BC) LR (bC BC LR):=aN BC LR (fun _ _=>rfl) (by intro q v K;kernel_rfl)
theorem al4 {R:Type}:aL (R:=R) (hnd 0 NK) P0 Tk Ib:=aD (l:=[sub [1,1,1,1,0,1,0,0] Ib]) (by kernel_rfl) (aK (b:=sub [1,1,1,1,0,1,0,0] Ib) (rid:=6) (by kernel_rfl) (by kernel_rfl) aoU (trivial))
theorem K8:aT Tryz.prog 14 Gv:=bl Tryz.f14 ai9 anS (d:=0) Yl al4 (bw (by kernel_rfl)) (toY:=aeP)
end
end Go.Eng
set_option linter.unusedVariables false
set_option maxRecDepth 100000
namespace Go.Eng
noncomputable section
open Go Go.Proofs
def ME:List (Nat×TI):=[(3,⟨false,1, .one (.int .i64 0), .int .i64⟩),(9,⟨false,1, .one (.str []), .str⟩),(24,⟨true,4, .agg [.int .i64 0, .int .i64 0, .int .i64 0, .clip .aB []], .struct [(0,3),(1,3),(2,3),(3,22)]⟩),(34,⟨true,3, .agg [.int .i64 0, .str [], .int .i64 0], .struct [(0,3),(1,9),(2,3)]⟩),(37,⟨false,1, .one (.clip .entry []), .slice .entry 90⟩),(39,⟨true,6, .agg [.int .i64 0, .int .i64 0, .int .i64 0, .str [], .int .i64 0, .clip .entry []], .struct [(0,3),(1,3),(2,3),(3,9),(4,3),(5,37)]⟩)]
def Nh:List (Nat×List EK):= []
theorem VL:Tryz.prog.follows .mixedOrders=true:=by kernel_rfl
theorem Si:(ME.all fun x=>tiB Tryz.prog x.1 x.2)=true:=by kernel_rfl
theorem Tm:(Nh.all fun x=>eqB Tryz.prog x.1 x.2)=true:=by kernel_rfl
def U9:List HV:=[.agg hFs, .agg [.int .i64, .str, .int .i64]]
def Qq:List HV:=[.agg hFs]
def aeI:HP.V U9→Fs×ax:=fun v=>((cFs v.1),(⟨v.2.1.1,v.2.1.2.1,v.2.1.2.2.1⟩:ax))
def aeK:HX.V Qq→Fs:=fun v=>((cFs v))
def abM:Fs→HX.V Qq:=fun y=>((y.aq,(y.au,(y.next,(y.aa,())))))
def Yi:(Fs×ax)→Option (Fs):=fun x=>kD x.1 x.2
def UQ:Spec:=aU U9 Qq aeI abM Yi
def ahC:Cfg:={T:=ME,spec:=[(15,nR),(47,CX),(59,K9),(96,NC)],aX:=aG.G Tryz.prog,eqs:=Nh,N:=46,fuel:=64,fid:=46}
theorem afk:aH Tryz.prog ahC:=aZ Si Tm ⟨oG,⟨Ef,⟨Nx,⟨Vt,trivial⟩⟩⟩⟩
theorem alN:aT Tryz.prog 46 UQ:=bV Tryz.f46 afk VL (toY:=aeK)
def Wf:List HV:=[.agg hFs, .agg [.int .i64, .str, .int .i64], .one (.int .i64)]
def PF:List HV:=[.agg hFs]
def abL:HP.V Wf→Fs×ax×Int:=fun v=>((cFs v.1),(⟨v.2.1.1,v.2.1.2.1,v.2.1.2.2.1⟩:ax),v.2.2.1)
def acW:HX.V PF→Fs:=fun v=>((cFs v))
def anV:Fs→HX.V PF:=fun y=>((y.aq,(y.au,(y.next,(y.aa,())))))
def Ze:(Fs×ax×Int)→Option (Fs):=fun x=>dx x.1 x.2.1 x.2.2
def W1:Spec:=aU Wf PF abL anV Ze
def ae3:Cfg:={T:=ME,spec:=[(15,nR),(47,CX),(105,Tz)],aX:=aG.G Tryz.prog,eqs:=Nh,N:=40,fuel:=64,fid:=60}
theorem adI:aH Tryz.prog ae3:=aZ Si Tm ⟨oG,⟨Ef,⟨akS,trivial⟩⟩⟩
theorem Z3:aT Tryz.prog 60 W1:=bV Tryz.f60 adI VL (toY:=acW)
end
end Go.Eng
set_option linter.unusedVariables false
set_option maxRecDepth 100000
namespace Go.Eng
noncomputable section
open Go Go.Proofs
def q_:List (Nat×TI):=[(3,⟨false,1, .one (.int .i64 0), .int .i64⟩),(4,⟨false,1, .one (.bool false), .bool⟩),(9,⟨false,1, .one (.str []), .str⟩),(22,⟨false,1, .one (.clip .aB []), .slice .aB 39⟩),(24,⟨true,4, .agg [.int .i64 0, .int .i64 0, .int .i64 0, .clip .aB []], .struct [(0,3),(1,3),(2,3),(3,22)]⟩),(25,⟨false,1, .one (.clip .kept []), .slice .kept 60⟩),(27,⟨true,2, .agg [.clip .kept [], .clip .aB []], .struct [(0,25),(1,22)]⟩),(29,⟨true,6, .agg [.int .i64 0, .int .i64 0, .int .i64 0, .clip .aB [], .clip .kept [], .clip .aB []], .struct [(0,24),(4,27)]⟩),(34,⟨true,3, .agg [.int .i64 0, .str [], .int .i64 0], .struct [(0,3),(1,9),(2,3)]⟩),(37,⟨false,1, .one (.clip .entry []), .slice .entry 90⟩),(39,⟨true,6, .agg [.int .i64 0, .int .i64 0, .int .i64 0, .str [], .int .i64 0, .clip .entry []], .struct [(0,3),(1,3),(2,3),(3,9),(4,3),(5,37)]⟩),(60,⟨true,4, .agg [.int .i64 0, .int .i64 0, .bool false, .str []], .struct [(0,3),(1,3),(2,4),(3,9)]⟩)]
def qT:List (Nat×List EK):=[(60,[.i, .i, .b, .s])]
theorem rM:Tryz.prog.follows .mixedOrders=true:=by kernel_rfl
theorem rj:(q_.all fun x=>tiB Tryz.prog x.1 x.2)=true:=by kernel_rfl
theorem rU:(qT.all fun x=>eqB Tryz.prog x.1 x.2)=true:=by kernel_rfl
def HN:Code:=bd Tryz.f10
def HJ:Code:=bd Tryz.f12
def CT:Code:=bd Tryz.f25
def Je:Code:=bd Tryz.f45
def KT:Code:=bd Tryz.f48
def IB:Code:=bd Tryz.f61
def BA:Code:=bd Tryz.f63
def BQ:HS:=⟨[(2, .one (.ptr 0 0)),(3, .one (.ptr 1 0)),(5, .one (.int .i64))],[(0, .cells [.int .i64, .int .i64, .int .i64, .sl .aB, .sl .kept, .sl .aB]),(1, .cells [.int .i64, .int .i64, .int .i64, .sl .aB, .sl .kept, .sl .aB])],2⟩
def It {R:Type}:Nat→HS.V BQ→(Ex→St→Option R)→Option R:=fun q v K=>
 fR (⟨(cFs v.2.1),(⟨v.2.1.2.2.2.2.1,v.2.1.2.2.2.2.2.1⟩:ay)⟩:al) (⟨(cFs v.2.2.1),(⟨v.2.2.1.2.2.2.2.1,v.2.2.1.2.2.2.2.2.1⟩:ay)⟩:al) (K .ret {aA:=[(4, .v (.one (.bool false)))],mem:= [],nx:=0}) (K (.exit 0) {aA:= [],mem:= [],nx:=0}) q v.1.2.2.1
def U3:List HV:=[.agg [.int .i64, .int .i64, .int .i64, .sl .aB, .sl .kept, .sl .aB], .agg [.int .i64, .int .i64, .int .i64, .sl .aB, .sl .kept, .sl .aB]]
def Ob:List HV:=[.one (.bool)]
def Xw:HP.V U3→al×al:=fun v=>((⟨(cFs v.1),(⟨v.1.2.2.2.2.1,v.1.2.2.2.2.2.1⟩:ay)⟩:al),(⟨(cFs v.2.1),(⟨v.2.1.2.2.2.2.1,v.2.1.2.2.2.2.2.1⟩:ay)⟩:al))
def af4:HX.V Ob→Bool:=fun v=>(v)
def an4:Bool→HX.V Ob:=fun y=>(y)
def XC:(al×al)→Option (Bool):=fun x=>bo x.1 x.2
def zD:Spec:=aU U3 Ob Xw an4 XC
def UU {R:Type}:List (Nat×Hd R):=[(4,bC BQ It)]
def OA {R:Type}:List (Nat×Inl R):= []
def N3:Cfg:={T:=q_,spec:=[(34,VS),(35,Qp)],aX:=aG.G Tryz.prog,eqs:=qT,N:=54,fuel:=64,loops:=[(4,⟨[2,3,5], [],[0,1],2, [], [], [], []⟩)],blocks:=[(0,⟨[], [], [],0, [], [], [], []⟩)],eV:=some ⟨[4], [], [],0, [], [], [], []⟩,fid:=12}
theorem Yx:aH Tryz.prog N3:=aZ rj rU ⟨aoL,⟨UA,trivial⟩⟩
theorem aee {R:Type}:aP Tryz.prog (R:=R) 0 OA:=aC _ _
theorem adh {R:Type}:bA (R:=R) (hnd 0 OA) N3 UU (sub [1,1,0,1,0,0] HJ) (HS.V BQ) (HS.st BQ) (HS.sh BQ) It (bC BQ It):=aN BQ It (fun _ _=>rfl) (by intro q v K;kernel_rfl)
theorem abb {R:Type}:aL (R:=R) (hnd 0 OA) N3 UU HJ:=aD (l:=[sub [1,1,0,1,0,0] HJ]) (by kernel_rfl) (aK (b:=sub [1,1,0,1,0,0] HJ) (rid:=4) (by kernel_rfl) (by kernel_rfl) adh (trivial))
theorem Be:aT Tryz.prog 12 zD:=bl Tryz.f12 Yx rM (d:=0) aee abb (bw (by kernel_rfl)) (toY:=af4)
def Sh:List HV:=[.agg [.int .i64, .int .i64, .int .i64, .sl .aB, .sl .kept, .sl .aB]]
def OF:List HV:=[.agg hFs]
def aeu:HP.V Sh→al:=fun v=>((⟨(cFs v.1),(⟨v.1.2.2.2.2.1,v.1.2.2.2.2.2.1⟩:ay)⟩:al))
def YC:HX.V OF→Fs:=fun v=>((cFs v))
def agT:Fs→HX.V OF:=fun y=>((y.aq,(y.au,(y.next,(y.aa,())))))
def aiS:al→Option (Fs):=fun x=>cu x
def E6:Spec:=aU Sh OF aeu agT aiS
def acZ:Cfg:={T:=q_,aX:=aG.G Tryz.prog,eqs:=qT,N:=7,fuel:=64,fid:=24}
theorem am6:aH Tryz.prog acZ:=aZ rj rU trivial
theorem Gj:aT Tryz.prog 24 E6:=bV Tryz.f24 am6 rM (toY:=YC)
def Bo:HS:=⟨[(1, .one (.ptr 0 0)),(3, .one (.int .i64))],[(0, .cells [.int .i64, .int .i64, .int .i64, .sl .aB, .sl .kept, .sl .aB])],1⟩
def H_ {R:Type}:Nat→HS.V Bo→(Ex→St→Option R)→Option R:=fun q v K=>
 gO (⟨(cFs v.2.1),(⟨v.2.1.2.2.2.2.1,v.2.1.2.2.2.2.2.1⟩:ay)⟩:al) (K .ret {aA:=[(2, .v (.one (.bool false)))],mem:= [],nx:=0}) (K (.exit 0) {aA:=[(1, .v (.one (.ptr 0 0)))],mem:=[(0, .cells [.int .i64 ((⟨(cFs v.2.1),(⟨v.2.1.2.2.2.2.1,v.2.1.2.2.2.2.2.1⟩:ay)⟩:al).fs.aq), .int .i64 ((⟨(cFs v.2.1),(⟨v.2.1.2.2.2.2.1,v.2.1.2.2.2.2.2.1⟩:ay)⟩:al).fs.au), .int .i64 ((⟨(cFs v.2.1),(⟨v.2.1.2.2.2.2.1,v.2.1.2.2.2.2.2.1⟩:ay)⟩:al).fs.next), .sl .aB ((⟨(cFs v.2.1),(⟨v.2.1.2.2.2.2.1,v.2.1.2.2.2.2.2.1⟩:ay)⟩:al).fs.aa), .sl .kept ((⟨(cFs v.2.1),(⟨v.2.1.2.2.2.2.1,v.2.1.2.2.2.2.2.1⟩:ay)⟩:al).ao.kept), .sl .aB ((⟨(cFs v.2.1),(⟨v.2.1.2.2.2.2.1,v.2.1.2.2.2.2.2.1⟩:ay)⟩:al).ao.aJ)])],nx:=1}) q v.1.2.1
def Va:List HV:=[.agg [.int .i64, .int .i64, .int .i64, .sl .aB, .sl .kept, .sl .aB]]
def Mn:List HV:=[.one (.bool)]
def ab7:HP.V Va→al:=fun v=>((⟨(cFs v.1),(⟨v.1.2.2.2.2.1,v.1.2.2.2.2.2.1⟩:ay)⟩:al))
def aoY:HX.V Mn→Bool:=fun v=>(v)
def agP:Bool→HX.V Mn:=fun y=>(y)
def anv:al→Option (Bool):=fun x=>kL x
def O7:Spec:=aU Va Mn ab7 agP anv
def Vx {R:Type}:List (Nat×Hd R):=[(2,bC Bo H_)]
def Ov {R:Type}:List (Nat×Inl R):= []
def O6:Cfg:={T:=q_,spec:=[(24,E6),(31,RS)],aX:=aG.G Tryz.prog,eqs:=qT,N:=40,fuel:=64,loops:=[(2,⟨[1,3], [],[0],1, [], [], [], []⟩)],blocks:=[(0,⟨[1], [],[0],1, [], [], [], []⟩)],eV:=some ⟨[2], [], [],0, [], [], [], []⟩,fid:=10}
theorem ahv:aH Tryz.prog O6:=aZ rj rU ⟨Gj,⟨ajd,trivial⟩⟩
theorem Yh {R:Type}:aP Tryz.prog (R:=R) 0 Ov:=aC _ _
theorem agL {R:Type}:bA (R:=R) (hnd 0 Ov) O6 Vx (sub [1,0,1,0,0] HN) (HS.V Bo) (HS.st Bo) (HS.sh Bo) H_ (bC Bo H_):=aN Bo H_ (fun _ _=>rfl) (by intro q v K;kernel_rfl)
theorem aat {R:Type}:aL (R:=R) (hnd 0 Ov) O6 Vx HN:=aD (l:=[sub [1,0,1,0,0] HN]) (by kernel_rfl) (aK (b:=sub [1,0,1,0,0] HN) (rid:=2) (by kernel_rfl) (by kernel_rfl) agL (trivial))
theorem Vs:aT Tryz.prog 10 O7:=bl Tryz.f10 ahv rM (d:=0) Yh aat (bw (by kernel_rfl)) (toY:=aoY)
def B6:HS:=⟨[(2, .one (.ptr 0 0)),(3, .one (.ptr 1 0)),(7, .one (.int .i64))],[(0, .cells [.int .i64, .int .i64, .int .i64, .sl .aB, .sl .kept, .sl .aB]),(1, .cells hIn)],2⟩
def LN {R:Type}:Nat→HS.V B6→(Ex→St→Option R)→Option R:=fun q v K=>
 cq (cIn v.2.2.1) (K .ret {aA:=[(4, .v (.one (.bool false)))],mem:= [],nx:=0}) (K (.exit 0) {aA:=[(2, .v (.one (.ptr 0 0))),(3, .v (.one (.ptr 1 0)))],mem:=[(0, .cells [.int .i64 ((⟨(cFs v.2.1),(⟨v.2.1.2.2.2.2.1,v.2.1.2.2.2.2.2.1⟩:ay)⟩:al).fs.aq), .int .i64 ((⟨(cFs v.2.1),(⟨v.2.1.2.2.2.2.1,v.2.1.2.2.2.2.2.1⟩:ay)⟩:al).fs.au), .int .i64 ((⟨(cFs v.2.1),(⟨v.2.1.2.2.2.2.1,v.2.1.2.2.2.2.2.1⟩:ay)⟩:al).fs.next), .sl .aB ((⟨(cFs v.2.1),(⟨v.2.1.2.2.2.2.1,v.2.1.2.2.2.2.2.1⟩:ay)⟩:al).fs.aa), .sl .kept ((⟨(cFs v.2.1),(⟨v.2.1.2.2.2.2.1,v.2.1.2.2.2.2.2.1⟩:ay)⟩:al).ao.kept), .sl .aB ((⟨(cFs v.2.1),(⟨v.2.1.2.2.2.2.1,v.2.1.2.2.2.2.2.1⟩:ay)⟩:al).ao.aJ)]),(1, .cells (rIn (cIn v.2.2.1)))],nx:=2}) q v.1.2.2.1
def Da:HS:=⟨[(2, .one (.ptr 0 0)),(3, .one (.ptr 1 0)),(8, .one (.bool)),(9, .one (.int .i64))],[(0, .cells [.int .i64, .int .i64, .int .i64, .sl .aB, .sl .kept, .sl .aB]),(1, .cells hIn)],2⟩
def LI {R:Type}:Nat→HS.V Da→(Ex→St→Option R)→Option R:=fun q v K=>
 b_ (⟨(cFs v.2.1),(⟨v.2.1.2.2.2.2.1,v.2.1.2.2.2.2.2.1⟩:ay)⟩:al) (cIn v.2.2.1) (fun y15=>K (.exit 2) {aA:=[(8, .v (.one (.bool y15)))],mem:= [],nx:=0}) q v.1.2.2.1 v.1.2.2.2.1
def Wl:List HV:=[.agg [.int .i64, .int .i64, .int .i64, .sl .aB, .sl .kept, .sl .aB], .agg hIn]
def M0:List HV:=[.one (.bool)]
def acK:HP.V Wl→al×ae:=fun v=>((⟨(cFs v.1),(⟨v.1.2.2.2.2.1,v.1.2.2.2.2.2.1⟩:ay)⟩:al),(cIn v.2.1))
def Zs:HX.V M0→Bool:=fun v=>(v)
def anr:Bool→HX.V M0:=fun y=>(y)
def aeT:(al×ae)→Option (Bool):=fun x=>ky x.1 x.2
def U0:Spec:=aU Wl M0 acK anr aeT
def L7 {R:Type}:List (Nat×Hd R):=[(7,bC B6 LN),(13,bC Da LI)]
def KD {R:Type}:List (Nat×Inl R):= []
def Io:Cfg:={T:=q_,spec:=[(15,nR)],aX:=aG.G Tryz.prog,eqs:=qT,N:=132,fuel:=64,loops:=[(13,⟨[2,3,8,9], [],[0,1],2, [], [], [], []⟩),(7,⟨[2,3,7], [],[0,1],2, [], [], [], []⟩)],blocks:=[(2,⟨[8], [], [],0, [], [], [], []⟩),(0,⟨[2,3], [],[0,1],2, [], [], [], []⟩)],eV:=some ⟨[4], [], [],0, [], [], [], []⟩,fid:=63}
theorem ZA:aH Tryz.prog Io:=aZ rj rU ⟨oG,trivial⟩
theorem amr {R:Type}:aP Tryz.prog (R:=R) 0 KD:=aC _ _
theorem aoM {R:Type}:bA (R:=R) (hnd 0 KD) Io L7 (sub [1,1,1,1,0,1,0,0] BA) (HS.V B6) (HS.st B6) (HS.sh B6) LN (bC B6 LN):=aN B6 LN (fun _ _=>rfl) (by intro q v K;kernel_rfl)
theorem abN {R:Type}:bA (R:=R) (hnd 0 KD) Io L7 (sub [1,1,1,1,1,1,0,1,0,0] BA) (HS.V Da) (HS.st Da) (HS.sh Da) LI (bC Da LI):=aN Da LI (fun _ _=>rfl) (by intro q v K;kernel_rfl)
theorem akr {R:Type}:aL (R:=R) (hnd 0 KD) Io L7 BA:=aD (l:=[sub [1,1,1,1,0,1,0,0] BA,sub [1,1,1,1,1,1,0,1,0,0] BA]) (by kernel_rfl) (aK (b:=sub [1,1,1,1,0,1,0,0] BA) (rid:=7) (by kernel_rfl) (by kernel_rfl) aoM (aK (b:=sub [1,1,1,1,1,1,0,1,0,0] BA) (rid:=13) (by kernel_rfl) (by kernel_rfl) abN (trivial)))
theorem X0:aT Tryz.prog 63 U0:=bl Tryz.f63 ZA rM (d:=0) amr akr (bw (by kernel_rfl)) (toY:=Zs)
def Bl:HS:=⟨[(1, .one (.ptr 0 0)),(3, .one (.int .i64))],[(0, .cells [.int .i64, .int .i64, .int .i64, .sl .aB, .sl .kept, .sl .aB])],1⟩
def KM {R:Type}:Nat→HS.V Bl→(Ex→St→Option R)→Option R:=fun q v K=>
 fq (⟨(cFs v.2.1),(⟨v.2.1.2.2.2.2.1,v.2.1.2.2.2.2.2.1⟩:ay)⟩:al) (K .ret {aA:=[(2, .v (.one (.bool false)))],mem:= [],nx:=0}) (K (.exit 0) {aA:=[(1, .v (.one (.ptr 0 0)))],mem:=[(0, .cells [.int .i64 ((⟨(cFs v.2.1),(⟨v.2.1.2.2.2.2.1,v.2.1.2.2.2.2.2.1⟩:ay)⟩:al).fs.aq), .int .i64 ((⟨(cFs v.2.1),(⟨v.2.1.2.2.2.2.1,v.2.1.2.2.2.2.2.1⟩:ay)⟩:al).fs.au), .int .i64 ((⟨(cFs v.2.1),(⟨v.2.1.2.2.2.2.1,v.2.1.2.2.2.2.2.1⟩:ay)⟩:al).fs.next), .sl .aB ((⟨(cFs v.2.1),(⟨v.2.1.2.2.2.2.1,v.2.1.2.2.2.2.2.1⟩:ay)⟩:al).fs.aa), .sl .kept ((⟨(cFs v.2.1),(⟨v.2.1.2.2.2.2.1,v.2.1.2.2.2.2.2.1⟩:ay)⟩:al).ao.kept), .sl .aB ((⟨(cFs v.2.1),(⟨v.2.1.2.2.2.2.1,v.2.1.2.2.2.2.2.1⟩:ay)⟩:al).ao.aJ)])],nx:=1}) q v.1.2.1
def Cf:HS:=⟨[(1, .one (.ptr 0 0)),(4, .one (.int .i64)),(5, .one (.int .i64))],[(0, .cells [.int .i64, .int .i64, .int .i64, .sl .aB, .sl .kept, .sl .aB])],1⟩
def Lp {R:Type}:Nat→HS.V Cf→(Ex→St→Option R)→Option R:=fun q v K=>
 bD (⟨(cFs v.2.1),(⟨v.2.1.2.2.2.2.1,v.2.1.2.2.2.2.2.1⟩:ay)⟩:al) (K .ret {aA:=[(2, .v (.one (.bool false)))],mem:= [],nx:=0}) (K (.exit 2) {aA:= [],mem:= [],nx:=0}) q v.1.2.1 v.1.2.2.1
def Su:List HV:=[.agg [.int .i64, .int .i64, .int .i64, .sl .aB, .sl .kept, .sl .aB]]
def OM:List HV:=[.one (.bool)]
def afB:HP.V Su→al:=fun v=>((⟨(cFs v.1),(⟨v.1.2.2.2.2.1,v.1.2.2.2.2.2.1⟩:ay)⟩:al))
def aiy:HX.V OM→Bool:=fun v=>(v)
def anF:Bool→HX.V OM:=fun y=>(y)
def ak5:al→Option (Bool):=fun x=>gG x
def JG:Spec:=aU Su OM afB anF ak5
def OD {R:Type}:List (Nat×Hd R):=[(4,bC Bl KM),(10,bC Cf Lp)]
def J1 {R:Type}:List (Nat×Inl R):= []
def H4:Cfg:={T:=q_,spec:=[(15,nR),(24,E6),(26,Oz),(62,Qn),(63,U0)],aX:=aG.G Tryz.prog,eqs:=qT,N:=106,fuel:=64,loops:=[(10,⟨[1,4,5], [],[0],1, [], [], [], []⟩),(4,⟨[1,3], [],[0],1, [], [], [], []⟩)],blocks:=[(2,⟨[], [], [],0, [], [], [], []⟩),(0,⟨[1], [],[0],1, [], [], [], []⟩)],eV:=some ⟨[2], [], [],0, [], [], [], []⟩,fid:=25}
theorem aip:aH Tryz.prog H4:=aZ rj rU ⟨oG,⟨Gj,⟨Um,⟨UG,⟨X0,trivial⟩⟩⟩⟩⟩
theorem amU {R:Type}:aP Tryz.prog (R:=R) 0 J1:=aC _ _
theorem ahA {R:Type}:bA (R:=R) (hnd 0 J1) H4 OD (sub [1,1,0,1,0,0] CT) (HS.V Bl) (HS.st Bl) (HS.sh Bl) KM (bC Bl KM):=aN Bl KM (fun _ _=>rfl) (by intro q v K;kernel_rfl)
theorem ajJ {R:Type}:bA (R:=R) (hnd 0 J1) H4 OD (sub [1,1,1,1,0,1,0,0] CT) (HS.V Cf) (HS.st Cf) (HS.sh Cf) Lp (bC Cf Lp):=aN Cf Lp (fun _ _=>rfl) (by intro q v K;kernel_rfl)
theorem anC {R:Type}:aL (R:=R) (hnd 0 J1) H4 OD CT:=aD (l:=[sub [1,1,0,1,0,0] CT,sub [1,1,1,1,0,1,0,0] CT]) (by kernel_rfl) (aK (b:=sub [1,1,0,1,0,0] CT) (rid:=4) (by kernel_rfl) (by kernel_rfl) ahA (aK (b:=sub [1,1,1,1,0,1,0,0] CT) (rid:=10) (by kernel_rfl) (by kernel_rfl) ajJ (trivial)))
theorem L3:aT Tryz.prog 25 JG:=bl Tryz.f25 aip rM (d:=0) amU anC (bw (by kernel_rfl)) (toY:=aiy)
def TA:List HV:=[.agg [.int .i64, .int .i64, .int .i64, .sl .aB, .sl .kept, .sl .aB]]
def O3:List HV:=[.one (.bool)]
def an0:HP.V TA→al:=fun v=>((⟨(cFs v.1),(⟨v.1.2.2.2.2.1,v.1.2.2.2.2.2.1⟩:ay)⟩:al))
def XB:HX.V O3→Bool:=fun v=>(v)
def alY:Bool→HX.V O3:=fun y=>(y)
def alG:al→Option (Bool):=fun x=>j1 x
def Eb:Spec:=aU TA O3 an0 alY alG
def agS:Cfg:={T:=q_,spec:=[(10,O7),(25,JG)],aX:=aG.G Tryz.prog,eqs:=qT,N:=9,fuel:=64,fid:=13}
theorem akJ:aH Tryz.prog agS:=aZ rj rU ⟨Vs,⟨L3,trivial⟩⟩
theorem Gy:aT Tryz.prog 13 Eb:=bV Tryz.f13 akJ rM (toY:=XB)
def B3:HS:=⟨[(1, .one (.int .i64)),(2, .one (.ptr 0 0)),(4, .one (.ptr 1 0)),(6, .one (.int .i64))],[(0, .cells [.int .i64, .int .i64, .int .i64, .sl .aB, .sl .kept, .sl .aB]),(1, .cells [.int .i64, .int .i64, .bool, .str])],2⟩
def JB {R:Type}:Nat→HS.V B3→(Ex→St→Option R)→Option R:=fun q v K=>
 fN v.1.1 (⟨(cFs v.2.1),(⟨v.2.1.2.2.2.2.1,v.2.1.2.2.2.2.2.1⟩:ay)⟩:al) (fun y8=>K .ret {aA:=[(4, .v (.one (.ptr 1 0))),(5, .v (.one (.bool true)))],mem:=[(1, .cells [.int .i64 y8.slot, .int .i64 y8.ino, .bool y8.content, .str y8.data])],nx:=2}) (K (.exit 0) {aA:=[(4, .v (.one (.ptr 1 0)))],mem:=[(1, .cells [.int .i64 ((⟨v.2.2.1.1,v.2.2.1.2.1,v.2.2.1.2.2.1,v.2.2.1.2.2.2.1⟩:Kept).slot), .int .i64 ((⟨v.2.2.1.1,v.2.2.1.2.1,v.2.2.1.2.2.1,v.2.2.1.2.2.2.1⟩:Kept).ino), .bool ((⟨v.2.2.1.1,v.2.2.1.2.1,v.2.2.1.2.2.1,v.2.2.1.2.2.2.1⟩:Kept).content), .str ((⟨v.2.2.1.1,v.2.2.1.2.1,v.2.2.1.2.2.1,v.2.2.1.2.2.2.1⟩:Kept).data)])],nx:=2}) q v.1.2.2.2.1
def Sb:List HV:=[.agg [.int .i64, .int .i64, .int .i64, .sl .aB, .sl .kept, .sl .aB], .one (.int .i64)]
def QR:List HV:=[.agg [.int .i64, .int .i64, .bool, .str], .one (.bool)]
def aci:HP.V Sb→al×Int:=fun v=>((⟨(cFs v.1),(⟨v.1.2.2.2.2.1,v.1.2.2.2.2.2.1⟩:ay)⟩:al),v.2.1)
def ahB:HX.V QR→Kept×Bool:=fun v=>((⟨v.1.1,v.1.2.1,v.1.2.2.1,v.1.2.2.2.1⟩:Kept),v.2)
def aaw:(Kept×Bool)→HX.V QR:=fun y=>((y.1.slot,(y.1.ino,(y.1.content,(y.1.data,())))),y.2)
def aju:(al×Int)→Option (Kept×Bool):=fun x=>ix x.1 x.2
def Ht:Spec:=aU Sb QR aci aaw aju
def SP {R:Type}:List (Nat×Hd R):=[(2,bC B3 JB)]
def N0 {R:Type}:List (Nat×Inl R):= []
def Nu:Cfg:={T:=q_,aX:=aG.G Tryz.prog,eqs:=qT,N:=31,fuel:=64,loops:=[(2,⟨[1,2,4,6], [],[0,1],2, [], [], [], []⟩)],blocks:=[(0,⟨[4], [],[1],2, [], [], [], []⟩)],eV:=some ⟨[4,5], [],[1],2, [], [], [], []⟩,fid:=45}
theorem acR:aH Tryz.prog Nu:=aZ rj rU trivial
theorem alI {R:Type}:aP Tryz.prog (R:=R) 0 N0:=aC _ _
theorem amm {R:Type}:bA (R:=R) (hnd 0 N0) Nu SP (sub [1,0,1,0,0] Je) (HS.V B3) (HS.st B3) (HS.sh B3) JB (bC B3 JB):=aN B3 JB (fun _ _=>rfl) (by intro q v K;kernel_rfl)
theorem abW {R:Type}:aL (R:=R) (hnd 0 N0) Nu SP Je:=aD (l:=[sub [1,0,1,0,0] Je]) (by kernel_rfl) (aK (b:=sub [1,0,1,0,0] Je) (rid:=2) (by kernel_rfl) (by kernel_rfl) amm (trivial))
theorem Kx:aT Tryz.prog 45 Ht:=bl Tryz.f45 acR rM (d:=0) alI abW (bw (by kernel_rfl)) (toY:=ahB)
def Df:HS:=⟨[(2, .one (.ptr 0 0)),(3, .one (.ptr 1 0)),(4, .one (.ptr 2 0)),(5, .one (.own 3)),(6, .one (.bool)),(7, .one (.int .i64))],[(0, .cells [.int .i64, .int .i64, .int .i64, .sl .aB, .sl .kept, .sl .aB]),(1, .cells [.int .i64, .int .i64, .bool, .str]),(2, .cells [.int .i64, .int .i64, .int .i64, .sl .aB, .sl .kept, .sl .aB]),(3, .row .kept)],4⟩
def JW {R:Type}:Nat→HS.V Df→(Ex→St→Option R)→Option R:=fun q v K=>
 dY (⟨(cFs v.2.1),(⟨v.2.1.2.2.2.2.1,v.2.1.2.2.2.2.2.1⟩:ay)⟩:al) (⟨v.2.2.1.1,v.2.2.1.2.1,v.2.2.1.2.2.1,v.2.2.1.2.2.2.1⟩:Kept) (fun y11 y15=>K (.exit 0) {aA:=[(2, .v (.one (.ptr 0 0))),(3, .v (.one (.ptr 1 0))),(4, .v (.one (.ptr 2 0))),(5, .v (.one (.own 3))),(6, .v (.one (.bool y11)))],mem:=[(0, .cells [.int .i64 ((⟨(cFs v.2.1),(⟨v.2.1.2.2.2.2.1,v.2.1.2.2.2.2.2.1⟩:ay)⟩:al).fs.aq), .int .i64 ((⟨(cFs v.2.1),(⟨v.2.1.2.2.2.2.1,v.2.1.2.2.2.2.2.1⟩:ay)⟩:al).fs.au), .int .i64 ((⟨(cFs v.2.1),(⟨v.2.1.2.2.2.2.1,v.2.1.2.2.2.2.2.1⟩:ay)⟩:al).fs.next), .sl .aB ((⟨(cFs v.2.1),(⟨v.2.1.2.2.2.2.1,v.2.1.2.2.2.2.2.1⟩:ay)⟩:al).fs.aa), .sl .kept ((⟨(cFs v.2.1),(⟨v.2.1.2.2.2.2.1,v.2.1.2.2.2.2.2.1⟩:ay)⟩:al).ao.kept), .sl .aB ((⟨(cFs v.2.1),(⟨v.2.1.2.2.2.2.1,v.2.1.2.2.2.2.2.1⟩:ay)⟩:al).ao.aJ)]),(1, .cells [.int .i64 ((⟨v.2.2.1.1,v.2.2.1.2.1,v.2.2.1.2.2.1,v.2.2.1.2.2.2.1⟩:Kept).slot), .int .i64 ((⟨v.2.2.1.1,v.2.2.1.2.1,v.2.2.1.2.2.1,v.2.2.1.2.2.2.1⟩:Kept).ino), .bool ((⟨v.2.2.1.1,v.2.2.1.2.1,v.2.2.1.2.2.1,v.2.2.1.2.2.2.1⟩:Kept).content), .str ((⟨v.2.2.1.1,v.2.2.1.2.1,v.2.2.1.2.2.1,v.2.2.1.2.2.2.1⟩:Kept).data)]),(2, .cells [.int .i64 ((⟨(cFs v.2.2.2.1),(⟨v.2.2.2.1.2.2.2.2.1,v.2.2.2.1.2.2.2.2.2.1⟩:ay)⟩:al).fs.aq), .int .i64 ((⟨(cFs v.2.2.2.1),(⟨v.2.2.2.1.2.2.2.2.1,v.2.2.2.1.2.2.2.2.2.1⟩:ay)⟩:al).fs.au), .int .i64 ((⟨(cFs v.2.2.2.1),(⟨v.2.2.2.1.2.2.2.2.1,v.2.2.2.1.2.2.2.2.2.1⟩:ay)⟩:al).fs.next), .sl .aB ((⟨(cFs v.2.2.2.1),(⟨v.2.2.2.1.2.2.2.2.1,v.2.2.2.1.2.2.2.2.2.1⟩:ay)⟩:al).fs.aa), .sl .kept ((⟨(cFs v.2.2.2.1),(⟨v.2.2.2.1.2.2.2.2.1,v.2.2.2.1.2.2.2.2.2.1⟩:ay)⟩:al).ao.kept), .sl .aB ((⟨(cFs v.2.2.2.1),(⟨v.2.2.2.1.2.2.2.2.1,v.2.2.2.1.2.2.2.2.2.1⟩:ay)⟩:al).ao.aJ)]),(3, .row .kept y15)],nx:=4}) q v.1.2.2.2.2.1 v.1.2.2.2.2.2.1 v.2.2.2.2.1
def W0:List HV:=[.agg [.int .i64, .int .i64, .int .i64, .sl .aB, .sl .kept, .sl .aB], .agg [.int .i64, .int .i64, .bool, .str]]
def MX:List HV:=[.agg [.int .i64, .int .i64, .int .i64, .sl .aB, .sl .kept, .sl .aB]]
def amg:HP.V W0→al×Kept:=fun v=>((⟨(cFs v.1),(⟨v.1.2.2.2.2.1,v.1.2.2.2.2.2.1⟩:ay)⟩:al),(⟨v.2.1.1,v.2.1.2.1,v.2.1.2.2.1,v.2.1.2.2.2.1⟩:Kept))
def acQ:HX.V MX→al:=fun v=>((⟨(cFs v),(⟨v.2.2.2.2.1,v.2.2.2.2.2.1⟩:ay)⟩:al))
def af7:al→HX.V MX:=fun y=>((y.fs.aq,(y.fs.au,(y.fs.next,(y.fs.aa,(y.ao.kept,(y.ao.aJ,())))))))
def aau:(al×Kept)→Option (al):=fun x=>jB x.1 x.2
def Nl:Spec:=aU W0 MX amg af7 aau
def Tq {R:Type}:List (Nat×Hd R):=[(4,bC Df JW)]
def QK {R:Type}:List (Nat×Inl R):= []
def Qh:Cfg:={T:=q_,aX:=aG.G Tryz.prog,eqs:=qT,N:=53,fuel:=64,loops:=[(4,⟨[2,3,4,5,6,7],[(5,3, .kept)],[0,1,2,3],4, [],[2], [], []⟩)],blocks:=[(0,⟨[2,3,4,5,6], [],[0,1,2,3],4, [], [], [], []⟩)],fid:=48}
theorem ahZ:aH Tryz.prog Qh:=aZ rj rU trivial
theorem XX {R:Type}:aP Tryz.prog (R:=R) 0 QK:=aC _ _
theorem alA {R:Type}:bA (R:=R) (hnd 0 QK) Qh Tq (sub [1,1,1,0,1,0,0] KT) (HS.V Df) (HS.st Df) (HS.sh Df) JW (bC Df JW):=aN Df JW (fun _ _=>rfl) (by intro q v K;kernel_rfl)
theorem ag5 {R:Type}:aL (R:=R) (hnd 0 QK) Qh Tq KT:=aD (l:=[sub [1,1,1,0,1,0,0] KT]) (by kernel_rfl) (aK (b:=sub [1,1,1,0,1,0,0] KT) (rid:=4) (by kernel_rfl) (by kernel_rfl) alA (trivial))
theorem RH:aT Tryz.prog 48 Nl:=bl Tryz.f48 ahZ rM (d:=0) XX ag5 (bw (by kernel_rfl)) (toY:=acQ)
def UY:List HV:=[.agg [.int .i64, .int .i64, .int .i64, .sl .aB, .sl .kept, .sl .aB], .one (.int .i64), .agg [.int .i64, .str, .int .i64]]
def Nf:List HV:=[.agg [.int .i64, .int .i64, .int .i64, .sl .aB, .sl .kept, .sl .aB], .one (.int .i64)]
def afu:HP.V UY→al×Int×ax:=fun v=>((⟨(cFs v.1),(⟨v.1.2.2.2.2.1,v.1.2.2.2.2.2.1⟩:ay)⟩:al),v.2.1,(⟨v.2.2.1.1,v.2.2.1.2.1,v.2.2.1.2.2.1⟩:ax))
def YS:HX.V Nf→al×Int:=fun v=>((⟨(cFs v.1),(⟨v.1.2.2.2.2.1,v.1.2.2.2.2.2.1⟩:ay)⟩:al),v.2)
def an9:(al×Int)→HX.V Nf:=fun y=>((y.1.fs.aq,(y.1.fs.au,(y.1.fs.next,(y.1.fs.aa,(y.1.ao.kept,(y.1.ao.aJ,())))))),y.2)
def af8:(al×Int×ax)→Option (al×Int):=fun x=>lj x.1 x.2.1 x.2.2
def WG:Spec:=aU UY Nf afu an9 af8
def Y3:Cfg:={T:=q_,spec:=[(15,nR),(24,E6),(45,Ht),(46,UQ),(47,CX),(48,Nl)],aX:=aG.G Tryz.prog,eqs:=qT,N:=51,fuel:=64,fid:=17}
theorem ZE:aH Tryz.prog Y3:=aZ rj rU ⟨oG,⟨Gj,⟨Kx,⟨alN,⟨Ef,⟨RH,trivial⟩⟩⟩⟩⟩⟩
theorem Yz:aT Tryz.prog 17 WG:=bV Tryz.f17 ZE rM (toY:=YS)
def Bj:HS:=⟨[(1, .one (.int .i64)),(2, .one (.ptr 0 0)),(4, .one (.ptr 1 0)),(5, .one (.own 2)),(6, .one (.int .i64))],[(0, .cells [.int .i64, .int .i64, .int .i64, .sl .aB, .sl .kept, .sl .aB]),(1, .cells [.int .i64, .int .i64, .int .i64, .sl .aB, .sl .kept, .sl .aB]),(2, .row .kept)],3⟩
def Jw {R:Type}:Nat→HS.V Bj→(Ex→St→Option R)→Option R:=fun q v K=>
 dz v.1.1 (⟨(cFs v.2.1),(⟨v.2.1.2.2.2.2.1,v.2.1.2.2.2.2.2.1⟩:ay)⟩:al) (fun y10=>K (.exit 0) {aA:=[(2, .v (.one (.ptr 0 0))),(4, .v (.one (.ptr 1 0))),(5, .v (.one (.own 2)))],mem:=[(0, .cells [.int .i64 ((⟨(cFs v.2.1),(⟨v.2.1.2.2.2.2.1,v.2.1.2.2.2.2.2.1⟩:ay)⟩:al).fs.aq), .int .i64 ((⟨(cFs v.2.1),(⟨v.2.1.2.2.2.2.1,v.2.1.2.2.2.2.2.1⟩:ay)⟩:al).fs.au), .int .i64 ((⟨(cFs v.2.1),(⟨v.2.1.2.2.2.2.1,v.2.1.2.2.2.2.2.1⟩:ay)⟩:al).fs.next), .sl .aB ((⟨(cFs v.2.1),(⟨v.2.1.2.2.2.2.1,v.2.1.2.2.2.2.2.1⟩:ay)⟩:al).fs.aa), .sl .kept ((⟨(cFs v.2.1),(⟨v.2.1.2.2.2.2.1,v.2.1.2.2.2.2.2.1⟩:ay)⟩:al).ao.kept), .sl .aB ((⟨(cFs v.2.1),(⟨v.2.1.2.2.2.2.1,v.2.1.2.2.2.2.2.1⟩:ay)⟩:al).ao.aJ)]),(1, .cells [.int .i64 ((⟨(cFs v.2.2.1),(⟨v.2.2.1.2.2.2.2.1,v.2.2.1.2.2.2.2.2.1⟩:ay)⟩:al).fs.aq), .int .i64 ((⟨(cFs v.2.2.1),(⟨v.2.2.1.2.2.2.2.1,v.2.2.1.2.2.2.2.2.1⟩:ay)⟩:al).fs.au), .int .i64 ((⟨(cFs v.2.2.1),(⟨v.2.2.1.2.2.2.2.1,v.2.2.1.2.2.2.2.2.1⟩:ay)⟩:al).fs.next), .sl .aB ((⟨(cFs v.2.2.1),(⟨v.2.2.1.2.2.2.2.1,v.2.2.1.2.2.2.2.2.1⟩:ay)⟩:al).fs.aa), .sl .kept ((⟨(cFs v.2.2.1),(⟨v.2.2.1.2.2.2.2.1,v.2.2.1.2.2.2.2.2.1⟩:ay)⟩:al).ao.kept), .sl .aB ((⟨(cFs v.2.2.1),(⟨v.2.2.1.2.2.2.2.1,v.2.2.1.2.2.2.2.2.1⟩:ay)⟩:al).ao.aJ)]),(2, .row .kept y10)],nx:=3}) q v.1.2.2.2.2.1 v.2.2.2.1
def R_:List HV:=[.agg [.int .i64, .int .i64, .int .i64, .sl .aB, .sl .kept, .sl .aB], .one (.int .i64)]
def Qj:List HV:=[.agg [.int .i64, .int .i64, .int .i64, .sl .aB, .sl .kept, .sl .aB]]
def agn:HP.V R_→al×Int:=fun v=>((⟨(cFs v.1),(⟨v.1.2.2.2.2.1,v.1.2.2.2.2.2.1⟩:ay)⟩:al),v.2.1)
def aid:HX.V Qj→al:=fun v=>((⟨(cFs v),(⟨v.2.2.2.2.1,v.2.2.2.2.2.1⟩:ay)⟩:al))
def Yu:al→HX.V Qj:=fun y=>((y.fs.aq,(y.fs.au,(y.fs.next,(y.fs.aa,(y.ao.kept,(y.ao.aJ,())))))))
def Zm:(al×Int)→Option (al):=fun x=>cv x.1 x.2
def QT:Spec:=aU R_ Qj agn Yu Zm
def U4 {R:Type}:List (Nat×Hd R):=[(3,bC Bj Jw)]
def NI {R:Type}:List (Nat×Inl R):= []
def Nw:Cfg:={T:=q_,aX:=aG.G Tryz.prog,eqs:=qT,N:=37,fuel:=64,loops:=[(3,⟨[1,2,4,5,6],[(5,2, .kept)],[0,1,2],3, [],[1], [], []⟩)],blocks:=[(0,⟨[2,4,5], [],[0,1,2],3, [], [], [], []⟩)],fid:=61}
theorem adl:aH Tryz.prog Nw:=aZ rj rU trivial
theorem als {R:Type}:aP Tryz.prog (R:=R) 0 NI:=aC _ _
theorem aih {R:Type}:bA (R:=R) (hnd 0 NI) Nw U4 (sub [1,1,0,1,0,0] IB) (HS.V Bj) (HS.st Bj) (HS.sh Bj) Jw (bC Bj Jw):=aN Bj Jw (fun _ _=>rfl) (by intro q v K;kernel_rfl)
theorem aaq {R:Type}:aL (R:=R) (hnd 0 NI) Nw U4 IB:=aD (l:=[sub [1,1,0,1,0,0] IB]) (by kernel_rfl) (aK (b:=sub [1,1,0,1,0,0] IB) (rid:=3) (by kernel_rfl) (by kernel_rfl) aih (trivial))
theorem VO:aT Tryz.prog 61 QT:=bl Tryz.f61 adl rM (d:=0) als aaq (bw (by kernel_rfl)) (toY:=aid)
def Vp:List HV:=[.agg [.int .i64, .int .i64, .int .i64, .sl .aB, .sl .kept, .sl .aB], .one (.int .i64), .agg [.int .i64, .str, .int .i64]]
def Qr:List HV:=[.agg [.int .i64, .int .i64, .int .i64, .sl .aB, .sl .kept, .sl .aB], .one (.int .i64)]
def YV:HP.V Vp→al×Int×ax:=fun v=>((⟨(cFs v.1),(⟨v.1.2.2.2.2.1,v.1.2.2.2.2.2.1⟩:ay)⟩:al),v.2.1,(⟨v.2.2.1.1,v.2.2.1.2.1,v.2.2.1.2.2.1⟩:ax))
def ah1:HX.V Qr→al×Int:=fun v=>((⟨(cFs v.1),(⟨v.1.2.2.2.2.1,v.1.2.2.2.2.2.1⟩:ay)⟩:al),v.2)
def an5:(al×Int)→HX.V Qr:=fun y=>((y.1.fs.aq,(y.1.fs.au,(y.1.fs.next,(y.1.fs.aa,(y.1.ao.kept,(y.1.ao.aJ,())))))),y.2)
def ab_:(al×Int×ax)→Option (al×Int):=fun x=>mY x.1 x.2.1 x.2.2
def Ti:Spec:=aU Vp Qr YV an5 ab_
def afU:Cfg:={T:=q_,spec:=[(15,nR),(24,E6),(45,Ht),(47,CX),(57,JK),(58,Jd),(59,K9),(60,W1),(61,QT)],aX:=aG.G Tryz.prog,eqs:=qT,N:=100,fuel:=64,fid:=19}
theorem ahs:aH Tryz.prog afU:=aZ rj rU ⟨oG,⟨Gj,⟨Kx,⟨Ef,⟨NB,⟨Pl,⟨Nx,⟨Z3,⟨VO,trivial⟩⟩⟩⟩⟩⟩⟩⟩⟩
theorem XU:aT Tryz.prog 19 Ti:=bV Tryz.f19 ahs rM (toY:=ah1)
def RR:List HV:=[.agg [.int .i64, .int .i64, .int .i64, .sl .aB, .sl .kept, .sl .aB], .one (.int .i64)]
def PG:List HV:=[.agg [.int .i64, .int .i64, .int .i64, .sl .aB, .sl .kept, .sl .aB], .one (.int .i64)]
def afl:HP.V RR→al×Int:=fun v=>((⟨(cFs v.1),(⟨v.1.2.2.2.2.1,v.1.2.2.2.2.2.1⟩:ay)⟩:al),v.2.1)
def Xy:HX.V PG→al×Int:=fun v=>((⟨(cFs v.1),(⟨v.1.2.2.2.2.1,v.1.2.2.2.2.2.1⟩:ay)⟩:al),v.2)
def alS:(al×Int)→HX.V PG:=fun y=>((y.1.fs.aq,(y.1.fs.au,(y.1.fs.next,(y.1.fs.aa,(y.1.ao.kept,(y.1.ao.aJ,())))))),y.2)
def Z4:(al×Int)→Option (al×Int):=fun x=>iW x.1 x.2
def Ul:Spec:=aU RR PG afl alS Z4
def aeh:Cfg:={T:=q_,spec:=[(15,nR),(45,Ht),(47,CX),(58,Jd),(61,QT)],aX:=aG.G Tryz.prog,eqs:=qT,N:=59,fuel:=64,fid:=21}
theorem ahw:aH Tryz.prog aeh:=aZ rj rU ⟨oG,⟨Kx,⟨Ef,⟨Pl,⟨VO,trivial⟩⟩⟩⟩⟩
theorem ah9:aT Tryz.prog 21 Ul:=bV Tryz.f21 ahw rM (toY:=Xy)
def V2:List HV:=[.agg [.int .i64, .int .i64, .int .i64, .sl .aB, .sl .kept, .sl .aB], .one (.int .i64), .one (.int .i64)]
def Qc:List HV:=[.agg [.int .i64, .int .i64, .int .i64, .sl .aB, .sl .kept, .sl .aB], .one (.int .i64)]
def ahk:HP.V V2→al×Int×Int:=fun v=>((⟨(cFs v.1),(⟨v.1.2.2.2.2.1,v.1.2.2.2.2.2.1⟩:ay)⟩:al),v.2.1,v.2.2.1)
def adP:HX.V Qc→al×Int:=fun v=>((⟨(cFs v.1),(⟨v.1.2.2.2.2.1,v.1.2.2.2.2.2.1⟩:ay)⟩:al),v.2)
def ajK:(al×Int)→HX.V Qc:=fun y=>((y.1.fs.aq,(y.1.fs.au,(y.1.fs.next,(y.1.fs.aa,(y.1.ao.kept,(y.1.ao.aJ,())))))),y.2)
def aj0:(al×Int×Int)→Option (al×Int):=fun x=>i_ x.1 x.2.1 x.2.2
def UD:Spec:=aU V2 Qc ahk ajK aj0
def abw:Cfg:={T:=q_,spec:=[(15,nR),(45,Ht),(48,Nl)],aX:=aG.G Tryz.prog,eqs:=qT,N:=34,fuel:=64,fid:=23}
theorem aoD:aH Tryz.prog abw:=aZ rj rU ⟨oG,⟨Kx,⟨RH,trivial⟩⟩⟩
theorem apa:aT Tryz.prog 23 UD:=bV Tryz.f23 aoD rM (toY:=adP)
end
end Go.Eng
set_option linter.unusedVariables false
set_option maxRecDepth 100000
namespace Go.Eng
noncomputable section
open Go Go.Proofs
def vJ:List (Nat×TI):=[(4,⟨false,1, .one (.bool false), .bool⟩),(5,⟨false,1, .one (.int .u8 0), .int .u8⟩),(9,⟨false,1, .one (.str []), .str⟩),(21,⟨false,1, .one (.int .i32 0), .int .i32⟩),(145,⟨true,256, .agg [.bool false, .bool false, .bool false, .bool false, .bool false, .bool false, .bool false, .bool false, .bool false, .bool false, .bool false, .bool false, .bool false, .bool false, .bool false, .bool false, .bool false, .bool false, .bool false, .bool false, .bool false, .bool false, .bool false, .bool false, .bool false, .bool false, .bool false, .bool false, .bool false, .bool false, .bool false, .bool false, .bool false, .bool false, .bool false, .bool false, .bool false, .bool false, .bool false, .bool false, .bool false, .bool false, .bool false, .bool false, .bool false, .bool false, .bool false, .bool false, .bool false, .bool false, .bool false, .bool false, .bool false, .bool false, .bool false, .bool false, .bool false, .bool false, .bool false, .bool false, .bool false, .bool false, .bool false, .bool false, .bool false, .bool false, .bool false, .bool false, .bool false, .bool false, .bool false, .bool false, .bool false, .bool false, .bool false, .bool false, .bool false, .bool false, .bool false, .bool false, .bool false, .bool false, .bool false, .bool false, .bool false, .bool false, .bool false, .bool false, .bool false, .bool false, .bool false, .bool false, .bool false, .bool false, .bool false, .bool false, .bool false, .bool false, .bool false, .bool false, .bool false, .bool false, .bool false, .bool false, .bool false, .bool false, .bool false, .bool false, .bool false, .bool false, .bool false, .bool false, .bool false, .bool false, .bool false, .bool false, .bool false, .bool false, .bool false, .bool false, .bool false, .bool false, .bool false, .bool false, .bool false, .bool false, .bool false, .bool false, .bool false, .bool false, .bool false, .bool false, .bool false, .bool false, .bool false, .bool false, .bool false, .bool false, .bool false, .bool false, .bool false, .bool false, .bool false, .bool false, .bool false, .bool false, .bool false, .bool false, .bool false, .bool false, .bool false, .bool false, .bool false, .bool false, .bool false, .bool false, .bool false, .bool false, .bool false, .bool false, .bool false, .bool false, .bool false, .bool false, .bool false, .bool false, .bool false, .bool false, .bool false, .bool false, .bool false, .bool false, .bool false, .bool false, .bool false, .bool false, .bool false, .bool false, .bool false, .bool false, .bool false, .bool false, .bool false, .bool false, .bool false, .bool false, .bool false, .bool false, .bool false, .bool false, .bool false, .bool false, .bool false, .bool false, .bool false, .bool false, .bool false, .bool false, .bool false, .bool false, .bool false, .bool false, .bool false, .bool false, .bool false, .bool false, .bool false, .bool false, .bool false, .bool false, .bool false, .bool false, .bool false, .bool false, .bool false, .bool false, .bool false, .bool false, .bool false, .bool false, .bool false, .bool false, .bool false, .bool false, .bool false, .bool false, .bool false, .bool false, .bool false, .bool false, .bool false, .bool false, .bool false, .bool false, .bool false, .bool false, .bool false, .bool false, .bool false, .bool false, .bool false, .bool false, .bool false, .bool false, .bool false, .bool false, .bool false, .bool false, .bool false, .bool false, .bool false, .bool false, .bool false, .bool false, .bool false, .bool false], .array 256 4⟩)]
def vz:List (Nat×List EK):= []
theorem WC:Tryz.prog.follows .mixedOrders=true:=by kernel_rfl
theorem wz:(vJ.all fun x=>tiB Tryz.prog x.1 x.2)=true:=by kernel_rfl
theorem wa:(vz.all fun x=>eqB Tryz.prog x.1 x.2)=true:=by kernel_rfl
def afa:Code:=bd Tryz.f97
def AS:Code:=bd Tryz.f132
def pX:Code:=bd Tryz.f146
def al6:Code:=bd Tryz.f147
def LH:Code:=bd Tryz.f148
def ak2:Code:=bd Tryz.f149
def T8:Code:=bd Tryz.f157
def aaY:Code:=bd Tryz.f158
def B_:HS:=⟨[(0, .one (.str)),(6, .one (.ptr 1 0)),(8, .one (.int .i64))],[(1, .cells [.aF true, .aF false, .aF false, .aF false, .aF false, .aF false, .aF false, .aF false, .aF false, .aF false, .aF false, .aF false, .aF false, .aF false, .aF false, .aF false, .aF false, .aF false, .aF false, .aF false, .aF false, .aF false, .aF false, .aF false, .aF false, .aF false, .aF false, .aF false, .aF false, .aF false, .aF false, .aF false, .aF false, .aF false, .aF false, .aF false, .aF false, .aF false, .aF false, .aF false, .aF false, .aF false, .aF false, .aF false, .aF false, .aF false, .aF false, .aF true, .aF false, .aF false, .aF false, .aF false, .aF false, .aF false, .aF false, .aF false, .aF false, .aF false, .aF false, .aF false, .aF false, .aF false, .aF false, .aF false, .aF false, .aF false, .aF false, .aF false, .aF false, .aF false, .aF false, .aF false, .aF false, .aF false, .aF false, .aF false, .aF false, .aF false, .aF false, .aF false, .aF false, .aF false, .aF false, .aF false, .aF false, .aF false, .aF false, .aF false, .aF false, .aF false, .aF false, .aF false, .aF false, .aF false, .aF false, .aF false, .aF false, .aF false, .aF false, .aF false, .aF false, .aF false, .aF false, .aF false, .aF false, .aF false, .aF false, .aF false, .aF false, .aF false, .aF false, .aF false, .aF false, .aF false, .aF false, .aF false, .aF false, .aF false, .aF false, .aF false, .aF false, .aF false, .aF false, .aF false, .aF false, .aF false, .aF false, .aF false, .aF false, .aF false, .aF false, .aF false, .aF false, .aF false, .aF false, .aF false, .aF false, .aF false, .aF false, .aF false, .aF false, .aF false, .aF false, .aF false, .aF false, .aF false, .aF false, .aF false, .aF false, .aF false, .aF false, .aF false, .aF false, .aF false, .aF false, .aF false, .aF false, .aF false, .aF false, .aF false, .aF false, .aF false, .aF false, .aF false, .aF false, .aF false, .aF false, .aF false, .aF false, .aF false, .aF false, .aF false, .aF false, .aF false, .aF false, .aF false, .aF false, .aF false, .aF false, .aF false, .aF false, .aF false, .aF false, .aF false, .aF false, .aF false, .aF false, .aF false, .aF false, .aF false, .aF false, .aF false, .aF false, .aF false, .aF false, .aF false, .aF false, .aF false, .aF false, .aF false, .aF false, .aF false, .aF false, .aF false, .aF false, .aF false, .aF false, .aF false, .aF false, .aF false, .aF false, .aF false, .aF false, .aF false, .aF false, .aF false, .aF false, .aF false, .aF false, .aF false, .aF false, .aF false, .aF false, .aF false, .aF false, .aF false, .aF false, .aF false, .aF false, .aF false, .aF false, .aF false, .aF false, .aF false, .aF false, .aF false, .aF false, .aF false, .aF false, .aF false, .aF false, .aF false, .aF false, .aF false, .aF false, .aF false, .aF false, .aF false, .aF false, .aF false, .aF false, .aF false, .aF false, .aF false, .aF false, .aF false])],2⟩
def HW {R:Type}:Nat→HS.V B_→(Ex→St→Option R)→Option R:=fun q v K=>
 cn v.1.1 (fun y5=>K .ret {aA:=[(4, .v (.one (.int .i64 y5)))],mem:= [],nx:=0}) (K (.exit 0) {aA:= [],mem:= [],nx:=0}) q v.1.2.2.1
def C8:HS:=⟨[(175, .one (.iter 1)),(1000001, .one (.wA ([47,0]:Str))),(1000009, .one (.int .i64)),(1000045, .one (.iter 0))],[(0, .iter),(1, .iter)],2⟩
def LP {R:Type}:Nat→HS.V C8→(Ex→St→Option R)→Option R:=fun q v K=>
 cD v.2.2.1.1 (fun y15=>K .ret {aA:=[(4, .v (.one (.int .i64 y15))),(1000001, .v (.one (.str ([47,0]:Str)))),(1000009, .v (.one (.int .i64 v.1.2.2.1))),(1000045, .v (.one (.iter 0)))],mem:=[(0, .iter v.2.1.1 v.2.1.2)],nx:=1}) (K (.exit 9) {aA:=[(1000001, .v (.one (.str ([47,0]:Str)))),(1000009, .v (.one (.int .i64 v.1.2.2.1))),(1000045, .v (.one (.iter 0)))],mem:=[(0, .iter v.2.1.1 v.2.1.2)],nx:=1}) q v.2.2.1.2
def Dq:HS:=⟨[(0, .one (.wA ([47,0]:Str))),(7, .one (.str)),(8, .one (.int .i64)),(9, .one (.int .i64)),(12, .one (.int .i64)),(1000001, .one (.wA ([47,0]:Str))),(1000009, .one (.int .i64)),(1000045, .one (.iter 0))],[(0, .iter)],1⟩
def IL {R:Type}:Nat→HS.V Dq→(Ex→St→Option R)→Option R:=fun q v K=>
 cV v.1.2.1 v.1.2.2.1 v.1.2.2.2.1 (K (.exit 3) {aA:=[(8, .v (.one (.int .i64 v.1.2.2.1))),(9, .v (.one (.int .i64 v.1.2.2.2.1))),(1000001, .v (.one (.str ([47,0]:Str)))),(1000009, .v (.one (.int .i64 v.1.2.2.2.2.2.2.1))),(1000045, .v (.one (.iter 0)))],mem:=[(0, .iter v.2.1.1 v.2.1.2)],nx:=1}) q v.1.2.2.2.2.1
def BB:HS:=⟨[(0, .one (.wA ([47,0]:Str))),(7, .one (.str)),(8, .one (.int .i64)),(9, .one (.int .i64)),(1000001, .one (.wA ([47,0]:Str))),(1000009, .one (.int .i64)),(1000045, .one (.iter 0))],[(0, .iter)],1⟩
def Lr {R:Type}:Nat→HS.V BB→(Ex→St→Option R)→Option R:=fun q v K=>
 bI v.1.2.1 v.1.2.2.1 v.1.2.2.2.1 (fun y50=>K .ret {aA:=[(4, .v (.one (.int .i64 y50))),(1000001, .v (.one (.str ([47,0]:Str)))),(1000009, .v (.one (.int .i64 v.1.2.2.2.2.2.1))),(1000045, .v (.one (.iter 0)))],mem:=[(0, .iter v.2.1.1 v.2.1.2)],nx:=1}) (K (.exit 1) {aA:=[(1000001, .v (.one (.str ([47,0]:Str)))),(1000009, .v (.one (.int .i64 v.1.2.2.2.2.2.1))),(1000045, .v (.one (.iter 0)))],mem:=[(0, .iter v.2.1.1 v.2.1.2)],nx:=1}) q
def CG:HS:=⟨[(1, .one (.wA ([47,0]:Str))),(45, .one (.iter 0))],[(0, .iter)],1⟩
def JZ {R:Type}:Nat→HS.V CG→(Ex→St→Option R)→Option R:=fun q v K=>
 aI v.2.1.1 (fun y66=>K .ret {aA:=[(4, .v (.one (.int .i64 y66)))],mem:= [],nx:=0}) (K (.exit 2) {aA:= [],mem:= [],nx:=0}) q v.2.1.2
def RL:List HV:=[.one (.str), .one (.wA ([47,0]:Str))]
def OB:List HV:=[.one (.bool)]
def YD:HP.V RL→Str:=fun v=>(v.1)
def aj2:HX.V OB→Bool:=fun v=>(v)
def Xv:Bool→HX.V OB:=fun y=>(y)
def anE:Str→Option (Bool):=fun x=>fk x
def SV:Spec:=aU RL OB YD Xv anE
def Ts:Cfg:={T:=vJ,aX:=aG.G Tryz.prog,eqs:=vz,N:=5,fuel:=64,fid:=147}
theorem anY:aH Tryz.prog Ts:=aZ wz wa trivial
def abm {R:Type}:Inl R:= .mk 147 Ts [] al6 Tryz.f147.results.toList []
def Wa {R:Type}:List (Nat×Hd R):= []
def MZ {R:Type}:List (Nat×Inl R):= []
def Pd:Cfg:={T:=vJ,aX:=aG.G Tryz.prog,eqs:=vz,N:=21,fuel:=64,loops:=[(2,⟨[0,2,4,1000000,1000001], [],[0],1, [], [], [], []⟩)],blocks:=[(0,⟨[2,1000000,1000001], [],[0],1, [], [], [], []⟩)],eV:=some ⟨[2,3,1000000,1000001], [],[0],1, [], [], [], []⟩,fid:=148}
theorem ajz:aH Tryz.prog Pd:=aZ wz wa trivial
theorem agA {R:Type}:aP Tryz.prog (R:=R) 1 MZ:=aC _ _
theorem abq {R:Type}:aL (R:=R) (hnd 1 MZ) Pd Wa LH:=aD (l:=[sub [1,0,1,0,0] LH]) (by kernel_rfl) (gj (b:=sub [1,0,1,0,0] LH) (rid:=2) (by kernel_rfl) (by kernel_rfl) (trivial))
def XV {R:Type}:Inl R:= .mk 148 Pd Wa LH Tryz.f148.results.toList MZ
def Ro:Cfg:={T:=vJ,aX:=aG.G Tryz.prog,eqs:=vz,N:=10,fuel:=64,fid:=149}
theorem aaK:aH Tryz.prog Ro:=aZ wz wa trivial
def XY {R:Type}:Inl R:= .mk 149 Ro [] ak2 Tryz.f149.results.toList []
def W4:Cfg:={T:=vJ,spec:=[(162,cG)],aX:=aG.G Tryz.prog,eqs:=vz,N:=8,fuel:=64,fid:=157}
theorem aa3:aH Tryz.prog W4:=aZ wz wa ⟨dD,trivial⟩
def aab {R:Type}:Inl R:= .mk 157 W4 [] T8 Tryz.f157.results.toList []
def UZ:Cfg:={T:=vJ,aX:=aG.G Tryz.prog,eqs:=vz,N:=17,fuel:=64,fid:=158}
theorem ah6:aH Tryz.prog UZ:=aZ wz wa trivial
def X7 {R:Type}:Inl R:= .mk 158 UZ [] aaY Tryz.f158.results.toList []
def UH:Cfg:={T:=vJ,spec:=[(162,cG)],aX:=aG.G Tryz.prog,eqs:=vz,N:=8,fuel:=64,fid:=157}
theorem Xu:aH Tryz.prog UH:=aZ wz wa ⟨dD,trivial⟩
def agX {R:Type}:Inl R:= .mk 157 UH [] T8 Tryz.f157.results.toList []
def Hh {R:Type}:List (Nat×Hd R):=[(38,bC C8 LP),(5,bC BB Lr),(12,bC Dq IL)]
def EY {R:Type}:List (Nat×Inl R):=[(170,aab),(185,X7),(41,agX)]
def Fa:Cfg:={T:=vJ,aX:=aG.G Tryz.prog,eqs:=vz,N:=187,fuel:=64,loops:=[(38,⟨[175,1000001,1000009,1000045], [],[0,1],2, [], [], [], []⟩),(12,⟨[0,7,8,9,12,1000001,1000009,1000045], [],[0],1, [], [], [], []⟩),(5,⟨[0,7,8,9,1000001,1000009,1000045], [],[0],1, [], [], [], []⟩)],blocks:=[(9,⟨[1000001,1000009,1000045], [],[0],1, [], [], [], []⟩),(1,⟨[1000001,1000009,1000045], [],[0],1, [], [], [], []⟩),(3,⟨[8,9,1000001,1000009,1000045], [],[0],1, [], [], [], []⟩)],eV:=some ⟨[4,1000001,1000009,1000045], [],[0],1, [], [], [], []⟩,fid:=146}
theorem ac2:aH Tryz.prog Fa:=aZ wz wa trivial
theorem ain {R:Type}:aP Tryz.prog (R:=R) 1 EY:=bF Tryz.f157 aa3 (bF Tryz.f158 ah6 (bF Tryz.f157 Xu (aC _ _)))
theorem alC {R:Type}:bA (R:=R) (hnd 1 EY) Fa Hh (sub [1,0,1,1,1,0,0,1,0,0] pX) (HS.V C8) (HS.st C8) (HS.sh C8) LP (bC C8 LP):=aN C8 LP (fun _ _=>rfl) (by intro q v K;kernel_rfl)
theorem ao6 {R:Type}:bA (R:=R) (hnd 1 EY) Fa Hh (sub [1,0,1,1,1,1,1,1,0,1,1,1,1,0,0,0] pX) (HS.V BB) (HS.st BB) (HS.sh BB) Lr (bC BB Lr):=aN BB Lr (fun _ _=>rfl) (by intro q v K;kernel_rfl)
theorem aoB {R:Type}:bA (R:=R) (hnd 1 EY) Fa Hh (sub [1,0,1,1,1,1,1,1,0,1,1,1,1,0,0,0,1,0,0,1,0,1,0,0] pX) (HS.V Dq) (HS.st Dq) (HS.sh Dq) IL (bC Dq IL):=aN Dq IL (fun _ _=>rfl) (by intro q v K;kernel_rfl)
theorem adT {R:Type}:aL (R:=R) (hnd 1 EY) Fa Hh pX:=aD (l:=[sub [1,0,1,1,1,0,0,1,0,0] pX,sub [1,0,1,1,1,1,1,1,0,1,1,1,1,0,0,0] pX,sub [1,0,1,1,1,1,1,1,0,1,1,1,1,0,0,0,1,0,0,1,0,1,0,0] pX,sub [1,0,1,1,1,1,1,1,0,1,1,1,1,1,1,1,0,1,0,1,1,1,0,0] pX,sub [1,0,1,1,1,1,1,1,0,1,1,1,1,1,1,1,0,1,0,1,1,1,0,0,1,0,0,1,0,0,1,0,0] pX]) (by kernel_rfl) (aK (b:=sub [1,0,1,1,1,0,0,1,0,0] pX) (rid:=38) (by kernel_rfl) (by kernel_rfl) alC (aK (b:=sub [1,0,1,1,1,1,1,1,0,1,1,1,1,0,0,0] pX) (rid:=5) (by kernel_rfl) (by kernel_rfl) ao6 (aK (b:=sub [1,0,1,1,1,1,1,1,0,1,1,1,1,0,0,0,1,0,0,1,0,1,0,0] pX) (rid:=12) (by kernel_rfl) (by kernel_rfl) aoB (gj (b:=sub [1,0,1,1,1,1,1,1,0,1,1,1,1,1,1,1,0,1,0,1,1,1,0,0] pX) (rid:=25) (by kernel_rfl) (by kernel_rfl) (gj (b:=sub [1,0,1,1,1,1,1,1,0,1,1,1,1,1,1,1,0,1,0,1,1,1,0,0,1,0,0,1,0,0,1,0,0] pX) (rid:=29) (by kernel_rfl) (by kernel_rfl) (trivial))))))
def akz {R:Type}:Inl R:= .mk 146 Fa Hh pX Tryz.f146.results.toList EY
def IW {R:Type}:List (Nat×Hd R):=[(12,bC B_ HW),(18,bC CG JZ)]
def FY {R:Type}:List (Nat×Inl R):=[(26,abm),(29,XV),(42,XY),(52,akz)]
def Hv:Cfg:={T:=vJ,aX:=aG.G Tryz.prog,eqs:=vz,N:=55,fuel:=64,loops:=[(18,⟨[1,45], [],[0],1, [], [], [], []⟩),(12,⟨[0,6,8], [],[1],2, [], [], [], []⟩)],blocks:=[(2,⟨[], [], [],0, [], [], [], []⟩),(0,⟨[], [], [],0, [], [], [], []⟩)],eV:=some ⟨[4], [], [],0, [], [], [], []⟩,fid:=132}
theorem Xs:aH Tryz.prog Hv:=aZ wz wa trivial
theorem ahU {R:Type}:aP Tryz.prog (R:=R) 2 FY:=bF Tryz.f147 anY (bE Tryz.f148 ajz abq (bw (by kernel_rfl)) agA (bF Tryz.f149 aaK (bE Tryz.f146 ac2 adT (bw (by kernel_rfl)) ain (aC _ _))))
theorem acI {R:Type}:bA (R:=R) (hnd 2 FY) Hv IW (sub [1,1,1,0,1,0,1,1,0,0,1,0,0] AS) (HS.V B_) (HS.st B_) (HS.sh B_) HW (bC B_ HW):=aN B_ HW (fun _ _=>rfl) (by intro q v K;kernel_rfl)
theorem abf {R:Type}:bA (R:=R) (hnd 2 FY) Hv IW (sub [1,1,1,1,0,1,0,0] AS) (HS.V CG) (HS.st CG) (HS.sh CG) JZ (bC CG JZ):=aN CG JZ (fun _ _=>rfl) (by intro q v K;kernel_rfl)
theorem ad6 {R:Type}:aL (R:=R) (hnd 2 FY) Hv IW AS:=aD (l:=[sub [1,1,1,0,1,0,1,1,0,0,1,0,0] AS,sub [1,1,1,1,0,1,0,0] AS]) (by kernel_rfl) (aK (b:=sub [1,1,1,0,1,0,1,1,0,0,1,0,0] AS) (rid:=12) (by kernel_rfl) (by kernel_rfl) acI (aK (b:=sub [1,1,1,1,0,1,0,0] AS) (rid:=18) (by kernel_rfl) (by kernel_rfl) abf (trivial)))
def ao_ {R:Type}:Inl R:= .mk 132 Hv IW AS Tryz.f132.results.toList FY
def aoT {R:Type}:List (Nat×Hd R):= []
def Uo {R:Type}:List (Nat×Inl R):=[(7,ao_)]
def Xm:Cfg:={T:=vJ,aX:=aG.G Tryz.prog,eqs:=vz,N:=9,fuel:=64,fid:=97}
theorem ao2:aH Tryz.prog Xm:=aZ wz wa trivial
theorem abZ {R:Type}:aP Tryz.prog (R:=R) 3 Uo:=bE Tryz.f132 Xs ad6 (bw (by kernel_rfl)) ahU (aC _ _)
theorem akc {R:Type}:aL (R:=R) (hnd 3 Uo) Xm aoT afa:=aD (l:= []) (by kernel_rfl) (trivial)
theorem aku:aT Tryz.prog 97 SV:=bl Tryz.f97 ao2 WC (d:=3) abZ akc (bw (by kernel_rfl)) (toY:=aj2)
def Sj:List HV:=[.one (.str)]
def NU:List HV:=[.one (.bool)]
def aml:HP.V Sj→Str:=fun v=>(v.1)
def ahe:HX.V NU→Bool:=fun v=>(v)
def Yo:Bool→HX.V NU:=fun y=>(y)
def aif:Str→Option (Bool):=fun x=>kU x
def C2:Spec:=aU Sj NU aml Yo aif
def aej:Cfg:={T:=vJ,spec:=[(97,SV)],aX:=aG.G Tryz.prog,eqs:=vz,N:=23,fuel:=64,fid:=49}
theorem ahx:aH Tryz.prog aej:=aZ wz wa ⟨aku,trivial⟩
theorem Fm:aT Tryz.prog 49 C2:=bV Tryz.f49 ahx WC (toY:=ahe)
end
end Go.Eng
set_option linter.unusedVariables false
set_option maxRecDepth 100000
namespace Go.Eng
noncomputable section
open Go Go.Proofs
def uY:List (Nat×TI):=[(3,⟨false,1, .one (.int .i64 0), .int .i64⟩),(9,⟨false,1, .one (.str []), .str⟩),(37,⟨false,1, .one (.clip .entry []), .slice .entry 90⟩),(90,⟨true,2, .agg [.str [], .int .i64 0], .struct [(0,9),(1,3)]⟩),(132,⟨false,1, .one (.int .u64 0), .int .u64⟩)]
def uU:List (Nat×List EK):= []
theorem Jc:Tryz.prog.follows .mixedOrders=true:=by kernel_rfl
theorem vV:(uY.all fun x=>tiB Tryz.prog x.1 x.2)=true:=by kernel_rfl
theorem vQ:(uU.all fun x=>eqB Tryz.prog x.1 x.2)=true:=by kernel_rfl
def VX:Code:=bd Tryz.f87
def Xa:Code:=bd Tryz.f101
def adt:Code:=bd Tryz.f125
def Xb:Code:=bd Tryz.f126
def alv:Code:=bd Tryz.f133
def FX:Code:=bd Tryz.f141
def Wj:Code:=bd Tryz.f142
def JA:Code:=bd Tryz.f152
def CO:HS:=⟨[(0, .one (.sl .entry)),(1, .one (.str)),(2, .one (.fnc 142)),(8, .one (.int .i64)),(9, .one (.int .i64)),(10, .one (.int .i64))], [],0⟩
def KU {R:Type}:Nat→HS.V CO→(Ex→St→Option R)→Option R:=fun q v K=>
 eg v.1.1 v.1.2.1 (fun y11=>K (.exit 0) {aA:=[(0, .v (.one (.sl .entry v.1.1))),(1, .v (.one (.str v.1.2.1))),(2, .v (.one (.fnc 142))),(8, .v (.one (.int .i64 v.1.2.2.2.1))),(9, .v (.one (.int .i64 y11)))],mem:= [],nx:=0}) q v.1.2.2.2.2.1 v.1.2.2.2.2.2.1
def RG:List HV:=[.one (.sl .entry), .one (.str)]
def Nz:List HV:=[.one (.int .i64), .one (.bool)]
def aeA:HP.V RG→(List Entry)×Str:=fun v=>(v.1,v.2.1)
def amR:HX.V Nz→Int×Bool:=fun v=>(v.1,v.2)
def aek:(Int×Bool)→HX.V Nz:=fun y=>(y.1,y.2)
def am7:(List Entry)×Str→Option (Int×Bool):=fun x=>og x.1 x.2
def EP:Spec:=aU RG Nz aeA aek am7
def UJ:Cfg:={T:=uY,spec:=[(143,fH)],aX:=aG.G Tryz.prog,eqs:=uU,N:=9,fuel:=64,fid:=142}
theorem ZW:aH Tryz.prog UJ:=aZ vV vQ ⟨k8,trivial⟩
def afT {R:Type}:Inl R:= .mk 142 UJ [] Wj Tryz.f142.results.toList []
def Tb:Cfg:={T:=uY,spec:=[(143,fH)],aX:=aG.G Tryz.prog,eqs:=uU,N:=9,fuel:=64,fid:=142}
theorem ag2:aH Tryz.prog Tb:=aZ vV vQ ⟨k8,trivial⟩
def alj {R:Type}:Inl R:= .mk 142 Tb [] Wj Tryz.f142.results.toList []
def P1 {R:Type}:List (Nat×Hd R):=[(3,bC CO KU)]
def K7 {R:Type}:List (Nat×Inl R):=[(30,afT),(46,alj)]
def Lx:Cfg:={T:=uY,aX:=aG.G Tryz.prog,eqs:=uU,N:=49,fuel:=64,loops:=[(3,⟨[0,1,2,8,9,10], [], [],0, [], [], [], []⟩)],blocks:=[(0,⟨[0,1,2,8,9], [], [],0, [], [], [], []⟩)],fid:=141}
theorem amn:aH Tryz.prog Lx:=aZ vV vQ trivial
theorem aeO {R:Type}:aP Tryz.prog (R:=R) 1 K7:=bF Tryz.f142 ZW (bF Tryz.f142 ag2 (aC _ _))
theorem afh {R:Type}:bA (R:=R) (hnd 1 K7) Lx P1 (sub [1,1,1,0,0,0] FX) (HS.V CO) (HS.st CO) (HS.sh CO) KU (bC CO KU):=aN CO KU (fun _ _=>rfl) (by intro q v K;kernel_rfl)
theorem acm {R:Type}:aL (R:=R) (hnd 1 K7) Lx P1 FX:=aD (l:=[sub [1,1,1,0,0,0] FX]) (by kernel_rfl) (aK (b:=sub [1,1,1,0,0,0] FX) (rid:=3) (by kernel_rfl) (by kernel_rfl) afh (trivial))
def abR {R:Type}:Inl R:= .mk 141 Lx P1 FX Tryz.f141.results.toList K7
def ab2 {R:Type}:List (Nat×Hd R):= []
def Sy {R:Type}:List (Nat×Inl R):=[(8,abR)]
def SC:Cfg:={T:=uY,aX:=aG.G Tryz.prog,eqs:=uU,N:=11,fuel:=64,fid:=125}
theorem afZ:aH Tryz.prog SC:=aZ vV vQ trivial
theorem aao {R:Type}:aP Tryz.prog (R:=R) 2 Sy:=bE Tryz.f141 amn acm (bw (by kernel_rfl)) aeO (aC _ _)
theorem Zj {R:Type}:aL (R:=R) (hnd 2 Sy) SC ab2 adt:=aD (l:= []) (by kernel_rfl) (trivial)
theorem FH:aT Tryz.prog 125 EP:=bl Tryz.f125 afZ Jc (d:=2) aao Zj (bw (by kernel_rfl)) (toY:=amR)
def Tn:List HV:=[.one (.sl .entry), .one (.str)]
def MD:List HV:=[.one (.sl .entry)]
def adu:HP.V Tn→(List Entry)×Str:=fun v=>(v.1,v.2.1)
def acq:HX.V MD→(List Entry):=fun v=>(v)
def ab0:(List Entry)→HX.V MD:=fun y=>(y)
def agr:(List Entry)×Str→Option ((List Entry)):=fun x=>jL x.1 x.2
def Rj:Spec:=aU Tn MD adu ab0 agr
def U5:Cfg:={T:=uY,spec:=[(125,EP)],aX:=aG.G Tryz.prog,eqs:=uU,N:=8,fuel:=64,fid:=126}
theorem anQ:aH Tryz.prog U5:=aZ vV vQ ⟨FH,trivial⟩
def aak {R:Type}:Inl R:= .mk 126 U5 [] Xb Tryz.f126.results.toList []
def aj7 {R:Type}:List (Nat×Hd R):= []
def TG {R:Type}:List (Nat×Inl R):=[(17,aak)]
def O4:Cfg:={T:=uY,spec:=[(125,EP)],aX:=aG.G Tryz.prog,eqs:=uU,N:=35,fuel:=64,fid:=87}
theorem alO:aH Tryz.prog O4:=aZ vV vQ ⟨FH,trivial⟩
theorem aaU {R:Type}:aP Tryz.prog (R:=R) 1 TG:=bF Tryz.f126 anQ (aC _ _)
theorem ak0 {R:Type}:aL (R:=R) (hnd 1 TG) O4 aj7 VX:=aD (l:= []) (by kernel_rfl) (trivial)
theorem aks:fY Tryz.prog O4 VX:=bw (by kernel_rfl)
theorem abc:aT Tryz.prog 87 Rj:=bl Tryz.f87 alO Jc (d:=1) aaU ak0 aks (toY:=acq)
def VC:List HV:=[.one (.sl .entry), .one (.str), .one (.int .i64)]
def Q3:List HV:=[.one (.sl .entry)]
def ahc:HP.V VC→(List Entry)×Str×Int:=fun v=>(v.1,v.2.1,v.2.2.1)
def aaN:HX.V Q3→(List Entry):=fun v=>(v)
def YB:(List Entry)→HX.V Q3:=fun y=>(y)
def aa6:(List Entry)×Str×Int→Option ((List Entry)):=fun x=>fI x.1 x.2.1 x.2.2
def RM:Spec:=aU VC Q3 ahc YB aa6
def WK:Cfg:={T:=uY,spec:=[(125,EP)],aX:=aG.G Tryz.prog,eqs:=uU,N:=8,fuel:=64,ovl:=[150],fid:=126}
theorem ab4:aH Tryz.prog WK:=aZ vV vQ ⟨FH,trivial⟩ (ov:=⟨Bz,trivial⟩)
def agK {R:Type}:Inl R:= .mk 126 WK [] Xb Tryz.f126.results.toList []
def SS:Cfg:={T:=uY,spec:=[(125,EP)],aX:=aG.G Tryz.prog,eqs:=uU,N:=95,fuel:=64,ovl:=[150],fid:=133}
theorem acS:aH Tryz.prog SS:=aZ vV vQ ⟨FH,trivial⟩ (ov:=⟨Bz,trivial⟩)
def al2 {R:Type}:Inl R:= .mk 133 SS [] alv Tryz.f133.results.toList []
def XN {R:Type}:List (Nat×Hd R):= []
def TJ {R:Type}:List (Nat×Inl R):=[(17,agK),(31,al2)]
def Nd:Cfg:={T:=uY,spec:=[(125,EP)],aX:=aG.G Tryz.prog,eqs:=uU,N:=32,fuel:=64,ovl:=[150],fid:=101}
theorem aog:aH Tryz.prog Nd:=aZ vV vQ ⟨FH,trivial⟩ (ov:=⟨Bz,trivial⟩)
theorem al3 {R:Type}:aP Tryz.prog (R:=R) 1 TJ:=bF Tryz.f126 ab4 (bF Tryz.f133 acS (aC _ _))
theorem agm {R:Type}:aL (R:=R) (hnd 1 TJ) Nd XN Xa:=aD (l:= []) (by kernel_rfl) (trivial)
theorem ai0:fY Tryz.prog Nd Xa:=bw (by kernel_rfl)
theorem ahd:aT Tryz.prog 101 RM:=bl Tryz.f101 aog Jc (d:=1) al3 agm ai0 (toY:=aaN)
def Bn:HS:=⟨[(0, .one (.sl .entry)),(5, .one (.sl .entry)),(6, .one (.int .i64)),(7, .one (.int .i64))], [],0⟩
def J6 {R:Type}:Nat→HS.V Bn→(Ex→St→Option R)→Option R:=fun q v K=>
 iH v.1.1 v.1.2.1 v.1.2.2.1 (K .ret {aA:=[(2, .v (.one (.bool false)))],mem:= [],nx:=0}) (K (.exit 0) {aA:= [],mem:= [],nx:=0}) q v.1.2.2.2.1
def Vi:List HV:=[.one (.sl .entry)]
def Mp:List HV:=[.one (.bool)]
def aa4:HP.V Vi→(List Entry):=fun v=>(v.1)
def ak9:HX.V Mp→Bool:=fun v=>(v)
def aj1:Bool→HX.V Mp:=fun y=>(y)
def ac8:(List Entry)→Option (Bool):=fun x=>cf x
def Hb:Spec:=aU Vi Mp aa4 aj1 ac8
def SM {R:Type}:List (Nat×Hd R):=[(2,bC Bn J6)]
def Rf {R:Type}:List (Nat×Inl R):= []
def Ph:Cfg:={T:=uY,spec:=[(49,C2)],aX:=aG.G Tryz.prog,eqs:=uU,N:=37,fuel:=64,loops:=[(2,⟨[0,5,6,7], [], [],0, [], [], [], []⟩)],blocks:=[(0,⟨[], [], [],0, [], [], [], []⟩)],eV:=some ⟨[2], [], [],0, [], [], [], []⟩,fid:=152}
theorem aax:aH Tryz.prog Ph:=aZ vV vQ ⟨Fm,trivial⟩
theorem ac_ {R:Type}:aP Tryz.prog (R:=R) 0 Rf:=aC _ _
theorem aoy {R:Type}:bA (R:=R) (hnd 0 Rf) Ph SM (sub [1,0,1,0,0] JA) (HS.V Bn) (HS.st Bn) (HS.sh Bn) J6 (bC Bn J6):=aN Bn J6 (fun _ _=>rfl) (by intro q v K;kernel_rfl)
theorem afV {R:Type}:aL (R:=R) (hnd 0 Rf) Ph SM JA:=aD (l:=[sub [1,0,1,0,0] JA]) (by kernel_rfl) (aK (b:=sub [1,0,1,0,0] JA) (rid:=2) (by kernel_rfl) (by kernel_rfl) aoy (trivial))
theorem Ji:aT Tryz.prog 152 Hb:=bl Tryz.f152 aax Jc (d:=0) ac_ afV (bw (by kernel_rfl)) (toY:=ak9)
end
end Go.Eng
set_option linter.unusedVariables false
set_option maxRecDepth 100000
namespace Go.Eng
noncomputable section
open Go Go.Proofs
def lA:List (Nat×TI):=[(3,⟨false,1, .one (.int .i64 0), .int .i64⟩),(9,⟨false,1, .one (.str []), .str⟩),(22,⟨false,1, .one (.clip .aB []), .slice .aB 39⟩),(24,⟨true,4, .agg [.int .i64 0, .int .i64 0, .int .i64 0, .clip .aB []], .struct [(0,3),(1,3),(2,3),(3,22)]⟩),(37,⟨false,1, .one (.clip .entry []), .slice .entry 90⟩),(39,⟨true,6, .agg [.int .i64 0, .int .i64 0, .int .i64 0, .str [], .int .i64 0, .clip .entry []], .struct [(0,3),(1,3),(2,3),(3,9),(4,3),(5,37)]⟩),(90,⟨true,2, .agg [.str [], .int .i64 0], .struct [(0,9),(1,3)]⟩),(132,⟨false,1, .one (.int .u64 0), .int .u64⟩)]
def lB:List (Nat×List EK):=[(90,[.s, .i])]
theorem E4:Tryz.prog.follows .mixedOrders=true:=by kernel_rfl
theorem mi:(lA.all fun x=>tiB Tryz.prog x.1 x.2)=true:=by kernel_rfl
theorem my:(lB.all fun x=>eqB Tryz.prog x.1 x.2)=true:=by kernel_rfl
def ab1:Code:=bd Tryz.f32
def ajA:Code:=bd Tryz.f42
def TP:Code:=bd Tryz.f43
def amH:Code:=bd Tryz.f54
def FM:Code:=bd Tryz.f81
def aaf:Code:=bd Tryz.f82
def akD:Code:=bd Tryz.f86
def afC:Code:=bd Tryz.f88
def FW:Code:=bd Tryz.f89
def LD:Code:=bd Tryz.f91
def GV:Code:=bd Tryz.f122
def Ju:Code:=bd Tryz.f124
def ajP:Code:=bd Tryz.f127
def JH:Code:=bd Tryz.f128
def Di:HS:=⟨[(0, .one (.sl .entry)),(1, .one (.sl .entry)),(12, .one (.int .i64)),(13, .one (.int .i64)),(1000038, .one (.bool))], [],0⟩
def Lj {R:Type}:Nat→HS.V Di→(Ex→St→Option R)→Option R:=fun q v K=>
 dO v.1.1 v.1.2.1 v.1.2.2.1 (K .ret {aA:=[(4, .v (.one (.bool false))),(1000038, .v (.one (.bool v.1.2.2.2.2.1)))],mem:= [],nx:=0}) (K (.exit 0) {aA:=[(1000038, .v (.one (.bool v.1.2.2.2.2.1)))],mem:= [],nx:=0}) q v.1.2.2.2.1
def WN:List HV:=[.agg hIn, .agg hIn]
def L5:List HV:=[.one (.bool)]
def Y6:HP.V WN→ae×ae:=fun v=>((cIn v.1),(cIn v.2.1))
def anq:HX.V L5→Bool:=fun v=>(v)
def aio:Bool→HX.V L5:=fun y=>(y)
def aj5:(ae×ae)→Option (Bool):=fun x=>l8 x.1 x.2
def ND:Spec:=aU WN L5 Y6 aio aj5
def P2 {R:Type}:List (Nat×Hd R):=[(4,bC Di Lj)]
def J_ {R:Type}:List (Nat×Inl R):= []
def KF:Cfg:={T:=lA,aX:=aG.G Tryz.prog,eqs:=lB,N:=26,fuel:=64,loops:=[(4,⟨[0,1,12,13,1000038], [], [],0, [], [], [], []⟩)],blocks:=[(0,⟨[1000038], [], [],0, [], [], [], []⟩)],eV:=some ⟨[4,1000038], [], [],0, [], [], [], []⟩,fid:=122}
theorem am4:aH Tryz.prog KF:=aZ mi my trivial
theorem aeN {R:Type}:aP Tryz.prog (R:=R) 0 J_:=aC _ _
theorem agj {R:Type}:bA (R:=R) (hnd 0 J_) KF P2 (sub [1,1,0,1,0,0] GV) (HS.V Di) (HS.st Di) (HS.sh Di) Lj (bC Di Lj):=aN Di Lj (fun _ _=>rfl) (by intro q v K;kernel_rfl)
theorem amx {R:Type}:aL (R:=R) (hnd 0 J_) KF P2 GV:=aD (l:=[sub [1,1,0,1,0,0] GV]) (by kernel_rfl) (aK (b:=sub [1,1,0,1,0,0] GV) (rid:=4) (by kernel_rfl) (by kernel_rfl) agj (trivial))
def Zl {R:Type}:Inl R:= .mk 122 KF P2 GV Tryz.f122.results.toList J_
def aaA {R:Type}:List (Nat×Hd R):= []
def R3 {R:Type}:List (Nat×Inl R):=[(43,Zl)]
def Vy:Cfg:={T:=lA,aX:=aG.G Tryz.prog,eqs:=lB,N:=45,fuel:=64,fid:=82}
theorem ahG:aH Tryz.prog Vy:=aZ mi my trivial
theorem aiL {R:Type}:aP Tryz.prog (R:=R) 1 R3:=bE Tryz.f122 am4 amx (bw (by kernel_rfl)) aeN (aC _ _)
theorem Z1 {R:Type}:aL (R:=R) (hnd 1 R3) Vy aaA aaf:=aD (l:= []) (by kernel_rfl) (trivial)
theorem Uh:aT Tryz.prog 82 ND:=bl Tryz.f82 ahG E4 (d:=1) aiL Z1 (bw (by kernel_rfl)) (toY:=anq)
def Cq:HS:=⟨[(1, .one (.sl .aB)),(2, .one (.fnc 82)),(15, .one (.sl .aB)),(16, .one (.int .i64)),(17, .one (.int .i64)),(1000024, .one (.bool))], [],0⟩
def I6 {R:Type}:Nat→HS.V Cq→(Ex→St→Option R)→Option R:=fun q v K=>
 ei v.1.1 v.1.2.2.1 v.1.2.2.2.1 (K .ret {aA:=[(6, .v (.one (.bool false))),(1000024, .v (.one (.bool v.1.2.2.2.2.2.1)))],mem:= [],nx:=0}) (K (.exit 0) {aA:=[(1000024, .v (.one (.bool v.1.2.2.2.2.2.1)))],mem:= [],nx:=0}) q v.1.2.2.2.2.1
def Xo:List HV:=[.agg hFs, .agg hFs]
def Qk:List HV:=[.one (.bool)]
def adY:HP.V Xo→Fs×Fs:=fun v=>((cFs v.1),(cFs v.2.1))
def ajx:HX.V Qk→Bool:=fun v=>(v)
def akP:Bool→HX.V Qk:=fun y=>(y)
def an8:(Fs×Fs)→Option (Bool):=fun x=>kS x.1 x.2
def Q6:Spec:=aU Xo Qk adY akP an8
def Pv {R:Type}:List (Nat×Hd R):=[(4,bC Cq I6)]
def KA {R:Type}:List (Nat×Inl R):= []
def J9:Cfg:={T:=lA,spec:=[(82,ND)],aX:=aG.G Tryz.prog,eqs:=lB,N:=32,fuel:=64,loops:=[(4,⟨[1,2,15,16,17,1000024], [], [],0, [], [], [], []⟩)],blocks:=[(0,⟨[1000024], [], [],0, [], [], [], []⟩)],eV:=some ⟨[6,1000024], [], [],0, [], [], [], []⟩,fid:=81}
theorem ajn:aH Tryz.prog J9:=aZ mi my ⟨Uh,trivial⟩
theorem ZO {R:Type}:aP Tryz.prog (R:=R) 0 KA:=aC _ _
theorem XI {R:Type}:bA (R:=R) (hnd 0 KA) J9 Pv (sub [1,1,0,1,0,0] FM) (HS.V Cq) (HS.st Cq) (HS.sh Cq) I6 (bC Cq I6):=aN Cq I6 (fun _ _=>rfl) (by intro q v K;kernel_rfl)
theorem XG {R:Type}:aL (R:=R) (hnd 0 KA) J9 Pv FM:=aD (l:=[sub [1,1,0,1,0,0] FM]) (by kernel_rfl) (aK (b:=sub [1,1,0,1,0,0] FM) (rid:=4) (by kernel_rfl) (by kernel_rfl) XI (trivial))
def akm {R:Type}:Inl R:= .mk 81 J9 Pv FM Tryz.f81.results.toList KA
def aoE {R:Type}:List (Nat×Hd R):= []
def Wc {R:Type}:List (Nat×Inl R):=[(29,akm)]
def Xe:Cfg:={T:=lA,spec:=[(82,ND)],aX:=aG.G Tryz.prog,eqs:=lB,N:=31,fuel:=64,fid:=32}
theorem ajj:aH Tryz.prog Xe:=aZ mi my ⟨Uh,trivial⟩
theorem ajE {R:Type}:aP Tryz.prog (R:=R) 1 Wc:=bE Tryz.f81 ajn XG (bw (by kernel_rfl)) ZO (aC _ _)
theorem afO {R:Type}:aL (R:=R) (hnd 1 Wc) Xe aoE ab1:=aD (l:= []) (by kernel_rfl) (trivial)
theorem Wv:aT Tryz.prog 32 Q6:=bl Tryz.f32 ajj E4 (d:=1) ajE afO (bw (by kernel_rfl)) (toY:=ajx)
def CC:HS:=⟨[(0, .one (.sl .aB)),(1, .one (.int .i64)),(2, .one (.fnc 124)),(8, .one (.int .i64)),(9, .one (.int .i64)),(10, .one (.int .i64))], [],0⟩
def J4 {R:Type}:Nat→HS.V CC→(Ex→St→Option R)→Option R:=fun q v K=>
 cM v.1.1 v.1.2.1 (fun y10=>K (.exit 0) {aA:=[(0, .v (.one (.sl .aB v.1.1))),(1, .v (.one (.int .i64 v.1.2.1))),(2, .v (.one (.fnc 124))),(8, .v (.one (.int .i64 v.1.2.2.2.1))),(9, .v (.one (.int .i64 y10)))],mem:= [],nx:=0}) q v.1.2.2.2.2.1 v.1.2.2.2.2.2.1
def Wu:List HV:=[.agg hFs, .one (.int .i64)]
def P5:List HV:=[.one (.int .i64), .one (.bool)]
def aiU:HP.V Wu→Fs×Int:=fun v=>((cFs v.1),v.2.1)
def XZ:HX.V P5→Int×Bool:=fun v=>(v.1,v.2)
def alD:(Int×Bool)→HX.V P5:=fun y=>(y.1,y.2)
def agC:(Fs×Int)→Option (Int×Bool):=fun x=>mD x.1 x.2
def zq:Spec:=aU Wu P5 aiU alD agC
def Ss:Cfg:={T:=lA,aX:=aG.G Tryz.prog,eqs:=lB,N:=6,fuel:=64,fid:=128}
theorem afY:aH Tryz.prog Ss:=aZ mi my trivial
def aeC {R:Type}:Inl R:= .mk 128 Ss [] JH Tryz.f128.results.toList []
def Vd:Cfg:={T:=lA,aX:=aG.G Tryz.prog,eqs:=lB,N:=6,fuel:=64,fid:=128}
theorem acs:aH Tryz.prog Vd:=aZ mi my trivial
def ace {R:Type}:Inl R:= .mk 128 Vd [] JH Tryz.f128.results.toList []
def Ud {R:Type}:List (Nat×Hd R):= []
def PM {R:Type}:List (Nat×Inl R):=[(8,aeC),(10,ace)]
def Qa:Cfg:={T:=lA,aX:=aG.G Tryz.prog,eqs:=lB,N:=20,fuel:=64,fid:=91}
theorem amb:aH Tryz.prog Qa:=aZ mi my trivial
theorem aae {R:Type}:aP Tryz.prog (R:=R) 1 PM:=bF Tryz.f128 afY (bF Tryz.f128 acs (aC _ _))
theorem ao1 {R:Type}:aL (R:=R) (hnd 1 PM) Qa Ud LD:=aD (l:= []) (by kernel_rfl) (trivial)
def aim {R:Type}:Inl R:= .mk 91 Qa Ud LD Tryz.f91.results.toList PM
def Xl {R:Type}:List (Nat×Hd R):= []
def N6 {R:Type}:List (Nat×Inl R):=[(8,aim)]
def Q2:Cfg:={T:=lA,aX:=aG.G Tryz.prog,eqs:=lB,N:=9,fuel:=64,fid:=124}
theorem aaI:aH Tryz.prog Q2:=aZ mi my trivial
theorem ahV {R:Type}:aP Tryz.prog (R:=R) 2 N6:=bE Tryz.f91 amb ao1 (bw (by kernel_rfl)) aae (aC _ _)
theorem Zy {R:Type}:aL (R:=R) (hnd 2 N6) Q2 Xl Ju:=aD (l:= []) (by kernel_rfl) (trivial)
def adz {R:Type}:Inl R:= .mk 124 Q2 Xl Ju Tryz.f124.results.toList N6
def SO:Cfg:={T:=lA,aX:=aG.G Tryz.prog,eqs:=lB,N:=6,fuel:=64,fid:=128}
theorem ahq:aH Tryz.prog SO:=aZ mi my trivial
def ag6 {R:Type}:Inl R:= .mk 128 SO [] JH Tryz.f128.results.toList []
def Wd:Cfg:={T:=lA,aX:=aG.G Tryz.prog,eqs:=lB,N:=6,fuel:=64,fid:=128}
theorem abC:aH Tryz.prog Wd:=aZ mi my trivial
def ajO {R:Type}:Inl R:= .mk 128 Wd [] JH Tryz.f128.results.toList []
def RV {R:Type}:List (Nat×Hd R):= []
def MS {R:Type}:List (Nat×Inl R):=[(8,ag6),(10,ajO)]
def NX:Cfg:={T:=lA,aX:=aG.G Tryz.prog,eqs:=lB,N:=20,fuel:=64,fid:=91}
theorem X6:aH Tryz.prog NX:=aZ mi my trivial
theorem aas {R:Type}:aP Tryz.prog (R:=R) 1 MS:=bF Tryz.f128 ahq (bF Tryz.f128 abC (aC _ _))
theorem amv {R:Type}:aL (R:=R) (hnd 1 MS) NX RV LD:=aD (l:= []) (by kernel_rfl) (trivial)
def ajv {R:Type}:Inl R:= .mk 91 NX RV LD Tryz.f91.results.toList MS
def TB {R:Type}:List (Nat×Hd R):= []
def Mf {R:Type}:List (Nat×Inl R):=[(8,ajv)]
def Ol:Cfg:={T:=lA,aX:=aG.G Tryz.prog,eqs:=lB,N:=9,fuel:=64,fid:=124}
theorem abe:aH Tryz.prog Ol:=aZ mi my trivial
theorem YU {R:Type}:aP Tryz.prog (R:=R) 2 Mf:=bE Tryz.f91 X6 amv (bw (by kernel_rfl)) aas (aC _ _)
theorem afL {R:Type}:aL (R:=R) (hnd 2 Mf) Ol TB Ju:=aD (l:= []) (by kernel_rfl) (trivial)
def Zn {R:Type}:Inl R:= .mk 124 Ol TB Ju Tryz.f124.results.toList Mf
def L6 {R:Type}:List (Nat×Hd R):=[(3,bC CC J4)]
def Kt {R:Type}:List (Nat×Inl R):=[(30,adz),(46,Zn)]
def Kl:Cfg:={T:=lA,aX:=aG.G Tryz.prog,eqs:=lB,N:=49,fuel:=64,loops:=[(3,⟨[0,1,2,8,9,10], [], [],0, [], [], [], []⟩)],blocks:=[(0,⟨[0,1,2,8,9], [], [],0, [], [], [], []⟩)],fid:=89}
theorem amK:aH Tryz.prog Kl:=aZ mi my trivial
theorem aiD {R:Type}:aP Tryz.prog (R:=R) 3 Kt:=bE Tryz.f124 aaI Zy (bw (by kernel_rfl)) ahV (bE Tryz.f124 abe afL (bw (by kernel_rfl)) YU (aC _ _))
theorem anN {R:Type}:bA (R:=R) (hnd 3 Kt) Kl L6 (sub [1,1,1,0,0,0] FW) (HS.V CC) (HS.st CC) (HS.sh CC) J4 (bC CC J4):=aN CC J4 (fun _ _=>rfl) (by intro q v K;kernel_rfl)
theorem aoO {R:Type}:aL (R:=R) (hnd 3 Kt) Kl L6 FW:=aD (l:=[sub [1,1,1,0,0,0] FW]) (by kernel_rfl) (aK (b:=sub [1,1,1,0,0,0] FW) (rid:=3) (by kernel_rfl) (by kernel_rfl) anN (trivial))
def Z6 {R:Type}:Inl R:= .mk 89 Kl L6 FW Tryz.f89.results.toList Kt
def ame {R:Type}:List (Nat×Hd R):= []
def UR {R:Type}:List (Nat×Inl R):=[(9,Z6)]
def UK:Cfg:={T:=lA,aX:=aG.G Tryz.prog,eqs:=lB,N:=12,fuel:=64,fid:=86}
theorem ae9:aH Tryz.prog UK:=aZ mi my trivial
theorem aiJ {R:Type}:aP Tryz.prog (R:=R) 4 UR:=bE Tryz.f89 amK aoO (bw (by kernel_rfl)) aiD (aC _ _)
theorem aoe {R:Type}:aL (R:=R) (hnd 4 UR) UK ame akD:=aD (l:= []) (by kernel_rfl) (trivial)
theorem CA:aT Tryz.prog 86 zq:=bl Tryz.f86 ae9 E4 (d:=4) aiJ aoe (bw (by kernel_rfl)) (toY:=XZ)
def Wz:List HV:=[.agg hFs, .one (.int .i64)]
def Oc:List HV:=[.agg hIn, .one (.bool)]
def alu:HP.V Wz→Fs×Int:=fun v=>((cFs v.1),v.2.1)
def anR:HX.V Oc→ae×Bool:=fun v=>((cIn v.1),v.2)
def alm:(ae×Bool)→HX.V Oc:=fun y=>((y.1.ino,(y.1.kind,(y.1.ar,(y.1.data,(y.1.parent,(y.1.entries,())))))),y.2)
def aeM:(Fs×Int)→Option (ae×Bool):=fun x=>cZ x.1 x.2
def mH:Spec:=aU Wz Oc alu alm aeM
def ai6:Cfg:={T:=lA,spec:=[(86,zq)],aX:=aG.G Tryz.prog,eqs:=lB,N:=22,fuel:=64,fid:=38}
theorem ahf:aH Tryz.prog ai6:=aZ mi my ⟨CA,trivial⟩
theorem nD:aT Tryz.prog 38 mH:=bV Tryz.f38 ahf E4 (toY:=anR)
def VR:List HV:=[.agg hFs, .agg hIn]
def OC:List HV:=[.agg hFs]
def ajS:HP.V VR→Fs×ae:=fun v=>((cFs v.1),(cIn v.2.1))
def acP:HX.V OC→Fs:=fun v=>((cFs v))
def aef:Fs→HX.V OC:=fun y=>((y.aq,(y.au,(y.next,(y.aa,())))))
def aeV:(Fs×ae)→Option (Fs):=fun x=>bh x.1 x.2
def yk:Spec:=aU VR OC ajS aef aeV
def U8:Cfg:={T:=lA,spec:=[(86,zq)],aX:=aG.G Tryz.prog,eqs:=lB,N:=8,fuel:=64,ovl:=[92],fid:=43}
theorem agE:aH Tryz.prog U8:=aZ mi my ⟨CA,trivial⟩ (ov:=⟨AW,trivial⟩)
def adZ {R:Type}:Inl R:= .mk 43 U8 [] TP Tryz.f43.results.toList []
def Wy:Cfg:={T:=lA,spec:=[(86,zq)],aX:=aG.G Tryz.prog,eqs:=lB,N:=95,fuel:=64,ovl:=[92],fid:=42}
theorem aiK:aH Tryz.prog Wy:=aZ mi my ⟨CA,trivial⟩ (ov:=⟨AW,trivial⟩)
def ab5 {R:Type}:Inl R:= .mk 42 Wy [] ajA Tryz.f42.results.toList []
def Zp {R:Type}:List (Nat×Hd R):= []
def T5 {R:Type}:List (Nat×Inl R):=[(16,adZ),(30,ab5)]
def T0:Cfg:={T:=lA,spec:=[(86,zq)],aX:=aG.G Tryz.prog,eqs:=lB,N:=33,fuel:=64,ovl:=[92],fid:=54}
theorem adF:aH Tryz.prog T0:=aZ mi my ⟨CA,trivial⟩ (ov:=⟨AW,trivial⟩)
theorem adf {R:Type}:aP Tryz.prog (R:=R) 1 T5:=bF Tryz.f43 agE (bF Tryz.f42 aiK (aC _ _))
theorem Xt {R:Type}:aL (R:=R) (hnd 1 T5) T0 Zp amH:=aD (l:= []) (by kernel_rfl) (trivial)
theorem zC:aT Tryz.prog 54 yk:=bl Tryz.f54 adF E4 (d:=1) adf Xt (bw (by kernel_rfl)) (toY:=acP)
def Uf:List HV:=[.agg hFs, .one (.int .i64)]
def O0:List HV:=[.agg hFs]
def ao4:HP.V Uf→Fs×Int:=fun v=>((cFs v.1),v.2.1)
def Zq:HX.V O0→Fs:=fun v=>((cFs v))
def alH:Fs→HX.V O0:=fun y=>((y.aq,(y.au,(y.next,(y.aa,())))))
def ald:(Fs×Int)→Option (Fs):=fun x=>ng x.1 x.2
def S9:Spec:=aU Uf O0 ao4 alH ald
def Ux:Cfg:={T:=lA,spec:=[(86,zq)],aX:=aG.G Tryz.prog,eqs:=lB,N:=8,fuel:=64,fid:=43}
theorem aaE:aH Tryz.prog Ux:=aZ mi my ⟨CA,trivial⟩
def akF {R:Type}:Inl R:= .mk 43 Ux [] TP Tryz.f43.results.toList []
def RA:Cfg:={T:=lA,spec:=[(86,zq)],aX:=aG.G Tryz.prog,eqs:=lB,N:=33,fuel:=64,fid:=127}
theorem aoF:aH Tryz.prog RA:=aZ mi my ⟨CA,trivial⟩
def agZ {R:Type}:Inl R:= .mk 127 RA [] ajP Tryz.f127.results.toList []
def afQ {R:Type}:List (Nat×Hd R):= []
def WY {R:Type}:List (Nat×Inl R):=[(15,akF),(23,agZ)]
def UF:Cfg:={T:=lA,spec:=[(86,zq)],aX:=aG.G Tryz.prog,eqs:=lB,N:=26,fuel:=64,fid:=88}
theorem aew:aH Tryz.prog UF:=aZ mi my ⟨CA,trivial⟩
theorem ai1 {R:Type}:aP Tryz.prog (R:=R) 1 WY:=bF Tryz.f43 aaE (bF Tryz.f127 aoF (aC _ _))
theorem ak6 {R:Type}:aL (R:=R) (hnd 1 WY) UF afQ afC:=aD (l:= []) (by kernel_rfl) (trivial)
theorem adj:aT Tryz.prog 88 S9:=bl Tryz.f88 aew E4 (d:=1) ai1 ak6 (bw (by kernel_rfl)) (toY:=Zq)
end
end Go.Eng
set_option linter.unusedVariables false
set_option maxRecDepth 100000
namespace Go.Eng
noncomputable section
open Go Go.Proofs
def Pm:List (Nat×TI):=[(3,⟨false,1, .one (.int .i64 0), .int .i64⟩),(9,⟨false,1, .one (.str []), .str⟩),(24,⟨true,4, .agg [.int .i64 0, .int .i64 0, .int .i64 0, .clip .aB []], .struct [(0,3),(1,3),(2,3),(3,22)]⟩),(34,⟨true,3, .agg [.int .i64 0, .str [], .int .i64 0], .struct [(0,3),(1,9),(2,3)]⟩),(37,⟨false,1, .one (.clip .entry []), .slice .entry 90⟩),(39,⟨true,6, .agg [.int .i64 0, .int .i64 0, .int .i64 0, .str [], .int .i64 0, .clip .entry []], .struct [(0,3),(1,3),(2,3),(3,9),(4,3),(5,37)]⟩)]
def Mx:List (Nat×List EK):= []
theorem Ta:Tryz.prog.follows .mixedOrders=true:=by kernel_rfl
theorem R1:(Pm.all fun x=>tiB Tryz.prog x.1 x.2)=true:=by kernel_rfl
theorem Xh:(Mx.all fun x=>eqB Tryz.prog x.1 x.2)=true:=by kernel_rfl
def TO:List HV:=[.agg hFs, .agg [.int .i64, .str, .int .i64]]
def QS:List HV:=[.agg hFs]
def aho:HP.V TO→Fs×ax:=fun v=>((cFs v.1),(⟨v.2.1.1,v.2.1.2.1,v.2.1.2.2.1⟩:ax))
def aiR:HX.V QS→Fs:=fun v=>((cFs v))
def ae7:Fs→HX.V QS:=fun y=>((y.aq,(y.au,(y.next,(y.aa,())))))
def Z8:(Fs×ax)→Option (Fs):=fun x=>lK x.1 x.2
def Pj:Spec:=aU TO QS aho ae7 Z8
def aeQ:Cfg:={T:=Pm,spec:=[(38,mH),(54,yk),(87,Rj),(88,S9)],aX:=aG.G Tryz.prog,eqs:=Mx,N:=46,fuel:=64,fid:=39}
theorem aiF:aH Tryz.prog aeQ:=aZ R1 Xh ⟨nD,⟨zC,⟨abc,⟨adj,trivial⟩⟩⟩⟩
theorem TC:aT Tryz.prog 39 Pj:=bV Tryz.f39 aiF Ta (toY:=aiR)
def Vw:List HV:=[.agg hFs, .agg [.int .i64, .str, .int .i64], .one (.int .i64)]
def N5:List HV:=[.agg hFs]
def aoo:HP.V Vw→Fs×ax×Int:=fun v=>((cFs v.1),(⟨v.2.1.1,v.2.1.2.1,v.2.1.2.2.1⟩:ax),v.2.2.1)
def am3:HX.V N5→Fs:=fun v=>((cFs v))
def aeG:Fs→HX.V N5:=fun y=>((y.aq,(y.au,(y.next,(y.aa,())))))
def abg:(Fs×ax×Int)→Option (Fs):=fun x=>bO x.1 x.2.1 x.2.2
def Fi:Spec:=aU Vw N5 aoo aeG abg
def alh:Cfg:={T:=Pm,spec:=[(38,mH),(54,yk),(101,RM)],aX:=aG.G Tryz.prog,eqs:=Mx,N:=41,fuel:=64,fid:=55}
theorem alk:aH Tryz.prog alh:=aZ R1 Xh ⟨nD,⟨zC,⟨ahd,trivial⟩⟩⟩
theorem GL:aT Tryz.prog 55 Fi:=bV Tryz.f55 alk Ta (toY:=am3)
end
end Go.Eng
set_option linter.unusedVariables false
set_option maxRecDepth 100000
namespace Go.Eng
noncomputable section
open Go Go.Proofs
def Ln:List (Nat×TI):=[(3,⟨false,1, .one (.int .i64 0), .int .i64⟩),(9,⟨false,1, .one (.str []), .str⟩),(22,⟨false,1, .one (.clip .aB []), .slice .aB 39⟩),(24,⟨true,4, .agg [.int .i64 0, .int .i64 0, .int .i64 0, .clip .aB []], .struct [(0,3),(1,3),(2,3),(3,22)]⟩),(39,⟨true,6, .agg [.int .i64 0, .int .i64 0, .int .i64 0, .str [], .int .i64 0, .clip .entry []], .struct [(0,3),(1,3),(2,3),(3,9),(4,3),(5,37)]⟩)]
def Lg:List (Nat×List EK):= []
theorem PR:Tryz.prog.follows .mixedOrders=true:=by kernel_rfl
theorem Qm:(Ln.all fun x=>tiB Tryz.prog x.1 x.2)=true:=by kernel_rfl
theorem Qe:(Lg.all fun x=>eqB Tryz.prog x.1 x.2)=true:=by kernel_rfl
def Jk:Code:=bd Tryz.f99
def VH:List HV:=[.agg hFs]
def MQ:List HV:=[.one (.int .i64)]
def Yv:HP.V VH→Fs:=fun v=>((cFs v.1))
def ajZ:HX.V MQ→Int:=fun v=>(v)
def anW:Int→HX.V MQ:=fun y=>(y)
def ahK:Fs→Option (Int):=fun x=>n3 x
def TU:Spec:=aU VH MQ Yv anW ahK
def ajw:Cfg:={T:=Ln,aX:=aG.G Tryz.prog,eqs:=Lg,N:=6,fuel:=64,fid:=98}
theorem anP:aH Tryz.prog ajw:=aZ Qm Qe trivial
theorem adv:aT Tryz.prog 98 TU:=bV Tryz.f98 anP PR (toY:=ajZ)
def CM:HS:=⟨[(1, .one (.ptr 0 0)),(3, .one (.int .i64)),(7, .one (.int .i64)),(8, .one (.int .i64))],[(0, .cells hFs)],1⟩
def H8 {R:Type}:Nat→HS.V CM→(Ex→St→Option R)→Option R:=fun q v K=>
 fg v.1.2.2.1 (cFs v.2.1) (fun y7=>K (.exit 0) {aA:=[(3, .v (.one (.int .i64 y7)))],mem:= [],nx:=0}) q v.1.2.1 v.1.2.2.2.1
def WT:List HV:=[.agg hFs]
def Qt:List HV:=[.one (.int .i64)]
def aeH:HP.V WT→Fs:=fun v=>((cFs v.1))
def akq:HX.V Qt→Int:=fun v=>(v)
def aok:Int→HX.V Qt:=fun y=>(y)
def aj6:Fs→Option (Int):=fun x=>np x
def SN:Spec:=aU WT Qt aeH aok aj6
def TQ {R:Type}:List (Nat×Hd R):=[(3,bC CM H8)]
def MY {R:Type}:List (Nat×Inl R):= []
def Pu:Cfg:={T:=Ln,aX:=aG.G Tryz.prog,eqs:=Lg,N:=29,fuel:=64,loops:=[(3,⟨[1,3,7,8], [],[0],1, [], [], [], []⟩)],blocks:=[(0,⟨[3], [], [],0, [], [], [], []⟩)],fid:=99}
theorem aoz:aH Tryz.prog Pu:=aZ Qm Qe trivial
theorem ab3 {R:Type}:aP Tryz.prog (R:=R) 0 MY:=aC _ _
theorem aob {R:Type}:bA (R:=R) (hnd 0 MY) Pu TQ (sub [1,1,0,1,0,0] Jk) (HS.V CM) (HS.st CM) (HS.sh CM) H8 (bC CM H8):=aN CM H8 (fun _ _=>rfl) (by intro q v K;kernel_rfl)
theorem Zh {R:Type}:aL (R:=R) (hnd 0 MY) Pu TQ Jk:=aD (l:=[sub [1,1,0,1,0,0] Jk]) (by kernel_rfl) (aK (b:=sub [1,1,0,1,0,0] Jk) (rid:=3) (by kernel_rfl) (by kernel_rfl) aob (trivial))
theorem acO:aT Tryz.prog 99 SN:=bl Tryz.f99 aoz PR (d:=0) ab3 Zh (bw (by kernel_rfl)) (toY:=akq)
def Rm:List HV:=[.agg hFs, .one (.int .i64), .one (.int .i64)]
def M4:List HV:=[.one (.bool)]
def adN:HP.V Rm→Fs×Int×Int:=fun v=>((cFs v.1),v.2.1,v.2.2.1)
def abY:HX.V M4→Bool:=fun v=>(v)
def agR:Bool→HX.V M4:=fun y=>(y)
def akL:(Fs×Int×Int)→Option (Bool):=fun x=>fx x.1 x.2.1 x.2.2
def Aj:Spec:=aU Rm M4 adN agR akL
def ajM:Cfg:={T:=Ln,spec:=[(98,TU),(99,SN)],aX:=aG.G Tryz.prog,eqs:=Lg,N:=23,fuel:=64,fid:=51}
theorem alz:aH Tryz.prog ajM:=aZ Qm Qe ⟨adv,⟨acO,trivial⟩⟩
theorem A2:aT Tryz.prog 51 Aj:=bV Tryz.f51 alz PR (toY:=abY)
end
end Go.Eng
set_option linter.unusedVariables false
set_option maxRecDepth 100000
namespace Go.Eng
noncomputable section
open Go Go.Proofs
def O8:List (Nat×TI):=[(22,⟨false,1, .one (.clip .aB []), .slice .aB 39⟩),(25,⟨false,1, .one (.clip .kept []), .slice .kept 60⟩),(39,⟨true,6, .agg [.int .i64 0, .int .i64 0, .int .i64 0, .str [], .int .i64 0, .clip .entry []], .struct [(0,3),(1,3),(2,3),(3,9),(4,3),(5,37)]⟩),(60,⟨true,4, .agg [.int .i64 0, .int .i64 0, .bool false, .str []], .struct [(0,3),(1,3),(2,4),(3,9)]⟩)]
def OE:List (Nat×List EK):= []
theorem Vn:Tryz.prog.follows .mixedOrders=true:=by kernel_rfl
theorem TH:(O8.all fun x=>tiB Tryz.prog x.1 x.2)=true:=by kernel_rfl
theorem WM:(OE.all fun x=>eqB Tryz.prog x.1 x.2)=true:=by kernel_rfl
def Pa:Code:=bd Tryz.f43
def Pe:Code:=bd Tryz.f95
def Oo:List HV:=[.one (.sl .aB)]
def Un:HP.V Oo→(List ae):=fun v=>(v.1)
def V9:(List ae)→Option ((List ae)):=fun x=>bP x
def Se {R:Type}:List (Nat×Hd R):= []
def NJ {R:Type}:List (Nat×Inl R):= []
def LA:Cfg:={T:=O8,aX:=aG.G Tryz.prog,eqs:=OE,N:=8,fuel:=64,fid:=43}
theorem Z7:aH Tryz.prog LA:=aZ TH WM trivial
theorem aeJ {R:Type}:aP Tryz.prog (R:=R) 0 NJ:=aC _ _
theorem Y0 {R:Type}:aL (R:=R) (hnd 0 NJ) LA Se Pa:=aD (l:= []) (by kernel_rfl) (trivial)
theorem ak8:fY Tryz.prog LA Pa:=bw (by kernel_rfl)
def IS:kg:=nr Oo Un (AB.row .aB) V9
theorem akN:∀v,zo (hnd 0 NJ) LA Se Pa Tryz.f43.results.toList (HP.st Oo v) (ye .aB)=V9 (Un v):=by intro v;kernel_rfl
theorem Mo:mX Tryz.prog 43 IS:=uB (fn:=Tryz.f43) (by kernel_rfl) (by kernel_rfl) (by kernel_rfl) Z7 (by kernel_rfl) (by kernel_rfl) Vn (by kernel_rfl) wT (d:=0) aeJ Y0 ak8 akN
def OS:List HV:=[.one (.sl .kept)]
def WB:HP.V OS→(List Kept):=fun v=>(v.1)
def Rw:(List Kept)→Option ((List Kept)):=fun x=>dM x
def Uj {R:Type}:List (Nat×Hd R):= []
def Mq {R:Type}:List (Nat×Inl R):= []
def I8:Cfg:={T:=O8,aX:=aG.G Tryz.prog,eqs:=OE,N:=8,fuel:=64,fid:=95}
theorem abU:aH Tryz.prog I8:=aZ TH WM trivial
theorem aft {R:Type}:aP Tryz.prog (R:=R) 0 Mq:=aC _ _
theorem amw {R:Type}:aL (R:=R) (hnd 0 Mq) I8 Uj Pe:=aD (l:= []) (by kernel_rfl) (trivial)
theorem ami:fY Tryz.prog I8 Pe:=bw (by kernel_rfl)
def JD:kg:=nr OS WB (AB.row .kept) Rw
theorem aiZ:∀v,zo (hnd 0 Mq) I8 Uj Pe Tryz.f95.results.toList (HP.st OS v) (ye .kept)=Rw (WB v):=by intro v;kernel_rfl
theorem OQ:mX Tryz.prog 95 JD:=uB (fn:=Tryz.f95) (by kernel_rfl) (by kernel_rfl) (by kernel_rfl) abU (by kernel_rfl) (by kernel_rfl) Vn (by kernel_rfl) wT (d:=0) aft amw ami aiZ
end
end Go.Eng
set_option linter.unusedVariables false
set_option maxRecDepth 100000
namespace Go.Eng
noncomputable section
open Go Go.Proofs
def qV:List (Nat×TI):=[(3,⟨false,1, .one (.int .i64 0), .int .i64⟩),(4,⟨false,1, .one (.bool false), .bool⟩),(9,⟨false,1, .one (.str []), .str⟩),(22,⟨false,1, .one (.clip .aB []), .slice .aB 39⟩),(24,⟨true,4, .agg [.int .i64 0, .int .i64 0, .int .i64 0, .clip .aB []], .struct [(0,3),(1,3),(2,3),(3,22)]⟩),(37,⟨false,1, .one (.clip .entry []), .slice .entry 90⟩),(39,⟨true,6, .agg [.int .i64 0, .int .i64 0, .int .i64 0, .str [], .int .i64 0, .clip .entry []], .struct [(0,3),(1,3),(2,3),(3,9),(4,3),(5,37)]⟩),(63,⟨false,1, .one (.k6), .other⟩),(90,⟨true,2, .agg [.str [], .int .i64 0], .struct [(0,9),(1,3)]⟩),(118,⟨false,1, .one (.clip .int []), .slice .int 3⟩),(138,⟨true,2, .agg [.int .i64 0, .k6], .struct [(0,3),(1,63)]⟩),(139,⟨false,1, .one (.clip .r8 []), .slice .r8 138⟩),(150,⟨false,1, .one (.lC), .map .int .aB 3 39⟩),(152,⟨false,1, .one (.lC), .map .int .int 3 3⟩),(153,⟨false,1, .one (.lC), .map .int .bool 3 4⟩)]
def qv:List (Nat×List EK):= []
theorem Ax:Tryz.prog.follows .mixedOrders=true:=by kernel_rfl
theorem rP:(qV.all fun x=>tiB Tryz.prog x.1 x.2)=true:=by kernel_rfl
theorem rS:(qv.all fun x=>eqB Tryz.prog x.1 x.2)=true:=by kernel_rfl
def Mu:Code:=bd Tryz.f110
def WU:Code:=bd Tryz.f120
def Kk:Code:=bd Tryz.f134
def H3:Code:=bd Tryz.f135
def BT:Code:=bd Tryz.f136
def vS:Code:=bd Tryz.f137
def E5:Code:=bd Tryz.f138
def UX:Code:=bd Tryz.f140
def wu:Code:=bd Tryz.f153
def JP:Code:=bd Tryz.f154
def CY:HS:=⟨[(1, .one (.ptr 0 0)),(3, .one (.int .i64)),(30, .one (.sl .aB)),(31, .one (.int .i64)),(32, .one (.int .i64))],[(0, .cells hFs)],1⟩
def KN {R:Type}:Nat→HS.V CY→(Ex→St→Option R)→Option R:=fun q v K=>
 jn v.1.2.2.1 v.1.2.2.2.1 (cFs v.2.1) (K .ret {aA:=[(2, .v (.one (.bool false)))],mem:= [],nx:=0}) (K (.exit 0) {aA:=[(1, .v (.one (.ptr 0 0)))],mem:=[(0, .cells (rFs (cFs v.2.1)))],nx:=1}) q v.1.2.1 v.1.2.2.2.2.1
def Ri:List HV:=[.agg hFs]
def No:List HV:=[.one (.bool)]
def aja:HP.V Ri→Fs:=fun v=>((cFs v.1))
def aaa:HX.V No→Bool:=fun v=>(v)
def YT:Bool→HX.V No:=fun y=>(y)
def amj:Fs→Option (Bool):=fun x=>jO x
def Ww:Spec:=aU Ri No aja YT amj
def Tj {R:Type}:List (Nat×Hd R):=[(5,bC CY KN)]
def N2 {R:Type}:List (Nat×Inl R):= []
def MG:Cfg:={T:=qV,aX:=aG.G Tryz.prog,eqs:=qv,N:=70,fuel:=64,loops:=[(5,⟨[1,3,30,31,32], [],[0],1, [], [], [], []⟩)],blocks:=[(0,⟨[1], [],[0],1, [], [], [], []⟩)],eV:=some ⟨[2], [], [],0, [], [], [], []⟩,fid:=134}
theorem Yn:aH Tryz.prog MG:=aZ rP rS trivial
theorem ZF {R:Type}:aP Tryz.prog (R:=R) 0 N2:=aC _ _
theorem ahD {R:Type}:bA (R:=R) (hnd 0 N2) MG Tj (sub [1,1,1,0,1,0,0] Kk) (HS.V CY) (HS.st CY) (HS.sh CY) KN (bC CY KN):=aN CY KN (fun _ _=>rfl) (by intro q v K;kernel_rfl)
theorem agF {R:Type}:aL (R:=R) (hnd 0 N2) MG Tj Kk:=aD (l:=[sub [1,1,1,0,1,0,0] Kk]) (by kernel_rfl) (aK (b:=sub [1,1,1,0,1,0,0] Kk) (rid:=5) (by kernel_rfl) (by kernel_rfl) ahD (trivial))
theorem af6:aT Tryz.prog 134 Ww:=bl Tryz.f134 Yn Ax (d:=0) ZF agF (bw (by kernel_rfl)) (toY:=aaa)
def BD:HS:=⟨[(7, .one (.sl .aB)),(8, .one (.int .i64)),(9, .one (.int .i64))], [],0⟩
def Kd {R:Type}:Nat→HS.V BD→(Ex→St→Option R)→Option R:=fun q v K=>
 bL v.1.1 v.1.2.1 (K .ret {aA:=[(2, .v (.one (.bool false)))],mem:= [],nx:=0}) (K (.exit 0) {aA:= [],mem:= [],nx:=0}) q v.1.2.2.1
def So:List HV:=[.agg hFs]
def Qw:List HV:=[.one (.bool)]
def Zb:HP.V So→Fs:=fun v=>((cFs v.1))
def amN:HX.V Qw→Bool:=fun v=>(v)
def aol:Bool→HX.V Qw:=fun y=>(y)
def afg:Fs→Option (Bool):=fun x=>lR x
def Rv:Spec:=aU So Qw Zb aol afg
def V0 {R:Type}:List (Nat×Hd R):= []
def MB {R:Type}:List (Nat×Inl R):= []
def M8:Cfg:={T:=qV,spec:=[(152,Hb),(162,cG)],aX:=aG.G Tryz.prog,eqs:=qv,N:=143,fuel:=64,eV:=some ⟨[4,3000004,3000007,3000008,3000009,3000047], [],[0],1, [], [], [], []⟩,fid:=154}
theorem aot:aH Tryz.prog M8:=aZ rP rS ⟨Ji,⟨dD,trivial⟩⟩
theorem ae5 {R:Type}:aP Tryz.prog (R:=R) 0 MB:=aC _ _
theorem an2 {R:Type}:aL (R:=R) (hnd 0 MB) M8 V0 JP:=aD (l:=[sub [1,1,1,1,1,1,1,1,0,0,0] JP]) (by kernel_rfl) (gj (b:=sub [1,1,1,1,1,1,1,1,0,0,0] JP) (rid:=15) (by kernel_rfl) (by kernel_rfl) (trivial))
def adQ {R:Type}:Inl R:= .mk 154 M8 V0 JP Tryz.f154.results.toList MB
def WV {R:Type}:List (Nat×Hd R):= []
def P6 {R:Type}:List (Nat×Inl R):=[(7,adQ)]
def OP:Cfg:={T:=qV,spec:=[(152,Hb)],aX:=aG.G Tryz.prog,eqs:=qv,N:=8,fuel:=64,fid:=140}
theorem ag8:aH Tryz.prog OP:=aZ rP rS ⟨Ji,trivial⟩
theorem adA {R:Type}:aP Tryz.prog (R:=R) 1 P6:=bE Tryz.f154 aot an2 (bw (by kernel_rfl)) ae5 (aC _ _)
theorem aay {R:Type}:aL (R:=R) (hnd 1 P6) OP WV UX:=aD (l:= []) (by kernel_rfl) (trivial)
def ZC {R:Type}:Inl R:= .mk 140 OP WV UX Tryz.f140.results.toList P6
def WO {R:Type}:List (Nat×Hd R):= []
def MM {R:Type}:List (Nat×Inl R):=[(7,ZC)]
def QB:Cfg:={T:=qV,spec:=[(152,Hb)],aX:=aG.G Tryz.prog,eqs:=qv,N:=9,fuel:=64,fid:=120}
theorem anK:aH Tryz.prog QB:=aZ rP rS ⟨Ji,trivial⟩
theorem ao5 {R:Type}:aP Tryz.prog (R:=R) 2 MM:=bE Tryz.f140 ag8 aay (bw (by kernel_rfl)) adA (aC _ _)
theorem ae6 {R:Type}:aL (R:=R) (hnd 2 MM) QB WO WU:=aD (l:= []) (by kernel_rfl) (trivial)
def acx {R:Type}:Inl R:= .mk 120 QB WO WU Tryz.f120.results.toList MM
def Xk {R:Type}:List (Nat×Hd R):=[(2,bC BD Kd)]
def Od {R:Type}:List (Nat×Inl R):=[(50,acx)]
def OU:Cfg:={T:=qV,spec:=[(152,Hb)],aX:=aG.G Tryz.prog,eqs:=qv,N:=68,fuel:=64,loops:=[(2,⟨[7,8,9], [], [],0, [], [], [], []⟩)],blocks:=[(0,⟨[], [], [],0, [], [], [], []⟩)],eV:=some ⟨[2], [], [],0, [], [], [], []⟩,fid:=135}
theorem ajs:aH Tryz.prog OU:=aZ rP rS ⟨Ji,trivial⟩
theorem akd {R:Type}:aP Tryz.prog (R:=R) 3 Od:=bE Tryz.f120 anK ae6 (bw (by kernel_rfl)) ao5 (aC _ _)
theorem afi {R:Type}:bA (R:=R) (hnd 3 Od) OU Xk (sub [1,0,1,0,0] H3) (HS.V BD) (HS.st BD) (HS.sh BD) Kd (bC BD Kd):=aN BD Kd (fun _ _=>rfl) (by intro q v K;kernel_rfl)
theorem aeY {R:Type}:aL (R:=R) (hnd 3 Od) OU Xk H3:=aD (l:=[sub [1,0,1,0,0] H3]) (by kernel_rfl) (aK (b:=sub [1,0,1,0,0] H3) (rid:=2) (by kernel_rfl) (by kernel_rfl) afi (trivial))
theorem aka:aT Tryz.prog 135 Rv:=bl Tryz.f135 ajs Ax (d:=3) akd aeY (bw (by kernel_rfl)) (toY:=amN)
def Cv:HS:=⟨[(3, .one (.c_ 2)),(11, .one (.sl .aB)),(12, .one (.int .i64)),(13, .one (.int .i64)),(1000001, .one (.ptr 0 0))],[(0, .cells hFs),(2, .map true .int .aB)],3⟩
def Ka {R:Type}:Nat→HS.V Cv→(Ex→St→Option R)→Option R:=fun q v K=>
 iI v.1.2.1 v.1.2.2.1 (fun y9 y10=>K (.exit 0) {aA:=[(3, .v (.one (.c_ 2))),(1000001, .v (.one (.ptr 0 0)))],mem:=[(0, .cells (rFs (cFs v.2.1))),(2, .map true .int .aB y9 y10)],nx:=3}) q v.1.2.2.2.1 v.2.2.1.1 v.2.2.1.2
def CB:HS:=⟨[(3, .one (.c_ 2)),(13, .one (.sl .aB)),(14, .one (.int .i64)),(15, .one (.int .i64)),(20, .one (.sl .entry)),(21, .one (.int .i64)),(22, .one (.int .i64))],[(2, .map true .int .aB)],3⟩
def H6 {R:Type}:Nat→HS.V CB→(Ex→St→Option R)→Option R:=fun q v K=>
 iT v.1.2.2.2.2.1 v.1.2.2.2.2.2.1 v.2.1.1 (K .ret {aA:=[(2, .v (.one (.bool false)))],mem:= [],nx:=0}) (K (.exit 2) {aA:=[(3, .v (.one (.c_ 2))),(13, .v (.one (.sl .aB v.1.2.1))),(14, .v (.one (.int .i64 v.1.2.2.1))),(15, .v (.one (.int .i64 v.1.2.2.2.1)))],mem:=[(2, .map true .int .aB v.2.1.1 v.2.1.2)],nx:=3}) q v.1.2.2.2.2.2.2.1
def B9:HS:=⟨[(3, .one (.c_ 2)),(13, .one (.sl .aB)),(14, .one (.int .i64)),(15, .one (.int .i64))],[(2, .map true .int .aB)],3⟩
def JV {R:Type}:Nat→HS.V B9→(Ex→St→Option R)→Option R:=fun q v K=>
 kW v.1.2.1 v.1.2.2.1 v.2.1.1 (K .ret {aA:=[(2, .v (.one (.bool false)))],mem:= [],nx:=0}) (K (.exit 0) {aA:= [],mem:= [],nx:=0}) q v.1.2.2.2.1
def Sq:List HV:=[.agg hFs]
def Pz:List HV:=[.one (.bool)]
def Yj:HP.V Sq→Fs:=fun v=>((cFs v.1))
def acB:HX.V Pz→Bool:=fun v=>(v)
def Y7:Bool→HX.V Pz:=fun y=>(y)
def aoZ:Fs→Option (Bool):=fun x=>lG x
def Xc:Spec:=aU Sq Pz Yj Y7 aoZ
def QJ {R:Type}:List (Nat×Hd R):=[(3,bC Cv Ka)]
def Jb {R:Type}:List (Nat×Inl R):= []
def Iq:Cfg:={T:=qV,aX:=aG.G Tryz.prog,eqs:=qv,N:=23,fuel:=64,loops:=[(3,⟨[3,11,12,13,1000001], [],[0,2],3, [], [], [], []⟩)],blocks:=[(0,⟨[3,1000001], [],[0,2],3, [], [], [], []⟩)],fid:=153}
theorem Yy:aH Tryz.prog Iq:=aZ rP rS trivial
theorem Y2 {R:Type}:aP Tryz.prog (R:=R) 0 Jb:=aC _ _
theorem agu {R:Type}:bA (R:=R) (hnd 0 Jb) Iq QJ (sub [1,1,0,1,0,0] wu) (HS.V Cv) (HS.st Cv) (HS.sh Cv) Ka (bC Cv Ka):=aN Cv Ka (fun _ _=>rfl) (by intro q v K;kernel_rfl)
theorem aiI {R:Type}:aL (R:=R) (hnd 0 Jb) Iq QJ wu:=aD (l:=[sub [1,1,0,1,0,0] wu]) (by kernel_rfl) (aK (b:=sub [1,1,0,1,0,0] wu) (rid:=3) (by kernel_rfl) (by kernel_rfl) agu (trivial))
def alM {R:Type}:Inl R:= .mk 153 Iq QJ wu Tryz.f153.results.toList Jb
def Ms {R:Type}:List (Nat×Hd R):=[(3,bC B9 JV),(6,bC CB H6)]
def Ly {R:Type}:List (Nat×Inl R):=[(11,alM)]
def Km:Cfg:={T:=qV,aX:=aG.G Tryz.prog,eqs:=qv,N:=37,fuel:=64,loops:=[(6,⟨[3,13,14,15,20,21,22], [],[2],3, [], [], [], []⟩),(3,⟨[3,13,14,15], [],[2],3, [], [], [], []⟩)],blocks:=[(0,⟨[], [], [],0, [], [], [], []⟩),(1,⟨[3,13,14,15], [],[2],3, [], [], [], []⟩),(2,⟨[3,13,14,15], [],[2],3, [], [], [], []⟩)],eV:=some ⟨[2], [], [],0, [], [], [], []⟩,fid:=136}
theorem aoV:aH Tryz.prog Km:=aZ rP rS trivial
theorem aaB {R:Type}:aP Tryz.prog (R:=R) 1 Ly:=bE Tryz.f153 Yy aiI (bw (by kernel_rfl)) Y2 (aC _ _)
theorem ahi {R:Type}:bA (R:=R) (hnd 1 Ly) Km Ms (sub [1,1,0,1,0,0] BT) (HS.V B9) (HS.st B9) (HS.sh B9) JV (bC B9 JV):=aN B9 JV (fun _ _=>rfl) (by intro q v K;kernel_rfl)
theorem anw {R:Type}:bA (R:=R) (hnd 1 Ly) Km Ms (sub [1,1,0,1,0,0,1,1,0,0,1,1,0,0] BT) (HS.V CB) (HS.st CB) (HS.sh CB) H6 (bC CB H6):=aN CB H6 (fun _ _=>rfl) (by intro q v K;kernel_rfl)
theorem ai5 {R:Type}:aL (R:=R) (hnd 1 Ly) Km Ms BT:=aD (l:=[sub [1,1,0,1,0,0] BT,sub [1,1,0,1,0,0,1,1,0,0,1,1,0,0] BT]) (by kernel_rfl) (aK (b:=sub [1,1,0,1,0,0] BT) (rid:=3) (by kernel_rfl) (by kernel_rfl) ahi (aK (b:=sub [1,1,0,1,0,0,1,1,0,0,1,1,0,0] BT) (rid:=6) (by kernel_rfl) (by kernel_rfl) anw (trivial)))
theorem alK:aT Tryz.prog 136 Xc:=bl Tryz.f136 aoV Ax (d:=1) aaB ai5 (bw (by kernel_rfl)) (toY:=acB)
def Bu:HS:=⟨[(1, .one (.ptr 0 0)),(3, .one (.c_ 1)),(4, .one (.c_ 2)),(6, .one (.ptr 3 0)),(14, .one (.sl .aB)),(15, .one (.int .i64)),(16, .one (.int .i64)),(21, .one (.sl .entry)),(22, .one (.int .i64)),(23, .one (.int .i64))],[(0, .cells hFs),(1, .map false .int .int),(2, .map false .int .int),(3, .cells hIn)],4⟩
def Ki {R:Type}:Nat→HS.V Bu→(Ex→St→Option R)→Option R:=fun q v K=>
 gv v.1.2.2.2.2.2.2.2.1 v.1.2.2.2.2.2.2.2.2.1 (cIn v.2.2.2.2.1) (fun y29 y30 y31 y32=>K (.exit 2) {aA:=[(1, .v (.one (.ptr 0 0))),(3, .v (.one (.c_ 1))),(4, .v (.one (.c_ 2))),(14, .v (.one (.sl .aB v.1.2.2.2.2.1))),(15, .v (.one (.int .i64 v.1.2.2.2.2.2.1))),(16, .v (.one (.int .i64 v.1.2.2.2.2.2.2.1)))],mem:=[(0, .cells (rFs (cFs v.2.1))),(1, .map false .int .int y29 y30),(2, .map false .int .int y31 y32)],nx:=3}) q v.1.2.2.2.2.2.2.2.2.2.1 v.2.2.1.1 v.2.2.1.2 v.2.2.2.1.1 v.2.2.2.1.2
def BV:HS:=⟨[(1, .one (.ptr 0 0)),(3, .one (.c_ 1)),(4, .one (.c_ 2)),(14, .one (.sl .aB)),(15, .one (.int .i64)),(16, .one (.int .i64))],[(0, .cells hFs),(1, .map false .int .int),(2, .map false .int .int)],3⟩
def Ko {R:Type}:Nat→HS.V BV→(Ex→St→Option R)→Option R:=fun q v K=>
 kP v.1.2.2.2.1 v.1.2.2.2.2.1 (fun y38 y39 y40 y41=>K (.exit 0) {aA:=[(1, .v (.one (.ptr 0 0))),(3, .v (.one (.c_ 1))),(4, .v (.one (.c_ 2)))],mem:=[(0, .cells (rFs (cFs v.2.1))),(1, .map false .int .int y38 y39),(2, .map false .int .int y40 y41)],nx:=3}) q v.1.2.2.2.2.2.1 v.2.2.1.1 v.2.2.1.2 v.2.2.2.1.1 v.2.2.2.1.2
def A7:HS:=⟨[(3, .one (.c_ 1)),(4, .one (.c_ 2)),(40, .one (.sl .aB)),(41, .one (.int .i64)),(42, .one (.int .i64))],[(1, .map false .int .int),(2, .map false .int .int)],3⟩
def Kb {R:Type}:Nat→HS.V A7→(Ex→St→Option R)→Option R:=fun q v K=>
 cL v.1.2.2.1 v.1.2.2.2.1 v.2.1.1 v.2.2.1.1 (K .ret {aA:=[(2, .v (.one (.bool false)))],mem:= [],nx:=0}) (K (.exit 4) {aA:= [],mem:= [],nx:=0}) q v.1.2.2.2.2.1
def To:List HV:=[.agg hFs]
def Q_:List HV:=[.one (.bool)]
def acr:HP.V To→Fs:=fun v=>((cFs v.1))
def ahO:HX.V Q_→Bool:=fun v=>(v)
def adB:Bool→HX.V Q_:=fun y=>(y)
def aiE:Fs→Option (Bool):=fun x=>lO x
def S_:Spec:=aU To Q_ acr adB aiE
def IZ {R:Type}:List (Nat×Hd R):=[(3,bC BV Ko),(6,bC Bu Ki),(13,bC A7 Kb)]
def Hf {R:Type}:List (Nat×Inl R):= []
def Gu:Cfg:={T:=qV,aX:=aG.G Tryz.prog,eqs:=qv,N:=97,fuel:=64,loops:=[(13,⟨[3,4,40,41,42], [],[1,2],3, [], [], [], []⟩),(6,⟨[1,3,4,6,14,15,16,21,22,23], [],[0,1,2,3],4, [], [], [], []⟩),(3,⟨[1,3,4,14,15,16], [],[0,1,2],3, [], [], [], []⟩)],blocks:=[(4,⟨[], [], [],0, [], [], [], []⟩),(0,⟨[1,3,4], [],[0,1,2],3, [], [], [], []⟩),(1,⟨[1,3,4,14,15,16], [],[0,1,2],3, [], [], [], []⟩),(2,⟨[1,3,4,14,15,16], [],[0,1,2],3, [], [], [], []⟩)],eV:=some ⟨[2], [], [],0, [], [], [], []⟩,fid:=137}
theorem aht:aH Tryz.prog Gu:=aZ rP rS trivial
theorem akG {R:Type}:aP Tryz.prog (R:=R) 0 Hf:=aC _ _
theorem YE {R:Type}:bA (R:=R) (hnd 0 Hf) Gu IZ (sub [1,1,0,1,0,0] vS) (HS.V BV) (HS.st BV) (HS.sh BV) Ko (bC BV Ko):=aN BV Ko (fun _ _=>rfl) (by intro q v K;kernel_rfl)
theorem abG {R:Type}:bA (R:=R) (hnd 0 Hf) Gu IZ (sub [1,1,0,1,0,0,1,1,0,0,1,1,0,0] vS) (HS.V Bu) (HS.st Bu) (HS.sh Bu) Ki (bC Bu Ki):=aN Bu Ki (fun _ _=>rfl) (by intro q v K;kernel_rfl)
theorem alp {R:Type}:bA (R:=R) (hnd 0 Hf) Gu IZ (sub [1,1,1,0,1,0,0] vS) (HS.V A7) (HS.st A7) (HS.sh A7) Kb (bC A7 Kb):=aN A7 Kb (fun _ _=>rfl) (by intro q v K;kernel_rfl)
theorem ak1 {R:Type}:aL (R:=R) (hnd 0 Hf) Gu IZ vS:=aD (l:=[sub [1,1,0,1,0,0] vS,sub [1,1,0,1,0,0,1,1,0,0,1,1,0,0] vS,sub [1,1,1,0,1,0,0] vS]) (by kernel_rfl) (aK (b:=sub [1,1,0,1,0,0] vS) (rid:=3) (by kernel_rfl) (by kernel_rfl) YE (aK (b:=sub [1,1,0,1,0,0,1,1,0,0,1,1,0,0] vS) (rid:=6) (by kernel_rfl) (by kernel_rfl) abG (aK (b:=sub [1,1,1,0,1,0,0] vS) (rid:=13) (by kernel_rfl) (by kernel_rfl) alp (trivial))))
theorem agB:aT Tryz.prog 137 S_:=bl Tryz.f137 aht Ax (d:=0) akG ak1 (bw (by kernel_rfl)) (toY:=ahO)
def Cw:HS:=⟨[(3, .one (.c_ 2)),(11, .one (.sl .aB)),(12, .one (.int .i64)),(13, .one (.int .i64)),(1000001, .one (.ptr 0 0))],[(0, .cells hFs),(2, .map true .int .aB)],3⟩
def HU {R:Type}:Nat→HS.V Cw→(Ex→St→Option R)→Option R:=fun q v K=>
 ll v.1.2.1 v.1.2.2.1 (fun y9 y10=>K (.exit 0) {aA:=[(3, .v (.one (.c_ 2))),(1000001, .v (.one (.ptr 0 0)))],mem:=[(0, .cells (rFs (cFs v.2.1))),(2, .map true .int .aB y9 y10)],nx:=3}) q v.1.2.2.2.1 v.2.2.1.1 v.2.2.1.2
def Cz:HS:=⟨[(1, .one (.ptr 0 0)),(3, .one (.c_ 2)),(4, .one (.c_ 3)),(5, .one (.own 4)),(23, .one (.sl .entry)),(24, .one (.int .i64)),(25, .one (.int .i64))],[(0, .cells hFs),(2, .map true .int .aB),(3, .map false .int .bool),(4, .row .int)],5⟩
def H2 {R:Type}:Nat→HS.V Cz→(Ex→St→Option R)→Option R:=fun q v K=>
 gV v.1.2.2.2.2.1 v.1.2.2.2.2.2.1 (fun y31 y32 y33=>K (.exit 2) {aA:=[(1, .v (.one (.ptr 0 0))),(3, .v (.one (.c_ 2))),(4, .v (.one (.c_ 3))),(5, .v (.one (.own 4)))],mem:=[(0, .cells (rFs (cFs v.2.1))),(2, .map true .int .aB v.2.2.1.1 v.2.2.1.2),(3, .map false .int .bool y31 y32),(4, .row .int y33)],nx:=5}) q v.1.2.2.2.2.2.2.1 v.2.2.2.1.1 v.2.2.2.1.2 v.2.2.2.2.1
def Vr:List HV:=[.agg hFs]
def M6:List HV:=[.one (.bool)]
def ala:HP.V Vr→Fs:=fun v=>((cFs v.1))
def agV:HX.V M6→Bool:=fun v=>(v)
def aeZ:Bool→HX.V M6:=fun y=>(y)
def agv:Fs→Option (Bool):=fun x=>oV x
def Vo:Spec:=aU Vr M6 ala aeZ agv
def Ns {R:Type}:List (Nat×Hd R):=[(3,bC Cw HU)]
def IN {R:Type}:List (Nat×Inl R):= []
def J5:Cfg:={T:=qV,aX:=aG.G Tryz.prog,eqs:=qv,N:=23,fuel:=64,loops:=[(3,⟨[3,11,12,13,1000001], [],[0,2],3, [], [], [], []⟩)],blocks:=[(0,⟨[3,1000001], [],[0,2],3, [], [], [], []⟩)],fid:=153}
theorem Zo:aH Tryz.prog J5:=aZ rP rS trivial
theorem XL {R:Type}:aP Tryz.prog (R:=R) 0 IN:=aC _ _
theorem abt {R:Type}:bA (R:=R) (hnd 0 IN) J5 Ns (sub [1,1,0,1,0,0] wu) (HS.V Cw) (HS.st Cw) (HS.sh Cw) HU (bC Cw HU):=aN Cw HU (fun _ _=>rfl) (by intro q v K;kernel_rfl)
theorem aeS {R:Type}:aL (R:=R) (hnd 0 IN) J5 Ns wu:=aD (l:=[sub [1,1,0,1,0,0] wu]) (by kernel_rfl) (aK (b:=sub [1,1,0,1,0,0] wu) (rid:=3) (by kernel_rfl) (by kernel_rfl) abt (trivial))
def ady {R:Type}:Inl R:= .mk 153 J5 Ns wu Tryz.f153.results.toList IN
def W3 {R:Type}:List (Nat×Hd R):=[(7,bC Cz H2)]
def QO {R:Type}:List (Nat×Inl R):=[(9,ady)]
def Pp:Cfg:={T:=qV,aX:=aG.G Tryz.prog,eqs:=qv,N:=49,fuel:=64,loops:=[(7,⟨[1,3,4,5,23,24,25], [],[0,2,3,4],5,[23], [], [], []⟩),(4,⟨[1,3,4,5], [],[0,2,3,4],5, [], [], [], []⟩)],blocks:=[(0,⟨[1,4], [],[0,3],4, [], [], [], []⟩),(1,⟨[1,3,4,5], [],[0,2,3,4],5, [], [], [], []⟩),(2,⟨[1,3,4,5], [],[0,2,3,4],5, [], [], [], []⟩)],fid:=138}
theorem aag:aH Tryz.prog Pp:=aZ rP rS trivial
theorem ajI {R:Type}:aP Tryz.prog (R:=R) 1 QO:=bE Tryz.f153 Zo aeS (bw (by kernel_rfl)) XL (aC _ _)
theorem afv {R:Type}:bA (R:=R) (hnd 1 QO) Pp W3 (sub [1,1,1,0,1,0,0,1,0,0,1,0,0] E5) (HS.V Cz) (HS.st Cz) (HS.sh Cz) H2 (bC Cz H2):=aN Cz H2 (fun _ _=>rfl) (by intro q v K;kernel_rfl)
theorem amO {R:Type}:aL (R:=R) (hnd 1 QO) Pp W3 E5:=aD (l:=[sub [1,1,1,0,1,0,0] E5,sub [1,1,1,0,1,0,0,1,0,0,1,0,0] E5]) (by kernel_rfl) (gj (b:=sub [1,1,1,0,1,0,0] E5) (rid:=4) (by kernel_rfl) (by kernel_rfl) (aK (b:=sub [1,1,1,0,1,0,0,1,0,0,1,0,0] E5) (rid:=7) (by kernel_rfl) (by kernel_rfl) afv (trivial)))
theorem abV:aT Tryz.prog 138 Vo:=bl Tryz.f138 aag Ax (d:=1) ajI amO (bw (by kernel_rfl)) (toY:=agV)
def Rs:List HV:=[.agg hFs]
def NP:List HV:=[.one (.bool)]
def abF:HP.V Rs→Fs:=fun v=>((cFs v.1))
def afj:HX.V NP→Bool:=fun v=>(v)
def YN:Bool→HX.V NP:=fun y=>(y)
def adX:Fs→Option (Bool):=fun x=>p6 x
def TM:Spec:=aU Rs NP abF YN adX
def agf:Cfg:={T:=qV,spec:=[(51,Aj)],aX:=aG.G Tryz.prog,eqs:=qv,N:=5,fuel:=64,fid:=139}
theorem ahy:aH Tryz.prog agf:=aZ rP rS ⟨A2,trivial⟩
theorem Z2:aT Tryz.prog 139 TM:=bV Tryz.f139 ahy Ax (toY:=afj)
def Vj:List HV:=[.agg hFs]
def N9:List HV:=[.one (.int .i64)]
def abQ:HP.V Vj→Fs:=fun v=>((cFs v.1))
def YO:HX.V N9→Int:=fun v=>(v)
def YI:Int→HX.V N9:=fun y=>(y)
def acC:Fs→Option (Int):=fun x=>oz x
def RO:Spec:=aU Vj N9 abQ YI acC
def ZX {R:Type}:List (Nat×Hd R):= []
def V4 {R:Type}:List (Nat×Inl R):= []
def SE:Cfg:={T:=qV,spec:=[(134,Ww),(135,Rv),(136,Xc),(137,S_),(138,Vo),(139,TM)],aX:=aG.G Tryz.prog,eqs:=qv,N:=25,fuel:=64,loops:=[(2,⟨[1,11,12,13], [],[0,1],2, [], [], [], []⟩)],blocks:=[(0,⟨[], [], [],0, [], [], [], []⟩)],eV:=some ⟨[2], [], [],0, [], [], [], []⟩,fid:=110}
theorem Yg:aH Tryz.prog SE:=aZ rP rS ⟨af6,⟨aka,⟨alK,⟨agB,⟨abV,⟨Z2,trivial⟩⟩⟩⟩⟩⟩
theorem abj {R:Type}:aP Tryz.prog (R:=R) 0 V4:=aC _ _
theorem aed {R:Type}:aL (R:=R) (hnd 0 V4) SE ZX Mu:=aD (l:=[sub [1,0,1,0,0] Mu]) (by kernel_rfl) (gj (b:=sub [1,0,1,0,0] Mu) (rid:=2) (by kernel_rfl) (by kernel_rfl) (trivial))
theorem akW:aT Tryz.prog 110 RO:=bl Tryz.f110 Yg Ax (d:=0) abj aed (bw (by kernel_rfl)) (toY:=YO)
def RZ:List HV:=[.agg hFs]
def OW:List HV:=[.one (.bool)]
def acL:HP.V RZ→Fs:=fun v=>((cFs v.1))
def XH:HX.V OW→Bool:=fun v=>(v)
def acG:Bool→HX.V OW:=fun y=>(y)
def ahE:Fs→Option (Bool):=fun x=>oD x
def z_:Spec:=aU RZ OW acL acG ahE
def ak7:Cfg:={T:=qV,spec:=[(110,RO)],aX:=aG.G Tryz.prog,eqs:=qv,N:=6,fuel:=64,fid:=72}
theorem aem:aH Tryz.prog ak7:=aZ rP rS ⟨akW,trivial⟩
theorem BP:aT Tryz.prog 72 z_:=bV Tryz.f72 aem Ax (toY:=XH)
end
end Go.Eng
