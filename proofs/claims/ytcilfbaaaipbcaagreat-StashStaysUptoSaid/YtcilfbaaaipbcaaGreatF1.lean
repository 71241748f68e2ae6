/- A part of the proofs of the laws of this seat: the engine that reads the program's code, plain functions, or facts of the program's functions. Conditions: none. -/
import Derived.Ground.NamesProg
import Derived.Shelf.Small.Strs
import Derived.Shelf.Strings.Search1
import Derived.Shelf.Strings.OnBuilder
import Derived.Test.YtcilfbaaaipbcaaGreatProg
import Derived.Test.YtcilfbaaaipbcaaGreatP1
import Derived.Test.YtcilfbaaaipbcaaGreatE4
set_option linter.unusedSectionVars false
set_option linter.unusedVariables false
set_option linter.unusedSimpArgs false
set_option linter.unnecessarySimpa false
namespace Go.Proofs
open Go.Shelf
def Tryz.Ag:Go.Shelf.Ren:=⟨fun|106=>143|213=>155|265=>164|n=>n,fun|9=>9|3=>3|n=>n,fun|n=>n⟩
theorem Tryz.Kj:Go.Proofs.Lays.n106 Tryz.prog Tryz.Ag:={
 mixed:=by kernel_rfl
 f106:=Tryz.func143.trans (congrArg some (by kernel_rfl))
 f213:=Tryz.func155.trans (congrArg some (by kernel_rfl))
 f265:=Tryz.func164.trans (congrArg some (by kernel_rfl))
 t3:=Tryz.underlying3
 a3:=Tryz.isAgg3
 z3:=Tryz.sizeOf3
 v3:=Tryz.zeroValue3
 t9:=Tryz.underlying9
 a9:=Tryz.isAgg9
 z9:=Tryz.sizeOf9
 v9:=Tryz.zeroValue9}
def Tryz.zt:Go.Shelf.Ren:=⟨fun|217=>162|266=>166|n=>n,fun|9=>9|5=>5|3=>3|n=>n,fun|n=>n⟩
theorem Tryz.H6:Go.Proofs.Lays.n217 Tryz.prog Tryz.zt:={
 mixed:=by kernel_rfl
 f217:=Tryz.func162.trans (congrArg some (by kernel_rfl))
 f266:=Tryz.func166.trans (congrArg some (by kernel_rfl))
 t3:=Tryz.underlying3
 a3:=Tryz.isAgg3
 z3:=Tryz.sizeOf3
 v3:=Tryz.zeroValue3
 t5:=Tryz.underlying5
 a5:=Tryz.isAgg5
 z5:=Tryz.sizeOf5
 v5:=Tryz.zeroValue5
 t9:=Tryz.underlying9
 a9:=Tryz.isAgg9
 z9:=Tryz.sizeOf9
 v9:=Tryz.zeroValue9}
end Go.Proofs
set_option linter.unusedVariables false
set_option maxRecDepth 100000
namespace Go.Eng
open Go Go.Proofs Go.Shelf
noncomputable instance:aE Tryz.prog:=⟨[]⟩
noncomputable def fI:Spec:=aT (X:=Str×Str) (Y:=Int) [.one .str, .one .str] [.one (.int .i64)] (fun v=>(v.1,v.2.1)) (fun y=>y) (fun x=>strings_Compare x.1 x.2)
theorem kU:aS Tryz.prog 143 fI where
 enters:=enters_of Tryz.func143 (by kernel_rfl) rfl
 calls:=by
  intro S w args vs x y hS _ hal hp hf;simp only[fI,aT] at hp hf⊢;split at hp
  ·rename_i v hv
   cases hp;cases hf;rw[HP.eq hv] at hal;cases hal with
   |cons h1 h2=>
    cases h2 with
    |cons h2 h3=>
     cases h3;rename_i v1 v2;cases (show VA _ w (.str v.1) v1 from h1) with
     |str _ b1 e1=>
      cases (show VA _ w (.str v.2.1) v2 from h2) with
      |str _ b2 e2=>
       refine(Any.strings_Compare Tryz.Kj b1 b2 w).mono ?_;rintro e w' ⟨rfl,rfl⟩;refine⟨_,rfl,Go.RowKit.Below.refl _ _, ?_⟩;rw[e1,e2];exact VA.int _ _
  ·cases hp
noncomputable def cG:Spec:=aT (X:=Str×Int) (Y:=Int) [.one .str, .one (.int .u8)] [.one (.int .i64)] (fun v=>(v.1,v.2.1)) (fun y=>y) (fun x=>stringslite_IndexByte x.1 x.2)
theorem dC:aS Tryz.prog 162 cG where
 enters:=enters_of Tryz.func162 (by kernel_rfl) rfl
 calls:=by
  intro S w args vs x y hS _ hal hp hf;simp only[cG,aT] at hp hf⊢;split at hp
  ·rename_i v hv
   cases hp;cases hf;rw[HP.eq hv] at hal;cases hal with
   |cons h1 h2=>
    cases h2 with
    |cons h2 h3=>
     cases h3;rename_i v1 v2;cases (show VA _ w (.str v.1) v1 from h1) with
     |str _ b1 e1=>
      cases (show VA _ w (.int .u8 v.2.1) v2 from h2) with
      |int _ _=>
       refine(Any.stringslite_IndexByte Tryz.H6 b1 v.2.1 w).mono ?_;rintro e w' ⟨rfl,rfl⟩;refine⟨_,rfl,Go.RowKit.Below.refl _ _, ?_⟩;rw[e1];exact VA.int _ _
  ·cases hp
theorem Ao:sD Tryz.prog 92:=vE Tryz.func92 (by kernel_rfl) (by kernel_rfl) (tS:=22) (tR:=4) (e:=39) (size:=6) (by kernel_rfl) (by kernel_rfl) (by kernel_rfl) Tryz.sizeOf39
theorem Fw:sD Tryz.prog 130:=vE Tryz.func130 (by kernel_rfl) (by kernel_rfl) (tS:=25) (tR:=4) (e:=60) (size:=4) (by kernel_rfl) (by kernel_rfl) (by kernel_rfl) Tryz.sizeOf60
theorem Bj:sD Tryz.prog 150:=vE Tryz.func150 (by kernel_rfl) (by kernel_rfl) (tS:=37) (tR:=4) (e:=90) (size:=2) (by kernel_rfl) (by kernel_rfl) (by kernel_rfl) Tryz.sizeOf90
end Go.Eng
set_option linter.unusedVariables false
set_option maxRecDepth 100000
namespace Go.Eng
noncomputable section
open Go Go.Proofs
def FL:List (Nat×TI):=[(9,⟨false,1, .one (.str []), .str⟩),(67,⟨false,1, .one (.clip .str []), .slice .str 9⟩)]
def GC:List (Nat×List EK):= []
theorem LQ:Tryz.prog.follows .mixedOrders=true:=by kernel_rfl
theorem II:(FL.all fun x=>tiB Tryz.prog x.1 x.2)=true:=by kernel_rfl
theorem Ib:(GC.all fun x=>eqB Tryz.prog x.1 x.2)=true:=by kernel_rfl
def IH:Code:=bd Tryz.f36
def K0:Code:=bd Tryz.f57
def JH:Code:=bd Tryz.f84
def Jh:Code:=bd Tryz.f85
def C1:HS:=⟨[(0, .one (.str)),(3, .one (.int .i64))], [],0⟩
def Jv {R:Type}:Nat→HS.V C1→(Ex→St→Option R)→Option R:=fun q v K=>
 gR v.1.1 (K .ret {az:=[(2, .v (.one (.bool false)))],mem:= [],nx:=0}) (K (.exit 0) {az:=[(0, .v (.one (.str v.1.1)))],mem:= [],nx:=0}) q v.1.2.1
def U4:List HV:=[.one (.str)]
def MZ:List HV:=[.one (.bool)]
def ae6:HP.V U4→Str:=fun v=>(v.1)
def X_:HX.V MZ→Bool:=fun v=>(v)
def ajT:Bool→HX.V MZ:=fun y=>(y)
def aeF:Str→Option (Bool):=fun x=>jy x
def Kd:Spec:=aT U4 MZ ae6 ajT aeF
def V9 {R:Type}:List (Nat×Hd R):=[(2,bC C1 Jv)]
def Nb {R:Type}:List (Nat×Inl R):= []
def Nc:Cfg:={T:=FL,aX:=aE.G Tryz.prog,eqs:=GC,N:=36,fuel:=64,loops:=[(2,⟨[0,3], [], [],0, [], [], [], []⟩)],blocks:=[(0,⟨[0], [], [],0, [], [], [], []⟩)],eX:=some ⟨[2], [], [],0, [], [], [], []⟩,fid:=57}
theorem aj4:aF Tryz.prog Nc:=aZ II Ib trivial
theorem X2 {R:Type}:aO Tryz.prog (R:=R) 0 Nb:=aA _ _
theorem ack {R:Type}:bA (R:=R) (hnd 0 Nb) Nc V9 (sub [1,0,1,0,0] K0) (HS.V C1) (HS.st C1) (HS.sh C1) Jv (bC C1 Jv):=aM C1 Jv (fun _ _=>rfl) (by intro q v K;kernel_rfl)
theorem aoF {R:Type}:aJ (R:=R) (hnd 0 Nb) Nc V9 K0:=aB (l:=[sub [1,0,1,0,0] K0]) (by kernel_rfl) (aH (b:=sub [1,0,1,0,0] K0) (rid:=2) (by kernel_rfl) (by kernel_rfl) ack (trivial))
theorem QS:aS Tryz.prog 57 Kd:=bl Tryz.f57 aj4 LQ (d:=0) X2 aoF (bw (by kernel_rfl)) (toY:=X_)
def A4:HS:=⟨[(0, .one (.str)),(3, .one (.own 0)),(4, .one (.str)),(5, .one (.int .i64))],[(0, .row .str)],1⟩
def Ig {R:Type}:Nat→HS.V A4→(Ex→St→Option R)→Option R:=fun q v K=>
 cI v.1.1 (fun y6=>K (.exit 0) {az:=[(3, .v (.one (.own 0)))],mem:=[(0, .row .str y6)],nx:=1}) q v.1.2.2.1 v.1.2.2.2.1 v.2.1
def Tn:List HV:=[.one (.str)]
def Ms:List HV:=[.one (.sl .str)]
def adn:HP.V Tn→Str:=fun v=>(v.1)
def akH:HX.V Ms→(List Str):=fun v=>(v)
def afT:(List Str)→HX.V Ms:=fun y=>(y)
def ahk:Str→Option ((List Str)):=fun x=>iF x
def Vr:Spec:=aT Tn Ms adn afT ahk
def Sw {R:Type}:List (Nat×Hd R):=[(4,bC A4 Ig)]
def Qb {R:Type}:List (Nat×Inl R):= []
def OB:Cfg:={T:=FL,aX:=aE.G Tryz.prog,eqs:=GC,N:=36,fuel:=64,loops:=[(4,⟨[0,3,4,5],[(3,0, .str)],[0],1, [], [], [], []⟩)],blocks:=[(0,⟨[3], [],[0],1, [], [], [], []⟩)],fid:=84}
theorem ab9:aF Tryz.prog OB:=aZ II Ib trivial
theorem aex {R:Type}:aO Tryz.prog (R:=R) 0 Qb:=aA _ _
theorem Y4 {R:Type}:bA (R:=R) (hnd 0 Qb) OB Sw (sub [1,1,1,0,1,0,0] JH) (HS.V A4) (HS.st A4) (HS.sh A4) Ig (bC A4 Ig):=aM A4 Ig (fun _ _=>rfl) (by intro q v K;kernel_rfl)
theorem Xv {R:Type}:aJ (R:=R) (hnd 0 Qb) OB Sw JH:=aB (l:=[sub [1,1,1,0,1,0,0] JH]) (by kernel_rfl) (aH (b:=sub [1,1,1,0,1,0,0] JH) (rid:=4) (by kernel_rfl) (by kernel_rfl) Y4 (trivial))
theorem agI:aS Tryz.prog 84 Vr:=bl Tryz.f84 ab9 LQ (d:=0) aex Xv (bw (by kernel_rfl)) (toY:=akH)
def B7:HS:=⟨[(0, .one (.sl .str)),(3, .one (.str)),(4, .one (.int .i64))], [],0⟩
def Kg {R:Type}:Nat→HS.V B7→(Ex→St→Option R)→Option R:=fun q v K=>
 fY v.1.1 (fun y5=>K (.exit 0) {az:=[(3, .v (.one (.str y5)))],mem:= [],nx:=0}) q v.1.2.1 v.1.2.2.1
def Te:List HV:=[.one (.sl .str)]
def PD:List HV:=[.one (.str)]
def alP:HP.V Te→(List Str):=fun v=>(v.1)
def ajV:HX.V PD→Str:=fun v=>(v)
def ajJ:Str→HX.V PD:=fun y=>(y)
def afX:(List Str)→Option (Str):=fun x=>nz x
def RR:Spec:=aT Te PD alP ajJ afX
def Xd {R:Type}:List (Nat×Hd R):=[(5,bC B7 Kg)]
def P3 {R:Type}:List (Nat×Inl R):= []
def PG:Cfg:={T:=FL,aX:=aE.G Tryz.prog,eqs:=GC,N:=22,fuel:=64,loops:=[(5,⟨[0,3,4], [], [],0, [], [], [], []⟩)],blocks:=[(0,⟨[3], [], [],0, [], [], [], []⟩)],fid:=85}
theorem ah7:aF Tryz.prog PG:=aZ II Ib trivial
theorem X0 {R:Type}:aO Tryz.prog (R:=R) 0 P3:=aA _ _
theorem ag8 {R:Type}:bA (R:=R) (hnd 0 P3) PG Xd (sub [1,1,1,0,1,0,0] Jh) (HS.V B7) (HS.st B7) (HS.sh B7) Kg (bC B7 Kg):=aM B7 Kg (fun _ _=>rfl) (by intro q v K;kernel_rfl)
theorem agm {R:Type}:aJ (R:=R) (hnd 0 P3) PG Xd Jh:=aB (l:=[sub [1,1,1,0,1,0,0] Jh]) (by kernel_rfl) (aH (b:=sub [1,1,1,0,1,0,0] Jh) (rid:=5) (by kernel_rfl) (by kernel_rfl) ag8 (trivial))
theorem anL:aS Tryz.prog 85 RR:=bl Tryz.f85 ah7 LQ (d:=0) X0 agm (bw (by kernel_rfl)) (toY:=ajV)
def A5:HS:=⟨[(0, .one (.str)),(4, .one (.sl .str)),(5, .one (.int .i64))], [],0⟩
def HC {R:Type}:Nat→HS.V A5→(Ex→St→Option R)→Option R:=fun q v K=>
 eu v.1.2.1 (K .ret {az:=[(2, .v (.one (.clip .str ([] :List Str)))),(3, .v (.one (.bool false)))],mem:= [],nx:=0}) (K (.exit 0) {az:=[(0, .v (.one (.str v.1.1))),(4, .v (.one (.sl .str v.1.2.1)))],mem:= [],nx:=0}) q v.1.2.2.1
def TD:List HV:=[.one (.str)]
def Ql:List HV:=[.one (.sl .str), .one (.bool)]
def Zl:HP.V TD→Str:=fun v=>(v.1)
def akC:HX.V Ql→(List Str)×Bool:=fun v=>(v.1,v.2)
def ao7:(List Str)×Bool→HX.V Ql:=fun y=>(y.1,y.2)
def ahf:Str→Option ((List Str)×Bool):=fun x=>lV x
def Vx:Spec:=aT TD Ql Zl ao7 ahf
def UR {R:Type}:List (Nat×Hd R):=[(3,bC A5 HC)]
def Qe {R:Type}:List (Nat×Inl R):= []
def QZ:Cfg:={T:=FL,spec:=[(57,Kd),(84,Vr),(85,RR)],aX:=aE.G Tryz.prog,eqs:=GC,N:=25,fuel:=64,loops:=[(3,⟨[0,4,5], [], [],0, [], [], [], []⟩)],blocks:=[(0,⟨[0,4], [], [],0, [], [], [], []⟩)],eX:=some ⟨[2,3], [], [],0, [], [], [], []⟩,fid:=36}
theorem ahG:aF Tryz.prog QZ:=aZ II Ib ⟨QS,⟨agI,⟨anL,trivial⟩⟩⟩
theorem aoW {R:Type}:aO Tryz.prog (R:=R) 0 Qe:=aA _ _
theorem af6 {R:Type}:bA (R:=R) (hnd 0 Qe) QZ UR (sub [1,1,0,1,0,0] IH) (HS.V A5) (HS.st A5) (HS.sh A5) HC (bC A5 HC):=aM A5 HC (fun _ _=>rfl) (by intro q v K;kernel_rfl)
theorem abo {R:Type}:aJ (R:=R) (hnd 0 Qe) QZ UR IH:=aB (l:=[sub [1,1,0,1,0,0] IH]) (by kernel_rfl) (aH (b:=sub [1,1,0,1,0,0] IH) (rid:=3) (by kernel_rfl) (by kernel_rfl) af6 (trivial))
theorem aad:aS Tryz.prog 36 Vx:=bl Tryz.f36 ahG LQ (d:=0) aoW abo (bw (by kernel_rfl)) (toY:=akC)
end
end Go.Eng
set_option linter.unusedVariables false
set_option maxRecDepth 100000
namespace Go.Eng
noncomputable section
open Go Go.Proofs
def Fk:List (Nat×TI):=[(3,⟨false,1, .one (.int .i64 0), .int .i64⟩),(9,⟨false,1, .one (.str []), .str⟩),(37,⟨false,1, .one (.clip .entry []), .slice .entry 90⟩),(90,⟨true,2, .agg [.str [], .int .i64 0], .struct [(0,9),(1,3)]⟩)]
def Eo:List (Nat×List EK):=[(90,[.s, .i])]
theorem G3:Tryz.prog.follows .mixedOrders=true:=by kernel_rfl
theorem GD:(Fk.all fun x=>tiB Tryz.prog x.1 x.2)=true:=by kernel_rfl
theorem Gm:(Eo.all fun x=>eqB Tryz.prog x.1 x.2)=true:=by kernel_rfl
def JT:Code:=bd Tryz.f37
def JQ:Code:=bd Tryz.f96
def Ip:Code:=bd Tryz.f105
def Js:Code:=bd Tryz.f106
def Lc:Code:=bd Tryz.f123
def Bo:HS:=⟨[(0, .one (.sl .entry)),(1, .one (.sl .entry)),(5, .one (.int .i64))], [],0⟩
def Io {R:Type}:Nat→HS.V Bo→(Ex→St→Option R)→Option R:=fun q v K=>
 fX v.1.1 v.1.2.1 (K .ret {az:=[(4, .v (.one (.bool false)))],mem:= [],nx:=0}) (K (.exit 0) {az:= [],mem:= [],nx:=0}) q v.1.2.2.1
def WY:List HV:=[.one (.sl .entry), .one (.sl .entry)]
def PI:List HV:=[.one (.bool)]
def Y6:HP.V WY→(List Entry)×(List Entry):=fun v=>(v.1,v.2.1)
def aoi:HX.V PI→Bool:=fun v=>(v)
def agX:Bool→HX.V PI:=fun y=>(y)
def afj:(List Entry)×(List Entry)→Option (Bool):=fun x=>nG x.1 x.2
def Sg:Spec:=aT WY PI Y6 agX afj
def S4 {R:Type}:List (Nat×Hd R):=[(4,bC Bo Io)]
def M4 {R:Type}:List (Nat×Inl R):= []
def Q4:Cfg:={T:=Fk,aX:=aE.G Tryz.prog,eqs:=Eo,N:=26,fuel:=64,loops:=[(4,⟨[0,1,5], [], [],0, [], [], [], []⟩)],blocks:=[(0,⟨[], [], [],0, [], [], [], []⟩)],eX:=some ⟨[4], [], [],0, [], [], [], []⟩,fid:=123}
theorem afV:aF Tryz.prog Q4:=aZ GD Gm trivial
theorem agW {R:Type}:aO Tryz.prog (R:=R) 0 M4:=aA _ _
theorem ahJ {R:Type}:bA (R:=R) (hnd 0 M4) Q4 S4 (sub [1,1,0,1,0,0] Lc) (HS.V Bo) (HS.st Bo) (HS.sh Bo) Io (bC Bo Io):=aM Bo Io (fun _ _=>rfl) (by intro q v K;kernel_rfl)
theorem XE {R:Type}:aJ (R:=R) (hnd 0 M4) Q4 S4 Lc:=aB (l:=[sub [1,1,0,1,0,0] Lc]) (by kernel_rfl) (aH (b:=sub [1,1,0,1,0,0] Lc) (rid:=4) (by kernel_rfl) (by kernel_rfl) ahJ (trivial))
theorem amn:aS Tryz.prog 123 Sg:=bl Tryz.f123 afV G3 (d:=0) agW XE (bw (by kernel_rfl)) (toY:=aoi)
def CL:HS:=⟨[(0, .one (.sl .entry)),(3, .one (.int .i64))], [],0⟩
def Jt {R:Type}:Nat→HS.V CL→(Ex→St→Option R)→Option R:=fun q v K=>
 eI v.1.1 (K .ret {az:=[(2, .v (.one (.bool false)))],mem:= [],nx:=0}) (K (.exit 0) {az:= [],mem:= [],nx:=0}) q v.1.2.1
def SP:List HV:=[.one (.sl .entry)]
def ME:List HV:=[.one (.bool)]
def aaS:HP.V SP→(List Entry):=fun v=>(v.1)
def acC:HX.V ME→Bool:=fun v=>(v)
def aih:Bool→HX.V ME:=fun y=>(y)
def adx:(List Entry)→Option (Bool):=fun x=>eZ x
def Ue:Spec:=aT SP ME aaS aih adx
def Xo {R:Type}:List (Nat×Hd R):=[(2,bC CL Jt)]
def O4 {R:Type}:List (Nat×Inl R):= []
def Ml:Cfg:={T:=Fk,spec:=[(57,Kd)],aX:=aE.G Tryz.prog,eqs:=Eo,N:=41,fuel:=64,loops:=[(2,⟨[0,3], [], [],0, [], [], [], []⟩)],blocks:=[(0,⟨[], [], [],0, [], [], [], []⟩)],eX:=some ⟨[2], [], [],0, [], [], [], []⟩,fid:=106}
theorem aeG:aF Tryz.prog Ml:=aZ GD Gm ⟨QS,trivial⟩
theorem XH {R:Type}:aO Tryz.prog (R:=R) 0 O4:=aA _ _
theorem Yq {R:Type}:bA (R:=R) (hnd 0 O4) Ml Xo (sub [1,0,1,0,0] Js) (HS.V CL) (HS.st CL) (HS.sh CL) Jt (bC CL Jt):=aM CL Jt (fun _ _=>rfl) (by intro q v K;kernel_rfl)
theorem aoZ {R:Type}:aJ (R:=R) (hnd 0 O4) Ml Xo Js:=aB (l:=[sub [1,0,1,0,0] Js]) (by kernel_rfl) (aH (b:=sub [1,0,1,0,0] Js) (rid:=2) (by kernel_rfl) (by kernel_rfl) Yq (trivial))
theorem anF:aS Tryz.prog 106 Ue:=bl Tryz.f106 aeG G3 (d:=0) XH aoZ (bw (by kernel_rfl)) (toY:=acC)
def Bc:HS:=⟨[(0, .one (.sl .entry)),(1, .one (.str)),(6, .one (.int .i64))], [],0⟩
def IP {R:Type}:Nat→HS.V Bc→(Ex→St→Option R)→Option R:=fun q v K=>
 fW v.1.1 v.1.2.1 (fun y6=>K .ret {az:=[(4, .v (.one (.int .i64 y6))),(5, .v (.one (.bool true)))],mem:= [],nx:=0}) (K (.exit 0) {az:= [],mem:= [],nx:=0}) q v.1.2.2.1
def Ut:List HV:=[.one (.sl .entry), .one (.str)]
def Pn:List HV:=[.one (.int .i64), .one (.bool)]
def adD:HP.V Ut→(List Entry)×Str:=fun v=>(v.1,v.2.1)
def ahb:HX.V Pn→Int×Bool:=fun v=>(v.1,v.2)
def aov:(Int×Bool)→HX.V Pn:=fun y=>(y.1,y.2)
def alx:(List Entry)×Str→Option (Int×Bool):=fun x=>jx x.1 x.2
def Ry:Spec:=aT Ut Pn adD aov alx
def Sq {R:Type}:List (Nat×Hd R):=[(2,bC Bc IP)]
def M3 {R:Type}:List (Nat×Inl R):= []
def Nk:Cfg:={T:=Fk,aX:=aE.G Tryz.prog,eqs:=Eo,N:=25,fuel:=64,loops:=[(2,⟨[0,1,6], [], [],0, [], [], [], []⟩)],blocks:=[(0,⟨[], [], [],0, [], [], [], []⟩)],eX:=some ⟨[4,5], [], [],0, [], [], [], []⟩,fid:=37}
theorem am_:aF Tryz.prog Nk:=aZ GD Gm trivial
theorem aa1 {R:Type}:aO Tryz.prog (R:=R) 0 M3:=aA _ _
theorem agn {R:Type}:bA (R:=R) (hnd 0 M3) Nk Sq (sub [1,0,1,0,0] JT) (HS.V Bc) (HS.st Bc) (HS.sh Bc) IP (bC Bc IP):=aM Bc IP (fun _ _=>rfl) (by intro q v K;kernel_rfl)
theorem ahF {R:Type}:aJ (R:=R) (hnd 0 M3) Nk Sq JT:=aB (l:=[sub [1,0,1,0,0] JT]) (by kernel_rfl) (aH (b:=sub [1,0,1,0,0] JT) (rid:=2) (by kernel_rfl) (by kernel_rfl) agn (trivial))
theorem alE:aS Tryz.prog 37 Ry:=bl Tryz.f37 am_ G3 (d:=0) aa1 ahF (bw (by kernel_rfl)) (toY:=ahb)
def Bt:HS:=⟨[(0, .one (.sl .entry)),(1, .one (.str)),(5, .one (.own 0)),(6, .one (.int .i64))],[(0, .row .entry)],1⟩
def J7 {R:Type}:Nat→HS.V Bt→(Ex→St→Option R)→Option R:=fun q v K=>
 dy v.1.1 v.1.2.1 (fun y7=>K (.exit 0) {az:=[(5, .v (.one (.own 0)))],mem:=[(0, .row .entry y7)],nx:=1}) q v.1.2.2.2.1 v.2.1
def Xq:List HV:=[.one (.sl .entry), .one (.str)]
def Mu:List HV:=[.one (.sl .entry)]
def ah0:HP.V Xq→(List Entry)×Str:=fun v=>(v.1,v.2.1)
def aou:HX.V Mu→(List Entry):=fun v=>(v)
def als:(List Entry)→HX.V Mu:=fun y=>(y)
def afM:(List Entry)×Str→Option ((List Entry)):=fun x=>ic x.1 x.2
def QQ:Spec:=aT Xq Mu ah0 als afM
def Uf {R:Type}:List (Nat×Hd R):=[(3,bC Bt J7)]
def Mf {R:Type}:List (Nat×Inl R):= []
def M5:Cfg:={T:=Fk,aX:=aE.G Tryz.prog,eqs:=Eo,N:=28,fuel:=64,loops:=[(3,⟨[0,1,5,6],[(5,0, .entry)],[0],1, [], [], [], []⟩)],blocks:=[(0,⟨[5], [],[0],1, [], [], [], []⟩)],fid:=96}
theorem aeb:aF Tryz.prog M5:=aZ GD Gm trivial
theorem al4 {R:Type}:aO Tryz.prog (R:=R) 0 Mf:=aA _ _
theorem aon {R:Type}:bA (R:=R) (hnd 0 Mf) M5 Uf (sub [1,1,0,1,0,0] JQ) (HS.V Bt) (HS.st Bt) (HS.sh Bt) J7 (bC Bt J7):=aM Bt J7 (fun _ _=>rfl) (by intro q v K;kernel_rfl)
theorem XO {R:Type}:aJ (R:=R) (hnd 0 Mf) M5 Uf JQ:=aB (l:=[sub [1,1,0,1,0,0] JQ]) (by kernel_rfl) (aH (b:=sub [1,1,0,1,0,0] JQ) (rid:=3) (by kernel_rfl) (by kernel_rfl) aon (trivial))
theorem WX:aS Tryz.prog 96 QQ:=bl Tryz.f96 aeb G3 (d:=0) al4 XO (bw (by kernel_rfl)) (toY:=aou)
def De:HS:=⟨[(1, .one (.str)),(2, .one (.int .i64)),(7, .one (.sl .entry)),(8, .one (.own 0)),(9, .one (.bool)),(10, .one (.int .i64))],[(0, .row .entry)],1⟩
def JR {R:Type}:Nat→HS.V De→(Ex→St→Option R)→Option R:=fun q v K=>
 eg v.1.1 v.1.2.1 v.1.2.2.1 (fun y14 y15=>K (.exit 0) {az:=[(1, .v (.one (.str v.1.1))),(2, .v (.one (.int .i64 v.1.2.1))),(8, .v (.one (.own 0))),(9, .v (.one (.bool y14)))],mem:=[(0, .row .entry y15)],nx:=1}) q v.1.2.2.2.2.1 v.1.2.2.2.2.2.1 v.2.1
def UQ:List HV:=[.one (.sl .entry), .one (.str), .one (.int .i64)]
def MK:List HV:=[.one (.sl .entry)]
def Yy:HP.V UQ→(List Entry)×Str×Int:=fun v=>(v.1,v.2.1,v.2.2.1)
def Z3:HX.V MK→(List Entry):=fun v=>(v)
def amM:(List Entry)→HX.V MK:=fun y=>(y)
def aoK:(List Entry)×Str×Int→Option ((List Entry)):=fun x=>iA x.1 x.2.1 x.2.2
def Rr:Spec:=aT UQ MK Yy amM aoK
def WC {R:Type}:List (Nat×Hd R):=[(5,bC De JR)]
def O0 {R:Type}:List (Nat×Inl R):= []
def Q1:Cfg:={T:=Fk,spec:=[(96,QQ)],aX:=aE.G Tryz.prog,eqs:=Eo,N:=53,fuel:=64,loops:=[(5,⟨[1,2,7,8,9,10],[(8,0, .entry)],[0],1, [], [], [], []⟩)],blocks:=[(0,⟨[1,2,8,9], [],[0],1, [], [], [], []⟩)],fid:=105}
theorem amb:aF Tryz.prog Q1:=aZ GD Gm ⟨WX,trivial⟩
theorem ZO {R:Type}:aO Tryz.prog (R:=R) 0 O0:=aA _ _
theorem afL {R:Type}:bA (R:=R) (hnd 0 O0) Q1 WC (sub [1,1,1,1,0,1,0,0] Ip) (HS.V De) (HS.st De) (HS.sh De) JR (bC De JR):=aM De JR (fun _ _=>rfl) (by intro q v K;kernel_rfl)
theorem akK {R:Type}:aJ (R:=R) (hnd 0 O0) Q1 WC Ip:=aB (l:=[sub [1,1,1,1,0,1,0,0] Ip]) (by kernel_rfl) (aH (b:=sub [1,1,1,1,0,1,0,0] Ip) (rid:=5) (by kernel_rfl) (by kernel_rfl) afL (trivial))
theorem aft:aS Tryz.prog 105 Rr:=bl Tryz.f105 amb G3 (d:=0) ZO akK (bw (by kernel_rfl)) (toY:=Z3)
end
end Go.Eng
set_option linter.unusedVariables false
set_option maxRecDepth 100000
namespace Go.Eng
noncomputable section
open Go Go.Proofs
def v8:List (Nat×TI):=[(3,⟨false,1, .one (.int .i64 0), .int .i64⟩),(9,⟨false,1, .one (.str []), .str⟩),(22,⟨false,1, .one (.clip .aL []), .slice .aL 39⟩),(24,⟨true,4, .agg [.int .i64 0, .int .i64 0, .int .i64 0, .clip .aL []], .struct [(0,3),(1,3),(2,3),(3,22)]⟩),(37,⟨false,1, .one (.clip .entry []), .slice .entry 90⟩),(39,⟨true,6, .agg [.int .i64 0, .int .i64 0, .int .i64 0, .str [], .int .i64 0, .clip .entry []], .struct [(0,3),(1,3),(2,3),(3,9),(4,3),(5,37)]⟩),(90,⟨true,2, .agg [.str [], .int .i64 0], .struct [(0,9),(1,3)]⟩)]
def wy:List (Nat×List EK):= []
theorem yE:Tryz.prog.follows .mixedOrders=true:=by kernel_rfl
theorem xR:(v8.all fun x=>tiB Tryz.prog x.1 x.2)=true:=by kernel_rfl
theorem yc:(wy.all fun x=>eqB Tryz.prog x.1 x.2)=true:=by kernel_rfl
def JX:Code:=bd Tryz.f15
def CD:Code:=bd Tryz.f31
def LH:Code:=bd Tryz.f35
def J_:Code:=bd Tryz.f47
def JF:Code:=bd Tryz.f59
def Jg:Code:=bd Tryz.f62
def Rx:List HV:=[.agg hIn, .agg hIn]
def QM:List HV:=[.one (.bool)]
def alz:HP.V Rx→ae×ae:=fun v=>((cIn v.1),(cIn v.2.1))
def aiX:HX.V QM→Bool:=fun v=>(v)
def alH:Bool→HX.V QM:=fun y=>(y)
def alW:(ae×ae)→Option (Bool):=fun x=>oI x.1 x.2
def VD:Spec:=aT Rx QM alz alH alW
def alZ:Cfg:={T:=v8,spec:=[(123,Sg)],aX:=aE.G Tryz.prog,eqs:=wy,N:=45,fuel:=64,fid:=83}
theorem YH:aF Tryz.prog alZ:=aZ xR yc ⟨amn,trivial⟩
theorem am2:aS Tryz.prog 83 VD:=bV Tryz.f83 YH yE (toY:=aiX)
def CW:HS:=⟨[(0, .one (.sl .aL)),(1, .one (.sl .aL)),(5, .one (.int .i64))], [],0⟩
def H9 {R:Type}:Nat→HS.V CW→(Ex→St→Option R)→Option R:=fun q v K=>
 fU v.1.1 v.1.2.1 (K .ret {az:=[(4, .v (.one (.bool false)))],mem:= [],nx:=0}) (K (.exit 0) {az:= [],mem:= [],nx:=0}) q v.1.2.2.1
def T6:List HV:=[.one (.sl .aL), .one (.sl .aL)]
def PT:List HV:=[.one (.bool)]
def adM:HP.V T6→(List ae)×(List ae):=fun v=>(v.1,v.2.1)
def acZ:HX.V PT→Bool:=fun v=>(v)
def ab3:Bool→HX.V PT:=fun y=>(y)
def amh:(List ae)×(List ae)→Option (Bool):=fun x=>kT x.1 x.2
def Oc:Spec:=aT T6 PT adM ab3 amh
def WN {R:Type}:List (Nat×Hd R):=[(4,bC CW H9)]
def Mp {R:Type}:List (Nat×Inl R):= []
def NX:Cfg:={T:=v8,spec:=[(83,VD)],aX:=aE.G Tryz.prog,eqs:=wy,N:=27,fuel:=64,loops:=[(4,⟨[0,1,5], [], [],0, [], [], [], []⟩)],blocks:=[(0,⟨[], [], [],0, [], [], [], []⟩)],eX:=some ⟨[4], [], [],0, [], [], [], []⟩,fid:=35}
theorem XF:aF Tryz.prog NX:=aZ xR yc ⟨am2,trivial⟩
theorem alf {R:Type}:aO Tryz.prog (R:=R) 0 Mp:=aA _ _
theorem akL {R:Type}:bA (R:=R) (hnd 0 Mp) NX WN (sub [1,1,0,1,0,0] LH) (HS.V CW) (HS.st CW) (HS.sh CW) H9 (bC CW H9):=aM CW H9 (fun _ _=>rfl) (by intro q v K;kernel_rfl)
theorem alu {R:Type}:aJ (R:=R) (hnd 0 Mp) NX WN LH:=aB (l:=[sub [1,1,0,1,0,0] LH]) (by kernel_rfl) (aH (b:=sub [1,1,0,1,0,0] LH) (rid:=4) (by kernel_rfl) (by kernel_rfl) akL (trivial))
theorem US:aS Tryz.prog 35 Oc:=bl Tryz.f35 XF yE (d:=0) alf alu (bw (by kernel_rfl)) (toY:=acZ)
def W_:List HV:=[.agg hFs, .agg hFs]
def Ni:List HV:=[.one (.bool)]
def Zh:HP.V W_→Fs×Fs:=fun v=>((cFs v.1),(cFs v.2.1))
def acf:HX.V Ni→Bool:=fun v=>(v)
def agN:Bool→HX.V Ni:=fun y=>(y)
def aht:(Fs×Fs)→Option (Bool):=fun x=>jv x.1 x.2
def VQ:Spec:=aT W_ Ni Zh agN aht
def ane:Cfg:={T:=v8,spec:=[(35,Oc)],aX:=aE.G Tryz.prog,eqs:=wy,N:=31,fuel:=64,fid:=34}
theorem aev:aF Tryz.prog ane:=aZ xR yc ⟨US,trivial⟩
theorem ZM:aS Tryz.prog 34 VQ:=bV Tryz.f34 aev yE (toY:=acf)
def B5:HS:=⟨[(1, .one (.int .i64)),(2, .one (.ptr 0 0)),(4, .one (.ptr 1 0)),(5, .one (.own 2)),(6, .one (.int .i64))],[(0, .cells hFs),(1, .cells hFs),(2, .row .aL)],3⟩
def LG {R:Type}:Nat→HS.V B5→(Ex→St→Option R)→Option R:=fun q v K=>
 fj v.1.1 (cFs v.2.1) (fun y10=>K (.exit 0) {az:=[(2, .v (.one (.ptr 0 0))),(4, .v (.one (.ptr 1 0))),(5, .v (.one (.own 2)))],mem:=[(0, .cells (rFs (cFs v.2.1))),(1, .cells (rFs (cFs v.2.2.1))),(2, .row .aL y10)],nx:=3}) q v.1.2.2.2.2.1 v.2.2.2.1
def Xn:List HV:=[.agg hFs, .one (.int .i64)]
def Pc:List HV:=[.agg hFs]
def Zv:HP.V Xn→Fs×Int:=fun v=>((cFs v.1),v.2.1)
def Y3:HX.V Pc→Fs:=fun v=>((cFs v))
def apb:Fs→HX.V Pc:=fun y=>(uFs y)
def abS:(Fs×Int)→Option (Fs):=fun x=>dj x.1 x.2
def KC:Spec:=aT Xn Pc Zv apb abS
def Wi {R:Type}:List (Nat×Hd R):=[(3,bC B5 LG)]
def QL {R:Type}:List (Nat×Inl R):= []
def Pv:Cfg:={T:=v8,aX:=aE.G Tryz.prog,eqs:=wy,N:=33,fuel:=64,loops:=[(3,⟨[1,2,4,5,6],[(5,2, .aL)],[0,1,2],3, [],[1], [], []⟩)],blocks:=[(0,⟨[2,4,5], [],[0,1,2],3, [], [], [], []⟩)],fid:=59}
theorem afs:aF Tryz.prog Pv:=aZ xR yc trivial
theorem ahW {R:Type}:aO Tryz.prog (R:=R) 0 QL:=aA _ _
theorem aoE {R:Type}:bA (R:=R) (hnd 0 QL) Pv Wi (sub [1,1,0,1,0,0] JF) (HS.V B5) (HS.st B5) (HS.sh B5) LG (bC B5 LG):=aM B5 LG (fun _ _=>rfl) (by intro q v K;kernel_rfl)
theorem X6 {R:Type}:aJ (R:=R) (hnd 0 QL) Pv Wi JF:=aB (l:=[sub [1,1,0,1,0,0] JF]) (by kernel_rfl) (aH (b:=sub [1,1,0,1,0,0] JF) (rid:=3) (by kernel_rfl) (by kernel_rfl) aoE (trivial))
theorem PS:aS Tryz.prog 59 KC:=bl Tryz.f59 afs yE (d:=0) ahW X6 (bw (by kernel_rfl)) (toY:=Y3)
def Bv:HS:=⟨[(2, .one (.ptr 0 0)),(3, .one (.ptr 1 0)),(4, .one (.ptr 2 0)),(5, .one (.sl .aL)),(6, .one (.own 3)),(7, .one (.bool)),(8, .one (.int .i64))],[(0, .cells hFs),(1, .cells hIn),(2, .cells hFs),(3, .row .aL)],4⟩
def Ii {R:Type}:Nat→HS.V Bv→(Ex→St→Option R)→Option R:=fun q v K=>
 eY v.1.2.2.2.1 (cIn v.2.2.1) (fun y13 y17=>K (.exit 0) {az:=[(2, .v (.one (.ptr 0 0))),(3, .v (.one (.ptr 1 0))),(4, .v (.one (.ptr 2 0))),(6, .v (.one (.own 3))),(7, .v (.one (.bool y13)))],mem:=[(0, .cells (rFs (cFs v.2.1))),(1, .cells (rIn (cIn v.2.2.1))),(2, .cells (rFs (cFs v.2.2.2.1))),(3, .row .aL y17)],nx:=4}) q v.1.2.2.2.2.2.1 v.1.2.2.2.2.2.2.1 v.2.2.2.2.1
def U0:List HV:=[.agg hFs, .agg hIn]
def Mc:List HV:=[.agg hFs]
def amj:HP.V U0→Fs×ae:=fun v=>((cFs v.1),(cIn v.2.1))
def acD:HX.V Mc→Fs:=fun v=>((cFs v))
def aa4:Fs→HX.V Mc:=fun y=>(uFs y)
def Yg:(Fs×ae)→Option (Fs):=fun x=>b7 x.1 x.2
def CB:Spec:=aT U0 Mc amj aa4 Yg
def VX {R:Type}:List (Nat×Hd R):=[(5,bC Bv Ii)]
def M7 {R:Type}:List (Nat×Inl R):= []
def Pr:Cfg:={T:=v8,spec:=[(59,KC)],aX:=aE.G Tryz.prog,eqs:=wy,N:=52,fuel:=64,loops:=[(5,⟨[2,3,4,5,6,7,8],[(6,3, .aL)],[0,1,2,3],4, [],[2], [], []⟩)],blocks:=[(0,⟨[2,3,4,6,7], [],[0,1,2,3],4, [], [], [], []⟩)],fid:=47}
theorem aiH:aF Tryz.prog Pr:=aZ xR yc ⟨PS,trivial⟩
theorem aab {R:Type}:aO Tryz.prog (R:=R) 0 M7:=aA _ _
theorem aeU {R:Type}:bA (R:=R) (hnd 0 M7) Pr VX (sub [1,1,1,1,0,1,0,0] J_) (HS.V Bv) (HS.st Bv) (HS.sh Bv) Ii (bC Bv Ii):=aM Bv Ii (fun _ _=>rfl) (by intro q v K;kernel_rfl)
theorem X8 {R:Type}:aJ (R:=R) (hnd 0 M7) Pr VX J_:=aB (l:=[sub [1,1,1,1,0,1,0,0] J_]) (by kernel_rfl) (aH (b:=sub [1,1,1,1,0,1,0,0] J_) (rid:=5) (by kernel_rfl) (by kernel_rfl) aeU (trivial))
theorem Fl:aS Tryz.prog 47 CB:=bl Tryz.f47 aiH yE (d:=0) aab X8 (bw (by kernel_rfl)) (toY:=acD)
def Wy:List HV:=[.one (.int .i64), .one (.int .i64)]
def L6:List HV:=[.agg hFs]
def aei:HP.V Wy→Int×Int:=fun v=>(v.1,v.2.1)
def abm:HX.V L6→Fs:=fun v=>((cFs v))
def adz:Fs→HX.V L6:=fun y=>(uFs y)
def acW:(Int×Int)→Option (Fs):=fun x=>rn x.1 x.2
def SS:Spec:=aT Wy L6 aei adz acW
def aeo:Cfg:={T:=v8,aX:=aE.G Tryz.prog,eqs:=wy,N:=10,fuel:=64,fid:=69}
theorem XJ:aF Tryz.prog aeo:=aZ xR yc trivial
theorem agc:aS Tryz.prog 69 SS:=bV Tryz.f69 XJ yE (toY:=abm)
def Bw:HS:=⟨[(1, .one (.ptr 0 0)),(3, .one (.int .i64)),(4, .one (.ptr 1 0)),(5, .one (.int .i64))],[(0, .cells hFs),(1, .cells hIn)],2⟩
def Jo {R:Type}:Nat→HS.V Bw→(Ex→St→Option R)→Option R:=fun q v K=>
 fB (cIn v.2.2.1) (K .ret {az:=[(2, .v (.one (.bool false)))],mem:= [],nx:=0}) (K (.exit 2) {az:=[(1, .v (.one (.ptr 0 0))),(3, .v (.one (.int .i64 v.1.2.1)))],mem:=[(0, .cells (rFs (cFs v.2.1)))],nx:=1}) q v.1.2.2.2.1
def Cc:HS:=⟨[(1, .one (.ptr 0 0)),(3, .one (.int .i64))],[(0, .cells hFs)],1⟩
def LU {R:Type}:Nat→HS.V Cc→(Ex→St→Option R)→Option R:=fun q v K=>
 gU (cFs v.2.1) (K .ret {az:=[(2, .v (.one (.bool false)))],mem:= [],nx:=0}) (K (.exit 0) {az:=[(1, .v (.one (.ptr 0 0)))],mem:=[(0, .cells (rFs (cFs v.2.1)))],nx:=1}) q v.1.2.1
def Sl:List HV:=[.agg hFs]
def Q2:List HV:=[.one (.bool)]
def ake:HP.V Sl→Fs:=fun v=>((cFs v.1))
def afU:HX.V Q2→Bool:=fun v=>(v)
def ana:Bool→HX.V Q2:=fun y=>(y)
def adH:Fs→Option (Bool):=fun x=>jn x
def TW:Spec:=aT Sl Q2 ake ana adH
def O5 {R:Type}:List (Nat×Hd R):=[(2,bC Cc LU),(8,bC Bw Jo)]
def H7 {R:Type}:List (Nat×Inl R):= []
def I7:Cfg:={T:=v8,aX:=aE.G Tryz.prog,eqs:=wy,N:=51,fuel:=64,loops:=[(8,⟨[1,3,4,5], [],[0,1],2, [], [], [], []⟩),(2,⟨[1,3], [],[0],1, [], [], [], []⟩)],blocks:=[(0,⟨[1], [],[0],1, [], [], [], []⟩),(1,⟨[1,3], [],[0],1, [], [], [], []⟩),(2,⟨[1,3], [],[0],1, [], [], [], []⟩)],eX:=some ⟨[2], [], [],0, [], [], [], []⟩,fid:=31}
theorem air:aF Tryz.prog I7:=aZ xR yc trivial
theorem ajN {R:Type}:aO Tryz.prog (R:=R) 0 H7:=aA _ _
theorem aeg {R:Type}:bA (R:=R) (hnd 0 H7) I7 O5 (sub [1,0,1,0,0] CD) (HS.V Cc) (HS.st Cc) (HS.sh Cc) LU (bC Cc LU):=aM Cc LU (fun _ _=>rfl) (by intro q v K;kernel_rfl)
theorem aio {R:Type}:bA (R:=R) (hnd 0 H7) I7 O5 (sub [1,0,1,0,0,1,0,0,1,1,1,0,0] CD) (HS.V Bw) (HS.st Bw) (HS.sh Bw) Jo (bC Bw Jo):=aM Bw Jo (fun _ _=>rfl) (by intro q v K;kernel_rfl)
theorem abd {R:Type}:aJ (R:=R) (hnd 0 H7) I7 O5 CD:=aB (l:=[sub [1,0,1,0,0] CD,sub [1,0,1,0,0,1,0,0,1,1,1,0,0] CD]) (by kernel_rfl) (aH (b:=sub [1,0,1,0,0] CD) (rid:=2) (by kernel_rfl) (by kernel_rfl) aeg (aH (b:=sub [1,0,1,0,0,1,0,0,1,1,1,0,0] CD) (rid:=8) (by kernel_rfl) (by kernel_rfl) aio (trivial)))
theorem alb:aS Tryz.prog 31 TW:=bl Tryz.f31 air yE (d:=0) ajN abd (bw (by kernel_rfl)) (toY:=afU)
def Da:HS:=⟨[(1, .one (.int .i64)),(2, .one (.ptr 0 0)),(4, .one (.ptr 1 0)),(6, .one (.int .i64))],[(0, .cells hFs),(1, .cells hIn)],2⟩
def Lk {R:Type}:Nat→HS.V Da→(Ex→St→Option R)→Option R:=fun q v K=>
 g_ v.1.1 (cFs v.2.1) (fun y8=>K .ret {az:=[(4, .v (.one (.ptr 1 0))),(5, .v (.one (.bool true)))],mem:=[(1, .cells [.int .i64 y8.ino, .int .i64 y8.kind, .int .i64 y8.aq, .str y8.data, .int .i64 y8.parent, .sl .entry y8.entries])],nx:=2}) (K (.exit 0) {az:=[(4, .v (.one (.ptr 1 0)))],mem:=[(1, .cells (rIn (cIn v.2.2.1)))],nx:=2}) q v.1.2.2.2.1
def VE:List HV:=[.agg hFs, .one (.int .i64)]
def OO:List HV:=[.agg hIn, .one (.bool)]
def ahB:HP.V VE→Fs×Int:=fun v=>((cFs v.1),v.2.1)
def aet:HX.V OO→ae×Bool:=fun v=>((cIn v.1),v.2)
def adJ:(ae×Bool)→HX.V OO:=fun y=>(uIn y.1,y.2)
def ajW:(Fs×Int)→Option (ae×Bool):=fun x=>bB x.1 x.2
def nR:Spec:=aT VE OO ahB adJ ajW
def RM {R:Type}:List (Nat×Hd R):=[(2,bC Da Lk)]
def NJ {R:Type}:List (Nat×Inl R):= []
def M_:Cfg:={T:=v8,aX:=aE.G Tryz.prog,eqs:=wy,N:=28,fuel:=64,loops:=[(2,⟨[1,2,4,6], [],[0,1],2, [],[1], [], []⟩)],blocks:=[(0,⟨[4], [],[1],2, [], [], [], []⟩)],eX:=some ⟨[4,5], [],[1],2, [],[1], [], []⟩,fid:=15}
theorem aaZ:aF Tryz.prog M_:=aZ xR yc trivial
theorem alO {R:Type}:aO Tryz.prog (R:=R) 0 NJ:=aA _ _
theorem aia {R:Type}:bA (R:=R) (hnd 0 NJ) M_ RM (sub [1,0,1,0,0] JX) (HS.V Da) (HS.st Da) (HS.sh Da) Lk (bC Da Lk):=aM Da Lk (fun _ _=>rfl) (by intro q v K;kernel_rfl)
theorem aje {R:Type}:aJ (R:=R) (hnd 0 NJ) M_ RM JX:=aB (l:=[sub [1,0,1,0,0] JX]) (by kernel_rfl) (aH (b:=sub [1,0,1,0,0] JX) (rid:=2) (by kernel_rfl) (by kernel_rfl) aia (trivial))
theorem n7:aS Tryz.prog 15 nR:=bl Tryz.f15 aaZ yE (d:=0) alO aje (bw (by kernel_rfl)) (toY:=aet)
def CO:HS:=⟨[(1, .one (.ptr 0 0)),(3, .one (.int .i64))],[(0, .cells hFs)],1⟩
def Lu {R:Type}:Nat→HS.V CO→(Ex→St→Option R)→Option R:=fun q v K=>
 ia (cFs v.2.1) (K .ret {az:=[(2, .v (.one (.bool false)))],mem:= [],nx:=0}) (K (.exit 0) {az:= [],mem:= [],nx:=0}) q v.1.2.1
def Tt:List HV:=[.agg hFs]
def MT:List HV:=[.one (.bool)]
def abx:HP.V Tt→Fs:=fun v=>((cFs v.1))
def ady:HX.V MT→Bool:=fun v=>(v)
def ais:Bool→HX.V MT:=fun y=>(y)
def ahi:Fs→Option (Bool):=fun x=>k6 x
def OH:Spec:=aT Tt MT abx ais ahi
def Th {R:Type}:List (Nat×Hd R):=[(2,bC CO Lu)]
def Nq {R:Type}:List (Nat×Inl R):= []
def MF:Cfg:={T:=v8,aX:=aE.G Tryz.prog,eqs:=wy,N:=25,fuel:=64,loops:=[(2,⟨[1,3], [],[0],1, [], [], [], []⟩)],blocks:=[(0,⟨[], [], [],0, [], [], [], []⟩)],eX:=some ⟨[2], [], [],0, [], [], [], []⟩,fid:=62}
theorem amG:aF Tryz.prog MF:=aZ xR yc trivial
theorem aoj {R:Type}:aO Tryz.prog (R:=R) 0 Nq:=aA _ _
theorem alA {R:Type}:bA (R:=R) (hnd 0 Nq) MF Th (sub [1,0,1,0,0] Jg) (HS.V CO) (HS.st CO) (HS.sh CO) Lu (bC CO Lu):=aM CO Lu (fun _ _=>rfl) (by intro q v K;kernel_rfl)
theorem ajD {R:Type}:aJ (R:=R) (hnd 0 Nq) MF Th Jg:=aB (l:=[sub [1,0,1,0,0] Jg]) (by kernel_rfl) (aH (b:=sub [1,0,1,0,0] Jg) (rid:=2) (by kernel_rfl) (by kernel_rfl) alA (trivial))
theorem Wo:aS Tryz.prog 62 OH:=bl Tryz.f62 amG yE (d:=0) aoj ajD (bw (by kernel_rfl)) (toY:=ady)
end
end Go.Eng
set_option linter.unusedVariables false
set_option maxRecDepth 100000
namespace Go.Eng
noncomputable section
open Go Go.Proofs
def Q7:List (Nat×TI):=[(3,⟨false,1, .one (.int .i64 0), .int .i64⟩),(9,⟨false,1, .one (.str []), .str⟩),(22,⟨false,1, .one (.clip .aL []), .slice .aL 39⟩),(24,⟨true,4, .agg [.int .i64 0, .int .i64 0, .int .i64 0, .clip .aL []], .struct [(0,3),(1,3),(2,3),(3,22)]⟩),(39,⟨true,6, .agg [.int .i64 0, .int .i64 0, .int .i64 0, .str [], .int .i64 0, .clip .entry []], .struct [(0,3),(1,3),(2,3),(3,9),(4,3),(5,37)]⟩)]
def Pw:List (Nat×List EK):= []
theorem Rq:Tryz.prog.follows .mixedOrders=true:=by kernel_rfl
theorem TL:(Q7.all fun x=>tiB Tryz.prog x.1 x.2)=true:=by kernel_rfl
theorem Xa:(Pw.all fun x=>eqB Tryz.prog x.1 x.2)=true:=by kernel_rfl
def Ln:Code:=bd Tryz.f104
def Bs:HS:=⟨[(1, .one (.ptr 0 0)),(3, .one (.int .i64)),(4, .one (.int .i64))],[(0, .cells hFs)],1⟩
def Jl {R:Type}:Nat→HS.V Bs→(Ex→St→Option R)→Option R:=fun q v K=>
 eB (cFs v.2.1) (fun y6=>K (.exit 0) {az:=[(3, .v (.one (.int .i64 y6)))],mem:= [],nx:=0}) q v.1.2.1 v.1.2.2.1
def WG:List HV:=[.agg hFs]
def M0:List HV:=[.one (.int .i64)]
def ak9:HP.V WG→Fs:=fun v=>((cFs v.1))
def aoC:HX.V M0→Int:=fun v=>(v)
def Z2:Int→HX.V M0:=fun y=>(y)
def akI:Fs→Option (Int):=fun x=>lQ x
def UA:Spec:=aT WG M0 ak9 Z2 akI
def Uk {R:Type}:List (Nat×Hd R):=[(3,bC Bs Jl)]
def MO {R:Type}:List (Nat×Inl R):= []
def NO:Cfg:={T:=Q7,aX:=aE.G Tryz.prog,eqs:=Pw,N:=29,fuel:=64,loops:=[(3,⟨[1,3,4], [],[0],1, [], [], [], []⟩)],blocks:=[(0,⟨[3], [], [],0, [], [], [], []⟩)],fid:=104}
theorem amW:aF Tryz.prog NO:=aZ TL Xa trivial
theorem aaD {R:Type}:aO Tryz.prog (R:=R) 0 MO:=aA _ _
theorem ab1 {R:Type}:bA (R:=R) (hnd 0 MO) NO Uk (sub [1,1,0,1,0,0] Ln) (HS.V Bs) (HS.st Bs) (HS.sh Bs) Jl (bC Bs Jl):=aM Bs Jl (fun _ _=>rfl) (by intro q v K;kernel_rfl)
theorem aj6 {R:Type}:aJ (R:=R) (hnd 0 MO) NO Uk Ln:=aB (l:=[sub [1,1,0,1,0,0] Ln]) (by kernel_rfl) (aH (b:=sub [1,1,0,1,0,0] Ln) (rid:=3) (by kernel_rfl) (by kernel_rfl) ab1 (trivial))
theorem anW:aS Tryz.prog 104 UA:=bl Tryz.f104 amW Rq (d:=0) aaD aj6 (bw (by kernel_rfl)) (toY:=aoC)
def VR:List HV:=[.agg hFs, .one (.int .i64), .one (.int .i64)]
def Og:List HV:=[.one (.bool)]
def aa5:HP.V VR→Fs×Int×Int:=fun v=>((cFs v.1),v.2.1,v.2.2.1)
def aa7:HX.V Og→Bool:=fun v=>(v)
def anN:Bool→HX.V Og:=fun y=>(y)
def adE:(Fs×Int×Int)→Option (Bool):=fun x=>eH x.1 x.2.1 x.2.2
def Ia:Spec:=aT VR Og aa5 anN adE
def amk:Cfg:={T:=Q7,spec:=[(104,UA)],aX:=aE.G Tryz.prog,eqs:=Pw,N:=22,fuel:=64,fid:=58}
theorem ai0:aF Tryz.prog amk:=aZ TL Xa ⟨anW,trivial⟩
theorem MJ:aS Tryz.prog 58 Ia:=bV Tryz.f58 ai0 Rq (toY:=aa7)
end
end Go.Eng
set_option linter.unusedVariables false
set_option maxRecDepth 100000
namespace Go.Eng
noncomputable section
open Go Go.Proofs
def AQ:List (Nat×TI):=[(3,⟨false,1, .one (.int .i64 0), .int .i64⟩),(9,⟨false,1, .one (.str []), .str⟩),(22,⟨false,1, .one (.clip .aL []), .slice .aL 39⟩),(24,⟨true,4, .agg [.int .i64 0, .int .i64 0, .int .i64 0, .clip .aL []], .struct [(0,3),(1,3),(2,3),(3,22)]⟩),(37,⟨false,1, .one (.clip .entry []), .slice .entry 90⟩),(39,⟨true,6, .agg [.int .i64 0, .int .i64 0, .int .i64 0, .str [], .int .i64 0, .clip .entry []], .struct [(0,3),(1,3),(2,3),(3,9),(4,3),(5,37)]⟩),(90,⟨true,2, .agg [.str [], .int .i64 0], .struct [(0,9),(1,3)]⟩),(118,⟨false,1, .one (.clip .int []), .slice .int 3⟩)]
def zu:List (Nat×List EK):= []
theorem Bb:Tryz.prog.follows .mixedOrders=true:=by kernel_rfl
theorem CQ:(AQ.all fun x=>tiB Tryz.prog x.1 x.2)=true:=by kernel_rfl
theorem Bq:(zu.all fun x=>eqB Tryz.prog x.1 x.2)=true:=by kernel_rfl
def KZ:Code:=bd Tryz.f64
def Cd:Code:=bd Tryz.f65
def Ba:Code:=bd Tryz.f66
def LK:Code:=bd Tryz.f67
def wi:Code:=bd Tryz.f68
def CG:Code:=bd Tryz.f107
def Bl:HS:=⟨[(1, .one (.ptr 0 0)),(3, .one (.int .i64))],[(0, .cells hFs)],1⟩
def K4 {R:Type}:Nat→HS.V Bl→(Ex→St→Option R)→Option R:=fun q v K=>
 fm (cFs v.2.1) (K .ret {az:=[(2, .v (.one (.bool false)))],mem:= [],nx:=0}) (K (.exit 0) {az:=[(1, .v (.one (.ptr 0 0)))],mem:=[(0, .cells (rFs (cFs v.2.1)))],nx:=1}) q v.1.2.1
def TV:List HV:=[.agg hFs]
def Oi:List HV:=[.one (.bool)]
def abh:HP.V TV→Fs:=fun v=>((cFs v.1))
def aak:HX.V Oi→Bool:=fun v=>(v)
def ahL:Bool→HX.V Oi:=fun y=>(y)
def adu:Fs→Option (Bool):=fun x=>lS x
def UZ:Spec:=aT TV Oi abh ahL adu
def Tv {R:Type}:List (Nat×Hd R):=[(4,bC Bl K4)]
def OI {R:Type}:List (Nat×Inl R):= []
def NC:Cfg:={T:=AQ,spec:=[(15,nR),(62,OH)],aX:=aE.G Tryz.prog,eqs:=zu,N:=69,fuel:=64,loops:=[(4,⟨[1,3], [],[0],1, [], [], [], []⟩)],blocks:=[(0,⟨[1], [],[0],1, [], [], [], []⟩)],eX:=some ⟨[2], [], [],0, [], [], [], []⟩,fid:=64}
theorem ao3:aF Tryz.prog NC:=aZ CQ Bq ⟨n7,⟨Wo,trivial⟩⟩
theorem aho {R:Type}:aO Tryz.prog (R:=R) 0 OI:=aA _ _
theorem ac_ {R:Type}:bA (R:=R) (hnd 0 OI) NC Tv (sub [1,1,0,1,0,0] KZ) (HS.V Bl) (HS.st Bl) (HS.sh Bl) K4 (bC Bl K4):=aM Bl K4 (fun _ _=>rfl) (by intro q v K;kernel_rfl)
theorem ak8 {R:Type}:aJ (R:=R) (hnd 0 OI) NC Tv KZ:=aB (l:=[sub [1,1,0,1,0,0] KZ]) (by kernel_rfl) (aH (b:=sub [1,1,0,1,0,0] KZ) (rid:=4) (by kernel_rfl) (by kernel_rfl) ac_ (trivial))
theorem aeD:aS Tryz.prog 64 UZ:=bl Tryz.f64 ao3 Bb (d:=0) aho ak8 (bw (by kernel_rfl)) (toY:=aak)
def Df:HS:=⟨[(1, .one (.ptr 0 0)),(3, .one (.int .i64)),(4, .one (.ptr 1 0)),(5, .one (.int .i64))],[(0, .cells hFs),(1, .cells hIn)],2⟩
def Lg {R:Type}:Nat→HS.V Df→(Ex→St→Option R)→Option R:=fun q v K=>
 aP (cIn v.2.2.1) (K .ret {az:=[(2, .v (.one (.bool false)))],mem:= [],nx:=0}) (K (.exit 2) {az:=[(1, .v (.one (.ptr 0 0))),(3, .v (.one (.int .i64 v.1.2.1)))],mem:=[(0, .cells (rFs (cFs v.2.1)))],nx:=1}) q v.1.2.2.2.1
def C2:HS:=⟨[(1, .one (.ptr 0 0)),(3, .one (.int .i64))],[(0, .cells hFs)],1⟩
def IQ {R:Type}:Nat→HS.V C2→(Ex→St→Option R)→Option R:=fun q v K=>
 aY (cFs v.2.1) (K .ret {az:=[(2, .v (.one (.bool false)))],mem:= [],nx:=0}) (K (.exit 0) {az:= [],mem:= [],nx:=0}) q v.1.2.1
def Sx:List HV:=[.agg hFs]
def OL:List HV:=[.one (.bool)]
def afc:HP.V Sx→Fs:=fun v=>((cFs v.1))
def ann:HX.V OL→Bool:=fun v=>(v)
def ahO:Bool→HX.V OL:=fun y=>(y)
def af7:Fs→Option (Bool):=fun x=>kx x
def SV:Spec:=aT Sx OL afc ahO af7
def OY {R:Type}:List (Nat×Hd R):=[(2,bC C2 IQ),(14,bC Df Lg)]
def HO {R:Type}:List (Nat×Inl R):= []
def J8:Cfg:={T:=AQ,spec:=[(106,Ue)],aX:=aE.G Tryz.prog,eqs:=zu,N:=91,fuel:=64,loops:=[(14,⟨[1,3,4,5], [],[0,1],2, [], [], [], []⟩),(2,⟨[1,3], [],[0],1, [], [], [], []⟩)],blocks:=[(0,⟨[], [], [],0, [], [], [], []⟩),(1,⟨[1,3], [],[0],1, [], [], [], []⟩),(2,⟨[1,3], [],[0],1, [], [], [], []⟩)],eX:=some ⟨[2], [], [],0, [], [], [], []⟩,fid:=65}
theorem ale:aF Tryz.prog J8:=aZ CQ Bq ⟨anF,trivial⟩
theorem afd {R:Type}:aO Tryz.prog (R:=R) 0 HO:=aA _ _
theorem aeP {R:Type}:bA (R:=R) (hnd 0 HO) J8 OY (sub [1,0,1,0,0] Cd) (HS.V C2) (HS.st C2) (HS.sh C2) IQ (bC C2 IQ):=aM C2 IQ (fun _ _=>rfl) (by intro q v K;kernel_rfl)
theorem akz {R:Type}:bA (R:=R) (hnd 0 HO) J8 OY (sub [1,0,1,0,0,1,0,0,1,1,1,1,1,1,0,0] Cd) (HS.V Df) (HS.st Df) (HS.sh Df) Lg (bC Df Lg):=aM Df Lg (fun _ _=>rfl) (by intro q v K;kernel_rfl)
theorem YO {R:Type}:aJ (R:=R) (hnd 0 HO) J8 OY Cd:=aB (l:=[sub [1,0,1,0,0] Cd,sub [1,0,1,0,0,1,0,0,1,1,1,1,1,1,0,0] Cd]) (by kernel_rfl) (aH (b:=sub [1,0,1,0,0] Cd) (rid:=2) (by kernel_rfl) (by kernel_rfl) aeP (aH (b:=sub [1,0,1,0,0,1,0,0,1,1,1,1,1,1,0,0] Cd) (rid:=14) (by kernel_rfl) (by kernel_rfl) akz (trivial)))
theorem YC:aS Tryz.prog 65 SV:=bl Tryz.f65 ale Bb (d:=0) afd YO (bw (by kernel_rfl)) (toY:=ann)
def Cp:HS:=⟨[(1, .one (.ptr 0 0)),(3, .one (.int .i64)),(4, .one (.int .i64))],[(0, .cells hFs)],1⟩
def Jp {R:Type}:Nat→HS.V Cp→(Ex→St→Option R)→Option R:=fun q v K=>
 er v.1.2.1 (cFs v.2.1) (K .ret {az:=[(2, .v (.one (.bool false)))],mem:= [],nx:=0}) (K (.exit 2) {az:=[(1, .v (.one (.ptr 0 0))),(3, .v (.one (.int .i64 v.1.2.1)))],mem:=[(0, .cells (rFs (cFs v.2.1)))],nx:=1}) q v.1.2.2.1
def C7:HS:=⟨[(1, .one (.ptr 0 0)),(3, .one (.int .i64))],[(0, .cells hFs)],1⟩
def Jx {R:Type}:Nat→HS.V C7→(Ex→St→Option R)→Option R:=fun q v K=>
 fv (cFs v.2.1) (K .ret {az:=[(2, .v (.one (.bool false)))],mem:= [],nx:=0}) (K (.exit 0) {az:= [],mem:= [],nx:=0}) q v.1.2.1
def T4:List HV:=[.agg hFs]
def L0:List HV:=[.one (.bool)]
def ZQ:HP.V T4→Fs:=fun v=>((cFs v.1))
def anI:HX.V L0→Bool:=fun v=>(v)
def ajd:Bool→HX.V L0:=fun y=>(y)
def afY:Fs→Option (Bool):=fun x=>lT x
def SD:Spec:=aT T4 L0 ZQ ajd afY
def PF {R:Type}:List (Nat×Hd R):=[(2,bC C7 Jx),(5,bC Cp Jp)]
def Jn {R:Type}:List (Nat×Inl R):= []
def HG:Cfg:={T:=AQ,spec:=[(15,nR)],aX:=aE.G Tryz.prog,eqs:=zu,N:=42,fuel:=64,loops:=[(5,⟨[1,3,4], [],[0],1, [], [], [], []⟩),(2,⟨[1,3], [],[0],1, [], [], [], []⟩)],blocks:=[(0,⟨[], [], [],0, [], [], [], []⟩),(1,⟨[1,3], [],[0],1, [], [], [], []⟩),(2,⟨[1,3], [],[0],1, [], [], [], []⟩)],eX:=some ⟨[2], [], [],0, [], [], [], []⟩,fid:=66}
theorem akw:aF Tryz.prog HG:=aZ CQ Bq ⟨n7,trivial⟩
theorem aoo {R:Type}:aO Tryz.prog (R:=R) 0 Jn:=aA _ _
theorem amt {R:Type}:bA (R:=R) (hnd 0 Jn) HG PF (sub [1,0,1,0,0] Ba) (HS.V C7) (HS.st C7) (HS.sh C7) Jx (bC C7 Jx):=aM C7 Jx (fun _ _=>rfl) (by intro q v K;kernel_rfl)
theorem ams {R:Type}:bA (R:=R) (hnd 0 Jn) HG PF (sub [1,0,1,0,0,1,0,0,1,0,0] Ba) (HS.V Cp) (HS.st Cp) (HS.sh Cp) Jp (bC Cp Jp):=aM Cp Jp (fun _ _=>rfl) (by intro q v K;kernel_rfl)
theorem aiy {R:Type}:aJ (R:=R) (hnd 0 Jn) HG PF Ba:=aB (l:=[sub [1,0,1,0,0] Ba,sub [1,0,1,0,0,1,0,0,1,0,0] Ba]) (by kernel_rfl) (aH (b:=sub [1,0,1,0,0] Ba) (rid:=2) (by kernel_rfl) (by kernel_rfl) amt (aH (b:=sub [1,0,1,0,0,1,0,0,1,0,0] Ba) (rid:=5) (by kernel_rfl) (by kernel_rfl) ams (trivial)))
theorem ad_:aS Tryz.prog 66 SD:=bl Tryz.f66 akw Bb (d:=0) aoo aiy (bw (by kernel_rfl)) (toY:=anI)
def CP:HS:=⟨[(1, .one (.int .i64)),(2, .one (.ptr 0 0)),(6, .one (.int .i64)),(7, .one (.int .i64)),(8, .one (.int .i64)),(9, .one (.int .i64))],[(0, .cells hFs)],1⟩
def J6 {R:Type}:Nat→HS.V CP→(Ex→St→Option R)→Option R:=fun q v K=>
 dL v.1.1 v.1.2.2.2.2.1 (cFs v.2.1) (fun y17 y18=>K (.exit 2) {az:=[(1, .v (.one (.int .i64 v.1.1))),(2, .v (.one (.ptr 0 0))),(6, .v (.one (.int .i64 y17))),(7, .v (.one (.int .i64 y18))),(8, .v (.one (.int .i64 v.1.2.2.2.2.1)))],mem:=[(0, .cells (rFs (cFs v.2.1)))],nx:=1}) q v.1.2.2.1 v.1.2.2.2.1 v.1.2.2.2.2.2.1
def BI:HS:=⟨[(1, .one (.int .i64)),(2, .one (.ptr 0 0)),(6, .one (.int .i64)),(7, .one (.int .i64)),(8, .one (.int .i64))],[(0, .cells hFs)],1⟩
def Kp {R:Type}:Nat→HS.V BI→(Ex→St→Option R)→Option R:=fun q v K=>
 fq v.1.1 (cFs v.2.1) (fun y23 y24=>K (.exit 0) {az:=[(6, .v (.one (.int .i64 y23))),(7, .v (.one (.int .i64 y24)))],mem:= [],nx:=0}) q v.1.2.2.1 v.1.2.2.2.1 v.1.2.2.2.2.1
def Tb:List HV:=[.agg hFs, .one (.int .i64)]
def P7:List HV:=[.one (.int .i64), .one (.int .i64)]
def Yk:HP.V Tb→Fs×Int:=fun v=>((cFs v.1),v.2.1)
def ahS:HX.V P7→Int×Int:=fun v=>(v.1,v.2)
def anb:(Int×Int)→HX.V P7:=fun y=>(y.1,y.2)
def aax:(Fs×Int)→Option (Int×Int):=fun x=>lM x.1 x.2
def UP:Spec:=aT Tb P7 Yk anb aax
def OM {R:Type}:List (Nat×Hd R):=[(4,bC BI Kp),(7,bC CP J6)]
def Jz {R:Type}:List (Nat×Inl R):= []
def Iu:Cfg:={T:=AQ,aX:=aE.G Tryz.prog,eqs:=zu,N:=50,fuel:=64,loops:=[(7,⟨[1,2,6,7,8,9], [],[0],1, [], [], [], []⟩),(4,⟨[1,2,6,7,8], [],[0],1, [], [], [], []⟩)],blocks:=[(0,⟨[6,7], [], [],0, [], [], [], []⟩),(1,⟨[1,2,6,7,8], [],[0],1, [], [], [], []⟩),(2,⟨[1,2,6,7,8], [],[0],1, [], [], [], []⟩)],fid:=107}
theorem acw:aF Tryz.prog Iu:=aZ CQ Bq trivial
theorem ajw {R:Type}:aO Tryz.prog (R:=R) 0 Jz:=aA _ _
theorem ah_ {R:Type}:bA (R:=R) (hnd 0 Jz) Iu OM (sub [1,1,1,0,1,0,0] CG) (HS.V BI) (HS.st BI) (HS.sh BI) Kp (bC BI Kp):=aM BI Kp (fun _ _=>rfl) (by intro q v K;kernel_rfl)
theorem alm {R:Type}:bA (R:=R) (hnd 0 Jz) Iu OM (sub [1,1,1,0,1,0,0,1,0,0,1,0,0] CG) (HS.V CP) (HS.st CP) (HS.sh CP) J6 (bC CP J6):=aM CP J6 (fun _ _=>rfl) (by intro q v K;kernel_rfl)
theorem ae_ {R:Type}:aJ (R:=R) (hnd 0 Jz) Iu OM CG:=aB (l:=[sub [1,1,1,0,1,0,0] CG,sub [1,1,1,0,1,0,0,1,0,0,1,0,0] CG]) (by kernel_rfl) (aH (b:=sub [1,1,1,0,1,0,0] CG) (rid:=4) (by kernel_rfl) (by kernel_rfl) ah_ (aH (b:=sub [1,1,1,0,1,0,0,1,0,0,1,0,0] CG) (rid:=7) (by kernel_rfl) (by kernel_rfl) alm (trivial)))
theorem XG:aS Tryz.prog 107 UP:=bl Tryz.f107 acw Bb (d:=0) ajw ae_ (bw (by kernel_rfl)) (toY:=ahS)
def A1:HS:=⟨[(1, .one (.ptr 0 0)),(3, .one (.int .i64))],[(0, .cells hFs)],1⟩
def IC {R:Type}:Nat→HS.V A1→(Ex→St→Option R)→Option R:=fun q v K=>
 dp (cFs v.2.1) (K .ret {az:=[(2, .v (.one (.bool false)))],mem:= [],nx:=0}) (K (.exit 0) {az:= [],mem:= [],nx:=0}) q v.1.2.1
def WL:List HV:=[.agg hFs]
def N0:List HV:=[.one (.bool)]
def aa6:HP.V WL→Fs:=fun v=>((cFs v.1))
def aot:HX.V N0→Bool:=fun v=>(v)
def YM:Bool→HX.V N0:=fun y=>(y)
def aaj:Fs→Option (Bool):=fun x=>ky x
def Xg:Spec:=aT WL N0 aa6 YM aaj
def Sb {R:Type}:List (Nat×Hd R):=[(2,bC A1 IC)]
def OK {R:Type}:List (Nat×Inl R):= []
def NK:Cfg:={T:=AQ,spec:=[(107,UP)],aX:=aE.G Tryz.prog,eqs:=zu,N:=57,fuel:=64,loops:=[(2,⟨[1,3], [],[0],1, [], [], [], []⟩)],blocks:=[(0,⟨[], [], [],0, [], [], [], []⟩)],eX:=some ⟨[2], [], [],0, [], [], [], []⟩,fid:=67}
theorem acr:aF Tryz.prog NK:=aZ CQ Bq ⟨XG,trivial⟩
theorem ago {R:Type}:aO Tryz.prog (R:=R) 0 OK:=aA _ _
theorem akE {R:Type}:bA (R:=R) (hnd 0 OK) NK Sb (sub [1,0,1,0,0] LK) (HS.V A1) (HS.st A1) (HS.sh A1) IC (bC A1 IC):=aM A1 IC (fun _ _=>rfl) (by intro q v K;kernel_rfl)
theorem acp {R:Type}:aJ (R:=R) (hnd 0 OK) NK Sb LK:=aB (l:=[sub [1,0,1,0,0] LK]) (by kernel_rfl) (aH (b:=sub [1,0,1,0,0] LK) (rid:=2) (by kernel_rfl) (by kernel_rfl) akE (trivial))
theorem amN:aS Tryz.prog 67 Xg:=bl Tryz.f67 acr Bb (d:=0) ago acp (bw (by kernel_rfl)) (toY:=aot)
def Dd:HS:=⟨[(1, .one (.ptr 0 0)),(3, .one (.own 1)),(4, .one (.int .i64)),(5, .one (.ptr 2 0)),(7, .one (.int .i64)),(8, .one (.bool)),(9, .one (.int .i64))],[(0, .cells hFs),(1, .row .int),(2, .cells hIn)],3⟩
def Lh {R:Type}:Nat→HS.V Dd→(Ex→St→Option R)→Option R:=fun q v K=>
 dq v.1.2.2.2.2.1 v.2.2.1 (cIn v.2.2.2.1) (fun y22=>K (.exit 4) {az:=[(1, .v (.one (.ptr 0 0))),(3, .v (.one (.own 1))),(4, .v (.one (.int .i64 v.1.2.2.1))),(5, .v (.one (.ptr 2 0))),(7, .v (.one (.int .i64 v.1.2.2.2.2.1))),(8, .v (.one (.bool y22)))],mem:=[(0, .cells (rFs (cFs v.2.1))),(1, .row .int v.2.2.1),(2, .cells (rIn (cIn v.2.2.2.1)))],nx:=3}) q v.1.2.2.2.2.2.1 v.1.2.2.2.2.2.2.1
def C0:HS:=⟨[(1, .one (.ptr 0 0)),(3, .one (.own 1)),(4, .one (.int .i64)),(5, .one (.ptr 2 0)),(7, .one (.int .i64))],[(0, .cells hFs),(1, .row .int),(2, .cells hIn)],3⟩
def Kt {R:Type}:Nat→HS.V C0→(Ex→St→Option R)→Option R:=fun q v K=>
 dK (cIn v.2.2.2.1) (fun y30=>K (.exit 2) {az:=[(1, .v (.one (.ptr 0 0))),(3, .v (.one (.own 1))),(4, .v (.one (.int .i64 v.1.2.2.1)))],mem:=[(0, .cells (rFs (cFs v.2.1))),(1, .row .int y30)],nx:=2}) q v.1.2.2.2.2.1 v.2.2.1
def Cs:HS:=⟨[(1, .one (.ptr 0 0)),(3, .one (.own 1)),(4, .one (.int .i64))],[(0, .cells hFs),(1, .row .int)],2⟩
def JI {R:Type}:Nat→HS.V Cs→(Ex→St→Option R)→Option R:=fun q v K=>
 gq (cFs v.2.1) (fun y33=>K (.exit 0) {az:=[(1, .v (.one (.ptr 0 0))),(3, .v (.one (.own 1)))],mem:=[(0, .cells (rFs (cFs v.2.1))),(1, .row .int y33)],nx:=2}) q v.1.2.2.1 v.2.2.1
def Vu:List HV:=[.agg hFs]
def Nn:List HV:=[.one (.bool)]
def af_:HP.V Vu→Fs:=fun v=>((cFs v.1))
def YW:HX.V Nn→Bool:=fun v=>(v)
def al7:Bool→HX.V Nn:=fun y=>(y)
def abN:Fs→Option (Bool):=fun x=>mb x
def TO:Spec:=aT Vu Nn af_ al7 abN
def Ly {R:Type}:List (Nat×Hd R):=[(3,bC Cs JI),(7,bC C0 Kt),(11,bC Dd Lh)]
def Hx {R:Type}:List (Nat×Inl R):= []
def Hk:Cfg:={T:=AQ,spec:=[(15,nR)],aX:=aE.G Tryz.prog,eqs:=zu,N:=70,fuel:=64,loops:=[(11,⟨[1,3,4,5,7,8,9], [],[0,1,2],3, [], [], [], []⟩),(7,⟨[1,3,4,5,7], [],[0,1,2],3, [], [], [], []⟩),(3,⟨[1,3,4], [],[0,1],2, [], [], [], []⟩)],blocks:=[(0,⟨[1,3], [],[0,1],2, [], [], [], []⟩),(1,⟨[1,3,4], [],[0,1],2, [], [], [], []⟩),(2,⟨[1,3,4], [],[0,1],2, [], [], [], []⟩),(3,⟨[1,3,4,5,7], [],[0,1,2],3, [], [], [], []⟩),(4,⟨[1,3,4,5,7,8], [],[0,1,2],3, [], [], [], []⟩)],fid:=68}
theorem aeC:aF Tryz.prog Hk:=aZ CQ Bq ⟨n7,trivial⟩
theorem aiM {R:Type}:aO Tryz.prog (R:=R) 0 Hx:=aA _ _
theorem adK {R:Type}:bA (R:=R) (hnd 0 Hx) Hk Ly (sub [1,1,0,1,0,0] wi) (HS.V Cs) (HS.st Cs) (HS.sh Cs) JI (bC Cs JI):=aM Cs JI (fun _ _=>rfl) (by intro q v K;kernel_rfl)
theorem aaW {R:Type}:bA (R:=R) (hnd 0 Hx) Hk Ly (sub [1,1,0,1,0,0,1,0,0,1,1,0,0] wi) (HS.V C0) (HS.st C0) (HS.sh C0) Kt (bC C0 Kt):=aM C0 Kt (fun _ _=>rfl) (by intro q v K;kernel_rfl)
theorem aiF {R:Type}:bA (R:=R) (hnd 0 Hx) Hk Ly (sub [1,1,0,1,0,0,1,0,0,1,1,0,0,1,0,0,1,0,1,0,0] wi) (HS.V Dd) (HS.st Dd) (HS.sh Dd) Lh (bC Dd Lh):=aM Dd Lh (fun _ _=>rfl) (by intro q v K;kernel_rfl)
theorem alF {R:Type}:aJ (R:=R) (hnd 0 Hx) Hk Ly wi:=aB (l:=[sub [1,1,0,1,0,0] wi,sub [1,1,0,1,0,0,1,0,0,1,1,0,0] wi,sub [1,1,0,1,0,0,1,0,0,1,1,0,0,1,0,0,1,0,1,0,0] wi]) (by kernel_rfl) (aH (b:=sub [1,1,0,1,0,0] wi) (rid:=3) (by kernel_rfl) (by kernel_rfl) adK (aH (b:=sub [1,1,0,1,0,0,1,0,0,1,1,0,0] wi) (rid:=7) (by kernel_rfl) (by kernel_rfl) aaW (aH (b:=sub [1,1,0,1,0,0,1,0,0,1,1,0,0,1,0,0,1,0,1,0,0] wi) (rid:=11) (by kernel_rfl) (by kernel_rfl) aiF (trivial))))
theorem aeZ:aS Tryz.prog 68 TO:=bl Tryz.f68 aeC Bb (d:=0) aiM alF (bw (by kernel_rfl)) (toY:=YW)
def Sa:List HV:=[.agg hFs]
def OR:List HV:=[.one (.int .i64)]
def aaA:HP.V Sa→Fs:=fun v=>((cFs v.1))
def ame:HX.V OR→Int:=fun v=>(v)
def alG:Int→HX.V OR:=fun y=>(y)
def ahU:Fs→Option (Int):=fun x=>e_ x
def PA:Spec:=aT Sa OR aaA alG ahU
def XI:Cfg:={T:=AQ,spec:=[(58,Ia),(64,UZ),(65,SV),(66,SD),(67,Xg),(68,TO)],aX:=aE.G Tryz.prog,eqs:=zu,N:=21,fuel:=64,fid:=26}
theorem Yx:aF Tryz.prog XI:=aZ CQ Bq ⟨MJ,⟨aeD,⟨YC,⟨ad_,⟨amN,⟨aeZ,trivial⟩⟩⟩⟩⟩⟩
theorem U5:aS Tryz.prog 26 PA:=bV Tryz.f26 Yx Bb (toY:=ame)
end
end Go.Eng
set_option linter.unusedVariables false
set_option maxRecDepth 100000
namespace Go.Eng
noncomputable section
open Go Go.Proofs
def TY:List (Nat×TI):=[(3,⟨false,1, .one (.int .i64 0), .int .i64⟩),(9,⟨false,1, .one (.str []), .str⟩),(24,⟨true,4, .agg [.int .i64 0, .int .i64 0, .int .i64 0, .clip .aL []], .struct [(0,3),(1,3),(2,3),(3,22)]⟩),(34,⟨true,3, .agg [.int .i64 0, .str [], .int .i64 0], .struct [(0,3),(1,9),(2,3)]⟩),(37,⟨false,1, .one (.clip .entry []), .slice .entry 90⟩),(39,⟨true,6, .agg [.int .i64 0, .int .i64 0, .int .i64 0, .str [], .int .i64 0, .clip .entry []], .struct [(0,3),(1,3),(2,3),(3,9),(4,3),(5,37)]⟩),(67,⟨false,1, .one (.clip .str []), .slice .str 9⟩)]
def Va:List (Nat×List EK):= []
theorem abk:Tryz.prog.follows .mixedOrders=true:=by kernel_rfl
theorem agz:(TY.all fun x=>tiB Tryz.prog x.1 x.2)=true:=by kernel_rfl
theorem afl:(Va.all fun x=>eqB Tryz.prog x.1 x.2)=true:=by kernel_rfl
def KU:Code:=bd Tryz.f14
def Dc:HS:=⟨[(2, .one (.ptr 0 0)),(4, .one (.ptr 1 0)),(6, .one (.sl .str)),(8, .one (.ptr 2 0)),(9, .one (.int .i64))],[(0, .cells hFs),(1, .cells [.int .i64, .str, .int .i64]),(2, .cells [.int .i64, .str, .int .i64])],3⟩
def Lq {R:Type}:Nat→HS.V Dc→(Ex→St→Option R)→Option R:=fun q v K=>
 iB v.1.2.2.1 (cFs v.2.1) (fun y11=>K .ret {az:=[(4, .v (.one (.ptr 1 0))),(5, .v (.one (.int .i64 y11)))],mem:=[(1, .cells [.int .i64 ((⟨0, [],0⟩:ax).dir), .str ((⟨0, [],0⟩:ax).name), .int .i64 ((⟨0, [],0⟩:ax).ino)])],nx:=2}) (fun y14=>K (.exit 0) {az:=[(4, .v (.one (.ptr 1 0))),(8, .v (.one (.ptr 2 0)))],mem:=[(1, .cells [.int .i64 ((⟨v.2.2.1.1,v.2.2.1.2.1,v.2.2.1.2.2.1⟩:ax).dir), .str ((⟨v.2.2.1.1,v.2.2.1.2.1,v.2.2.1.2.2.1⟩:ax).name), .int .i64 ((⟨v.2.2.1.1,v.2.2.1.2.1,v.2.2.1.2.2.1⟩:ax).ino)]),(2, .cells [.int .i64 y14.dir, .str y14.name, .int .i64 y14.ino])],nx:=3}) q v.1.2.2.2.2.1 (⟨v.2.2.2.1.1,v.2.2.2.1.2.1,v.2.2.2.1.2.2.1⟩:ax)
def VJ:List HV:=[.agg hFs, .one (.str)]
def Pt:List HV:=[.agg [.int .i64, .str, .int .i64], .one (.int .i64)]
def aaX:HP.V VJ→Fs×Str:=fun v=>((cFs v.1),v.2.1)
def adL:HX.V Pt→ax×Int:=fun v=>((⟨v.1.1,v.1.2.1,v.1.2.2.1⟩:ax),v.2)
def Y5:(ax×Int)→HX.V Pt:=fun y=>((y.1.dir,(y.1.name,(y.1.ino,()))),y.2)
def ajr:(Fs×Str)→Option (ax×Int):=fun x=>iO x.1 x.2
def Hl:Spec:=aT VJ Pt aaX Y5 ajr
def VO {R:Type}:List (Nat×Hd R):=[(6,bC Dc Lq)]
def Qk {R:Type}:List (Nat×Inl R):= []
def MA:Cfg:={T:=TY,spec:=[(15,nR),(36,Vx),(37,Ry)],aX:=aE.G Tryz.prog,eqs:=Va,N:=63,fuel:=64,loops:=[(6,⟨[2,4,6,8,9], [],[0,1,2],3, [], [], [], []⟩)],blocks:=[(0,⟨[4,8], [],[1,2],3, [], [], [], []⟩)],eX:=some ⟨[4,5], [],[1],2, [], [], [], []⟩,fid:=14}
theorem ajC:aF Tryz.prog MA:=aZ agz afl ⟨n7,⟨aad,⟨alE,trivial⟩⟩⟩
theorem ach {R:Type}:aO Tryz.prog (R:=R) 0 Qk:=aA _ _
theorem ao1 {R:Type}:bA (R:=R) (hnd 0 Qk) MA VO (sub [1,1,1,1,0,1,0,0] KU) (HS.V Dc) (HS.st Dc) (HS.sh Dc) Lq (bC Dc Lq):=aM Dc Lq (fun _ _=>rfl) (by intro q v K;kernel_rfl)
theorem anu {R:Type}:aJ (R:=R) (hnd 0 Qk) MA VO KU:=aB (l:=[sub [1,1,1,1,0,1,0,0] KU]) (by kernel_rfl) (aH (b:=sub [1,1,1,1,0,1,0,0] KU) (rid:=6) (by kernel_rfl) (by kernel_rfl) ao1 (trivial))
theorem Je:aS Tryz.prog 14 Hl:=bl Tryz.f14 ajC abk (d:=0) ach anu (bw (by kernel_rfl)) (toY:=adL)
end
end Go.Eng
set_option linter.unusedVariables false
set_option maxRecDepth 100000
namespace Go.Eng
noncomputable section
open Go Go.Proofs
def No:List (Nat×TI):=[(3,⟨false,1, .one (.int .i64 0), .int .i64⟩),(9,⟨false,1, .one (.str []), .str⟩),(24,⟨true,4, .agg [.int .i64 0, .int .i64 0, .int .i64 0, .clip .aL []], .struct [(0,3),(1,3),(2,3),(3,22)]⟩),(34,⟨true,3, .agg [.int .i64 0, .str [], .int .i64 0], .struct [(0,3),(1,9),(2,3)]⟩),(37,⟨false,1, .one (.clip .entry []), .slice .entry 90⟩),(39,⟨true,6, .agg [.int .i64 0, .int .i64 0, .int .i64 0, .str [], .int .i64 0, .clip .entry []], .struct [(0,3),(1,3),(2,3),(3,9),(4,3),(5,37)]⟩)]
def P5:List (Nat×List EK):= []
theorem Vn:Tryz.prog.follows .mixedOrders=true:=by kernel_rfl
theorem Si:(No.all fun x=>tiB Tryz.prog x.1 x.2)=true:=by kernel_rfl
theorem Xf:(P5.all fun x=>eqB Tryz.prog x.1 x.2)=true:=by kernel_rfl
def Vg:List HV:=[.agg hFs, .agg [.int .i64, .str, .int .i64]]
def OJ:List HV:=[.agg hFs]
def ajv:HP.V Vg→Fs×ax:=fun v=>((cFs v.1),(⟨v.2.1.1,v.2.1.2.1,v.2.1.2.2.1⟩:ax))
def age:HX.V OJ→Fs:=fun v=>((cFs v))
def alR:Fs→HX.V OJ:=fun y=>(uFs y)
def afw:(Fs×ax)→Option (Fs):=fun x=>kp x.1 x.2
def VP:Spec:=aT Vg OJ ajv alR afw
def anv:Cfg:={T:=No,spec:=[(15,nR),(47,CB),(59,KC),(96,QQ)],aX:=aE.G Tryz.prog,eqs:=P5,N:=46,fuel:=64,fid:=46}
theorem anz:aF Tryz.prog anv:=aZ Si Xf ⟨n7,⟨Fl,⟨PS,⟨WX,trivial⟩⟩⟩⟩
theorem agU:aS Tryz.prog 46 VP:=bV Tryz.f46 anz Vn (toY:=age)
def UH:List HV:=[.agg hFs, .agg [.int .i64, .str, .int .i64], .one (.int .i64)]
def PC:List HV:=[.agg hFs]
def aoL:HP.V UH→Fs×ax×Int:=fun v=>((cFs v.1),(⟨v.2.1.1,v.2.1.2.1,v.2.1.2.2.1⟩:ax),v.2.2.1)
def aiY:HX.V PC→Fs:=fun v=>((cFs v))
def anf:Fs→HX.V PC:=fun y=>(uFs y)
def Yw:(Fs×ax×Int)→Option (Fs):=fun x=>dA x.1 x.2.1 x.2.2
def Sz:Spec:=aT UH PC aoL anf Yw
def alg:Cfg:={T:=No,spec:=[(15,nR),(47,CB),(105,Rr)],aX:=aE.G Tryz.prog,eqs:=P5,N:=40,fuel:=64,fid:=60}
theorem amS:aF Tryz.prog alg:=aZ Si Xf ⟨n7,⟨Fl,⟨aft,trivial⟩⟩⟩
theorem abT:aS Tryz.prog 60 Sz:=bV Tryz.f60 amS Vn (toY:=aiY)
end
end Go.Eng
set_option linter.unusedVariables false
set_option maxRecDepth 100000
namespace Go.Eng
noncomputable section
open Go Go.Proofs
def qo:List (Nat×TI):=[(3,⟨false,1, .one (.int .i64 0), .int .i64⟩),(4,⟨false,1, .one (.bool false), .bool⟩),(9,⟨false,1, .one (.str []), .str⟩),(22,⟨false,1, .one (.clip .aL []), .slice .aL 39⟩),(24,⟨true,4, .agg [.int .i64 0, .int .i64 0, .int .i64 0, .clip .aL []], .struct [(0,3),(1,3),(2,3),(3,22)]⟩),(25,⟨false,1, .one (.clip .kept []), .slice .kept 60⟩),(27,⟨true,2, .agg [.clip .kept [], .clip .aL []], .struct [(0,25),(1,22)]⟩),(29,⟨true,6, .agg [.int .i64 0, .int .i64 0, .int .i64 0, .clip .aL [], .clip .kept [], .clip .aL []], .struct [(0,24),(4,27)]⟩),(34,⟨true,3, .agg [.int .i64 0, .str [], .int .i64 0], .struct [(0,3),(1,9),(2,3)]⟩),(37,⟨false,1, .one (.clip .entry []), .slice .entry 90⟩),(39,⟨true,6, .agg [.int .i64 0, .int .i64 0, .int .i64 0, .str [], .int .i64 0, .clip .entry []], .struct [(0,3),(1,3),(2,3),(3,9),(4,3),(5,37)]⟩),(60,⟨true,4, .agg [.int .i64 0, .int .i64 0, .bool false, .str []], .struct [(0,3),(1,3),(2,4),(3,9)]⟩)]
def q9:List (Nat×List EK):=[(60,[.i, .i, .b, .s])]
theorem rN:Tryz.prog.follows .mixedOrders=true:=by kernel_rfl
theorem r6:(qo.all fun x=>tiB Tryz.prog x.1 x.2)=true:=by kernel_rfl
theorem rm:(q9.all fun x=>eqB Tryz.prog x.1 x.2)=true:=by kernel_rfl
def JS:Code:=bd Tryz.f10
def KQ:Code:=bd Tryz.f12
def BO:Code:=bd Tryz.f25
def JG:Code:=bd Tryz.f45
def K_:Code:=bd Tryz.f48
def H_:Code:=bd Tryz.f61
def CV:Code:=bd Tryz.f63
def BY:HS:=⟨[(2, .one (.ptr 0 0)),(3, .one (.ptr 1 0)),(5, .one (.int .i64))],[(0, .cells hW),(1, .cells hW)],2⟩
def Kb {R:Type}:Nat→HS.V BY→(Ex→St→Option R)→Option R:=fun q v K=>
 fR (cW v.2.1) (cW v.2.2.1) (K .ret {az:=[(4, .v (.one (.bool false)))],mem:= [],nx:=0}) (K (.exit 0) {az:= [],mem:= [],nx:=0}) q v.1.2.2.1
def Ve:List HV:=[.agg hW, .agg hW]
def Qr:List HV:=[.one (.bool)]
def ac4:HP.V Ve→ao×ao:=fun v=>((cW v.1),(cW v.2.1))
def adp:HX.V Qr→Bool:=fun v=>(v)
def Z6:Bool→HX.V Qr:=fun y=>(y)
def afe:(ao×ao)→Option (Bool):=fun x=>bo x.1 x.2
def Az:Spec:=aT Ve Qr ac4 Z6 afe
def RO {R:Type}:List (Nat×Hd R):=[(4,bC BY Kb)]
def Pk {R:Type}:List (Nat×Inl R):= []
def Px:Cfg:={T:=qo,spec:=[(34,VQ),(35,Oc)],aX:=aE.G Tryz.prog,eqs:=q9,N:=54,fuel:=64,loops:=[(4,⟨[2,3,5], [],[0,1],2, [], [], [], []⟩)],blocks:=[(0,⟨[], [], [],0, [], [], [], []⟩)],eX:=some ⟨[4], [], [],0, [], [], [], []⟩,fid:=12}
theorem afq:aF Tryz.prog Px:=aZ r6 rm ⟨ZM,⟨US,trivial⟩⟩
theorem aa0 {R:Type}:aO Tryz.prog (R:=R) 0 Pk:=aA _ _
theorem YI {R:Type}:bA (R:=R) (hnd 0 Pk) Px RO (sub [1,1,0,1,0,0] KQ) (HS.V BY) (HS.st BY) (HS.sh BY) Kb (bC BY Kb):=aM BY Kb (fun _ _=>rfl) (by intro q v K;kernel_rfl)
theorem ahx {R:Type}:aJ (R:=R) (hnd 0 Pk) Px RO KQ:=aB (l:=[sub [1,1,0,1,0,0] KQ]) (by kernel_rfl) (aH (b:=sub [1,1,0,1,0,0] KQ) (rid:=4) (by kernel_rfl) (by kernel_rfl) YI (trivial))
theorem B4:aS Tryz.prog 12 Az:=bl Tryz.f12 afq rN (d:=0) aa0 ahx (bw (by kernel_rfl)) (toY:=adp)
def WH:List HV:=[.agg hW]
def Qn:List HV:=[.agg hFs]
def ahD:HP.V WH→ao:=fun v=>((cW v.1))
def aha:HX.V Qn→Fs:=fun v=>((cFs v))
def aoA:Fs→HX.V Qn:=fun y=>(uFs y)
def ahC:ao→Option (Fs):=fun x=>cv x
def Ej:Spec:=aT WH Qn ahD aoA ahC
def adF:Cfg:={T:=qo,aX:=aE.G Tryz.prog,eqs:=q9,N:=7,fuel:=64,fid:=24}
theorem aah:aF Tryz.prog adF:=aZ r6 rm trivial
theorem GB:aS Tryz.prog 24 Ej:=bV Tryz.f24 aah rN (toY:=aha)
def A0:HS:=⟨[(1, .one (.ptr 0 0)),(3, .one (.int .i64))],[(0, .cells hW)],1⟩
def Il {R:Type}:Nat→HS.V A0→(Ex→St→Option R)→Option R:=fun q v K=>
 gT (cW v.2.1) (K .ret {az:=[(2, .v (.one (.bool false)))],mem:= [],nx:=0}) (K (.exit 0) {az:=[(1, .v (.one (.ptr 0 0)))],mem:=[(0, .cells [.int .i64 ((cW v.2.1).fs.ar), .int .i64 ((cW v.2.1).fs.aw), .int .i64 ((cW v.2.1).fs.next), .sl .aL ((cW v.2.1).fs.aa), .sl .kept ((cW v.2.1).al.kept), .sl .aL ((cW v.2.1).al.aI)])],nx:=1}) q v.1.2.1
def Tz:List HV:=[.agg hW]
def QR:List HV:=[.one (.bool)]
def amV:HP.V Tz→ao:=fun v=>((cW v.1))
def afv:HX.V QR→Bool:=fun v=>(v)
def Zi:Bool→HX.V QR:=fun y=>(y)
def akW:ao→Option (Bool):=fun x=>kN x
def QN:Spec:=aT Tz QR amV Zi akW
def Rk {R:Type}:List (Nat×Hd R):=[(2,bC A0 Il)]
def MQ {R:Type}:List (Nat×Inl R):= []
def Po:Cfg:={T:=qo,spec:=[(24,Ej),(31,TW)],aX:=aE.G Tryz.prog,eqs:=q9,N:=40,fuel:=64,loops:=[(2,⟨[1,3], [],[0],1, [], [], [], []⟩)],blocks:=[(0,⟨[1], [],[0],1, [], [], [], []⟩)],eX:=some ⟨[2], [], [],0, [], [], [], []⟩,fid:=10}
theorem aai:aF Tryz.prog Po:=aZ r6 rm ⟨GB,⟨alb,trivial⟩⟩
theorem aoO {R:Type}:aO Tryz.prog (R:=R) 0 MQ:=aA _ _
theorem Z0 {R:Type}:bA (R:=R) (hnd 0 MQ) Po Rk (sub [1,0,1,0,0] JS) (HS.V A0) (HS.st A0) (HS.sh A0) Il (bC A0 Il):=aM A0 Il (fun _ _=>rfl) (by intro q v K;kernel_rfl)
theorem anO {R:Type}:aJ (R:=R) (hnd 0 MQ) Po Rk JS:=aB (l:=[sub [1,0,1,0,0] JS]) (by kernel_rfl) (aH (b:=sub [1,0,1,0,0] JS) (rid:=2) (by kernel_rfl) (by kernel_rfl) Z0 (trivial))
theorem Tq:aS Tryz.prog 10 QN:=bl Tryz.f10 aai rN (d:=0) aoO anO (bw (by kernel_rfl)) (toY:=afv)
def B8:HS:=⟨[(2, .one (.ptr 0 0)),(3, .one (.ptr 1 0)),(7, .one (.int .i64))],[(0, .cells hW),(1, .cells hIn)],2⟩
def I_ {R:Type}:Nat→HS.V B8→(Ex→St→Option R)→Option R:=fun q v K=>
 cq (cIn v.2.2.1) (K .ret {az:=[(4, .v (.one (.bool false)))],mem:= [],nx:=0}) (K (.exit 0) {az:=[(2, .v (.one (.ptr 0 0))),(3, .v (.one (.ptr 1 0)))],mem:=[(0, .cells [.int .i64 ((cW v.2.1).fs.ar), .int .i64 ((cW v.2.1).fs.aw), .int .i64 ((cW v.2.1).fs.next), .sl .aL ((cW v.2.1).fs.aa), .sl .kept ((cW v.2.1).al.kept), .sl .aL ((cW v.2.1).al.aI)]),(1, .cells (rIn (cIn v.2.2.1)))],nx:=2}) q v.1.2.2.1
def Ds:HS:=⟨[(2, .one (.ptr 0 0)),(3, .one (.ptr 1 0)),(8, .one (.bool)),(9, .one (.int .i64))],[(0, .cells hW),(1, .cells hIn)],2⟩
def IF {R:Type}:Nat→HS.V Ds→(Ex→St→Option R)→Option R:=fun q v K=>
 cd (cW v.2.1) (cIn v.2.2.1) (fun y15=>K (.exit 2) {az:=[(8, .v (.one (.bool y15)))],mem:= [],nx:=0}) q v.1.2.2.1 v.1.2.2.2.1
def RU:List HV:=[.agg hW, .agg hIn]
def Ob:List HV:=[.one (.bool)]
def Z7:HP.V RU→ao×ae:=fun v=>((cW v.1),(cIn v.2.1))
def ad1:HX.V Ob→Bool:=fun v=>(v)
def adR:Bool→HX.V Ob:=fun y=>(y)
def alp:(ao×ae)→Option (Bool):=fun x=>kq x.1 x.2
def Uq:Spec:=aT RU Ob Z7 adR alp
def Np {R:Type}:List (Nat×Hd R):=[(7,bC B8 I_),(13,bC Ds IF)]
def IM {R:Type}:List (Nat×Inl R):= []
def Kx:Cfg:={T:=qo,spec:=[(15,nR)],aX:=aE.G Tryz.prog,eqs:=q9,N:=132,fuel:=64,loops:=[(13,⟨[2,3,8,9], [],[0,1],2, [], [], [], []⟩),(7,⟨[2,3,7], [],[0,1],2, [], [], [], []⟩)],blocks:=[(2,⟨[8], [], [],0, [], [], [], []⟩),(0,⟨[2,3], [],[0,1],2, [], [], [], []⟩)],eX:=some ⟨[4], [], [],0, [], [], [], []⟩,fid:=63}
theorem aeB:aF Tryz.prog Kx:=aZ r6 rm ⟨n7,trivial⟩
theorem apc {R:Type}:aO Tryz.prog (R:=R) 0 IM:=aA _ _
theorem Yn {R:Type}:bA (R:=R) (hnd 0 IM) Kx Np (sub [1,1,1,1,0,1,0,0] CV) (HS.V B8) (HS.st B8) (HS.sh B8) I_ (bC B8 I_):=aM B8 I_ (fun _ _=>rfl) (by intro q v K;kernel_rfl)
theorem Zg {R:Type}:bA (R:=R) (hnd 0 IM) Kx Np (sub [1,1,1,1,1,1,0,1,0,0] CV) (HS.V Ds) (HS.st Ds) (HS.sh Ds) IF (bC Ds IF):=aM Ds IF (fun _ _=>rfl) (by intro q v K;kernel_rfl)
theorem afR {R:Type}:aJ (R:=R) (hnd 0 IM) Kx Np CV:=aB (l:=[sub [1,1,1,1,0,1,0,0] CV,sub [1,1,1,1,1,1,0,1,0,0] CV]) (by kernel_rfl) (aH (b:=sub [1,1,1,1,0,1,0,0] CV) (rid:=7) (by kernel_rfl) (by kernel_rfl) Yn (aH (b:=sub [1,1,1,1,1,1,0,1,0,0] CV) (rid:=13) (by kernel_rfl) (by kernel_rfl) Zg (trivial)))
theorem agJ:aS Tryz.prog 63 Uq:=bl Tryz.f63 aeB rN (d:=0) apc afR (bw (by kernel_rfl)) (toY:=ad1)
def Dl:HS:=⟨[(1, .one (.ptr 0 0)),(3, .one (.int .i64))],[(0, .cells hW)],1⟩
def IW {R:Type}:Nat→HS.V Dl→(Ex→St→Option R)→Option R:=fun q v K=>
 fy (cW v.2.1) (K .ret {az:=[(2, .v (.one (.bool false)))],mem:= [],nx:=0}) (K (.exit 0) {az:=[(1, .v (.one (.ptr 0 0)))],mem:=[(0, .cells [.int .i64 ((cW v.2.1).fs.ar), .int .i64 ((cW v.2.1).fs.aw), .int .i64 ((cW v.2.1).fs.next), .sl .aL ((cW v.2.1).fs.aa), .sl .kept ((cW v.2.1).al.kept), .sl .aL ((cW v.2.1).al.aI)])],nx:=1}) q v.1.2.1
def Dg:HS:=⟨[(1, .one (.ptr 0 0)),(4, .one (.int .i64)),(5, .one (.int .i64))],[(0, .cells hW)],1⟩
def J0 {R:Type}:Nat→HS.V Dg→(Ex→St→Option R)→Option R:=fun q v K=>
 bD (cW v.2.1) (K .ret {az:=[(2, .v (.one (.bool false)))],mem:= [],nx:=0}) (K (.exit 2) {az:= [],mem:= [],nx:=0}) q v.1.2.1 v.1.2.2.1
def Xj:List HV:=[.agg hW]
def P2:List HV:=[.one (.bool)]
def abV:HP.V Xj→ao:=fun v=>((cW v.1))
def Yf:HX.V P2→Bool:=fun v=>(v)
def ami:Bool→HX.V P2:=fun y=>(y)
def afy:ao→Option (Bool):=fun x=>gJ x
def Ki:Spec:=aT Xj P2 abV ami afy
def Pq {R:Type}:List (Nat×Hd R):=[(4,bC Dl IW),(10,bC Dg J0)]
def Iw {R:Type}:List (Nat×Inl R):= []
def HH:Cfg:={T:=qo,spec:=[(15,nR),(24,Ej),(26,PA),(62,OH),(63,Uq)],aX:=aE.G Tryz.prog,eqs:=q9,N:=106,fuel:=64,loops:=[(10,⟨[1,4,5], [],[0],1, [], [], [], []⟩),(4,⟨[1,3], [],[0],1, [], [], [], []⟩)],blocks:=[(2,⟨[], [], [],0, [], [], [], []⟩),(0,⟨[1], [],[0],1, [], [], [], []⟩)],eX:=some ⟨[2], [], [],0, [], [], [], []⟩,fid:=25}
theorem ae8:aF Tryz.prog HH:=aZ r6 rm ⟨n7,⟨GB,⟨U5,⟨Wo,⟨agJ,trivial⟩⟩⟩⟩⟩
theorem akj {R:Type}:aO Tryz.prog (R:=R) 0 Iw:=aA _ _
theorem al_ {R:Type}:bA (R:=R) (hnd 0 Iw) HH Pq (sub [1,1,0,1,0,0] BO) (HS.V Dl) (HS.st Dl) (HS.sh Dl) IW (bC Dl IW):=aM Dl IW (fun _ _=>rfl) (by intro q v K;kernel_rfl)
theorem am0 {R:Type}:bA (R:=R) (hnd 0 Iw) HH Pq (sub [1,1,1,1,0,1,0,0] BO) (HS.V Dg) (HS.st Dg) (HS.sh Dg) J0 (bC Dg J0):=aM Dg J0 (fun _ _=>rfl) (by intro q v K;kernel_rfl)
theorem afx {R:Type}:aJ (R:=R) (hnd 0 Iw) HH Pq BO:=aB (l:=[sub [1,1,0,1,0,0] BO,sub [1,1,1,1,0,1,0,0] BO]) (by kernel_rfl) (aH (b:=sub [1,1,0,1,0,0] BO) (rid:=4) (by kernel_rfl) (by kernel_rfl) al_ (aH (b:=sub [1,1,1,1,0,1,0,0] BO) (rid:=10) (by kernel_rfl) (by kernel_rfl) am0 (trivial)))
theorem Q6:aS Tryz.prog 25 Ki:=bl Tryz.f25 ae8 rN (d:=0) akj afx (bw (by kernel_rfl)) (toY:=Yf)
def VW:List HV:=[.agg hW]
def M8:List HV:=[.one (.bool)]
def an1:HP.V VW→ao:=fun v=>((cW v.1))
def ajS:HX.V M8→Bool:=fun v=>(v)
def aaJ:Bool→HX.V M8:=fun y=>(y)
def agC:ao→Option (Bool):=fun x=>jU x
def Eu:Spec:=aT VW M8 an1 aaJ agC
def aaQ:Cfg:={T:=qo,spec:=[(10,QN),(25,Ki)],aX:=aE.G Tryz.prog,eqs:=q9,N:=9,fuel:=64,fid:=13}
theorem an2:aF Tryz.prog aaQ:=aZ r6 rm ⟨Tq,⟨Q6,trivial⟩⟩
theorem GP:aS Tryz.prog 13 Eu:=bV Tryz.f13 an2 rN (toY:=ajS)
def C3:HS:=⟨[(1, .one (.int .i64)),(2, .one (.ptr 0 0)),(4, .one (.ptr 1 0)),(6, .one (.int .i64))],[(0, .cells hW),(1, .cells [.int .i64, .int .i64, .bool, .str])],2⟩
def Jk {R:Type}:Nat→HS.V C3→(Ex→St→Option R)→Option R:=fun q v K=>
 fS v.1.1 (cW v.2.1) (fun y8=>K .ret {az:=[(4, .v (.one (.ptr 1 0))),(5, .v (.one (.bool true)))],mem:=[(1, .cells [.int .i64 y8.slot, .int .i64 y8.ino, .bool y8.content, .str y8.data])],nx:=2}) (K (.exit 0) {az:=[(4, .v (.one (.ptr 1 0)))],mem:=[(1, .cells [.int .i64 ((⟨v.2.2.1.1,v.2.2.1.2.1,v.2.2.1.2.2.1,v.2.2.1.2.2.2.1⟩:Kept).slot), .int .i64 ((⟨v.2.2.1.1,v.2.2.1.2.1,v.2.2.1.2.2.1,v.2.2.1.2.2.2.1⟩:Kept).ino), .bool ((⟨v.2.2.1.1,v.2.2.1.2.1,v.2.2.1.2.2.1,v.2.2.1.2.2.2.1⟩:Kept).content), .str ((⟨v.2.2.1.1,v.2.2.1.2.1,v.2.2.1.2.2.1,v.2.2.1.2.2.2.1⟩:Kept).data)])],nx:=2}) q v.1.2.2.2.1
def WA:List HV:=[.agg hW, .one (.int .i64)]
def O9:List HV:=[.agg [.int .i64, .int .i64, .bool, .str], .one (.bool)]
def ab2:HP.V WA→ao×Int:=fun v=>((cW v.1),v.2.1)
def adb:HX.V O9→Kept×Bool:=fun v=>((⟨v.1.1,v.1.2.1,v.1.2.2.1,v.1.2.2.2.1⟩:Kept),v.2)
def ai6:(Kept×Bool)→HX.V O9:=fun y=>((y.1.slot,(y.1.ino,(y.1.content,(y.1.data,())))),y.2)
def adw:(ao×Int)→Option (Kept×Bool):=fun x=>ir x.1 x.2
def Gi:Spec:=aT WA O9 ab2 ai6 adw
def Uo {R:Type}:List (Nat×Hd R):=[(2,bC C3 Jk)]
def PN {R:Type}:List (Nat×Inl R):= []
def NF:Cfg:={T:=qo,aX:=aE.G Tryz.prog,eqs:=q9,N:=31,fuel:=64,loops:=[(2,⟨[1,2,4,6], [],[0,1],2, [], [], [], []⟩)],blocks:=[(0,⟨[4], [],[1],2, [], [], [], []⟩)],eX:=some ⟨[4,5], [],[1],2, [], [], [], []⟩,fid:=45}
theorem ag_:aF Tryz.prog NF:=aZ r6 rm trivial
theorem aiz {R:Type}:aO Tryz.prog (R:=R) 0 PN:=aA _ _
theorem amI {R:Type}:bA (R:=R) (hnd 0 PN) NF Uo (sub [1,0,1,0,0] JG) (HS.V C3) (HS.st C3) (HS.sh C3) Jk (bC C3 Jk):=aM C3 Jk (fun _ _=>rfl) (by intro q v K;kernel_rfl)
theorem ajA {R:Type}:aJ (R:=R) (hnd 0 PN) NF Uo JG:=aB (l:=[sub [1,0,1,0,0] JG]) (by kernel_rfl) (aH (b:=sub [1,0,1,0,0] JG) (rid:=2) (by kernel_rfl) (by kernel_rfl) amI (trivial))
theorem K5:aS Tryz.prog 45 Gi:=bl Tryz.f45 ag_ rN (d:=0) aiz ajA (bw (by kernel_rfl)) (toY:=adb)
def BQ:HS:=⟨[(2, .one (.ptr 0 0)),(3, .one (.ptr 1 0)),(4, .one (.ptr 2 0)),(5, .one (.own 3)),(6, .one (.bool)),(7, .one (.int .i64))],[(0, .cells hW),(1, .cells [.int .i64, .int .i64, .bool, .str]),(2, .cells hW),(3, .row .kept)],4⟩
def HT {R:Type}:Nat→HS.V BQ→(Ex→St→Option R)→Option R:=fun q v K=>
 d_ (cW v.2.1) (⟨v.2.2.1.1,v.2.2.1.2.1,v.2.2.1.2.2.1,v.2.2.1.2.2.2.1⟩:Kept) (fun y11 y15=>K (.exit 0) {az:=[(2, .v (.one (.ptr 0 0))),(3, .v (.one (.ptr 1 0))),(4, .v (.one (.ptr 2 0))),(5, .v (.one (.own 3))),(6, .v (.one (.bool y11)))],mem:=[(0, .cells [.int .i64 ((cW v.2.1).fs.ar), .int .i64 ((cW v.2.1).fs.aw), .int .i64 ((cW v.2.1).fs.next), .sl .aL ((cW v.2.1).fs.aa), .sl .kept ((cW v.2.1).al.kept), .sl .aL ((cW v.2.1).al.aI)]),(1, .cells [.int .i64 ((⟨v.2.2.1.1,v.2.2.1.2.1,v.2.2.1.2.2.1,v.2.2.1.2.2.2.1⟩:Kept).slot), .int .i64 ((⟨v.2.2.1.1,v.2.2.1.2.1,v.2.2.1.2.2.1,v.2.2.1.2.2.2.1⟩:Kept).ino), .bool ((⟨v.2.2.1.1,v.2.2.1.2.1,v.2.2.1.2.2.1,v.2.2.1.2.2.2.1⟩:Kept).content), .str ((⟨v.2.2.1.1,v.2.2.1.2.1,v.2.2.1.2.2.1,v.2.2.1.2.2.2.1⟩:Kept).data)]),(2, .cells [.int .i64 ((cW v.2.2.2.1).fs.ar), .int .i64 ((cW v.2.2.2.1).fs.aw), .int .i64 ((cW v.2.2.2.1).fs.next), .sl .aL ((cW v.2.2.2.1).fs.aa), .sl .kept ((cW v.2.2.2.1).al.kept), .sl .aL ((cW v.2.2.2.1).al.aI)]),(3, .row .kept y15)],nx:=4}) q v.1.2.2.2.2.1 v.1.2.2.2.2.2.1 v.2.2.2.2.1
def VY:List HV:=[.agg hW, .agg [.int .i64, .int .i64, .bool, .str]]
def Qc:List HV:=[.agg hW]
def aac:HP.V VY→ao×Kept:=fun v=>((cW v.1),(⟨v.2.1.1,v.2.1.2.1,v.2.1.2.2.1,v.2.1.2.2.2.1⟩:Kept))
def ano:HX.V Qc→ao:=fun v=>((cW v))
def abb:ao→HX.V Qc:=fun y=>(uW y)
def ak5:(ao×Kept)→Option (ao):=fun x=>jD x.1 x.2
def PU:Spec:=aT VY Qc aac abb ak5
def Ts {R:Type}:List (Nat×Hd R):=[(4,bC BQ HT)]
def Mo {R:Type}:List (Nat×Inl R):= []
def Od:Cfg:={T:=qo,aX:=aE.G Tryz.prog,eqs:=q9,N:=53,fuel:=64,loops:=[(4,⟨[2,3,4,5,6,7],[(5,3, .kept)],[0,1,2,3],4, [],[2], [], []⟩)],blocks:=[(0,⟨[2,3,4,5,6], [],[0,1,2,3],4, [], [], [], []⟩)],fid:=48}
theorem abO:aF Tryz.prog Od:=aZ r6 rm trivial
theorem aji {R:Type}:aO Tryz.prog (R:=R) 0 Mo:=aA _ _
theorem akf {R:Type}:bA (R:=R) (hnd 0 Mo) Od Ts (sub [1,1,1,0,1,0,0] K_) (HS.V BQ) (HS.st BQ) (HS.sh BQ) HT (bC BQ HT):=aM BQ HT (fun _ _=>rfl) (by intro q v K;kernel_rfl)
theorem akQ {R:Type}:aJ (R:=R) (hnd 0 Mo) Od Ts K_:=aB (l:=[sub [1,1,1,0,1,0,0] K_]) (by kernel_rfl) (aH (b:=sub [1,1,1,0,1,0,0] K_) (rid:=4) (by kernel_rfl) (by kernel_rfl) akf (trivial))
theorem W2:aS Tryz.prog 48 PU:=bl Tryz.f48 abO rN (d:=0) aji akQ (bw (by kernel_rfl)) (toY:=ano)
def Xm:List HV:=[.agg hW, .one (.int .i64), .agg [.int .i64, .str, .int .i64]]
def Pm:List HV:=[.agg hW, .one (.int .i64)]
def aiI:HP.V Xm→ao×Int×ax:=fun v=>((cW v.1),v.2.1,(⟨v.2.2.1.1,v.2.2.1.2.1,v.2.2.1.2.2.1⟩:ax))
def abL:HX.V Pm→ao×Int:=fun v=>((cW v.1),v.2)
def aiO:(ao×Int)→HX.V Pm:=fun y=>(uW y.1,y.2)
def aiq:(ao×Int×ax)→Option (ao×Int):=fun x=>lj x.1 x.2.1 x.2.2
def SR:Spec:=aT Xm Pm aiI aiO aiq
def aiZ:Cfg:={T:=qo,spec:=[(15,nR),(24,Ej),(45,Gi),(46,VP),(47,CB),(48,PU)],aX:=aE.G Tryz.prog,eqs:=q9,N:=51,fuel:=64,fid:=17}
theorem anV:aF Tryz.prog aiZ:=aZ r6 rm ⟨n7,⟨GB,⟨K5,⟨agU,⟨Fl,⟨W2,trivial⟩⟩⟩⟩⟩⟩
theorem al0:aS Tryz.prog 17 SR:=bV Tryz.f17 anV rN (toY:=abL)
def A6:HS:=⟨[(1, .one (.int .i64)),(2, .one (.ptr 0 0)),(4, .one (.ptr 1 0)),(5, .one (.own 2)),(6, .one (.int .i64))],[(0, .cells hW),(1, .cells hW),(2, .row .kept)],3⟩
def LF {R:Type}:Nat→HS.V A6→(Ex→St→Option R)→Option R:=fun q v K=>
 dx v.1.1 (cW v.2.1) (fun y10=>K (.exit 0) {az:=[(2, .v (.one (.ptr 0 0))),(4, .v (.one (.ptr 1 0))),(5, .v (.one (.own 2)))],mem:=[(0, .cells [.int .i64 ((cW v.2.1).fs.ar), .int .i64 ((cW v.2.1).fs.aw), .int .i64 ((cW v.2.1).fs.next), .sl .aL ((cW v.2.1).fs.aa), .sl .kept ((cW v.2.1).al.kept), .sl .aL ((cW v.2.1).al.aI)]),(1, .cells [.int .i64 ((cW v.2.2.1).fs.ar), .int .i64 ((cW v.2.2.1).fs.aw), .int .i64 ((cW v.2.2.1).fs.next), .sl .aL ((cW v.2.2.1).fs.aa), .sl .kept ((cW v.2.2.1).al.kept), .sl .aL ((cW v.2.2.1).al.aI)]),(2, .row .kept y10)],nx:=3}) q v.1.2.2.2.2.1 v.2.2.2.1
def Ru:List HV:=[.agg hW, .one (.int .i64)]
def QK:List HV:=[.agg hW]
def acN:HP.V Ru→ao×Int:=fun v=>((cW v.1),v.2.1)
def aoG:HX.V QK→ao:=fun v=>((cW v))
def afS:ao→HX.V QK:=fun y=>(uW y)
def Zc:(ao×Int)→Option (ao):=fun x=>cu x.1 x.2
def Mi:Spec:=aT Ru QK acN afS Zc
def SA {R:Type}:List (Nat×Hd R):=[(3,bC A6 LF)]
def QF {R:Type}:List (Nat×Inl R):= []
def NB:Cfg:={T:=qo,aX:=aE.G Tryz.prog,eqs:=q9,N:=37,fuel:=64,loops:=[(3,⟨[1,2,4,5,6],[(5,2, .kept)],[0,1,2],3, [],[1], [], []⟩)],blocks:=[(0,⟨[2,4,5], [],[0,1,2],3, [], [], [], []⟩)],fid:=61}
theorem ZP:aF Tryz.prog NB:=aZ r6 rm trivial
theorem aed {R:Type}:aO Tryz.prog (R:=R) 0 QF:=aA _ _
theorem aaI {R:Type}:bA (R:=R) (hnd 0 QF) NB SA (sub [1,1,0,1,0,0] H_) (HS.V A6) (HS.st A6) (HS.sh A6) LF (bC A6 LF):=aM A6 LF (fun _ _=>rfl) (by intro q v K;kernel_rfl)
theorem af4 {R:Type}:aJ (R:=R) (hnd 0 QF) NB SA H_:=aB (l:=[sub [1,1,0,1,0,0] H_]) (by kernel_rfl) (aH (b:=sub [1,1,0,1,0,0] H_) (rid:=3) (by kernel_rfl) (by kernel_rfl) aaI (trivial))
theorem TQ:aS Tryz.prog 61 Mi:=bl Tryz.f61 ZP rN (d:=0) aed af4 (bw (by kernel_rfl)) (toY:=aoG)
def Ww:List HV:=[.agg hW, .one (.int .i64), .agg [.int .i64, .str, .int .i64]]
def QC:List HV:=[.agg hW, .one (.int .i64)]
def aeq:HP.V Ww→ao×Int×ax:=fun v=>((cW v.1),v.2.1,(⟨v.2.2.1.1,v.2.2.1.2.1,v.2.2.1.2.2.1⟩:ax))
def XU:HX.V QC→ao×Int:=fun v=>((cW v.1),v.2)
def ajt:(ao×Int)→HX.V QC:=fun y=>(uW y.1,y.2)
def an_:(ao×Int×ax)→Option (ao×Int):=fun x=>nw x.1 x.2.1 x.2.2
def Ur:Spec:=aT Ww QC aeq ajt an_
def amE:Cfg:={T:=qo,spec:=[(15,nR),(24,Ej),(45,Gi),(47,CB),(57,Kd),(58,Ia),(59,KC),(60,Sz),(61,Mi)],aX:=aE.G Tryz.prog,eqs:=q9,N:=100,fuel:=64,fid:=19}
theorem aaO:aF Tryz.prog amE:=aZ r6 rm ⟨n7,⟨GB,⟨K5,⟨Fl,⟨QS,⟨MJ,⟨PS,⟨abT,⟨TQ,trivial⟩⟩⟩⟩⟩⟩⟩⟩⟩
theorem abA:aS Tryz.prog 19 Ur:=bV Tryz.f19 aaO rN (toY:=XU)
def R1:List HV:=[.agg hW, .one (.int .i64)]
def Ny:List HV:=[.agg hW, .one (.int .i64)]
def Yr:HP.V R1→ao×Int:=fun v=>((cW v.1),v.2.1)
def akT:HX.V Ny→ao×Int:=fun v=>((cW v.1),v.2)
def ajZ:(ao×Int)→HX.V Ny:=fun y=>(uW y.1,y.2)
def agQ:(ao×Int)→Option (ao×Int):=fun x=>iI x.1 x.2
def SZ:Spec:=aT R1 Ny Yr ajZ agQ
def YZ:Cfg:={T:=qo,spec:=[(15,nR),(45,Gi),(47,CB),(58,Ia),(61,Mi)],aX:=aE.G Tryz.prog,eqs:=q9,N:=59,fuel:=64,fid:=21}
theorem acs:aF Tryz.prog YZ:=aZ r6 rm ⟨n7,⟨K5,⟨Fl,⟨MJ,⟨TQ,trivial⟩⟩⟩⟩⟩
theorem adk:aS Tryz.prog 21 SZ:=bV Tryz.f21 acs rN (toY:=akT)
def Sj:List HV:=[.agg hW, .one (.int .i64), .one (.int .i64)]
def Q5:List HV:=[.agg hW, .one (.int .i64)]
def apa:HP.V Sj→ao×Int×Int:=fun v=>((cW v.1),v.2.1,v.2.2.1)
def adU:HX.V Q5→ao×Int:=fun v=>((cW v.1),v.2)
def anT:(ao×Int)→HX.V Q5:=fun y=>(uW y.1,y.2)
def YU:(ao×Int×Int)→Option (ao×Int):=fun x=>iZ x.1 x.2.1 x.2.2
def UJ:Spec:=aT Sj Q5 apa anT YU
def ZN:Cfg:={T:=qo,spec:=[(15,nR),(45,Gi),(48,PU)],aX:=aE.G Tryz.prog,eqs:=q9,N:=34,fuel:=64,fid:=23}
theorem adC:aF Tryz.prog ZN:=aZ r6 rm ⟨n7,⟨K5,⟨W2,trivial⟩⟩⟩
theorem aby:aS Tryz.prog 23 UJ:=bV Tryz.f23 adC rN (toY:=adU)
end
end Go.Eng
set_option linter.unusedVariables false
set_option maxRecDepth 100000
namespace Go.Eng
noncomputable section
open Go Go.Proofs
def uS:List (Nat×TI):=[(4,⟨false,1, .one (.bool false), .bool⟩),(5,⟨false,1, .one (.int .u8 0), .int .u8⟩),(9,⟨false,1, .one (.str []), .str⟩),(21,⟨false,1, .one (.int .i32 0), .int .i32⟩),(145,⟨true,256, .agg [.bool false, .bool false, .bool false, .bool false, .bool false, .bool false, .bool false, .bool false, .bool false, .bool false, .bool false, .bool false, .bool false, .bool false, .bool false, .bool false, .bool false, .bool false, .bool false, .bool false, .bool false, .bool false, .bool false, .bool false, .bool false, .bool false, .bool false, .bool false, .bool false, .bool false, .bool false, .bool false, .bool false, .bool false, .bool false, .bool false, .bool false, .bool false, .bool false, .bool false, .bool false, .bool false, .bool false, .bool false, .bool false, .bool false, .bool false, .bool false, .bool false, .bool false, .bool false, .bool false, .bool false, .bool false, .bool false, .bool false, .bool false, .bool false, .bool false, .bool false, .bool false, .bool false, .bool false, .bool false, .bool false, .bool false, .bool false, .bool false, .bool false, .bool false, .bool false, .bool false, .bool false, .bool false, .bool false, .bool false, .bool false, .bool false, .bool false, .bool false, .bool false, .bool false, .bool false, .bool false, .bool false, .bool false, .bool false, .bool false, .bool false, .bool false, .bool false, .bool false, .bool false, .bool false, .bool false, .bool false, .bool false, .bool false, .bool false, .bool false, .bool false, .bool false, .bool false, .bool false, .bool false, .bool false, .bool false, .bool false, .bool false, .bool false, .bool false, .bool false, .bool false, .bool false, .bool false, .bool false, .bool false, .bool false, .bool false, .bool false, .bool false, .bool false, .bool false, .bool false, .bool false, .bool false, .bool false, .bool false, .bool false, .bool false, .bool false, .bool false, .bool false, .bool false, .bool false, .bool false, .bool false, .bool false, .bool false, .bool false, .bool false, .bool false, .bool false, .bool false, .bool false, .bool false, .bool false, .bool false, .bool false, .bool false, .bool false, .bool false, .bool false, .bool false, .bool false, .bool false, .bool false, .bool false, .bool false, .bool false, .bool false, .bool false, .bool false, .bool false, .bool false, .bool false, .bool false, .bool false, .bool false, .bool false, .bool false, .bool false, .bool false, .bool false, .bool false, .bool false, .bool false, .bool false, .bool false, .bool false, .bool false, .bool false, .bool false, .bool false, .bool false, .bool false, .bool false, .bool false, .bool false, .bool false, .bool false, .bool false, .bool false, .bool false, .bool false, .bool false, .bool false, .bool false, .bool false, .bool false, .bool false, .bool false, .bool false, .bool false, .bool false, .bool false, .bool false, .bool false, .bool false, .bool false, .bool false, .bool false, .bool false, .bool false, .bool false, .bool false, .bool false, .bool false, .bool false, .bool false, .bool false, .bool false, .bool false, .bool false, .bool false, .bool false, .bool false, .bool false, .bool false, .bool false, .bool false, .bool false, .bool false, .bool false, .bool false, .bool false, .bool false, .bool false, .bool false, .bool false, .bool false, .bool false, .bool false, .bool false, .bool false, .bool false, .bool false, .bool false, .bool false, .bool false, .bool false, .bool false, .bool false, .bool false, .bool false, .bool false], .array 256 4⟩)]
def uI:List (Nat×List EK):= []
theorem Wm:Tryz.prog.follows .mixedOrders=true:=by kernel_rfl
theorem vX:(uS.all fun x=>tiB Tryz.prog x.1 x.2)=true:=by kernel_rfl
theorem vU:(uI.all fun x=>eqB Tryz.prog x.1 x.2)=true:=by kernel_rfl
def akS:Code:=bd Tryz.f97
def zM:Code:=bd Tryz.f132
def pM:Code:=bd Tryz.f146
def af2:Code:=bd Tryz.f147
def K3:Code:=bd Tryz.f148
def aaH:Code:=bd Tryz.f149
def WB:Code:=bd Tryz.f157
def ahX:Code:=bd Tryz.f158
def B_:HS:=⟨[(0, .one (.str)),(6, .one (.ptr 1 0)),(8, .one (.int .i64))],[(1, .cells [.aD true, .aD false, .aD false, .aD false, .aD false, .aD false, .aD false, .aD false, .aD false, .aD false, .aD false, .aD false, .aD false, .aD false, .aD false, .aD false, .aD false, .aD false, .aD false, .aD false, .aD false, .aD false, .aD false, .aD false, .aD false, .aD false, .aD false, .aD false, .aD false, .aD false, .aD false, .aD false, .aD false, .aD false, .aD false, .aD false, .aD false, .aD false, .aD false, .aD false, .aD false, .aD false, .aD false, .aD false, .aD false, .aD false, .aD false, .aD true, .aD false, .aD false, .aD false, .aD false, .aD false, .aD false, .aD false, .aD false, .aD false, .aD false, .aD false, .aD false, .aD false, .aD false, .aD false, .aD false, .aD false, .aD false, .aD false, .aD false, .aD false, .aD false, .aD false, .aD false, .aD false, .aD false, .aD false, .aD false, .aD false, .aD false, .aD false, .aD false, .aD false, .aD false, .aD false, .aD false, .aD false, .aD false, .aD false, .aD false, .aD false, .aD false, .aD false, .aD false, .aD false, .aD false, .aD false, .aD false, .aD false, .aD false, .aD false, .aD false, .aD false, .aD false, .aD false, .aD false, .aD false, .aD false, .aD false, .aD false, .aD false, .aD false, .aD false, .aD false, .aD false, .aD false, .aD false, .aD false, .aD false, .aD false, .aD false, .aD false, .aD false, .aD false, .aD false, .aD false, .aD false, .aD false, .aD false, .aD false, .aD false, .aD false, .aD false, .aD false, .aD false, .aD false, .aD false, .aD false, .aD false, .aD false, .aD false, .aD false, .aD false, .aD false, .aD false, .aD false, .aD false, .aD false, .aD false, .aD false, .aD false, .aD false, .aD false, .aD false, .aD false, .aD false, .aD false, .aD false, .aD false, .aD false, .aD false, .aD false, .aD false, .aD false, .aD false, .aD false, .aD false, .aD false, .aD false, .aD false, .aD false, .aD false, .aD false, .aD false, .aD false, .aD false, .aD false, .aD false, .aD false, .aD false, .aD false, .aD false, .aD false, .aD false, .aD false, .aD false, .aD false, .aD false, .aD false, .aD false, .aD false, .aD false, .aD false, .aD false, .aD false, .aD false, .aD false, .aD false, .aD false, .aD false, .aD false, .aD false, .aD false, .aD false, .aD false, .aD false, .aD false, .aD false, .aD false, .aD false, .aD false, .aD false, .aD false, .aD false, .aD false, .aD false, .aD false, .aD false, .aD false, .aD false, .aD false, .aD false, .aD false, .aD false, .aD false, .aD false, .aD false, .aD false, .aD false, .aD false, .aD false, .aD false, .aD false, .aD false, .aD false, .aD false, .aD false, .aD false, .aD false, .aD false, .aD false, .aD false, .aD false, .aD false, .aD false, .aD false, .aD false, .aD false, .aD false, .aD false, .aD false, .aD false, .aD false, .aD false, .aD false, .aD false, .aD false, .aD false])],2⟩
def KI {R:Type}:Nat→HS.V B_→(Ex→St→Option R)→Option R:=fun q v K=>
 cn v.1.1 (fun y5=>K .ret {az:=[(4, .v (.one (.int .i64 y5)))],mem:= [],nx:=0}) (K (.exit 0) {az:= [],mem:= [],nx:=0}) q v.1.2.2.1
def Br:HS:=⟨[(175, .one (.iter 1)),(1000001, .one (.wb ([47,0]:Str))),(1000009, .one (.int .i64)),(1000045, .one (.iter 0))],[(0, .iter),(1, .iter)],2⟩
def Lf {R:Type}:Nat→HS.V Br→(Ex→St→Option R)→Option R:=fun q v K=>
 cD v.2.2.1.1 (fun y15=>K .ret {az:=[(4, .v (.one (.int .i64 y15))),(1000001, .v (.one (.str ([47,0]:Str)))),(1000009, .v (.one (.int .i64 v.1.2.2.1))),(1000045, .v (.one (.iter 0)))],mem:=[(0, .iter v.2.1.1 v.2.1.2)],nx:=1}) (K (.exit 9) {az:=[(1000001, .v (.one (.str ([47,0]:Str)))),(1000009, .v (.one (.int .i64 v.1.2.2.1))),(1000045, .v (.one (.iter 0)))],mem:=[(0, .iter v.2.1.1 v.2.1.2)],nx:=1}) q v.2.2.1.2
def BP:HS:=⟨[(0, .one (.wb ([47,0]:Str))),(7, .one (.str)),(8, .one (.int .i64)),(9, .one (.int .i64)),(12, .one (.int .i64)),(1000001, .one (.wb ([47,0]:Str))),(1000009, .one (.int .i64)),(1000045, .one (.iter 0))],[(0, .iter)],1⟩
def Lb {R:Type}:Nat→HS.V BP→(Ex→St→Option R)→Option R:=fun q v K=>
 cV v.1.2.1 v.1.2.2.1 v.1.2.2.2.1 (K (.exit 3) {az:=[(8, .v (.one (.int .i64 v.1.2.2.1))),(9, .v (.one (.int .i64 v.1.2.2.2.1))),(1000001, .v (.one (.str ([47,0]:Str)))),(1000009, .v (.one (.int .i64 v.1.2.2.2.2.2.2.1))),(1000045, .v (.one (.iter 0)))],mem:=[(0, .iter v.2.1.1 v.2.1.2)],nx:=1}) q v.1.2.2.2.2.1
def CZ:HS:=⟨[(0, .one (.wb ([47,0]:Str))),(7, .one (.str)),(8, .one (.int .i64)),(9, .one (.int .i64)),(1000001, .one (.wb ([47,0]:Str))),(1000009, .one (.int .i64)),(1000045, .one (.iter 0))],[(0, .iter)],1⟩
def J2 {R:Type}:Nat→HS.V CZ→(Ex→St→Option R)→Option R:=fun q v K=>
 bI v.1.2.1 v.1.2.2.1 v.1.2.2.2.1 (fun y50=>K .ret {az:=[(4, .v (.one (.int .i64 y50))),(1000001, .v (.one (.str ([47,0]:Str)))),(1000009, .v (.one (.int .i64 v.1.2.2.2.2.2.1))),(1000045, .v (.one (.iter 0)))],mem:=[(0, .iter v.2.1.1 v.2.1.2)],nx:=1}) (K (.exit 1) {az:=[(1000001, .v (.one (.str ([47,0]:Str)))),(1000009, .v (.one (.int .i64 v.1.2.2.2.2.2.1))),(1000045, .v (.one (.iter 0)))],mem:=[(0, .iter v.2.1.1 v.2.1.2)],nx:=1}) q
def CM:HS:=⟨[(1, .one (.wb ([47,0]:Str))),(45, .one (.iter 0))],[(0, .iter)],1⟩
def JY {R:Type}:Nat→HS.V CM→(Ex→St→Option R)→Option R:=fun q v K=>
 aG v.2.1.1 (fun y66=>K .ret {az:=[(4, .v (.one (.int .i64 y66)))],mem:= [],nx:=0}) (K (.exit 2) {az:= [],mem:= [],nx:=0}) q v.2.1.2
def Vz:List HV:=[.one (.str), .one (.wb ([47,0]:Str))]
def Qo:List HV:=[.one (.bool)]
def aol:HP.V Vz→Str:=fun v=>(v.1)
def afB:HX.V Qo→Bool:=fun v=>(v)
def alI:Bool→HX.V Qo:=fun y=>(y)
def ZW:Str→Option (Bool):=fun x=>fk x
def RQ:Spec:=aT Vz Qo aol alI ZW
def V8:Cfg:={T:=uS,aX:=aE.G Tryz.prog,eqs:=uI,N:=5,fuel:=64,fid:=147}
theorem aew:aF Tryz.prog V8:=aZ vX vU trivial
def ajG {R:Type}:Inl R:= .mk 147 V8 [] af2 Tryz.f147.results.toList []
def RP {R:Type}:List (Nat×Hd R):= []
def L4 {R:Type}:List (Nat×Inl R):= []
def Py:Cfg:={T:=uS,aX:=aE.G Tryz.prog,eqs:=uI,N:=21,fuel:=64,loops:=[(2,⟨[0,2,4,1000000,1000001], [],[0],1, [], [], [], []⟩)],blocks:=[(0,⟨[2,1000000,1000001], [],[0],1, [], [], [], []⟩)],eX:=some ⟨[2,3,1000000,1000001], [],[0],1, [], [], [], []⟩,fid:=148}
theorem Ys:aF Tryz.prog Py:=aZ vX vU trivial
theorem ai9 {R:Type}:aO Tryz.prog (R:=R) 1 L4:=aA _ _
theorem anp {R:Type}:aJ (R:=R) (hnd 1 L4) Py RP K3:=aB (l:=[sub [1,0,1,0,0] K3]) (by kernel_rfl) (gw (b:=sub [1,0,1,0,0] K3) (rid:=2) (by kernel_rfl) (by kernel_rfl) (trivial))
def aju {R:Type}:Inl R:= .mk 148 Py RP K3 Tryz.f148.results.toList L4
def R9:Cfg:={T:=uS,aX:=aE.G Tryz.prog,eqs:=uI,N:=10,fuel:=64,fid:=149}
theorem ajo:aF Tryz.prog R9:=aZ vX vU trivial
def aek {R:Type}:Inl R:= .mk 149 R9 [] aaH Tryz.f149.results.toList []
def Vk:Cfg:={T:=uS,spec:=[(162,cG)],aX:=aE.G Tryz.prog,eqs:=uI,N:=8,fuel:=64,fid:=157}
theorem afK:aF Tryz.prog Vk:=aZ vX vU ⟨dC,trivial⟩
def aiG {R:Type}:Inl R:= .mk 157 Vk [] WB Tryz.f157.results.toList []
def U7:Cfg:={T:=uS,aX:=aE.G Tryz.prog,eqs:=uI,N:=17,fuel:=64,fid:=158}
theorem alL:aF Tryz.prog U7:=aZ vX vU trivial
def anq {R:Type}:Inl R:= .mk 158 U7 [] ahX Tryz.f158.results.toList []
def Vs:Cfg:={T:=uS,spec:=[(162,cG)],aX:=aE.G Tryz.prog,eqs:=uI,N:=8,fuel:=64,fid:=157}
theorem ald:aF Tryz.prog Vs:=aZ vX vU ⟨dC,trivial⟩
def amJ {R:Type}:Inl R:= .mk 157 Vs [] WB Tryz.f157.results.toList []
def GM {R:Type}:List (Nat×Hd R):=[(38,bC Br Lf),(5,bC CZ J2),(12,bC BP Lb)]
def EX {R:Type}:List (Nat×Inl R):=[(170,aiG),(185,anq),(41,amJ)]
def Fi:Cfg:={T:=uS,aX:=aE.G Tryz.prog,eqs:=uI,N:=187,fuel:=64,loops:=[(38,⟨[175,1000001,1000009,1000045], [],[0,1],2, [], [], [], []⟩),(12,⟨[0,7,8,9,12,1000001,1000009,1000045], [],[0],1, [], [], [], []⟩),(5,⟨[0,7,8,9,1000001,1000009,1000045], [],[0],1, [], [], [], []⟩)],blocks:=[(9,⟨[1000001,1000009,1000045], [],[0],1, [], [], [], []⟩),(1,⟨[1000001,1000009,1000045], [],[0],1, [], [], [], []⟩),(3,⟨[8,9,1000001,1000009,1000045], [],[0],1, [], [], [], []⟩)],eX:=some ⟨[4,1000001,1000009,1000045], [],[0],1, [], [], [], []⟩,fid:=146}
theorem akB:aF Tryz.prog Fi:=aZ vX vU trivial
theorem aik {R:Type}:aO Tryz.prog (R:=R) 1 EX:=bF Tryz.f157 afK (bF Tryz.f158 alL (bF Tryz.f157 ald (aA _ _)))
theorem Z8 {R:Type}:bA (R:=R) (hnd 1 EX) Fi GM (sub [1,0,1,1,1,0,0,1,0,0] pM) (HS.V Br) (HS.st Br) (HS.sh Br) Lf (bC Br Lf):=aM Br Lf (fun _ _=>rfl) (by intro q v K;kernel_rfl)
theorem aap {R:Type}:bA (R:=R) (hnd 1 EX) Fi GM (sub [1,0,1,1,1,1,1,1,0,1,1,1,1,0,0,0] pM) (HS.V CZ) (HS.st CZ) (HS.sh CZ) J2 (bC CZ J2):=aM CZ J2 (fun _ _=>rfl) (by intro q v K;kernel_rfl)
theorem ak1 {R:Type}:bA (R:=R) (hnd 1 EX) Fi GM (sub [1,0,1,1,1,1,1,1,0,1,1,1,1,0,0,0,1,0,0,1,0,1,0,0] pM) (HS.V BP) (HS.st BP) (HS.sh BP) Lb (bC BP Lb):=aM BP Lb (fun _ _=>rfl) (by intro q v K;kernel_rfl)
theorem acI {R:Type}:aJ (R:=R) (hnd 1 EX) Fi GM pM:=aB (l:=[sub [1,0,1,1,1,0,0,1,0,0] pM,sub [1,0,1,1,1,1,1,1,0,1,1,1,1,0,0,0] pM,sub [1,0,1,1,1,1,1,1,0,1,1,1,1,0,0,0,1,0,0,1,0,1,0,0] pM,sub [1,0,1,1,1,1,1,1,0,1,1,1,1,1,1,1,0,1,0,1,1,1,0,0] pM,sub [1,0,1,1,1,1,1,1,0,1,1,1,1,1,1,1,0,1,0,1,1,1,0,0,1,0,0,1,0,0,1,0,0] pM]) (by kernel_rfl) (aH (b:=sub [1,0,1,1,1,0,0,1,0,0] pM) (rid:=38) (by kernel_rfl) (by kernel_rfl) Z8 (aH (b:=sub [1,0,1,1,1,1,1,1,0,1,1,1,1,0,0,0] pM) (rid:=5) (by kernel_rfl) (by kernel_rfl) aap (aH (b:=sub [1,0,1,1,1,1,1,1,0,1,1,1,1,0,0,0,1,0,0,1,0,1,0,0] pM) (rid:=12) (by kernel_rfl) (by kernel_rfl) ak1 (gw (b:=sub [1,0,1,1,1,1,1,1,0,1,1,1,1,1,1,1,0,1,0,1,1,1,0,0] pM) (rid:=25) (by kernel_rfl) (by kernel_rfl) (gw (b:=sub [1,0,1,1,1,1,1,1,0,1,1,1,1,1,1,1,0,1,0,1,1,1,0,0,1,0,0,1,0,0,1,0,0] pM) (rid:=29) (by kernel_rfl) (by kernel_rfl) (trivial))))))
def YN {R:Type}:Inl R:= .mk 146 Fi GM pM Tryz.f146.results.toList EX
def Is {R:Type}:List (Nat×Hd R):=[(12,bC B_ KI),(18,bC CM JY)]
def Hu {R:Type}:List (Nat×Inl R):=[(26,ajG),(29,aju),(42,aek),(52,YN)]
def F5:Cfg:={T:=uS,aX:=aE.G Tryz.prog,eqs:=uI,N:=55,fuel:=64,loops:=[(18,⟨[1,45], [],[0],1, [], [], [], []⟩),(12,⟨[0,6,8], [],[1],2, [], [], [], []⟩)],blocks:=[(2,⟨[], [], [],0, [], [], [], []⟩),(0,⟨[], [], [],0, [], [], [], []⟩)],eX:=some ⟨[4], [], [],0, [], [], [], []⟩,fid:=132}
theorem ag9:aF Tryz.prog F5:=aZ vX vU trivial
theorem ajz {R:Type}:aO Tryz.prog (R:=R) 2 Hu:=bF Tryz.f147 aew (bE Tryz.f148 Ys anp (bw (by kernel_rfl)) ai9 (bF Tryz.f149 ajo (bE Tryz.f146 akB acI (bw (by kernel_rfl)) aik (aA _ _))))
theorem XD {R:Type}:bA (R:=R) (hnd 2 Hu) F5 Is (sub [1,1,1,0,1,0,1,1,0,0,1,0,0] zM) (HS.V B_) (HS.st B_) (HS.sh B_) KI (bC B_ KI):=aM B_ KI (fun _ _=>rfl) (by intro q v K;kernel_rfl)
theorem aeR {R:Type}:bA (R:=R) (hnd 2 Hu) F5 Is (sub [1,1,1,1,0,1,0,0] zM) (HS.V CM) (HS.st CM) (HS.sh CM) JY (bC CM JY):=aM CM JY (fun _ _=>rfl) (by intro q v K;kernel_rfl)
theorem amL {R:Type}:aJ (R:=R) (hnd 2 Hu) F5 Is zM:=aB (l:=[sub [1,1,1,0,1,0,1,1,0,0,1,0,0] zM,sub [1,1,1,1,0,1,0,0] zM]) (by kernel_rfl) (aH (b:=sub [1,1,1,0,1,0,1,1,0,0,1,0,0] zM) (rid:=12) (by kernel_rfl) (by kernel_rfl) XD (aH (b:=sub [1,1,1,1,0,1,0,0] zM) (rid:=18) (by kernel_rfl) (by kernel_rfl) aeR (trivial)))
def aj3 {R:Type}:Inl R:= .mk 132 F5 Is zM Tryz.f132.results.toList Hu
def aoN {R:Type}:List (Nat×Hd R):= []
def VC {R:Type}:List (Nat×Inl R):=[(7,aj3)]
def Tj:Cfg:={T:=uS,aX:=aE.G Tryz.prog,eqs:=uI,N:=9,fuel:=64,fid:=97}
theorem akP:aF Tryz.prog Tj:=aZ vX vU trivial
theorem ac0 {R:Type}:aO Tryz.prog (R:=R) 3 VC:=bE Tryz.f132 ag9 amL (bw (by kernel_rfl)) ajz (aA _ _)
theorem afm {R:Type}:aJ (R:=R) (hnd 3 VC) Tj aoN akS:=aB (l:= []) (by kernel_rfl) (trivial)
theorem ae4:aS Tryz.prog 97 RQ:=bl Tryz.f97 akP Wm (d:=3) ac0 afm (bw (by kernel_rfl)) (toY:=afB)
def WT:List HV:=[.one (.str)]
def Qd:List HV:=[.one (.bool)]
def abf:HP.V WT→Str:=fun v=>(v.1)
def ah5:HX.V Qd→Bool:=fun v=>(v)
def aaa:Bool→HX.V Qd:=fun y=>(y)
def ajI:Str→Option (Bool):=fun x=>lA x
def Cw:Spec:=aT WT Qd abf aaa ajI
def ahc:Cfg:={T:=uS,spec:=[(97,RQ)],aX:=aE.G Tryz.prog,eqs:=uI,N:=23,fuel:=64,fid:=49}
theorem amK:aF Tryz.prog ahc:=aZ vX vU ⟨ae4,trivial⟩
theorem EI:aS Tryz.prog 49 Cw:=bV Tryz.f49 amK Wm (toY:=ah5)
end
end Go.Eng
set_option linter.unusedVariables false
set_option maxRecDepth 100000
namespace Go.Eng
noncomputable section
open Go Go.Proofs
def vO:List (Nat×TI):=[(3,⟨false,1, .one (.int .i64 0), .int .i64⟩),(9,⟨false,1, .one (.str []), .str⟩),(37,⟨false,1, .one (.clip .entry []), .slice .entry 90⟩),(90,⟨true,2, .agg [.str [], .int .i64 0], .struct [(0,9),(1,3)]⟩),(132,⟨false,1, .one (.int .u64 0), .int .u64⟩)]
def u4:List (Nat×List EK):= []
theorem IB:Tryz.prog.follows .mixedOrders=true:=by kernel_rfl
theorem wu:(vO.all fun x=>tiB Tryz.prog x.1 x.2)=true:=by kernel_rfl
theorem wo:(u4.all fun x=>eqB Tryz.prog x.1 x.2)=true:=by kernel_rfl
def Wp:Code:=bd Tryz.f87
def V6:Code:=bd Tryz.f101
def aim:Code:=bd Tryz.f125
def RF:Code:=bd Tryz.f126
def ank:Code:=bd Tryz.f133
def GL:Code:=bd Tryz.f141
def Sv:Code:=bd Tryz.f142
def KG:Code:=bd Tryz.f152
def Dj:HS:=⟨[(0, .one (.sl .entry)),(1, .one (.str)),(2, .one (.fnc 142)),(8, .one (.int .i64)),(9, .one (.int .i64)),(10, .one (.int .i64))], [],0⟩
def Jf {R:Type}:Nat→HS.V Dj→(Ex→St→Option R)→Option R:=fun q v K=>
 ef v.1.1 v.1.2.1 (fun y11=>K (.exit 0) {az:=[(0, .v (.one (.sl .entry v.1.1))),(1, .v (.one (.str v.1.2.1))),(2, .v (.one (.fnc 142))),(8, .v (.one (.int .i64 v.1.2.2.2.1))),(9, .v (.one (.int .i64 y11)))],mem:= [],nx:=0}) q v.1.2.2.2.2.1 v.1.2.2.2.2.2.1
def Xl:List HV:=[.one (.sl .entry), .one (.str)]
def PK:List HV:=[.one (.int .i64), .one (.bool)]
def afI:HP.V Xl→(List Entry)×Str:=fun v=>(v.1,v.2.1)
def afh:HX.V PK→Int×Bool:=fun v=>(v.1,v.2)
def ZY:(Int×Bool)→HX.V PK:=fun y=>(y.1,y.2)
def aiJ:(List Entry)×Str→Option (Int×Bool):=fun x=>nW x.1 x.2
def E9:Spec:=aT Xl PK afI ZY aiJ
def Xh:Cfg:={T:=vO,spec:=[(143,fI)],aX:=aE.G Tryz.prog,eqs:=u4,N:=9,fuel:=64,fid:=142}
theorem amB:aF Tryz.prog Xh:=aZ wu wo ⟨kU,trivial⟩
def aiV {R:Type}:Inl R:= .mk 142 Xh [] Sv Tryz.f142.results.toList []
def W3:Cfg:={T:=vO,spec:=[(143,fI)],aX:=aE.G Tryz.prog,eqs:=u4,N:=9,fuel:=64,fid:=142}
theorem Zk:aF Tryz.prog W3:=aZ wu wo ⟨kU,trivial⟩
def acQ {R:Type}:Inl R:= .mk 142 W3 [] Sv Tryz.f142.results.toList []
def OU {R:Type}:List (Nat×Hd R):=[(3,bC Dj Jf)]
def HD {R:Type}:List (Nat×Inl R):=[(30,aiV),(46,acQ)]
def Ix:Cfg:={T:=vO,aX:=aE.G Tryz.prog,eqs:=u4,N:=49,fuel:=64,loops:=[(3,⟨[0,1,2,8,9,10], [], [],0, [], [], [], []⟩)],blocks:=[(0,⟨[0,1,2,8,9], [], [],0, [], [], [], []⟩)],fid:=141}
theorem aa9:aF Tryz.prog Ix:=aZ wu wo trivial
theorem acj {R:Type}:aO Tryz.prog (R:=R) 1 HD:=bF Tryz.f142 amB (bF Tryz.f142 Zk (aA _ _))
theorem ZR {R:Type}:bA (R:=R) (hnd 1 HD) Ix OU (sub [1,1,1,0,0,0] GL) (HS.V Dj) (HS.st Dj) (HS.sh Dj) Jf (bC Dj Jf):=aM Dj Jf (fun _ _=>rfl) (by intro q v K;kernel_rfl)
theorem alw {R:Type}:aJ (R:=R) (hnd 1 HD) Ix OU GL:=aB (l:=[sub [1,1,1,0,0,0] GL]) (by kernel_rfl) (aH (b:=sub [1,1,1,0,0,0] GL) (rid:=3) (by kernel_rfl) (by kernel_rfl) ZR (trivial))
def aop {R:Type}:Inl R:= .mk 141 Ix OU GL Tryz.f141.results.toList HD
def ZL {R:Type}:List (Nat×Hd R):= []
def Wj {R:Type}:List (Nat×Inl R):=[(8,aop)]
def W5:Cfg:={T:=vO,aX:=aE.G Tryz.prog,eqs:=u4,N:=11,fuel:=64,fid:=125}
theorem aiW:aF Tryz.prog W5:=aZ wu wo trivial
theorem Y2 {R:Type}:aO Tryz.prog (R:=R) 2 Wj:=bE Tryz.f141 aa9 alw (bw (by kernel_rfl)) acj (aA _ _)
theorem Yz {R:Type}:aJ (R:=R) (hnd 2 Wj) W5 ZL aim:=aB (l:= []) (by kernel_rfl) (trivial)
theorem Ga:aS Tryz.prog 125 E9:=bl Tryz.f125 aiW IB (d:=2) Y2 Yz (bw (by kernel_rfl)) (toY:=afh)
def R7:List HV:=[.one (.sl .entry), .one (.str)]
def N4:List HV:=[.one (.sl .entry)]
def ama:HP.V R7→(List Entry)×Str:=fun v=>(v.1,v.2.1)
def alK:HX.V N4→(List Entry):=fun v=>(v)
def aeY:(List Entry)→HX.V N4:=fun y=>(y)
def akG:(List Entry)×Str→Option ((List Entry)):=fun x=>jJ x.1 x.2
def Vl:Spec:=aT R7 N4 ama aeY akG
def RN:Cfg:={T:=vO,spec:=[(125,E9)],aX:=aE.G Tryz.prog,eqs:=u4,N:=8,fuel:=64,fid:=126}
theorem ajF:aF Tryz.prog RN:=aZ wu wo ⟨Ga,trivial⟩
def aer {R:Type}:Inl R:= .mk 126 RN [] RF Tryz.f126.results.toList []
def abq {R:Type}:List (Nat×Hd R):= []
def Vv {R:Type}:List (Nat×Inl R):=[(17,aer)]
def NZ:Cfg:={T:=vO,spec:=[(125,E9)],aX:=aE.G Tryz.prog,eqs:=u4,N:=35,fuel:=64,fid:=87}
theorem ahM:aF Tryz.prog NZ:=aZ wu wo ⟨Ga,trivial⟩
theorem ah6 {R:Type}:aO Tryz.prog (R:=R) 1 Vv:=bF Tryz.f126 ajF (aA _ _)
theorem ali {R:Type}:aJ (R:=R) (hnd 1 Vv) NZ abq Wp:=aB (l:= []) (by kernel_rfl) (trivial)
theorem acy:gf Tryz.prog NZ Wp:=bw (by kernel_rfl)
theorem XB:aS Tryz.prog 87 Vl:=bl Tryz.f87 ahM IB (d:=1) ah6 ali acy (toY:=alK)
def T7:List HV:=[.one (.sl .entry), .one (.str), .one (.int .i64)]
def Rc:List HV:=[.one (.sl .entry)]
def anD:HP.V T7→(List Entry)×Str×Int:=fun v=>(v.1,v.2.1,v.2.2.1)
def amv:HX.V Rc→(List Entry):=fun v=>(v)
def alc:(List Entry)→HX.V Rc:=fun y=>(y)
def anH:(List Entry)×Str×Int→Option ((List Entry)):=fun x=>fF x.1 x.2.1 x.2.2
def Vc:Spec:=aT T7 Rc anD alc anH
def T5:Cfg:={T:=vO,spec:=[(125,E9)],aX:=aE.G Tryz.prog,eqs:=u4,N:=8,fuel:=64,ovl:=[150],fid:=126}
theorem ade:aF Tryz.prog T5:=aZ wu wo ⟨Ga,trivial⟩ (ov:=⟨Bj,trivial⟩)
def XC {R:Type}:Inl R:= .mk 126 T5 [] RF Tryz.f126.results.toList []
def Tp:Cfg:={T:=vO,spec:=[(125,E9)],aX:=aE.G Tryz.prog,eqs:=u4,N:=95,fuel:=64,ovl:=[150],fid:=133}
theorem abF:aF Tryz.prog Tp:=aZ wu wo ⟨Ga,trivial⟩ (ov:=⟨Bj,trivial⟩)
def amU {R:Type}:Inl R:= .mk 133 Tp [] ank Tryz.f133.results.toList []
def aao {R:Type}:List (Nat×Hd R):= []
def UY {R:Type}:List (Nat×Inl R):=[(17,XC),(31,amU)]
def Pa:Cfg:={T:=vO,spec:=[(125,E9)],aX:=aE.G Tryz.prog,eqs:=u4,N:=32,fuel:=64,ovl:=[150],fid:=101}
theorem Z9:aF Tryz.prog Pa:=aZ wu wo ⟨Ga,trivial⟩ (ov:=⟨Bj,trivial⟩)
theorem aa2 {R:Type}:aO Tryz.prog (R:=R) 1 UY:=bF Tryz.f126 ade (bF Tryz.f133 abF (aA _ _))
theorem alS {R:Type}:aJ (R:=R) (hnd 1 UY) Pa aao V6:=aB (l:= []) (by kernel_rfl) (trivial)
theorem agq:gf Tryz.prog Pa V6:=bw (by kernel_rfl)
theorem anx:aS Tryz.prog 101 Vc:=bl Tryz.f101 Z9 IB (d:=1) aa2 alS agq (toY:=amv)
def Cj:HS:=⟨[(0, .one (.sl .entry)),(5, .one (.sl .entry)),(6, .one (.int .i64)),(7, .one (.int .i64))], [],0⟩
def Le {R:Type}:Nat→HS.V Cj→(Ex→St→Option R)→Option R:=fun q v K=>
 iJ v.1.1 v.1.2.1 v.1.2.2.1 (K .ret {az:=[(2, .v (.one (.bool false)))],mem:= [],nx:=0}) (K (.exit 0) {az:= [],mem:= [],nx:=0}) q v.1.2.2.2.1
def TN:List HV:=[.one (.sl .entry)]
def N5:List HV:=[.one (.bool)]
def Yt:HP.V TN→(List Entry):=fun v=>(v.1)
def ac2:HX.V N5→Bool:=fun v=>(v)
def agA:Bool→HX.V N5:=fun y=>(y)
def amw:(List Entry)→Option (Bool):=fun x=>cf x
def Hn:Spec:=aT TN N5 Yt agA amw
def T0 {R:Type}:List (Nat×Hd R):=[(2,bC Cj Le)]
def Pj {R:Type}:List (Nat×Inl R):= []
def Oe:Cfg:={T:=vO,spec:=[(49,Cw)],aX:=aE.G Tryz.prog,eqs:=u4,N:=37,fuel:=64,loops:=[(2,⟨[0,5,6,7], [], [],0, [], [], [], []⟩)],blocks:=[(0,⟨[], [], [],0, [], [], [], []⟩)],eX:=some ⟨[2], [], [],0, [], [], [], []⟩,fid:=152}
theorem am4:aF Tryz.prog Oe:=aZ wu wo ⟨EI,trivial⟩
theorem afi {R:Type}:aO Tryz.prog (R:=R) 0 Pj:=aA _ _
theorem aay {R:Type}:bA (R:=R) (hnd 0 Pj) Oe T0 (sub [1,0,1,0,0] KG) (HS.V Cj) (HS.st Cj) (HS.sh Cj) Le (bC Cj Le):=aM Cj Le (fun _ _=>rfl) (by intro q v K;kernel_rfl)
theorem ahY {R:Type}:aJ (R:=R) (hnd 0 Pj) Oe T0 KG:=aB (l:=[sub [1,0,1,0,0] KG]) (by kernel_rfl) (aH (b:=sub [1,0,1,0,0] KG) (rid:=2) (by kernel_rfl) (by kernel_rfl) aay (trivial))
theorem Ir:aS Tryz.prog 152 Hn:=bl Tryz.f152 am4 IB (d:=0) afi ahY (bw (by kernel_rfl)) (toY:=ac2)
end
end Go.Eng
set_option linter.unusedVariables false
set_option maxRecDepth 100000
namespace Go.Eng
noncomputable section
open Go Go.Proofs
def lB:List (Nat×TI):=[(3,⟨false,1, .one (.int .i64 0), .int .i64⟩),(9,⟨false,1, .one (.str []), .str⟩),(22,⟨false,1, .one (.clip .aL []), .slice .aL 39⟩),(24,⟨true,4, .agg [.int .i64 0, .int .i64 0, .int .i64 0, .clip .aL []], .struct [(0,3),(1,3),(2,3),(3,22)]⟩),(37,⟨false,1, .one (.clip .entry []), .slice .entry 90⟩),(39,⟨true,6, .agg [.int .i64 0, .int .i64 0, .int .i64 0, .str [], .int .i64 0, .clip .entry []], .struct [(0,3),(1,3),(2,3),(3,9),(4,3),(5,37)]⟩),(90,⟨true,2, .agg [.str [], .int .i64 0], .struct [(0,9),(1,3)]⟩),(132,⟨false,1, .one (.int .u64 0), .int .u64⟩)]
def lD:List (Nat×List EK):=[(90,[.s, .i])]
theorem E4:Tryz.prog.follows .mixedOrders=true:=by kernel_rfl
theorem my:(lB.all fun x=>tiB Tryz.prog x.1 x.2)=true:=by kernel_rfl
theorem mc:(lD.all fun x=>eqB Tryz.prog x.1 x.2)=true:=by kernel_rfl
def ad0:Code:=bd Tryz.f32
def akg:Code:=bd Tryz.f42
def Ta:Code:=bd Tryz.f43
def amc:Code:=bd Tryz.f54
def FB:Code:=bd Tryz.f81
def agZ:Code:=bd Tryz.f82
def aeH:Code:=bd Tryz.f86
def aaf:Code:=bd Tryz.f88
def F_:Code:=bd Tryz.f89
def Ju:Code:=bd Tryz.f91
def Hs:Code:=bd Tryz.f122
def H5:Code:=bd Tryz.f124
def anU:Code:=bd Tryz.f127
def Kl:Code:=bd Tryz.f128
def A_:HS:=⟨[(0, .one (.sl .entry)),(1, .one (.sl .entry)),(12, .one (.int .i64)),(13, .one (.int .i64)),(1000038, .one (.bool))], [],0⟩
def Ih {R:Type}:Nat→HS.V A_→(Ex→St→Option R)→Option R:=fun q v K=>
 dR v.1.1 v.1.2.1 v.1.2.2.1 (K .ret {az:=[(4, .v (.one (.bool false))),(1000038, .v (.one (.bool v.1.2.2.2.2.1)))],mem:= [],nx:=0}) (K (.exit 0) {az:=[(1000038, .v (.one (.bool v.1.2.2.2.2.1)))],mem:= [],nx:=0}) q v.1.2.2.2.1
def SO:List HV:=[.agg hIn, .agg hIn]
def Pg:List HV:=[.one (.bool)]
def alq:HP.V SO→ae×ae:=fun v=>((cIn v.1),(cIn v.2.1))
def ajK:HX.V Pg→Bool:=fun v=>(v)
def aod:Bool→HX.V Pg:=fun y=>(y)
def anm:(ae×ae)→Option (Bool):=fun x=>lW x.1 x.2
def Mm:Spec:=aT SO Pg alq aod anm
def MG {R:Type}:List (Nat×Hd R):=[(4,bC A_ Ih)]
def Ja {R:Type}:List (Nat×Inl R):= []
def I2:Cfg:={T:=lB,aX:=aE.G Tryz.prog,eqs:=lD,N:=26,fuel:=64,loops:=[(4,⟨[0,1,12,13,1000038], [], [],0, [], [], [], []⟩)],blocks:=[(0,⟨[1000038], [], [],0, [], [], [], []⟩)],eX:=some ⟨[4,1000038], [], [],0, [], [], [], []⟩,fid:=122}
theorem acU:aF Tryz.prog I2:=aZ my mc trivial
theorem adT {R:Type}:aO Tryz.prog (R:=R) 0 Ja:=aA _ _
theorem ab7 {R:Type}:bA (R:=R) (hnd 0 Ja) I2 MG (sub [1,1,0,1,0,0] Hs) (HS.V A_) (HS.st A_) (HS.sh A_) Ih (bC A_ Ih):=aM A_ Ih (fun _ _=>rfl) (by intro q v K;kernel_rfl)
theorem akY {R:Type}:aJ (R:=R) (hnd 0 Ja) I2 MG Hs:=aB (l:=[sub [1,1,0,1,0,0] Hs]) (by kernel_rfl) (aH (b:=sub [1,1,0,1,0,0] Hs) (rid:=4) (by kernel_rfl) (by kernel_rfl) ab7 (trivial))
def ahI {R:Type}:Inl R:= .mk 122 I2 MG Hs Tryz.f122.results.toList Ja
def ajM {R:Type}:List (Nat×Hd R):= []
def Td {R:Type}:List (Nat×Inl R):=[(43,ahI)]
def TC:Cfg:={T:=lB,aX:=aE.G Tryz.prog,eqs:=lD,N:=45,fuel:=64,fid:=82}
theorem aaE:aF Tryz.prog TC:=aZ my mc trivial
theorem aci {R:Type}:aO Tryz.prog (R:=R) 1 Td:=bE Tryz.f122 acU akY (bw (by kernel_rfl)) adT (aA _ _)
theorem ae9 {R:Type}:aJ (R:=R) (hnd 1 Td) TC ajM agZ:=aB (l:= []) (by kernel_rfl) (trivial)
theorem SJ:aS Tryz.prog 82 Mm:=bl Tryz.f82 aaE E4 (d:=1) aci ae9 (bw (by kernel_rfl)) (toY:=ajK)
def CH:HS:=⟨[(1, .one (.sl .aL)),(2, .one (.fnc 82)),(15, .one (.sl .aL)),(16, .one (.int .i64)),(17, .one (.int .i64)),(1000024, .one (.bool))], [],0⟩
def JP {R:Type}:Nat→HS.V CH→(Ex→St→Option R)→Option R:=fun q v K=>
 eo v.1.1 v.1.2.2.1 v.1.2.2.2.1 (K .ret {az:=[(6, .v (.one (.bool false))),(1000024, .v (.one (.bool v.1.2.2.2.2.2.1)))],mem:= [],nx:=0}) (K (.exit 0) {az:=[(1000024, .v (.one (.bool v.1.2.2.2.2.2.1)))],mem:= [],nx:=0}) q v.1.2.2.2.2.1
def Uc:List HV:=[.agg hFs, .agg hFs]
def OF:List HV:=[.one (.bool)]
def acO:HP.V Uc→Fs×Fs:=fun v=>((cFs v.1),(cFs v.2.1))
def akN:HX.V OF→Bool:=fun v=>(v)
def ag3:Bool→HX.V OF:=fun y=>(y)
def acF:(Fs×Fs)→Option (Bool):=fun x=>kV x.1 x.2
def Oa:Spec:=aT Uc OF acO ag3 acF
def Mh {R:Type}:List (Nat×Hd R):=[(4,bC CH JP)]
def J5 {R:Type}:List (Nat×Inl R):= []
def JA:Cfg:={T:=lB,spec:=[(82,Mm)],aX:=aE.G Tryz.prog,eqs:=lD,N:=32,fuel:=64,loops:=[(4,⟨[1,2,15,16,17,1000024], [], [],0, [], [], [], []⟩)],blocks:=[(0,⟨[1000024], [], [],0, [], [], [], []⟩)],eX:=some ⟨[6,1000024], [], [],0, [], [], [], []⟩,fid:=81}
theorem ajq:aF Tryz.prog JA:=aZ my mc ⟨SJ,trivial⟩
theorem ajL {R:Type}:aO Tryz.prog (R:=R) 0 J5:=aA _ _
theorem am3 {R:Type}:bA (R:=R) (hnd 0 J5) JA Mh (sub [1,1,0,1,0,0] FB) (HS.V CH) (HS.st CH) (HS.sh CH) JP (bC CH JP):=aM CH JP (fun _ _=>rfl) (by intro q v K;kernel_rfl)
theorem amo {R:Type}:aJ (R:=R) (hnd 0 J5) JA Mh FB:=aB (l:=[sub [1,1,0,1,0,0] FB]) (by kernel_rfl) (aH (b:=sub [1,1,0,1,0,0] FB) (rid:=4) (by kernel_rfl) (by kernel_rfl) am3 (trivial))
def aa8 {R:Type}:Inl R:= .mk 81 JA Mh FB Tryz.f81.results.toList J5
def afb {R:Type}:List (Nat×Hd R):= []
def VH {R:Type}:List (Nat×Inl R):=[(29,aa8)]
def Vm:Cfg:={T:=lB,spec:=[(82,Mm)],aX:=aE.G Tryz.prog,eqs:=lD,N:=31,fuel:=64,fid:=32}
theorem ak6:aF Tryz.prog Vm:=aZ my mc ⟨SJ,trivial⟩
theorem afO {R:Type}:aO Tryz.prog (R:=R) 1 VH:=bE Tryz.f81 ajq amo (bw (by kernel_rfl)) ajL (aA _ _)
theorem Zx {R:Type}:aJ (R:=R) (hnd 1 VH) Vm afb ad0:=aB (l:= []) (by kernel_rfl) (trivial)
theorem Rn:aS Tryz.prog 32 Oa:=bl Tryz.f32 ak6 E4 (d:=1) afO Zx (bw (by kernel_rfl)) (toY:=akN)
def BL:HS:=⟨[(0, .one (.sl .aL)),(1, .one (.int .i64)),(2, .one (.fnc 124)),(8, .one (.int .i64)),(9, .one (.int .i64)),(10, .one (.int .i64))], [],0⟩
def LD {R:Type}:Nat→HS.V BL→(Ex→St→Option R)→Option R:=fun q v K=>
 cM v.1.1 v.1.2.1 (fun y10=>K (.exit 0) {az:=[(0, .v (.one (.sl .aL v.1.1))),(1, .v (.one (.int .i64 v.1.2.1))),(2, .v (.one (.fnc 124))),(8, .v (.one (.int .i64 v.1.2.2.2.1))),(9, .v (.one (.int .i64 y10)))],mem:= [],nx:=0}) q v.1.2.2.2.2.1 v.1.2.2.2.2.2.1
def TM:List HV:=[.agg hFs, .one (.int .i64)]
def PM:List HV:=[.one (.int .i64), .one (.bool)]
def aeV:HP.V TM→Fs×Int:=fun v=>((cFs v.1),v.2.1)
def af8:HX.V PM→Int×Bool:=fun v=>(v.1,v.2)
def acE:(Int×Bool)→HX.V PM:=fun y=>(y.1,y.2)
def ZK:(Fs×Int)→Option (Int×Bool):=fun x=>mM x.1 x.2
def zx:Spec:=aT TM PM aeV acE ZK
def Wc:Cfg:={T:=lB,aX:=aE.G Tryz.prog,eqs:=lD,N:=6,fuel:=64,fid:=128}
theorem ahp:aF Tryz.prog Wc:=aZ my mc trivial
def Yl {R:Type}:Inl R:= .mk 128 Wc [] Kl Tryz.f128.results.toList []
def Ti:Cfg:={T:=lB,aX:=aE.G Tryz.prog,eqs:=lD,N:=6,fuel:=64,fid:=128}
theorem adj:aF Tryz.prog Ti:=aZ my mc trivial
def ajb {R:Type}:Inl R:= .mk 128 Ti [] Kl Tryz.f128.results.toList []
def Tw {R:Type}:List (Nat×Hd R):= []
def Nh {R:Type}:List (Nat×Inl R):=[(8,Yl),(10,ajb)]
def Qt:Cfg:={T:=lB,aX:=aE.G Tryz.prog,eqs:=lD,N:=20,fuel:=64,fid:=91}
theorem ako:aF Tryz.prog Qt:=aZ my mc trivial
theorem aau {R:Type}:aO Tryz.prog (R:=R) 1 Nh:=bF Tryz.f128 ahp (bF Tryz.f128 adj (aA _ _))
theorem ZX {R:Type}:aJ (R:=R) (hnd 1 Nh) Qt Tw Ju:=aB (l:= []) (by kernel_rfl) (trivial)
def Zd {R:Type}:Inl R:= .mk 91 Qt Tw Ju Tryz.f91.results.toList Nh
def Sh {R:Type}:List (Nat×Hd R):= []
def Ra {R:Type}:List (Nat×Inl R):=[(8,Zd)]
def QT:Cfg:={T:=lB,aX:=aE.G Tryz.prog,eqs:=lD,N:=9,fuel:=64,fid:=124}
theorem ai4:aF Tryz.prog QT:=aZ my mc trivial
theorem agD {R:Type}:aO Tryz.prog (R:=R) 2 Ra:=bE Tryz.f91 ako ZX (bw (by kernel_rfl)) aau (aA _ _)
theorem ahK {R:Type}:aJ (R:=R) (hnd 2 Ra) QT Sh H5:=aB (l:= []) (by kernel_rfl) (trivial)
def alj {R:Type}:Inl R:= .mk 124 QT Sh H5 Tryz.f124.results.toList Ra
def VT:Cfg:={T:=lB,aX:=aE.G Tryz.prog,eqs:=lD,N:=6,fuel:=64,fid:=128}
theorem Y7:aF Tryz.prog VT:=aZ my mc trivial
def aea {R:Type}:Inl R:= .mk 128 VT [] Kl Tryz.f128.results.toList []
def V4:Cfg:={T:=lB,aX:=aE.G Tryz.prog,eqs:=lD,N:=6,fuel:=64,fid:=128}
theorem ab_:aF Tryz.prog V4:=aZ my mc trivial
def Zy {R:Type}:Inl R:= .mk 128 V4 [] Kl Tryz.f128.results.toList []
def Xc {R:Type}:List (Nat×Hd R):= []
def Mx {R:Type}:List (Nat×Inl R):=[(8,aea),(10,Zy)]
def MW:Cfg:={T:=lB,aX:=aE.G Tryz.prog,eqs:=lD,N:=20,fuel:=64,fid:=91}
theorem al2:aF Tryz.prog MW:=aZ my mc trivial
theorem X5 {R:Type}:aO Tryz.prog (R:=R) 1 Mx:=bF Tryz.f128 Y7 (bF Tryz.f128 ab_ (aA _ _))
theorem abY {R:Type}:aJ (R:=R) (hnd 1 Mx) MW Xc Ju:=aB (l:= []) (by kernel_rfl) (trivial)
def aeT {R:Type}:Inl R:= .mk 91 MW Xc Ju Tryz.f91.results.toList Mx
def Rv {R:Type}:List (Nat×Hd R):= []
def QX {R:Type}:List (Nat×Inl R):=[(8,aeT)]
def OA:Cfg:={T:=lB,aX:=aE.G Tryz.prog,eqs:=lD,N:=9,fuel:=64,fid:=124}
theorem ang:aF Tryz.prog OA:=aZ my mc trivial
theorem aoS {R:Type}:aO Tryz.prog (R:=R) 2 QX:=bE Tryz.f91 al2 abY (bw (by kernel_rfl)) X5 (aA _ _)
theorem akX {R:Type}:aJ (R:=R) (hnd 2 QX) OA Rv H5:=aB (l:= []) (by kernel_rfl) (trivial)
def akA {R:Type}:Inl R:= .mk 124 OA Rv H5 Tryz.f124.results.toList QX
def Qh {R:Type}:List (Nat×Hd R):=[(3,bC BL LD)]
def JV {R:Type}:List (Nat×Inl R):=[(30,alj),(46,akA)]
def HI:Cfg:={T:=lB,aX:=aE.G Tryz.prog,eqs:=lD,N:=49,fuel:=64,loops:=[(3,⟨[0,1,2,8,9,10], [], [],0, [], [], [], []⟩)],blocks:=[(0,⟨[0,1,2,8,9], [], [],0, [], [], [], []⟩)],fid:=89}
theorem YX:aF Tryz.prog HI:=aZ my mc trivial
theorem Yu {R:Type}:aO Tryz.prog (R:=R) 3 JV:=bE Tryz.f124 ai4 ahK (bw (by kernel_rfl)) agD (bE Tryz.f124 ang akX (bw (by kernel_rfl)) aoS (aA _ _))
theorem aok {R:Type}:bA (R:=R) (hnd 3 JV) HI Qh (sub [1,1,1,0,0,0] F_) (HS.V BL) (HS.st BL) (HS.sh BL) LD (bC BL LD):=aM BL LD (fun _ _=>rfl) (by intro q v K;kernel_rfl)
theorem Ye {R:Type}:aJ (R:=R) (hnd 3 JV) HI Qh F_:=aB (l:=[sub [1,1,1,0,0,0] F_]) (by kernel_rfl) (aH (b:=sub [1,1,1,0,0,0] F_) (rid:=3) (by kernel_rfl) (by kernel_rfl) aok (trivial))
def aoQ {R:Type}:Inl R:= .mk 89 HI Qh F_ Tryz.f89.results.toList JV
def amp {R:Type}:List (Nat×Hd R):= []
def Sn {R:Type}:List (Nat×Inl R):=[(9,aoQ)]
def Tf:Cfg:={T:=lB,aX:=aE.G Tryz.prog,eqs:=lD,N:=12,fuel:=64,fid:=86}
theorem ail:aF Tryz.prog Tf:=aZ my mc trivial
theorem an6 {R:Type}:aO Tryz.prog (R:=R) 4 Sn:=bE Tryz.f89 YX Ye (bw (by kernel_rfl)) Yu (aA _ _)
theorem ai7 {R:Type}:aJ (R:=R) (hnd 4 Sn) Tf amp aeH:=aB (l:= []) (by kernel_rfl) (trivial)
theorem Dp:aS Tryz.prog 86 zx:=bl Tryz.f86 ail E4 (d:=4) an6 ai7 (bw (by kernel_rfl)) (toY:=af8)
def VI:List HV:=[.agg hFs, .one (.int .i64)]
def Q9:List HV:=[.agg hIn, .one (.bool)]
def aiA:HP.V VI→Fs×Int:=fun v=>((cFs v.1),v.2.1)
def aen:HX.V Q9→ae×Bool:=fun v=>((cIn v.1),v.2)
def aks:(ae×Bool)→HX.V Q9:=fun y=>(uIn y.1,y.2)
def akU:(Fs×Int)→Option (ae×Bool):=fun x=>c_ x.1 x.2
def mG:Spec:=aT VI Q9 aiA aks akU
def afJ:Cfg:={T:=lB,spec:=[(86,zx)],aX:=aE.G Tryz.prog,eqs:=lD,N:=22,fuel:=64,fid:=38}
theorem ajX:aF Tryz.prog afJ:=aZ my mc ⟨Dp,trivial⟩
theorem m4:aS Tryz.prog 38 mG:=bV Tryz.f38 ajX E4 (toY:=aen)
def Tk:List HV:=[.agg hFs, .agg hIn]
def OV:List HV:=[.agg hFs]
def ad6:HP.V Tk→Fs×ae:=fun v=>((cFs v.1),(cIn v.2.1))
def akm:HX.V OV→Fs:=fun v=>((cFs v))
def ajl:Fs→HX.V OV:=fun y=>(uFs y)
def aiS:(Fs×ae)→Option (Fs):=fun x=>bh x.1 x.2
def yi:Spec:=aT Tk OV ad6 ajl aiS
def Sf:Cfg:={T:=lB,spec:=[(86,zx)],aX:=aE.G Tryz.prog,eqs:=lD,N:=8,fuel:=64,ovl:=[92],fid:=43}
theorem anC:aF Tryz.prog Sf:=aZ my mc ⟨Dp,trivial⟩ (ov:=⟨Ao,trivial⟩)
def XM {R:Type}:Inl R:= .mk 43 Sf [] Ta Tryz.f43.results.toList []
def RG:Cfg:={T:=lB,spec:=[(86,zx)],aX:=aE.G Tryz.prog,eqs:=lD,N:=95,fuel:=64,ovl:=[92],fid:=42}
theorem anj:aF Tryz.prog RG:=aZ my mc ⟨Dp,trivial⟩ (ov:=⟨Ao,trivial⟩)
def anG {R:Type}:Inl R:= .mk 42 RG [] akg Tryz.f42.results.toList []
def aiQ {R:Type}:List (Nat×Hd R):= []
def WQ {R:Type}:List (Nat×Inl R):=[(16,XM),(30,anG)]
def Sy:Cfg:={T:=lB,spec:=[(86,zx)],aX:=aE.G Tryz.prog,eqs:=lD,N:=33,fuel:=64,ovl:=[92],fid:=54}
theorem aoc:aF Tryz.prog Sy:=aZ my mc ⟨Dp,trivial⟩ (ov:=⟨Ao,trivial⟩)
theorem anM {R:Type}:aO Tryz.prog (R:=R) 1 WQ:=bF Tryz.f43 anC (bF Tryz.f42 anj (aA _ _))
theorem ahQ {R:Type}:aJ (R:=R) (hnd 1 WQ) Sy aiQ amc:=aB (l:= []) (by kernel_rfl) (trivial)
theorem zz:aS Tryz.prog 54 yi:=bl Tryz.f54 aoc E4 (d:=1) anM ahQ (bw (by kernel_rfl)) (toY:=akm)
def Ud:List HV:=[.agg hFs, .one (.int .i64)]
def Mn:List HV:=[.agg hFs]
def ab0:HP.V Ud→Fs×Int:=fun v=>((cFs v.1),v.2.1)
def aj7:HX.V Mn→Fs:=fun v=>((cFs v))
def aeO:Fs→HX.V Mn:=fun y=>(uFs y)
def Y8:(Fs×Int)→Option (Fs):=fun x=>np x.1 x.2
def Rm:Spec:=aT Ud Mn ab0 aeO Y8
def UG:Cfg:={T:=lB,spec:=[(86,zx)],aX:=aE.G Tryz.prog,eqs:=lD,N:=8,fuel:=64,fid:=43}
theorem acH:aF Tryz.prog UG:=aZ my mc ⟨Dp,trivial⟩
def agV {R:Type}:Inl R:= .mk 43 UG [] Ta Tryz.f43.results.toList []
def TE:Cfg:={T:=lB,spec:=[(86,zx)],aX:=aE.G Tryz.prog,eqs:=lD,N:=33,fuel:=64,fid:=127}
theorem adP:aF Tryz.prog TE:=aZ my mc ⟨Dp,trivial⟩
def YD {R:Type}:Inl R:= .mk 127 TE [] anU Tryz.f127.results.toList []
def ao4 {R:Type}:List (Nat×Hd R):= []
def Sc {R:Type}:List (Nat×Inl R):=[(15,agV),(23,YD)]
def R5:Cfg:={T:=lB,spec:=[(86,zx)],aX:=aE.G Tryz.prog,eqs:=lD,N:=26,fuel:=64,fid:=88}
theorem ad8:aF Tryz.prog R5:=aZ my mc ⟨Dp,trivial⟩
theorem anP {R:Type}:aO Tryz.prog (R:=R) 1 Sc:=bF Tryz.f43 acH (bF Tryz.f127 adP (aA _ _))
theorem aoR {R:Type}:aJ (R:=R) (hnd 1 Sc) R5 ao4 aaf:=aB (l:= []) (by kernel_rfl) (trivial)
theorem YR:aS Tryz.prog 88 Rm:=bl Tryz.f88 ad8 E4 (d:=1) anP aoR (bw (by kernel_rfl)) (toY:=aj7)
end
end Go.Eng
set_option linter.unusedVariables false
set_option maxRecDepth 100000
namespace Go.Eng
noncomputable section
open Go Go.Proofs
def M9:List (Nat×TI):=[(3,⟨false,1, .one (.int .i64 0), .int .i64⟩),(9,⟨false,1, .one (.str []), .str⟩),(24,⟨true,4, .agg [.int .i64 0, .int .i64 0, .int .i64 0, .clip .aL []], .struct [(0,3),(1,3),(2,3),(3,22)]⟩),(34,⟨true,3, .agg [.int .i64 0, .str [], .int .i64 0], .struct [(0,3),(1,9),(2,3)]⟩),(37,⟨false,1, .one (.clip .entry []), .slice .entry 90⟩),(39,⟨true,6, .agg [.int .i64 0, .int .i64 0, .int .i64 0, .str [], .int .i64 0, .clip .entry []], .struct [(0,3),(1,3),(2,3),(3,9),(4,3),(5,37)]⟩)]
def MU:List (Nat×List EK):= []
theorem Wk:Tryz.prog.follows .mixedOrders=true:=by kernel_rfl
theorem SF:(M9.all fun x=>tiB Tryz.prog x.1 x.2)=true:=by kernel_rfl
theorem SN:(MU.all fun x=>eqB Tryz.prog x.1 x.2)=true:=by kernel_rfl
def RJ:List HV:=[.agg hFs, .agg [.int .i64, .str, .int .i64]]
def OE:List HV:=[.agg hFs]
def afF:HP.V RJ→Fs×ax:=fun v=>((cFs v.1),(⟨v.2.1.1,v.2.1.2.1,v.2.1.2.2.1⟩:ax))
def apd:HX.V OE→Fs:=fun v=>((cFs v))
def aiL:Fs→HX.V OE:=fun y=>(uFs y)
def Xu:(Fs×ax)→Option (Fs):=fun x=>lU x.1 x.2
def PE:Spec:=aT RJ OE afF aiL Xu
def aaB:Cfg:={T:=M9,spec:=[(38,mG),(54,yi),(87,Vl),(88,Rm)],aX:=aE.G Tryz.prog,eqs:=MU,N:=46,fuel:=64,fid:=39}
theorem aoT:aF Tryz.prog aaB:=aZ SF SN ⟨m4,⟨zz,⟨XB,⟨YR,trivial⟩⟩⟩⟩
theorem W6:aS Tryz.prog 39 PE:=bV Tryz.f39 aoT Wk (toY:=apd)
def UE:List HV:=[.agg hFs, .agg [.int .i64, .str, .int .i64], .one (.int .i64)]
def PL:List HV:=[.agg hFs]
def aav:HP.V UE→Fs×ax×Int:=fun v=>((cFs v.1),(⟨v.2.1.1,v.2.1.2.1,v.2.1.2.2.1⟩:ax),v.2.2.1)
def ab8:HX.V PL→Fs:=fun v=>((cFs v))
def Zp:Fs→HX.V PL:=fun y=>(uFs y)
def ae3:(Fs×ax×Int)→Option (Fs):=fun x=>bO x.1 x.2.1 x.2.2
def D_:Spec:=aT UE PL aav Zp ae3
def aoU:Cfg:={T:=M9,spec:=[(38,mG),(54,yi),(101,Vc)],aX:=aE.G Tryz.prog,eqs:=MU,N:=41,fuel:=64,fid:=55}
theorem alU:aF Tryz.prog aoU:=aZ SF SN ⟨m4,⟨zz,⟨anx,trivial⟩⟩⟩
theorem FC:aS Tryz.prog 55 D_:=bV Tryz.f55 alU Wk (toY:=ab8)
end
end Go.Eng
set_option linter.unusedVariables false
set_option maxRecDepth 100000
namespace Go.Eng
noncomputable section
open Go Go.Proofs
def KE:List (Nat×TI):=[(3,⟨false,1, .one (.int .i64 0), .int .i64⟩),(9,⟨false,1, .one (.str []), .str⟩),(22,⟨false,1, .one (.clip .aL []), .slice .aL 39⟩),(24,⟨true,4, .agg [.int .i64 0, .int .i64 0, .int .i64 0, .clip .aL []], .struct [(0,3),(1,3),(2,3),(3,22)]⟩),(39,⟨true,6, .agg [.int .i64 0, .int .i64 0, .int .i64 0, .str [], .int .i64 0, .clip .entry []], .struct [(0,3),(1,3),(2,3),(3,9),(4,3),(5,37)]⟩)]
def Kk:List (Nat×List EK):= []
theorem Nz:Tryz.prog.follows .mixedOrders=true:=by kernel_rfl
theorem Rg:(KE.all fun x=>tiB Tryz.prog x.1 x.2)=true:=by kernel_rfl
theorem Na:(Kk.all fun x=>eqB Tryz.prog x.1 x.2)=true:=by kernel_rfl
def ID:Code:=bd Tryz.f99
def Rs:List HV:=[.agg hFs]
def L5:List HV:=[.one (.int .i64)]
def abZ:HP.V Rs→Fs:=fun v=>((cFs v.1))
def aii:HX.V L5→Int:=fun v=>(v)
def ajk:Int→HX.V L5:=fun y=>(y)
def YF:Fs→Option (Int):=fun x=>n0 x
def Up:Spec:=aT Rs L5 abZ ajk YF
def ak3:Cfg:={T:=KE,aX:=aE.G Tryz.prog,eqs:=Kk,N:=6,fuel:=64,fid:=98}
theorem aeh:aF Tryz.prog ak3:=aZ Rg Na trivial
theorem ah1:aS Tryz.prog 98 Up:=bV Tryz.f98 aeh Nz (toY:=aii)
def Ce:HS:=⟨[(1, .one (.ptr 0 0)),(3, .one (.int .i64)),(7, .one (.int .i64)),(8, .one (.int .i64))],[(0, .cells hFs)],1⟩
def JE {R:Type}:Nat→HS.V Ce→(Ex→St→Option R)→Option R:=fun q v K=>
 fa v.1.2.2.1 (cFs v.2.1) (fun y7=>K (.exit 0) {az:=[(3, .v (.one (.int .i64 y7)))],mem:= [],nx:=0}) q v.1.2.1 v.1.2.2.2.1
def Xb:List HV:=[.agg hFs]
def QB:List HV:=[.one (.int .i64)]
def amd:HP.V Xb→Fs:=fun v=>((cFs v.1))
def ahl:HX.V QB→Int:=fun v=>(v)
def abw:Int→HX.V QB:=fun y=>(y)
def aiu:Fs→Option (Int):=fun x=>m7 x
def VU:Spec:=aT Xb QB amd abw aiu
def VG {R:Type}:List (Nat×Hd R):=[(3,bC Ce JE)]
def Oj {R:Type}:List (Nat×Inl R):= []
def NW:Cfg:={T:=KE,aX:=aE.G Tryz.prog,eqs:=Kk,N:=29,fuel:=64,loops:=[(3,⟨[1,3,7,8], [],[0],1, [], [], [], []⟩)],blocks:=[(0,⟨[3], [], [],0, [], [], [], []⟩)],fid:=99}
theorem ae1:aF Tryz.prog NW:=aZ Rg Na trivial
theorem aiP {R:Type}:aO Tryz.prog (R:=R) 0 Oj:=aA _ _
theorem aeI {R:Type}:bA (R:=R) (hnd 0 Oj) NW VG (sub [1,1,0,1,0,0] ID) (HS.V Ce) (HS.st Ce) (HS.sh Ce) JE (bC Ce JE):=aM Ce JE (fun _ _=>rfl) (by intro q v K;kernel_rfl)
theorem al5 {R:Type}:aJ (R:=R) (hnd 0 Oj) NW VG ID:=aB (l:=[sub [1,1,0,1,0,0] ID]) (by kernel_rfl) (aH (b:=sub [1,1,0,1,0,0] ID) (rid:=3) (by kernel_rfl) (by kernel_rfl) aeI (trivial))
theorem aeQ:aS Tryz.prog 99 VU:=bl Tryz.f99 ae1 Nz (d:=0) aiP al5 (bw (by kernel_rfl)) (toY:=ahl)
def WR:List HV:=[.agg hFs, .one (.int .i64), .one (.int .i64)]
def PX:List HV:=[.one (.bool)]
def anB:HP.V WR→Fs×Int×Int:=fun v=>((cFs v.1),v.2.1,v.2.2.1)
def aof:HX.V PX→Bool:=fun v=>(v)
def acJ:Bool→HX.V PX:=fun y=>(y)
def agt:(Fs×Int×Int)→Option (Bool):=fun x=>fx x.1 x.2.1 x.2.2
def Ad:Spec:=aT WR PX anB acJ agt
def akl:Cfg:={T:=KE,spec:=[(98,Up),(99,VU)],aX:=aE.G Tryz.prog,eqs:=Kk,N:=23,fuel:=64,fid:=51}
theorem ZB:aF Tryz.prog akl:=aZ Rg Na ⟨ah1,⟨aeQ,trivial⟩⟩
theorem A3:aS Tryz.prog 51 Ad:=bV Tryz.f51 ZB Nz (toY:=aof)
end
end Go.Eng
set_option linter.unusedVariables false
set_option maxRecDepth 100000
namespace Go.Eng
noncomputable section
open Go Go.Proofs
def Qm:List (Nat×TI):=[(22,⟨false,1, .one (.clip .aL []), .slice .aL 39⟩),(25,⟨false,1, .one (.clip .kept []), .slice .kept 60⟩),(39,⟨true,6, .agg [.int .i64 0, .int .i64 0, .int .i64 0, .str [], .int .i64 0, .clip .entry []], .struct [(0,3),(1,3),(2,3),(3,9),(4,3),(5,37)]⟩),(60,⟨true,4, .agg [.int .i64 0, .int .i64 0, .bool false, .str []], .struct [(0,3),(1,3),(2,4),(3,9)]⟩)]
def P4:List (Nat×List EK):= []
theorem Wh:Tryz.prog.follows .mixedOrders=true:=by kernel_rfl
theorem WU:(Qm.all fun x=>tiB Tryz.prog x.1 x.2)=true:=by kernel_rfl
theorem UM:(P4.all fun x=>eqB Tryz.prog x.1 x.2)=true:=by kernel_rfl
def MV:Code:=bd Tryz.f43
def Qj:Code:=bd Tryz.f95
def Mt:List HV:=[.one (.sl .aL)]
def Sk:HP.V Mt→(List ae):=fun v=>(v.1)
def Vy:(List ae)→Option ((List ae)):=fun x=>bP x
def Vp {R:Type}:List (Nat×Hd R):= []
def Of {R:Type}:List (Nat×Inl R):= []
def IE:Cfg:={T:=Qm,aX:=aE.G Tryz.prog,eqs:=P4,N:=8,fuel:=64,fid:=43}
theorem ahz:aF Tryz.prog IE:=aZ WU UM trivial
theorem ajx {R:Type}:aO Tryz.prog (R:=R) 0 Of:=aA _ _
theorem aj8 {R:Type}:aJ (R:=R) (hnd 0 Of) IE Vp MV:=aB (l:= []) (by kernel_rfl) (trivial)
theorem aeu:gf Tryz.prog IE MV:=bw (by kernel_rfl)
def LA:kh:=mV Mt Sk (AB.row .aL) Vy
theorem aan:∀v,Ai (hnd 0 Of) IE Vp MV Tryz.f43.results.toList (HP.st Mt v) (yM .aL)=Vy (Sk v):=by intro v;kernel_rfl
theorem L7:nA Tryz.prog 43 LA:=uZ (fn:=Tryz.f43) (by kernel_rfl) (by kernel_rfl) (by kernel_rfl) ahz (by kernel_rfl) (by kernel_rfl) Wh (by kernel_rfl) w9 (d:=0) ajx aj8 aeu aan
def Pf:List HV:=[.one (.sl .kept)]
def VZ:HP.V Pf→(List Kept):=fun v=>(v.1)
def Wn:(List Kept)→Option ((List Kept)):=fun x=>dP x
def So {R:Type}:List (Nat×Hd R):= []
def QP {R:Type}:List (Nat×Inl R):= []
def Ld:Cfg:={T:=Qm,aX:=aE.G Tryz.prog,eqs:=P4,N:=8,fuel:=64,fid:=95}
theorem amX:aF Tryz.prog Ld:=aZ WU UM trivial
theorem ai_ {R:Type}:aO Tryz.prog (R:=R) 0 QP:=aA _ _
theorem akD {R:Type}:aJ (R:=R) (hnd 0 QP) Ld So Qj:=aB (l:= []) (by kernel_rfl) (trivial)
theorem aa3:gf Tryz.prog Ld Qj:=bw (by kernel_rfl)
def IV:kh:=mV Pf VZ (AB.row .kept) Wn
theorem anZ:∀v,Ai (hnd 0 QP) Ld So Qj Tryz.f95.results.toList (HP.st Pf v) (yM .kept)=Wn (VZ v):=by intro v;kernel_rfl
theorem N_:nA Tryz.prog 95 IV:=uZ (fn:=Tryz.f95) (by kernel_rfl) (by kernel_rfl) (by kernel_rfl) amX (by kernel_rfl) (by kernel_rfl) Wh (by kernel_rfl) w9 (d:=0) ai_ akD aa3 anZ
end
end Go.Eng
set_option linter.unusedVariables false
set_option maxRecDepth 100000
namespace Go.Eng
noncomputable section
open Go Go.Proofs
def qM:List (Nat×TI):=[(3,⟨false,1, .one (.int .i64 0), .int .i64⟩),(4,⟨false,1, .one (.bool false), .bool⟩),(9,⟨false,1, .one (.str []), .str⟩),(22,⟨false,1, .one (.clip .aL []), .slice .aL 39⟩),(24,⟨true,4, .agg [.int .i64 0, .int .i64 0, .int .i64 0, .clip .aL []], .struct [(0,3),(1,3),(2,3),(3,22)]⟩),(37,⟨false,1, .one (.clip .entry []), .slice .entry 90⟩),(39,⟨true,6, .agg [.int .i64 0, .int .i64 0, .int .i64 0, .str [], .int .i64 0, .clip .entry []], .struct [(0,3),(1,3),(2,3),(3,9),(4,3),(5,37)]⟩),(63,⟨false,1, .one (.kR), .other⟩),(90,⟨true,2, .agg [.str [], .int .i64 0], .struct [(0,9),(1,3)]⟩),(118,⟨false,1, .one (.clip .int []), .slice .int 3⟩),(138,⟨true,2, .agg [.int .i64 0, .kR], .struct [(0,3),(1,63)]⟩),(139,⟨false,1, .one (.clip .rz []), .slice .rz 138⟩),(150,⟨false,1, .one (.lC), .map .int .aL 3 39⟩),(152,⟨false,1, .one (.lC), .map .int .int 3 3⟩),(153,⟨false,1, .one (.lC), .map .int .bool 3 4⟩)]
def qN:List (Nat×List EK):= []
theorem AP:Tryz.prog.follows .mixedOrders=true:=by kernel_rfl
theorem ri:(qM.all fun x=>tiB Tryz.prog x.1 x.2)=true:=by kernel_rfl
theorem rZ:(qN.all fun x=>eqB Tryz.prog x.1 x.2)=true:=by kernel_rfl
def P0:Code:=bd Tryz.f110
def VN:Code:=bd Tryz.f120
def I9:Code:=bd Tryz.f134
def Kf:Code:=bd Tryz.f135
def C4:Code:=bd Tryz.f136
def v7:Code:=bd Tryz.f137
def Fh:Code:=bd Tryz.f138
def Rt:Code:=bd Tryz.f140
def wx:Code:=bd Tryz.f153
def JW:Code:=bd Tryz.f154
def BD:HS:=⟨[(1, .one (.ptr 0 0)),(3, .one (.int .i64)),(30, .one (.sl .aL)),(31, .one (.int .i64)),(32, .one (.int .i64))],[(0, .cells hFs)],1⟩
def LN {R:Type}:Nat→HS.V BD→(Ex→St→Option R)→Option R:=fun q v K=>
 jz v.1.2.2.1 v.1.2.2.2.1 (cFs v.2.1) (K .ret {az:=[(2, .v (.one (.bool false)))],mem:= [],nx:=0}) (K (.exit 0) {az:=[(1, .v (.one (.ptr 0 0)))],mem:=[(0, .cells (rFs (cFs v.2.1)))],nx:=1}) q v.1.2.1 v.1.2.2.2.2.1
def Um:List HV:=[.agg hFs]
def MR:List HV:=[.one (.bool)]
def adq:HP.V Um→Fs:=fun v=>((cFs v.1))
def ahy:HX.V MR→Bool:=fun v=>(v)
def adA:Bool→HX.V MR:=fun y=>(y)
def XP:Fs→Option (Bool):=fun x=>jK x
def Xi:Spec:=aT Um MR adq adA XP
def S5 {R:Type}:List (Nat×Hd R):=[(5,bC BD LN)]
def PY {R:Type}:List (Nat×Inl R):= []
def Ph:Cfg:={T:=qM,aX:=aE.G Tryz.prog,eqs:=qN,N:=70,fuel:=64,loops:=[(5,⟨[1,3,30,31,32], [],[0],1, [], [], [], []⟩)],blocks:=[(0,⟨[1], [],[0],1, [], [], [], []⟩)],eX:=some ⟨[2], [], [],0, [], [], [], []⟩,fid:=134}
theorem alY:aF Tryz.prog Ph:=aZ ri rZ trivial
theorem agH {R:Type}:aO Tryz.prog (R:=R) 0 PY:=aA _ _
theorem ao6 {R:Type}:bA (R:=R) (hnd 0 PY) Ph S5 (sub [1,1,1,0,1,0,0] I9) (HS.V BD) (HS.st BD) (HS.sh BD) LN (bC BD LN):=aM BD LN (fun _ _=>rfl) (by intro q v K;kernel_rfl)
theorem am5 {R:Type}:aJ (R:=R) (hnd 0 PY) Ph S5 I9:=aB (l:=[sub [1,1,1,0,1,0,0] I9]) (by kernel_rfl) (aH (b:=sub [1,1,1,0,1,0,0] I9) (rid:=5) (by kernel_rfl) (by kernel_rfl) ao6 (trivial))
theorem aob:aS Tryz.prog 134 Xi:=bl Tryz.f134 alY AP (d:=0) agH am5 (bw (by kernel_rfl)) (toY:=ahy)
def Ch:HS:=⟨[(7, .one (.sl .aL)),(8, .one (.int .i64)),(9, .one (.int .i64))], [],0⟩
def IT {R:Type}:Nat→HS.V Ch→(Ex→St→Option R)→Option R:=fun q v K=>
 bL v.1.1 v.1.2.1 (K .ret {az:=[(2, .v (.one (.bool false)))],mem:= [],nx:=0}) (K (.exit 0) {az:= [],mem:= [],nx:=0}) q v.1.2.2.1
def S6:List HV:=[.agg hFs]
def MB:List HV:=[.one (.bool)]
def aem:HP.V S6→Fs:=fun v=>((cFs v.1))
def acG:HX.V MB→Bool:=fun v=>(v)
def abp:Bool→HX.V MB:=fun y=>(y)
def ac1:Fs→Option (Bool):=fun x=>l6 x
def UT:Spec:=aT S6 MB aem abp ac1
def SB {R:Type}:List (Nat×Hd R):= []
def NY {R:Type}:List (Nat×Inl R):= []
def Mz:Cfg:={T:=qM,spec:=[(152,Hn),(162,cG)],aX:=aE.G Tryz.prog,eqs:=qN,N:=143,fuel:=64,eX:=some ⟨[4,3000004,3000007,3000008,3000009,3000047], [],[0],1, [], [], [], []⟩,fid:=154}
theorem acb:aF Tryz.prog Mz:=aZ ri rZ ⟨Ir,⟨dC,trivial⟩⟩
theorem ada {R:Type}:aO Tryz.prog (R:=R) 0 NY:=aA _ _
theorem agR {R:Type}:aJ (R:=R) (hnd 0 NY) Mz SB JW:=aB (l:=[sub [1,1,1,1,1,1,1,1,0,0,0] JW]) (by kernel_rfl) (gw (b:=sub [1,1,1,1,1,1,1,1,0,0,0] JW) (rid:=15) (by kernel_rfl) (by kernel_rfl) (trivial))
def X4 {R:Type}:Inl R:= .mk 154 Mz SB JW Tryz.f154.results.toList NY
def TU {R:Type}:List (Nat×Hd R):= []
def Ng {R:Type}:List (Nat×Inl R):=[(7,X4)]
def Ov:Cfg:={T:=qM,spec:=[(152,Hn)],aX:=aE.G Tryz.prog,eqs:=qN,N:=8,fuel:=64,fid:=140}
theorem ai3:aF Tryz.prog Ov:=aZ ri rZ ⟨Ir,trivial⟩
theorem YL {R:Type}:aO Tryz.prog (R:=R) 1 Ng:=bE Tryz.f154 acb agR (bw (by kernel_rfl)) ada (aA _ _)
theorem agK {R:Type}:aJ (R:=R) (hnd 1 Ng) Ov TU Rt:=aB (l:= []) (by kernel_rfl) (trivial)
def afZ {R:Type}:Inl R:= .mk 140 Ov TU Rt Tryz.f140.results.toList Ng
def Vo {R:Type}:List (Nat×Hd R):= []
def Oz {R:Type}:List (Nat×Inl R):=[(7,afZ)]
def QD:Cfg:={T:=qM,spec:=[(152,Hn)],aX:=aE.G Tryz.prog,eqs:=qN,N:=9,fuel:=64,fid:=120}
theorem alk:aF Tryz.prog QD:=aZ ri rZ ⟨Ir,trivial⟩
theorem acY {R:Type}:aO Tryz.prog (R:=R) 2 Oz:=bE Tryz.f140 ai3 agK (bw (by kernel_rfl)) YL (aA _ _)
theorem ahn {R:Type}:aJ (R:=R) (hnd 2 Oz) QD Vo VN:=aB (l:= []) (by kernel_rfl) (trivial)
def amr {R:Type}:Inl R:= .mk 120 QD Vo VN Tryz.f120.results.toList Oz
def T1 {R:Type}:List (Nat×Hd R):=[(2,bC Ch IT)]
def Re {R:Type}:List (Nat×Inl R):=[(50,amr)]
def QG:Cfg:={T:=qM,spec:=[(152,Hn)],aX:=aE.G Tryz.prog,eqs:=qN,N:=68,fuel:=64,loops:=[(2,⟨[7,8,9], [], [],0, [], [], [], []⟩)],blocks:=[(0,⟨[], [], [],0, [], [], [], []⟩)],eX:=some ⟨[2], [], [],0, [], [], [], []⟩,fid:=135}
theorem aox:aF Tryz.prog QG:=aZ ri rZ ⟨Ir,trivial⟩
theorem adO {R:Type}:aO Tryz.prog (R:=R) 3 Re:=bE Tryz.f120 alk ahn (bw (by kernel_rfl)) acY (aA _ _)
theorem aaY {R:Type}:bA (R:=R) (hnd 3 Re) QG T1 (sub [1,0,1,0,0] Kf) (HS.V Ch) (HS.st Ch) (HS.sh Ch) IT (bC Ch IT):=aM Ch IT (fun _ _=>rfl) (by intro q v K;kernel_rfl)
theorem aid {R:Type}:aJ (R:=R) (hnd 3 Re) QG T1 Kf:=aB (l:=[sub [1,0,1,0,0] Kf]) (by kernel_rfl) (aH (b:=sub [1,0,1,0,0] Kf) (rid:=2) (by kernel_rfl) (by kernel_rfl) aaY (trivial))
theorem Yc:aS Tryz.prog 135 UT:=bl Tryz.f135 aox AP (d:=3) adO aid (bw (by kernel_rfl)) (toY:=acG)
def Cv:HS:=⟨[(3, .one (.da 2)),(11, .one (.sl .aL)),(12, .one (.int .i64)),(13, .one (.int .i64)),(1000001, .one (.ptr 0 0))],[(0, .cells hFs),(2, .map true .int .aL)],3⟩
def IG {R:Type}:Nat→HS.V Cv→(Ex→St→Option R)→Option R:=fun q v K=>
 iH v.1.2.1 v.1.2.2.1 (fun y9 y10=>K (.exit 0) {az:=[(3, .v (.one (.da 2))),(1000001, .v (.one (.ptr 0 0)))],mem:=[(0, .cells (rFs (cFs v.2.1))),(2, .map true .int .aL y9 y10)],nx:=3}) q v.1.2.2.2.1 v.2.2.1.1 v.2.2.1.2
def Cn:HS:=⟨[(3, .one (.da 2)),(13, .one (.sl .aL)),(14, .one (.int .i64)),(15, .one (.int .i64)),(20, .one (.sl .entry)),(21, .one (.int .i64)),(22, .one (.int .i64))],[(2, .map true .int .aL)],3⟩
def I8 {R:Type}:Nat→HS.V Cn→(Ex→St→Option R)→Option R:=fun q v K=>
 iT v.1.2.2.2.2.1 v.1.2.2.2.2.2.1 v.2.1.1 (K .ret {az:=[(2, .v (.one (.bool false)))],mem:= [],nx:=0}) (K (.exit 2) {az:=[(3, .v (.one (.da 2))),(13, .v (.one (.sl .aL v.1.2.1))),(14, .v (.one (.int .i64 v.1.2.2.1))),(15, .v (.one (.int .i64 v.1.2.2.2.1)))],mem:=[(2, .map true .int .aL v.2.1.1 v.2.1.2)],nx:=3}) q v.1.2.2.2.2.2.2.1
def Cb:HS:=⟨[(3, .one (.da 2)),(13, .one (.sl .aL)),(14, .one (.int .i64)),(15, .one (.int .i64))],[(2, .map true .int .aL)],3⟩
def JK {R:Type}:Nat→HS.V Cb→(Ex→St→Option R)→Option R:=fun q v K=>
 kZ v.1.2.1 v.1.2.2.1 v.2.1.1 (K .ret {az:=[(2, .v (.one (.bool false)))],mem:= [],nx:=0}) (K (.exit 0) {az:= [],mem:= [],nx:=0}) q v.1.2.2.2.1
def TP:List HV:=[.agg hFs]
def PJ:List HV:=[.one (.bool)]
def ajP:HP.V TP→Fs:=fun v=>((cFs v.1))
def Y1:HX.V PJ→Bool:=fun v=>(v)
def abK:Bool→HX.V PJ:=fun y=>(y)
def abv:Fs→Option (Bool):=fun x=>lY x
def W8:Spec:=aT TP PJ ajP abK abv
def NR {R:Type}:List (Nat×Hd R):=[(3,bC Cv IG)]
def KK {R:Type}:List (Nat×Inl R):= []
def Li:Cfg:={T:=qM,aX:=aE.G Tryz.prog,eqs:=qN,N:=23,fuel:=64,loops:=[(3,⟨[3,11,12,13,1000001], [],[0,2],3, [], [], [], []⟩)],blocks:=[(0,⟨[3,1000001], [],[0,2],3, [], [], [], []⟩)],fid:=153}
theorem ant:aF Tryz.prog Li:=aZ ri rZ trivial
theorem af1 {R:Type}:aO Tryz.prog (R:=R) 0 KK:=aA _ _
theorem aaq {R:Type}:bA (R:=R) (hnd 0 KK) Li NR (sub [1,1,0,1,0,0] wx) (HS.V Cv) (HS.st Cv) (HS.sh Cv) IG (bC Cv IG):=aM Cv IG (fun _ _=>rfl) (by intro q v K;kernel_rfl)
theorem aeS {R:Type}:aJ (R:=R) (hnd 0 KK) Li NR wx:=aB (l:=[sub [1,1,0,1,0,0] wx]) (by kernel_rfl) (aH (b:=sub [1,1,0,1,0,0] wx) (rid:=3) (by kernel_rfl) (by kernel_rfl) aaq (trivial))
def abW {R:Type}:Inl R:= .mk 153 Li NR wx Tryz.f153.results.toList KK
def OQ {R:Type}:List (Nat×Hd R):=[(3,bC Cb JK),(6,bC Cn I8)]
def Jc {R:Type}:List (Nat×Inl R):=[(11,abW)]
def Iz:Cfg:={T:=qM,aX:=aE.G Tryz.prog,eqs:=qN,N:=37,fuel:=64,loops:=[(6,⟨[3,13,14,15,20,21,22], [],[2],3, [], [], [], []⟩),(3,⟨[3,13,14,15], [],[2],3, [], [], [], []⟩)],blocks:=[(0,⟨[], [], [],0, [], [], [], []⟩),(1,⟨[3,13,14,15], [],[2],3, [], [], [], []⟩),(2,⟨[3,13,14,15], [],[2],3, [], [], [], []⟩)],eX:=some ⟨[2], [], [],0, [], [], [], []⟩,fid:=136}
theorem ZF:aF Tryz.prog Iz:=aZ ri rZ trivial
theorem YK {R:Type}:aO Tryz.prog (R:=R) 1 Jc:=bE Tryz.f153 ant aeS (bw (by kernel_rfl)) af1 (aA _ _)
theorem af5 {R:Type}:bA (R:=R) (hnd 1 Jc) Iz OQ (sub [1,1,0,1,0,0] C4) (HS.V Cb) (HS.st Cb) (HS.sh Cb) JK (bC Cb JK):=aM Cb JK (fun _ _=>rfl) (by intro q v K;kernel_rfl)
theorem ahR {R:Type}:bA (R:=R) (hnd 1 Jc) Iz OQ (sub [1,1,0,1,0,0,1,1,0,0,1,1,0,0] C4) (HS.V Cn) (HS.st Cn) (HS.sh Cn) I8 (bC Cn I8):=aM Cn I8 (fun _ _=>rfl) (by intro q v K;kernel_rfl)
theorem alQ {R:Type}:aJ (R:=R) (hnd 1 Jc) Iz OQ C4:=aB (l:=[sub [1,1,0,1,0,0] C4,sub [1,1,0,1,0,0,1,1,0,0,1,1,0,0] C4]) (by kernel_rfl) (aH (b:=sub [1,1,0,1,0,0] C4) (rid:=3) (by kernel_rfl) (by kernel_rfl) af5 (aH (b:=sub [1,1,0,1,0,0,1,1,0,0,1,1,0,0] C4) (rid:=6) (by kernel_rfl) (by kernel_rfl) ahR (trivial)))
theorem aog:aS Tryz.prog 136 W8:=bl Tryz.f136 ZF AP (d:=1) YK alQ (bw (by kernel_rfl)) (toY:=Y1)
def Dm:HS:=⟨[(1, .one (.ptr 0 0)),(3, .one (.da 1)),(4, .one (.da 2)),(6, .one (.ptr 3 0)),(14, .one (.sl .aL)),(15, .one (.int .i64)),(16, .one (.int .i64)),(21, .one (.sl .entry)),(22, .one (.int .i64)),(23, .one (.int .i64))],[(0, .cells hFs),(1, .map false .int .int),(2, .map false .int .int),(3, .cells hIn)],4⟩
def HW {R:Type}:Nat→HS.V Dm→(Ex→St→Option R)→Option R:=fun q v K=>
 gI v.1.2.2.2.2.2.2.2.1 v.1.2.2.2.2.2.2.2.2.1 (cIn v.2.2.2.2.1) (fun y29 y30 y31 y32=>K (.exit 2) {az:=[(1, .v (.one (.ptr 0 0))),(3, .v (.one (.da 1))),(4, .v (.one (.da 2))),(14, .v (.one (.sl .aL v.1.2.2.2.2.1))),(15, .v (.one (.int .i64 v.1.2.2.2.2.2.1))),(16, .v (.one (.int .i64 v.1.2.2.2.2.2.2.1)))],mem:=[(0, .cells (rFs (cFs v.2.1))),(1, .map false .int .int y29 y30),(2, .map false .int .int y31 y32)],nx:=3}) q v.1.2.2.2.2.2.2.2.2.2.1 v.2.2.1.1 v.2.2.1.2 v.2.2.2.1.1 v.2.2.2.1.2
def C_:HS:=⟨[(1, .one (.ptr 0 0)),(3, .one (.da 1)),(4, .one (.da 2)),(14, .one (.sl .aL)),(15, .one (.int .i64)),(16, .one (.int .i64))],[(0, .cells hFs),(1, .map false .int .int),(2, .map false .int .int)],3⟩
def KB {R:Type}:Nat→HS.V C_→(Ex→St→Option R)→Option R:=fun q v K=>
 kQ v.1.2.2.2.1 v.1.2.2.2.2.1 (fun y38 y39 y40 y41=>K (.exit 0) {az:=[(1, .v (.one (.ptr 0 0))),(3, .v (.one (.da 1))),(4, .v (.one (.da 2)))],mem:=[(0, .cells (rFs (cFs v.2.1))),(1, .map false .int .int y38 y39),(2, .map false .int .int y40 y41)],nx:=3}) q v.1.2.2.2.2.2.1 v.2.2.1.1 v.2.2.1.2 v.2.2.2.1.1 v.2.2.2.1.2
def C6:HS:=⟨[(3, .one (.da 1)),(4, .one (.da 2)),(40, .one (.sl .aL)),(41, .one (.int .i64)),(42, .one (.int .i64))],[(1, .map false .int .int),(2, .map false .int .int)],3⟩
def J3 {R:Type}:Nat→HS.V C6→(Ex→St→Option R)→Option R:=fun q v K=>
 cL v.1.2.2.1 v.1.2.2.2.1 v.2.1.1 v.2.2.1.1 (K .ret {az:=[(2, .v (.one (.bool false)))],mem:= [],nx:=0}) (K (.exit 4) {az:= [],mem:= [],nx:=0}) q v.1.2.2.2.2.1
def Wg:List HV:=[.agg hFs]
def On:List HV:=[.one (.bool)]
def adm:HP.V Wg→Fs:=fun v=>((cFs v.1))
def Y9:HX.V On→Bool:=fun v=>(v)
def Ze:Bool→HX.V On:=fun y=>(y)
def ajc:Fs→Option (Bool):=fun x=>lX x
def W1:Spec:=aT Wg On adm Ze ajc
def It {R:Type}:List (Nat×Hd R):=[(3,bC C_ KB),(6,bC Dm HW),(13,bC C6 J3)]
def Hw {R:Type}:List (Nat×Inl R):= []
def FQ:Cfg:={T:=qM,aX:=aE.G Tryz.prog,eqs:=qN,N:=97,fuel:=64,loops:=[(13,⟨[3,4,40,41,42], [],[1,2],3, [], [], [], []⟩),(6,⟨[1,3,4,6,14,15,16,21,22,23], [],[0,1,2,3],4, [], [], [], []⟩),(3,⟨[1,3,4,14,15,16], [],[0,1,2],3, [], [], [], []⟩)],blocks:=[(4,⟨[], [], [],0, [], [], [], []⟩),(0,⟨[1,3,4], [],[0,1,2],3, [], [], [], []⟩),(1,⟨[1,3,4,14,15,16], [],[0,1,2],3, [], [], [], []⟩),(2,⟨[1,3,4,14,15,16], [],[0,1,2],3, [], [], [], []⟩)],eX:=some ⟨[2], [], [],0, [], [], [], []⟩,fid:=137}
theorem adG:aF Tryz.prog FQ:=aZ ri rZ trivial
theorem ZD {R:Type}:aO Tryz.prog (R:=R) 0 Hw:=aA _ _
theorem ahg {R:Type}:bA (R:=R) (hnd 0 Hw) FQ It (sub [1,1,0,1,0,0] v7) (HS.V C_) (HS.st C_) (HS.sh C_) KB (bC C_ KB):=aM C_ KB (fun _ _=>rfl) (by intro q v K;kernel_rfl)
theorem aaw {R:Type}:bA (R:=R) (hnd 0 Hw) FQ It (sub [1,1,0,1,0,0,1,1,0,0,1,1,0,0] v7) (HS.V Dm) (HS.st Dm) (HS.sh Dm) HW (bC Dm HW):=aM Dm HW (fun _ _=>rfl) (by intro q v K;kernel_rfl)
theorem afW {R:Type}:bA (R:=R) (hnd 0 Hw) FQ It (sub [1,1,1,0,1,0,0] v7) (HS.V C6) (HS.st C6) (HS.sh C6) J3 (bC C6 J3):=aM C6 J3 (fun _ _=>rfl) (by intro q v K;kernel_rfl)
theorem Zs {R:Type}:aJ (R:=R) (hnd 0 Hw) FQ It v7:=aB (l:=[sub [1,1,0,1,0,0] v7,sub [1,1,0,1,0,0,1,1,0,0,1,1,0,0] v7,sub [1,1,1,0,1,0,0] v7]) (by kernel_rfl) (aH (b:=sub [1,1,0,1,0,0] v7) (rid:=3) (by kernel_rfl) (by kernel_rfl) ahg (aH (b:=sub [1,1,0,1,0,0,1,1,0,0,1,1,0,0] v7) (rid:=6) (by kernel_rfl) (by kernel_rfl) aaw (aH (b:=sub [1,1,1,0,1,0,0] v7) (rid:=13) (by kernel_rfl) (by kernel_rfl) afW (trivial))))
theorem acT:aS Tryz.prog 137 W1:=bl Tryz.f137 adG AP (d:=0) ZD Zs (bw (by kernel_rfl)) (toY:=Y9)
def Bk:HS:=⟨[(3, .one (.da 2)),(11, .one (.sl .aL)),(12, .one (.int .i64)),(13, .one (.int .i64)),(1000001, .one (.ptr 0 0))],[(0, .cells hFs),(2, .map true .int .aL)],3⟩
def Ji {R:Type}:Nat→HS.V Bk→(Ex→St→Option R)→Option R:=fun q v K=>
 k_ v.1.2.1 v.1.2.2.1 (fun y9 y10=>K (.exit 0) {az:=[(3, .v (.one (.da 2))),(1000001, .v (.one (.ptr 0 0)))],mem:=[(0, .cells (rFs (cFs v.2.1))),(2, .map true .int .aL y9 y10)],nx:=3}) q v.1.2.2.2.1 v.2.2.1.1 v.2.2.1.2
def CE:HS:=⟨[(1, .one (.ptr 0 0)),(3, .one (.da 2)),(4, .one (.da 3)),(5, .one (.own 4)),(23, .one (.sl .entry)),(24, .one (.int .i64)),(25, .one (.int .i64))],[(0, .cells hFs),(2, .map true .int .aL),(3, .map false .int .bool),(4, .row .int)],5⟩
def K9 {R:Type}:Nat→HS.V CE→(Ex→St→Option R)→Option R:=fun q v K=>
 gQ v.1.2.2.2.2.1 v.1.2.2.2.2.2.1 (fun y31 y32 y33=>K (.exit 2) {az:=[(1, .v (.one (.ptr 0 0))),(3, .v (.one (.da 2))),(4, .v (.one (.da 3))),(5, .v (.one (.own 4)))],mem:=[(0, .cells (rFs (cFs v.2.1))),(2, .map true .int .aL v.2.2.1.1 v.2.2.1.2),(3, .map false .int .bool y31 y32),(4, .row .int y33)],nx:=5}) q v.1.2.2.2.2.2.2.1 v.2.2.2.1.1 v.2.2.2.1.2 v.2.2.2.2.1
def Uz:List HV:=[.agg hFs]
def MC:List HV:=[.one (.bool)]
def amT:HP.V Uz→Fs:=fun v=>((cFs v.1))
def aeN:HX.V MC→Bool:=fun v=>(v)
def anY:Bool→HX.V MC:=fun y=>(y)
def ao_:Fs→Option (Bool):=fun x=>oQ x
def SI:Spec:=aT Uz MC amT anY ao_
def OG {R:Type}:List (Nat×Hd R):=[(3,bC Bk Ji)]
def LC {R:Type}:List (Nat×Inl R):= []
def KW:Cfg:={T:=qM,aX:=aE.G Tryz.prog,eqs:=qN,N:=23,fuel:=64,loops:=[(3,⟨[3,11,12,13,1000001], [],[0,2],3, [], [], [], []⟩)],blocks:=[(0,⟨[3,1000001], [],[0,2],3, [], [], [], []⟩)],fid:=153}
theorem ak_:aF Tryz.prog KW:=aZ ri rZ trivial
theorem aff {R:Type}:aO Tryz.prog (R:=R) 0 LC:=aA _ _
theorem ahT {R:Type}:bA (R:=R) (hnd 0 LC) KW OG (sub [1,1,0,1,0,0] wx) (HS.V Bk) (HS.st Bk) (HS.sh Bk) Ji (bC Bk Ji):=aM Bk Ji (fun _ _=>rfl) (by intro q v K;kernel_rfl)
theorem ZG {R:Type}:aJ (R:=R) (hnd 0 LC) KW OG wx:=aB (l:=[sub [1,1,0,1,0,0] wx]) (by kernel_rfl) (aH (b:=sub [1,1,0,1,0,0] wx) (rid:=3) (by kernel_rfl) (by kernel_rfl) ahT (trivial))
def adl {R:Type}:Inl R:= .mk 153 KW OG wx Tryz.f153.results.toList LC
def Vd {R:Type}:List (Nat×Hd R):=[(7,bC CE K9)]
def Rd {R:Type}:List (Nat×Inl R):=[(9,adl)]
def PR:Cfg:={T:=qM,aX:=aE.G Tryz.prog,eqs:=qN,N:=49,fuel:=64,loops:=[(7,⟨[1,3,4,5,23,24,25], [],[0,2,3,4],5,[23], [], [], []⟩),(4,⟨[1,3,4,5], [],[0,2,3,4],5, [], [], [], []⟩)],blocks:=[(0,⟨[1,4], [],[0,3],4, [], [], [], []⟩),(1,⟨[1,3,4,5], [],[0,2,3,4],5, [], [], [], []⟩),(2,⟨[1,3,4,5], [],[0,2,3,4],5, [], [], [], []⟩)],fid:=138}
theorem Zr:aF Tryz.prog PR:=aZ ri rZ trivial
theorem X3 {R:Type}:aO Tryz.prog (R:=R) 1 Rd:=bE Tryz.f153 ak_ ZG (bw (by kernel_rfl)) aff (aA _ _)
theorem aie {R:Type}:bA (R:=R) (hnd 1 Rd) PR Vd (sub [1,1,1,0,1,0,0,1,0,0,1,0,0] Fh) (HS.V CE) (HS.st CE) (HS.sh CE) K9 (bC CE K9):=aM CE K9 (fun _ _=>rfl) (by intro q v K;kernel_rfl)
theorem akF {R:Type}:aJ (R:=R) (hnd 1 Rd) PR Vd Fh:=aB (l:=[sub [1,1,1,0,1,0,0] Fh,sub [1,1,1,0,1,0,0,1,0,0,1,0,0] Fh]) (by kernel_rfl) (gw (b:=sub [1,1,1,0,1,0,0] Fh) (rid:=4) (by kernel_rfl) (by kernel_rfl) (aH (b:=sub [1,1,1,0,1,0,0,1,0,0,1,0,0] Fh) (rid:=7) (by kernel_rfl) (by kernel_rfl) aie (trivial)))
theorem agM:aS Tryz.prog 138 SI:=bl Tryz.f138 Zr AP (d:=1) X3 akF (bw (by kernel_rfl)) (toY:=aeN)
def SM:List HV:=[.agg hFs]
def PO:List HV:=[.one (.bool)]
def aiC:HP.V SM→Fs:=fun v=>((cFs v.1))
def amm:HX.V PO→Bool:=fun v=>(v)
def ai2:Bool→HX.V PO:=fun y=>(y)
def al1:Fs→Option (Bool):=fun x=>pU x
def Ro:Spec:=aT SM PO aiC ai2 al1
def ahN:Cfg:={T:=qM,spec:=[(51,Ad)],aX:=aE.G Tryz.prog,eqs:=qN,N:=5,fuel:=64,fid:=139}
theorem amQ:aF Tryz.prog ahN:=aZ ri rZ ⟨A3,trivial⟩
theorem Zu:aS Tryz.prog 139 Ro:=bV Tryz.f139 amQ AP (toY:=amm)
def Ua:List HV:=[.agg hFs]
def Rh:List HV:=[.one (.int .i64)]
def ad4:HP.V Ua→Fs:=fun v=>((cFs v.1))
def acP:HX.V Rh→Int:=fun v=>(v)
def akd:Int→HX.V Rh:=fun y=>(y)
def ac5:Fs→Option (Int):=fun x=>oB x
def Wq:Spec:=aT Ua Rh ad4 akd ac5
def ajy {R:Type}:List (Nat×Hd R):= []
def RZ {R:Type}:List (Nat×Inl R):= []
def Wa:Cfg:={T:=qM,spec:=[(134,Xi),(135,UT),(136,W8),(137,W1),(138,SI),(139,Ro)],aX:=aE.G Tryz.prog,eqs:=qN,N:=25,fuel:=64,loops:=[(2,⟨[1,11,12,13], [],[0,1],2, [], [], [], []⟩)],blocks:=[(0,⟨[], [], [],0, [], [], [], []⟩)],eX:=some ⟨[2], [], [],0, [], [], [], []⟩,fid:=110}
theorem ani:aF Tryz.prog Wa:=aZ ri rZ ⟨aob,⟨Yc,⟨aog,⟨acT,⟨agM,⟨Zu,trivial⟩⟩⟩⟩⟩⟩
theorem aar {R:Type}:aO Tryz.prog (R:=R) 0 RZ:=aA _ _
theorem ahE {R:Type}:aJ (R:=R) (hnd 0 RZ) Wa ajy P0:=aB (l:=[sub [1,0,1,0,0] P0]) (by kernel_rfl) (gw (b:=sub [1,0,1,0,0] P0) (rid:=2) (by kernel_rfl) (by kernel_rfl) (trivial))
theorem agb:aS Tryz.prog 110 Wq:=bl Tryz.f110 ani AP (d:=0) aar ahE (bw (by kernel_rfl)) (toY:=acP)
def To:List HV:=[.agg hFs]
def Ou:List HV:=[.one (.bool)]
def ajR:HP.V To→Fs:=fun v=>((cFs v.1))
def anr:HX.V Ou→Bool:=fun v=>(v)
def X9:Bool→HX.V Ou:=fun y=>(y)
def ahh:Fs→Option (Bool):=fun x=>oD x
def Ap:Spec:=aT To Ou ajR X9 ahh
def ZV:Cfg:={T:=qM,spec:=[(110,Wq)],aX:=aE.G Tryz.prog,eqs:=qN,N:=6,fuel:=64,fid:=72}
theorem ac9:aF Tryz.prog ZV:=aZ ri rZ ⟨agb,trivial⟩
theorem Bg:aS Tryz.prog 72 Ap:=bV Tryz.f72 ac9 AP (toY:=anr)
end
end Go.Eng
