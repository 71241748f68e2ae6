/- A part of the proofs of the laws of this seat: the engine that reads the program's code, plain functions, or facts of the program's functions. Conditions: none. -/
import Derived.Test.YtcilfbaaaipbcaaGreatDoorE4
import Derived.Test.YtcilfbaaaipbcaaGreatDoorF1
import Derived.Test.YtcilfbaaaipbcaaGreatDoorP1
set_option linter.unusedSectionVars false
set_option linter.unusedVariables false
set_option linter.unusedSimpArgs false
set_option linter.unnecessarySimpa false
set_option maxRecDepth 100000
namespace Go.Eng
noncomputable section
open Go Go.Proofs
def wO:List (Nat×TI):=[(3,⟨false,1, .one (.int .i64 0), .int .i64⟩),(4,⟨false,1, .one (.bool false), .bool⟩),(9,⟨false,1, .one (.str []), .str⟩),(31,⟨true,5, .agg [.int .i64 0, .int .i64 0, .str [], .str [], .str []], .struct [(0,3),(1,3),(2,9),(3,9),(4,9)]⟩),(87,⟨true,3, .agg [.bool false, .bool false, .bool false], .struct [(0,4),(1,4),(2,4)]⟩),(88,⟨true,33, .agg [.bool false, .bool false, .bool false, .bool false, .bool false, .bool false, .bool false, .bool false, .bool false, .bool false, .bool false, .bool false, .bool false, .bool false, .bool false, .bool false, .bool false, .bool false, .bool false, .bool false, .bool false, .bool false, .bool false, .bool false, .bool false, .bool false, .bool false, .bool false, .bool false, .bool false, .bool false, .bool false, .bool false], .array 11 87⟩),(106,⟨false,1, .one (.clip .str []), .slice .str 9⟩)]
def wM:List (Nat×List EK):= []
theorem Tx:Tryz.prog.follows .mixedOrders=true:=by kernel_rfl
theorem Hs:(wO.all fun x=>tiB Tryz.prog x.1 x.2)=true:=by kernel_rfl
theorem Hq:(wM.all fun x=>eqB Tryz.prog x.1 x.2)=true:=by kernel_rfl
def amf:Code:=bd Tryz.f55
def WK:Code:=bd Tryz.f91
def YD:Code:=bd Tryz.f122
def Ld:Code:=bd Tryz.f152
def U_:List HV:=[.one (.str)]
def SP:List HV:=[.one (.bool)]
def akl:HP.V U_→Str:=fun v=>(v.1)
def akm:HX.V SP→Bool:=fun v=>(v)
def akp:Bool→HX.V SP:=fun y=>(y)
def avb:Str→Option (Bool):=fun x=>jC x
def aaE:Spec:=aO U_ SP akl akp avb
def att:Cfg:={T:=wO,spec:=[(90,Uk)],ba:=aE.G Tryz.prog,eqs:=wM,N:=16,fuel:=64,fid:=54}
theorem akB:aF Tryz.prog att:=bg Hs Hq ⟨aal,trivial⟩
theorem acy:aN Tryz.prog 54 aaE:=br Tryz.f54 akB Tx (toY:=akm)
def VV:List HV:=[.one (.str)]
def Qe:List HV:=[.one (.bool)]
def amS:HP.V VV→Str:=fun v=>(v.1)
def adN:HX.V Qe→Bool:=fun v=>(v)
def aiw:Bool→HX.V Qe:=fun y=>(y)
def aqO:Str→Option (Bool):=fun x=>cS x
def Zq:Spec:=aO VV Qe amS aiw aqO
def Wh {R:Type}:List (Nat×Hd R):= []
def QD {R:Type}:List (Nat×Inl R):= []
def O2:Cfg:={T:=wO,spec:=[(175,cM)],ba:=aE.G Tryz.prog,eqs:=wM,N:=143,fuel:=64,gS:=some ⟨[4,3000010], [], [],0, [], [], [], []⟩,fid:=152}
theorem aiF:aF Tryz.prog O2:=bg Hs Hq ⟨dW,trivial⟩
theorem afU {R:Type}:aQ Tryz.prog (R:=R) 0 QD:=aC _ _
theorem auL {R:Type}:aK (R:=R) (hnd 0 QD) O2 Wh Ld:=aB (l:=[sub [1,1,1,1,1,1,1,1,0,0,0] Ld]) (by kernel_rfl) (jq (b:=sub [1,1,1,1,1,1,1,1,0,0,0] Ld) (rid:=15) (by kernel_rfl) (by kernel_rfl) (trivial))
def aeS {R:Type}:Inl R:= .mk 152 O2 Wh Ld Tryz.f152.results.toList QD
def ZA {R:Type}:List (Nat×Hd R):= []
def Rv {R:Type}:List (Nat×Inl R):=[(7,aeS)]
def OR:Cfg:={T:=wO,ba:=aE.G Tryz.prog,eqs:=wM,N:=8,fuel:=64,fid:=122}
theorem ah_:aF Tryz.prog OR:=bg Hs Hq trivial
theorem ain {R:Type}:aQ Tryz.prog (R:=R) 1 Rv:=bT Tryz.f152 aiF auL (bC (by kernel_rfl)) afU (aC _ _)
theorem asa {R:Type}:aK (R:=R) (hnd 1 Rv) OR ZA YD:=aB (l:= []) (by kernel_rfl) (trivial)
def aeb {R:Type}:Inl R:= .mk 122 OR ZA YD Tryz.f122.results.toList Rv
def Uu {R:Type}:List (Nat×Hd R):= []
def Pb {R:Type}:List (Nat×Inl R):=[(7,aeb)]
def Sh:Cfg:={T:=wO,ba:=aE.G Tryz.prog,eqs:=wM,N:=9,fuel:=64,fid:=91}
theorem ajO:aF Tryz.prog Sh:=bg Hs Hq trivial
theorem agn {R:Type}:aQ Tryz.prog (R:=R) 2 Pb:=bT Tryz.f122 ah_ asa (bC (by kernel_rfl)) ain (aC _ _)
theorem atx {R:Type}:aK (R:=R) (hnd 2 Pb) Sh Uu WK:=aB (l:= []) (by kernel_rfl) (trivial)
def ar3 {R:Type}:Inl R:= .mk 91 Sh Uu WK Tryz.f91.results.toList Pb
def aq4 {R:Type}:List (Nat×Hd R):= []
def X4 {R:Type}:List (Nat×Inl R):=[(12,ar3)]
def aau:Cfg:={T:=wO,ba:=aE.G Tryz.prog,eqs:=wM,N:=15,fuel:=64,fid:=55}
theorem ag6:aF Tryz.prog aau:=bg Hs Hq trivial
theorem ade {R:Type}:aQ Tryz.prog (R:=R) 3 X4:=bT Tryz.f91 ajO atx (bC (by kernel_rfl)) agn (aC _ _)
theorem ara {R:Type}:aK (R:=R) (hnd 3 X4) aau aq4 amf:=aB (l:= []) (by kernel_rfl) (trivial)
theorem aoy:aN Tryz.prog 55 Zq:=bu Tryz.f55 ag6 Tx (d:=3) ade ara (bC (by kernel_rfl)) (toY:=adN)
def Yl:List HV:=[.agg [.int .i64, .int .i64, .str, .str, .str]]
def R3:List HV:=[.one (.bool)]
def aea:HP.V Yl→Opn:=fun v=>((⟨v.1.1,v.1.2.1,v.1.2.2.1,v.1.2.2.2.1,v.1.2.2.2.2.1⟩:Opn))
def arC:HX.V R3→Bool:=fun v=>(v)
def abC:Bool→HX.V R3:=fun y=>(y)
def ae1:Opn→Option (Bool):=fun x=>A8 x
def YS:Spec:=aO Yl R3 aea abC ae1
def alj:Cfg:={T:=wO,spec:=[(54,aaE),(55,Zq),(56,UC)],ba:=aE.G Tryz.prog,eqs:=wM,N:=102,fuel:=64,fid:=22}
theorem asd:aF Tryz.prog alj:=bg Hs Hq ⟨acy,⟨aoy,⟨asb,trivial⟩⟩⟩
theorem adg:aN Tryz.prog 22 YS:=br Tryz.f22 asd Tx (toY:=arC)
end
end Go.Eng
namespace Go.Eng
noncomputable section
open Go Go.Proofs
def YG:List (Nat×TI):=[(3,⟨false,1, .one (.int .i64 0), .int .i64⟩),(9,⟨false,1, .one (.str []), .str⟩),(24,⟨true,4, .agg [.int .i64 0, .int .i64 0, .int .i64 0, .clip .aS []], .struct [(0,3),(1,3),(2,3),(3,22)]⟩),(53,⟨false,1, .one (.clip .entry []), .slice .entry 85⟩),(55,⟨true,6, .agg [.int .i64 0, .int .i64 0, .int .i64 0, .str [], .int .i64 0, .clip .entry []], .struct [(0,3),(1,3),(2,3),(3,9),(4,3),(5,53)]⟩),(59,⟨true,3, .agg [.int .i64 0, .str [], .int .i64 0], .struct [(0,3),(1,9),(2,3)]⟩),(106,⟨false,1, .one (.clip .str []), .slice .str 9⟩)]
def ZP:List (Nat×List EK):= []
theorem auw:Tryz.prog.follows .mixedOrders=true:=by kernel_rfl
theorem agr:(YG.all fun x=>tiB Tryz.prog x.1 x.2)=true:=by kernel_rfl
theorem aer:(ZP.all fun x=>eqB Tryz.prog x.1 x.2)=true:=by kernel_rfl
def Mh:Code:=bd Tryz.f124
def Fc:HS:=⟨[(2, .one (.ptr 0 0)),(4, .one (.ptr 1 0)),(8, .one (.ptr 2 0)),(24, .one (.sl .str)),(25, .one (.int .i64)),(26, .one (.int .i64))],[(0, .cells hFs),(1, .cells [.int .i64, .str, .int .i64]),(2, .cells [.int .i64, .str, .int .i64])],3⟩
def M3 {R:Type}:Nat→HS.V Fc→(Ex→St→Option R)→Option R:=fun q v K=>
 jj v.1.2.2.2.1 v.1.2.2.2.2.1 (cFs v.2.1) (fun y11=>K .ret {az:=[(4, .v (.one (.ptr 1 0))),(5, .v (.one (.int .i64 y11)))],mem:=[(1, .cells [.int .i64 ((⟨0, [],0⟩:ar).dir), .str ((⟨0, [],0⟩:ar).name), .int .i64 ((⟨0, [],0⟩:ar).ino)])],nx:=2}) (fun y14=>K (.exit 0) {az:=[(4, .v (.one (.ptr 1 0))),(8, .v (.one (.ptr 2 0)))],mem:=[(1, .cells [.int .i64 ((⟨v.2.2.1.1,v.2.2.1.2.1,v.2.2.1.2.2.1⟩:ar).dir), .str ((⟨v.2.2.1.1,v.2.2.1.2.1,v.2.2.1.2.2.1⟩:ar).name), .int .i64 ((⟨v.2.2.1.1,v.2.2.1.2.1,v.2.2.1.2.2.1⟩:ar).ino)]),(2, .cells [.int .i64 y14.dir, .str y14.name, .int .i64 y14.ino])],nx:=3}) q v.1.2.2.2.2.2.1 (⟨v.2.2.2.1.1,v.2.2.2.1.2.1,v.2.2.2.1.2.2.1⟩:ar)
def V8:List HV:=[.agg hFs, .one (.str)]
def Rl:List HV:=[.agg [.int .i64, .str, .int .i64], .one (.int .i64)]
def ag4:HP.V V8→Fs×Str:=fun v=>((cFs v.1),v.2.1)
def agf:HX.V Rl→ar×Int:=fun v=>((⟨v.1.1,v.1.2.1,v.1.2.2.1⟩:ar),v.2)
def aeU:(ar×Int)→HX.V Rl:=fun y=>((y.1.dir,(y.1.name,(y.1.ino,()))),y.2)
def alN:(Fs×Str)→Option (ar×Int):=fun x=>pz x.1 x.2
def OW:Spec:=aO V8 Rl ag4 aeU alN
def aaw {R:Type}:List (Nat×Hd R):=[(6,bQ Fc M3)]
def Ru {R:Type}:List (Nat×Inl R):= []
def Q8:Cfg:={T:=YG,spec:=[(90,Uk),(102,mH),(153,Z9)],ba:=aE.G Tryz.prog,eqs:=ZP,N:=60,fuel:=64,loops:=[(6,⟨[2,4,8,24,25,26], [],[0,1,2],3, [], [], [], []⟩)],blocks:=[(0,⟨[4,8], [],[1,2],3, [], [], [], []⟩)],gS:=some ⟨[4,5], [],[1],2, [], [], [], []⟩,fid:=124}
theorem aqK:aF Tryz.prog Q8:=bg agr aer ⟨aal,⟨nj,⟨apk,trivial⟩⟩⟩
theorem akX {R:Type}:aQ Tryz.prog (R:=R) 0 Ru:=aC _ _
theorem ajB {R:Type}:bL (R:=R) (hnd 0 Ru) Q8 aaw (sub [1,1,1,1,0,1,0,0] Mh) (HS.V Fc) (HS.st Fc) (HS.sh Fc) M3 (bQ Fc M3):=aX Fc M3 (fun _ _=>rfl) (by intro q v K;kernel_rfl)
theorem alH {R:Type}:aK (R:=R) (hnd 0 Ru) Q8 aaw Mh:=aB (l:=[sub [1,1,1,1,0,1,0,0] Mh]) (by kernel_rfl) (aM (b:=sub [1,1,1,1,0,1,0,0] Mh) (rid:=6) (by kernel_rfl) (by kernel_rfl) ajB (trivial))
theorem Xa:aN Tryz.prog 124 OW:=bu Tryz.f124 aqK auw (d:=0) akX alH (bC (by kernel_rfl)) (toY:=agf)
end
end Go.Eng
namespace Go.Eng
noncomputable section
open Go Go.Proofs
def PK:List (Nat×TI):=[(22,⟨false,1, .one (.clip .aS []), .slice .aS 55⟩),(25,⟨false,1, .one (.clip .kept []), .slice .kept 66⟩),(55,⟨true,6, .agg [.int .i64 0, .int .i64 0, .int .i64 0, .str [], .int .i64 0, .clip .entry []], .struct [(0,3),(1,3),(2,3),(3,9),(4,3),(5,53)]⟩),(66,⟨true,4, .agg [.int .i64 0, .int .i64 0, .bool false, .str []], .struct [(0,3),(1,3),(2,4),(3,9)]⟩)]
def OE:List (Nat×List EK):= []
theorem Ys:Tryz.prog.follows .mixedOrders=true:=by kernel_rfl
theorem Vc:(PK.all fun x=>tiB Tryz.prog x.1 x.2)=true:=by kernel_rfl
theorem ZZ:(OE.all fun x=>eqB Tryz.prog x.1 x.2)=true:=by kernel_rfl
def Q6:Code:=bd Tryz.f107
def Pw:Code:=bd Tryz.f140
def Pn:List HV:=[.one (.sl .aS)]
def XH:HP.V Pn→(List al):=fun v=>(v.1)
def WQ:(List al)→Option ((List al)):=fun x=>dt x
def Vd {R:Type}:List (Nat×Hd R):= []
def SF {R:Type}:List (Nat×Inl R):= []
def NR:Cfg:={T:=PK,ba:=aE.G Tryz.prog,eqs:=OE,N:=8,fuel:=64,fid:=107}
theorem aet:aF Tryz.prog NR:=bg Vc ZZ trivial
theorem ad5 {R:Type}:aQ Tryz.prog (R:=R) 0 SF:=aC _ _
theorem alP {R:Type}:aK (R:=R) (hnd 0 SF) NR Vd Q6:=aB (l:= []) (by kernel_rfl) (trivial)
theorem aoB:ff Tryz.prog NR Q6:=bC (by kernel_rfl)
def O7:kM:=m8 Pn XH (AB.row .aS) WQ
theorem atK:∀v,Ah (hnd 0 SF) NR Vd Q6 Tryz.f107.results.toList (HP.st Pn v) (BJ .aS)=WQ (XH v):=by intro v;kernel_rfl
theorem abp:mZ Tryz.prog 107 O7:=sn (fn:=Tryz.f107) (by kernel_rfl) (by kernel_rfl) (by kernel_rfl) aet (by kernel_rfl) (by kernel_rfl) Ys (by kernel_rfl) zW (d:=0) ad5 alP aoB atK
def Rf:List HV:=[.one (.sl .kept)]
def Uw:HP.V Rf→(List Kept):=fun v=>(v.1)
def YP:(List Kept)→Option ((List Kept)):=fun x=>fu x
def Zt {R:Type}:List (Nat×Hd R):= []
def Rg {R:Type}:List (Nat×Inl R):= []
def M8:Cfg:={T:=PK,ba:=aE.G Tryz.prog,eqs:=OE,N:=8,fuel:=64,fid:=140}
theorem agH:aF Tryz.prog M8:=bg Vc ZZ trivial
theorem alU {R:Type}:aQ Tryz.prog (R:=R) 0 Rg:=aC _ _
theorem avJ {R:Type}:aK (R:=R) (hnd 0 Rg) M8 Zt Pw:=aB (l:= []) (by kernel_rfl) (trivial)
theorem al9:ff Tryz.prog M8 Pw:=bC (by kernel_rfl)
def Ss:kM:=m8 Rf Uw (AB.row .kept) YP
theorem afx:∀v,Ah (hnd 0 Rg) M8 Zt Pw Tryz.f140.results.toList (HP.st Rf v) (BJ .kept)=YP (Uw v):=by intro v;kernel_rfl
theorem U6:mZ Tryz.prog 140 Ss:=sn (fn:=Tryz.f140) (by kernel_rfl) (by kernel_rfl) (by kernel_rfl) agH (by kernel_rfl) (by kernel_rfl) Ys (by kernel_rfl) zW (d:=0) alU avJ al9 afx
end
end Go.Eng
namespace Go.Eng
noncomputable section
open Go Go.Proofs
def fA:List (Nat×TI):=[(3,⟨false,1, .one (.int .i64 0), .int .i64⟩),(4,⟨false,1, .one (.bool false), .bool⟩),(9,⟨false,1, .one (.str []), .str⟩),(22,⟨false,1, .one (.clip .aS []), .slice .aS 55⟩),(24,⟨true,4, .agg [.int .i64 0, .int .i64 0, .int .i64 0, .clip .aS []], .struct [(0,3),(1,3),(2,3),(3,22)]⟩),(25,⟨false,1, .one (.clip .kept []), .slice .kept 66⟩),(27,⟨true,2, .agg [.clip .kept [], .clip .aS []], .struct [(0,25),(1,22)]⟩),(29,⟨true,6, .agg [.int .i64 0, .int .i64 0, .int .i64 0, .clip .aS [], .clip .kept [], .clip .aS []], .struct [(0,24),(4,27)]⟩),(55,⟨true,6, .agg [.int .i64 0, .int .i64 0, .int .i64 0, .str [], .int .i64 0, .clip .entry []], .struct [(0,3),(1,3),(2,3),(3,9),(4,3),(5,53)]⟩),(59,⟨true,3, .agg [.int .i64 0, .str [], .int .i64 0], .struct [(0,3),(1,9),(2,3)]⟩),(66,⟨true,4, .agg [.int .i64 0, .int .i64 0, .bool false, .str []], .struct [(0,3),(1,3),(2,4),(3,9)]⟩),(126,⟨false,1, .one (.mC), .other⟩),(144,⟨false,1, .one (.mC), .other⟩),(165,⟨false,1, .one (.int .u64 0), .int .u64⟩)]
def fC:List (Nat×List EK):= []
theorem yQ:Tryz.prog.follows .mixedOrders=true:=by kernel_rfl
theorem fJ:(fA.all fun x=>tiB Tryz.prog x.1 x.2)=true:=by kernel_rfl
theorem fK:(fC.all fun x=>eqB Tryz.prog x.1 x.2)=true:=by kernel_rfl
def agh:Code:=bd Tryz.f67
def alE:Code:=bd Tryz.f104
def XC:Code:=bd Tryz.f105
def ad8:Code:=bd Tryz.f106
def acd:Code:=bd Tryz.f108
def ap_:Code:=bd Tryz.f111
def abw:Code:=bd Tryz.f130
def V6:Code:=bd Tryz.f131
def KD:Code:=bd Tryz.f134
def Ok:Code:=bd Tryz.f135
def Dm:Code:=bd Tryz.f136
def adz:Code:=bd Tryz.f139
def JG:Code:=bd Tryz.f141
def IW:Code:=bd Tryz.f143
def aaO:Code:=bd Tryz.f144
def aeQ:Code:=bd Tryz.f145
def Ke:Code:=bd Tryz.f159
def Lo:Code:=bd Tryz.f160
def CE:Code:=bd Tryz.f163
def Km:Code:=bd Tryz.f167
def J6:Code:=bd Tryz.f168
def Yv:Code:=bd Tryz.f169
def DD:HS:=⟨[(0, .one (.sl .kept)),(1, .one (.int .i64)),(2, .one (.clo 1)),(8, .one (.int .i64)),(9, .one (.int .i64)),(10, .one (.int .i64))],[(0, .cells [.fnc 131]),(1, .clo 160 [] [.ptr 0 0])],2⟩
def NY {R:Type}:Nat→HS.V DD→(Ex→St→Option R)→Option R:=fun q v K=>
 b8 v.1.1 v.1.2.1 (fun y10=>K (.exit 0) {az:=[(0, .v (.one (.sl .kept v.1.1))),(1, .v (.one (.int .i64 v.1.2.1))),(2, .v (.one (.clo 1))),(8, .v (.one (.int .i64 v.1.2.2.2.1))),(9, .v (.one (.int .i64 y10)))],mem:=[(0, .cells [.fnc 131]),(1, .clo 160 [] [.ptr 0 0])],nx:=2}) q v.1.2.2.2.2.1 v.1.2.2.2.2.2.1
def ZL:List HV:=[.one (.sl .kept), .one (.int .i64), .one (.fnc 131)]
def Sy:List HV:=[.one (.int .i64), .one (.bool)]
def auU:HP.V ZL→(List Kept)×Int:=fun v=>(v.1,v.2.1)
def avX:HX.V Sy→Int×Bool:=fun v=>(v.1,v.2)
def as_:(Int×Bool)→HX.V Sy:=fun y=>(y.1,y.2)
def aoa:(List Kept)×Int→Option (Int×Bool):=fun x=>iL x.1 x.2
def Li:Spec:=aO ZL Sy auU as_ aoa
def ZJ:Cfg:={T:=fA,ba:=aE.G Tryz.prog,eqs:=fC,N:=5,fuel:=64,fid:=131}
theorem arJ:aF Tryz.prog ZJ:=bg fJ fK trivial
def avf {R:Type}:Inl R:= .mk 131 ZJ [] V6 Tryz.f131.results.toList []
def Xo:Cfg:={T:=fA,ba:=aE.G Tryz.prog,eqs:=fC,N:=6,fuel:=64,fid:=163}
theorem am2:aF Tryz.prog Xo:=bg fJ fK trivial
def aml {R:Type}:Inl R:= .mk 163 Xo [] CE Tryz.f163.results.toList []
def XZ:Cfg:={T:=fA,ba:=aE.G Tryz.prog,eqs:=fC,N:=6,fuel:=64,fid:=163}
theorem ai1:aF Tryz.prog XZ:=bg fJ fK trivial
def aly {R:Type}:Inl R:= .mk 163 XZ [] CE Tryz.f163.results.toList []
def VI {R:Type}:List (Nat×Hd R):= []
def RM {R:Type}:List (Nat×Inl R):=[(8,aml),(10,aly)]
def T_:Cfg:={T:=fA,ba:=aE.G Tryz.prog,eqs:=fC,N:=20,fuel:=64,fid:=136}
theorem auA:aF Tryz.prog T_:=bg fJ fK trivial
theorem ajw {R:Type}:aQ Tryz.prog (R:=R) 1 RM:=bM Tryz.f163 am2 (bM Tryz.f163 ai1 (aC _ _))
theorem aoo {R:Type}:aK (R:=R) (hnd 1 RM) T_ VI Dm:=aB (l:= []) (by kernel_rfl) (trivial)
def adt {R:Type}:Inl R:= .mk 136 T_ VI Dm Tryz.f136.results.toList RM
def Xh {R:Type}:List (Nat×Hd R):= []
def RF {R:Type}:List (Nat×Inl R):=[(8,avf),(10,adt)]
def Qm:Cfg:={T:=fA,ba:=aE.G Tryz.prog,eqs:=fC,N:=11,fuel:=64,fid:=160}
theorem akF:aF Tryz.prog Qm:=bg fJ fK trivial
theorem au1 {R:Type}:aQ Tryz.prog (R:=R) 2 RF:=bM Tryz.f131 arJ (bT Tryz.f136 auA aoo (bC (by kernel_rfl)) ajw (aC _ _))
theorem afQ {R:Type}:aK (R:=R) (hnd 2 RF) Qm Xh Lo:=aB (l:= []) (by kernel_rfl) (trivial)
def avk {R:Type}:Inl R:= .mk 160 Qm Xh Lo Tryz.f160.results.toList RF
def Zb:Cfg:={T:=fA,ba:=aE.G Tryz.prog,eqs:=fC,N:=5,fuel:=64,fid:=131}
theorem ai2:aF Tryz.prog Zb:=bg fJ fK trivial
def avN {R:Type}:Inl R:= .mk 131 Zb [] V6 Tryz.f131.results.toList []
def U4:Cfg:={T:=fA,ba:=aE.G Tryz.prog,eqs:=fC,N:=6,fuel:=64,fid:=163}
theorem ako:aF Tryz.prog U4:=bg fJ fK trivial
def aiv {R:Type}:Inl R:= .mk 163 U4 [] CE Tryz.f163.results.toList []
def aab:Cfg:={T:=fA,ba:=aE.G Tryz.prog,eqs:=fC,N:=6,fuel:=64,fid:=163}
theorem adK:aF Tryz.prog aab:=bg fJ fK trivial
def asI {R:Type}:Inl R:= .mk 163 aab [] CE Tryz.f163.results.toList []
def WG {R:Type}:List (Nat×Hd R):= []
def PC {R:Type}:List (Nat×Inl R):=[(8,aiv),(10,asI)]
def TC:Cfg:={T:=fA,ba:=aE.G Tryz.prog,eqs:=fC,N:=20,fuel:=64,fid:=136}
theorem alf:aF Tryz.prog TC:=bg fJ fK trivial
theorem anw {R:Type}:aQ Tryz.prog (R:=R) 1 PC:=bM Tryz.f163 ako (bM Tryz.f163 adK (aC _ _))
theorem atm {R:Type}:aK (R:=R) (hnd 1 PC) TC WG Dm:=aB (l:= []) (by kernel_rfl) (trivial)
def abN {R:Type}:Inl R:= .mk 136 TC WG Dm Tryz.f136.results.toList PC
def Xj {R:Type}:List (Nat×Hd R):= []
def Rs {R:Type}:List (Nat×Inl R):=[(8,avN),(10,abN)]
def Rc:Cfg:={T:=fA,ba:=aE.G Tryz.prog,eqs:=fC,N:=11,fuel:=64,fid:=160}
theorem avZ:aF Tryz.prog Rc:=bg fJ fK trivial
theorem agp {R:Type}:aQ Tryz.prog (R:=R) 2 Rs:=bM Tryz.f131 ai2 (bT Tryz.f136 alf atm (bC (by kernel_rfl)) anw (aC _ _))
theorem auT {R:Type}:aK (R:=R) (hnd 2 Rs) Rc Xj Lo:=aB (l:= []) (by kernel_rfl) (trivial)
def alw {R:Type}:Inl R:= .mk 160 Rc Xj Lo Tryz.f160.results.toList Rs
def RS {R:Type}:List (Nat×Hd R):=[(3,bQ DD NY)]
def Mc {R:Type}:List (Nat×Inl R):=[(30,avk),(46,alw)]
def Mt:Cfg:={T:=fA,ba:=aE.G Tryz.prog,eqs:=fC,N:=49,fuel:=64,loops:=[(3,⟨[0,1,2,8,9,10], [],[0,1],2, [], [], [], []⟩)],blocks:=[(0,⟨[0,1,2,8,9], [],[0,1],2, [], [], [], []⟩)],fid:=159}
theorem arP:aF Tryz.prog Mt:=bg fJ fK trivial
theorem auW {R:Type}:aQ Tryz.prog (R:=R) 3 Mc:=bT Tryz.f160 akF afQ (bC (by kernel_rfl)) au1 (bT Tryz.f160 avZ auT (bC (by kernel_rfl)) agp (aC _ _))
theorem atO {R:Type}:bL (R:=R) (hnd 3 Mc) Mt RS (sub [1,1,1,0,0,0] Ke) (HS.V DD) (HS.st DD) (HS.sh DD) NY (bQ DD NY):=aX DD NY (fun _ _=>rfl) (by intro q v K;kernel_rfl)
theorem adD {R:Type}:aK (R:=R) (hnd 3 Mc) Mt RS Ke:=aB (l:=[sub [1,1,1,0,0,0] Ke]) (by kernel_rfl) (aM (b:=sub [1,1,1,0,0,0] Ke) (rid:=3) (by kernel_rfl) (by kernel_rfl) atO (trivial))
def ahU {R:Type}:Inl R:= .mk 159 Mt RS Ke Tryz.f159.results.toList Mc
def alK {R:Type}:List (Nat×Hd R):= []
def Zw {R:Type}:List (Nat×Inl R):=[(11,ahU)]
def WN:Cfg:={T:=fA,ba:=aE.G Tryz.prog,eqs:=fC,N:=14,fuel:=64,fid:=130}
theorem ak2:aF Tryz.prog WN:=bg fJ fK trivial
theorem ajD {R:Type}:aQ Tryz.prog (R:=R) 4 Zw:=bT Tryz.f159 arP adD (bC (by kernel_rfl)) auW (aC _ _)
theorem aoN {R:Type}:aK (R:=R) (hnd 4 Zw) WN alK abw:=aB (l:= []) (by kernel_rfl) (trivial)
theorem RA:aN Tryz.prog 130 Li:=bu Tryz.f130 ak2 yQ (d:=4) ajD aoN (bC (by kernel_rfl)) (toY:=avX)
def Yf:List HV:=[.agg hW, .one (.int .i64)]
def Ro:List HV:=[.agg [.int .i64, .int .i64, .bool, .str], .one (.bool)]
def adh:HP.V Yf→ao×Int:=fun v=>((cW v.1),v.2.1)
def ajJ:HX.V Ro→Kept×Bool:=fun v=>((⟨v.1.1,v.1.2.1,v.1.2.2.1,v.1.2.2.2.1⟩:Kept),v.2)
def anU:(Kept×Bool)→HX.V Ro:=fun y=>((y.1.slot,(y.1.ino,(y.1.content,(y.1.data,())))),y.2)
def ad6:(ao×Int)→Option (Kept×Bool):=fun x=>gZ x.1 x.2
def xZ:Spec:=aO Yf Ro adh anU ad6
def ah3:Cfg:={T:=fA,spec:=[(130,Li)],ba:=aE.G Tryz.prog,eqs:=fC,N:=25,fuel:=64,fid:=101}
theorem arN:aF Tryz.prog ah3:=bg fJ fK ⟨RA,trivial⟩
theorem za:aN Tryz.prog 101 xZ:=br Tryz.f101 arN yQ (toY:=ajJ)
def Ya:List HV:=[.agg hW, .agg [.int .i64, .int .i64, .bool, .str]]
def Rx:List HV:=[.agg hW]
def adv:HP.V Ya→ao×Kept:=fun v=>((cW v.1),(⟨v.2.1.1,v.2.1.2.1,v.2.1.2.2.1,v.2.1.2.2.2.1⟩:Kept))
def amq:HX.V Rx→ao:=fun v=>((cW v))
def aqp:ao→HX.V Rx:=fun y=>(uW y)
def alg:(ao×Kept)→Option (ao):=fun x=>eP x.1 x.2
def KM:Spec:=aO Ya Rx adv aqp alg
def UL:Cfg:={T:=fA,spec:=[(130,Li)],ba:=aE.G Tryz.prog,eqs:=fC,N:=95,fuel:=64,ovl:=[165],fid:=139,qb:=true}
theorem ac2:aF Tryz.prog UL:=bg fJ fK ⟨RA,trivial⟩ (ov:=⟨JJ,trivial⟩)
def auP {R:Type}:Inl R:= .mk 139 UL [] adz Tryz.f139.results.toList []
def aon {R:Type}:List (Nat×Hd R):= []
def aaq {R:Type}:List (Nat×Inl R):=[(23,auP)]
def aa0:Cfg:={T:=fA,spec:=[(130,Li)],ba:=aE.G Tryz.prog,eqs:=fC,N:=27,fuel:=64,ovl:=[165],fid:=108,fresh:=[(140,Ss)],qb:=true}
theorem arE:aF Tryz.prog aa0:=bg fJ fK ⟨RA,trivial⟩ (ov:=⟨JJ,trivial⟩) (fr:=⟨U6,trivial⟩)
theorem afX {R:Type}:aQ Tryz.prog (R:=R) 1 aaq:=bM Tryz.f139 ac2 (aC _ _)
theorem an2 {R:Type}:aK (R:=R) (hnd 1 aaq) aa0 aon acd:=aB (l:= []) (by kernel_rfl) (trivial)
theorem RV:aN Tryz.prog 108 KM:=bu Tryz.f108 arE yQ (d:=1) afX an2 (bC (by kernel_rfl)) (toY:=amq)
def aaT:List HV:=[.agg hW, .one (.int .i64), .one (.int .i64)]
def Rq:List HV:=[.agg hW, .one (.int .i64)]
def avn:HP.V aaT→ao×Int×Int:=fun v=>((cW v.1),v.2.1,v.2.2.1)
def aut:HX.V Rq→ao×Int:=fun v=>((cW v.1),v.2)
def acE:(ao×Int)→HX.V Rq:=fun y=>(uW y.1,y.2)
def aiN:(ao×Int×Int)→Option (ao×Int):=fun x=>jt x.1 x.2.1 x.2.2
def Vn:Spec:=aO aaT Rq avn acE aiN
def ann:Cfg:={T:=fA,spec:=[(101,xZ),(102,mH),(108,KM)],ba:=aE.G Tryz.prog,eqs:=fC,N:=34,fuel:=64,fid:=96}
theorem arB:aF Tryz.prog ann:=bg fJ fK ⟨za,⟨nj,⟨RV,trivial⟩⟩⟩
theorem arj:aN Tryz.prog 96 Vn:=br Tryz.f96 arB yQ (toY:=aut)
def Ff:HS:=⟨[(0, .one (.sl .aS)),(1, .one (.int .i64)),(2, .one (.clo 1)),(8, .one (.int .i64)),(9, .one (.int .i64)),(10, .one (.int .i64))],[(0, .cells [.fnc 105]),(1, .clo 135 [] [.ptr 0 0])],2⟩
def KH {R:Type}:Nat→HS.V Ff→(Ex→St→Option R)→Option R:=fun q v K=>
 bX v.1.1 v.1.2.1 (fun y10=>K (.exit 0) {az:=[(0, .v (.one (.sl .aS v.1.1))),(1, .v (.one (.int .i64 v.1.2.1))),(2, .v (.one (.clo 1))),(8, .v (.one (.int .i64 v.1.2.2.2.1))),(9, .v (.one (.int .i64 y10)))],mem:=[(0, .cells [.fnc 105]),(1, .clo 135 [] [.ptr 0 0])],nx:=2}) q v.1.2.2.2.2.1 v.1.2.2.2.2.2.1
def Yw:List HV:=[.one (.sl .aS), .one (.int .i64), .one (.fnc 105)]
def Pg:List HV:=[.one (.int .i64), .one (.bool)]
def aru:HP.V Yw→(List al)×Int:=fun v=>(v.1,v.2.1)
def atU:HX.V Pg→Int×Bool:=fun v=>(v.1,v.2)
def age:(Int×Bool)→HX.V Pg:=fun y=>(y.1,y.2)
def anl:(List al)×Int→Option (Int×Bool):=fun x=>ik x.1 x.2
def Lz:Spec:=aO Yw Pg aru age anl
def Xk:Cfg:={T:=fA,ba:=aE.G Tryz.prog,eqs:=fC,N:=5,fuel:=64,fid:=105}
theorem ajK:aF Tryz.prog Xk:=bg fJ fK trivial
def aou {R:Type}:Inl R:= .mk 105 Xk [] XC Tryz.f105.results.toList []
def Zi:Cfg:={T:=fA,ba:=aE.G Tryz.prog,eqs:=fC,N:=6,fuel:=64,fid:=163}
theorem al_:aF Tryz.prog Zi:=bg fJ fK trivial
def amM {R:Type}:Inl R:= .mk 163 Zi [] CE Tryz.f163.results.toList []
def W1:Cfg:={T:=fA,ba:=aE.G Tryz.prog,eqs:=fC,N:=6,fuel:=64,fid:=163}
theorem ar7:aF Tryz.prog W1:=bg fJ fK trivial
def aoZ {R:Type}:Inl R:= .mk 163 W1 [] CE Tryz.f163.results.toList []
def WV {R:Type}:List (Nat×Hd R):= []
def Qs {R:Type}:List (Nat×Inl R):=[(8,amM),(10,aoZ)]
def OF:Cfg:={T:=fA,ba:=aE.G Tryz.prog,eqs:=fC,N:=20,fuel:=64,fid:=136}
theorem avc:aF Tryz.prog OF:=bg fJ fK trivial
theorem ai0 {R:Type}:aQ Tryz.prog (R:=R) 1 Qs:=bM Tryz.f163 al_ (bM Tryz.f163 ar7 (aC _ _))
theorem ah9 {R:Type}:aK (R:=R) (hnd 1 Qs) OF WV Dm:=aB (l:= []) (by kernel_rfl) (trivial)
def abv {R:Type}:Inl R:= .mk 136 OF WV Dm Tryz.f136.results.toList Qs
def VR {R:Type}:List (Nat×Hd R):= []
def Sj {R:Type}:List (Nat×Inl R):=[(8,aou),(10,abv)]
def QJ:Cfg:={T:=fA,ba:=aE.G Tryz.prog,eqs:=fC,N:=11,fuel:=64,fid:=135}
theorem afG:aF Tryz.prog QJ:=bg fJ fK trivial
theorem atB {R:Type}:aQ Tryz.prog (R:=R) 2 Sj:=bM Tryz.f105 ajK (bT Tryz.f136 avc ah9 (bC (by kernel_rfl)) ai0 (aC _ _))
theorem amm {R:Type}:aK (R:=R) (hnd 2 Sj) QJ VR Ok:=aB (l:= []) (by kernel_rfl) (trivial)
def aiO {R:Type}:Inl R:= .mk 135 QJ VR Ok Tryz.f135.results.toList Sj
def Wk:Cfg:={T:=fA,ba:=aE.G Tryz.prog,eqs:=fC,N:=5,fuel:=64,fid:=105}
theorem ahw:aF Tryz.prog Wk:=bg fJ fK trivial
def aiL {R:Type}:Inl R:= .mk 105 Wk [] XC Tryz.f105.results.toList []
def aad:Cfg:={T:=fA,ba:=aE.G Tryz.prog,eqs:=fC,N:=6,fuel:=64,fid:=163}
theorem ash:aF Tryz.prog aad:=bg fJ fK trivial
def asj {R:Type}:Inl R:= .mk 163 aad [] CE Tryz.f163.results.toList []
def YM:Cfg:={T:=fA,ba:=aE.G Tryz.prog,eqs:=fC,N:=6,fuel:=64,fid:=163}
theorem ahA:aF Tryz.prog YM:=bg fJ fK trivial
def ai8 {R:Type}:Inl R:= .mk 163 YM [] CE Tryz.f163.results.toList []
def Xv {R:Type}:List (Nat×Hd R):= []
def S3 {R:Type}:List (Nat×Inl R):=[(8,asj),(10,ai8)]
def PL:Cfg:={T:=fA,ba:=aE.G Tryz.prog,eqs:=fC,N:=20,fuel:=64,fid:=136}
theorem aqA:aF Tryz.prog PL:=bg fJ fK trivial
theorem aeJ {R:Type}:aQ Tryz.prog (R:=R) 1 S3:=bM Tryz.f163 ash (bM Tryz.f163 ahA (aC _ _))
theorem adm {R:Type}:aK (R:=R) (hnd 1 S3) PL Xv Dm:=aB (l:= []) (by kernel_rfl) (trivial)
def acQ {R:Type}:Inl R:= .mk 136 PL Xv Dm Tryz.f136.results.toList S3
def X3 {R:Type}:List (Nat×Hd R):= []
def SU {R:Type}:List (Nat×Inl R):=[(8,aiL),(10,acQ)]
def Ug:Cfg:={T:=fA,ba:=aE.G Tryz.prog,eqs:=fC,N:=11,fuel:=64,fid:=135}
theorem ajS:aF Tryz.prog Ug:=bg fJ fK trivial
theorem apK {R:Type}:aQ Tryz.prog (R:=R) 2 SU:=bM Tryz.f105 ahw (bT Tryz.f136 aqA adm (bC (by kernel_rfl)) aeJ (aC _ _))
theorem ae_ {R:Type}:aK (R:=R) (hnd 2 SU) Ug X3 Ok:=aB (l:= []) (by kernel_rfl) (trivial)
def aq1 {R:Type}:Inl R:= .mk 135 Ug X3 Ok Tryz.f135.results.toList SU
def PE {R:Type}:List (Nat×Hd R):=[(3,bQ Ff KH)]
def MA {R:Type}:List (Nat×Inl R):=[(30,aiO),(46,aq1)]
def Nz:Cfg:={T:=fA,ba:=aE.G Tryz.prog,eqs:=fC,N:=49,fuel:=64,loops:=[(3,⟨[0,1,2,8,9,10], [],[0,1],2, [], [], [], []⟩)],blocks:=[(0,⟨[0,1,2,8,9], [],[0,1],2, [], [], [], []⟩)],fid:=134}
theorem akq:aF Tryz.prog Nz:=bg fJ fK trivial
theorem adR {R:Type}:aQ Tryz.prog (R:=R) 3 MA:=bT Tryz.f135 afG amm (bC (by kernel_rfl)) atB (bT Tryz.f135 ajS ae_ (bC (by kernel_rfl)) apK (aC _ _))
theorem asR {R:Type}:bL (R:=R) (hnd 3 MA) Nz PE (sub [1,1,1,0,0,0] KD) (HS.V Ff) (HS.st Ff) (HS.sh Ff) KH (bQ Ff KH):=aX Ff KH (fun _ _=>rfl) (by intro q v K;kernel_rfl)
theorem awa {R:Type}:aK (R:=R) (hnd 3 MA) Nz PE KD:=aB (l:=[sub [1,1,1,0,0,0] KD]) (by kernel_rfl) (aM (b:=sub [1,1,1,0,0,0] KD) (rid:=3) (by kernel_rfl) (by kernel_rfl) asR (trivial))
def apw {R:Type}:Inl R:= .mk 134 Nz PE KD Tryz.f134.results.toList MA
def ad7 {R:Type}:List (Nat×Hd R):= []
def Y2 {R:Type}:List (Nat×Inl R):=[(11,apw)]
def XU:Cfg:={T:=fA,ba:=aE.G Tryz.prog,eqs:=fC,N:=14,fuel:=64,fid:=104}
theorem aj1:aF Tryz.prog XU:=bg fJ fK trivial
theorem aeP {R:Type}:aQ Tryz.prog (R:=R) 4 Y2:=bT Tryz.f134 akq awa (bC (by kernel_rfl)) adR (aC _ _)
theorem asO {R:Type}:aK (R:=R) (hnd 4 Y2) XU ad7 alE:=aB (l:= []) (by kernel_rfl) (trivial)
theorem RG:aN Tryz.prog 104 Lz:=bu Tryz.f104 aj1 yQ (d:=4) aeP asO (bC (by kernel_rfl)) (toY:=atU)
def Z1:List HV:=[.agg hW, .one (.int .i64), .agg [.int .i64, .str, .int .i64]]
def P_:List HV:=[.agg hW, .one (.int .i64)]
def apB:HP.V Z1→ao×Int×ar:=fun v=>((cW v.1),v.2.1,(⟨v.2.2.1.1,v.2.2.1.2.1,v.2.2.1.2.2.1⟩:ar))
def apS:HX.V P_→ao×Int:=fun v=>((cW v.1),v.2)
def ahS:(ao×Int)→HX.V P_:=fun y=>(uW y.1,y.2)
def amB:(ao×Int×ar)→Option (ao×Int):=fun x=>mn x.1 x.2.1 x.2.2
def Za:Spec:=aO Z1 P_ apB ahS amB
def aaK:Cfg:={T:=fA,spec:=[(101,xZ),(102,mH),(103,B6),(104,Lz),(108,KM)],ba:=aE.G Tryz.prog,eqs:=fC,N:=95,fuel:=64,ovl:=[137],fid:=106,qb:=true}
theorem atG:aF Tryz.prog aaK:=bg fJ fK ⟨za,⟨nj,⟨Fu,⟨RG,⟨RV,trivial⟩⟩⟩⟩⟩ (ov:=⟨yk,trivial⟩)
def av2 {R:Type}:Inl R:= .mk 106 aaK [] ad8 Tryz.f106.results.toList []
def aew {R:Type}:List (Nat×Hd R):= []
def VK {R:Type}:List (Nat×Inl R):=[(65,av2)]
def ZM:Cfg:={T:=fA,spec:=[(101,xZ),(102,mH),(103,B6),(104,Lz),(108,KM)],ba:=aE.G Tryz.prog,eqs:=fC,N:=74,fuel:=64,ovl:=[137],fid:=67,fresh:=[(107,O7)],qb:=true}
theorem al1:aF Tryz.prog ZM:=bg fJ fK ⟨za,⟨nj,⟨Fu,⟨RG,⟨RV,trivial⟩⟩⟩⟩⟩ (ov:=⟨yk,trivial⟩) (fr:=⟨abp,trivial⟩)
theorem agC {R:Type}:aQ Tryz.prog (R:=R) 1 VK:=bM Tryz.f106 atG (aC _ _)
theorem aqI {R:Type}:aK (R:=R) (hnd 1 VK) ZM aew agh:=aB (l:= []) (by kernel_rfl) (trivial)
theorem ant:aN Tryz.prog 67 Za:=bu Tryz.f67 al1 yQ (d:=1) agC aqI (bC (by kernel_rfl)) (toY:=apS)
def Y1:List HV:=[.agg hW, .one (.int .i64)]
def Pu:List HV:=[.agg hIn, .one (.bool)]
def aky:HP.V Y1→ao×Int:=fun v=>((cW v.1),v.2.1)
def alF:HX.V Pu→al×Bool:=fun v=>((cIn v.1),v.2)
def an0:(al×Bool)→HX.V Pu:=fun y=>(uIn y.1,y.2)
def acP:(ao×Int)→Option (al×Bool):=fun x=>mi x.1 x.2
def Hf:Spec:=aO Y1 Pu aky an0 acP
def apg:Cfg:={T:=fA,spec:=[(102,mH),(104,Lz)],ba:=aE.G Tryz.prog,eqs:=fC,N:=36,fuel:=64,fid:=142}
theorem adn:aF Tryz.prog apg:=bg fJ fK ⟨nj,⟨RG,trivial⟩⟩
theorem IN:aN Tryz.prog 142 Hf:=br Tryz.f142 adn yQ (toY:=alF)
def Fx:HS:=⟨[(0, .one (.own 3)),(1, .one (.clo 4)),(7, .one (.int .i64)),(8, .one (.int .i64)),(1000000, .one (.own 3)),(1000001, .one (.clo 4)),(2000002, .one (.ptr 0 0)),(2000004, .one (.ptr 2 0))],[(0, .cells hW),(1, .cells [.int .i64]),(2, .cells hW),(3, .row .kept),(4, .clo 169 [] [.ptr 1 0])],5⟩
def M6 {R:Type}:Nat→HS.V Fx→(Ex→St→Option R)→Option R:=fun q v K=>
 dz v.1.2.2.1 v.2.2.1.1 v.2.2.2.2.1 (fun y9=>K .ret {az:=[(4, .v (.one (.int .i64 y9))),(1000000, .v (.one (.own 3))),(1000001, .v (.one (.clo 4))),(2000002, .v (.one (.ptr 0 0))),(2000004, .v (.one (.ptr 2 0)))],mem:=[(0, .cells [.int .i64 ((cW v.2.1).fs.aA), .int .i64 ((cW v.2.1).fs.aH), .int .i64 ((cW v.2.1).fs.next), .sl .aS ((cW v.2.1).fs.aa), .sl .kept ((cW v.2.1).aq.kept), .sl .aS ((cW v.2.1).aq.aV)]),(1, .cells [.int .i64 v.2.2.1.1]),(2, .cells [.int .i64 ((cW v.2.2.2.1).fs.aA), .int .i64 ((cW v.2.2.2.1).fs.aH), .int .i64 ((cW v.2.2.2.1).fs.next), .sl .aS ((cW v.2.2.2.1).fs.aa), .sl .kept ((cW v.2.2.2.1).aq.kept), .sl .aS ((cW v.2.2.2.1).aq.aV)]),(3, .row .kept v.2.2.2.2.1),(4, .clo 169 [] [.ptr 1 0])],nx:=5}) (K (.exit 0) {az:=[(1000000, .v (.one (.own 3))),(1000001, .v (.one (.clo 4))),(2000002, .v (.one (.ptr 0 0))),(2000004, .v (.one (.ptr 2 0)))],mem:=[(0, .cells [.int .i64 ((cW v.2.1).fs.aA), .int .i64 ((cW v.2.1).fs.aH), .int .i64 ((cW v.2.1).fs.next), .sl .aS ((cW v.2.1).fs.aa), .sl .kept ((cW v.2.1).aq.kept), .sl .aS ((cW v.2.1).aq.aV)]),(1, .cells [.int .i64 v.2.2.1.1]),(2, .cells [.int .i64 ((cW v.2.2.2.1).fs.aA), .int .i64 ((cW v.2.2.2.1).fs.aH), .int .i64 ((cW v.2.2.2.1).fs.next), .sl .aS ((cW v.2.2.2.1).fs.aa), .sl .kept ((cW v.2.2.2.1).aq.kept), .sl .aS ((cW v.2.2.2.1).aq.aV)]),(3, .row .kept v.2.2.2.2.1),(4, .clo 169 [] [.ptr 1 0])],nx:=5}) q v.1.2.2.2.1
def DV:HS:=⟨[(0, .one (.own 3)),(1, .one (.clo 4)),(5, .one (.int .i64)),(6, .one (.int .i64)),(1000002, .one (.ptr 0 0)),(1000004, .one (.ptr 2 0))],[(0, .cells hW),(1, .cells [.int .i64]),(2, .cells hW),(3, .row .kept),(4, .clo 169 [] [.ptr 1 0])],5⟩
def NK {R:Type}:Nat→HS.V DV→(Ex→St→Option R)→Option R:=fun q v K=>
 de v.2.2.1.1 (fun y27 y30=>K (.exit 0) {az:=[(0, .v (.one (.own 3))),(5, .v (.one (.int .i64 y27))),(1000002, .v (.one (.ptr 0 0))),(1000004, .v (.one (.ptr 2 0)))],mem:=[(0, .cells [.int .i64 ((cW v.2.1).fs.aA), .int .i64 ((cW v.2.1).fs.aH), .int .i64 ((cW v.2.1).fs.next), .sl .aS ((cW v.2.1).fs.aa), .sl .kept ((cW v.2.1).aq.kept), .sl .aS ((cW v.2.1).aq.aV)]),(2, .cells [.int .i64 ((cW v.2.2.2.1).fs.aA), .int .i64 ((cW v.2.2.2.1).fs.aH), .int .i64 ((cW v.2.2.2.1).fs.next), .sl .aS ((cW v.2.2.2.1).fs.aa), .sl .kept ((cW v.2.2.2.1).aq.kept), .sl .aS ((cW v.2.2.2.1).aq.aV)]),(3, .row .kept y30)],nx:=4}) q v.1.2.2.1 v.1.2.2.2.1 v.2.2.2.2.1
def Xp:List HV:=[.agg hW, .one (.int .i64)]
def Q7:List HV:=[.agg hW]
def alv:HP.V Xp→ao×Int:=fun v=>((cW v.1),v.2.1)
def aeh:HX.V Q7→ao:=fun v=>((cW v))
def aoO:ao→HX.V Q7:=fun y=>(uW y)
def adJ:(ao×Int)→Option (ao):=fun x=>aY x.1 x.2
def DX:Spec:=aO Xp Q7 alv aoO adJ
def aba:Cfg:={T:=fA,ba:=aE.G Tryz.prog,eqs:=fC,N:=8,fuel:=64,fid:=169}
theorem asB:aF Tryz.prog aba:=bg fJ fK trivial
def ano {R:Type}:Inl R:= .mk 169 aba [] Yv Tryz.f169.results.toList []
def RL {R:Type}:List (Nat×Hd R):=[(2,bQ Fx M6)]
def Oc {R:Type}:List (Nat×Inl R):=[(16,ano)]
def MQ:Cfg:={T:=fA,ba:=aE.G Tryz.prog,eqs:=fC,N:=19,fuel:=64,loops:=[(2,⟨[0,1,7,8,1000000,1000001,2000002,2000004], [],[0,1,2,3,4],5, [],[2], [], []⟩)],blocks:=[(0,⟨[1000000,1000001,2000002,2000004], [],[0,1,2,3,4],5, [], [], [], []⟩)],gS:=some ⟨[4,1000000,1000001,2000002,2000004], [],[0,1,2,3,4],5, [], [], [], []⟩,fid:=141}
theorem aik:aF Tryz.prog MQ:=bg fJ fK trivial
theorem akS {R:Type}:aQ Tryz.prog (R:=R) 1 Oc:=bM Tryz.f169 asB (aC _ _)
theorem adO {R:Type}:bL (R:=R) (hnd 1 Oc) MQ RL (sub [1,0,1,0,0] JG) (HS.V Fx) (HS.st Fx) (HS.sh Fx) M6 (bQ Fx M6):=aX Fx M6 (fun _ _=>rfl) (by intro q v K;kernel_rfl)
theorem ajy {R:Type}:aK (R:=R) (hnd 1 Oc) MQ RL JG:=aB (l:=[sub [1,0,1,0,0] JG]) (by kernel_rfl) (aM (b:=sub [1,0,1,0,0] JG) (rid:=2) (by kernel_rfl) (by kernel_rfl) adO (trivial))
def awc {R:Type}:Inl R:= .mk 141 MQ RL JG Tryz.f141.results.toList Oc
def UR:Cfg:={T:=fA,ba:=aE.G Tryz.prog,eqs:=fC,N:=8,fuel:=64,fid:=169}
theorem ahM:aF Tryz.prog UR:=bg fJ fK trivial
def asL {R:Type}:Inl R:= .mk 169 UR [] Yv Tryz.f169.results.toList []
def Pm {R:Type}:List (Nat×Hd R):=[(5,bQ DV NK)]
def Om {R:Type}:List (Nat×Inl R):=[(10,awc),(28,asL)]
def Mo:Cfg:={T:=fA,ba:=aE.G Tryz.prog,eqs:=fC,N:=42,fuel:=64,loops:=[(5,⟨[0,1,5,6,1000002,1000004], [],[0,1,2,3,4],5, [], [], [], []⟩)],blocks:=[(0,⟨[0,5,1000002,1000004], [],[0,2,3],4, [], [], [], []⟩)],fid:=168}
theorem anM:aF Tryz.prog Mo:=bg fJ fK trivial
theorem aq5 {R:Type}:aQ Tryz.prog (R:=R) 2 Om:=bT Tryz.f141 aik ajy (bC (by kernel_rfl)) akS (bM Tryz.f169 ahM (aC _ _))
theorem ahP {R:Type}:bL (R:=R) (hnd 2 Om) Mo Pm (sub [1,1,1,0,1,0,0] J6) (HS.V DV) (HS.st DV) (HS.sh DV) NK (bQ DV NK):=aX DV NK (fun _ _=>rfl) (by intro q v K;kernel_rfl)
theorem avr {R:Type}:aK (R:=R) (hnd 2 Om) Mo Pm J6:=aB (l:=[sub [1,1,1,0,1,0,0] J6]) (by kernel_rfl) (aM (b:=sub [1,1,1,0,1,0,0] J6) (rid:=5) (by kernel_rfl) (by kernel_rfl) ahP (trivial))
def auC {R:Type}:Inl R:= .mk 168 Mo Pm J6 Tryz.f168.results.toList Om
def arw {R:Type}:List (Nat×Hd R):= []
def W7 {R:Type}:List (Nat×Inl R):=[(10,auC)]
def VJ:Cfg:={T:=fA,ba:=aE.G Tryz.prog,eqs:=fC,N:=14,fuel:=64,fid:=145,fresh:=[(140,Ss)]}
theorem atv:aF Tryz.prog VJ:=bg fJ fK trivial (fr:=⟨U6,trivial⟩)
theorem avK {R:Type}:aQ Tryz.prog (R:=R) 3 W7:=bT Tryz.f168 anM avr (bC (by kernel_rfl)) aq5 (aC _ _)
theorem ad0 {R:Type}:aK (R:=R) (hnd 3 W7) VJ arw aeQ:=aB (l:= []) (by kernel_rfl) (trivial)
theorem Hi:aN Tryz.prog 145 DX:=bu Tryz.f145 atv yQ (d:=3) avK ad0 (bC (by kernel_rfl)) (toY:=aeh)
def Dz:HS:=⟨[(0, .one (.own 5)),(1, .one (.clo 6)),(7, .one (.int .i64)),(8, .one (.int .i64)),(1000000, .one (.own 5)),(1000001, .one (.clo 6)),(2000001, .one (.int .i64)),(2000003, .one (.ptr 0 0)),(2000005, .one (.ptr 1 0)),(2000006, .one (.ptr 2 0)),(2000008, .one (.ptr 3 0)),(2000010, .one (.ptr 4 0))],[(0, .cells hW),(1, .cells [.int .i64, .str, .int .i64]),(2, .cells hW),(3, .cells [.int .i64, .int .i64, .bool, .str]),(4, .cells hIn),(5, .row .aS),(6, .clo 144 [] [.ptr 4 0])],7⟩
def LF {R:Type}:Nat→HS.V Dz→(Ex→St→Option R)→Option R:=fun q v K=>
 bK v.1.2.2.1 (cIn v.2.2.2.2.2.1) v.2.2.2.2.2.2.1 (fun y17=>K .ret {az:=[(4, .v (.one (.int .i64 y17))),(1000000, .v (.one (.own 5))),(1000001, .v (.one (.clo 6))),(2000001, .v (.one (.int .i64 v.1.2.2.2.2.2.2.1))),(2000003, .v (.one (.ptr 0 0))),(2000005, .v (.one (.ptr 1 0))),(2000006, .v (.one (.ptr 2 0))),(2000008, .v (.one (.ptr 3 0))),(2000010, .v (.one (.ptr 4 0)))],mem:=[(0, .cells [.int .i64 ((cW v.2.1).fs.aA), .int .i64 ((cW v.2.1).fs.aH), .int .i64 ((cW v.2.1).fs.next), .sl .aS ((cW v.2.1).fs.aa), .sl .kept ((cW v.2.1).aq.kept), .sl .aS ((cW v.2.1).aq.aV)]),(1, .cells [.int .i64 ((⟨v.2.2.1.1,v.2.2.1.2.1,v.2.2.1.2.2.1⟩:ar).dir), .str ((⟨v.2.2.1.1,v.2.2.1.2.1,v.2.2.1.2.2.1⟩:ar).name), .int .i64 ((⟨v.2.2.1.1,v.2.2.1.2.1,v.2.2.1.2.2.1⟩:ar).ino)]),(2, .cells [.int .i64 ((cW v.2.2.2.1).fs.aA), .int .i64 ((cW v.2.2.2.1).fs.aH), .int .i64 ((cW v.2.2.2.1).fs.next), .sl .aS ((cW v.2.2.2.1).fs.aa), .sl .kept ((cW v.2.2.2.1).aq.kept), .sl .aS ((cW v.2.2.2.1).aq.aV)]),(3, .cells [.int .i64 ((⟨v.2.2.2.2.1.1,v.2.2.2.2.1.2.1,v.2.2.2.2.1.2.2.1,v.2.2.2.2.1.2.2.2.1⟩:Kept).slot), .int .i64 ((⟨v.2.2.2.2.1.1,v.2.2.2.2.1.2.1,v.2.2.2.2.1.2.2.1,v.2.2.2.2.1.2.2.2.1⟩:Kept).ino), .bool ((⟨v.2.2.2.2.1.1,v.2.2.2.2.1.2.1,v.2.2.2.2.1.2.2.1,v.2.2.2.2.1.2.2.2.1⟩:Kept).content), .str ((⟨v.2.2.2.2.1.1,v.2.2.2.2.1.2.1,v.2.2.2.2.1.2.2.1,v.2.2.2.2.1.2.2.2.1⟩:Kept).data)]),(4, .cells (rIn (cIn v.2.2.2.2.2.1))),(5, .row .aS v.2.2.2.2.2.2.1),(6, .clo 144 [] [.ptr 4 0])],nx:=7}) (K (.exit 0) {az:=[(1000000, .v (.one (.own 5))),(1000001, .v (.one (.clo 6))),(2000001, .v (.one (.int .i64 v.1.2.2.2.2.2.2.1))),(2000003, .v (.one (.ptr 0 0))),(2000005, .v (.one (.ptr 1 0))),(2000006, .v (.one (.ptr 2 0))),(2000008, .v (.one (.ptr 3 0))),(2000010, .v (.one (.ptr 4 0)))],mem:=[(0, .cells [.int .i64 ((cW v.2.1).fs.aA), .int .i64 ((cW v.2.1).fs.aH), .int .i64 ((cW v.2.1).fs.next), .sl .aS ((cW v.2.1).fs.aa), .sl .kept ((cW v.2.1).aq.kept), .sl .aS ((cW v.2.1).aq.aV)]),(1, .cells [.int .i64 ((⟨v.2.2.1.1,v.2.2.1.2.1,v.2.2.1.2.2.1⟩:ar).dir), .str ((⟨v.2.2.1.1,v.2.2.1.2.1,v.2.2.1.2.2.1⟩:ar).name), .int .i64 ((⟨v.2.2.1.1,v.2.2.1.2.1,v.2.2.1.2.2.1⟩:ar).ino)]),(2, .cells [.int .i64 ((cW v.2.2.2.1).fs.aA), .int .i64 ((cW v.2.2.2.1).fs.aH), .int .i64 ((cW v.2.2.2.1).fs.next), .sl .aS ((cW v.2.2.2.1).fs.aa), .sl .kept ((cW v.2.2.2.1).aq.kept), .sl .aS ((cW v.2.2.2.1).aq.aV)]),(3, .cells [.int .i64 ((⟨v.2.2.2.2.1.1,v.2.2.2.2.1.2.1,v.2.2.2.2.1.2.2.1,v.2.2.2.2.1.2.2.2.1⟩:Kept).slot), .int .i64 ((⟨v.2.2.2.2.1.1,v.2.2.2.2.1.2.1,v.2.2.2.2.1.2.2.1,v.2.2.2.2.1.2.2.2.1⟩:Kept).ino), .bool ((⟨v.2.2.2.2.1.1,v.2.2.2.2.1.2.1,v.2.2.2.2.1.2.2.1,v.2.2.2.2.1.2.2.2.1⟩:Kept).content), .str ((⟨v.2.2.2.2.1.1,v.2.2.2.2.1.2.1,v.2.2.2.2.1.2.2.1,v.2.2.2.2.1.2.2.2.1⟩:Kept).data)]),(4, .cells (rIn (cIn v.2.2.2.2.2.1))),(5, .row .aS v.2.2.2.2.2.2.1),(6, .clo 144 [] [.ptr 4 0])],nx:=7}) q v.1.2.2.2.1
def D7:HS:=⟨[(0, .one (.own 5)),(1, .one (.clo 6)),(5, .one (.int .i64)),(6, .one (.int .i64)),(1000001, .one (.int .i64)),(1000003, .one (.ptr 0 0)),(1000005, .one (.ptr 1 0)),(1000006, .one (.ptr 2 0)),(1000008, .one (.ptr 3 0)),(1000010, .one (.ptr 4 0))],[(0, .cells hW),(1, .cells [.int .i64, .str, .int .i64]),(2, .cells hW),(3, .cells [.int .i64, .int .i64, .bool, .str]),(4, .cells hIn),(5, .row .aS),(6, .clo 144 [] [.ptr 4 0])],7⟩
def My {R:Type}:Nat→HS.V D7→(Ex→St→Option R)→Option R:=fun q v K=>
 bR (cIn v.2.2.2.2.2.1) (fun y47 y54=>K (.exit 0) {az:=[(0, .v (.one (.own 5))),(5, .v (.one (.int .i64 y47))),(1000001, .v (.one (.int .i64 v.1.2.2.2.2.1))),(1000003, .v (.one (.ptr 0 0))),(1000005, .v (.one (.ptr 1 0))),(1000006, .v (.one (.ptr 2 0))),(1000008, .v (.one (.ptr 3 0))),(1000010, .v (.one (.ptr 4 0)))],mem:=[(0, .cells [.int .i64 ((cW v.2.1).fs.aA), .int .i64 ((cW v.2.1).fs.aH), .int .i64 ((cW v.2.1).fs.next), .sl .aS ((cW v.2.1).fs.aa), .sl .kept ((cW v.2.1).aq.kept), .sl .aS ((cW v.2.1).aq.aV)]),(1, .cells [.int .i64 ((⟨v.2.2.1.1,v.2.2.1.2.1,v.2.2.1.2.2.1⟩:ar).dir), .str ((⟨v.2.2.1.1,v.2.2.1.2.1,v.2.2.1.2.2.1⟩:ar).name), .int .i64 ((⟨v.2.2.1.1,v.2.2.1.2.1,v.2.2.1.2.2.1⟩:ar).ino)]),(2, .cells [.int .i64 ((cW v.2.2.2.1).fs.aA), .int .i64 ((cW v.2.2.2.1).fs.aH), .int .i64 ((cW v.2.2.2.1).fs.next), .sl .aS ((cW v.2.2.2.1).fs.aa), .sl .kept ((cW v.2.2.2.1).aq.kept), .sl .aS ((cW v.2.2.2.1).aq.aV)]),(3, .cells [.int .i64 ((⟨v.2.2.2.2.1.1,v.2.2.2.2.1.2.1,v.2.2.2.2.1.2.2.1,v.2.2.2.2.1.2.2.2.1⟩:Kept).slot), .int .i64 ((⟨v.2.2.2.2.1.1,v.2.2.2.2.1.2.1,v.2.2.2.2.1.2.2.1,v.2.2.2.2.1.2.2.2.1⟩:Kept).ino), .bool ((⟨v.2.2.2.2.1.1,v.2.2.2.2.1.2.1,v.2.2.2.2.1.2.2.1,v.2.2.2.2.1.2.2.2.1⟩:Kept).content), .str ((⟨v.2.2.2.2.1.1,v.2.2.2.2.1.2.1,v.2.2.2.2.1.2.2.1,v.2.2.2.2.1.2.2.2.1⟩:Kept).data)]),(4, .cells (rIn (cIn v.2.2.2.2.2.1))),(5, .row .aS y54)],nx:=6}) q v.1.2.2.1 v.1.2.2.2.1 v.2.2.2.2.2.2.1
def W6:List HV:=[.agg hW, .one (.int .i64), .agg [.int .i64, .str, .int .i64]]
def P0:List HV:=[.agg hW, .one (.int .i64)]
def aeF:HP.V W6→ao×Int×ar:=fun v=>((cW v.1),v.2.1,(⟨v.2.2.1.1,v.2.2.1.2.1,v.2.2.1.2.2.1⟩:ar))
def abV:HX.V P0→ao×Int:=fun v=>((cW v.1),v.2)
def ar9:(ao×Int)→HX.V P0:=fun y=>(uW y.1,y.2)
def agB:(ao×Int×ar)→Option (ao×Int):=fun x=>o3 x.1 x.2.1 x.2.2
def XL:Spec:=aO W6 P0 aeF ar9 agB
def aaS:Cfg:={T:=fA,spec:=[(99,DQ),(101,xZ),(102,mH),(121,C1),(125,Bo),(128,vQ),(142,Hf),(145,DX)],ba:=aE.G Tryz.prog,eqs:=fC,N:=9,fuel:=64,fid:=144}
theorem atj:aF Tryz.prog aaS:=bg fJ fK ⟨HQ,⟨za,⟨nj,⟨E8,⟨Cl,⟨yF,⟨IN,⟨Hi,trivial⟩⟩⟩⟩⟩⟩⟩⟩
def ajn {R:Type}:Inl R:= .mk 144 aaS [] aaO Tryz.f144.results.toList []
def PZ {R:Type}:List (Nat×Hd R):=[(2,bQ Dz LF)]
def L7 {R:Type}:List (Nat×Inl R):=[(16,ajn)]
def K2:Cfg:={T:=fA,spec:=[(99,DQ),(101,xZ),(102,mH),(121,C1),(125,Bo),(128,vQ),(142,Hf),(145,DX)],ba:=aE.G Tryz.prog,eqs:=fC,N:=19,fuel:=64,loops:=[(2,⟨[0,1,7,8,1000000,1000001,2000001,2000003,2000005,2000006,2000008,2000010], [],[0,1,2,3,4,5,6],7, [],[2], [], []⟩)],blocks:=[(0,⟨[1000000,1000001,2000001,2000003,2000005,2000006,2000008,2000010], [],[0,1,2,3,4,5,6],7, [], [], [], []⟩)],gS:=some ⟨[4,1000000,1000001,2000001,2000003,2000005,2000006,2000008,2000010], [],[0,1,2,3,4,5,6],7, [], [], [], []⟩,fid:=167}
theorem at4:aF Tryz.prog K2:=bg fJ fK ⟨HQ,⟨za,⟨nj,⟨E8,⟨Cl,⟨yF,⟨IN,⟨Hi,trivial⟩⟩⟩⟩⟩⟩⟩⟩
theorem aun {R:Type}:aQ Tryz.prog (R:=R) 1 L7:=bM Tryz.f144 atj (aC _ _)
theorem aia {R:Type}:bL (R:=R) (hnd 1 L7) K2 PZ (sub [1,0,1,0,0] Km) (HS.V Dz) (HS.st Dz) (HS.sh Dz) LF (bQ Dz LF):=aX Dz LF (fun _ _=>rfl) (by intro q v K;kernel_rfl)
theorem afC {R:Type}:aK (R:=R) (hnd 1 L7) K2 PZ Km:=aB (l:=[sub [1,0,1,0,0] Km]) (by kernel_rfl) (aM (b:=sub [1,0,1,0,0] Km) (rid:=2) (by kernel_rfl) (by kernel_rfl) aia (trivial))
def atc {R:Type}:Inl R:= .mk 167 K2 PZ Km Tryz.f167.results.toList L7
def YE:Cfg:={T:=fA,spec:=[(99,DQ),(101,xZ),(102,mH),(121,C1),(125,Bo),(128,vQ),(142,Hf),(145,DX)],ba:=aE.G Tryz.prog,eqs:=fC,N:=9,fuel:=64,fid:=144}
theorem aso:aF Tryz.prog YE:=bg fJ fK ⟨HQ,⟨za,⟨nj,⟨E8,⟨Cl,⟨yF,⟨IN,⟨Hi,trivial⟩⟩⟩⟩⟩⟩⟩⟩
def afj {R:Type}:Inl R:= .mk 144 YE [] aaO Tryz.f144.results.toList []
def PD {R:Type}:List (Nat×Hd R):=[(5,bQ D7 My)]
def MS {R:Type}:List (Nat×Inl R):=[(10,atc),(28,afj)]
def ML:Cfg:={T:=fA,spec:=[(99,DQ),(101,xZ),(102,mH),(121,C1),(125,Bo),(128,vQ),(142,Hf),(145,DX)],ba:=aE.G Tryz.prog,eqs:=fC,N:=42,fuel:=64,loops:=[(5,⟨[0,1,5,6,1000001,1000003,1000005,1000006,1000008,1000010], [],[0,1,2,3,4,5,6],7, [], [], [], []⟩)],blocks:=[(0,⟨[0,5,1000001,1000003,1000005,1000006,1000008,1000010], [],[0,1,2,3,4,5],6, [], [], [], []⟩)],fid:=143}
theorem aqc:aF Tryz.prog ML:=bg fJ fK ⟨HQ,⟨za,⟨nj,⟨E8,⟨Cl,⟨yF,⟨IN,⟨Hi,trivial⟩⟩⟩⟩⟩⟩⟩⟩
theorem avv {R:Type}:aQ Tryz.prog (R:=R) 2 MS:=bT Tryz.f167 at4 afC (bC (by kernel_rfl)) aun (bM Tryz.f144 aso (aC _ _))
theorem afu {R:Type}:bL (R:=R) (hnd 2 MS) ML PD (sub [1,1,1,0,1,0,0] IW) (HS.V D7) (HS.st D7) (HS.sh D7) My (bQ D7 My):=aX D7 My (fun _ _=>rfl) (by intro q v K;kernel_rfl)
theorem ai5 {R:Type}:aK (R:=R) (hnd 2 MS) ML PD IW:=aB (l:=[sub [1,1,1,0,1,0,0] IW]) (by kernel_rfl) (aM (b:=sub [1,1,1,0,1,0,0] IW) (rid:=5) (by kernel_rfl) (by kernel_rfl) afu (trivial))
def asG {R:Type}:Inl R:= .mk 143 ML PD IW Tryz.f143.results.toList MS
def ao5 {R:Type}:List (Nat×Hd R):= []
def aas {R:Type}:List (Nat×Inl R):=[(81,asG)]
def YQ:Cfg:={T:=fA,spec:=[(99,DQ),(101,xZ),(102,mH),(121,C1),(125,Bo),(128,vQ),(142,Hf),(145,DX)],ba:=aE.G Tryz.prog,eqs:=fC,N:=99,fuel:=64,fid:=111,fresh:=[(107,O7)]}
theorem aoI:aF Tryz.prog YQ:=bg fJ fK ⟨HQ,⟨za,⟨nj,⟨E8,⟨Cl,⟨yF,⟨IN,⟨Hi,trivial⟩⟩⟩⟩⟩⟩⟩⟩ (fr:=⟨abp,trivial⟩)
theorem aqr {R:Type}:aQ Tryz.prog (R:=R) 3 aas:=bT Tryz.f143 aqc ai5 (bC (by kernel_rfl)) avv (aC _ _)
theorem apE {R:Type}:aK (R:=R) (hnd 3 aas) YQ ao5 ap_:=aB (l:= []) (by kernel_rfl) (trivial)
theorem aeH:aN Tryz.prog 111 XL:=bu Tryz.f111 aoI yQ (d:=3) aqr apE (bC (by kernel_rfl)) (toY:=abV)
def aa1:List HV:=[.agg hW, .one (.int .i64)]
def OO:List HV:=[.agg hW, .one (.int .i64)]
def ajC:HP.V aa1→ao×Int:=fun v=>((cW v.1),v.2.1)
def amc:HX.V OO→ao×Int:=fun v=>((cW v.1),v.2)
def avR:(ao×Int)→HX.V OO:=fun y=>(uW y.1,y.2)
def amE:(ao×Int)→Option (ao×Int):=fun x=>jA x.1 x.2
def Wf:Spec:=aO aa1 OO ajC avR amE
def ank:Cfg:={T:=fA,spec:=[(101,xZ),(102,mH),(125,Bo),(128,vQ),(145,DX)],ba:=aE.G Tryz.prog,eqs:=fC,N:=61,fuel:=64,fid:=112}
theorem ajG:aF Tryz.prog ank:=bg fJ fK ⟨za,⟨nj,⟨Cl,⟨yF,⟨Hi,trivial⟩⟩⟩⟩⟩
theorem ahu:aN Tryz.prog 112 Wf:=br Tryz.f112 ajG yQ (toY:=amc)
end
end Go.Eng
namespace Go.Eng
noncomputable section
open Go Go.Proofs
def kQ:List (Nat×TI):=[(3,⟨false,1, .one (.int .i64 0), .int .i64⟩),(4,⟨false,1, .one (.bool false), .bool⟩),(9,⟨false,1, .one (.str []), .str⟩),(24,⟨true,4, .agg [.int .i64 0, .int .i64 0, .int .i64 0, .clip .aS []], .struct [(0,3),(1,3),(2,3),(3,22)]⟩),(25,⟨false,1, .one (.clip .kept []), .slice .kept 66⟩),(27,⟨true,2, .agg [.clip .kept [], .clip .aS []], .struct [(0,25),(1,22)]⟩),(29,⟨true,6, .agg [.int .i64 0, .int .i64 0, .int .i64 0, .clip .aS [], .clip .kept [], .clip .aS []], .struct [(0,24),(4,27)]⟩),(31,⟨true,5, .agg [.int .i64 0, .int .i64 0, .str [], .str [], .str []], .struct [(0,3),(1,3),(2,9),(3,9),(4,9)]⟩),(49,⟨false,1, .one (.mC), .other⟩),(50,⟨false,1, .one (.n_), .map .int .fn 3 49⟩),(53,⟨false,1, .one (.clip .entry []), .slice .entry 85⟩),(55,⟨true,6, .agg [.int .i64 0, .int .i64 0, .int .i64 0, .str [], .int .i64 0, .clip .entry []], .struct [(0,3),(1,3),(2,3),(3,9),(4,3),(5,53)]⟩),(59,⟨true,3, .agg [.int .i64 0, .str [], .int .i64 0], .struct [(0,3),(1,9),(2,3)]⟩),(66,⟨true,4, .agg [.int .i64 0, .int .i64 0, .bool false, .str []], .struct [(0,3),(1,3),(2,4),(3,9)]⟩)]
def kX:List (Nat×List EK):= []
theorem pq:Tryz.prog.follows .mixedOrders=true:=by kernel_rfl
theorem lf:(kQ.all fun x=>tiB Tryz.prog x.1 x.2)=true:=by kernel_rfl
theorem lj:(kX.all fun x=>eqB Tryz.prog x.1 x.2)=true:=by kernel_rfl
def SD:Code:=bd Tryz.f23
def aok:Code:=bd Tryz.f64
def Nv:Code:=bd Tryz.f65
def agD:Code:=bd Tryz.f66
def ahf:Code:=bd Tryz.f68
def akO:Code:=bd Tryz.f69
def ajQ:Code:=bd Tryz.f70
def Xg:Code:=bd Tryz.f109
def amo:Code:=bd Tryz.f110
def J3:Code:=bd Tryz.f141
def Wy:List HV:=[.agg hFs, .one (.str)]
def RQ:List HV:=[.agg [.int .i64, .str, .int .i64], .one (.int .i64)]
def akA:HP.V Wy→Fs×Str:=fun v=>((cFs v.1),v.2.1)
def ao0:HX.V RQ→ar×Int:=fun v=>((⟨v.1.1,v.1.2.1,v.1.2.2.1⟩:ar),v.2)
def avI:(ar×Int)→HX.V RQ:=fun y=>((y.1.dir,(y.1.name,(y.1.ino,()))),y.2)
def akn:(Fs×Str)→Option (ar×Int):=fun x=>j3 x.1 x.2
def Jd:Spec:=aO Wy RQ akA avI akn
def acf:Cfg:={T:=kQ,spec:=[(124,OW)],ba:=aE.G Tryz.prog,eqs:=kX,N:=25,fuel:=64,fid:=93}
theorem ado:aF Tryz.prog acf:=bg lf lj ⟨Xa,trivial⟩
theorem NQ:aN Tryz.prog 93 Jd:=br Tryz.f93 ado pq (toY:=ao0)
def ZD:List HV:=[.agg hW, .one (.str), .one (.int .i64), .one (.str)]
def Qi:List HV:=[.agg hW, .one (.int .i64)]
def asQ:HP.V ZD→ao×Str×Int×Str:=fun v=>((cW v.1),v.2.1,v.2.2.1,v.2.2.2.1)
def aqW:HX.V Qi→ao×Int:=fun v=>((cW v.1),v.2)
def atA:(ao×Int)→HX.V Qi:=fun y=>(uW y.1,y.2)
def anr:(ao×Str×Int×Str)→Option (ao×Int):=fun x=>lU x.1 x.2.1 x.2.2.1 x.2.2.2
def Nd:Spec:=aO ZD Qi asQ atA anr
def aec:Cfg:={T:=kQ,spec:=[(93,Jd),(94,Vp)],ba:=aE.G Tryz.prog,eqs:=kX,N:=37,fuel:=64,fid:=58}
theorem ah6:aF Tryz.prog aec:=bg lf lj ⟨NQ,⟨alY,trivial⟩⟩
theorem O0:aN Tryz.prog 58 Nd:=br Tryz.f58 ah6 pq (toY:=aqW)
def aan:List HV:=[.agg hW, .agg [.int .i64, .int .i64, .str, .str, .str]]
def Ri:List HV:=[.agg hW, .one (.int .i64)]
def ae8:HP.V aan→ao×Opn:=fun v=>((cW v.1),(⟨v.2.1.1,v.2.1.2.1,v.2.1.2.2.1,v.2.1.2.2.2.1,v.2.1.2.2.2.2.1⟩:Opn))
def apO:HX.V Ri→ao×Int:=fun v=>((cW v.1),v.2)
def afH:(ao×Int)→HX.V Ri:=fun y=>(uW y.1,y.2)
def avT:(ao×Opn)→Option (ao×Int):=fun x=>kJ x.1 x.2
def Wi:Spec:=aO aan Ri ae8 afH avT
def aeX:Cfg:={T:=kQ,spec:=[(58,Nd)],ba:=aE.G Tryz.prog,eqs:=kX,N:=12,fuel:=64,fid:=57}
theorem aqz:aF Tryz.prog aeX:=bg lf lj ⟨O0,trivial⟩
theorem ac4:aN Tryz.prog 57 Wi:=br Tryz.f57 aqz pq (toY:=apO)
def Ux:List HV:=[.agg hFs, .one (.str)]
def Sq:List HV:=[.agg [.int .i64, .str, .int .i64], .agg hIn, .one (.int .i64)]
def atF:HP.V Ux→Fs×Str:=fun v=>((cFs v.1),v.2.1)
def apj:HX.V Sq→ar×al×Int:=fun v=>((⟨v.1.1,v.1.2.1,v.1.2.2.1⟩:ar),(cIn v.2.1),v.2.2)
def amj:(ar×al×Int)→HX.V Sq:=fun y=>((y.1.dir,(y.1.name,(y.1.ino,()))),uIn y.2.1,y.2.2)
def an8:(Fs×Str)→Option (ar×al×Int):=fun x=>gi x.1 x.2
def BF:Spec:=aO Ux Sq atF amj an8
def ao9:Cfg:={T:=kQ,spec:=[(102,mH),(124,OW)],ba:=aE.G Tryz.prog,eqs:=kX,N:=37,fuel:=64,fid:=98}
theorem abX:aF Tryz.prog ao9:=bg lf lj ⟨nj,⟨Xa,trivial⟩⟩
theorem Dc:aN Tryz.prog 98 BF:=br Tryz.f98 abX pq (toY:=apj)
def aaL:List HV:=[.agg hFs, .one (.str)]
def OI:List HV:=[.agg hIn, .one (.int .i64)]
def ac8:HP.V aaL→Fs×Str:=fun v=>((cFs v.1),v.2.1)
def avu:HX.V OI→al×Int:=fun v=>((cIn v.1),v.2)
def atH:(al×Int)→HX.V OI:=fun y=>(uIn y.1,y.2)
def ak4:(Fs×Str)→Option (al×Int):=fun x=>lS x.1 x.2
def T4:Spec:=aO aaL OI ac8 atH ak4
def aqb:Cfg:={T:=kQ,spec:=[(98,BF)],ba:=aE.G Tryz.prog,eqs:=kX,N:=32,fuel:=64,fid:=95}
theorem adp:aF Tryz.prog aqb:=bg lf lj ⟨Dc,trivial⟩
theorem aaD:aN Tryz.prog 95 T4:=br Tryz.f95 adp pq (toY:=avu)
def Y3:List HV:=[.agg hW, .agg [.int .i64, .int .i64, .str, .str, .str]]
def Qf:List HV:=[.agg hW, .one (.int .i64)]
def ajb:HP.V Y3→ao×Opn:=fun v=>((cW v.1),(⟨v.2.1.1,v.2.1.2.1,v.2.1.2.2.1,v.2.1.2.2.2.1,v.2.1.2.2.2.2.1⟩:Opn))
def anG:HX.V Qf→ao×Int:=fun v=>((cW v.1),v.2)
def aiR:(ao×Int)→HX.V Qf:=fun y=>(uW y.1,y.2)
def agE:(ao×Opn)→Option (ao×Int):=fun x=>mQ x.1 x.2
def X0:Spec:=aO Y3 Qf ajb aiR agE
def aqh:Cfg:={T:=kQ,spec:=[(58,Nd),(95,T4)],ba:=aE.G Tryz.prog,eqs:=kX,N:=28,fuel:=64,fid:=59}
theorem abD:aF Tryz.prog aqh:=bg lf lj ⟨O0,⟨aaD,trivial⟩⟩
theorem ar6:aN Tryz.prog 59 X0:=br Tryz.f59 abD pq (toY:=anG)
def Zd:List HV:=[.agg hW, .agg [.int .i64, .int .i64, .str, .str, .str]]
def Pj:List HV:=[.agg hW, .one (.int .i64)]
def aoX:HP.V Zd→ao×Opn:=fun v=>((cW v.1),(⟨v.2.1.1,v.2.1.2.1,v.2.1.2.2.1,v.2.1.2.2.2.1,v.2.1.2.2.2.2.1⟩:Opn))
def aom:HX.V Pj→ao×Int:=fun v=>((cW v.1),v.2)
def asA:(ao×Int)→HX.V Pj:=fun y=>(uW y.1,y.2)
def ad1:(ao×Opn)→Option (ao×Int):=fun x=>lL x.1 x.2
def Vq:Spec:=aO Zd Pj aoX asA ad1
def ahT:Cfg:={T:=kQ,spec:=[(95,T4),(96,Vn),(97,YF)],ba:=aE.G Tryz.prog,eqs:=kX,N:=73,fuel:=64,fid:=60}
theorem abH:aF Tryz.prog ahT:=bg lf lj ⟨aaD,⟨arj,⟨aqZ,trivial⟩⟩⟩
theorem av7:aN Tryz.prog 60 Vq:=br Tryz.f60 abH pq (toY:=aom)
def ZG:List HV:=[.agg hW, .agg [.int .i64, .int .i64, .str, .str, .str]]
def PG:List HV:=[.agg hW, .one (.int .i64)]
def ahE:HP.V ZG→ao×Opn:=fun v=>((cW v.1),(⟨v.2.1.1,v.2.1.2.1,v.2.1.2.2.1,v.2.1.2.2.2.1,v.2.1.2.2.2.2.1⟩:Opn))
def arx:HX.V PG→ao×Int:=fun v=>((cW v.1),v.2)
def atW:(ao×Int)→HX.V PG:=fun y=>(uW y.1,y.2)
def al4:(ao×Opn)→Option (ao×Int):=fun x=>kI x.1 x.2
def UT:Spec:=aO ZG PG ahE atW al4
def agO:Cfg:={T:=kQ,spec:=[(58,Nd)],ba:=aE.G Tryz.prog,eqs:=kX,N:=14,fuel:=64,fid:=61}
theorem amp:aF Tryz.prog agO:=bg lf lj ⟨O0,trivial⟩
theorem asn:aN Tryz.prog 61 UT:=br Tryz.f61 amp pq (toY:=arx)
def YH:List HV:=[.agg hW, .agg [.int .i64, .int .i64, .str, .str, .str]]
def Tn:List HV:=[.agg hW, .one (.int .i64)]
def avD:HP.V YH→ao×Opn:=fun v=>((cW v.1),(⟨v.2.1.1,v.2.1.2.1,v.2.1.2.2.1,v.2.1.2.2.2.1,v.2.1.2.2.2.2.1⟩:Opn))
def aiz:HX.V Tn→ao×Int:=fun v=>((cW v.1),v.2)
def auZ:(ao×Int)→HX.V Tn:=fun y=>(uW y.1,y.2)
def atY:(ao×Opn)→Option (ao×Int):=fun x=>nf x.1 x.2
def U5:Spec:=aO YH Tn avD auZ atY
def ace:Cfg:={T:=kQ,spec:=[(93,Jd),(98,BF),(99,DQ)],ba:=aE.G Tryz.prog,eqs:=kX,N:=48,fuel:=64,fid:=62}
theorem aio:aF Tryz.prog ace:=bg lf lj ⟨NQ,⟨Dc,⟨HQ,trivial⟩⟩⟩
theorem ab_:aN Tryz.prog 62 U5:=br Tryz.f62 aio pq (toY:=aiz)
def abn:List HV:=[.agg hW, .agg [.int .i64, .int .i64, .str, .str, .str]]
def RJ:List HV:=[.agg hW, .one (.int .i64)]
def alu:HP.V abn→ao×Opn:=fun v=>((cW v.1),(⟨v.2.1.1,v.2.1.2.1,v.2.1.2.2.1,v.2.1.2.2.2.1,v.2.1.2.2.2.2.1⟩:Opn))
def ar1:HX.V RJ→ao×Int:=fun v=>((cW v.1),v.2)
def ae0:(ao×Int)→HX.V RJ:=fun y=>(uW y.1,y.2)
def asw:(ao×Opn)→Option (ao×Int):=fun x=>oi x.1 x.2
def US:Spec:=aO abn RJ alu ae0 asw
def arp:Cfg:={T:=kQ,spec:=[(93,Jd),(98,BF),(100,WT)],ba:=aE.G Tryz.prog,eqs:=kX,N:=41,fuel:=64,fid:=63}
theorem al6:aF Tryz.prog arp:=bg lf lj ⟨NQ,⟨Dc,⟨agc,trivial⟩⟩⟩
theorem aqf:aN Tryz.prog 63 US:=br Tryz.f63 al6 pq (toY:=ar1)
def UY:List HV:=[.agg hW, .agg [.int .i64, .int .i64, .str, .str, .str]]
def OX:List HV:=[.agg hW, .one (.int .i64)]
def afc:HP.V UY→ao×Opn:=fun v=>((cW v.1),(⟨v.2.1.1,v.2.1.2.1,v.2.1.2.2.1,v.2.1.2.2.2.1,v.2.1.2.2.2.2.1⟩:Opn))
def ar5:HX.V OX→ao×Int:=fun v=>((cW v.1),v.2)
def afz:(ao×Int)→HX.V OX:=fun y=>(uW y.1,y.2)
def an5:(ao×Opn)→Option (ao×Int):=fun x=>kH x.1 x.2
def ZO:Spec:=aO UY OX afc afz an5
def Xi:Cfg:={T:=kQ,spec:=[(67,Za),(98,BF)],ba:=aE.G Tryz.prog,eqs:=kX,N:=13,fuel:=64,fid:=66}
theorem apY:aF Tryz.prog Xi:=bg lf lj ⟨ant,⟨Dc,trivial⟩⟩
def afD {R:Type}:Inl R:= .mk 66 Xi [] agD Tryz.f66.results.toList []
def ZH {R:Type}:List (Nat×Hd R):= []
def Rk {R:Type}:List (Nat×Inl R):=[(32,afD)]
def Uf:Cfg:={T:=kQ,spec:=[(98,BF)],ba:=aE.G Tryz.prog,eqs:=kX,N:=35,fuel:=64,fid:=65}
theorem agA:aF Tryz.prog Uf:=bg lf lj ⟨Dc,trivial⟩
theorem anT {R:Type}:aQ Tryz.prog (R:=R) 1 Rk:=bM Tryz.f66 apY (aC _ _)
theorem akH {R:Type}:aK (R:=R) (hnd 1 Rk) Uf ZH Nv:=aB (l:= []) (by kernel_rfl) (trivial)
def asM {R:Type}:Inl R:= .mk 65 Uf ZH Nv Tryz.f65.results.toList Rk
def adH {R:Type}:List (Nat×Hd R):= []
def aaz {R:Type}:List (Nat×Inl R):=[(10,asM)]
def Z8:Cfg:={T:=kQ,ba:=aE.G Tryz.prog,eqs:=kX,N:=13,fuel:=64,fid:=64}
theorem aeV:aF Tryz.prog Z8:=bg lf lj trivial
theorem aq6 {R:Type}:aQ Tryz.prog (R:=R) 2 aaz:=bT Tryz.f65 agA akH (bC (by kernel_rfl)) anT (aC _ _)
theorem akV {R:Type}:aK (R:=R) (hnd 2 aaz) Z8 adH aok:=aB (l:= []) (by kernel_rfl) (trivial)
theorem at0:aN Tryz.prog 64 ZO:=bu Tryz.f64 aeV pq (d:=2) aq6 akV (bC (by kernel_rfl)) (toY:=ar5)
def E7:HS:=⟨[(0, .one (.sl .kept)),(1, .one (.clo 4)),(7, .one (.int .i64)),(8, .one (.int .i64)),(2000002, .one (.ptr 0 0)),(2000003, .one (.ptr 1 0)),(2000004, .one (.ptr 2 0)),(2000006, .one (.ptr 3 0))],[(0, .cells hW),(1, .cells [.int .i64, .str, .int .i64]),(2, .cells hW),(3, .cells hIn),(4, .clo 110 [] [.ptr 3 0])],5⟩
def MW {R:Type}:Nat→HS.V E7→(Ex→St→Option R)→Option R:=fun q v K=>
 db v.1.1 v.1.2.2.1 (cIn v.2.2.2.2.1) (fun y10=>K .ret {az:=[(4, .v (.one (.int .i64 y10))),(2000002, .v (.one (.ptr 0 0))),(2000003, .v (.one (.ptr 1 0))),(2000004, .v (.one (.ptr 2 0))),(2000006, .v (.one (.ptr 3 0)))],mem:=[(0, .cells [.int .i64 ((cW v.2.1).fs.aA), .int .i64 ((cW v.2.1).fs.aH), .int .i64 ((cW v.2.1).fs.next), .sl .aS ((cW v.2.1).fs.aa), .sl .kept ((cW v.2.1).aq.kept), .sl .aS ((cW v.2.1).aq.aV)]),(1, .cells [.int .i64 ((⟨v.2.2.1.1,v.2.2.1.2.1,v.2.2.1.2.2.1⟩:ar).dir), .str ((⟨v.2.2.1.1,v.2.2.1.2.1,v.2.2.1.2.2.1⟩:ar).name), .int .i64 ((⟨v.2.2.1.1,v.2.2.1.2.1,v.2.2.1.2.2.1⟩:ar).ino)]),(2, .cells [.int .i64 ((cW v.2.2.2.1).fs.aA), .int .i64 ((cW v.2.2.2.1).fs.aH), .int .i64 ((cW v.2.2.2.1).fs.next), .sl .aS ((cW v.2.2.2.1).fs.aa), .sl .kept ((cW v.2.2.2.1).aq.kept), .sl .aS ((cW v.2.2.2.1).aq.aV)]),(3, .cells (rIn (cIn v.2.2.2.2.1)))],nx:=4}) (K (.exit 0) {az:=[(2000002, .v (.one (.ptr 0 0))),(2000003, .v (.one (.ptr 1 0))),(2000004, .v (.one (.ptr 2 0))),(2000006, .v (.one (.ptr 3 0)))],mem:=[(0, .cells [.int .i64 ((cW v.2.1).fs.aA), .int .i64 ((cW v.2.1).fs.aH), .int .i64 ((cW v.2.1).fs.next), .sl .aS ((cW v.2.1).fs.aa), .sl .kept ((cW v.2.1).aq.kept), .sl .aS ((cW v.2.1).aq.aV)]),(1, .cells [.int .i64 ((⟨v.2.2.1.1,v.2.2.1.2.1,v.2.2.1.2.2.1⟩:ar).dir), .str ((⟨v.2.2.1.1,v.2.2.1.2.1,v.2.2.1.2.2.1⟩:ar).name), .int .i64 ((⟨v.2.2.1.1,v.2.2.1.2.1,v.2.2.1.2.2.1⟩:ar).ino)]),(2, .cells [.int .i64 ((cW v.2.2.2.1).fs.aA), .int .i64 ((cW v.2.2.2.1).fs.aH), .int .i64 ((cW v.2.2.2.1).fs.next), .sl .aS ((cW v.2.2.2.1).fs.aa), .sl .kept ((cW v.2.2.2.1).aq.kept), .sl .aS ((cW v.2.2.2.1).aq.aV)]),(3, .cells (rIn (cIn v.2.2.2.2.1)))],nx:=4}) q v.1.2.2.2.1
def aa8:List HV:=[.agg hW, .agg [.int .i64, .str, .int .i64]]
def TG:List HV:=[.agg hW, .one (.int .i64)]
def apW:HP.V aa8→ao×ar:=fun v=>((cW v.1),(⟨v.2.1.1,v.2.1.2.1,v.2.1.2.2.1⟩:ar))
def abU:HX.V TG→ao×Int:=fun v=>((cW v.1),v.2)
def acz:(ao×Int)→HX.V TG:=fun y=>(uW y.1,y.2)
def aiW:(ao×ar)→Option (ao×Int):=fun x=>na x.1 x.2
def U8:Spec:=aO aa8 TG apW acz aiW
def Zm:Cfg:={T:=kQ,spec:=[(102,mH),(103,B6)],ba:=aE.G Tryz.prog,eqs:=kX,N:=9,fuel:=64,fid:=110}
theorem agm:aF Tryz.prog Zm:=bg lf lj ⟨nj,⟨Fu,trivial⟩⟩
def avE {R:Type}:Inl R:= .mk 110 Zm [] amo Tryz.f110.results.toList []
def QH {R:Type}:List (Nat×Hd R):=[(2,bQ E7 MW)]
def N8 {R:Type}:List (Nat×Inl R):=[(16,avE)]
def NU:Cfg:={T:=kQ,spec:=[(102,mH),(103,B6)],ba:=aE.G Tryz.prog,eqs:=kX,N:=19,fuel:=64,loops:=[(2,⟨[0,1,7,8,2000002,2000003,2000004,2000006], [],[0,1,2,3,4],5, [],[2], [], []⟩)],blocks:=[(0,⟨[2000002,2000003,2000004,2000006], [],[0,1,2,3],4, [], [], [], []⟩)],gS:=some ⟨[4,2000002,2000003,2000004,2000006], [],[0,1,2,3],4, [], [], [], []⟩,fid:=141}
theorem ah1:aF Tryz.prog NU:=bg lf lj ⟨nj,⟨Fu,trivial⟩⟩
theorem aeY {R:Type}:aQ Tryz.prog (R:=R) 1 N8:=bM Tryz.f110 agm (aC _ _)
theorem aga {R:Type}:bL (R:=R) (hnd 1 N8) NU QH (sub [1,0,1,0,0] J3) (HS.V E7) (HS.st E7) (HS.sh E7) MW (bQ E7 MW):=aX E7 MW (fun _ _=>rfl) (by intro q v K;kernel_rfl)
theorem atI {R:Type}:aK (R:=R) (hnd 1 N8) NU QH J3:=aB (l:=[sub [1,0,1,0,0] J3]) (by kernel_rfl) (aM (b:=sub [1,0,1,0,0] J3) (rid:=2) (by kernel_rfl) (by kernel_rfl) aga (trivial))
def avw {R:Type}:Inl R:= .mk 141 NU QH J3 Tryz.f141.results.toList N8
def VL {R:Type}:List (Nat×Hd R):= []
def Tj {R:Type}:List (Nat×Inl R):=[(7,avw)]
def Ue:Cfg:={T:=kQ,spec:=[(102,mH),(103,B6)],ba:=aE.G Tryz.prog,eqs:=kX,N:=9,fuel:=64,fid:=109}
theorem aiZ:aF Tryz.prog Ue:=bg lf lj ⟨nj,⟨Fu,trivial⟩⟩
theorem aoU {R:Type}:aQ Tryz.prog (R:=R) 2 Tj:=bT Tryz.f141 ah1 atI (bC (by kernel_rfl)) aeY (aC _ _)
theorem auD {R:Type}:aK (R:=R) (hnd 2 Tj) Ue VL Xg:=aB (l:= []) (by kernel_rfl) (trivial)
def afb {R:Type}:Inl R:= .mk 109 Ue VL Xg Tryz.f109.results.toList Tj
def aeB {R:Type}:List (Nat×Hd R):= []
def YI {R:Type}:List (Nat×Inl R):=[(21,afb)]
def YX:Cfg:={T:=kQ,spec:=[(102,mH),(103,B6)],ba:=aE.G Tryz.prog,eqs:=kX,N:=35,fuel:=64,fid:=70}
theorem adj:aF Tryz.prog YX:=bg lf lj ⟨nj,⟨Fu,trivial⟩⟩
theorem akP {R:Type}:aQ Tryz.prog (R:=R) 3 YI:=bT Tryz.f109 aiZ auD (bC (by kernel_rfl)) aoU (aC _ _)
theorem amv {R:Type}:aK (R:=R) (hnd 3 YI) YX aeB ajQ:=aB (l:= []) (by kernel_rfl) (trivial)
theorem aca:aN Tryz.prog 70 U8:=bu Tryz.f70 adj pq (d:=3) akP amv (bC (by kernel_rfl)) (toY:=abU)
def Yg:List HV:=[.agg hW, .agg [.int .i64, .int .i64, .str, .str, .str]]
def Qz:List HV:=[.agg hW, .one (.int .i64)]
def adC:HP.V Yg→ao×Opn:=fun v=>((cW v.1),(⟨v.2.1.1,v.2.1.2.1,v.2.1.2.2.1,v.2.1.2.2.2.1,v.2.1.2.2.2.2.1⟩:Opn))
def ajq:HX.V Qz→ao×Int:=fun v=>((cW v.1),v.2)
def avy:(ao×Int)→HX.V Qz:=fun y=>(uW y.1,y.2)
def akQ:(ao×Opn)→Option (ao×Int):=fun x=>kE x.1 x.2
def Va:Spec:=aO Yg Qz adC avy akQ
def Uy:Cfg:={T:=kQ,spec:=[(70,U8),(98,BF)],ba:=aE.G Tryz.prog,eqs:=kX,N:=10,fuel:=64,fid:=69}
theorem aqy:aF Tryz.prog Uy:=bg lf lj ⟨aca,⟨Dc,trivial⟩⟩
def anX {R:Type}:Inl R:= .mk 69 Uy [] akO Tryz.f69.results.toList []
def ZB {R:Type}:List (Nat×Hd R):= []
def OM {R:Type}:List (Nat×Inl R):=[(32,anX)]
def RN:Cfg:={T:=kQ,spec:=[(98,BF)],ba:=aE.G Tryz.prog,eqs:=kX,N:=35,fuel:=64,fid:=65}
theorem au9:aF Tryz.prog RN:=bg lf lj ⟨Dc,trivial⟩
theorem auE {R:Type}:aQ Tryz.prog (R:=R) 1 OM:=bM Tryz.f69 aqy (aC _ _)
theorem afe {R:Type}:aK (R:=R) (hnd 1 OM) RN ZB Nv:=aB (l:= []) (by kernel_rfl) (trivial)
def akK {R:Type}:Inl R:= .mk 65 RN ZB Nv Tryz.f65.results.toList OM
def api {R:Type}:List (Nat×Hd R):= []
def U2 {R:Type}:List (Nat×Inl R):=[(10,akK)]
def WD:Cfg:={T:=kQ,ba:=aE.G Tryz.prog,eqs:=kX,N:=13,fuel:=64,fid:=68}
theorem arI:aF Tryz.prog WD:=bg lf lj trivial
theorem abK {R:Type}:aQ Tryz.prog (R:=R) 2 U2:=bT Tryz.f65 au9 afe (bC (by kernel_rfl)) auE (aC _ _)
theorem apN {R:Type}:aK (R:=R) (hnd 2 U2) WD api ahf:=aB (l:= []) (by kernel_rfl) (trivial)
theorem ae5:aN Tryz.prog 68 Va:=bu Tryz.f68 arI pq (d:=2) abK apN (bC (by kernel_rfl)) (toY:=ajq)
def Vj:List HV:=[.agg hW, .agg [.int .i64, .int .i64, .str, .str, .str]]
def Te:List HV:=[.agg hW, .one (.int .i64)]
def au2:HP.V Vj→ao×Opn:=fun v=>((cW v.1),(⟨v.2.1.1,v.2.1.2.1,v.2.1.2.2.1,v.2.1.2.2.2.1,v.2.1.2.2.2.2.1⟩:Opn))
def abW:HX.V Te→ao×Int:=fun v=>((cW v.1),v.2)
def acA:(ao×Int)→HX.V Te:=fun y=>(uW y.1,y.2)
def ac9:(ao×Opn)→Option (ao×Int):=fun x=>ky x.1 x.2
def UA:Spec:=aO Vj Te au2 acA ac9
def anf:Cfg:={T:=kQ,spec:=[(93,Jd),(111,XL)],ba:=aE.G Tryz.prog,eqs:=kX,N:=27,fuel:=64,fid:=71}
theorem anP:aF Tryz.prog anf:=bg lf lj ⟨NQ,⟨aeH,trivial⟩⟩
theorem arc:aN Tryz.prog 71 UA:=br Tryz.f71 anP pq (toY:=abW)
def Y_:List HV:=[.agg hW, .agg [.int .i64, .int .i64, .str, .str, .str]]
def Qg:List HV:=[.agg hW, .one (.int .i64)]
def aqJ:HP.V Y_→ao×Opn:=fun v=>((cW v.1),(⟨v.2.1.1,v.2.1.2.1,v.2.1.2.2.1,v.2.1.2.2.2.1,v.2.1.2.2.2.2.1⟩:Opn))
def ajo:HX.V Qg→ao×Int:=fun v=>((cW v.1),v.2)
def ap5:(ao×Int)→HX.V Qg:=fun y=>(uW y.1,y.2)
def avH:(ao×Opn)→Option (ao×Int):=fun x=>kD x.1 x.2
def Z4:Spec:=aO Y_ Qg aqJ ap5 avH
def auQ:Cfg:={T:=kQ,spec:=[(98,BF),(101,xZ),(112,Wf)],ba:=aE.G Tryz.prog,eqs:=kX,N:=54,fuel:=64,fid:=72}
theorem aid:aF Tryz.prog auQ:=bg lf lj ⟨Dc,⟨za,⟨ahu,trivial⟩⟩⟩
theorem akR:aN Tryz.prog 72 Z4:=br Tryz.f72 aid pq (toY:=ajo)
def XK:List (Int×Nat×Nat):=[((1:Int),57,0),((2:Int),59,1),((3:Int),60,2),((4:Int),61,3),((5:Int),62,4),((6:Int),63,5),((7:Int),64,6),((8:Int),68,7),((9:Int),71,8),((10:Int),72,9)]
def Wc {R:Type}:List (Nat×Hd R):= []
def QO {R:Type}:List (Nat×Inl R):= []
def Mn:Cfg:={T:=kQ,ba:=aE.G Tryz.prog,eqs:=kX,N:=3,fuel:=64,fid:=23}
theorem arb:aF Tryz.prog Mn:=bg lf lj trivial
theorem agW {R:Type}:aQ Tryz.prog (R:=R) 0 QO:=aC _ _
theorem agv {R:Type}:aK (R:=R) (hnd 0 QO) Mn Wc SD:=aB (l:= []) (by kernel_rfl) (trivial)
theorem aho:ff Tryz.prog Mn SD:=bC (by kernel_rfl)
def Uz:kM:=m8 [] (fun _=>()) IV (fun _:Unit=>some (XK,10))
theorem acj:∀v,Ah (hnd 0 QO) Mn Wc SD Tryz.f23.results.toList (HP.st [] v) DO=(fun _:Unit=>some (XK,10)) ():=by intro v;kernel_rfl
theorem asi:mZ Tryz.prog 23 Uz:=sn (fn:=Tryz.f23) (by kernel_rfl) (by kernel_rfl) (by kernel_rfl) arb (by kernel_rfl) (by kernel_rfl) pq (by kernel_rfl) Hj (d:=0) agW agv aho acj
def Zs:List HV:=[.agg hW, .agg [.int .i64, .int .i64, .str, .str, .str]]
def TM:List HV:=[.agg hW, .one (.int .i64)]
def auJ:HP.V Zs→ao×Opn:=fun v=>((cW v.1),(⟨v.2.1.1,v.2.1.2.1,v.2.1.2.2.1,v.2.1.2.2.2.1,v.2.1.2.2.2.2.1⟩:Opn))
def af8:HX.V TM→ao×Int:=fun v=>((cW v.1),v.2)
def ahD:(ao×Int)→HX.V TM:=fun y=>(uW y.1,y.2)
def aqk:(ao×Opn)→Option (ao×Int):=fun x=>gm x.1 x.2
def Ih:Spec:=aO Zs TM auJ ahD aqk
def ap1:Cfg:={T:=kQ,spec:=[(22,YS),(57,Wi),(59,X0),(60,Vq),(61,UT),(62,U5),(63,US),(64,ZO),(68,Va),(71,UA),(72,Z4)],ba:=aE.G Tryz.prog,eqs:=kX,N:=19,fuel:=64,fid:=10,fresh:=[(23,Uz)]}
theorem agP:aF Tryz.prog ap1:=bg lf lj ⟨adg,⟨ac4,⟨ar6,⟨av7,⟨asn,⟨ab_,⟨aqf,⟨at0,⟨ae5,⟨arc,⟨akR,trivial⟩⟩⟩⟩⟩⟩⟩⟩⟩⟩⟩ (fr:=⟨asi,trivial⟩)
theorem Jl:aN Tryz.prog 10 Ih:=br Tryz.f10 agP pq (toY:=af8)
def aaH:List HV:=[.agg [.int .i64, .int .i64, .str, .str, .str]]
def Ra:List HV:=[.agg [.int .i64, .int .i64, .str, .str, .str], .one (.bool)]
def av9:HP.V aaH→Opn:=fun v=>((⟨v.1.1,v.1.2.1,v.1.2.2.1,v.1.2.2.2.1,v.1.2.2.2.2.1⟩:Opn))
def aub:HX.V Ra→Opn×Bool:=fun v=>((⟨v.1.1,v.1.2.1,v.1.2.2.1,v.1.2.2.2.1,v.1.2.2.2.2.1⟩:Opn),v.2)
def adb:(Opn×Bool)→HX.V Ra:=fun y=>((y.1.kind,(y.1.slot,(y.1.a,(y.1.b,(y.1.data,()))))),y.2)
def anE:Opn→Option (Opn×Bool):=fun x=>fp x
def MO:Spec:=aO aaH Ra av9 adb anE
def akC:Cfg:={T:=kQ,ba:=aE.G Tryz.prog,eqs:=kX,N:=40,fuel:=64,fid:=14}
theorem auv:aF Tryz.prog akC:=bg lf lj trivial
theorem Si:aN Tryz.prog 14 MO:=br Tryz.f14 auv pq (toY:=aub)
end
end Go.Eng
namespace Go.Eng
noncomputable section
open Go Go.Proofs
def Bu:List (Nat×TI):=[(3,⟨false,1, .one (.int .i64 0), .int .i64⟩),(4,⟨false,1, .one (.bool false), .bool⟩),(9,⟨false,1, .one (.str []), .str⟩),(22,⟨false,1, .one (.clip .aS []), .slice .aS 55⟩),(24,⟨true,4, .agg [.int .i64 0, .int .i64 0, .int .i64 0, .clip .aS []], .struct [(0,3),(1,3),(2,3),(3,22)]⟩),(25,⟨false,1, .one (.clip .kept []), .slice .kept 66⟩),(27,⟨true,2, .agg [.clip .kept [], .clip .aS []], .struct [(0,25),(1,22)]⟩),(29,⟨true,6, .agg [.int .i64 0, .int .i64 0, .int .i64 0, .clip .aS [], .clip .kept [], .clip .aS []], .struct [(0,24),(4,27)]⟩),(31,⟨true,5, .agg [.int .i64 0, .int .i64 0, .str [], .str [], .str []], .struct [(0,3),(1,3),(2,9),(3,9),(4,9)]⟩),(34,⟨false,1, .one (.clip .opn []), .slice .opn 31⟩),(53,⟨false,1, .one (.clip .entry []), .slice .entry 85⟩),(55,⟨true,6, .agg [.int .i64 0, .int .i64 0, .int .i64 0, .str [], .int .i64 0, .clip .entry []], .struct [(0,3),(1,3),(2,3),(3,9),(4,3),(5,53)]⟩),(66,⟨true,4, .agg [.int .i64 0, .int .i64 0, .bool false, .str []], .struct [(0,3),(1,3),(2,4),(3,9)]⟩),(85,⟨true,2, .agg [.str [], .int .i64 0], .struct [(0,9),(1,3)]⟩)]
def AA:List (Nat×List EK):=[(31,[.i, .i, .s, .s, .s])]
theorem Co:Tryz.prog.follows .mixedOrders=true:=by kernel_rfl
theorem Dr:(Bu.all fun x=>tiB Tryz.prog x.1 x.2)=true:=by kernel_rfl
theorem B0:(AA.all fun x=>eqB Tryz.prog x.1 x.2)=true:=by kernel_rfl
def LD:Code:=bd Tryz.f6
def Vw:List HV:= []
def Sb:List HV:=[.agg hW]
def aqo:HP.V Vw→Unit:=fun v=>()
def ahW:HX.V Sb→ao:=fun v=>((cW v))
def ajI:ao→HX.V Sb:=fun y=>(uW y)
def afR:Unit→Option (ao):=fun x=>mO
def Vm:Spec:=aO Vw Sb aqo ajI afR
def apG:Cfg:={T:=Bu,spec:=[(51,aa_),(52,zg)],ba:=aE.G Tryz.prog,eqs:=AA,N:=17,fuel:=64,fid:=20}
theorem aiP:aF Tryz.prog apG:=bg Dr B0 ⟨alS,⟨BO,trivial⟩⟩
theorem avq:aN Tryz.prog 20 Vm:=br Tryz.f20 aiP Co (toY:=ahW)
def YB:List HV:= []
def P1:List HV:=[.one (.bool)]
def aiK:HP.V YB→Unit:=fun v=>()
def akf:HX.V P1→Bool:=fun v=>(v)
def arL:Bool→HX.V P1:=fun y=>(y)
def anA:Unit→Option (Bool):=fun x=>cC
def HI:Spec:=aO YB P1 aiK arL anA
def aeL:Cfg:={T:=Bu,spec:=[(10,Ih),(12,G_),(14,MO),(20,Vm)],ba:=aE.G Tryz.prog,eqs:=AA,N:=140,fuel:=64,fid:=8}
theorem an4:aF Tryz.prog aeL:=bg Dr B0 ⟨Jl,⟨Jw,⟨Si,⟨avq,trivial⟩⟩⟩⟩
theorem J7:aN Tryz.prog 8 HI:=br Tryz.f8 an4 Co (toY:=akf)
def VB:List HV:=[.agg hW, .one (.sl .opn)]
def PO:List HV:=[.one (.bool)]
def avF:HP.V VB→ao×(List Opn):=fun v=>((cW v.1),v.2.1)
def ar2:HX.V PO→Bool:=fun v=>(v)
def ahz:Bool→HX.V PO:=fun y=>(y)
def asH:(ao×(List Opn))→Option (Bool):=fun x=>jf x.1 x.2
def JW:Spec:=aO VB PO avF ahz asH
def afT:Cfg:={T:=Bu,spec:=[(13,SZ),(21,X2)],ba:=aE.G Tryz.prog,eqs:=AA,N:=17,fuel:=64,fid:=9}
theorem asl:aF Tryz.prog afT:=bg Dr B0 ⟨Zj,⟨ahJ,trivial⟩⟩
theorem NI:aN Tryz.prog 9 JW:=br Tryz.f9 asl Co (toY:=ar2)
def Kn:List HV:=[.agg hW, .agg [.int .i64, .int .i64, .str, .str, .str]]
def Tw:List HV:=[.one (.bool)]
def Qc:HP.V Kn→ao×Opn:=fun v=>((cW v.1),(⟨v.2.1.1,v.2.1.2.1,v.2.1.2.2.1,v.2.1.2.2.2.1,v.2.1.2.2.2.2.1⟩:Opn))
def anj:HX.V Tw→Bool:=fun v=>(v)
def Zx:Bool→HX.V Tw:=fun y=>(y)
def Q_:(ao×Opn)→Option (Bool):=fun x=>ma x.1 x.2
def ao2:Spec:=aO Kn Tw Qc Zx Q_
def agJ:Cfg:={T:=Bu,spec:=[(8,HI),(9,JW),(10,Ih),(11,RP),(12,G_)],ba:=aE.G Tryz.prog,eqs:=AA,N:=39,fuel:=64,fid:=3}
theorem auk:aF Tryz.prog agJ:=bg Dr B0 ⟨J7,⟨NI,⟨Jl,⟨Ve,⟨Jw,trivial⟩⟩⟩⟩⟩
theorem alc:aN Tryz.prog 3 ao2:=br Tryz.f3 auk Co (toY:=anj)
def Ju:List HV:=[.agg [.int .i64, .int .i64, .str, .str, .str]]
def PW:List HV:=[.one (.bool)]
def RU:HP.V Ju→Opn:=fun v=>((⟨v.1.1,v.1.2.1,v.1.2.2.1,v.1.2.2.2.1,v.1.2.2.2.2.1⟩:Opn))
def aiB:HX.V PW→Bool:=fun v=>(v)
def abb:Bool→HX.V PW:=fun y=>(y)
def Q4:Opn→Option (Bool):=fun x=>jb x
def ak8:Spec:=aO Ju PW RU abb Q4
def auV:Cfg:={T:=Bu,spec:=[(8,HI),(13,SZ),(14,MO),(15,YL),(16,Na),(17,Yr)],ba:=aE.G Tryz.prog,eqs:=AA,N:=50,fuel:=64,fid:=4}
theorem afm:aF Tryz.prog auV:=bg Dr B0 ⟨J7,⟨Zj,⟨Si,⟨aq9,⟨S6,⟨ae2,trivial⟩⟩⟩⟩⟩⟩
theorem akY:aN Tryz.prog 4 ak8:=br Tryz.f4 afm Co (toY:=aiB)
def JO:List HV:=[.agg hW, .agg [.int .i64, .int .i64, .str, .str, .str]]
def Tq:List HV:=[.one (.bool)]
def QM:HP.V JO→ao×Opn:=fun v=>((cW v.1),(⟨v.2.1.1,v.2.1.2.1,v.2.1.2.2.1,v.2.1.2.2.2.1,v.2.1.2.2.2.2.1⟩:Opn))
def aq2:HX.V Tq→Bool:=fun v=>(v)
def W8:Bool→HX.V Tq:=fun y=>(y)
def QB:(ao×Opn)→Option (Bool):=fun x=>ju x.1 x.2
def af4:Spec:=aO JO Tq QM W8 QB
def alx:Cfg:={T:=Bu,spec:=[(8,HI),(9,JW),(10,Ih),(12,G_),(14,MO),(18,Lg)],ba:=aE.G Tryz.prog,eqs:=AA,N:=66,fuel:=64,fid:=5}
theorem arO:aF Tryz.prog alx:=bg Dr B0 ⟨J7,⟨NI,⟨Jl,⟨Jw,⟨Si,⟨Pr,trivial⟩⟩⟩⟩⟩⟩
theorem apb:aN Tryz.prog 5 af4:=br Tryz.f5 arO Co (toY:=aq2)
def FU:HS:=⟨[(1, .one (.sl .opn)),(2, .one (.ptr 0 0)),(5, .one (.int .i64))],[(0, .cells hW)],1⟩
def Oe {R:Type}:Nat→HS.V FU→(Ex→St→Option R)→Option R:=fun q v K=>
 du v.1.1 (K .ret {az:=[(4, .v (.one (.bool false)))],mem:= [],nx:=0}) (K (.exit 0) {az:= [],mem:= [],nx:=0}) q v.1.2.2.1 (cW v.2.1)
def IX:List HV:=[.agg hW, .one (.sl .opn)]
def Po:List HV:=[.one (.bool)]
def RR:HP.V IX→ao×(List Opn):=fun v=>((cW v.1),v.2.1)
def amZ:HX.V Po→Bool:=fun v=>(v)
def ZS:Bool→HX.V Po:=fun y=>(y)
def TZ:(ao×(List Opn))→Option (Bool):=fun x=>k_ x.1 x.2
def ass:Spec:=aO IX Po RR ZS TZ
def XI {R:Type}:List (Nat×Hd R):=[(4,bQ FU Oe)]
def PI {R:Type}:List (Nat×Inl R):= []
def QV:Cfg:={T:=Bu,spec:=[(8,HI),(9,JW),(10,Ih),(12,G_),(18,Lg),(19,TT)],ba:=aE.G Tryz.prog,eqs:=AA,N:=57,fuel:=64,loops:=[(4,⟨[1,2,5], [],[0],1, [], [], [], []⟩)],blocks:=[(0,⟨[], [], [],0, [], [], [], []⟩)],gS:=some ⟨[4], [], [],0, [], [], [], []⟩,fid:=6}
theorem arD:aF Tryz.prog QV:=bg Dr B0 ⟨J7,⟨NI,⟨Jl,⟨Jw,⟨Pr,⟨Wx,trivial⟩⟩⟩⟩⟩⟩
theorem auM {R:Type}:aQ Tryz.prog (R:=R) 0 PI:=aC _ _
theorem ag_ {R:Type}:bL (R:=R) (hnd 0 PI) QV XI (sub [1,1,0,1,0,0] LD) (HS.V FU) (HS.st FU) (HS.sh FU) Oe (bQ FU Oe):=aX FU Oe (fun _ _=>rfl) (by intro q v K;kernel_rfl)
theorem agM {R:Type}:aK (R:=R) (hnd 0 PI) QV XI LD:=aB (l:=[sub [1,1,0,1,0,0] LD]) (by kernel_rfl) (aM (b:=sub [1,1,0,1,0,0] LD) (rid:=4) (by kernel_rfl) (by kernel_rfl) ag_ (trivial))
theorem ahh:aN Tryz.prog 6 ass:=bu Tryz.f6 arD Co (d:=0) auM agM (bC (by kernel_rfl)) (toY:=amZ)
def JZ:List HV:=[.agg hW, .agg [.int .i64, .int .i64, .str, .str, .str]]
def Tl:List HV:=[.one (.bool)]
def Pq:HP.V JZ→ao×Opn:=fun v=>((cW v.1),(⟨v.2.1.1,v.2.1.2.1,v.2.1.2.2.1,v.2.1.2.2.2.1,v.2.1.2.2.2.2.1⟩:Opn))
def al3:HX.V Tl→Bool:=fun v=>(v)
def Xu:Bool→HX.V Tl:=fun y=>(y)
def Qn:(ao×Opn)→Option (Bool):=fun x=>lB x.1 x.2
def aqH:Spec:=aO JZ Tl Pq Xu Qn
def atz:Cfg:={T:=Bu,spec:=[(8,HI),(9,JW),(10,Ih),(11,RP),(12,G_)],ba:=aE.G Tryz.prog,eqs:=AA,N:=67,fuel:=64,fid:=7}
theorem ajY:aF Tryz.prog atz:=bg Dr B0 ⟨J7,⟨NI,⟨Jl,⟨Ve,⟨Jw,trivial⟩⟩⟩⟩⟩
theorem aoq:aN Tryz.prog 7 aqH:=br Tryz.f7 ajY Co (toY:=al3)
end
end Go.Eng
