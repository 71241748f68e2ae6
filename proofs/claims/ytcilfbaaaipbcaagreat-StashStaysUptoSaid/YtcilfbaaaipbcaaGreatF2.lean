/- A part of the proofs of the laws of this seat: the engine that reads the program's code, plain functions, or facts of the program's functions. Conditions: none. -/
import Derived.Test.YtcilfbaaaipbcaaGreatE4
import Derived.Test.YtcilfbaaaipbcaaGreatF1
import Derived.Test.YtcilfbaaaipbcaaGreatP2
set_option linter.unusedSectionVars false
set_option linter.unusedVariables false
set_option linter.unusedSimpArgs false
set_option linter.unnecessarySimpa false
set_option linter.unusedVariables false
set_option maxRecDepth 100000
namespace Go.Eng
noncomputable section
open Go Go.Proofs
def cy:List (Nat×TI):=[(3,⟨false,1, .one (.int .i64 0), .int .i64⟩),(4,⟨false,1, .one (.bool false), .bool⟩),(9,⟨false,1, .one (.str []), .str⟩),(22,⟨false,1, .one (.clip .aL []), .slice .aL 39⟩),(24,⟨true,4, .agg [.int .i64 0, .int .i64 0, .int .i64 0, .clip .aL []], .struct [(0,3),(1,3),(2,3),(3,22)]⟩),(25,⟨false,1, .one (.clip .kept []), .slice .kept 60⟩),(27,⟨true,2, .agg [.clip .kept [], .clip .aL []], .struct [(0,25),(1,22)]⟩),(29,⟨true,6, .agg [.int .i64 0, .int .i64 0, .int .i64 0, .clip .aL [], .clip .kept [], .clip .aL []], .struct [(0,24),(4,27)]⟩),(34,⟨true,3, .agg [.int .i64 0, .str [], .int .i64 0], .struct [(0,3),(1,9),(2,3)]⟩),(37,⟨false,1, .one (.clip .entry []), .slice .entry 90⟩),(39,⟨true,6, .agg [.int .i64 0, .int .i64 0, .int .i64 0, .str [], .int .i64 0, .clip .entry []], .struct [(0,3),(1,3),(2,3),(3,9),(4,3),(5,37)]⟩),(60,⟨true,4, .agg [.int .i64 0, .int .i64 0, .bool false, .str []], .struct [(0,3),(1,3),(2,4),(3,9)]⟩),(74,⟨false,1, .one (.kR), .other⟩),(92,⟨false,1, .one (.kR), .other⟩),(132,⟨false,1, .one (.int .u64 0), .int .u64⟩)]
def cx:List (Nat×List EK):=[(60,[.i, .i, .b, .s])]
theorem nk:Tryz.prog.follows .mixedOrders=true:=by kernel_rfl
theorem cz:(cy.all fun x=>tiB Tryz.prog x.1 x.2)=true:=by kernel_rfl
theorem cC:(cx.all fun x=>eqB Tryz.prog x.1 x.2)=true:=by kernel_rfl
def amu:Code:=bd Tryz.f11
def ai1:Code:=bd Tryz.f16
def alN:Code:=bd Tryz.f18
def ah4:Code:=bd Tryz.f30
def G_:Code:=bd Tryz.f33
def ae2:Code:=bd Tryz.f40
def U1:Code:=bd Tryz.f41
def ZC:Code:=bd Tryz.f42
def ajn:Code:=bd Tryz.f44
def Gw:Code:=bd Tryz.f52
def Wd:Code:=bd Tryz.f53
def ado:Code:=bd Tryz.f56
def ak2:Code:=bd Tryz.f70
def Vq:Code:=bd Tryz.f71
def ae0:Code:=bd Tryz.f73
def akt:Code:=bd Tryz.f74
def Wx:Code:=bd Tryz.f75
def alC:Code:=bd Tryz.f76
def ajO:Code:=bd Tryz.f77
def JN:Code:=bd Tryz.f78
def XT:Code:=bd Tryz.f79
def GV:Code:=bd Tryz.f89
def I6:Code:=bd Tryz.f90
def tf:Code:=bd Tryz.f91
def al6:Code:=bd Tryz.f94
def vT:Code:=bd Tryz.f100
def FU:Code:=bd Tryz.f102
def WW:Code:=bd Tryz.f103
def G4:Code:=bd Tryz.f108
def Jb:Code:=bd Tryz.f109
def GY:Code:=bd Tryz.f111
def Wz:Code:=bd Tryz.f112
def Aj:Code:=bd Tryz.f113
def VF:Code:=bd Tryz.f114
def Fx:Code:=bd Tryz.f115
def UF:Code:=bd Tryz.f116
def zm:Code:=bd Tryz.f117
def VK:Code:=bd Tryz.f118
def adQ:Code:=bd Tryz.f119
def V_:Code:=bd Tryz.f120
def qd:Code:=bd Tryz.f121
def tc:Code:=bd Tryz.f128
def UB:Code:=bd Tryz.f140
def Iq:Code:=bd Tryz.f154
def CT:HS:=⟨[(0, .one (.sl .kept)),(1, .one (.sl .kept)),(12, .one (.int .i64)),(13, .one (.int .i64)),(1000002, .one (.ptr 0 0)),(1000003, .one (.ptr 1 0)),(1000010, .one (.bool))],[(0, .cells hW),(1, .cells hW)],2⟩
def Lx {R:Type}:Nat→HS.V CT→(Ex→St→Option R)→Option R:=fun q v K=>
 ek v.1.1 v.1.2.1 v.1.2.2.1 (K .ret {az:=[(4, .v (.one (.bool false))),(1000002, .v (.one (.ptr 0 0))),(1000003, .v (.one (.ptr 1 0))),(1000010, .v (.one (.bool v.1.2.2.2.2.2.2.1)))],mem:=[(0, .cells [.int .i64 ((cW v.2.1).fs.ar), .int .i64 ((cW v.2.1).fs.aw), .int .i64 ((cW v.2.1).fs.next), .sl .aL ((cW v.2.1).fs.aa), .sl .kept ((cW v.2.1).al.kept), .sl .aL ((cW v.2.1).al.aI)]),(1, .cells [.int .i64 ((cW v.2.2.1).fs.ar), .int .i64 ((cW v.2.2.1).fs.aw), .int .i64 ((cW v.2.2.1).fs.next), .sl .aL ((cW v.2.2.1).fs.aa), .sl .kept ((cW v.2.2.1).al.kept), .sl .aL ((cW v.2.2.1).al.aI)])],nx:=2}) (K (.exit 0) {az:=[(1000002, .v (.one (.ptr 0 0))),(1000003, .v (.one (.ptr 1 0))),(1000010, .v (.one (.bool v.1.2.2.2.2.2.2.1)))],mem:=[(0, .cells [.int .i64 ((cW v.2.1).fs.ar), .int .i64 ((cW v.2.1).fs.aw), .int .i64 ((cW v.2.1).fs.next), .sl .aL ((cW v.2.1).fs.aa), .sl .kept ((cW v.2.1).al.kept), .sl .aL ((cW v.2.1).al.aI)]),(1, .cells [.int .i64 ((cW v.2.2.1).fs.ar), .int .i64 ((cW v.2.2.1).fs.aw), .int .i64 ((cW v.2.2.1).fs.next), .sl .aL ((cW v.2.2.1).fs.aa), .sl .kept ((cW v.2.2.1).al.kept), .sl .aL ((cW v.2.2.1).al.aI)])],nx:=2}) q v.1.2.2.2.1
def Su:List HV:=[.agg hW, .agg hW]
def Qx:List HV:=[.one (.bool)]
def adX:HP.V Su→ao×ao:=fun v=>((cW v.1),(cW v.2.1))
def acq:HX.V Qx→Bool:=fun v=>(v)
def ZS:Bool→HX.V Qx:=fun y=>(y)
def aic:(ao×ao)→Option (Bool):=fun x=>fD x.1 x.2
def Mq:Spec:=aT Su Qx adX ZS aic
def Ps {R:Type}:List (Nat×Hd R):=[(4,bC CT Lx)]
def Iy {R:Type}:List (Nat×Inl R):= []
def KD:Cfg:={T:=cy,spec:=[(32,Oa)],aX:=aE.G Tryz.prog,eqs:=cx,N:=26,fuel:=64,loops:=[(4,⟨[0,1,12,13,1000002,1000003,1000010], [],[0,1],2, [], [], [], []⟩)],blocks:=[(0,⟨[1000002,1000003,1000010], [],[0,1],2, [], [], [], []⟩)],eX:=some ⟨[4,1000002,1000003,1000010], [],[0,1],2, [], [], [], []⟩,fid:=33}
theorem aj5:aF Tryz.prog KD:=aZ cz cC ⟨Rn,trivial⟩
theorem anw {R:Type}:aO Tryz.prog (R:=R) 0 Iy:=aA _ _
theorem aiB {R:Type}:bA (R:=R) (hnd 0 Iy) KD Ps (sub [1,1,0,1,0,0] G_) (HS.V CT) (HS.st CT) (HS.sh CT) Lx (bC CT Lx):=aM CT Lx (fun _ _=>rfl) (by intro q v K;kernel_rfl)
theorem ahm {R:Type}:aJ (R:=R) (hnd 0 Iy) KD Ps G_:=aB (l:=[sub [1,1,0,1,0,0] G_]) (by kernel_rfl) (aH (b:=sub [1,1,0,1,0,0] G_) (rid:=4) (by kernel_rfl) (by kernel_rfl) aiB (trivial))
def abR {R:Type}:Inl R:= .mk 33 KD Ps G_ Tryz.f33.results.toList Iy
def agL {R:Type}:List (Nat×Hd R):= []
def WK {R:Type}:List (Nat×Inl R):=[(17,abR)]
def Ux:Cfg:={T:=cy,spec:=[(32,Oa)],aX:=aE.G Tryz.prog,eqs:=cx,N:=30,fuel:=64,fid:=11}
theorem ac8:aF Tryz.prog Ux:=aZ cz cC ⟨Rn,trivial⟩
theorem acz {R:Type}:aO Tryz.prog (R:=R) 1 WK:=bE Tryz.f33 aj5 ahm (bw (by kernel_rfl)) anw (aA _ _)
theorem akR {R:Type}:aJ (R:=R) (hnd 1 WK) Ux agL amu:=aB (l:= []) (by kernel_rfl) (trivial)
theorem UC:aS Tryz.prog 11 Mq:=bl Tryz.f11 ac8 nk (d:=1) acz akR (bw (by kernel_rfl)) (toY:=acq)
def CX:HS:=⟨[(0, .one (.sl .kept)),(1, .one (.int .i64)),(2, .one (.clo 1)),(8, .one (.int .i64)),(9, .one (.int .i64)),(10, .one (.int .i64))],[(0, .cells [.fnc 71]),(1, .clo 109 [] [.ptr 0 0])],2⟩
def JD {R:Type}:Nat→HS.V CX→(Ex→St→Option R)→Option R:=fun q v K=>
 b4 v.1.1 v.1.2.1 (fun y10=>K (.exit 0) {az:=[(0, .v (.one (.sl .kept v.1.1))),(1, .v (.one (.int .i64 v.1.2.1))),(2, .v (.one (.clo 1))),(8, .v (.one (.int .i64 v.1.2.2.2.1))),(9, .v (.one (.int .i64 y10)))],mem:=[(0, .cells [.fnc 71]),(1, .clo 109 [] [.ptr 0 0])],nx:=2}) q v.1.2.2.2.2.1 v.1.2.2.2.2.2.1
def RH:List HV:=[.one (.sl .kept), .one (.int .i64), .one (.fnc 71)]
def NU:List HV:=[.one (.int .i64), .one (.bool)]
def afr:HP.V RH→(List Kept)×Int:=fun v=>(v.1,v.2.1)
def agT:HX.V NU→Int×Bool:=fun v=>(v.1,v.2)
def amg:(Int×Bool)→HX.V NU:=fun y=>(y.1,y.2)
def ahs:(List Kept)×Int→Option (Int×Bool):=fun x=>ie x.1 x.2
def LS:Spec:=aT RH NU afr amg ahs
def UL:Cfg:={T:=cy,aX:=aE.G Tryz.prog,eqs:=cx,N:=5,fuel:=64,fid:=71}
theorem amH:aF Tryz.prog UL:=aZ cz cC trivial
def aiw {R:Type}:Inl R:= .mk 71 UL [] Vq Tryz.f71.results.toList []
def S7:Cfg:={T:=cy,aX:=aE.G Tryz.prog,eqs:=cx,N:=6,fuel:=64,fid:=128}
theorem aoV:aF Tryz.prog S7:=aZ cz cC trivial
def aoB {R:Type}:Inl R:= .mk 128 S7 [] tc Tryz.f128.results.toList []
def Wl:Cfg:={T:=cy,aX:=aE.G Tryz.prog,eqs:=cx,N:=6,fuel:=64,fid:=128}
theorem ads:aF Tryz.prog Wl:=aZ cz cC trivial
def ZI {R:Type}:Inl R:= .mk 128 Wl [] tc Tryz.f128.results.toList []
def Tu {R:Type}:List (Nat×Hd R):= []
def Mg {R:Type}:List (Nat×Inl R):=[(8,aoB),(10,ZI)]
def NP:Cfg:={T:=cy,aX:=aE.G Tryz.prog,eqs:=cx,N:=20,fuel:=64,fid:=91}
theorem adh:aF Tryz.prog NP:=aZ cz cC trivial
theorem ahu {R:Type}:aO Tryz.prog (R:=R) 1 Mg:=bF Tryz.f128 aoV (bF Tryz.f128 ads (aA _ _))
theorem aiD {R:Type}:aJ (R:=R) (hnd 1 Mg) NP Tu tf:=aB (l:= []) (by kernel_rfl) (trivial)
def ajh {R:Type}:Inl R:= .mk 91 NP Tu tf Tryz.f91.results.toList Mg
def R6 {R:Type}:List (Nat×Hd R):= []
def Nu {R:Type}:List (Nat×Inl R):=[(8,aiw),(10,ajh)]
def N2:Cfg:={T:=cy,aX:=aE.G Tryz.prog,eqs:=cx,N:=11,fuel:=64,fid:=109}
theorem agp:aF Tryz.prog N2:=aZ cz cC trivial
theorem acS {R:Type}:aO Tryz.prog (R:=R) 2 Nu:=bF Tryz.f71 amH (bE Tryz.f91 adh aiD (bw (by kernel_rfl)) ahu (aA _ _))
theorem ZA {R:Type}:aJ (R:=R) (hnd 2 Nu) N2 R6 Jb:=aB (l:= []) (by kernel_rfl) (trivial)
def ao8 {R:Type}:Inl R:= .mk 109 N2 R6 Jb Tryz.f109.results.toList Nu
def UN:Cfg:={T:=cy,aX:=aE.G Tryz.prog,eqs:=cx,N:=5,fuel:=64,fid:=71}
theorem abu:aF Tryz.prog UN:=aZ cz cC trivial
def al3 {R:Type}:Inl R:= .mk 71 UN [] Vq Tryz.f71.results.toList []
def SG:Cfg:={T:=cy,aX:=aE.G Tryz.prog,eqs:=cx,N:=6,fuel:=64,fid:=128}
theorem an0:aF Tryz.prog SG:=aZ cz cC trivial
def aal {R:Type}:Inl R:= .mk 128 SG [] tc Tryz.f128.results.toList []
def RL:Cfg:={T:=cy,aX:=aE.G Tryz.prog,eqs:=cx,N:=6,fuel:=64,fid:=128}
theorem aky:aF Tryz.prog RL:=aZ cz cC trivial
def am1 {R:Type}:Inl R:= .mk 128 RL [] tc Tryz.f128.results.toList []
def Ui {R:Type}:List (Nat×Hd R):= []
def Qw {R:Type}:List (Nat×Inl R):=[(8,aal),(10,am1)]
def QI:Cfg:={T:=cy,aX:=aE.G Tryz.prog,eqs:=cx,N:=20,fuel:=64,fid:=91}
theorem acA:aF Tryz.prog QI:=aZ cz cC trivial
theorem abz {R:Type}:aO Tryz.prog (R:=R) 1 Qw:=bF Tryz.f128 an0 (bF Tryz.f128 aky (aA _ _))
theorem an8 {R:Type}:aJ (R:=R) (hnd 1 Qw) QI Ui tf:=aB (l:= []) (by kernel_rfl) (trivial)
def ac3 {R:Type}:Inl R:= .mk 91 QI Ui tf Tryz.f91.results.toList Qw
def S9 {R:Type}:List (Nat×Hd R):= []
def Nw {R:Type}:List (Nat×Inl R):=[(8,al3),(10,ac3)]
def Qu:Cfg:={T:=cy,aX:=aE.G Tryz.prog,eqs:=cx,N:=11,fuel:=64,fid:=109}
theorem ak7:aF Tryz.prog Qu:=aZ cz cC trivial
theorem aom {R:Type}:aO Tryz.prog (R:=R) 2 Nw:=bF Tryz.f71 abu (bE Tryz.f91 acA an8 (bw (by kernel_rfl)) abz (aA _ _))
theorem ao5 {R:Type}:aJ (R:=R) (hnd 2 Nw) Qu S9 Jb:=aB (l:= []) (by kernel_rfl) (trivial)
def adf {R:Type}:Inl R:= .mk 109 Qu S9 Jb Tryz.f109.results.toList Nw
def PV {R:Type}:List (Nat×Hd R):=[(3,bC CX JD)]
def KR {R:Type}:List (Nat×Inl R):=[(30,ao8),(46,adf)]
def KY:Cfg:={T:=cy,aX:=aE.G Tryz.prog,eqs:=cx,N:=49,fuel:=64,loops:=[(3,⟨[0,1,2,8,9,10], [],[0,1],2, [], [], [], []⟩)],blocks:=[(0,⟨[0,1,2,8,9], [],[0,1],2, [], [], [], []⟩)],fid:=108}
theorem agv:aF Tryz.prog KY:=aZ cz cC trivial
theorem aoD {R:Type}:aO Tryz.prog (R:=R) 3 KR:=bE Tryz.f109 agp ZA (bw (by kernel_rfl)) acS (bE Tryz.f109 ak7 ao5 (bw (by kernel_rfl)) aom (aA _ _))
theorem Zj {R:Type}:bA (R:=R) (hnd 3 KR) KY PV (sub [1,1,1,0,0,0] G4) (HS.V CX) (HS.st CX) (HS.sh CX) JD (bC CX JD):=aM CX JD (fun _ _=>rfl) (by intro q v K;kernel_rfl)
theorem ajs {R:Type}:aJ (R:=R) (hnd 3 KR) KY PV G4:=aB (l:=[sub [1,1,1,0,0,0] G4]) (by kernel_rfl) (aH (b:=sub [1,1,1,0,0,0] G4) (rid:=3) (by kernel_rfl) (by kernel_rfl) Zj (trivial))
def abt {R:Type}:Inl R:= .mk 108 KY PV G4 Tryz.f108.results.toList KR
def Zb {R:Type}:List (Nat×Hd R):= []
def Tc {R:Type}:List (Nat×Inl R):=[(11,abt)]
def Vh:Cfg:={T:=cy,aX:=aE.G Tryz.prog,eqs:=cx,N:=14,fuel:=64,fid:=70}
theorem aoH:aF Tryz.prog Vh:=aZ cz cC trivial
theorem aj2 {R:Type}:aO Tryz.prog (R:=R) 4 Tc:=bE Tryz.f108 agv ajs (bw (by kernel_rfl)) aoD (aA _ _)
theorem ans {R:Type}:aJ (R:=R) (hnd 4 Tc) Vh Zb ak2:=aB (l:= []) (by kernel_rfl) (trivial)
theorem NG:aS Tryz.prog 70 LS:=bl Tryz.f70 aoH nk (d:=4) aj2 ans (bw (by kernel_rfl)) (toY:=agT)
def Ul:List HV:=[.agg [.int .i64, .int .i64, .bool, .str]]
def MX:List HV:=[.one (.int .i64)]
def acB:HP.V Ul→Kept:=fun v=>((⟨v.1.1,v.1.2.1,v.1.2.2.1,v.1.2.2.2.1⟩:Kept))
def aaG:HX.V MX→Int:=fun v=>(v)
def af9:Int→HX.V MX:=fun y=>(y)
def Zo:Kept→Option (Int):=fun x=>ix x
def JU:Spec:=aT Ul MX acB af9 Zo
def an3:Cfg:={T:=cy,aX:=aE.G Tryz.prog,eqs:=cx,N:=5,fuel:=64,fid:=71}
theorem abB:aF Tryz.prog an3:=aZ cz cC trivial
theorem NM:aS Tryz.prog 71 JU:=bV Tryz.f71 abB nk (toY:=aaG)
def SW:List HV:=[.agg hW, .one (.int .i64)]
def Qi:List HV:=[.agg [.int .i64, .int .i64, .bool, .str], .one (.bool)]
def Yj:HP.V SW→ao×Int:=fun v=>((cW v.1),v.2.1)
def akO:HX.V Qi→Kept×Bool:=fun v=>((⟨v.1.1,v.1.2.1,v.1.2.2.1,v.1.2.2.2.1⟩:Kept),v.2)
def ab4:(Kept×Bool)→HX.V Qi:=fun y=>((y.1.slot,(y.1.ino,(y.1.content,(y.1.data,())))),y.2)
def abC:(ao×Int)→Option (Kept×Bool):=fun x=>gr x.1 x.2
def vF:Spec:=aT SW Qi Yj ab4 abC
def abi:Cfg:={T:=cy,spec:=[(70,LS)],aX:=aE.G Tryz.prog,eqs:=cx,N:=25,fuel:=64,fid:=29}
theorem aeX:aF Tryz.prog abi:=aZ cz cC ⟨NG,trivial⟩
theorem vZ:aS Tryz.prog 29 vF:=bV Tryz.f29 aeX nk (toY:=akO)
def Cr:HS:=⟨[(0, .one (.sl .aL)),(1, .one (.int .i64)),(2, .one (.clo 1)),(8, .one (.int .i64)),(9, .one (.int .i64)),(10, .one (.int .i64))],[(0, .cells [.fnc 41]),(1, .clo 90 [] [.ptr 0 0])],2⟩
def Jm {R:Type}:Nat→HS.V Cr→(Ex→St→Option R)→Option R:=fun q v K=>
 bT v.1.1 v.1.2.1 (fun y10=>K (.exit 0) {az:=[(0, .v (.one (.sl .aL v.1.1))),(1, .v (.one (.int .i64 v.1.2.1))),(2, .v (.one (.clo 1))),(8, .v (.one (.int .i64 v.1.2.2.2.1))),(9, .v (.one (.int .i64 y10)))],mem:=[(0, .cells [.fnc 41]),(1, .clo 90 [] [.ptr 0 0])],nx:=2}) q v.1.2.2.2.2.1 v.1.2.2.2.2.2.1
def Rp:List HV:=[.one (.sl .aL), .one (.int .i64), .one (.fnc 41)]
def Oq:List HV:=[.one (.int .i64), .one (.bool)]
def anl:HP.V Rp→(List ae)×Int:=fun v=>(v.1,v.2.1)
def XK:HX.V Oq→Int×Bool:=fun v=>(v.1,v.2)
def alM:(Int×Bool)→HX.V Oq:=fun y=>(y.1,y.2)
def adt:(List ae)×Int→Option (Int×Bool):=fun x=>gE x.1 x.2
def HQ:Spec:=aT Rp Oq anl alM adt
def R3:Cfg:={T:=cy,aX:=aE.G Tryz.prog,eqs:=cx,N:=5,fuel:=64,fid:=41}
theorem aja:aF Tryz.prog R3:=aZ cz cC trivial
def abn {R:Type}:Inl R:= .mk 41 R3 [] U1 Tryz.f41.results.toList []
def WD:Cfg:={T:=cy,aX:=aE.G Tryz.prog,eqs:=cx,N:=6,fuel:=64,fid:=128}
theorem ae7:aF Tryz.prog WD:=aZ cz cC trivial
def aj_ {R:Type}:Inl R:= .mk 128 WD [] tc Tryz.f128.results.toList []
def SL:Cfg:={T:=cy,aX:=aE.G Tryz.prog,eqs:=cx,N:=6,fuel:=64,fid:=128}
theorem ai5:aF Tryz.prog SL:=aZ cz cC trivial
def aat {R:Type}:Inl R:= .mk 128 SL [] tc Tryz.f128.results.toList []
def W7 {R:Type}:List (Nat×Hd R):= []
def L3 {R:Type}:List (Nat×Inl R):=[(8,aj_),(10,aat)]
def Qv:Cfg:={T:=cy,aX:=aE.G Tryz.prog,eqs:=cx,N:=20,fuel:=64,fid:=91}
theorem ah8:aF Tryz.prog Qv:=aZ cz cC trivial
theorem agf {R:Type}:aO Tryz.prog (R:=R) 1 L3:=bF Tryz.f128 ae7 (bF Tryz.f128 ai5 (aA _ _))
theorem agr {R:Type}:aJ (R:=R) (hnd 1 L3) Qv W7 tf:=aB (l:= []) (by kernel_rfl) (trivial)
def amF {R:Type}:Inl R:= .mk 91 Qv W7 tf Tryz.f91.results.toList L3
def T8 {R:Type}:List (Nat×Hd R):= []
def L_ {R:Type}:List (Nat×Inl R):=[(8,abn),(10,amF)]
def QO:Cfg:={T:=cy,aX:=aE.G Tryz.prog,eqs:=cx,N:=11,fuel:=64,fid:=90}
theorem agj:aF Tryz.prog QO:=aZ cz cC trivial
theorem ag5 {R:Type}:aO Tryz.prog (R:=R) 2 L_:=bF Tryz.f41 aja (bE Tryz.f91 ah8 agr (bw (by kernel_rfl)) agf (aA _ _))
theorem adI {R:Type}:aJ (R:=R) (hnd 2 L_) QO T8 I6:=aB (l:= []) (by kernel_rfl) (trivial)
def aml {R:Type}:Inl R:= .mk 90 QO T8 I6 Tryz.f90.results.toList L_
def RT:Cfg:={T:=cy,aX:=aE.G Tryz.prog,eqs:=cx,N:=5,fuel:=64,fid:=41}
theorem akq:aF Tryz.prog RT:=aZ cz cC trivial
def ajg {R:Type}:Inl R:= .mk 41 RT [] U1 Tryz.f41.results.toList []
def UI:Cfg:={T:=cy,aX:=aE.G Tryz.prog,eqs:=cx,N:=6,fuel:=64,fid:=128}
theorem acv:aF Tryz.prog UI:=aZ cz cC trivial
def Zw {R:Type}:Inl R:= .mk 128 UI [] tc Tryz.f128.results.toList []
def SU:Cfg:={T:=cy,aX:=aE.G Tryz.prog,eqs:=cx,N:=6,fuel:=64,fid:=128}
theorem aaz:aF Tryz.prog SU:=aZ cz cC trivial
def YV {R:Type}:Inl R:= .mk 128 SU [] tc Tryz.f128.results.toList []
def WI {R:Type}:List (Nat×Hd R):= []
def NS {R:Type}:List (Nat×Inl R):=[(8,Zw),(10,YV)]
def PQ:Cfg:={T:=cy,aX:=aE.G Tryz.prog,eqs:=cx,N:=20,fuel:=64,fid:=91}
theorem aeE:aF Tryz.prog PQ:=aZ cz cC trivial
theorem ahq {R:Type}:aO Tryz.prog (R:=R) 1 NS:=bF Tryz.f128 acv (bF Tryz.f128 aaz (aA _ _))
theorem aaT {R:Type}:aJ (R:=R) (hnd 1 NS) PQ WI tf:=aB (l:= []) (by kernel_rfl) (trivial)
def aaL {R:Type}:Inl R:= .mk 91 PQ WI tf Tryz.f91.results.toList NS
def UX {R:Type}:List (Nat×Hd R):= []
def Mj {R:Type}:List (Nat×Inl R):=[(8,ajg),(10,aaL)]
def O_:Cfg:={T:=cy,aX:=aE.G Tryz.prog,eqs:=cx,N:=11,fuel:=64,fid:=90}
theorem afD:aF Tryz.prog O_:=aZ cz cC trivial
theorem acm {R:Type}:aO Tryz.prog (R:=R) 2 Mj:=bF Tryz.f41 akq (bE Tryz.f91 aeE aaT (bw (by kernel_rfl)) ahq (aA _ _))
theorem amO {R:Type}:aJ (R:=R) (hnd 2 Mj) O_ UX I6:=aB (l:= []) (by kernel_rfl) (trivial)
def Yb {R:Type}:Inl R:= .mk 90 O_ UX I6 Tryz.f90.results.toList Mj
def OX {R:Type}:List (Nat×Hd R):=[(3,bC Cr Jm)]
def Lz {R:Type}:List (Nat×Inl R):=[(30,aml),(46,Yb)]
def JC:Cfg:={T:=cy,aX:=aE.G Tryz.prog,eqs:=cx,N:=49,fuel:=64,loops:=[(3,⟨[0,1,2,8,9,10], [],[0,1],2, [], [], [], []⟩)],blocks:=[(0,⟨[0,1,2,8,9], [],[0,1],2, [], [], [], []⟩)],fid:=89}
theorem an9:aF Tryz.prog JC:=aZ cz cC trivial
theorem XS {R:Type}:aO Tryz.prog (R:=R) 3 Lz:=bE Tryz.f90 agj adI (bw (by kernel_rfl)) ag5 (bE Tryz.f90 afD amO (bw (by kernel_rfl)) acm (aA _ _))
theorem anX {R:Type}:bA (R:=R) (hnd 3 Lz) JC OX (sub [1,1,1,0,0,0] GV) (HS.V Cr) (HS.st Cr) (HS.sh Cr) Jm (bC Cr Jm):=aM Cr Jm (fun _ _=>rfl) (by intro q v K;kernel_rfl)
theorem Yo {R:Type}:aJ (R:=R) (hnd 3 Lz) JC OX GV:=aB (l:=[sub [1,1,1,0,0,0] GV]) (by kernel_rfl) (aH (b:=sub [1,1,1,0,0,0] GV) (rid:=3) (by kernel_rfl) (by kernel_rfl) anX (trivial))
def afH {R:Type}:Inl R:= .mk 89 JC OX GV Tryz.f89.results.toList Lz
def akh {R:Type}:List (Nat×Hd R):= []
def Se {R:Type}:List (Nat×Inl R):=[(11,afH)]
def V3:Cfg:={T:=cy,aX:=aE.G Tryz.prog,eqs:=cx,N:=14,fuel:=64,fid:=40}
theorem ah9:aF Tryz.prog V3:=aZ cz cC trivial
theorem ajY {R:Type}:aO Tryz.prog (R:=R) 4 Se:=bE Tryz.f89 an9 Yo (bw (by kernel_rfl)) XS (aA _ _)
theorem afu {R:Type}:aJ (R:=R) (hnd 4 Se) V3 akh ae2:=aB (l:= []) (by kernel_rfl) (trivial)
theorem Qa:aS Tryz.prog 40 HQ:=bl Tryz.f40 ah9 nk (d:=4) ajY afu (bw (by kernel_rfl)) (toY:=XK)
def V2:List HV:=[.agg hIn]
def Nd:List HV:=[.one (.int .i64)]
def aep:HP.V V2→ae:=fun v=>((cIn v.1))
def anK:HX.V Nd→Int:=fun v=>(v)
def aga:Int→HX.V Nd:=fun y=>(y)
def alJ:ae→Option (Int):=fun x=>jw x
def J9:Spec:=aT V2 Nd aep aga alJ
def Zm:Cfg:={T:=cy,aX:=aE.G Tryz.prog,eqs:=cx,N:=5,fuel:=64,fid:=41}
theorem aaU:aF Tryz.prog Zm:=aZ cz cC trivial
theorem QA:aS Tryz.prog 41 J9:=bV Tryz.f41 aaU nk (toY:=anK)
def WO:List HV:=[.agg hW, .agg [.int .i64, .int .i64, .bool, .str]]
def OC:List HV:=[.agg hW]
def aj0:HP.V WO→ao×Kept:=fun v=>((cW v.1),(⟨v.2.1.1,v.2.1.2.1,v.2.1.2.2.1,v.2.1.2.2.2.1⟩:Kept))
def afA:HX.V OC→ao:=fun v=>((cW v))
def amA:ao→HX.V OC:=fun y=>(uW y)
def abl:(ao×Kept)→Option (ao):=fun x=>eE x.1 x.2
def La:Spec:=aT WO OC aj0 amA abl
def Rz:Cfg:={T:=cy,spec:=[(70,LS)],aX:=aE.G Tryz.prog,eqs:=cx,N:=95,fuel:=64,ovl:=[130],fid:=94,qb:=true}
theorem aaC:aF Tryz.prog Rz:=aZ cz cC ⟨NG,trivial⟩ (ov:=⟨Fw,trivial⟩)
def ahe {R:Type}:Inl R:= .mk 94 Rz [] al6 Tryz.f94.results.toList []
def akJ {R:Type}:List (Nat×Hd R):= []
def Tm {R:Type}:List (Nat×Inl R):=[(23,ahe)]
def SH:Cfg:={T:=cy,spec:=[(70,LS)],aX:=aE.G Tryz.prog,eqs:=cx,N:=27,fuel:=64,ovl:=[130],fid:=44,fresh:=[(95,IV)],qb:=true}
theorem Ym:aF Tryz.prog SH:=aZ cz cC ⟨NG,trivial⟩ (ov:=⟨Fw,trivial⟩) (fr:=⟨N_,trivial⟩)
theorem aoP {R:Type}:aO Tryz.prog (R:=R) 1 Tm:=bF Tryz.f94 aaC (aA _ _)
theorem ajp {R:Type}:aJ (R:=R) (hnd 1 Tm) SH akJ ajn:=aB (l:= []) (by kernel_rfl) (trivial)
theorem O3:aS Tryz.prog 44 La:=bl Tryz.f44 Ym nk (d:=1) aoP ajp (bw (by kernel_rfl)) (toY:=afA)
def Uw:List HV:=[.agg hW, .one (.int .i64), .agg [.int .i64, .str, .int .i64]]
def Nl:List HV:=[.agg hW, .one (.int .i64)]
def acd:HP.V Uw→ao×Int×ax:=fun v=>((cW v.1),v.2.1,(⟨v.2.2.1.1,v.2.2.1.2.1,v.2.2.1.2.2.1⟩:ax))
def Za:HX.V Nl→ao×Int:=fun v=>((cW v.1),v.2)
def abg:(ao×Int)→HX.V Nl:=fun y=>(uW y.1,y.2)
def Xy:(ao×Int×ax)→Option (ao×Int):=fun x=>eF x.1 x.2.1 x.2.2
def EY:Spec:=aT Uw Nl acd abg Xy
def SE:Cfg:={T:=cy,spec:=[(29,vF),(38,mG),(39,PE),(40,HQ),(44,La)],aX:=aE.G Tryz.prog,eqs:=cx,N:=95,fuel:=64,ovl:=[92],fid:=42,qb:=true}
theorem aoy:aF Tryz.prog SE:=aZ cz cC ⟨vZ,⟨m4,⟨W6,⟨Qa,⟨O3,trivial⟩⟩⟩⟩⟩ (ov:=⟨Ao,trivial⟩)
def ajj {R:Type}:Inl R:= .mk 42 SE [] ZC Tryz.f42.results.toList []
def ahA {R:Type}:List (Nat×Hd R):= []
def R8 {R:Type}:List (Nat×Inl R):=[(65,ajj)]
def S2:Cfg:={T:=cy,spec:=[(29,vF),(38,mG),(39,PE),(40,HQ),(44,La)],aX:=aE.G Tryz.prog,eqs:=cx,N:=74,fuel:=64,ovl:=[92],fid:=16,fresh:=[(43,LA)],qb:=true}
theorem aeW:aF Tryz.prog S2:=aZ cz cC ⟨vZ,⟨m4,⟨W6,⟨Qa,⟨O3,trivial⟩⟩⟩⟩⟩ (ov:=⟨Ao,trivial⟩) (fr:=⟨L7,trivial⟩)
theorem aaK {R:Type}:aO Tryz.prog (R:=R) 1 R8:=bF Tryz.f42 aoy (aA _ _)
theorem Yp {R:Type}:aJ (R:=R) (hnd 1 R8) S2 ahA ai1:=aB (l:= []) (by kernel_rfl) (trivial)
theorem Gc:aS Tryz.prog 16 EY:=bl Tryz.f16 aeW nk (d:=1) aaK Yp (bw (by kernel_rfl)) (toY:=Za)
def SC:List HV:=[.agg hW, .one (.int .i64)]
def OT:List HV:=[.agg hIn, .one (.bool)]
def XA:HP.V SC→ao×Int:=fun v=>((cW v.1),v.2.1)
def akZ:HX.V OT→ae×Bool:=fun v=>((cIn v.1),v.2)
def anh:(ae×Bool)→HX.V OT:=fun y=>(uIn y.1,y.2)
def ad7:(ao×Int)→Option (ae×Bool):=fun x=>jH x.1 x.2
def Cx:Spec:=aT SC OT XA anh ad7
def aag:Cfg:={T:=cy,spec:=[(38,mG),(40,HQ)],aX:=aE.G Tryz.prog,eqs:=cx,N:=36,fuel:=64,fid:=50}
theorem afP:aF Tryz.prog aag:=aZ cz cC ⟨m4,⟨Qa,trivial⟩⟩
theorem Fj:aS Tryz.prog 50 Cx:=bV Tryz.f50 afP nk (toY:=akZ)
def Dr:HS:=⟨[(0, .one (.own 3)),(1, .one (.clo 4)),(7, .one (.int .i64)),(8, .one (.int .i64)),(1000000, .one (.own 3)),(1000001, .one (.clo 4)),(2000002, .one (.ptr 0 0)),(2000004, .one (.ptr 2 0))],[(0, .cells hW),(1, .cells [.int .i64]),(2, .cells hW),(3, .row .kept),(4, .clo 103 [] [.ptr 1 0])],5⟩
def Lw {R:Type}:Nat→HS.V Dr→(Ex→St→Option R)→Option R:=fun q v K=>
 di v.1.2.2.1 v.2.2.1.1 v.2.2.2.2.1 (fun y9=>K .ret {az:=[(4, .v (.one (.int .i64 y9))),(1000000, .v (.one (.own 3))),(1000001, .v (.one (.clo 4))),(2000002, .v (.one (.ptr 0 0))),(2000004, .v (.one (.ptr 2 0)))],mem:=[(0, .cells [.int .i64 ((cW v.2.1).fs.ar), .int .i64 ((cW v.2.1).fs.aw), .int .i64 ((cW v.2.1).fs.next), .sl .aL ((cW v.2.1).fs.aa), .sl .kept ((cW v.2.1).al.kept), .sl .aL ((cW v.2.1).al.aI)]),(1, .cells [.int .i64 v.2.2.1.1]),(2, .cells [.int .i64 ((cW v.2.2.2.1).fs.ar), .int .i64 ((cW v.2.2.2.1).fs.aw), .int .i64 ((cW v.2.2.2.1).fs.next), .sl .aL ((cW v.2.2.2.1).fs.aa), .sl .kept ((cW v.2.2.2.1).al.kept), .sl .aL ((cW v.2.2.2.1).al.aI)]),(3, .row .kept v.2.2.2.2.1),(4, .clo 103 [] [.ptr 1 0])],nx:=5}) (K (.exit 0) {az:=[(1000000, .v (.one (.own 3))),(1000001, .v (.one (.clo 4))),(2000002, .v (.one (.ptr 0 0))),(2000004, .v (.one (.ptr 2 0)))],mem:=[(0, .cells [.int .i64 ((cW v.2.1).fs.ar), .int .i64 ((cW v.2.1).fs.aw), .int .i64 ((cW v.2.1).fs.next), .sl .aL ((cW v.2.1).fs.aa), .sl .kept ((cW v.2.1).al.kept), .sl .aL ((cW v.2.1).al.aI)]),(1, .cells [.int .i64 v.2.2.1.1]),(2, .cells [.int .i64 ((cW v.2.2.2.1).fs.ar), .int .i64 ((cW v.2.2.2.1).fs.aw), .int .i64 ((cW v.2.2.2.1).fs.next), .sl .aL ((cW v.2.2.2.1).fs.aa), .sl .kept ((cW v.2.2.2.1).al.kept), .sl .aL ((cW v.2.2.2.1).al.aI)]),(3, .row .kept v.2.2.2.2.1),(4, .clo 103 [] [.ptr 1 0])],nx:=5}) q v.1.2.2.2.1
def Cm:HS:=⟨[(0, .one (.own 3)),(1, .one (.clo 4)),(5, .one (.int .i64)),(6, .one (.int .i64)),(1000002, .one (.ptr 0 0)),(1000004, .one (.ptr 2 0))],[(0, .cells hW),(1, .cells [.int .i64]),(2, .cells hW),(3, .row .kept),(4, .clo 103 [] [.ptr 1 0])],5⟩
def JJ {R:Type}:Nat→HS.V Cm→(Ex→St→Option R)→Option R:=fun q v K=>
 cS v.2.2.1.1 (fun y27 y30=>K (.exit 0) {az:=[(0, .v (.one (.own 3))),(5, .v (.one (.int .i64 y27))),(1000002, .v (.one (.ptr 0 0))),(1000004, .v (.one (.ptr 2 0)))],mem:=[(0, .cells [.int .i64 ((cW v.2.1).fs.ar), .int .i64 ((cW v.2.1).fs.aw), .int .i64 ((cW v.2.1).fs.next), .sl .aL ((cW v.2.1).fs.aa), .sl .kept ((cW v.2.1).al.kept), .sl .aL ((cW v.2.1).al.aI)]),(2, .cells [.int .i64 ((cW v.2.2.2.1).fs.ar), .int .i64 ((cW v.2.2.2.1).fs.aw), .int .i64 ((cW v.2.2.2.1).fs.next), .sl .aL ((cW v.2.2.2.1).fs.aa), .sl .kept ((cW v.2.2.2.1).al.kept), .sl .aL ((cW v.2.2.2.1).al.aI)]),(3, .row .kept y30)],nx:=4}) q v.1.2.2.1 v.1.2.2.2.1 v.2.2.2.2.1
def Ws:List HV:=[.agg hW, .one (.int .i64)]
def Qs:List HV:=[.agg hW]
def abJ:HP.V Ws→ao×Int:=fun v=>((cW v.1),v.2.1)
def akk:HX.V Qs→ao:=fun v=>((cW v))
def ace:ao→HX.V Qs:=fun y=>(uW y)
def alo:(ao×Int)→Option (ao):=fun x=>aR x.1 x.2
def CS:Spec:=aT Ws Qs abJ ace alo
def Wu:Cfg:={T:=cy,aX:=aE.G Tryz.prog,eqs:=cx,N:=8,fuel:=64,fid:=103}
theorem afG:aF Tryz.prog Wu:=aZ cz cC trivial
def aec {R:Type}:Inl R:= .mk 103 Wu [] WW Tryz.f103.results.toList []
def Q0 {R:Type}:List (Nat×Hd R):=[(2,bC Dr Lw)]
def K1 {R:Type}:List (Nat×Inl R):=[(16,aec)]
def LR:Cfg:={T:=cy,aX:=aE.G Tryz.prog,eqs:=cx,N:=19,fuel:=64,loops:=[(2,⟨[0,1,7,8,1000000,1000001,2000002,2000004], [],[0,1,2,3,4],5, [],[2], [], []⟩)],blocks:=[(0,⟨[1000000,1000001,2000002,2000004], [],[0,1,2,3,4],5, [], [], [], []⟩)],eX:=some ⟨[4,1000000,1000001,2000002,2000004], [],[0,1,2,3,4],5, [], [], [], []⟩,fid:=121}
theorem Zf:aF Tryz.prog LR:=aZ cz cC trivial
theorem aoq {R:Type}:aO Tryz.prog (R:=R) 1 K1:=bF Tryz.f103 afG (aA _ _)
theorem aki {R:Type}:bA (R:=R) (hnd 1 K1) LR Q0 (sub [1,0,1,0,0] qd) (HS.V Dr) (HS.st Dr) (HS.sh Dr) Lw (bC Dr Lw):=aM Dr Lw (fun _ _=>rfl) (by intro q v K;kernel_rfl)
theorem Z1 {R:Type}:aJ (R:=R) (hnd 1 K1) LR Q0 qd:=aB (l:=[sub [1,0,1,0,0] qd]) (by kernel_rfl) (aH (b:=sub [1,0,1,0,0] qd) (rid:=2) (by kernel_rfl) (by kernel_rfl) aki (trivial))
def abP {R:Type}:Inl R:= .mk 121 LR Q0 qd Tryz.f121.results.toList K1
def WM:Cfg:={T:=cy,aX:=aE.G Tryz.prog,eqs:=cx,N:=8,fuel:=64,fid:=103}
theorem aow:aF Tryz.prog WM:=aZ cz cC trivial
def ak4 {R:Type}:Inl R:= .mk 103 WM [] WW Tryz.f103.results.toList []
def O1 {R:Type}:List (Nat×Hd R):=[(5,bC Cm JJ)]
def HK {R:Type}:List (Nat×Inl R):=[(10,abP),(28,ak4)]
def Lp:Cfg:={T:=cy,aX:=aE.G Tryz.prog,eqs:=cx,N:=42,fuel:=64,loops:=[(5,⟨[0,1,5,6,1000002,1000004], [],[0,1,2,3,4],5, [], [], [], []⟩)],blocks:=[(0,⟨[0,5,1000002,1000004], [],[0,2,3],4, [], [], [], []⟩)],fid:=102}
theorem abX:aF Tryz.prog Lp:=aZ cz cC trivial
theorem YY {R:Type}:aO Tryz.prog (R:=R) 2 HK:=bE Tryz.f121 Zf Z1 (bw (by kernel_rfl)) aoq (bF Tryz.f103 aow (aA _ _))
theorem ad3 {R:Type}:bA (R:=R) (hnd 2 HK) Lp O1 (sub [1,1,1,0,1,0,0] FU) (HS.V Cm) (HS.st Cm) (HS.sh Cm) JJ (bC Cm JJ):=aM Cm JJ (fun _ _=>rfl) (by intro q v K;kernel_rfl)
theorem abc {R:Type}:aJ (R:=R) (hnd 2 HK) Lp O1 FU:=aB (l:=[sub [1,1,1,0,1,0,0] FU]) (by kernel_rfl) (aH (b:=sub [1,1,1,0,1,0,0] FU) (rid:=5) (by kernel_rfl) (by kernel_rfl) ad3 (trivial))
def ait {R:Type}:Inl R:= .mk 102 Lp O1 FU Tryz.f102.results.toList HK
def abj {R:Type}:List (Nat×Hd R):= []
def U3 {R:Type}:List (Nat×Inl R):=[(10,ait)]
def VM:Cfg:={T:=cy,aX:=aE.G Tryz.prog,eqs:=cx,N:=14,fuel:=64,fid:=56,fresh:=[(95,IV)]}
theorem aiv:aF Tryz.prog VM:=aZ cz cC trivial (fr:=⟨N_,trivial⟩)
theorem anE {R:Type}:aO Tryz.prog (R:=R) 3 U3:=bE Tryz.f102 abX abc (bw (by kernel_rfl)) YY (aA _ _)
theorem akv {R:Type}:aJ (R:=R) (hnd 3 U3) VM abj ado:=aB (l:= []) (by kernel_rfl) (trivial)
theorem Em:aS Tryz.prog 56 CS:=bl Tryz.f56 aiv nk (d:=3) anE akv (bw (by kernel_rfl)) (toY:=akk)
def Cu:HS:=⟨[(0, .one (.own 5)),(1, .one (.clo 6)),(7, .one (.int .i64)),(8, .one (.int .i64)),(1000000, .one (.own 5)),(1000001, .one (.clo 6)),(2000001, .one (.int .i64)),(2000003, .one (.ptr 0 0)),(2000005, .one (.ptr 1 0)),(2000006, .one (.ptr 2 0)),(2000008, .one (.ptr 3 0)),(2000010, .one (.ptr 4 0))],[(0, .cells hW),(1, .cells [.int .i64, .str, .int .i64]),(2, .cells hW),(3, .cells [.int .i64, .int .i64, .bool, .str]),(4, .cells hIn),(5, .row .aL),(6, .clo 53 [] [.ptr 4 0])],7⟩
def Kw {R:Type}:Nat→HS.V Cu→(Ex→St→Option R)→Option R:=fun q v K=>
 bJ v.1.2.2.1 (cIn v.2.2.2.2.2.1) v.2.2.2.2.2.2.1 (fun y17=>K .ret {az:=[(4, .v (.one (.int .i64 y17))),(1000000, .v (.one (.own 5))),(1000001, .v (.one (.clo 6))),(2000001, .v (.one (.int .i64 v.1.2.2.2.2.2.2.1))),(2000003, .v (.one (.ptr 0 0))),(2000005, .v (.one (.ptr 1 0))),(2000006, .v (.one (.ptr 2 0))),(2000008, .v (.one (.ptr 3 0))),(2000010, .v (.one (.ptr 4 0)))],mem:=[(0, .cells [.int .i64 ((cW v.2.1).fs.ar), .int .i64 ((cW v.2.1).fs.aw), .int .i64 ((cW v.2.1).fs.next), .sl .aL ((cW v.2.1).fs.aa), .sl .kept ((cW v.2.1).al.kept), .sl .aL ((cW v.2.1).al.aI)]),(1, .cells [.int .i64 ((⟨v.2.2.1.1,v.2.2.1.2.1,v.2.2.1.2.2.1⟩:ax).dir), .str ((⟨v.2.2.1.1,v.2.2.1.2.1,v.2.2.1.2.2.1⟩:ax).name), .int .i64 ((⟨v.2.2.1.1,v.2.2.1.2.1,v.2.2.1.2.2.1⟩:ax).ino)]),(2, .cells [.int .i64 ((cW v.2.2.2.1).fs.ar), .int .i64 ((cW v.2.2.2.1).fs.aw), .int .i64 ((cW v.2.2.2.1).fs.next), .sl .aL ((cW v.2.2.2.1).fs.aa), .sl .kept ((cW v.2.2.2.1).al.kept), .sl .aL ((cW v.2.2.2.1).al.aI)]),(3, .cells [.int .i64 ((⟨v.2.2.2.2.1.1,v.2.2.2.2.1.2.1,v.2.2.2.2.1.2.2.1,v.2.2.2.2.1.2.2.2.1⟩:Kept).slot), .int .i64 ((⟨v.2.2.2.2.1.1,v.2.2.2.2.1.2.1,v.2.2.2.2.1.2.2.1,v.2.2.2.2.1.2.2.2.1⟩:Kept).ino), .bool ((⟨v.2.2.2.2.1.1,v.2.2.2.2.1.2.1,v.2.2.2.2.1.2.2.1,v.2.2.2.2.1.2.2.2.1⟩:Kept).content), .str ((⟨v.2.2.2.2.1.1,v.2.2.2.2.1.2.1,v.2.2.2.2.1.2.2.1,v.2.2.2.2.1.2.2.2.1⟩:Kept).data)]),(4, .cells (rIn (cIn v.2.2.2.2.2.1))),(5, .row .aL v.2.2.2.2.2.2.1),(6, .clo 53 [] [.ptr 4 0])],nx:=7}) (K (.exit 0) {az:=[(1000000, .v (.one (.own 5))),(1000001, .v (.one (.clo 6))),(2000001, .v (.one (.int .i64 v.1.2.2.2.2.2.2.1))),(2000003, .v (.one (.ptr 0 0))),(2000005, .v (.one (.ptr 1 0))),(2000006, .v (.one (.ptr 2 0))),(2000008, .v (.one (.ptr 3 0))),(2000010, .v (.one (.ptr 4 0)))],mem:=[(0, .cells [.int .i64 ((cW v.2.1).fs.ar), .int .i64 ((cW v.2.1).fs.aw), .int .i64 ((cW v.2.1).fs.next), .sl .aL ((cW v.2.1).fs.aa), .sl .kept ((cW v.2.1).al.kept), .sl .aL ((cW v.2.1).al.aI)]),(1, .cells [.int .i64 ((⟨v.2.2.1.1,v.2.2.1.2.1,v.2.2.1.2.2.1⟩:ax).dir), .str ((⟨v.2.2.1.1,v.2.2.1.2.1,v.2.2.1.2.2.1⟩:ax).name), .int .i64 ((⟨v.2.2.1.1,v.2.2.1.2.1,v.2.2.1.2.2.1⟩:ax).ino)]),(2, .cells [.int .i64 ((cW v.2.2.2.1).fs.ar), .int .i64 ((cW v.2.2.2.1).fs.aw), .int .i64 ((cW v.2.2.2.1).fs.next), .sl .aL ((cW v.2.2.2.1).fs.aa), .sl .kept ((cW v.2.2.2.1).al.kept), .sl .aL ((cW v.2.2.2.1).al.aI)]),(3, .cells [.int .i64 ((⟨v.2.2.2.2.1.1,v.2.2.2.2.1.2.1,v.2.2.2.2.1.2.2.1,v.2.2.2.2.1.2.2.2.1⟩:Kept).slot), .int .i64 ((⟨v.2.2.2.2.1.1,v.2.2.2.2.1.2.1,v.2.2.2.2.1.2.2.1,v.2.2.2.2.1.2.2.2.1⟩:Kept).ino), .bool ((⟨v.2.2.2.2.1.1,v.2.2.2.2.1.2.1,v.2.2.2.2.1.2.2.1,v.2.2.2.2.1.2.2.2.1⟩:Kept).content), .str ((⟨v.2.2.2.2.1.1,v.2.2.2.2.1.2.1,v.2.2.2.2.1.2.2.1,v.2.2.2.2.1.2.2.2.1⟩:Kept).data)]),(4, .cells (rIn (cIn v.2.2.2.2.2.1))),(5, .row .aL v.2.2.2.2.2.2.1),(6, .clo 53 [] [.ptr 4 0])],nx:=7}) q v.1.2.2.2.1
def BA:HS:=⟨[(0, .one (.own 5)),(1, .one (.clo 6)),(5, .one (.int .i64)),(6, .one (.int .i64)),(1000001, .one (.int .i64)),(1000003, .one (.ptr 0 0)),(1000005, .one (.ptr 1 0)),(1000006, .one (.ptr 2 0)),(1000008, .one (.ptr 3 0)),(1000010, .one (.ptr 4 0))],[(0, .cells hW),(1, .cells [.int .i64, .str, .int .i64]),(2, .cells hW),(3, .cells [.int .i64, .int .i64, .bool, .str]),(4, .cells hIn),(5, .row .aL),(6, .clo 53 [] [.ptr 4 0])],7⟩
def IX {R:Type}:Nat→HS.V BA→(Ex→St→Option R)→Option R:=fun q v K=>
 bQ (cIn v.2.2.2.2.2.1) (fun y47 y54=>K (.exit 0) {az:=[(0, .v (.one (.own 5))),(5, .v (.one (.int .i64 y47))),(1000001, .v (.one (.int .i64 v.1.2.2.2.2.1))),(1000003, .v (.one (.ptr 0 0))),(1000005, .v (.one (.ptr 1 0))),(1000006, .v (.one (.ptr 2 0))),(1000008, .v (.one (.ptr 3 0))),(1000010, .v (.one (.ptr 4 0)))],mem:=[(0, .cells [.int .i64 ((cW v.2.1).fs.ar), .int .i64 ((cW v.2.1).fs.aw), .int .i64 ((cW v.2.1).fs.next), .sl .aL ((cW v.2.1).fs.aa), .sl .kept ((cW v.2.1).al.kept), .sl .aL ((cW v.2.1).al.aI)]),(1, .cells [.int .i64 ((⟨v.2.2.1.1,v.2.2.1.2.1,v.2.2.1.2.2.1⟩:ax).dir), .str ((⟨v.2.2.1.1,v.2.2.1.2.1,v.2.2.1.2.2.1⟩:ax).name), .int .i64 ((⟨v.2.2.1.1,v.2.2.1.2.1,v.2.2.1.2.2.1⟩:ax).ino)]),(2, .cells [.int .i64 ((cW v.2.2.2.1).fs.ar), .int .i64 ((cW v.2.2.2.1).fs.aw), .int .i64 ((cW v.2.2.2.1).fs.next), .sl .aL ((cW v.2.2.2.1).fs.aa), .sl .kept ((cW v.2.2.2.1).al.kept), .sl .aL ((cW v.2.2.2.1).al.aI)]),(3, .cells [.int .i64 ((⟨v.2.2.2.2.1.1,v.2.2.2.2.1.2.1,v.2.2.2.2.1.2.2.1,v.2.2.2.2.1.2.2.2.1⟩:Kept).slot), .int .i64 ((⟨v.2.2.2.2.1.1,v.2.2.2.2.1.2.1,v.2.2.2.2.1.2.2.1,v.2.2.2.2.1.2.2.2.1⟩:Kept).ino), .bool ((⟨v.2.2.2.2.1.1,v.2.2.2.2.1.2.1,v.2.2.2.2.1.2.2.1,v.2.2.2.2.1.2.2.2.1⟩:Kept).content), .str ((⟨v.2.2.2.2.1.1,v.2.2.2.2.1.2.1,v.2.2.2.2.1.2.2.1,v.2.2.2.2.1.2.2.2.1⟩:Kept).data)]),(4, .cells (rIn (cIn v.2.2.2.2.2.1))),(5, .row .aL y54)],nx:=6}) q v.1.2.2.1 v.1.2.2.2.1 v.2.2.2.2.2.2.1
def RD:List HV:=[.agg hW, .one (.int .i64), .agg [.int .i64, .str, .int .i64]]
def NI:List HV:=[.agg hW, .one (.int .i64)]
def agd:HP.V RD→ao×Int×ax:=fun v=>((cW v.1),v.2.1,(⟨v.2.2.1.1,v.2.2.1.2.1,v.2.2.1.2.2.1⟩:ax))
def amZ:HX.V NI→ao×Int:=fun v=>((cW v.1),v.2)
def XV:(ao×Int)→HX.V NI:=fun y=>(uW y.1,y.2)
def af0:(ao×Int×ax)→Option (ao×Int):=fun x=>cH x.1 x.2.1 x.2.2
def EU:Spec:=aT RD NI agd XV af0
def RV:Cfg:={T:=cy,spec:=[(29,vF),(38,mG),(49,Cw),(50,Cx),(51,Ad),(54,yi),(55,D_),(56,CS)],aX:=aE.G Tryz.prog,eqs:=cx,N:=9,fuel:=64,fid:=53}
theorem ac6:aF Tryz.prog RV:=aZ cz cC ⟨vZ,⟨m4,⟨EI,⟨Fj,⟨A3,⟨zz,⟨FC,⟨Em,trivial⟩⟩⟩⟩⟩⟩⟩⟩
def agy {R:Type}:Inl R:= .mk 53 RV [] Wd Tryz.f53.results.toList []
def P8 {R:Type}:List (Nat×Hd R):=[(2,bC Cu Kw)]
def H4 {R:Type}:List (Nat×Inl R):=[(16,agy)]
def HN:Cfg:={T:=cy,spec:=[(29,vF),(38,mG),(49,Cw),(50,Cx),(51,Ad),(54,yi),(55,D_),(56,CS)],aX:=aE.G Tryz.prog,eqs:=cx,N:=19,fuel:=64,loops:=[(2,⟨[0,1,7,8,1000000,1000001,2000001,2000003,2000005,2000006,2000008,2000010], [],[0,1,2,3,4,5,6],7, [],[2], [], []⟩)],blocks:=[(0,⟨[1000000,1000001,2000001,2000003,2000005,2000006,2000008,2000010], [],[0,1,2,3,4,5,6],7, [], [], [], []⟩)],eX:=some ⟨[4,1000000,1000001,2000001,2000003,2000005,2000006,2000008,2000010], [],[0,1,2,3,4,5,6],7, [], [], [], []⟩,fid:=100}
theorem akp:aF Tryz.prog HN:=aZ cz cC ⟨vZ,⟨m4,⟨EI,⟨Fj,⟨A3,⟨zz,⟨FC,⟨Em,trivial⟩⟩⟩⟩⟩⟩⟩⟩
theorem afN {R:Type}:aO Tryz.prog (R:=R) 1 H4:=bF Tryz.f53 ac6 (aA _ _)
theorem aee {R:Type}:bA (R:=R) (hnd 1 H4) HN P8 (sub [1,0,1,0,0] vT) (HS.V Cu) (HS.st Cu) (HS.sh Cu) Kw (bC Cu Kw):=aM Cu Kw (fun _ _=>rfl) (by intro q v K;kernel_rfl)
theorem acL {R:Type}:aJ (R:=R) (hnd 1 H4) HN P8 vT:=aB (l:=[sub [1,0,1,0,0] vT]) (by kernel_rfl) (aH (b:=sub [1,0,1,0,0] vT) (rid:=2) (by kernel_rfl) (by kernel_rfl) aee (trivial))
def XQ {R:Type}:Inl R:= .mk 100 HN P8 vT Tryz.f100.results.toList H4
def V0:Cfg:={T:=cy,spec:=[(29,vF),(38,mG),(49,Cw),(50,Cx),(51,Ad),(54,yi),(55,D_),(56,CS)],aX:=aE.G Tryz.prog,eqs:=cx,N:=9,fuel:=64,fid:=53}
theorem agP:aF Tryz.prog V0:=aZ cz cC ⟨vZ,⟨m4,⟨EI,⟨Fj,⟨A3,⟨zz,⟨FC,⟨Em,trivial⟩⟩⟩⟩⟩⟩⟩⟩
def aoh {R:Type}:Inl R:= .mk 53 V0 [] Wd Tryz.f53.results.toList []
def MM {R:Type}:List (Nat×Hd R):=[(5,bC BA IX)]
def I0 {R:Type}:List (Nat×Inl R):=[(10,XQ),(28,aoh)]
def KN:Cfg:={T:=cy,spec:=[(29,vF),(38,mG),(49,Cw),(50,Cx),(51,Ad),(54,yi),(55,D_),(56,CS)],aX:=aE.G Tryz.prog,eqs:=cx,N:=42,fuel:=64,loops:=[(5,⟨[0,1,5,6,1000001,1000003,1000005,1000006,1000008,1000010], [],[0,1,2,3,4,5,6],7, [], [], [], []⟩)],blocks:=[(0,⟨[0,5,1000001,1000003,1000005,1000006,1000008,1000010], [],[0,1,2,3,4,5],6, [], [], [], []⟩)],fid:=52}
theorem afp:aF Tryz.prog KN:=aZ cz cC ⟨vZ,⟨m4,⟨EI,⟨Fj,⟨A3,⟨zz,⟨FC,⟨Em,trivial⟩⟩⟩⟩⟩⟩⟩⟩
theorem afo {R:Type}:aO Tryz.prog (R:=R) 2 I0:=bE Tryz.f100 akp acL (bw (by kernel_rfl)) afN (bF Tryz.f53 agP (aA _ _))
theorem ah2 {R:Type}:bA (R:=R) (hnd 2 I0) KN MM (sub [1,1,1,0,1,0,0] Gw) (HS.V BA) (HS.st BA) (HS.sh BA) IX (bC BA IX):=aM BA IX (fun _ _=>rfl) (by intro q v K;kernel_rfl)
theorem anA {R:Type}:aJ (R:=R) (hnd 2 I0) KN MM Gw:=aB (l:=[sub [1,1,1,0,1,0,0] Gw]) (by kernel_rfl) (aH (b:=sub [1,1,1,0,1,0,0] Gw) (rid:=5) (by kernel_rfl) (by kernel_rfl) ah2 (trivial))
def Z5 {R:Type}:Inl R:= .mk 52 KN MM Gw Tryz.f52.results.toList I0
def YP {R:Type}:List (Nat×Hd R):= []
def Uy {R:Type}:List (Nat×Inl R):=[(81,Z5)]
def W4:Cfg:={T:=cy,spec:=[(29,vF),(38,mG),(49,Cw),(50,Cx),(51,Ad),(54,yi),(55,D_),(56,CS)],aX:=aE.G Tryz.prog,eqs:=cx,N:=99,fuel:=64,fid:=18,fresh:=[(43,LA)]}
theorem ahv:aF Tryz.prog W4:=aZ cz cC ⟨vZ,⟨m4,⟨EI,⟨Fj,⟨A3,⟨zz,⟨FC,⟨Em,trivial⟩⟩⟩⟩⟩⟩⟩⟩ (fr:=⟨L7,trivial⟩)
theorem aos {R:Type}:aO Tryz.prog (R:=R) 3 Uy:=bE Tryz.f52 afp anA (bw (by kernel_rfl)) afo (aA _ _)
theorem adr {R:Type}:aJ (R:=R) (hnd 3 Uy) W4 YP alN:=aB (l:= []) (by kernel_rfl) (trivial)
theorem Hb:aS Tryz.prog 18 EU:=bl Tryz.f18 ahv nk (d:=3) aos adr (bw (by kernel_rfl)) (toY:=amZ)
def S3:List HV:=[.agg hW, .one (.int .i64)]
def OW:List HV:=[.agg hW, .one (.int .i64)]
def afn:HP.V S3→ao×Int:=fun v=>((cW v.1),v.2.1)
def aeK:HX.V OW→ao×Int:=fun v=>((cW v.1),v.2)
def ahw:(ao×Int)→HX.V OW:=fun y=>(uW y.1,y.2)
def adi:(ao×Int)→Option (ao×Int):=fun x=>cw x.1 x.2
def KJ:Spec:=aT S3 OW afn ahw adi
def XL:Cfg:={T:=cy,spec:=[(29,vF),(38,mG),(51,Ad),(54,yi),(56,CS)],aX:=aE.G Tryz.prog,eqs:=cx,N:=61,fuel:=64,fid:=20}
theorem am9:aF Tryz.prog XL:=aZ cz cC ⟨vZ,⟨m4,⟨A3,⟨zz,⟨Em,trivial⟩⟩⟩⟩⟩
theorem O8:aS Tryz.prog 20 KJ:=bV Tryz.f20 am9 nk (toY:=aeK)
def TS:List HV:=[.agg hW, .one (.int .i64), .one (.int .i64)]
def ON:List HV:=[.agg hW, .one (.int .i64)]
def alD:HP.V TS→ao×Int×Int:=fun v=>((cW v.1),v.2.1,v.2.2.1)
def aoe:HX.V ON→ao×Int:=fun v=>((cW v.1),v.2)
def ahH:(ao×Int)→HX.V ON:=fun y=>(uW y.1,y.2)
def Yd:(ao×Int×Int)→Option (ao×Int):=fun x=>cr x.1 x.2.1 x.2.2
def Ka:Spec:=aT TS ON alD ahH Yd
def aaF:Cfg:={T:=cy,spec:=[(29,vF),(38,mG),(44,La)],aX:=aE.G Tryz.prog,eqs:=cx,N:=34,fuel:=64,fid:=22}
theorem ahr:aF Tryz.prog aaF:=aZ cz cC ⟨vZ,⟨m4,⟨O3,trivial⟩⟩⟩
theorem Ns:aS Tryz.prog 22 Ka:=bV Tryz.f22 ahr nk (toY:=aoe)
def TG:List HV:=[.agg hW]
def P6:List HV:=[.agg hW]
def abr:HP.V TG→ao:=fun v=>((cW v.1))
def ao2:HX.V P6→ao:=fun v=>((cW v))
def alV:ao→HX.V P6:=fun y=>(uW y)
def amz:ao→Option (ao):=fun x=>bN x
def Q_:Spec:=aT TG P6 abr alV amz
def Y_:Cfg:={T:=cy,aX:=aE.G Tryz.prog,eqs:=cx,N:=6,fuel:=64,fid:=27}
theorem ajB:aF Tryz.prog Y_:=aZ cz cC trivial
theorem SY:aS Tryz.prog 27 Q_:=bV Tryz.f27 ajB nk (toY:=ao2)
def Dt:HS:=⟨[(0, .one (.sl .kept)),(1, .one (.clo 1)),(5, .one (.int .i64)),(1000000, .one (.sl .kept)),(1000003, .one (.ptr 0 0))],[(0, .cells [.fnc 71]),(1, .clo 112 [] [.ptr 0 0])],2⟩
def IA {R:Type}:Nat→HS.V Dt→(Ex→St→Option R)→Option R:=fun q v K=>
 cZ v.1.1 (K .ret {az:=[(4, .v (.one (.bool false))),(1000000, .v (.one (.sl .kept v.1.2.2.2.1))),(1000003, .v (.one (.ptr 0 0)))],mem:=[(0, .cells [.fnc 71])],nx:=1}) (K (.exit 0) {az:=[(1000000, .v (.one (.sl .kept v.1.2.2.2.1))),(1000003, .v (.one (.ptr 0 0)))],mem:=[(0, .cells [.fnc 71])],nx:=1}) q v.1.2.2.1
def Bh:HS:=⟨[(0, .one (.own 1)),(1, .one (.clo 2)),(5, .one (.int .i64)),(6, .one (.sub 1)),(7, .one (.int .i64)),(1000000, .one (.sl .kept)),(1000008, .one (.bool))],[(0, .cells [.fnc 71]),(1, .row .kept),(2, .clo 114 [] [.ptr 0 0])],3⟩
def LM {R:Type}:Nat→HS.V Bh→(Ex→St→Option R)→Option R:=fun q v K=>
 eL v.1.2.2.2.1.1 v.1.2.2.2.1.2 (fun y33 y36=>K (.exit 2) {az:=[(0, .v (.one (.own 1))),(5, .v (.one (.int .i64 y33))),(1000000, .v (.one (.sl .kept v.1.2.2.2.2.2.1))),(1000008, .v (.one (.bool v.1.2.2.2.2.2.2.1)))],mem:=[(1, .row .kept y36)],nx:=2}) q v.1.2.2.1 v.1.2.2.2.2.1 v.2.2.1
def A2:HS:=⟨[(0, .one (.own 1)),(1, .one (.clo 2)),(5, .one (.int .i64)),(1000000, .one (.sl .kept)),(1000008, .one (.bool))],[(0, .cells [.fnc 71]),(1, .row .kept),(2, .clo 114 [] [.ptr 0 0])],3⟩
def KV {R:Type}:Nat→HS.V A2→(Ex→St→Option R)→Option R:=fun q v K=>
 gd v.2.2.1 (fun y40 y43=>K .ret {az:=[(4, .v (.one (.sub 1 0 y40))),(1000000, .v (.one (.sl .kept v.1.2.2.2.1))),(1000008, .v (.one (.bool v.1.2.2.2.2.1)))],mem:=[(1, .row .kept y43)],nx:=2}) (K (.exit 0) {az:=[(0, .v (.one (.own 1))),(1000000, .v (.one (.sl .kept v.1.2.2.2.1))),(1000008, .v (.one (.bool v.1.2.2.2.2.1)))],mem:=[(1, .row .kept v.2.2.1)],nx:=2}) q v.1.2.2.1
def TJ:List HV:=[.one (.sl .kept), .one (.fnc 71)]
def Qq:List HV:=[.one (.bool)]
def acV:HP.V TJ→(List Kept):=fun v=>(v.1)
def aez:HX.V Qq→Bool:=fun v=>(v)
def acK:Bool→HX.V Qq:=fun y=>(y)
def ahV:(List Kept)→Option (Bool):=fun x=>il x
def Av:Spec:=aT TJ Qq acV acK ahV
def Vi:Cfg:={T:=cy,aX:=aE.G Tryz.prog,eqs:=cx,N:=6,fuel:=64,fid:=128}
theorem YT:aF Tryz.prog Vi:=aZ cz cC trivial
def aeM {R:Type}:Inl R:= .mk 128 Vi [] tc Tryz.f128.results.toList []
def Vf:Cfg:={T:=cy,aX:=aE.G Tryz.prog,eqs:=cx,N:=6,fuel:=64,fid:=128}
theorem abE:aF Tryz.prog Vf:=aZ cz cC trivial
def amY {R:Type}:Inl R:= .mk 128 Vf [] tc Tryz.f128.results.toList []
def V5 {R:Type}:List (Nat×Hd R):= []
def Ox {R:Type}:List (Nat×Inl R):=[(8,aeM),(10,amY)]
def Ow:Cfg:={T:=cy,aX:=aE.G Tryz.prog,eqs:=cx,N:=20,fuel:=64,fid:=91}
theorem alh:aF Tryz.prog Ow:=aZ cz cC trivial
theorem ad5 {R:Type}:aO Tryz.prog (R:=R) 1 Ox:=bF Tryz.f128 YT (bF Tryz.f128 abE (aA _ _))
theorem am7 {R:Type}:aJ (R:=R) (hnd 1 Ox) Ow V5 tf:=aB (l:= []) (by kernel_rfl) (trivial)
def ZH {R:Type}:Inl R:= .mk 91 Ow V5 tf Tryz.f91.results.toList Ox
def Ss {R:Type}:List (Nat×Hd R):= []
def P1 {R:Type}:List (Nat×Inl R):=[(12,ZH)]
def N1:Cfg:={T:=cy,spec:=[(71,JU)],aX:=aE.G Tryz.prog,eqs:=cx,N:=13,fuel:=64,fid:=112}
theorem aaM:aF Tryz.prog N1:=aZ cz cC ⟨NM,trivial⟩
theorem am8 {R:Type}:aO Tryz.prog (R:=R) 2 P1:=bE Tryz.f91 alh am7 (bw (by kernel_rfl)) ad5 (aA _ _)
theorem ZJ {R:Type}:aJ (R:=R) (hnd 2 P1) N1 Ss Wz:=aB (l:= []) (by kernel_rfl) (trivial)
def Zz {R:Type}:Inl R:= .mk 112 N1 Ss Wz Tryz.f112.results.toList P1
def Qz {R:Type}:List (Nat×Hd R):=[(2,bC Dt IA)]
def Lr {R:Type}:List (Nat×Inl R):=[(23,Zz)]
def Jr:Cfg:={T:=cy,aX:=aE.G Tryz.prog,eqs:=cx,N:=25,fuel:=64,loops:=[(2,⟨[0,1,5,1000000,1000003], [],[0,1],2, [], [], [], []⟩)],blocks:=[(0,⟨[1000000,1000003], [],[0],1, [], [], [], []⟩)],eX:=some ⟨[4,1000000,1000003], [],[0],1, [], [], [], []⟩,fid:=111,cl:=[13]}
theorem XR:aF Tryz.prog Jr:=aZ cz cC trivial
theorem akM {R:Type}:aO Tryz.prog (R:=R) 3 Lr:=bE Tryz.f112 aaM ZJ (bw (by kernel_rfl)) am8 (aA _ _)
theorem aes {R:Type}:bA (R:=R) (hnd 3 Lr) Jr Qz (sub [1,0,1,0,0] GY) (HS.V Dt) (HS.st Dt) (HS.sh Dt) IA (bC Dt IA):=aM Dt IA (fun _ _=>rfl) (by intro q v K;kernel_rfl)
theorem adV {R:Type}:aJ (R:=R) (hnd 3 Lr) Jr Qz GY:=aB (l:=[sub [1,0,1,0,0] GY]) (by kernel_rfl) (aH (b:=sub [1,0,1,0,0] GY) (rid:=2) (by kernel_rfl) (by kernel_rfl) aes (trivial))
def amD {R:Type}:Inl R:= .mk 111 Jr Qz GY Tryz.f111.results.toList Lr
def WZ:Cfg:={T:=cy,spec:=[(71,JU)],aX:=aE.G Tryz.prog,eqs:=cx,N:=13,fuel:=64,fid:=114}
theorem ahP:aF Tryz.prog WZ:=aZ cz cC ⟨NM,trivial⟩
def acg {R:Type}:Inl R:= .mk 114 WZ [] VF Tryz.f114.results.toList []
def SX:Cfg:={T:=cy,spec:=[(71,JU)],aX:=aE.G Tryz.prog,eqs:=cx,N:=13,fuel:=64,fid:=114}
theorem akb:aF Tryz.prog SX:=aZ cz cC ⟨NM,trivial⟩
def afC {R:Type}:Inl R:= .mk 114 SX [] VF Tryz.f114.results.toList []
def JM {R:Type}:List (Nat×Hd R):=[(4,bC A2 KV),(9,bC Bh LM)]
def FI {R:Type}:List (Nat×Inl R):=[(28,acg),(48,afC)]
def Gx:Cfg:={T:=cy,aX:=aE.G Tryz.prog,eqs:=cx,N:=66,fuel:=64,loops:=[(9,⟨[0,1,5,6,7,1000000,1000008], [],[0,1,2],3, [], [], [], []⟩),(4,⟨[0,1,5,1000000,1000008], [],[0,1,2],3, [], [], [], []⟩)],blocks:=[(0,⟨[0,1000000,1000008], [],[1],2, [], [], [], []⟩),(1,⟨[0,1,5,1000000,1000008], [],[0,1,2],3, [], [], [], []⟩),(2,⟨[0,5,1000000,1000008], [],[1],2, [], [], [], []⟩)],eX:=some ⟨[4,1000000,1000008], [],[1],2, [], [], [], []⟩,fid:=113,cl:=[18,38]}
theorem alT:aF Tryz.prog Gx:=aZ cz cC trivial
theorem ao0 {R:Type}:aO Tryz.prog (R:=R) 3 FI:=bF Tryz.f114 ahP (bF Tryz.f114 akb (aA _ _))
theorem ala {R:Type}:bA (R:=R) (hnd 3 FI) Gx JM (sub [1,1,0,1,0,0] Aj) (HS.V A2) (HS.st A2) (HS.sh A2) KV (bC A2 KV):=aM A2 KV (fun _ _=>rfl) (by intro q v K;kernel_rfl)
theorem Yv {R:Type}:bA (R:=R) (hnd 3 FI) Gx JM (sub [1,1,0,1,0,0,1,0,0,1,0,1,0,1,0,0] Aj) (HS.V Bh) (HS.st Bh) (HS.sh Bh) LM (bC Bh LM):=aM Bh LM (fun _ _=>rfl) (by intro q v K;kernel_rfl)
theorem aaP {R:Type}:aJ (R:=R) (hnd 3 FI) Gx JM Aj:=aB (l:=[sub [1,1,0,1,0,0] Aj,sub [1,1,0,1,0,0,1,0,0,1,0,1,0,1,0,0] Aj]) (by kernel_rfl) (aH (b:=sub [1,1,0,1,0,0] Aj) (rid:=4) (by kernel_rfl) (by kernel_rfl) ala (aH (b:=sub [1,1,0,1,0,0,1,0,0,1,0,1,0,1,0,0] Aj) (rid:=9) (by kernel_rfl) (by kernel_rfl) Yv (trivial)))
def aeA {R:Type}:Inl R:= .mk 113 Gx JM Aj Tryz.f113.results.toList FI
def adW {R:Type}:List (Nat×Hd R):= []
def Tl {R:Type}:List (Nat×Inl R):=[(7,amD),(12,aeA)]
def UO:Cfg:={T:=cy,aX:=aE.G Tryz.prog,eqs:=cx,N:=18,fuel:=64,fid:=73,fresh:=[(95,IV)]}
theorem adY:aF Tryz.prog UO:=aZ cz cC trivial (fr:=⟨N_,trivial⟩)
theorem aoM {R:Type}:aO Tryz.prog (R:=R) 4 Tl:=bE Tryz.f111 XR adV (bw (by kernel_rfl)) akM (bE Tryz.f113 alT aaP (bw (by kernel_rfl)) ao0 (aA _ _))
theorem Xx {R:Type}:aJ (R:=R) (hnd 4 Tl) UO adW ae0:=aB (l:= []) (by kernel_rfl) (trivial)
theorem Bn:aS Tryz.prog 73 Av:=bl Tryz.f73 adY nk (d:=4) aoM Xx (bw (by kernel_rfl)) (toY:=aez)
def Di:HS:=⟨[(0, .one (.sl .aL)),(1, .one (.clo 1)),(5, .one (.int .i64)),(1000000, .one (.sl .aL)),(1000003, .one (.ptr 0 0))],[(0, .cells [.fnc 41]),(1, .clo 116 [] [.ptr 0 0])],2⟩
def K8 {R:Type}:Nat→HS.V Di→(Ex→St→Option R)→Option R:=fun q v K=>
 cT v.1.1 (K .ret {az:=[(4, .v (.one (.bool false))),(1000000, .v (.one (.sl .aL v.1.2.2.2.1))),(1000003, .v (.one (.ptr 0 0)))],mem:=[(0, .cells [.fnc 41])],nx:=1}) (K (.exit 0) {az:=[(1000000, .v (.one (.sl .aL v.1.2.2.2.1))),(1000003, .v (.one (.ptr 0 0)))],mem:=[(0, .cells [.fnc 41])],nx:=1}) q v.1.2.2.1
def B9:HS:=⟨[(0, .one (.own 1)),(1, .one (.clo 2)),(5, .one (.int .i64)),(6, .one (.sub 1)),(7, .one (.int .i64)),(1000000, .one (.sl .aL)),(1000008, .one (.bool))],[(0, .cells [.fnc 41]),(1, .row .aL),(2, .clo 118 [] [.ptr 0 0])],3⟩
def Kv {R:Type}:Nat→HS.V B9→(Ex→St→Option R)→Option R:=fun q v K=>
 dX v.1.2.2.2.1.1 v.1.2.2.2.1.2 (fun y33 y36=>K (.exit 2) {az:=[(0, .v (.one (.own 1))),(5, .v (.one (.int .i64 y33))),(1000000, .v (.one (.sl .aL v.1.2.2.2.2.2.1))),(1000008, .v (.one (.bool v.1.2.2.2.2.2.2.1)))],mem:=[(1, .row .aL y36)],nx:=2}) q v.1.2.2.1 v.1.2.2.2.2.1 v.2.2.1
def CI:HS:=⟨[(0, .one (.own 1)),(1, .one (.clo 2)),(5, .one (.int .i64)),(1000000, .one (.sl .aL)),(1000008, .one (.bool))],[(0, .cells [.fnc 41]),(1, .row .aL),(2, .clo 118 [] [.ptr 0 0])],3⟩
def Ik {R:Type}:Nat→HS.V CI→(Ex→St→Option R)→Option R:=fun q v K=>
 fC v.2.2.1 (fun y40 y43=>K .ret {az:=[(4, .v (.one (.sub 1 0 y40))),(1000000, .v (.one (.sl .aL v.1.2.2.2.1))),(1000008, .v (.one (.bool v.1.2.2.2.2.1)))],mem:=[(1, .row .aL y43)],nx:=2}) (K (.exit 0) {az:=[(0, .v (.one (.own 1))),(1000000, .v (.one (.sl .aL v.1.2.2.2.1))),(1000008, .v (.one (.bool v.1.2.2.2.2.1)))],mem:=[(1, .row .aL v.2.2.1)],nx:=2}) q v.1.2.2.1
def VS:List HV:=[.one (.sl .aL), .one (.fnc 41)]
def Nr:List HV:=[.one (.bool)]
def acu:HP.V VS→(List ae):=fun v=>(v.1)
def Zq:HX.V Nr→Bool:=fun v=>(v)
def afk:Bool→HX.V Nr:=fun y=>(y)
def ak0:(List ae)→Option (Bool):=fun x=>gO x
def z_:Spec:=aT VS Nr acu afk ak0
def Vw:Cfg:={T:=cy,aX:=aE.G Tryz.prog,eqs:=cx,N:=6,fuel:=64,fid:=128}
theorem ZE:aF Tryz.prog Vw:=aZ cz cC trivial
def Xw {R:Type}:Inl R:= .mk 128 Vw [] tc Tryz.f128.results.toList []
def VL:Cfg:={T:=cy,aX:=aE.G Tryz.prog,eqs:=cx,N:=6,fuel:=64,fid:=128}
theorem aka:aF Tryz.prog VL:=aZ cz cC trivial
def afg {R:Type}:Inl R:= .mk 128 VL [] tc Tryz.f128.results.toList []
def Uu {R:Type}:List (Nat×Hd R):= []
def N6 {R:Type}:List (Nat×Inl R):=[(8,Xw),(10,afg)]
def Nv:Cfg:={T:=cy,aX:=aE.G Tryz.prog,eqs:=cx,N:=20,fuel:=64,fid:=91}
theorem abD:aF Tryz.prog Nv:=aZ cz cC trivial
theorem amR {R:Type}:aO Tryz.prog (R:=R) 1 N6:=bF Tryz.f128 ZE (bF Tryz.f128 aka (aA _ _))
theorem aiR {R:Type}:aJ (R:=R) (hnd 1 N6) Nv Uu tf:=aB (l:= []) (by kernel_rfl) (trivial)
def aiT {R:Type}:Inl R:= .mk 91 Nv Uu tf Tryz.f91.results.toList N6
def Xp {R:Type}:List (Nat×Hd R):= []
def P9 {R:Type}:List (Nat×Inl R):=[(12,aiT)]
def NL:Cfg:={T:=cy,spec:=[(41,J9)],aX:=aE.G Tryz.prog,eqs:=cx,N:=13,fuel:=64,fid:=116}
theorem ae5:aF Tryz.prog NL:=aZ cz cC ⟨QA,trivial⟩
theorem alB {R:Type}:aO Tryz.prog (R:=R) 2 P9:=bE Tryz.f91 abD aiR (bw (by kernel_rfl)) amR (aA _ _)
theorem aln {R:Type}:aJ (R:=R) (hnd 2 P9) NL Xp UF:=aB (l:= []) (by kernel_rfl) (trivial)
def ajE {R:Type}:Inl R:= .mk 116 NL Xp UF Tryz.f116.results.toList P9
def QU {R:Type}:List (Nat×Hd R):=[(2,bC Di K8)]
def I5 {R:Type}:List (Nat×Inl R):=[(23,ajE)]
def HY:Cfg:={T:=cy,aX:=aE.G Tryz.prog,eqs:=cx,N:=25,fuel:=64,loops:=[(2,⟨[0,1,5,1000000,1000003], [],[0,1],2, [], [], [], []⟩)],blocks:=[(0,⟨[1000000,1000003], [],[0],1, [], [], [], []⟩)],eX:=some ⟨[4,1000000,1000003], [],[0],1, [], [], [], []⟩,fid:=115,cl:=[13]}
theorem ac7:aF Tryz.prog HY:=aZ cz cC trivial
theorem akn {R:Type}:aO Tryz.prog (R:=R) 3 I5:=bE Tryz.f116 ae5 aln (bw (by kernel_rfl)) alB (aA _ _)
theorem X7 {R:Type}:bA (R:=R) (hnd 3 I5) HY QU (sub [1,0,1,0,0] Fx) (HS.V Di) (HS.st Di) (HS.sh Di) K8 (bC Di K8):=aM Di K8 (fun _ _=>rfl) (by intro q v K;kernel_rfl)
theorem X1 {R:Type}:aJ (R:=R) (hnd 3 I5) HY QU Fx:=aB (l:=[sub [1,0,1,0,0] Fx]) (by kernel_rfl) (aH (b:=sub [1,0,1,0,0] Fx) (rid:=2) (by kernel_rfl) (by kernel_rfl) X7 (trivial))
def XW {R:Type}:Inl R:= .mk 115 HY QU Fx Tryz.f115.results.toList I5
def Ug:Cfg:={T:=cy,spec:=[(41,J9)],aX:=aE.G Tryz.prog,eqs:=cx,N:=13,fuel:=64,fid:=118}
theorem aba:aF Tryz.prog Ug:=aZ cz cC ⟨QA,trivial⟩
def abI {R:Type}:Inl R:= .mk 118 Ug [] VK Tryz.f118.results.toList []
def TB:Cfg:={T:=cy,spec:=[(41,J9)],aX:=aE.G Tryz.prog,eqs:=cx,N:=13,fuel:=64,fid:=118}
theorem aaN:aF Tryz.prog TB:=aZ cz cC ⟨QA,trivial⟩
def amf {R:Type}:Inl R:= .mk 118 TB [] VK Tryz.f118.results.toList []
def Lv {R:Type}:List (Nat×Hd R):=[(4,bC CI Ik),(9,bC B9 Kv)]
def GI {R:Type}:List (Nat×Inl R):=[(28,abI),(48,amf)]
def Gt:Cfg:={T:=cy,aX:=aE.G Tryz.prog,eqs:=cx,N:=66,fuel:=64,loops:=[(9,⟨[0,1,5,6,7,1000000,1000008], [],[0,1,2],3, [], [], [], []⟩),(4,⟨[0,1,5,1000000,1000008], [],[0,1,2],3, [], [], [], []⟩)],blocks:=[(0,⟨[0,1000000,1000008], [],[1],2, [], [], [], []⟩),(1,⟨[0,1,5,1000000,1000008], [],[0,1,2],3, [], [], [], []⟩),(2,⟨[0,5,1000000,1000008], [],[1],2, [], [], [], []⟩)],eX:=some ⟨[4,1000000,1000008], [],[1],2, [], [], [], []⟩,fid:=117,cl:=[18,38]}
theorem acn:aF Tryz.prog Gt:=aZ cz cC trivial
theorem aor {R:Type}:aO Tryz.prog (R:=R) 3 GI:=bF Tryz.f118 aba (bF Tryz.f118 aaN (aA _ _))
theorem aiN {R:Type}:bA (R:=R) (hnd 3 GI) Gt Lv (sub [1,1,0,1,0,0] zm) (HS.V CI) (HS.st CI) (HS.sh CI) Ik (bC CI Ik):=aM CI Ik (fun _ _=>rfl) (by intro q v K;kernel_rfl)
theorem anJ {R:Type}:bA (R:=R) (hnd 3 GI) Gt Lv (sub [1,1,0,1,0,0,1,0,0,1,0,1,0,1,0,0] zm) (HS.V B9) (HS.st B9) (HS.sh B9) Kv (bC B9 Kv):=aM B9 Kv (fun _ _=>rfl) (by intro q v K;kernel_rfl)
theorem XN {R:Type}:aJ (R:=R) (hnd 3 GI) Gt Lv zm:=aB (l:=[sub [1,1,0,1,0,0] zm,sub [1,1,0,1,0,0,1,0,0,1,0,1,0,1,0,0] zm]) (by kernel_rfl) (aH (b:=sub [1,1,0,1,0,0] zm) (rid:=4) (by kernel_rfl) (by kernel_rfl) aiN (aH (b:=sub [1,1,0,1,0,0,1,0,0,1,0,1,0,1,0,0] zm) (rid:=9) (by kernel_rfl) (by kernel_rfl) anJ (trivial)))
def abG {R:Type}:Inl R:= .mk 117 Gt Lv zm Tryz.f117.results.toList GI
def ahj {R:Type}:List (Nat×Hd R):= []
def R_ {R:Type}:List (Nat×Inl R):=[(7,XW),(12,abG)]
def TF:Cfg:={T:=cy,aX:=aE.G Tryz.prog,eqs:=cx,N:=18,fuel:=64,fid:=74,fresh:=[(43,LA)]}
theorem aaV:aF Tryz.prog TF:=aZ cz cC trivial (fr:=⟨L7,trivial⟩)
theorem Xz {R:Type}:aO Tryz.prog (R:=R) 4 R_:=bE Tryz.f115 ac7 X1 (bw (by kernel_rfl)) akn (bE Tryz.f117 acn XN (bw (by kernel_rfl)) aor (aA _ _))
theorem agE {R:Type}:aJ (R:=R) (hnd 4 R_) TF ahj akt:=aB (l:= []) (by kernel_rfl) (trivial)
theorem Cl:aS Tryz.prog 74 z_:=bl Tryz.f74 aaV nk (d:=4) Xz agE (bw (by kernel_rfl)) (toY:=Zq)
def CJ:HS:=⟨[(0, .one (.sl .kept)),(1, .one (.clo 3)),(7, .one (.int .i64)),(8, .one (.int .i64)),(2000003, .one (.ptr 1 0))],[(1, .cells hIn),(3, .clo 119 [] [.ptr 1 0])],4⟩
def H2 {R:Type}:Nat→HS.V CJ→(Ex→St→Option R)→Option R:=fun q v K=>
 eT v.1.1 v.1.2.2.1 (cIn v.2.1) (fun y7=>K .ret {az:=[(4, .v (.one (.int .i64 y7))),(2000003, .v (.one (.ptr 1 0)))],mem:=[(1, .cells (rIn (cIn v.2.1)))],nx:=2}) (K (.exit 0) {az:=[(2000003, .v (.one (.ptr 1 0)))],mem:=[(1, .cells (rIn (cIn v.2.1)))],nx:=2}) q v.1.2.2.2.1
def TA:List HV:=[.agg hW, .agg hIn]
def Rf:List HV:=[.one (.bool)]
def agF:HP.V TA→ao×ae:=fun v=>((cW v.1),(cIn v.2.1))
def amx:HX.V Rf→Bool:=fun v=>(v)
def aa_:Bool→HX.V Rf:=fun y=>(y)
def agO:(ao×ae)→Option (Bool):=fun x=>jb x.1 x.2
def Xe:Spec:=aT TA Rf agF aa_ agO
def Uh:Cfg:={T:=cy,spec:=[(38,mG)],aX:=aE.G Tryz.prog,eqs:=cx,N:=14,fuel:=64,fid:=119}
theorem aeJ:aF Tryz.prog Uh:=aZ cz cC ⟨m4,trivial⟩
def agw {R:Type}:Inl R:= .mk 119 Uh [] adQ Tryz.f119.results.toList []
def OZ {R:Type}:List (Nat×Hd R):=[(2,bC CJ H2)]
def HU {R:Type}:List (Nat×Inl R):=[(16,agw)]
def KP:Cfg:={T:=cy,spec:=[(38,mG)],aX:=aE.G Tryz.prog,eqs:=cx,N:=19,fuel:=64,loops:=[(2,⟨[0,1,7,8,2000003], [],[1,3],4, [], [], [], []⟩)],blocks:=[(0,⟨[2000003], [],[1],2, [], [], [], []⟩)],eX:=some ⟨[4,2000003], [],[1],2, [], [], [], []⟩,fid:=121}
theorem ag4:aF Tryz.prog KP:=aZ cz cC ⟨m4,trivial⟩
theorem ajm {R:Type}:aO Tryz.prog (R:=R) 1 HU:=bF Tryz.f119 aeJ (aA _ _)
theorem aoX {R:Type}:bA (R:=R) (hnd 1 HU) KP OZ (sub [1,0,1,0,0] qd) (HS.V CJ) (HS.st CJ) (HS.sh CJ) H2 (bC CJ H2):=aM CJ H2 (fun _ _=>rfl) (by intro q v K;kernel_rfl)
theorem agu {R:Type}:aJ (R:=R) (hnd 1 HU) KP OZ qd:=aB (l:=[sub [1,0,1,0,0] qd]) (by kernel_rfl) (aH (b:=sub [1,0,1,0,0] qd) (rid:=2) (by kernel_rfl) (by kernel_rfl) aoX (trivial))
def an7 {R:Type}:Inl R:= .mk 121 KP OZ qd Tryz.f121.results.toList HU
def R4 {R:Type}:List (Nat×Hd R):= []
def Q3 {R:Type}:List (Nat×Inl R):=[(7,an7)]
def QE:Cfg:={T:=cy,spec:=[(38,mG)],aX:=aE.G Tryz.prog,eqs:=cx,N:=9,fuel:=64,fid:=78}
theorem YS:aF Tryz.prog QE:=aZ cz cC ⟨m4,trivial⟩
theorem adS {R:Type}:aO Tryz.prog (R:=R) 2 Q3:=bE Tryz.f121 ag4 agu (bw (by kernel_rfl)) ajm (aA _ _)
theorem ajU {R:Type}:aJ (R:=R) (hnd 2 Q3) QE R4 JN:=aB (l:= []) (by kernel_rfl) (trivial)
def ain {R:Type}:Inl R:= .mk 78 QE R4 JN Tryz.f78.results.toList Q3
def R0 {R:Type}:List (Nat×Hd R):= []
def ML {R:Type}:List (Nat×Inl R):= []
def Qg:Cfg:={T:=cy,spec:=[(38,mG),(162,cG)],aX:=aE.G Tryz.prog,eqs:=cx,N:=143,fuel:=64,eX:=some ⟨[4,3000066], [], [],0, [], [], [], []⟩,fid:=154}
theorem adg:aF Tryz.prog Qg:=aZ cz cC ⟨m4,⟨dC,trivial⟩⟩
theorem abH {R:Type}:aO Tryz.prog (R:=R) 0 ML:=aA _ _
theorem aiU {R:Type}:aJ (R:=R) (hnd 0 ML) Qg R0 Iq:=aB (l:=[sub [1,1,1,1,1,1,1,1,0,0,0] Iq]) (by kernel_rfl) (gw (b:=sub [1,1,1,1,1,1,1,1,0,0,0] Iq) (rid:=15) (by kernel_rfl) (by kernel_rfl) (trivial))
def aca {R:Type}:Inl R:= .mk 154 Qg R0 Iq Tryz.f154.results.toList ML
def WV {R:Type}:List (Nat×Hd R):= []
def PW {R:Type}:List (Nat×Inl R):=[(7,aca)]
def L1:Cfg:={T:=cy,spec:=[(38,mG)],aX:=aE.G Tryz.prog,eqs:=cx,N:=8,fuel:=64,fid:=140}
theorem agh:aF Tryz.prog L1:=aZ cz cC ⟨m4,trivial⟩
theorem anc {R:Type}:aO Tryz.prog (R:=R) 1 PW:=bE Tryz.f154 adg aiU (bw (by kernel_rfl)) abH (aA _ _)
theorem alX {R:Type}:aJ (R:=R) (hnd 1 PW) L1 WV UB:=aB (l:= []) (by kernel_rfl) (trivial)
def akc {R:Type}:Inl R:= .mk 140 L1 WV UB Tryz.f140.results.toList PW
def Wv {R:Type}:List (Nat×Hd R):= []
def NV {R:Type}:List (Nat×Inl R):=[(7,akc)]
def Md:Cfg:={T:=cy,spec:=[(38,mG)],aX:=aE.G Tryz.prog,eqs:=cx,N:=9,fuel:=64,fid:=120}
theorem anR:aF Tryz.prog Md:=aZ cz cC ⟨m4,trivial⟩
theorem alv {R:Type}:aO Tryz.prog (R:=R) 2 NV:=bE Tryz.f140 agh alX (bw (by kernel_rfl)) anc (aA _ _)
theorem ag6 {R:Type}:aJ (R:=R) (hnd 2 NV) Md Wv V_:=aB (l:= []) (by kernel_rfl) (trivial)
def acx {R:Type}:Inl R:= .mk 120 Md Wv V_ Tryz.f120.results.toList NV
def adN {R:Type}:List (Nat×Hd R):= []
def VB {R:Type}:List (Nat×Inl R):=[(49,ain),(69,acx)]
def U_:Cfg:={T:=cy,spec:=[(38,mG)],aX:=aE.G Tryz.prog,eqs:=cx,N:=80,fuel:=64,fid:=77}
theorem amP:aF Tryz.prog U_:=aZ cz cC ⟨m4,trivial⟩
theorem abQ {R:Type}:aO Tryz.prog (R:=R) 3 VB:=bE Tryz.f78 YS ajU (bw (by kernel_rfl)) adS (bE Tryz.f120 anR ag6 (bw (by kernel_rfl)) alv (aA _ _))
theorem agk {R:Type}:aJ (R:=R) (hnd 3 VB) U_ adN ajO:=aB (l:= []) (by kernel_rfl) (trivial)
theorem aoa:aS Tryz.prog 77 Xe:=bl Tryz.f77 amP nk (d:=3) abQ agk (bw (by kernel_rfl)) (toY:=amx)
def Vb:List HV:=[.agg hW, .agg [.int .i64, .int .i64, .bool, .str]]
def PH:List HV:=[.one (.bool)]
def acR:HP.V Vb→ao×Kept:=fun v=>((cW v.1),(⟨v.2.1.1,v.2.1.2.1,v.2.1.2.2.1,v.2.1.2.2.2.1⟩:Kept))
def amy:HX.V PH→Bool:=fun v=>(v)
def ab5:Bool→HX.V PH:=fun y=>(y)
def adZ:(ao×Kept)→Option (Bool):=fun x=>jI x.1 x.2
def Rl:Spec:=aT Vb PH acR ab5 adZ
def ag2:Cfg:={T:=cy,spec:=[(50,Cx)],aX:=aE.G Tryz.prog,eqs:=cx,N:=44,fuel:=64,fid:=80}
theorem aij:aF Tryz.prog ag2:=aZ cz cC ⟨Fj,trivial⟩
theorem ab6:aS Tryz.prog 80 Rl:=bV Tryz.f80 aij nk (toY:=amy)
def Dn:HS:=⟨[(0, .one (.sl .aL)),(1, .one (.clo 1)),(7, .one (.int .i64)),(8, .one (.int .i64)),(2000001, .one (.ptr 0 0))],[(0, .cells hW),(1, .clo 76 [] [.ptr 0 0])],2⟩
def Km {R:Type}:Nat→HS.V Dn→(Ex→St→Option R)→Option R:=fun q v K=>
 hZ v.1.1 v.1.2.2.1 (cW v.2.1) (fun y10=>K .ret {az:=[(4, .v (.one (.int .i64 y10))),(2000001, .v (.one (.ptr 0 0)))],mem:=[(0, .cells [.int .i64 ((cW v.2.1).fs.ar), .int .i64 ((cW v.2.1).fs.aw), .int .i64 ((cW v.2.1).fs.next), .sl .aL ((cW v.2.1).fs.aa), .sl .kept ((cW v.2.1).al.kept), .sl .aL ((cW v.2.1).al.aI)])],nx:=1}) (K (.exit 0) {az:=[(2000001, .v (.one (.ptr 0 0)))],mem:=[(0, .cells [.int .i64 ((cW v.2.1).fs.ar), .int .i64 ((cW v.2.1).fs.aw), .int .i64 ((cW v.2.1).fs.next), .sl .aL ((cW v.2.1).fs.aa), .sl .kept ((cW v.2.1).al.kept), .sl .aL ((cW v.2.1).al.aI)])],nx:=1}) q v.1.2.2.2.1
def BG:HS:=⟨[(0, .one (.sl .kept)),(1, .one (.clo 1)),(7, .one (.int .i64)),(8, .one (.int .i64)),(2000027, .one (.bool))],[(0, .cells hW),(1, .clo 79 [] [.ptr 0 0])],2⟩
def Ku {R:Type}:Nat→HS.V BG→(Ex→St→Option R)→Option R:=fun q v K=>
 fl v.1.1 v.1.2.2.1 (cW v.2.1) (fun y21=>K .ret {az:=[(4, .v (.one (.int .i64 y21))),(2000027, .v (.one (.bool v.1.2.2.2.2.1)))],mem:= [],nx:=0}) (K (.exit 0) {az:=[(2000027, .v (.one (.bool v.1.2.2.2.2.1)))],mem:= [],nx:=0}) q v.1.2.2.2.1
def TR:List HV:=[.agg hW]
def N7:List HV:=[.one (.bool)]
def akr:HP.V TR→ao:=fun v=>((cW v.1))
def ah3:HX.V N7→Bool:=fun v=>(v)
def agi:Bool→HX.V N7:=fun y=>(y)
def ZU:ao→Option (Bool):=fun x=>iE x
def WJ:Spec:=aT TR N7 akr agi ZU
def U6:Cfg:={T:=cy,spec:=[(72,Ap),(73,Av),(74,z_),(77,Xe)],aX:=aE.G Tryz.prog,eqs:=cx,N:=8,fuel:=64,fid:=76}
theorem aef:aF Tryz.prog U6:=aZ cz cC ⟨Bg,⟨Bn,⟨Cl,⟨aoa,trivial⟩⟩⟩⟩
def aj1 {R:Type}:Inl R:= .mk 76 U6 [] alC Tryz.f76.results.toList []
def OP {R:Type}:List (Nat×Hd R):=[(2,bC Dn Km)]
def JO {R:Type}:List (Nat×Inl R):=[(16,aj1)]
def I1:Cfg:={T:=cy,spec:=[(72,Ap),(73,Av),(74,z_)],aX:=aE.G Tryz.prog,eqs:=cx,N:=19,fuel:=64,loops:=[(2,⟨[0,1,7,8,2000001], [],[0,1],2, [], [], [], []⟩)],blocks:=[(0,⟨[2000001], [],[0],1, [], [], [], []⟩)],eX:=some ⟨[4,2000001], [],[0],1, [], [], [], []⟩,fid:=100}
theorem abM:aF Tryz.prog I1:=aZ cz cC ⟨Bg,⟨Bn,⟨Cl,trivial⟩⟩⟩
theorem ael {R:Type}:aO Tryz.prog (R:=R) 1 JO:=bF Tryz.f76 aef (aA _ _)
theorem aaR {R:Type}:bA (R:=R) (hnd 1 JO) I1 OP (sub [1,0,1,0,0] vT) (HS.V Dn) (HS.st Dn) (HS.sh Dn) Km (bC Dn Km):=aM Dn Km (fun _ _=>rfl) (by intro q v K;kernel_rfl)
theorem ajf {R:Type}:aJ (R:=R) (hnd 1 JO) I1 OP vT:=aB (l:=[sub [1,0,1,0,0] vT]) (by kernel_rfl) (aH (b:=sub [1,0,1,0,0] vT) (rid:=2) (by kernel_rfl) (by kernel_rfl) aaR (trivial))
def aly {R:Type}:Inl R:= .mk 100 I1 OP vT Tryz.f100.results.toList JO
def TZ {R:Type}:List (Nat×Hd R):= []
def L9 {R:Type}:List (Nat×Inl R):=[(7,aly)]
def Pu:Cfg:={T:=cy,spec:=[(72,Ap),(73,Av),(74,z_)],aX:=aE.G Tryz.prog,eqs:=cx,N:=9,fuel:=64,fid:=75}
theorem adv:aF Tryz.prog Pu:=aZ cz cC ⟨Bg,⟨Bn,⟨Cl,trivial⟩⟩⟩
theorem aae {R:Type}:aO Tryz.prog (R:=R) 2 L9:=bE Tryz.f100 abM ajf (bw (by kernel_rfl)) ael (aA _ _)
theorem YQ {R:Type}:aJ (R:=R) (hnd 2 L9) Pu TZ Wx:=aB (l:= []) (by kernel_rfl) (trivial)
def aoY {R:Type}:Inl R:= .mk 75 Pu TZ Wx Tryz.f75.results.toList L9
def U9:Cfg:={T:=cy,spec:=[(72,Ap),(73,Av),(74,z_),(80,Rl)],aX:=aE.G Tryz.prog,eqs:=cx,N:=8,fuel:=64,fid:=79}
theorem YJ:aF Tryz.prog U9:=aZ cz cC ⟨Bg,⟨Bn,⟨Cl,⟨ab6,trivial⟩⟩⟩⟩
def af3 {R:Type}:Inl R:= .mk 79 U9 [] XT Tryz.f79.results.toList []
def Ot {R:Type}:List (Nat×Hd R):=[(2,bC BG Ku)]
def I3 {R:Type}:List (Nat×Inl R):=[(16,af3)]
def Ke:Cfg:={T:=cy,spec:=[(72,Ap),(73,Av),(74,z_)],aX:=aE.G Tryz.prog,eqs:=cx,N:=19,fuel:=64,loops:=[(2,⟨[0,1,7,8,2000027], [],[0,1],2, [], [], [], []⟩)],blocks:=[(0,⟨[2000027], [], [],0, [], [], [], []⟩)],eX:=some ⟨[4,2000027], [], [],0, [], [], [], []⟩,fid:=121}
theorem ape:aF Tryz.prog Ke:=aZ cz cC ⟨Bg,⟨Bn,⟨Cl,trivial⟩⟩⟩
theorem Y0 {R:Type}:aO Tryz.prog (R:=R) 1 I3:=bF Tryz.f79 YJ (aA _ _)
theorem Yh {R:Type}:bA (R:=R) (hnd 1 I3) Ke Ot (sub [1,0,1,0,0] qd) (HS.V BG) (HS.st BG) (HS.sh BG) Ku (bC BG Ku):=aM BG Ku (fun _ _=>rfl) (by intro q v K;kernel_rfl)
theorem Ya {R:Type}:aJ (R:=R) (hnd 1 I3) Ke Ot qd:=aB (l:=[sub [1,0,1,0,0] qd]) (by kernel_rfl) (aH (b:=sub [1,0,1,0,0] qd) (rid:=2) (by kernel_rfl) (by kernel_rfl) Yh (trivial))
def anS {R:Type}:Inl R:= .mk 121 Ke Ot qd Tryz.f121.results.toList I3
def Us {R:Type}:List (Nat×Hd R):= []
def MP {R:Type}:List (Nat×Inl R):=[(7,anS)]
def My:Cfg:={T:=cy,spec:=[(72,Ap),(73,Av),(74,z_)],aX:=aE.G Tryz.prog,eqs:=cx,N:=9,fuel:=64,fid:=78}
theorem agG:aF Tryz.prog My:=aZ cz cC ⟨Bg,⟨Bn,⟨Cl,trivial⟩⟩⟩
theorem Yi {R:Type}:aO Tryz.prog (R:=R) 2 MP:=bE Tryz.f121 ape Ya (bw (by kernel_rfl)) Y0 (aA _ _)
theorem Z_ {R:Type}:aJ (R:=R) (hnd 2 MP) My Us JN:=aB (l:= []) (by kernel_rfl) (trivial)
def aeL {R:Type}:Inl R:= .mk 78 My Us JN Tryz.f78.results.toList MP
def aoz {R:Type}:List (Nat×Hd R):= []
def RC {R:Type}:List (Nat×Inl R):=[(25,aoY),(32,aeL)]
def Uj:Cfg:={T:=cy,spec:=[(72,Ap),(73,Av),(74,z_)],aX:=aE.G Tryz.prog,eqs:=cx,N:=35,fuel:=64,fid:=30}
theorem aas:aF Tryz.prog Uj:=aZ cz cC ⟨Bg,⟨Bn,⟨Cl,trivial⟩⟩⟩
theorem anQ {R:Type}:aO Tryz.prog (R:=R) 3 RC:=bE Tryz.f75 adv YQ (bw (by kernel_rfl)) aae (bE Tryz.f78 agG Z_ (bw (by kernel_rfl)) Yi (aA _ _))
theorem aif {R:Type}:aJ (R:=R) (hnd 3 RC) Uj aoz ah4:=aB (l:= []) (by kernel_rfl) (trivial)
theorem al9:aS Tryz.prog 30 WJ:=bl Tryz.f30 aas nk (d:=3) anQ aif (bw (by kernel_rfl)) (toY:=ah3)
end
end Go.Eng
set_option linter.unusedVariables false
set_option maxRecDepth 100000
namespace Go.Eng
noncomputable section
open Go Go.Proofs
def yv:List (Nat×TI):=[(3,⟨false,1, .one (.int .i64 0), .int .i64⟩),(4,⟨false,1, .one (.bool false), .bool⟩),(9,⟨false,1, .one (.str []), .str⟩),(22,⟨false,1, .one (.clip .aL []), .slice .aL 39⟩),(24,⟨true,4, .agg [.int .i64 0, .int .i64 0, .int .i64 0, .clip .aL []], .struct [(0,3),(1,3),(2,3),(3,22)]⟩),(25,⟨false,1, .one (.clip .kept []), .slice .kept 60⟩),(27,⟨true,2, .agg [.clip .kept [], .clip .aL []], .struct [(0,25),(1,22)]⟩),(29,⟨true,6, .agg [.int .i64 0, .int .i64 0, .int .i64 0, .clip .aL [], .clip .kept [], .clip .aL []], .struct [(0,24),(4,27)]⟩),(34,⟨true,3, .agg [.int .i64 0, .str [], .int .i64 0], .struct [(0,3),(1,9),(2,3)]⟩),(37,⟨false,1, .one (.clip .entry []), .slice .entry 90⟩),(39,⟨true,6, .agg [.int .i64 0, .int .i64 0, .int .i64 0, .str [], .int .i64 0, .clip .entry []], .struct [(0,3),(1,3),(2,3),(3,9),(4,3),(5,37)]⟩),(60,⟨true,4, .agg [.int .i64 0, .int .i64 0, .bool false, .str []], .struct [(0,3),(1,3),(2,4),(3,9)]⟩),(90,⟨true,2, .agg [.str [], .int .i64 0], .struct [(0,9),(1,3)]⟩)]
def yq:List (Nat×List EK):=[(60,[.i, .i, .b, .s])]
theorem Aa:Tryz.prog.follows .mixedOrders=true:=by kernel_rfl
theorem AK:(yv.all fun x=>tiB Tryz.prog x.1 x.2)=true:=by kernel_rfl
theorem AA:(yq.all fun x=>eqB Tryz.prog x.1 x.2)=true:=by kernel_rfl
def S8:List HV:= []
def Pd:List HV:=[.agg hW]
def ag7:HP.V S8→Unit:=fun v=>()
def ajQ:HX.V Pd→ao:=fun v=>((cW v))
def ai8:ao→HX.V Pd:=fun y=>(uW y)
def YA:Unit→Option (ao):=fun x=>l8
def TT:Spec:=aT S8 Pd ag7 ai8 YA
def aiK:Cfg:={T:=yv,spec:=[(47,CB),(69,SS)],aX:=aE.G Tryz.prog,eqs:=yq,N:=14,fuel:=64,fid:=28}
theorem aey:aF Tryz.prog aiK:=aZ AK AA ⟨Fl,⟨agc,trivial⟩⟩
theorem XY:aS Tryz.prog 28 TT:=bV Tryz.f28 aey Aa (toY:=ajQ)
def U8:List HV:= []
def MI:List HV:=[.one (.bool)]
def ZZ:HP.V U8→Unit:=fun v=>()
def aiE:HX.V MI→Bool:=fun v=>(v)
def akx:Bool→HX.V MI:=fun y=>(y)
def afE:Unit→Option (Bool):=fun x=>bu
def Be:Spec:=aT U8 MI ZZ akx afE
def am6:Cfg:={T:=yv,spec:=[(11,Mq),(12,Az),(16,EY),(18,EU),(20,KJ),(22,Ka),(27,Q_),(28,TT),(29,vF),(30,WJ)],aX:=aE.G Tryz.prog,eqs:=yq,N:=159,fuel:=64,fid:=9}
theorem afa:aF Tryz.prog am6:=aZ AK AA ⟨UC,⟨B4,⟨Gc,⟨Hb,⟨O8,⟨Ns,⟨SY,⟨XY,⟨vZ,⟨al9,trivial⟩⟩⟩⟩⟩⟩⟩⟩⟩⟩
theorem Es:aS Tryz.prog 9 Be:=bV Tryz.f9 afa Aa (toY:=aiE)
def FJ:List HV:=[.agg hW, .agg hW]
def Me:List HV:=[.one (.bool)]
def NH:HP.V FJ→ao×ao:=fun v=>((cW v.1),(cW v.2.1))
def XX:HX.V Me→Bool:=fun v=>(v)
def Vj:Bool→HX.V Me:=fun y=>(y)
def Mw:(ao×ao)→Option (Bool):=fun x=>jl x.1 x.2
def ahZ:Spec:=aT FJ Me NH Vj Mw
def aco:Cfg:={T:=yv,spec:=[(9,Be),(10,QN),(11,Mq),(12,Az)],aX:=aE.G Tryz.prog,eqs:=yq,N:=30,fuel:=64,fid:=3}
theorem adB:aF Tryz.prog aco:=aZ AK AA ⟨Es,⟨Tq,⟨UC,⟨B4,trivial⟩⟩⟩⟩
theorem acX:aS Tryz.prog 3 ahZ:=bV Tryz.f3 adB Aa (toY:=XX)
def GK:List HV:=[.agg hW, .one (.int .i64), .one (.str)]
def QV:List HV:=[.one (.bool)]
def N3:HP.V GK→ao×Int×Str:=fun v=>((cW v.1),v.2.1,v.2.2.1)
def agS:HX.V QV→Bool:=fun v=>(v)
def Uv:Bool→HX.V QV:=fun y=>(y)
def Ok:(ao×Int×Str)→Option (Bool):=fun x=>jr x.1 x.2.1 x.2.2
def ZT:Spec:=aT GK QV N3 Uv Ok
def an4:Cfg:={T:=yv,spec:=[(9,Be),(12,Az),(13,Eu),(14,Hl),(15,nR),(16,EY),(17,SR),(18,EU),(19,Ur)],aX:=aE.G Tryz.prog,eqs:=yq,N:=111,fuel:=64,fid:=4}
theorem agB:aF Tryz.prog an4:=aZ AK AA ⟨Es,⟨B4,⟨GP,⟨Je,⟨n7,⟨Gc,⟨al0,⟨Hb,⟨abA,trivial⟩⟩⟩⟩⟩⟩⟩⟩⟩
theorem alr:aS Tryz.prog 4 ZT:=bV Tryz.f4 agB Aa (toY:=agS)
def F1:List HV:=[.agg hW, .one (.int .i64), .one (.int .i64)]
def QJ:List HV:=[.one (.bool)]
def O2:HP.V F1→ao×Int×Int:=fun v=>((cW v.1),v.2.1,v.2.2.1)
def aip:HX.V QJ→Bool:=fun v=>(v)
def UK:Bool→HX.V QJ:=fun y=>(y)
def OS:(ao×Int×Int)→Option (Bool):=fun x=>ju x.1 x.2.1 x.2.2
def ao9:Spec:=aT F1 QJ O2 UK OS
def amC:Cfg:={T:=yv,spec:=[(9,Be),(12,Az),(13,Eu),(15,nR),(20,KJ),(21,SZ),(22,Ka),(23,UJ)],aX:=aE.G Tryz.prog,eqs:=yq,N:=90,fuel:=64,fid:=5}
theorem ags:aF Tryz.prog amC:=aZ AK AA ⟨Es,⟨B4,⟨GP,⟨n7,⟨O8,⟨adk,⟨Ns,⟨aby,trivial⟩⟩⟩⟩⟩⟩⟩⟩
theorem aam:aS Tryz.prog 5 ao9:=bV Tryz.f5 ags Aa (toY:=aip)
def Hy:List HV:=[.agg hW, .one (.int .i64), .one (.str)]
def Nt:List HV:=[.one (.bool)]
def L8:HP.V Hy→ao×Int×Str:=fun v=>((cW v.1),v.2.1,v.2.2.1)
def amq:HX.V Nt→Bool:=fun v=>(v)
def S_:Bool→HX.V Nt:=fun y=>(y)
def MH:(ao×Int×Str)→Option (Bool):=fun x=>j5 x.1 x.2.1 x.2.2
def agY:Spec:=aT Hy Nt L8 S_ MH
def afQ:Cfg:={T:=yv,spec:=[(9,Be),(12,Az),(13,Eu),(14,Hl),(15,nR),(16,EY),(18,EU),(24,Ej),(25,Ki),(26,PA)],aX:=aE.G Tryz.prog,eqs:=yq,N:=164,fuel:=64,fid:=6}
theorem aej:aF Tryz.prog afQ:=aZ AK AA ⟨Es,⟨B4,⟨GP,⟨Je,⟨n7,⟨Gc,⟨Hb,⟨GB,⟨Q6,⟨U5,trivial⟩⟩⟩⟩⟩⟩⟩⟩⟩⟩
theorem aoJ:aS Tryz.prog 6 agY:=bV Tryz.f6 aej Aa (toY:=amq)
def Fz:List HV:=[.agg hW, .one (.int .i64), .one (.str), .one (.str)]
def M6:List HV:=[.one (.bool)]
def Pp:HP.V Fz→ao×Int×Str×Str:=fun v=>((cW v.1),v.2.1,v.2.2.1,v.2.2.2.1)
def YB:HX.V M6→Bool:=fun v=>(v)
def Tg:Bool→HX.V M6:=fun y=>(y)
def Mb:(ao×Int×Str×Str)→Option (Bool):=fun x=>ll x.1 x.2.1 x.2.2.1 x.2.2.2
def al8:Spec:=aT Fz M6 Pp Tg Mb
def Zn:Cfg:={T:=yv,spec:=[(9,Be),(12,Az),(13,Eu),(14,Hl),(15,nR),(16,EY),(18,EU),(25,Ki)],aX:=aE.G Tryz.prog,eqs:=yq,N:=175,fuel:=64,fid:=7}
theorem an5:aF Tryz.prog Zn:=aZ AK AA ⟨Es,⟨B4,⟨GP,⟨Je,⟨n7,⟨Gc,⟨Hb,⟨Q6,trivial⟩⟩⟩⟩⟩⟩⟩⟩
theorem aix:aS Tryz.prog 7 al8:=bV Tryz.f7 an5 Aa (toY:=YB)
def GW:List HV:=[.agg hW, .one (.int .i64), .one (.str), .one (.int .i64)]
def MY:List HV:=[.one (.bool)]
def O7:HP.V GW→ao×Int×Str×Int:=fun v=>((cW v.1),v.2.1,v.2.2.1,v.2.2.2.1)
def agx:HX.V MY→Bool:=fun v=>(v)
def W9:Bool→HX.V MY:=fun y=>(y)
def Nf:(ao×Int×Str×Int)→Option (Bool):=fun x=>jh x.1 x.2.1 x.2.2.1 x.2.2.2
def aku:Spec:=aT GW MY O7 W9 Nf
def afz:Cfg:={T:=yv,spec:=[(9,Be),(12,Az),(13,Eu),(14,Hl),(15,nR),(16,EY),(18,EU),(20,KJ),(22,Ka),(27,Q_)],aX:=aE.G Tryz.prog,eqs:=yq,N:=123,fuel:=64,fid:=8}
theorem ajH:aF Tryz.prog afz:=aZ AK AA ⟨Es,⟨B4,⟨GP,⟨Je,⟨n7,⟨Gc,⟨Hb,⟨O8,⟨Ns,⟨SY,trivial⟩⟩⟩⟩⟩⟩⟩⟩⟩⟩
theorem abU:aS Tryz.prog 8 aku:=bV Tryz.f8 ajH Aa (toY:=agx)
end
end Go.Eng
