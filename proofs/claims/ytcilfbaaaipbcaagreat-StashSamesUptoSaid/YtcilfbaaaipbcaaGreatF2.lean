/- A part of the proofs of the laws of this seat: the engine that reads the program's code, plain functions, or facts of the program's functions. Conditions: none. -/
import Derived.Test.YtcilfbaaaipbcaaGreatE4
import Derived.Test.YtcilfbaaaipbcaaGreatF1
import Derived.Test.YtcilfbaaaipbcaaGreatP2
set_option linter.unusedSectionVars false
set_option linter.unusedVariables false
set_option linter.unusedSimpArgs false
set_option linter.unnecessarySimpa false
set_option linter.unusedVariables false
set_option maxRecDepth 100000
namespace Go.Eng
noncomputable section
open Go Go.Proofs
def cx:List (Nat×TI):=[(3,⟨false,1, .one (.int .i64 0), .int .i64⟩),(4,⟨false,1, .one (.bool false), .bool⟩),(9,⟨false,1, .one (.str []), .str⟩),(22,⟨false,1, .one (.clip .aB []), .slice .aB 39⟩),(24,⟨true,4, .agg [.int .i64 0, .int .i64 0, .int .i64 0, .clip .aB []], .struct [(0,3),(1,3),(2,3),(3,22)]⟩),(25,⟨false,1, .one (.clip .kept []), .slice .kept 60⟩),(27,⟨true,2, .agg [.clip .kept [], .clip .aB []], .struct [(0,25),(1,22)]⟩),(29,⟨true,6, .agg [.int .i64 0, .int .i64 0, .int .i64 0, .clip .aB [], .clip .kept [], .clip .aB []], .struct [(0,24),(4,27)]⟩),(34,⟨true,3, .agg [.int .i64 0, .str [], .int .i64 0], .struct [(0,3),(1,9),(2,3)]⟩),(37,⟨false,1, .one (.clip .entry []), .slice .entry 90⟩),(39,⟨true,6, .agg [.int .i64 0, .int .i64 0, .int .i64 0, .str [], .int .i64 0, .clip .entry []], .struct [(0,3),(1,3),(2,3),(3,9),(4,3),(5,37)]⟩),(60,⟨true,4, .agg [.int .i64 0, .int .i64 0, .bool false, .str []], .struct [(0,3),(1,3),(2,4),(3,9)]⟩),(74,⟨false,1, .one (.k6), .other⟩),(92,⟨false,1, .one (.k6), .other⟩),(132,⟨false,1, .one (.int .u64 0), .int .u64⟩)]
def cy:List (Nat×List EK):=[(60,[.i, .i, .b, .s])]
theorem m8:Tryz.prog.follows .mixedOrders=true:=by kernel_rfl
theorem cA:(cx.all fun x=>tiB Tryz.prog x.1 x.2)=true:=by kernel_rfl
theorem cB:(cy.all fun x=>eqB Tryz.prog x.1 x.2)=true:=by kernel_rfl
def al7:Code:=bd Tryz.f11
def abo:Code:=bd Tryz.f16
def YW:Code:=bd Tryz.f18
def afR:Code:=bd Tryz.f30
def Gp:Code:=bd Tryz.f33
def am5:Code:=bd Tryz.f40
def TV:Code:=bd Tryz.f41
def akv:Code:=bd Tryz.f42
def ale:Code:=bd Tryz.f44
def F1:Code:=bd Tryz.f52
def R4:Code:=bd Tryz.f53
def akx:Code:=bd Tryz.f56
def abk:Code:=bd Tryz.f70
def R7:Code:=bd Tryz.f71
def YP:Code:=bd Tryz.f73
def aad:Code:=bd Tryz.f74
def Sf:Code:=bd Tryz.f75
def ab6:Code:=bd Tryz.f76
def ajy:Code:=bd Tryz.f77
def KE:Code:=bd Tryz.f78
def aki:Code:=bd Tryz.f79
def Gs:Code:=bd Tryz.f89
def Iu:Code:=bd Tryz.f90
def th:Code:=bd Tryz.f91
def aaQ:Code:=bd Tryz.f94
def wv:Code:=bd Tryz.f100
def F_:Code:=bd Tryz.f102
def Wx:Code:=bd Tryz.f103
def GH:Code:=bd Tryz.f108
def Ku:Code:=bd Tryz.f109
def Hi:Code:=bd Tryz.f111
def Sz:Code:=bd Tryz.f112
def zu:Code:=bd Tryz.f113
def V_:Code:=bd Tryz.f114
def FP:Code:=bd Tryz.f115
def W5:Code:=bd Tryz.f116
def AD:Code:=bd Tryz.f117
def WW:Code:=bd Tryz.f118
def am9:Code:=bd Tryz.f119
def Ry:Code:=bd Tryz.f120
def pT:Code:=bd Tryz.f121
def ta:Code:=bd Tryz.f128
def VD:Code:=bd Tryz.f140
def Jj:Code:=bd Tryz.f154
def CL:HS:=⟨[(0, .one (.sl .kept)),(1, .one (.sl .kept)),(12, .one (.int .i64)),(13, .one (.int .i64)),(1000002, .one (.ptr 0 0)),(1000003, .one (.ptr 1 0)),(1000010, .one (.bool))],[(0, .cells [.int .i64, .int .i64, .int .i64, .sl .aB, .sl .kept, .sl .aB]),(1, .cells [.int .i64, .int .i64, .int .i64, .sl .aB, .sl .kept, .sl .aB])],2⟩
def K_ {R:Type}:Nat→HS.V CL→(Ex→St→Option R)→Option R:=fun q v K=>
 ek v.1.1 v.1.2.1 v.1.2.2.1 (K .ret {aA:=[(4, .v (.one (.bool false))),(1000002, .v (.one (.ptr 0 0))),(1000003, .v (.one (.ptr 1 0))),(1000010, .v (.one (.bool v.1.2.2.2.2.2.2.1)))],mem:=[(0, .cells [.int .i64 ((⟨(cFs v.2.1),(⟨v.2.1.2.2.2.2.1,v.2.1.2.2.2.2.2.1⟩:ay)⟩:al).fs.aq), .int .i64 ((⟨(cFs v.2.1),(⟨v.2.1.2.2.2.2.1,v.2.1.2.2.2.2.2.1⟩:ay)⟩:al).fs.au), .int .i64 ((⟨(cFs v.2.1),(⟨v.2.1.2.2.2.2.1,v.2.1.2.2.2.2.2.1⟩:ay)⟩:al).fs.next), .sl .aB ((⟨(cFs v.2.1),(⟨v.2.1.2.2.2.2.1,v.2.1.2.2.2.2.2.1⟩:ay)⟩:al).fs.aa), .sl .kept ((⟨(cFs v.2.1),(⟨v.2.1.2.2.2.2.1,v.2.1.2.2.2.2.2.1⟩:ay)⟩:al).ao.kept), .sl .aB ((⟨(cFs v.2.1),(⟨v.2.1.2.2.2.2.1,v.2.1.2.2.2.2.2.1⟩:ay)⟩:al).ao.aJ)]),(1, .cells [.int .i64 ((⟨(cFs v.2.2.1),(⟨v.2.2.1.2.2.2.2.1,v.2.2.1.2.2.2.2.2.1⟩:ay)⟩:al).fs.aq), .int .i64 ((⟨(cFs v.2.2.1),(⟨v.2.2.1.2.2.2.2.1,v.2.2.1.2.2.2.2.2.1⟩:ay)⟩:al).fs.au), .int .i64 ((⟨(cFs v.2.2.1),(⟨v.2.2.1.2.2.2.2.1,v.2.2.1.2.2.2.2.2.1⟩:ay)⟩:al).fs.next), .sl .aB ((⟨(cFs v.2.2.1),(⟨v.2.2.1.2.2.2.2.1,v.2.2.1.2.2.2.2.2.1⟩:ay)⟩:al).fs.aa), .sl .kept ((⟨(cFs v.2.2.1),(⟨v.2.2.1.2.2.2.2.1,v.2.2.1.2.2.2.2.2.1⟩:ay)⟩:al).ao.kept), .sl .aB ((⟨(cFs v.2.2.1),(⟨v.2.2.1.2.2.2.2.1,v.2.2.1.2.2.2.2.2.1⟩:ay)⟩:al).ao.aJ)])],nx:=2}) (K (.exit 0) {aA:=[(1000002, .v (.one (.ptr 0 0))),(1000003, .v (.one (.ptr 1 0))),(1000010, .v (.one (.bool v.1.2.2.2.2.2.2.1)))],mem:=[(0, .cells [.int .i64 ((⟨(cFs v.2.1),(⟨v.2.1.2.2.2.2.1,v.2.1.2.2.2.2.2.1⟩:ay)⟩:al).fs.aq), .int .i64 ((⟨(cFs v.2.1),(⟨v.2.1.2.2.2.2.1,v.2.1.2.2.2.2.2.1⟩:ay)⟩:al).fs.au), .int .i64 ((⟨(cFs v.2.1),(⟨v.2.1.2.2.2.2.1,v.2.1.2.2.2.2.2.1⟩:ay)⟩:al).fs.next), .sl .aB ((⟨(cFs v.2.1),(⟨v.2.1.2.2.2.2.1,v.2.1.2.2.2.2.2.1⟩:ay)⟩:al).fs.aa), .sl .kept ((⟨(cFs v.2.1),(⟨v.2.1.2.2.2.2.1,v.2.1.2.2.2.2.2.1⟩:ay)⟩:al).ao.kept), .sl .aB ((⟨(cFs v.2.1),(⟨v.2.1.2.2.2.2.1,v.2.1.2.2.2.2.2.1⟩:ay)⟩:al).ao.aJ)]),(1, .cells [.int .i64 ((⟨(cFs v.2.2.1),(⟨v.2.2.1.2.2.2.2.1,v.2.2.1.2.2.2.2.2.1⟩:ay)⟩:al).fs.aq), .int .i64 ((⟨(cFs v.2.2.1),(⟨v.2.2.1.2.2.2.2.1,v.2.2.1.2.2.2.2.2.1⟩:ay)⟩:al).fs.au), .int .i64 ((⟨(cFs v.2.2.1),(⟨v.2.2.1.2.2.2.2.1,v.2.2.1.2.2.2.2.2.1⟩:ay)⟩:al).fs.next), .sl .aB ((⟨(cFs v.2.2.1),(⟨v.2.2.1.2.2.2.2.1,v.2.2.1.2.2.2.2.2.1⟩:ay)⟩:al).fs.aa), .sl .kept ((⟨(cFs v.2.2.1),(⟨v.2.2.1.2.2.2.2.1,v.2.2.1.2.2.2.2.2.1⟩:ay)⟩:al).ao.kept), .sl .aB ((⟨(cFs v.2.2.1),(⟨v.2.2.1.2.2.2.2.1,v.2.2.1.2.2.2.2.2.1⟩:ay)⟩:al).ao.aJ)])],nx:=2}) q v.1.2.2.2.1
def Uq:List HV:=[.agg [.int .i64, .int .i64, .int .i64, .sl .aB, .sl .kept, .sl .aB], .agg [.int .i64, .int .i64, .int .i64, .sl .aB, .sl .kept, .sl .aB]]
def PC:List HV:=[.one (.bool)]
def aeW:HP.V Uq→al×al:=fun v=>((⟨(cFs v.1),(⟨v.1.2.2.2.2.1,v.1.2.2.2.2.2.1⟩:ay)⟩:al),(⟨(cFs v.2.1),(⟨v.2.1.2.2.2.2.1,v.2.1.2.2.2.2.2.1⟩:ay)⟩:al))
def ah7:HX.V PC→Bool:=fun v=>(v)
def anT:Bool→HX.V PC:=fun y=>(y)
def alg:(al×al)→Option (Bool):=fun x=>fA x.1 x.2
def Qx:Spec:=aU Uq PC aeW anT alg
def NW {R:Type}:List (Nat×Hd R):=[(4,bC CL K_)]
def Lq {R:Type}:List (Nat×Inl R):= []
def Kw:Cfg:={T:=cx,spec:=[(32,Q6)],aX:=aG.G Tryz.prog,eqs:=cy,N:=26,fuel:=64,loops:=[(4,⟨[0,1,12,13,1000002,1000003,1000010], [],[0,1],2, [], [], [], []⟩)],blocks:=[(0,⟨[1000002,1000003,1000010], [],[0,1],2, [], [], [], []⟩)],eV:=some ⟨[4,1000002,1000003,1000010], [],[0,1],2, [], [], [], []⟩,fid:=33}
theorem aaP:aH Tryz.prog Kw:=aZ cA cB ⟨Wv,trivial⟩
theorem XR {R:Type}:aP Tryz.prog (R:=R) 0 Lq:=aC _ _
theorem YJ {R:Type}:bA (R:=R) (hnd 0 Lq) Kw NW (sub [1,1,0,1,0,0] Gp) (HS.V CL) (HS.st CL) (HS.sh CL) K_ (bC CL K_):=aN CL K_ (fun _ _=>rfl) (by intro q v K;kernel_rfl)
theorem aaj {R:Type}:aL (R:=R) (hnd 0 Lq) Kw NW Gp:=aD (l:=[sub [1,1,0,1,0,0] Gp]) (by kernel_rfl) (aK (b:=sub [1,1,0,1,0,0] Gp) (rid:=4) (by kernel_rfl) (by kernel_rfl) YJ (trivial))
def acH {R:Type}:Inl R:= .mk 33 Kw NW Gp Tryz.f33.results.toList Lq
def ae8 {R:Type}:List (Nat×Hd R):= []
def Tc {R:Type}:List (Nat×Inl R):=[(17,acH)]
def WH:Cfg:={T:=cx,spec:=[(32,Q6)],aX:=aG.G Tryz.prog,eqs:=cy,N:=30,fuel:=64,fid:=11}
theorem aoa:aH Tryz.prog WH:=aZ cA cB ⟨Wv,trivial⟩
theorem ZN {R:Type}:aP Tryz.prog (R:=R) 1 Tc:=bE Tryz.f33 aaP aaj (bw (by kernel_rfl)) XR (aC _ _)
theorem ahh {R:Type}:aL (R:=R) (hnd 1 Tc) WH ae8 al7:=aD (l:= []) (by kernel_rfl) (trivial)
theorem Vv:aT Tryz.prog 11 Qx:=bl Tryz.f11 aoa m8 (d:=1) ZN ahh (bw (by kernel_rfl)) (toY:=ah7)
def A3:HS:=⟨[(0, .one (.sl .kept)),(1, .one (.int .i64)),(2, .one (.clo 1)),(8, .one (.int .i64)),(9, .one (.int .i64)),(10, .one (.int .i64))],[(0, .cells [.fnc 71]),(1, .clo 109 [] [.ptr 0 0])],2⟩
def Lw {R:Type}:Nat→HS.V A3→(Ex→St→Option R)→Option R:=fun q v K=>
 b4 v.1.1 v.1.2.1 (fun y10=>K (.exit 0) {aA:=[(0, .v (.one (.sl .kept v.1.1))),(1, .v (.one (.int .i64 v.1.2.1))),(2, .v (.one (.clo 1))),(8, .v (.one (.int .i64 v.1.2.2.2.1))),(9, .v (.one (.int .i64 y10)))],mem:=[(0, .cells [.fnc 71]),(1, .clo 109 [] [.ptr 0 0])],nx:=2}) q v.1.2.2.2.2.1 v.1.2.2.2.2.2.1
def SJ:List HV:=[.one (.sl .kept), .one (.int .i64), .one (.fnc 71)]
def L1:List HV:=[.one (.int .i64), .one (.bool)]
def alT:HP.V SJ→(List Kept)×Int:=fun v=>(v.1,v.2.1)
def abi:HX.V L1→Int×Bool:=fun v=>(v.1,v.2)
def amX:(Int×Bool)→HX.V L1:=fun y=>(y.1,y.2)
def Y8:(List Kept)×Int→Option (Int×Bool):=fun x=>ig x.1 x.2
def Lt:Spec:=aU SJ L1 alT amX Y8
def W_:Cfg:={T:=cx,aX:=aG.G Tryz.prog,eqs:=cy,N:=5,fuel:=64,fid:=71}
theorem ahJ:aH Tryz.prog W_:=aZ cA cB trivial
def ai_ {R:Type}:Inl R:= .mk 71 W_ [] R7 Tryz.f71.results.toList []
def Rr:Cfg:={T:=cx,aX:=aG.G Tryz.prog,eqs:=cy,N:=6,fuel:=64,fid:=128}
theorem afb:aH Tryz.prog Rr:=aZ cA cB trivial
def aeo {R:Type}:Inl R:= .mk 128 Rr [] ta Tryz.f128.results.toList []
def Wi:Cfg:={T:=cx,aX:=aG.G Tryz.prog,eqs:=cy,N:=6,fuel:=64,fid:=128}
theorem Xz:aH Tryz.prog Wi:=aZ cA cB trivial
def anL {R:Type}:Inl R:= .mk 128 Wi [] ta Tryz.f128.results.toList []
def Uy {R:Type}:List (Nat×Hd R):= []
def QV {R:Type}:List (Nat×Inl R):=[(8,aeo),(10,anL)]
def MT:Cfg:={T:=cx,aX:=aG.G Tryz.prog,eqs:=cy,N:=20,fuel:=64,fid:=91}
theorem aeR:aH Tryz.prog MT:=aZ cA cB trivial
theorem alE {R:Type}:aP Tryz.prog (R:=R) 1 QV:=bF Tryz.f128 afb (bF Tryz.f128 Xz (aC _ _))
theorem aiG {R:Type}:aL (R:=R) (hnd 1 QV) MT Uy th:=aD (l:= []) (by kernel_rfl) (trivial)
def agG {R:Type}:Inl R:= .mk 91 MT Uy th Tryz.f91.results.toList QV
def S4 {R:Type}:List (Nat×Hd R):= []
def Nt {R:Type}:List (Nat×Inl R):=[(8,ai_),(10,agG)]
def O2:Cfg:={T:=cx,aX:=aG.G Tryz.prog,eqs:=cy,N:=11,fuel:=64,fid:=109}
theorem adr:aH Tryz.prog O2:=aZ cA cB trivial
theorem al1 {R:Type}:aP Tryz.prog (R:=R) 2 Nt:=bF Tryz.f71 ahJ (bE Tryz.f91 aeR aiG (bw (by kernel_rfl)) alE (aC _ _))
theorem ali {R:Type}:aL (R:=R) (hnd 2 Nt) O2 S4 Ku:=aD (l:= []) (by kernel_rfl) (trivial)
def aeg {R:Type}:Inl R:= .mk 109 O2 S4 Ku Tryz.f109.results.toList Nt
def Vl:Cfg:={T:=cx,aX:=aG.G Tryz.prog,eqs:=cy,N:=5,fuel:=64,fid:=71}
theorem ahH:aH Tryz.prog Vl:=aZ cA cB trivial
def acj {R:Type}:Inl R:= .mk 71 Vl [] R7 Tryz.f71.results.toList []
def Wo:Cfg:={T:=cx,aX:=aG.G Tryz.prog,eqs:=cy,N:=6,fuel:=64,fid:=128}
theorem ao7:aH Tryz.prog Wo:=aZ cA cB trivial
def ag7 {R:Type}:Inl R:= .mk 128 Wo [] ta Tryz.f128.results.toList []
def Tp:Cfg:={T:=cx,aX:=aG.G Tryz.prog,eqs:=cy,N:=6,fuel:=64,fid:=128}
theorem aaS:aH Tryz.prog Tp:=aZ cA cB trivial
def ajm {R:Type}:Inl R:= .mk 128 Tp [] ta Tryz.f128.results.toList []
def Rx {R:Type}:List (Nat×Hd R):= []
def Nq {R:Type}:List (Nat×Inl R):=[(8,ag7),(10,ajm)]
def P_:Cfg:={T:=cx,aX:=aG.G Tryz.prog,eqs:=cy,N:=20,fuel:=64,fid:=91}
theorem ahj:aH Tryz.prog P_:=aZ cA cB trivial
theorem abd {R:Type}:aP Tryz.prog (R:=R) 1 Nq:=bF Tryz.f128 ao7 (bF Tryz.f128 aaS (aC _ _))
theorem XS {R:Type}:aL (R:=R) (hnd 1 Nq) P_ Rx th:=aD (l:= []) (by kernel_rfl) (trivial)
def aj_ {R:Type}:Inl R:= .mk 91 P_ Rx th Tryz.f91.results.toList Nq
def Sp {R:Type}:List (Nat×Hd R):= []
def Np {R:Type}:List (Nat×Inl R):=[(8,acj),(10,aj_)]
def QL:Cfg:={T:=cx,aX:=aG.G Tryz.prog,eqs:=cy,N:=11,fuel:=64,fid:=109}
theorem alb:aH Tryz.prog QL:=aZ cA cB trivial
theorem akR {R:Type}:aP Tryz.prog (R:=R) 2 Np:=bF Tryz.f71 ahH (bE Tryz.f91 ahj XS (bw (by kernel_rfl)) abd (aC _ _))
theorem Z_ {R:Type}:aL (R:=R) (hnd 2 Np) QL Sp Ku:=aD (l:= []) (by kernel_rfl) (trivial)
def adk {R:Type}:Inl R:= .mk 109 QL Sp Ku Tryz.f109.results.toList Np
def Q9 {R:Type}:List (Nat×Hd R):=[(3,bC A3 Lw)]
def La {R:Type}:List (Nat×Inl R):=[(30,aeg),(46,adk)]
def Hz:Cfg:={T:=cx,aX:=aG.G Tryz.prog,eqs:=cy,N:=49,fuel:=64,loops:=[(3,⟨[0,1,2,8,9,10], [],[0,1],2, [], [], [], []⟩)],blocks:=[(0,⟨[0,1,2,8,9], [],[0,1],2, [], [], [], []⟩)],fid:=108}
theorem an1:aH Tryz.prog Hz:=aZ cA cB trivial
theorem abr {R:Type}:aP Tryz.prog (R:=R) 3 La:=bE Tryz.f109 adr ali (bw (by kernel_rfl)) al1 (bE Tryz.f109 alb Z_ (bw (by kernel_rfl)) akR (aC _ _))
theorem ai3 {R:Type}:bA (R:=R) (hnd 3 La) Hz Q9 (sub [1,1,1,0,0,0] GH) (HS.V A3) (HS.st A3) (HS.sh A3) Lw (bC A3 Lw):=aN A3 Lw (fun _ _=>rfl) (by intro q v K;kernel_rfl)
theorem aic {R:Type}:aL (R:=R) (hnd 3 La) Hz Q9 GH:=aD (l:=[sub [1,1,1,0,0,0] GH]) (by kernel_rfl) (aK (b:=sub [1,1,1,0,0,0] GH) (rid:=3) (by kernel_rfl) (by kernel_rfl) ai3 (trivial))
def aie {R:Type}:Inl R:= .mk 108 Hz Q9 GH Tryz.f108.results.toList La
def agx {R:Type}:List (Nat×Hd R):= []
def SG {R:Type}:List (Nat×Inl R):=[(11,aie)]
def VF:Cfg:={T:=cx,aX:=aG.G Tryz.prog,eqs:=cy,N:=14,fuel:=64,fid:=70}
theorem Z9:aH Tryz.prog VF:=aZ cA cB trivial
theorem afF {R:Type}:aP Tryz.prog (R:=R) 4 SG:=bE Tryz.f108 an1 aic (bw (by kernel_rfl)) abr (aC _ _)
theorem aoH {R:Type}:aL (R:=R) (hnd 4 SG) VF agx abk:=aD (l:= []) (by kernel_rfl) (trivial)
theorem Oj:aT Tryz.prog 70 Lt:=bl Tryz.f70 Z9 m8 (d:=4) afF aoH (bw (by kernel_rfl)) (toY:=abi)
def RJ:List HV:=[.agg [.int .i64, .int .i64, .bool, .str]]
def PA:List HV:=[.one (.int .i64)]
def ahQ:HP.V RJ→Kept:=fun v=>((⟨v.1.1,v.1.2.1,v.1.2.2.1,v.1.2.2.2.1⟩:Kept))
def YG:HX.V PA→Int:=fun v=>(v)
def afy:Int→HX.V PA:=fun y=>(y)
def akH:Kept→Option (Int):=fun x=>iw x
def Jt:Spec:=aU RJ PA ahQ afy akH
def aba:Cfg:={T:=cx,aX:=aG.G Tryz.prog,eqs:=cy,N:=5,fuel:=64,fid:=71}
theorem ah0:aH Tryz.prog aba:=aZ cA cB trivial
theorem OI:aT Tryz.prog 71 Jt:=bV Tryz.f71 ah0 m8 (toY:=YG)
def Tt:List HV:=[.agg [.int .i64, .int .i64, .int .i64, .sl .aB, .sl .kept, .sl .aB], .one (.int .i64)]
def NL:List HV:=[.agg [.int .i64, .int .i64, .bool, .str], .one (.bool)]
def aa5:HP.V Tt→al×Int:=fun v=>((⟨(cFs v.1),(⟨v.1.2.2.2.2.1,v.1.2.2.2.2.2.1⟩:ay)⟩:al),v.2.1)
def aov:HX.V NL→Kept×Bool:=fun v=>((⟨v.1.1,v.1.2.1,v.1.2.2.1,v.1.2.2.2.1⟩:Kept),v.2)
def ae0:(Kept×Bool)→HX.V NL:=fun y=>((y.1.slot,(y.1.ino,(y.1.content,(y.1.data,())))),y.2)
def ajo:(al×Int)→Option (Kept×Bool):=fun x=>gm x.1 x.2
def u6:Spec:=aU Tt NL aa5 ae0 ajo
def Zz:Cfg:={T:=cx,spec:=[(70,Lt)],aX:=aG.G Tryz.prog,eqs:=cy,N:=25,fuel:=64,fid:=29}
theorem adW:aH Tryz.prog Zz:=aZ cA cB ⟨Oj,trivial⟩
theorem wi:aT Tryz.prog 29 u6:=bV Tryz.f29 adW m8 (toY:=aov)
def B1:HS:=⟨[(0, .one (.sl .aB)),(1, .one (.int .i64)),(2, .one (.clo 1)),(8, .one (.int .i64)),(9, .one (.int .i64)),(10, .one (.int .i64))],[(0, .cells [.fnc 41]),(1, .clo 90 [] [.ptr 0 0])],2⟩
def Kj {R:Type}:Nat→HS.V B1→(Ex→St→Option R)→Option R:=fun q v K=>
 bT v.1.1 v.1.2.1 (fun y10=>K (.exit 0) {aA:=[(0, .v (.one (.sl .aB v.1.1))),(1, .v (.one (.int .i64 v.1.2.1))),(2, .v (.one (.clo 1))),(8, .v (.one (.int .i64 v.1.2.2.2.1))),(9, .v (.one (.int .i64 y10)))],mem:=[(0, .cells [.fnc 41]),(1, .clo 90 [] [.ptr 0 0])],nx:=2}) q v.1.2.2.2.2.1 v.1.2.2.2.2.2.1
def TL:List HV:=[.one (.sl .aB), .one (.int .i64), .one (.fnc 41)]
def O1:List HV:=[.one (.int .i64), .one (.bool)]
def ZG:HP.V TL→(List ae)×Int:=fun v=>(v.1,v.2.1)
def ab9:HX.V O1→Int×Bool:=fun v=>(v.1,v.2)
def Zv:(Int×Bool)→HX.V O1:=fun y=>(y.1,y.2)
def ahL:(List ae)×Int→Option (Int×Bool):=fun x=>gI x.1 x.2
def HO:Spec:=aU TL O1 ZG Zv ahL
def SQ:Cfg:={T:=cx,aX:=aG.G Tryz.prog,eqs:=cy,N:=5,fuel:=64,fid:=41}
theorem adJ:aH Tryz.prog SQ:=aZ cA cB trivial
def ajW {R:Type}:Inl R:= .mk 41 SQ [] TV Tryz.f41.results.toList []
def UT:Cfg:={T:=cx,aX:=aG.G Tryz.prog,eqs:=cy,N:=6,fuel:=64,fid:=128}
theorem Ye:aH Tryz.prog UT:=aZ cA cB trivial
def aaM {R:Type}:Inl R:= .mk 128 UT [] ta Tryz.f128.results.toList []
def UP:Cfg:={T:=cx,aX:=aG.G Tryz.prog,eqs:=cy,N:=6,fuel:=64,fid:=128}
theorem aap:aH Tryz.prog UP:=aZ cA cB trivial
def aiO {R:Type}:Inl R:= .mk 128 UP [] ta Tryz.f128.results.toList []
def UE {R:Type}:List (Nat×Hd R):= []
def LZ {R:Type}:List (Nat×Inl R):=[(8,aaM),(10,aiO)]
def Pf:Cfg:={T:=cx,aX:=aG.G Tryz.prog,eqs:=cy,N:=20,fuel:=64,fid:=91}
theorem amM:aH Tryz.prog Pf:=aZ cA cB trivial
theorem ant {R:Type}:aP Tryz.prog (R:=R) 1 LZ:=bF Tryz.f128 Ye (bF Tryz.f128 aap (aC _ _))
theorem aby {R:Type}:aL (R:=R) (hnd 1 LZ) Pf UE th:=aD (l:= []) (by kernel_rfl) (trivial)
def aam {R:Type}:Inl R:= .mk 91 Pf UE th Tryz.f91.results.toList LZ
def UB {R:Type}:List (Nat×Hd R):= []
def Nv {R:Type}:List (Nat×Inl R):=[(8,ajW),(10,aam)]
def Q7:Cfg:={T:=cx,aX:=aG.G Tryz.prog,eqs:=cy,N:=11,fuel:=64,fid:=90}
theorem afe:aH Tryz.prog Q7:=aZ cA cB trivial
theorem akt {R:Type}:aP Tryz.prog (R:=R) 2 Nv:=bF Tryz.f41 adJ (bE Tryz.f91 amM aby (bw (by kernel_rfl)) ant (aC _ _))
theorem abO {R:Type}:aL (R:=R) (hnd 2 Nv) Q7 UB Iu:=aD (l:= []) (by kernel_rfl) (trivial)
def ans {R:Type}:Inl R:= .mk 90 Q7 UB Iu Tryz.f90.results.toList Nv
def Tl:Cfg:={T:=cx,aX:=aG.G Tryz.prog,eqs:=cy,N:=5,fuel:=64,fid:=41}
theorem abu:aH Tryz.prog Tl:=aZ cA cB trivial
def aai {R:Type}:Inl R:= .mk 41 Tl [] TV Tryz.f41.results.toList []
def TR:Cfg:={T:=cx,aX:=aG.G Tryz.prog,eqs:=cy,N:=6,fuel:=64,fid:=128}
theorem Zt:aH Tryz.prog TR:=aZ cA cB trivial
def alf {R:Type}:Inl R:= .mk 128 TR [] ta Tryz.f128.results.toList []
def WE:Cfg:={T:=cx,aX:=aG.G Tryz.prog,eqs:=cy,N:=6,fuel:=64,fid:=128}
theorem acJ:aH Tryz.prog WE:=aZ cA cB trivial
def adm {R:Type}:Inl R:= .mk 128 WE [] ta Tryz.f128.results.toList []
def VY {R:Type}:List (Nat×Hd R):= []
def PH {R:Type}:List (Nat×Inl R):=[(8,alf),(10,adm)]
def Md:Cfg:={T:=cx,aX:=aG.G Tryz.prog,eqs:=cy,N:=20,fuel:=64,fid:=91}
theorem aiV:aH Tryz.prog Md:=aZ cA cB trivial
theorem XW {R:Type}:aP Tryz.prog (R:=R) 1 PH:=bF Tryz.f128 Zt (bF Tryz.f128 acJ (aC _ _))
theorem aet {R:Type}:aL (R:=R) (hnd 1 PH) Md VY th:=aD (l:= []) (by kernel_rfl) (trivial)
def agH {R:Type}:Inl R:= .mk 91 Md VY th Tryz.f91.results.toList PH
def RP {R:Type}:List (Nat×Hd R):= []
def Mm {R:Type}:List (Nat×Inl R):=[(8,aai),(10,agH)]
def Qd:Cfg:={T:=cx,aX:=aG.G Tryz.prog,eqs:=cy,N:=11,fuel:=64,fid:=90}
theorem XD:aH Tryz.prog Qd:=aZ cA cB trivial
theorem ajl {R:Type}:aP Tryz.prog (R:=R) 2 Mm:=bF Tryz.f41 abu (bE Tryz.f91 aiV aet (bw (by kernel_rfl)) XW (aC _ _))
theorem agb {R:Type}:aL (R:=R) (hnd 2 Mm) Qd RP Iu:=aD (l:= []) (by kernel_rfl) (trivial)
def aib {R:Type}:Inl R:= .mk 90 Qd RP Iu Tryz.f90.results.toList Mm
def NR {R:Type}:List (Nat×Hd R):=[(3,bC B1 Kj)]
def Ky {R:Type}:List (Nat×Inl R):=[(30,ans),(46,aib)]
def KB:Cfg:={T:=cx,aX:=aG.G Tryz.prog,eqs:=cy,N:=49,fuel:=64,loops:=[(3,⟨[0,1,2,8,9,10], [],[0,1],2, [], [], [], []⟩)],blocks:=[(0,⟨[0,1,2,8,9], [],[0,1],2, [], [], [], []⟩)],fid:=89}
theorem aeL:aH Tryz.prog KB:=aZ cA cB trivial
theorem aeF {R:Type}:aP Tryz.prog (R:=R) 3 Ky:=bE Tryz.f90 afe abO (bw (by kernel_rfl)) akt (bE Tryz.f90 XD agb (bw (by kernel_rfl)) ajl (aC _ _))
theorem alR {R:Type}:bA (R:=R) (hnd 3 Ky) KB NR (sub [1,1,1,0,0,0] Gs) (HS.V B1) (HS.st B1) (HS.sh B1) Kj (bC B1 Kj):=aN B1 Kj (fun _ _=>rfl) (by intro q v K;kernel_rfl)
theorem afX {R:Type}:aL (R:=R) (hnd 3 Ky) KB NR Gs:=aD (l:=[sub [1,1,1,0,0,0] Gs]) (by kernel_rfl) (aK (b:=sub [1,1,1,0,0,0] Gs) (rid:=3) (by kernel_rfl) (by kernel_rfl) alR (trivial))
def ajq {R:Type}:Inl R:= .mk 89 KB NR Gs Tryz.f89.results.toList Ky
def akC {R:Type}:List (Nat×Hd R):= []
def Sk {R:Type}:List (Nat×Inl R):=[(11,ajq)]
def UN:Cfg:={T:=cx,aX:=aG.G Tryz.prog,eqs:=cy,N:=14,fuel:=64,fid:=40}
theorem YF:aH Tryz.prog UN:=aZ cA cB trivial
theorem ac0 {R:Type}:aP Tryz.prog (R:=R) 4 Sk:=bE Tryz.f89 aeL afX (bw (by kernel_rfl)) aeF (aC _ _)
theorem aaC {R:Type}:aL (R:=R) (hnd 4 Sk) UN akC am5:=aD (l:= []) (by kernel_rfl) (trivial)
theorem OV:aT Tryz.prog 40 HO:=bl Tryz.f40 YF m8 (d:=4) ac0 aaC (bw (by kernel_rfl)) (toY:=ab9)
def Sg:List HV:=[.agg hIn]
def MK:List HV:=[.one (.int .i64)]
def adD:HP.V Sg→ae:=fun v=>((cIn v.1))
def agO:HX.V MK→Int:=fun v=>(v)
def amd:Int→HX.V MK:=fun y=>(y)
def akU:ae→Option (Int):=fun x=>jq x
def H0:Spec:=aU Sg MK adD amd akU
def ahM:Cfg:={T:=cx,aX:=aG.G Tryz.prog,eqs:=cy,N:=5,fuel:=64,fid:=41}
theorem aiT:aH Tryz.prog ahM:=aZ cA cB trivial
theorem MH:aT Tryz.prog 41 H0:=bV Tryz.f41 aiT m8 (toY:=agO)
def R5:List HV:=[.agg [.int .i64, .int .i64, .int .i64, .sl .aB, .sl .kept, .sl .aB], .agg [.int .i64, .int .i64, .bool, .str]]
def Pb:List HV:=[.agg [.int .i64, .int .i64, .int .i64, .sl .aB, .sl .kept, .sl .aB]]
def af0:HP.V R5→al×Kept:=fun v=>((⟨(cFs v.1),(⟨v.1.2.2.2.2.1,v.1.2.2.2.2.2.1⟩:ay)⟩:al),(⟨v.2.1.1,v.2.1.2.1,v.2.1.2.2.1,v.2.1.2.2.2.1⟩:Kept))
def aln:HX.V Pb→al:=fun v=>((⟨(cFs v),(⟨v.2.2.2.2.1,v.2.2.2.2.2.1⟩:ay)⟩:al))
def akE:al→HX.V Pb:=fun y=>((y.fs.aq,(y.fs.au,(y.fs.next,(y.fs.aa,(y.ao.kept,(y.ao.aJ,())))))))
def amf:(al×Kept)→Option (al):=fun x=>eF x.1 x.2
def IU:Spec:=aU R5 Pb af0 akE amf
def SZ:Cfg:={T:=cx,spec:=[(70,Lt)],aX:=aG.G Tryz.prog,eqs:=cy,N:=95,fuel:=64,ovl:=[130],fid:=94,qb:=true}
theorem aor:aH Tryz.prog SZ:=aZ cA cB ⟨Oj,trivial⟩ (ov:=⟨Hw,trivial⟩)
def agI {R:Type}:Inl R:= .mk 94 SZ [] aaQ Tryz.f94.results.toList []
def afo {R:Type}:List (Nat×Hd R):= []
def Uk {R:Type}:List (Nat×Inl R):=[(23,agI)]
def R9:Cfg:={T:=cx,spec:=[(70,Lt)],aX:=aG.G Tryz.prog,eqs:=cy,N:=27,fuel:=64,ovl:=[130],fid:=44,fresh:=[(95,JD)],qb:=true}
theorem afK:aH Tryz.prog R9:=aZ cA cB ⟨Oj,trivial⟩ (ov:=⟨Hw,trivial⟩) (fr:=⟨OQ,trivial⟩)
theorem acd {R:Type}:aP Tryz.prog (R:=R) 1 Uk:=bF Tryz.f94 aor (aC _ _)
theorem anj {R:Type}:aL (R:=R) (hnd 1 Uk) R9 afo ale:=aD (l:= []) (by kernel_rfl) (trivial)
theorem PI:aT Tryz.prog 44 IU:=bl Tryz.f44 afK m8 (d:=1) acd anj (bw (by kernel_rfl)) (toY:=aln)
def Ub:List HV:=[.agg [.int .i64, .int .i64, .int .i64, .sl .aB, .sl .kept, .sl .aB], .one (.int .i64), .agg [.int .i64, .str, .int .i64]]
def MI:List HV:=[.agg [.int .i64, .int .i64, .int .i64, .sl .aB, .sl .kept, .sl .aB], .one (.int .i64)]
def amI:HP.V Ub→al×Int×ax:=fun v=>((⟨(cFs v.1),(⟨v.1.2.2.2.2.1,v.1.2.2.2.2.2.1⟩:ay)⟩:al),v.2.1,(⟨v.2.2.1.1,v.2.2.1.2.1,v.2.2.1.2.2.1⟩:ax))
def ako:HX.V MI→al×Int:=fun v=>((⟨(cFs v.1),(⟨v.1.2.2.2.2.1,v.1.2.2.2.2.2.1⟩:ay)⟩:al),v.2)
def aji:(al×Int)→HX.V MI:=fun y=>((y.1.fs.aq,(y.1.fs.au,(y.1.fs.next,(y.1.fs.aa,(y.1.ao.kept,(y.1.ao.aJ,())))))),y.2)
def ao0:(al×Int×ax)→Option (al×Int):=fun x=>er x.1 x.2.1 x.2.2
def DV:Spec:=aU Ub MI amI aji ao0
def TZ:Cfg:={T:=cx,spec:=[(29,u6),(38,mH),(39,Pj),(40,HO),(44,IU)],aX:=aG.G Tryz.prog,eqs:=cy,N:=95,fuel:=64,ovl:=[92],fid:=42,qb:=true}
theorem aaV:aH Tryz.prog TZ:=aZ cA cB ⟨wi,⟨nD,⟨TC,⟨OV,⟨PI,trivial⟩⟩⟩⟩⟩ (ov:=⟨AW,trivial⟩)
def ZI {R:Type}:Inl R:= .mk 42 TZ [] akv Tryz.f42.results.toList []
def anI {R:Type}:List (Nat×Hd R):= []
def VW {R:Type}:List (Nat×Inl R):=[(65,ZI)]
def Rq:Cfg:={T:=cx,spec:=[(29,u6),(38,mH),(39,Pj),(40,HO),(44,IU)],aX:=aG.G Tryz.prog,eqs:=cy,N:=74,fuel:=64,ovl:=[92],fid:=16,fresh:=[(43,IS)],qb:=true}
theorem agN:aH Tryz.prog Rq:=aZ cA cB ⟨wi,⟨nD,⟨TC,⟨OV,⟨PI,trivial⟩⟩⟩⟩⟩ (ov:=⟨AW,trivial⟩) (fr:=⟨Mo,trivial⟩)
theorem Ym {R:Type}:aP Tryz.prog (R:=R) 1 VW:=bF Tryz.f42 aaV (aC _ _)
theorem aoK {R:Type}:aL (R:=R) (hnd 1 VW) Rq anI abo:=aD (l:= []) (by kernel_rfl) (trivial)
theorem Fq:aT Tryz.prog 16 DV:=bl Tryz.f16 agN m8 (d:=1) Ym aoK (bw (by kernel_rfl)) (toY:=ako)
def WI:List HV:=[.agg [.int .i64, .int .i64, .int .i64, .sl .aB, .sl .kept, .sl .aB], .one (.int .i64)]
def QP:List HV:=[.agg hIn, .one (.bool)]
def Zr:HP.V WI→al×Int:=fun v=>((⟨(cFs v.1),(⟨v.1.2.2.2.2.1,v.1.2.2.2.2.2.1⟩:ay)⟩:al),v.2.1)
def adM:HX.V QP→ae×Bool:=fun v=>((cIn v.1),v.2)
def ak_:(ae×Bool)→HX.V QP:=fun y=>((y.1.ino,(y.1.kind,(y.1.ar,(y.1.data,(y.1.parent,(y.1.entries,())))))),y.2)
def anA:(al×Int)→Option (ae×Bool):=fun x=>jl x.1 x.2
def Ba:Spec:=aU WI QP Zr ak_ anA
def anb:Cfg:={T:=cx,spec:=[(38,mH),(40,HO)],aX:=aG.G Tryz.prog,eqs:=cy,N:=36,fuel:=64,fid:=50}
theorem ao8:aH Tryz.prog anb:=aZ cA cB ⟨nD,⟨OV,trivial⟩⟩
theorem Et:aT Tryz.prog 50 Ba:=bV Tryz.f50 ao8 m8 (toY:=adM)
def B5:HS:=⟨[(0, .one (.own 3)),(1, .one (.clo 4)),(7, .one (.int .i64)),(8, .one (.int .i64)),(1000000, .one (.own 3)),(1000001, .one (.clo 4)),(2000002, .one (.ptr 0 0)),(2000004, .one (.ptr 2 0))],[(0, .cells [.int .i64, .int .i64, .int .i64, .sl .aB, .sl .kept, .sl .aB]),(1, .cells [.int .i64]),(2, .cells [.int .i64, .int .i64, .int .i64, .sl .aB, .sl .kept, .sl .aB]),(3, .row .kept),(4, .clo 103 [] [.ptr 1 0])],5⟩
def IV {R:Type}:Nat→HS.V B5→(Ex→St→Option R)→Option R:=fun q v K=>
 dm v.1.2.2.1 v.2.2.1.1 v.2.2.2.2.1 (fun y9=>K .ret {aA:=[(4, .v (.one (.int .i64 y9))),(1000000, .v (.one (.own 3))),(1000001, .v (.one (.clo 4))),(2000002, .v (.one (.ptr 0 0))),(2000004, .v (.one (.ptr 2 0)))],mem:=[(0, .cells [.int .i64 ((⟨(cFs v.2.1),(⟨v.2.1.2.2.2.2.1,v.2.1.2.2.2.2.2.1⟩:ay)⟩:al).fs.aq), .int .i64 ((⟨(cFs v.2.1),(⟨v.2.1.2.2.2.2.1,v.2.1.2.2.2.2.2.1⟩:ay)⟩:al).fs.au), .int .i64 ((⟨(cFs v.2.1),(⟨v.2.1.2.2.2.2.1,v.2.1.2.2.2.2.2.1⟩:ay)⟩:al).fs.next), .sl .aB ((⟨(cFs v.2.1),(⟨v.2.1.2.2.2.2.1,v.2.1.2.2.2.2.2.1⟩:ay)⟩:al).fs.aa), .sl .kept ((⟨(cFs v.2.1),(⟨v.2.1.2.2.2.2.1,v.2.1.2.2.2.2.2.1⟩:ay)⟩:al).ao.kept), .sl .aB ((⟨(cFs v.2.1),(⟨v.2.1.2.2.2.2.1,v.2.1.2.2.2.2.2.1⟩:ay)⟩:al).ao.aJ)]),(1, .cells [.int .i64 v.2.2.1.1]),(2, .cells [.int .i64 ((⟨(cFs v.2.2.2.1),(⟨v.2.2.2.1.2.2.2.2.1,v.2.2.2.1.2.2.2.2.2.1⟩:ay)⟩:al).fs.aq), .int .i64 ((⟨(cFs v.2.2.2.1),(⟨v.2.2.2.1.2.2.2.2.1,v.2.2.2.1.2.2.2.2.2.1⟩:ay)⟩:al).fs.au), .int .i64 ((⟨(cFs v.2.2.2.1),(⟨v.2.2.2.1.2.2.2.2.1,v.2.2.2.1.2.2.2.2.2.1⟩:ay)⟩:al).fs.next), .sl .aB ((⟨(cFs v.2.2.2.1),(⟨v.2.2.2.1.2.2.2.2.1,v.2.2.2.1.2.2.2.2.2.1⟩:ay)⟩:al).fs.aa), .sl .kept ((⟨(cFs v.2.2.2.1),(⟨v.2.2.2.1.2.2.2.2.1,v.2.2.2.1.2.2.2.2.2.1⟩:ay)⟩:al).ao.kept), .sl .aB ((⟨(cFs v.2.2.2.1),(⟨v.2.2.2.1.2.2.2.2.1,v.2.2.2.1.2.2.2.2.2.1⟩:ay)⟩:al).ao.aJ)]),(3, .row .kept v.2.2.2.2.1),(4, .clo 103 [] [.ptr 1 0])],nx:=5}) (K (.exit 0) {aA:=[(1000000, .v (.one (.own 3))),(1000001, .v (.one (.clo 4))),(2000002, .v (.one (.ptr 0 0))),(2000004, .v (.one (.ptr 2 0)))],mem:=[(0, .cells [.int .i64 ((⟨(cFs v.2.1),(⟨v.2.1.2.2.2.2.1,v.2.1.2.2.2.2.2.1⟩:ay)⟩:al).fs.aq), .int .i64 ((⟨(cFs v.2.1),(⟨v.2.1.2.2.2.2.1,v.2.1.2.2.2.2.2.1⟩:ay)⟩:al).fs.au), .int .i64 ((⟨(cFs v.2.1),(⟨v.2.1.2.2.2.2.1,v.2.1.2.2.2.2.2.1⟩:ay)⟩:al).fs.next), .sl .aB ((⟨(cFs v.2.1),(⟨v.2.1.2.2.2.2.1,v.2.1.2.2.2.2.2.1⟩:ay)⟩:al).fs.aa), .sl .kept ((⟨(cFs v.2.1),(⟨v.2.1.2.2.2.2.1,v.2.1.2.2.2.2.2.1⟩:ay)⟩:al).ao.kept), .sl .aB ((⟨(cFs v.2.1),(⟨v.2.1.2.2.2.2.1,v.2.1.2.2.2.2.2.1⟩:ay)⟩:al).ao.aJ)]),(1, .cells [.int .i64 v.2.2.1.1]),(2, .cells [.int .i64 ((⟨(cFs v.2.2.2.1),(⟨v.2.2.2.1.2.2.2.2.1,v.2.2.2.1.2.2.2.2.2.1⟩:ay)⟩:al).fs.aq), .int .i64 ((⟨(cFs v.2.2.2.1),(⟨v.2.2.2.1.2.2.2.2.1,v.2.2.2.1.2.2.2.2.2.1⟩:ay)⟩:al).fs.au), .int .i64 ((⟨(cFs v.2.2.2.1),(⟨v.2.2.2.1.2.2.2.2.1,v.2.2.2.1.2.2.2.2.2.1⟩:ay)⟩:al).fs.next), .sl .aB ((⟨(cFs v.2.2.2.1),(⟨v.2.2.2.1.2.2.2.2.1,v.2.2.2.1.2.2.2.2.2.1⟩:ay)⟩:al).fs.aa), .sl .kept ((⟨(cFs v.2.2.2.1),(⟨v.2.2.2.1.2.2.2.2.1,v.2.2.2.1.2.2.2.2.2.1⟩:ay)⟩:al).ao.kept), .sl .aB ((⟨(cFs v.2.2.2.1),(⟨v.2.2.2.1.2.2.2.2.1,v.2.2.2.1.2.2.2.2.2.1⟩:ay)⟩:al).ao.aJ)]),(3, .row .kept v.2.2.2.2.1),(4, .clo 103 [] [.ptr 1 0])],nx:=5}) q v.1.2.2.2.1
def A4:HS:=⟨[(0, .one (.own 3)),(1, .one (.clo 4)),(5, .one (.int .i64)),(6, .one (.int .i64)),(1000002, .one (.ptr 0 0)),(1000004, .one (.ptr 2 0))],[(0, .cells [.int .i64, .int .i64, .int .i64, .sl .aB, .sl .kept, .sl .aB]),(1, .cells [.int .i64]),(2, .cells [.int .i64, .int .i64, .int .i64, .sl .aB, .sl .kept, .sl .aB]),(3, .row .kept),(4, .clo 103 [] [.ptr 1 0])],5⟩
def KR {R:Type}:Nat→HS.V A4→(Ex→St→Option R)→Option R:=fun q v K=>
 cS v.2.2.1.1 (fun y27 y30=>K (.exit 0) {aA:=[(0, .v (.one (.own 3))),(5, .v (.one (.int .i64 y27))),(1000002, .v (.one (.ptr 0 0))),(1000004, .v (.one (.ptr 2 0)))],mem:=[(0, .cells [.int .i64 ((⟨(cFs v.2.1),(⟨v.2.1.2.2.2.2.1,v.2.1.2.2.2.2.2.1⟩:ay)⟩:al).fs.aq), .int .i64 ((⟨(cFs v.2.1),(⟨v.2.1.2.2.2.2.1,v.2.1.2.2.2.2.2.1⟩:ay)⟩:al).fs.au), .int .i64 ((⟨(cFs v.2.1),(⟨v.2.1.2.2.2.2.1,v.2.1.2.2.2.2.2.1⟩:ay)⟩:al).fs.next), .sl .aB ((⟨(cFs v.2.1),(⟨v.2.1.2.2.2.2.1,v.2.1.2.2.2.2.2.1⟩:ay)⟩:al).fs.aa), .sl .kept ((⟨(cFs v.2.1),(⟨v.2.1.2.2.2.2.1,v.2.1.2.2.2.2.2.1⟩:ay)⟩:al).ao.kept), .sl .aB ((⟨(cFs v.2.1),(⟨v.2.1.2.2.2.2.1,v.2.1.2.2.2.2.2.1⟩:ay)⟩:al).ao.aJ)]),(2, .cells [.int .i64 ((⟨(cFs v.2.2.2.1),(⟨v.2.2.2.1.2.2.2.2.1,v.2.2.2.1.2.2.2.2.2.1⟩:ay)⟩:al).fs.aq), .int .i64 ((⟨(cFs v.2.2.2.1),(⟨v.2.2.2.1.2.2.2.2.1,v.2.2.2.1.2.2.2.2.2.1⟩:ay)⟩:al).fs.au), .int .i64 ((⟨(cFs v.2.2.2.1),(⟨v.2.2.2.1.2.2.2.2.1,v.2.2.2.1.2.2.2.2.2.1⟩:ay)⟩:al).fs.next), .sl .aB ((⟨(cFs v.2.2.2.1),(⟨v.2.2.2.1.2.2.2.2.1,v.2.2.2.1.2.2.2.2.2.1⟩:ay)⟩:al).fs.aa), .sl .kept ((⟨(cFs v.2.2.2.1),(⟨v.2.2.2.1.2.2.2.2.1,v.2.2.2.1.2.2.2.2.2.1⟩:ay)⟩:al).ao.kept), .sl .aB ((⟨(cFs v.2.2.2.1),(⟨v.2.2.2.1.2.2.2.2.1,v.2.2.2.1.2.2.2.2.2.1⟩:ay)⟩:al).ao.aJ)]),(3, .row .kept y30)],nx:=4}) q v.1.2.2.1 v.1.2.2.2.1 v.2.2.2.2.1
def Vh:List HV:=[.agg [.int .i64, .int .i64, .int .i64, .sl .aB, .sl .kept, .sl .aB], .one (.int .i64)]
def ML:List HV:=[.agg [.int .i64, .int .i64, .int .i64, .sl .aB, .sl .kept, .sl .aB]]
def af3:HP.V Vh→al×Int:=fun v=>((⟨(cFs v.1),(⟨v.1.2.2.2.2.1,v.1.2.2.2.2.2.1⟩:ay)⟩:al),v.2.1)
def ajc:HX.V ML→al:=fun v=>((⟨(cFs v),(⟨v.2.2.2.2.1,v.2.2.2.2.2.1⟩:ay)⟩:al))
def afq:al→HX.V ML:=fun y=>((y.fs.aq,(y.fs.au,(y.fs.next,(y.fs.aa,(y.ao.kept,(y.ao.aJ,())))))))
def apc:(al×Int)→Option (al):=fun x=>aS x.1 x.2
def Co:Spec:=aU Vh ML af3 afq apc
def Rl:Cfg:={T:=cx,aX:=aG.G Tryz.prog,eqs:=cy,N:=8,fuel:=64,fid:=103}
theorem afp:aH Tryz.prog Rl:=aZ cA cB trivial
def aiM {R:Type}:Inl R:= .mk 103 Rl [] Wx Tryz.f103.results.toList []
def Re {R:Type}:List (Nat×Hd R):=[(2,bC B5 IV)]
def JE {R:Type}:List (Nat×Inl R):=[(16,aiM)]
def LG:Cfg:={T:=cx,aX:=aG.G Tryz.prog,eqs:=cy,N:=19,fuel:=64,loops:=[(2,⟨[0,1,7,8,1000000,1000001,2000002,2000004], [],[0,1,2,3,4],5, [],[2], [], []⟩)],blocks:=[(0,⟨[1000000,1000001,2000002,2000004], [],[0,1,2,3,4],5, [], [], [], []⟩)],eV:=some ⟨[4,1000000,1000001,2000002,2000004], [],[0,1,2,3,4],5, [], [], [], []⟩,fid:=121}
theorem ao3:aH Tryz.prog LG:=aZ cA cB trivial
theorem afD {R:Type}:aP Tryz.prog (R:=R) 1 JE:=bF Tryz.f103 afp (aC _ _)
theorem ajB {R:Type}:bA (R:=R) (hnd 1 JE) LG Re (sub [1,0,1,0,0] pT) (HS.V B5) (HS.st B5) (HS.sh B5) IV (bC B5 IV):=aN B5 IV (fun _ _=>rfl) (by intro q v K;kernel_rfl)
theorem aoG {R:Type}:aL (R:=R) (hnd 1 JE) LG Re pT:=aD (l:=[sub [1,0,1,0,0] pT]) (by kernel_rfl) (aK (b:=sub [1,0,1,0,0] pT) (rid:=2) (by kernel_rfl) (by kernel_rfl) ajB (trivial))
def ac9 {R:Type}:Inl R:= .mk 121 LG Re pT Tryz.f121.results.toList JE
def SD:Cfg:={T:=cx,aX:=aG.G Tryz.prog,eqs:=cy,N:=8,fuel:=64,fid:=103}
theorem ahm:aH Tryz.prog SD:=aZ cA cB trivial
def ah8 {R:Type}:Inl R:= .mk 103 SD [] Wx Tryz.f103.results.toList []
def Oq {R:Type}:List (Nat×Hd R):=[(5,bC A4 KR)]
def LK {R:Type}:List (Nat×Inl R):=[(10,ac9),(28,ah8)]
def I2:Cfg:={T:=cx,aX:=aG.G Tryz.prog,eqs:=cy,N:=42,fuel:=64,loops:=[(5,⟨[0,1,5,6,1000002,1000004], [],[0,1,2,3,4],5, [], [], [], []⟩)],blocks:=[(0,⟨[0,5,1000002,1000004], [],[0,2,3],4, [], [], [], []⟩)],fid:=102}
theorem ac3:aH Tryz.prog I2:=aZ cA cB trivial
theorem X5 {R:Type}:aP Tryz.prog (R:=R) 2 LK:=bE Tryz.f121 ao3 aoG (bw (by kernel_rfl)) afD (bF Tryz.f103 ahm (aC _ _))
theorem afG {R:Type}:bA (R:=R) (hnd 2 LK) I2 Oq (sub [1,1,1,0,1,0,0] F_) (HS.V A4) (HS.st A4) (HS.sh A4) KR (bC A4 KR):=aN A4 KR (fun _ _=>rfl) (by intro q v K;kernel_rfl)
theorem ais {R:Type}:aL (R:=R) (hnd 2 LK) I2 Oq F_:=aD (l:=[sub [1,1,1,0,1,0,0] F_]) (by kernel_rfl) (aK (b:=sub [1,1,1,0,1,0,0] F_) (rid:=5) (by kernel_rfl) (by kernel_rfl) afG (trivial))
def aiA {R:Type}:Inl R:= .mk 102 I2 Oq F_ Tryz.f102.results.toList LK
def YL {R:Type}:List (Nat×Hd R):= []
def UL {R:Type}:List (Nat×Inl R):=[(10,aiA)]
def Xn:Cfg:={T:=cx,aX:=aG.G Tryz.prog,eqs:=cy,N:=14,fuel:=64,fid:=56,fresh:=[(95,JD)]}
theorem agw:aH Tryz.prog Xn:=aZ cA cB trivial (fr:=⟨OQ,trivial⟩)
theorem XT {R:Type}:aP Tryz.prog (R:=R) 3 UL:=bE Tryz.f102 ac3 ais (bw (by kernel_rfl)) X5 (aC _ _)
theorem acY {R:Type}:aL (R:=R) (hnd 3 UL) Xn YL akx:=aD (l:= []) (by kernel_rfl) (trivial)
theorem EG:aT Tryz.prog 56 Co:=bl Tryz.f56 agw m8 (d:=3) XT acY (bw (by kernel_rfl)) (toY:=ajc)
def CZ:HS:=⟨[(0, .one (.own 5)),(1, .one (.clo 6)),(7, .one (.int .i64)),(8, .one (.int .i64)),(1000000, .one (.own 5)),(1000001, .one (.clo 6)),(2000001, .one (.int .i64)),(2000003, .one (.ptr 0 0)),(2000005, .one (.ptr 1 0)),(2000006, .one (.ptr 2 0)),(2000008, .one (.ptr 3 0)),(2000010, .one (.ptr 4 0))],[(0, .cells [.int .i64, .int .i64, .int .i64, .sl .aB, .sl .kept, .sl .aB]),(1, .cells [.int .i64, .str, .int .i64]),(2, .cells [.int .i64, .int .i64, .int .i64, .sl .aB, .sl .kept, .sl .aB]),(3, .cells [.int .i64, .int .i64, .bool, .str]),(4, .cells hIn),(5, .row .aB),(6, .clo 53 [] [.ptr 4 0])],7⟩
def Hy {R:Type}:Nat→HS.V CZ→(Ex→St→Option R)→Option R:=fun q v K=>
 bJ v.1.2.2.1 (cIn v.2.2.2.2.2.1) v.2.2.2.2.2.2.1 (fun y17=>K .ret {aA:=[(4, .v (.one (.int .i64 y17))),(1000000, .v (.one (.own 5))),(1000001, .v (.one (.clo 6))),(2000001, .v (.one (.int .i64 v.1.2.2.2.2.2.2.1))),(2000003, .v (.one (.ptr 0 0))),(2000005, .v (.one (.ptr 1 0))),(2000006, .v (.one (.ptr 2 0))),(2000008, .v (.one (.ptr 3 0))),(2000010, .v (.one (.ptr 4 0)))],mem:=[(0, .cells [.int .i64 ((⟨(cFs v.2.1),(⟨v.2.1.2.2.2.2.1,v.2.1.2.2.2.2.2.1⟩:ay)⟩:al).fs.aq), .int .i64 ((⟨(cFs v.2.1),(⟨v.2.1.2.2.2.2.1,v.2.1.2.2.2.2.2.1⟩:ay)⟩:al).fs.au), .int .i64 ((⟨(cFs v.2.1),(⟨v.2.1.2.2.2.2.1,v.2.1.2.2.2.2.2.1⟩:ay)⟩:al).fs.next), .sl .aB ((⟨(cFs v.2.1),(⟨v.2.1.2.2.2.2.1,v.2.1.2.2.2.2.2.1⟩:ay)⟩:al).fs.aa), .sl .kept ((⟨(cFs v.2.1),(⟨v.2.1.2.2.2.2.1,v.2.1.2.2.2.2.2.1⟩:ay)⟩:al).ao.kept), .sl .aB ((⟨(cFs v.2.1),(⟨v.2.1.2.2.2.2.1,v.2.1.2.2.2.2.2.1⟩:ay)⟩:al).ao.aJ)]),(1, .cells [.int .i64 ((⟨v.2.2.1.1,v.2.2.1.2.1,v.2.2.1.2.2.1⟩:ax).dir), .str ((⟨v.2.2.1.1,v.2.2.1.2.1,v.2.2.1.2.2.1⟩:ax).name), .int .i64 ((⟨v.2.2.1.1,v.2.2.1.2.1,v.2.2.1.2.2.1⟩:ax).ino)]),(2, .cells [.int .i64 ((⟨(cFs v.2.2.2.1),(⟨v.2.2.2.1.2.2.2.2.1,v.2.2.2.1.2.2.2.2.2.1⟩:ay)⟩:al).fs.aq), .int .i64 ((⟨(cFs v.2.2.2.1),(⟨v.2.2.2.1.2.2.2.2.1,v.2.2.2.1.2.2.2.2.2.1⟩:ay)⟩:al).fs.au), .int .i64 ((⟨(cFs v.2.2.2.1),(⟨v.2.2.2.1.2.2.2.2.1,v.2.2.2.1.2.2.2.2.2.1⟩:ay)⟩:al).fs.next), .sl .aB ((⟨(cFs v.2.2.2.1),(⟨v.2.2.2.1.2.2.2.2.1,v.2.2.2.1.2.2.2.2.2.1⟩:ay)⟩:al).fs.aa), .sl .kept ((⟨(cFs v.2.2.2.1),(⟨v.2.2.2.1.2.2.2.2.1,v.2.2.2.1.2.2.2.2.2.1⟩:ay)⟩:al).ao.kept), .sl .aB ((⟨(cFs v.2.2.2.1),(⟨v.2.2.2.1.2.2.2.2.1,v.2.2.2.1.2.2.2.2.2.1⟩:ay)⟩:al).ao.aJ)]),(3, .cells [.int .i64 ((⟨v.2.2.2.2.1.1,v.2.2.2.2.1.2.1,v.2.2.2.2.1.2.2.1,v.2.2.2.2.1.2.2.2.1⟩:Kept).slot), .int .i64 ((⟨v.2.2.2.2.1.1,v.2.2.2.2.1.2.1,v.2.2.2.2.1.2.2.1,v.2.2.2.2.1.2.2.2.1⟩:Kept).ino), .bool ((⟨v.2.2.2.2.1.1,v.2.2.2.2.1.2.1,v.2.2.2.2.1.2.2.1,v.2.2.2.2.1.2.2.2.1⟩:Kept).content), .str ((⟨v.2.2.2.2.1.1,v.2.2.2.2.1.2.1,v.2.2.2.2.1.2.2.1,v.2.2.2.2.1.2.2.2.1⟩:Kept).data)]),(4, .cells (rIn (cIn v.2.2.2.2.2.1))),(5, .row .aB v.2.2.2.2.2.2.1),(6, .clo 53 [] [.ptr 4 0])],nx:=7}) (K (.exit 0) {aA:=[(1000000, .v (.one (.own 5))),(1000001, .v (.one (.clo 6))),(2000001, .v (.one (.int .i64 v.1.2.2.2.2.2.2.1))),(2000003, .v (.one (.ptr 0 0))),(2000005, .v (.one (.ptr 1 0))),(2000006, .v (.one (.ptr 2 0))),(2000008, .v (.one (.ptr 3 0))),(2000010, .v (.one (.ptr 4 0)))],mem:=[(0, .cells [.int .i64 ((⟨(cFs v.2.1),(⟨v.2.1.2.2.2.2.1,v.2.1.2.2.2.2.2.1⟩:ay)⟩:al).fs.aq), .int .i64 ((⟨(cFs v.2.1),(⟨v.2.1.2.2.2.2.1,v.2.1.2.2.2.2.2.1⟩:ay)⟩:al).fs.au), .int .i64 ((⟨(cFs v.2.1),(⟨v.2.1.2.2.2.2.1,v.2.1.2.2.2.2.2.1⟩:ay)⟩:al).fs.next), .sl .aB ((⟨(cFs v.2.1),(⟨v.2.1.2.2.2.2.1,v.2.1.2.2.2.2.2.1⟩:ay)⟩:al).fs.aa), .sl .kept ((⟨(cFs v.2.1),(⟨v.2.1.2.2.2.2.1,v.2.1.2.2.2.2.2.1⟩:ay)⟩:al).ao.kept), .sl .aB ((⟨(cFs v.2.1),(⟨v.2.1.2.2.2.2.1,v.2.1.2.2.2.2.2.1⟩:ay)⟩:al).ao.aJ)]),(1, .cells [.int .i64 ((⟨v.2.2.1.1,v.2.2.1.2.1,v.2.2.1.2.2.1⟩:ax).dir), .str ((⟨v.2.2.1.1,v.2.2.1.2.1,v.2.2.1.2.2.1⟩:ax).name), .int .i64 ((⟨v.2.2.1.1,v.2.2.1.2.1,v.2.2.1.2.2.1⟩:ax).ino)]),(2, .cells [.int .i64 ((⟨(cFs v.2.2.2.1),(⟨v.2.2.2.1.2.2.2.2.1,v.2.2.2.1.2.2.2.2.2.1⟩:ay)⟩:al).fs.aq), .int .i64 ((⟨(cFs v.2.2.2.1),(⟨v.2.2.2.1.2.2.2.2.1,v.2.2.2.1.2.2.2.2.2.1⟩:ay)⟩:al).fs.au), .int .i64 ((⟨(cFs v.2.2.2.1),(⟨v.2.2.2.1.2.2.2.2.1,v.2.2.2.1.2.2.2.2.2.1⟩:ay)⟩:al).fs.next), .sl .aB ((⟨(cFs v.2.2.2.1),(⟨v.2.2.2.1.2.2.2.2.1,v.2.2.2.1.2.2.2.2.2.1⟩:ay)⟩:al).fs.aa), .sl .kept ((⟨(cFs v.2.2.2.1),(⟨v.2.2.2.1.2.2.2.2.1,v.2.2.2.1.2.2.2.2.2.1⟩:ay)⟩:al).ao.kept), .sl .aB ((⟨(cFs v.2.2.2.1),(⟨v.2.2.2.1.2.2.2.2.1,v.2.2.2.1.2.2.2.2.2.1⟩:ay)⟩:al).ao.aJ)]),(3, .cells [.int .i64 ((⟨v.2.2.2.2.1.1,v.2.2.2.2.1.2.1,v.2.2.2.2.1.2.2.1,v.2.2.2.2.1.2.2.2.1⟩:Kept).slot), .int .i64 ((⟨v.2.2.2.2.1.1,v.2.2.2.2.1.2.1,v.2.2.2.2.1.2.2.1,v.2.2.2.2.1.2.2.2.1⟩:Kept).ino), .bool ((⟨v.2.2.2.2.1.1,v.2.2.2.2.1.2.1,v.2.2.2.2.1.2.2.1,v.2.2.2.2.1.2.2.2.1⟩:Kept).content), .str ((⟨v.2.2.2.2.1.1,v.2.2.2.2.1.2.1,v.2.2.2.2.1.2.2.1,v.2.2.2.2.1.2.2.2.1⟩:Kept).data)]),(4, .cells (rIn (cIn v.2.2.2.2.2.1))),(5, .row .aB v.2.2.2.2.2.2.1),(6, .clo 53 [] [.ptr 4 0])],nx:=7}) q v.1.2.2.2.1
def BH:HS:=⟨[(0, .one (.own 5)),(1, .one (.clo 6)),(5, .one (.int .i64)),(6, .one (.int .i64)),(1000001, .one (.int .i64)),(1000003, .one (.ptr 0 0)),(1000005, .one (.ptr 1 0)),(1000006, .one (.ptr 2 0)),(1000008, .one (.ptr 3 0)),(1000010, .one (.ptr 4 0))],[(0, .cells [.int .i64, .int .i64, .int .i64, .sl .aB, .sl .kept, .sl .aB]),(1, .cells [.int .i64, .str, .int .i64]),(2, .cells [.int .i64, .int .i64, .int .i64, .sl .aB, .sl .kept, .sl .aB]),(3, .cells [.int .i64, .int .i64, .bool, .str]),(4, .cells hIn),(5, .row .aB),(6, .clo 53 [] [.ptr 4 0])],7⟩
def IJ {R:Type}:Nat→HS.V BH→(Ex→St→Option R)→Option R:=fun q v K=>
 bQ (cIn v.2.2.2.2.2.1) (fun y47 y54=>K (.exit 0) {aA:=[(0, .v (.one (.own 5))),(5, .v (.one (.int .i64 y47))),(1000001, .v (.one (.int .i64 v.1.2.2.2.2.1))),(1000003, .v (.one (.ptr 0 0))),(1000005, .v (.one (.ptr 1 0))),(1000006, .v (.one (.ptr 2 0))),(1000008, .v (.one (.ptr 3 0))),(1000010, .v (.one (.ptr 4 0)))],mem:=[(0, .cells [.int .i64 ((⟨(cFs v.2.1),(⟨v.2.1.2.2.2.2.1,v.2.1.2.2.2.2.2.1⟩:ay)⟩:al).fs.aq), .int .i64 ((⟨(cFs v.2.1),(⟨v.2.1.2.2.2.2.1,v.2.1.2.2.2.2.2.1⟩:ay)⟩:al).fs.au), .int .i64 ((⟨(cFs v.2.1),(⟨v.2.1.2.2.2.2.1,v.2.1.2.2.2.2.2.1⟩:ay)⟩:al).fs.next), .sl .aB ((⟨(cFs v.2.1),(⟨v.2.1.2.2.2.2.1,v.2.1.2.2.2.2.2.1⟩:ay)⟩:al).fs.aa), .sl .kept ((⟨(cFs v.2.1),(⟨v.2.1.2.2.2.2.1,v.2.1.2.2.2.2.2.1⟩:ay)⟩:al).ao.kept), .sl .aB ((⟨(cFs v.2.1),(⟨v.2.1.2.2.2.2.1,v.2.1.2.2.2.2.2.1⟩:ay)⟩:al).ao.aJ)]),(1, .cells [.int .i64 ((⟨v.2.2.1.1,v.2.2.1.2.1,v.2.2.1.2.2.1⟩:ax).dir), .str ((⟨v.2.2.1.1,v.2.2.1.2.1,v.2.2.1.2.2.1⟩:ax).name), .int .i64 ((⟨v.2.2.1.1,v.2.2.1.2.1,v.2.2.1.2.2.1⟩:ax).ino)]),(2, .cells [.int .i64 ((⟨(cFs v.2.2.2.1),(⟨v.2.2.2.1.2.2.2.2.1,v.2.2.2.1.2.2.2.2.2.1⟩:ay)⟩:al).fs.aq), .int .i64 ((⟨(cFs v.2.2.2.1),(⟨v.2.2.2.1.2.2.2.2.1,v.2.2.2.1.2.2.2.2.2.1⟩:ay)⟩:al).fs.au), .int .i64 ((⟨(cFs v.2.2.2.1),(⟨v.2.2.2.1.2.2.2.2.1,v.2.2.2.1.2.2.2.2.2.1⟩:ay)⟩:al).fs.next), .sl .aB ((⟨(cFs v.2.2.2.1),(⟨v.2.2.2.1.2.2.2.2.1,v.2.2.2.1.2.2.2.2.2.1⟩:ay)⟩:al).fs.aa), .sl .kept ((⟨(cFs v.2.2.2.1),(⟨v.2.2.2.1.2.2.2.2.1,v.2.2.2.1.2.2.2.2.2.1⟩:ay)⟩:al).ao.kept), .sl .aB ((⟨(cFs v.2.2.2.1),(⟨v.2.2.2.1.2.2.2.2.1,v.2.2.2.1.2.2.2.2.2.1⟩:ay)⟩:al).ao.aJ)]),(3, .cells [.int .i64 ((⟨v.2.2.2.2.1.1,v.2.2.2.2.1.2.1,v.2.2.2.2.1.2.2.1,v.2.2.2.2.1.2.2.2.1⟩:Kept).slot), .int .i64 ((⟨v.2.2.2.2.1.1,v.2.2.2.2.1.2.1,v.2.2.2.2.1.2.2.1,v.2.2.2.2.1.2.2.2.1⟩:Kept).ino), .bool ((⟨v.2.2.2.2.1.1,v.2.2.2.2.1.2.1,v.2.2.2.2.1.2.2.1,v.2.2.2.2.1.2.2.2.1⟩:Kept).content), .str ((⟨v.2.2.2.2.1.1,v.2.2.2.2.1.2.1,v.2.2.2.2.1.2.2.1,v.2.2.2.2.1.2.2.2.1⟩:Kept).data)]),(4, .cells (rIn (cIn v.2.2.2.2.2.1))),(5, .row .aB y54)],nx:=6}) q v.1.2.2.1 v.1.2.2.2.1 v.2.2.2.2.2.2.1
def Uz:List HV:=[.agg [.int .i64, .int .i64, .int .i64, .sl .aB, .sl .kept, .sl .aB], .one (.int .i64), .agg [.int .i64, .str, .int .i64]]
def My:List HV:=[.agg [.int .i64, .int .i64, .int .i64, .sl .aB, .sl .kept, .sl .aB], .one (.int .i64)]
def am8:HP.V Uz→al×Int×ax:=fun v=>((⟨(cFs v.1),(⟨v.1.2.2.2.2.1,v.1.2.2.2.2.2.1⟩:ay)⟩:al),v.2.1,(⟨v.2.2.1.1,v.2.2.1.2.1,v.2.2.1.2.2.1⟩:ax))
def ane:HX.V My→al×Int:=fun v=>((⟨(cFs v.1),(⟨v.1.2.2.2.2.1,v.1.2.2.2.2.2.1⟩:ay)⟩:al),v.2)
def aaL:(al×Int)→HX.V My:=fun y=>((y.1.fs.aq,(y.1.fs.au,(y.1.fs.next,(y.1.fs.aa,(y.1.ao.kept,(y.1.ao.aJ,())))))),y.2)
def anJ:(al×Int×ax)→Option (al×Int):=fun x=>cH x.1 x.2.1 x.2.2
def Fg:Spec:=aU Uz My am8 aaL anJ
def Wn:Cfg:={T:=cx,spec:=[(29,u6),(38,mH),(49,C2),(50,Ba),(51,Aj),(54,yk),(55,Fi),(56,Co)],aX:=aG.G Tryz.prog,eqs:=cy,N:=9,fuel:=64,fid:=53}
theorem XP:aH Tryz.prog Wn:=aZ cA cB ⟨wi,⟨nD,⟨Fm,⟨Et,⟨A2,⟨zC,⟨GL,⟨EG,trivial⟩⟩⟩⟩⟩⟩⟩⟩
def ajp {R:Type}:Inl R:= .mk 53 Wn [] R4 Tryz.f53.results.toList []
def NG {R:Type}:List (Nat×Hd R):=[(2,bC CZ Hy)]
def LQ {R:Type}:List (Nat×Inl R):=[(16,ajp)]
def Jz:Cfg:={T:=cx,spec:=[(29,u6),(38,mH),(49,C2),(50,Ba),(51,Aj),(54,yk),(55,Fi),(56,Co)],aX:=aG.G Tryz.prog,eqs:=cy,N:=19,fuel:=64,loops:=[(2,⟨[0,1,7,8,1000000,1000001,2000001,2000003,2000005,2000006,2000008,2000010], [],[0,1,2,3,4,5,6],7, [],[2], [], []⟩)],blocks:=[(0,⟨[1000000,1000001,2000001,2000003,2000005,2000006,2000008,2000010], [],[0,1,2,3,4,5,6],7, [], [], [], []⟩)],eV:=some ⟨[4,1000000,1000001,2000001,2000003,2000005,2000006,2000008,2000010], [],[0,1,2,3,4,5,6],7, [], [], [], []⟩,fid:=100}
theorem XE:aH Tryz.prog Jz:=aZ cA cB ⟨wi,⟨nD,⟨Fm,⟨Et,⟨A2,⟨zC,⟨GL,⟨EG,trivial⟩⟩⟩⟩⟩⟩⟩⟩
theorem amF {R:Type}:aP Tryz.prog (R:=R) 1 LQ:=bF Tryz.f53 XP (aC _ _)
theorem ajG {R:Type}:bA (R:=R) (hnd 1 LQ) Jz NG (sub [1,0,1,0,0] wv) (HS.V CZ) (HS.st CZ) (HS.sh CZ) Hy (bC CZ Hy):=aN CZ Hy (fun _ _=>rfl) (by intro q v K;kernel_rfl)
theorem amQ {R:Type}:aL (R:=R) (hnd 1 LQ) Jz NG wv:=aD (l:=[sub [1,0,1,0,0] wv]) (by kernel_rfl) (aK (b:=sub [1,0,1,0,0] wv) (rid:=2) (by kernel_rfl) (by kernel_rfl) ajG (trivial))
def age {R:Type}:Inl R:= .mk 100 Jz NG wv Tryz.f100.results.toList LQ
def Sa:Cfg:={T:=cx,spec:=[(29,u6),(38,mH),(49,C2),(50,Ba),(51,Aj),(54,yk),(55,Fi),(56,Co)],aX:=aG.G Tryz.prog,eqs:=cy,N:=9,fuel:=64,fid:=53}
theorem Z5:aH Tryz.prog Sa:=aZ cA cB ⟨wi,⟨nD,⟨Fm,⟨Et,⟨A2,⟨zC,⟨GL,⟨EG,trivial⟩⟩⟩⟩⟩⟩⟩⟩
def aoJ {R:Type}:Inl R:= .mk 53 Sa [] R4 Tryz.f53.results.toList []
def NH {R:Type}:List (Nat×Hd R):=[(5,bC BH IJ)]
def I9 {R:Type}:List (Nat×Inl R):=[(10,age),(28,aoJ)]
def K5:Cfg:={T:=cx,spec:=[(29,u6),(38,mH),(49,C2),(50,Ba),(51,Aj),(54,yk),(55,Fi),(56,Co)],aX:=aG.G Tryz.prog,eqs:=cy,N:=42,fuel:=64,loops:=[(5,⟨[0,1,5,6,1000001,1000003,1000005,1000006,1000008,1000010], [],[0,1,2,3,4,5,6],7, [], [], [], []⟩)],blocks:=[(0,⟨[0,5,1000001,1000003,1000005,1000006,1000008,1000010], [],[0,1,2,3,4,5],6, [], [], [], []⟩)],fid:=52}
theorem Zx:aH Tryz.prog K5:=aZ cA cB ⟨wi,⟨nD,⟨Fm,⟨Et,⟨A2,⟨zC,⟨GL,⟨EG,trivial⟩⟩⟩⟩⟩⟩⟩⟩
theorem Xx {R:Type}:aP Tryz.prog (R:=R) 2 I9:=bE Tryz.f100 XE amQ (bw (by kernel_rfl)) amF (bF Tryz.f53 Z5 (aC _ _))
theorem adw {R:Type}:bA (R:=R) (hnd 2 I9) K5 NH (sub [1,1,1,0,1,0,0] F1) (HS.V BH) (HS.st BH) (HS.sh BH) IJ (bC BH IJ):=aN BH IJ (fun _ _=>rfl) (by intro q v K;kernel_rfl)
theorem Zi {R:Type}:aL (R:=R) (hnd 2 I9) K5 NH F1:=aD (l:=[sub [1,1,1,0,1,0,0] F1]) (by kernel_rfl) (aK (b:=sub [1,1,1,0,1,0,0] F1) (rid:=5) (by kernel_rfl) (by kernel_rfl) adw (trivial))
def ail {R:Type}:Inl R:= .mk 52 K5 NH F1 Tryz.f52.results.toList I9
def al0 {R:Type}:List (Nat×Hd R):= []
def SL {R:Type}:List (Nat×Inl R):=[(81,ail)]
def S8:Cfg:={T:=cx,spec:=[(29,u6),(38,mH),(49,C2),(50,Ba),(51,Aj),(54,yk),(55,Fi),(56,Co)],aX:=aG.G Tryz.prog,eqs:=cy,N:=99,fuel:=64,fid:=18,fresh:=[(43,IS)]}
theorem ago:aH Tryz.prog S8:=aZ cA cB ⟨wi,⟨nD,⟨Fm,⟨Et,⟨A2,⟨zC,⟨GL,⟨EG,trivial⟩⟩⟩⟩⟩⟩⟩⟩ (fr:=⟨Mo,trivial⟩)
theorem aev {R:Type}:aP Tryz.prog (R:=R) 3 SL:=bE Tryz.f52 Zx Zi (bw (by kernel_rfl)) Xx (aC _ _)
theorem akj {R:Type}:aL (R:=R) (hnd 3 SL) S8 al0 YW:=aD (l:= []) (by kernel_rfl) (trivial)
theorem G7:aT Tryz.prog 18 Fg:=bl Tryz.f18 ago m8 (d:=3) aev akj (bw (by kernel_rfl)) (toY:=ane)
def TW:List HV:=[.agg [.int .i64, .int .i64, .int .i64, .sl .aB, .sl .kept, .sl .aB], .one (.int .i64)]
def Pq:List HV:=[.agg [.int .i64, .int .i64, .int .i64, .sl .aB, .sl .kept, .sl .aB], .one (.int .i64)]
def ae1:HP.V TW→al×Int:=fun v=>((⟨(cFs v.1),(⟨v.1.2.2.2.2.1,v.1.2.2.2.2.2.1⟩:ay)⟩:al),v.2.1)
def ab8:HX.V Pq→al×Int:=fun v=>((⟨(cFs v.1),(⟨v.1.2.2.2.2.1,v.1.2.2.2.2.2.1⟩:ay)⟩:al),v.2)
def amD:(al×Int)→HX.V Pq:=fun y=>((y.1.fs.aq,(y.1.fs.au,(y.1.fs.next,(y.1.fs.aa,(y.1.ao.kept,(y.1.ao.aJ,())))))),y.2)
def agW:(al×Int)→Option (al×Int):=fun x=>cw x.1 x.2
def Ih:Spec:=aU TW Pq ae1 amD agW
def akk:Cfg:={T:=cx,spec:=[(29,u6),(38,mH),(51,Aj),(54,yk),(56,Co)],aX:=aG.G Tryz.prog,eqs:=cy,N:=61,fuel:=64,fid:=20}
theorem agq:aH Tryz.prog akk:=aZ cA cB ⟨wi,⟨nD,⟨A2,⟨zC,⟨EG,trivial⟩⟩⟩⟩⟩
theorem Pg:aT Tryz.prog 20 Ih:=bV Tryz.f20 agq m8 (toY:=ab8)
def R0:List HV:=[.agg [.int .i64, .int .i64, .int .i64, .sl .aB, .sl .kept, .sl .aB], .one (.int .i64), .one (.int .i64)]
def NA:List HV:=[.agg [.int .i64, .int .i64, .int .i64, .sl .aB, .sl .kept, .sl .aB], .one (.int .i64)]
def ajQ:HP.V R0→al×Int×Int:=fun v=>((⟨(cFs v.1),(⟨v.1.2.2.2.2.1,v.1.2.2.2.2.2.1⟩:ay)⟩:al),v.2.1,v.2.2.1)
def agt:HX.V NA→al×Int:=fun v=>((⟨(cFs v.1),(⟨v.1.2.2.2.2.1,v.1.2.2.2.2.2.1⟩:ay)⟩:al),v.2)
def aoS:(al×Int)→HX.V NA:=fun y=>((y.1.fs.aq,(y.1.fs.au,(y.1.fs.next,(y.1.fs.aa,(y.1.ao.kept,(y.1.ao.aJ,())))))),y.2)
def aoP:(al×Int×Int)→Option (al×Int):=fun x=>cr x.1 x.2.1 x.2.2
def IE:Spec:=aU R0 NA ajQ aoS aoP
def afH:Cfg:={T:=cx,spec:=[(29,u6),(38,mH),(44,IU)],aX:=aG.G Tryz.prog,eqs:=cy,N:=34,fuel:=64,fid:=22}
theorem aoQ:aH Tryz.prog afH:=aZ cA cB ⟨wi,⟨nD,⟨PI,trivial⟩⟩⟩
theorem PY:aT Tryz.prog 22 IE:=bV Tryz.f22 aoQ m8 (toY:=agt)
def V3:List HV:=[.agg [.int .i64, .int .i64, .int .i64, .sl .aB, .sl .kept, .sl .aB]]
def ON:List HV:=[.agg [.int .i64, .int .i64, .int .i64, .sl .aB, .sl .kept, .sl .aB]]
def af5:HP.V V3→al:=fun v=>((⟨(cFs v.1),(⟨v.1.2.2.2.2.1,v.1.2.2.2.2.2.1⟩:ay)⟩:al))
def adi:HX.V ON→al:=fun v=>((⟨(cFs v),(⟨v.2.2.2.2.1,v.2.2.2.2.2.1⟩:ay)⟩:al))
def adC:al→HX.V ON:=fun y=>((y.fs.aq,(y.fs.au,(y.fs.next,(y.fs.aa,(y.ao.kept,(y.ao.aJ,())))))))
def adg:al→Option (al):=fun x=>bM x
def PT:Spec:=aU V3 ON af5 adC adg
def acV:Cfg:={T:=cx,aX:=aG.G Tryz.prog,eqs:=cy,N:=6,fuel:=64,fid:=27}
theorem amh:aH Tryz.prog acV:=aZ cA cB trivial
theorem Xj:aT Tryz.prog 27 PT:=bV Tryz.f27 amh m8 (toY:=adi)
def Cb:HS:=⟨[(0, .one (.sl .kept)),(1, .one (.clo 1)),(5, .one (.int .i64)),(1000000, .one (.sl .kept)),(1000003, .one (.ptr 0 0))],[(0, .cells [.fnc 71]),(1, .clo 112 [] [.ptr 0 0])],2⟩
def IX {R:Type}:Nat→HS.V Cb→(Ex→St→Option R)→Option R:=fun q v K=>
 cY v.1.1 (K .ret {aA:=[(4, .v (.one (.bool false))),(1000000, .v (.one (.sl .kept v.1.2.2.2.1))),(1000003, .v (.one (.ptr 0 0)))],mem:=[(0, .cells [.fnc 71])],nx:=1}) (K (.exit 0) {aA:=[(1000000, .v (.one (.sl .kept v.1.2.2.2.1))),(1000003, .v (.one (.ptr 0 0)))],mem:=[(0, .cells [.fnc 71])],nx:=1}) q v.1.2.2.1
def A6:HS:=⟨[(0, .one (.own 1)),(1, .one (.clo 2)),(5, .one (.int .i64)),(6, .one (.sub 1)),(7, .one (.int .i64)),(1000000, .one (.sl .kept)),(1000008, .one (.bool))],[(0, .cells [.fnc 71]),(1, .row .kept),(2, .clo 114 [] [.ptr 0 0])],3⟩
def HH {R:Type}:Nat→HS.V A6→(Ex→St→Option R)→Option R:=fun q v K=>
 eK v.1.2.2.2.1.1 v.1.2.2.2.1.2 (fun y33 y36=>K (.exit 2) {aA:=[(0, .v (.one (.own 1))),(5, .v (.one (.int .i64 y33))),(1000000, .v (.one (.sl .kept v.1.2.2.2.2.2.1))),(1000008, .v (.one (.bool v.1.2.2.2.2.2.2.1)))],mem:=[(1, .row .kept y36)],nx:=2}) q v.1.2.2.1 v.1.2.2.2.2.1 v.2.2.1
def A8:HS:=⟨[(0, .one (.own 1)),(1, .one (.clo 2)),(5, .one (.int .i64)),(1000000, .one (.sl .kept)),(1000008, .one (.bool))],[(0, .cells [.fnc 71]),(1, .row .kept),(2, .clo 114 [] [.ptr 0 0])],3⟩
def JS {R:Type}:Nat→HS.V A8→(Ex→St→Option R)→Option R:=fun q v K=>
 f_ v.2.2.1 (fun y40 y43=>K .ret {aA:=[(4, .v (.one (.sub 1 0 y40))),(1000000, .v (.one (.sl .kept v.1.2.2.2.1))),(1000008, .v (.one (.bool v.1.2.2.2.2.1)))],mem:=[(1, .row .kept y43)],nx:=2}) (K (.exit 0) {aA:=[(0, .v (.one (.own 1))),(1000000, .v (.one (.sl .kept v.1.2.2.2.1))),(1000008, .v (.one (.bool v.1.2.2.2.2.1)))],mem:=[(1, .row .kept v.2.2.1)],nx:=2}) q v.1.2.2.1
def W7:List HV:=[.one (.sl .kept), .one (.fnc 71)]
def QY:List HV:=[.one (.bool)]
def aga:HP.V W7→(List Kept):=fun v=>(v.1)
def aaH:HX.V QY→Bool:=fun v=>(v)
def ad_:Bool→HX.V QY:=fun y=>(y)
def aoA:(List Kept)→Option (Bool):=fun x=>il x
def AM:Spec:=aU W7 QY aga ad_ aoA
def S5:Cfg:={T:=cx,aX:=aG.G Tryz.prog,eqs:=cy,N:=6,fuel:=64,fid:=128}
theorem aoR:aH Tryz.prog S5:=aZ cA cB trivial
def aa2 {R:Type}:Inl R:= .mk 128 S5 [] ta Tryz.f128.results.toList []
def TE:Cfg:={T:=cx,aX:=aG.G Tryz.prog,eqs:=cy,N:=6,fuel:=64,fid:=128}
theorem ai4:aH Tryz.prog TE:=aZ cA cB trivial
def abn {R:Type}:Inl R:= .mk 128 TE [] ta Tryz.f128.results.toList []
def T1 {R:Type}:List (Nat×Hd R):= []
def OT {R:Type}:List (Nat×Inl R):=[(8,aa2),(10,abn)]
def N7:Cfg:={T:=cx,aX:=aG.G Tryz.prog,eqs:=cy,N:=20,fuel:=64,fid:=91}
theorem ajR:aH Tryz.prog N7:=aZ cA cB trivial
theorem ah2 {R:Type}:aP Tryz.prog (R:=R) 1 OT:=bF Tryz.f128 aoR (bF Tryz.f128 ai4 (aC _ _))
theorem alx {R:Type}:aL (R:=R) (hnd 1 OT) N7 T1 th:=aD (l:= []) (by kernel_rfl) (trivial)
def ahP {R:Type}:Inl R:= .mk 91 N7 T1 th Tryz.f91.results.toList OT
def Uw {R:Type}:List (Nat×Hd R):= []
def QF {R:Type}:List (Nat×Inl R):=[(12,ahP)]
def Pt:Cfg:={T:=cx,spec:=[(71,Jt)],aX:=aG.G Tryz.prog,eqs:=cy,N:=13,fuel:=64,fid:=112}
theorem ae2:aH Tryz.prog Pt:=aZ cA cB ⟨OI,trivial⟩
theorem YM {R:Type}:aP Tryz.prog (R:=R) 2 QF:=bE Tryz.f91 ajR alx (bw (by kernel_rfl)) ah2 (aC _ _)
theorem aij {R:Type}:aL (R:=R) (hnd 2 QF) Pt Uw Sz:=aD (l:= []) (by kernel_rfl) (trivial)
def aa8 {R:Type}:Inl R:= .mk 112 Pt Uw Sz Tryz.f112.results.toList QF
def NZ {R:Type}:List (Nat×Hd R):=[(2,bC Cb IX)]
def Lf {R:Type}:List (Nat×Inl R):=[(23,aa8)]
def Lh:Cfg:={T:=cx,aX:=aG.G Tryz.prog,eqs:=cy,N:=25,fuel:=64,loops:=[(2,⟨[0,1,5,1000000,1000003], [],[0,1],2, [], [], [], []⟩)],blocks:=[(0,⟨[1000000,1000003], [],[0],1, [], [], [], []⟩)],eV:=some ⟨[4,1000000,1000003], [],[0],1, [], [], [], []⟩,fid:=111,cl:=[13]}
theorem ahY:aH Tryz.prog Lh:=aZ cA cB trivial
theorem Yd {R:Type}:aP Tryz.prog (R:=R) 3 Lf:=bE Tryz.f112 ae2 aij (bw (by kernel_rfl)) YM (aC _ _)
theorem XA {R:Type}:bA (R:=R) (hnd 3 Lf) Lh NZ (sub [1,0,1,0,0] Hi) (HS.V Cb) (HS.st Cb) (HS.sh Cb) IX (bC Cb IX):=aN Cb IX (fun _ _=>rfl) (by intro q v K;kernel_rfl)
theorem acp {R:Type}:aL (R:=R) (hnd 3 Lf) Lh NZ Hi:=aD (l:=[sub [1,0,1,0,0] Hi]) (by kernel_rfl) (aK (b:=sub [1,0,1,0,0] Hi) (rid:=2) (by kernel_rfl) (by kernel_rfl) XA (trivial))
def abx {R:Type}:Inl R:= .mk 111 Lh NZ Hi Tryz.f111.results.toList Lf
def W6:Cfg:={T:=cx,spec:=[(71,Jt)],aX:=aG.G Tryz.prog,eqs:=cy,N:=13,fuel:=64,fid:=114}
theorem acg:aH Tryz.prog W6:=aZ cA cB ⟨OI,trivial⟩
def afW {R:Type}:Inl R:= .mk 114 W6 [] V_ Tryz.f114.results.toList []
def Ur:Cfg:={T:=cx,spec:=[(71,Jt)],aX:=aG.G Tryz.prog,eqs:=cy,N:=13,fuel:=64,fid:=114}
theorem alw:aH Tryz.prog Ur:=aZ cA cB ⟨OI,trivial⟩
def ad8 {R:Type}:Inl R:= .mk 114 Ur [] V_ Tryz.f114.results.toList []
def Jm {R:Type}:List (Nat×Hd R):=[(4,bC A8 JS),(9,bC A6 HH)]
def Fw {R:Type}:List (Nat×Inl R):=[(28,afW),(48,ad8)]
def Gx:Cfg:={T:=cx,aX:=aG.G Tryz.prog,eqs:=cy,N:=66,fuel:=64,loops:=[(9,⟨[0,1,5,6,7,1000000,1000008], [],[0,1,2],3, [], [], [], []⟩),(4,⟨[0,1,5,1000000,1000008], [],[0,1,2],3, [], [], [], []⟩)],blocks:=[(0,⟨[0,1000000,1000008], [],[1],2, [], [], [], []⟩),(1,⟨[0,1,5,1000000,1000008], [],[0,1,2],3, [], [], [], []⟩),(2,⟨[0,5,1000000,1000008], [],[1],2, [], [], [], []⟩)],eV:=some ⟨[4,1000000,1000008], [],[1],2, [], [], [], []⟩,fid:=113,cl:=[18,38]}
theorem alP:aH Tryz.prog Gx:=aZ cA cB trivial
theorem amJ {R:Type}:aP Tryz.prog (R:=R) 3 Fw:=bF Tryz.f114 acg (bF Tryz.f114 alw (aC _ _))
theorem afN {R:Type}:bA (R:=R) (hnd 3 Fw) Gx Jm (sub [1,1,0,1,0,0] zu) (HS.V A8) (HS.st A8) (HS.sh A8) JS (bC A8 JS):=aN A8 JS (fun _ _=>rfl) (by intro q v K;kernel_rfl)
theorem ano {R:Type}:bA (R:=R) (hnd 3 Fw) Gx Jm (sub [1,1,0,1,0,0,1,0,0,1,0,1,0,1,0,0] zu) (HS.V A6) (HS.st A6) (HS.sh A6) HH (bC A6 HH):=aN A6 HH (fun _ _=>rfl) (by intro q v K;kernel_rfl)
theorem XQ {R:Type}:aL (R:=R) (hnd 3 Fw) Gx Jm zu:=aD (l:=[sub [1,1,0,1,0,0] zu,sub [1,1,0,1,0,0,1,0,0,1,0,1,0,1,0,0] zu]) (by kernel_rfl) (aK (b:=sub [1,1,0,1,0,0] zu) (rid:=4) (by kernel_rfl) (by kernel_rfl) afN (aK (b:=sub [1,1,0,1,0,0,1,0,0,1,0,1,0,1,0,0] zu) (rid:=9) (by kernel_rfl) (by kernel_rfl) ano (trivial)))
def Yb {R:Type}:Inl R:= .mk 113 Gx Jm zu Tryz.f113.results.toList Fw
def aky {R:Type}:List (Nat×Hd R):= []
def VK {R:Type}:List (Nat×Inl R):=[(7,abx),(12,Yb)]
def VN:Cfg:={T:=cx,aX:=aG.G Tryz.prog,eqs:=cy,N:=18,fuel:=64,fid:=73,fresh:=[(95,JD)]}
theorem aik:aH Tryz.prog VN:=aZ cA cB trivial (fr:=⟨OQ,trivial⟩)
theorem aj9 {R:Type}:aP Tryz.prog (R:=R) 4 VK:=bE Tryz.f111 ahY acp (bw (by kernel_rfl)) Yd (bE Tryz.f113 alP XQ (bw (by kernel_rfl)) amJ (aC _ _))
theorem adp {R:Type}:aL (R:=R) (hnd 4 VK) VN aky YP:=aD (l:= []) (by kernel_rfl) (trivial)
theorem Ct:aT Tryz.prog 73 AM:=bl Tryz.f73 aik m8 (d:=4) aj9 adp (bw (by kernel_rfl)) (toY:=aaH)
def Dc:HS:=⟨[(0, .one (.sl .aB)),(1, .one (.clo 1)),(5, .one (.int .i64)),(1000000, .one (.sl .aB)),(1000003, .one (.ptr 0 0))],[(0, .cells [.fnc 41]),(1, .clo 116 [] [.ptr 0 0])],2⟩
def Kf {R:Type}:Nat→HS.V Dc→(Ex→St→Option R)→Option R:=fun q v K=>
 cT v.1.1 (K .ret {aA:=[(4, .v (.one (.bool false))),(1000000, .v (.one (.sl .aB v.1.2.2.2.1))),(1000003, .v (.one (.ptr 0 0)))],mem:=[(0, .cells [.fnc 41])],nx:=1}) (K (.exit 0) {aA:=[(1000000, .v (.one (.sl .aB v.1.2.2.2.1))),(1000003, .v (.one (.ptr 0 0)))],mem:=[(0, .cells [.fnc 41])],nx:=1}) q v.1.2.2.1
def C9:HS:=⟨[(0, .one (.own 1)),(1, .one (.clo 2)),(5, .one (.int .i64)),(6, .one (.sub 1)),(7, .one (.int .i64)),(1000000, .one (.sl .aB)),(1000008, .one (.bool))],[(0, .cells [.fnc 41]),(1, .row .aB),(2, .clo 118 [] [.ptr 0 0])],3⟩
def JJ {R:Type}:Nat→HS.V C9→(Ex→St→Option R)→Option R:=fun q v K=>
 dW v.1.2.2.2.1.1 v.1.2.2.2.1.2 (fun y33 y36=>K (.exit 2) {aA:=[(0, .v (.one (.own 1))),(5, .v (.one (.int .i64 y33))),(1000000, .v (.one (.sl .aB v.1.2.2.2.2.2.1))),(1000008, .v (.one (.bool v.1.2.2.2.2.2.2.1)))],mem:=[(1, .row .aB y36)],nx:=2}) q v.1.2.2.1 v.1.2.2.2.2.1 v.2.2.1
def C1:HS:=⟨[(0, .one (.own 1)),(1, .one (.clo 2)),(5, .one (.int .i64)),(1000000, .one (.sl .aB)),(1000008, .one (.bool))],[(0, .cells [.fnc 41]),(1, .row .aB),(2, .clo 118 [] [.ptr 0 0])],3⟩
def JC {R:Type}:Nat→HS.V C1→(Ex→St→Option R)→Option R:=fun q v K=>
 fB v.2.2.1 (fun y40 y43=>K .ret {aA:=[(4, .v (.one (.sub 1 0 y40))),(1000000, .v (.one (.sl .aB v.1.2.2.2.1))),(1000008, .v (.one (.bool v.1.2.2.2.2.1)))],mem:=[(1, .row .aB y43)],nx:=2}) (K (.exit 0) {aA:=[(0, .v (.one (.own 1))),(1000000, .v (.one (.sl .aB v.1.2.2.2.1))),(1000008, .v (.one (.bool v.1.2.2.2.2.1)))],mem:=[(1, .row .aB v.2.2.1)],nx:=2}) q v.1.2.2.1
def Rz:List HV:=[.one (.sl .aB), .one (.fnc 41)]
def M9:List HV:=[.one (.bool)]
def ael:HP.V Rz→(List ae):=fun v=>(v.1)
def ZM:HX.V M9→Bool:=fun v=>(v)
def aiW:Bool→HX.V M9:=fun y=>(y)
def aa1:(List ae)→Option (Bool):=fun x=>gY x
def zf:Spec:=aU Rz M9 ael aiW aa1
def Tv:Cfg:={T:=cx,aX:=aG.G Tryz.prog,eqs:=cy,N:=6,fuel:=64,fid:=128}
theorem afw:aH Tryz.prog Tv:=aZ cA cB trivial
def Yc {R:Type}:Inl R:= .mk 128 Tv [] ta Tryz.f128.results.toList []
def SA:Cfg:={T:=cx,aX:=aG.G Tryz.prog,eqs:=cy,N:=6,fuel:=64,fid:=128}
theorem aaJ:aH Tryz.prog SA:=aZ cA cB trivial
def amc {R:Type}:Inl R:= .mk 128 SA [] ta Tryz.f128.results.toList []
def Wm {R:Type}:List (Nat×Hd R):= []
def P3 {R:Type}:List (Nat×Inl R):=[(8,Yc),(10,amc)]
def QG:Cfg:={T:=cx,aX:=aG.G Tryz.prog,eqs:=cy,N:=20,fuel:=64,fid:=91}
theorem alB:aH Tryz.prog QG:=aZ cA cB trivial
theorem ags {R:Type}:aP Tryz.prog (R:=R) 1 P3:=bF Tryz.f128 afw (bF Tryz.f128 aaJ (aC _ _))
theorem adU {R:Type}:aL (R:=R) (hnd 1 P3) QG Wm th:=aD (l:= []) (by kernel_rfl) (trivial)
def aiw {R:Type}:Inl R:= .mk 91 QG Wm th Tryz.f91.results.toList P3
def TF {R:Type}:List (Nat×Hd R):= []
def Ma {R:Type}:List (Nat×Inl R):=[(12,aiw)]
def Og:Cfg:={T:=cx,spec:=[(41,H0)],aX:=aG.G Tryz.prog,eqs:=cy,N:=13,fuel:=64,fid:=116}
theorem afE:aH Tryz.prog Og:=aZ cA cB ⟨MH,trivial⟩
theorem acM {R:Type}:aP Tryz.prog (R:=R) 2 Ma:=bE Tryz.f91 alB adU (bw (by kernel_rfl)) ags (aC _ _)
theorem ada {R:Type}:aL (R:=R) (hnd 2 Ma) Og TF W5:=aD (l:= []) (by kernel_rfl) (trivial)
def YA {R:Type}:Inl R:= .mk 116 Og TF W5 Tryz.f116.results.toList Ma
def L2 {R:Type}:List (Nat×Hd R):=[(2,bC Dc Kf)]
def HQ {R:Type}:List (Nat×Inl R):=[(23,YA)]
def Js:Cfg:={T:=cx,aX:=aG.G Tryz.prog,eqs:=cy,N:=25,fuel:=64,loops:=[(2,⟨[0,1,5,1000000,1000003], [],[0,1],2, [], [], [], []⟩)],blocks:=[(0,⟨[1000000,1000003], [],[0],1, [], [], [], []⟩)],eV:=some ⟨[4,1000000,1000003], [],[0],1, [], [], [], []⟩,fid:=115,cl:=[13]}
theorem afS:aH Tryz.prog Js:=aZ cA cB trivial
theorem acN {R:Type}:aP Tryz.prog (R:=R) 3 HQ:=bE Tryz.f116 afE ada (bw (by kernel_rfl)) acM (aC _ _)
theorem acF {R:Type}:bA (R:=R) (hnd 3 HQ) Js L2 (sub [1,0,1,0,0] FP) (HS.V Dc) (HS.st Dc) (HS.sh Dc) Kf (bC Dc Kf):=aN Dc Kf (fun _ _=>rfl) (by intro q v K;kernel_rfl)
theorem amB {R:Type}:aL (R:=R) (hnd 3 HQ) Js L2 FP:=aD (l:=[sub [1,0,1,0,0] FP]) (by kernel_rfl) (aK (b:=sub [1,0,1,0,0] FP) (rid:=2) (by kernel_rfl) (by kernel_rfl) acF (trivial))
def ahI {R:Type}:Inl R:= .mk 115 Js L2 FP Tryz.f115.results.toList HQ
def S2:Cfg:={T:=cx,spec:=[(41,H0)],aX:=aG.G Tryz.prog,eqs:=cy,N:=13,fuel:=64,fid:=118}
theorem agy:aH Tryz.prog S2:=aZ cA cB ⟨MH,trivial⟩
def aiN {R:Type}:Inl R:= .mk 118 S2 [] WW Tryz.f118.results.toList []
def VM:Cfg:={T:=cx,spec:=[(41,H0)],aX:=aG.G Tryz.prog,eqs:=cy,N:=13,fuel:=64,fid:=118}
theorem adE:aH Tryz.prog VM:=aZ cA cB ⟨MH,trivial⟩
def ah3 {R:Type}:Inl R:= .mk 118 VM [] WW Tryz.f118.results.toList []
def JY {R:Type}:List (Nat×Hd R):=[(4,bC C1 JC),(9,bC C9 JJ)]
def GS {R:Type}:List (Nat×Inl R):=[(28,aiN),(48,ah3)]
def Ho:Cfg:={T:=cx,aX:=aG.G Tryz.prog,eqs:=cy,N:=66,fuel:=64,loops:=[(9,⟨[0,1,5,6,7,1000000,1000008], [],[0,1,2],3, [], [], [], []⟩),(4,⟨[0,1,5,1000000,1000008], [],[0,1,2],3, [], [], [], []⟩)],blocks:=[(0,⟨[0,1000000,1000008], [],[1],2, [], [], [], []⟩),(1,⟨[0,1,5,1000000,1000008], [],[0,1,2],3, [], [], [], []⟩),(2,⟨[0,5,1000000,1000008], [],[1],2, [], [], [], []⟩)],eV:=some ⟨[4,1000000,1000008], [],[1],2, [], [], [], []⟩,fid:=117,cl:=[18,38]}
theorem acA:aH Tryz.prog Ho:=aZ cA cB trivial
theorem alr {R:Type}:aP Tryz.prog (R:=R) 3 GS:=bF Tryz.f118 agy (bF Tryz.f118 adE (aC _ _))
theorem anc {R:Type}:bA (R:=R) (hnd 3 GS) Ho JY (sub [1,1,0,1,0,0] AD) (HS.V C1) (HS.st C1) (HS.sh C1) JC (bC C1 JC):=aN C1 JC (fun _ _=>rfl) (by intro q v K;kernel_rfl)
theorem afI {R:Type}:bA (R:=R) (hnd 3 GS) Ho JY (sub [1,1,0,1,0,0,1,0,0,1,0,1,0,1,0,0] AD) (HS.V C9) (HS.st C9) (HS.sh C9) JJ (bC C9 JJ):=aN C9 JJ (fun _ _=>rfl) (by intro q v K;kernel_rfl)
theorem Yt {R:Type}:aL (R:=R) (hnd 3 GS) Ho JY AD:=aD (l:=[sub [1,1,0,1,0,0] AD,sub [1,1,0,1,0,0,1,0,0,1,0,1,0,1,0,0] AD]) (by kernel_rfl) (aK (b:=sub [1,1,0,1,0,0] AD) (rid:=4) (by kernel_rfl) (by kernel_rfl) anc (aK (b:=sub [1,1,0,1,0,0,1,0,0,1,0,1,0,1,0,0] AD) (rid:=9) (by kernel_rfl) (by kernel_rfl) afI (trivial)))
def aiC {R:Type}:Inl R:= .mk 117 Ho JY AD Tryz.f117.results.toList GS
def XM {R:Type}:List (Nat×Hd R):= []
def Ug {R:Type}:List (Nat×Inl R):=[(7,ahI),(12,aiC)]
def Th:Cfg:={T:=cx,aX:=aG.G Tryz.prog,eqs:=cy,N:=18,fuel:=64,fid:=74,fresh:=[(43,IS)]}
theorem abh:aH Tryz.prog Th:=aZ cA cB trivial (fr:=⟨Mo,trivial⟩)
theorem aoX {R:Type}:aP Tryz.prog (R:=R) 4 Ug:=bE Tryz.f115 afS amB (bw (by kernel_rfl)) acN (bE Tryz.f117 acA Yt (bw (by kernel_rfl)) alr (aC _ _))
theorem aix {R:Type}:aL (R:=R) (hnd 4 Ug) Th XM aad:=aD (l:= []) (by kernel_rfl) (trivial)
theorem Bh:aT Tryz.prog 74 zf:=bl Tryz.f74 abh m8 (d:=4) aoX aix (bw (by kernel_rfl)) (toY:=ZM)
def BY:HS:=⟨[(0, .one (.sl .kept)),(1, .one (.clo 3)),(7, .one (.int .i64)),(8, .one (.int .i64)),(2000003, .one (.ptr 1 0))],[(1, .cells hIn),(3, .clo 119 [] [.ptr 1 0])],4⟩
def IP {R:Type}:Nat→HS.V BY→(Ex→St→Option R)→Option R:=fun q v K=>
 eS v.1.1 v.1.2.2.1 (cIn v.2.1) (fun y7=>K .ret {aA:=[(4, .v (.one (.int .i64 y7))),(2000003, .v (.one (.ptr 1 0)))],mem:=[(1, .cells (rIn (cIn v.2.1)))],nx:=2}) (K (.exit 0) {aA:=[(2000003, .v (.one (.ptr 1 0)))],mem:=[(1, .cells (rIn (cIn v.2.1)))],nx:=2}) q v.1.2.2.2.1
def UI:List HV:=[.agg [.int .i64, .int .i64, .int .i64, .sl .aB, .sl .kept, .sl .aB], .agg hIn]
def MR:List HV:=[.one (.bool)]
def aes:HP.V UI→al×ae:=fun v=>((⟨(cFs v.1),(⟨v.1.2.2.2.2.1,v.1.2.2.2.2.2.1⟩:ay)⟩:al),(cIn v.2.1))
def Zf:HX.V MR→Bool:=fun v=>(v)
def ZB:Bool→HX.V MR:=fun y=>(y)
def ana:(al×ae)→Option (Bool):=fun x=>iO x.1 x.2
def Tg:Spec:=aU UI MR aes ZB ana
def Vz:Cfg:={T:=cx,spec:=[(38,mH)],aX:=aG.G Tryz.prog,eqs:=cy,N:=14,fuel:=64,fid:=119}
theorem ah_:aH Tryz.prog Vz:=aZ cA cB ⟨nD,trivial⟩
def aa_ {R:Type}:Inl R:= .mk 119 Vz [] am9 Tryz.f119.results.toList []
def Om {R:Type}:List (Nat×Hd R):=[(2,bC BY IP)]
def H7 {R:Type}:List (Nat×Inl R):=[(16,aa_)]
def Iv:Cfg:={T:=cx,spec:=[(38,mH)],aX:=aG.G Tryz.prog,eqs:=cy,N:=19,fuel:=64,loops:=[(2,⟨[0,1,7,8,2000003], [],[1,3],4, [], [], [], []⟩)],blocks:=[(0,⟨[2000003], [],[1],2, [], [], [], []⟩)],eV:=some ⟨[4,2000003], [],[1],2, [], [], [], []⟩,fid:=121}
theorem akT:aH Tryz.prog Iv:=aZ cA cB ⟨nD,trivial⟩
theorem anm {R:Type}:aP Tryz.prog (R:=R) 1 H7:=bF Tryz.f119 ah_ (aC _ _)
theorem akM {R:Type}:bA (R:=R) (hnd 1 H7) Iv Om (sub [1,0,1,0,0] pT) (HS.V BY) (HS.st BY) (HS.sh BY) IP (bC BY IP):=aN BY IP (fun _ _=>rfl) (by intro q v K;kernel_rfl)
theorem ajg {R:Type}:aL (R:=R) (hnd 1 H7) Iv Om pT:=aD (l:=[sub [1,0,1,0,0] pT]) (by kernel_rfl) (aK (b:=sub [1,0,1,0,0] pT) (rid:=2) (by kernel_rfl) (by kernel_rfl) akM (trivial))
def acy {R:Type}:Inl R:= .mk 121 Iv Om pT Tryz.f121.results.toList H7
def S7 {R:Type}:List (Nat×Hd R):= []
def NV {R:Type}:List (Nat×Inl R):=[(7,acy)]
def OL:Cfg:={T:=cx,spec:=[(38,mH)],aX:=aG.G Tryz.prog,eqs:=cy,N:=9,fuel:=64,fid:=78}
theorem ai2:aH Tryz.prog OL:=aZ cA cB ⟨nD,trivial⟩
theorem ahW {R:Type}:aP Tryz.prog (R:=R) 2 NV:=bE Tryz.f121 akT ajg (bw (by kernel_rfl)) anm (aC _ _)
theorem akV {R:Type}:aL (R:=R) (hnd 2 NV) OL S7 KE:=aD (l:= []) (by kernel_rfl) (trivial)
def adS {R:Type}:Inl R:= .mk 78 OL S7 KE Tryz.f78.results.toList NV
def Ua {R:Type}:List (Nat×Hd R):= []
def Ox {R:Type}:List (Nat×Inl R):= []
def Ou:Cfg:={T:=cx,spec:=[(38,mH),(162,cG)],aX:=aG.G Tryz.prog,eqs:=cy,N:=143,fuel:=64,eV:=some ⟨[4,3000066], [], [],0, [], [], [], []⟩,fid:=154}
theorem aca:aH Tryz.prog Ou:=aZ cA cB ⟨nD,⟨dD,trivial⟩⟩
theorem amL {R:Type}:aP Tryz.prog (R:=R) 0 Ox:=aC _ _
theorem af1 {R:Type}:aL (R:=R) (hnd 0 Ox) Ou Ua Jj:=aD (l:=[sub [1,1,1,1,1,1,1,1,0,0,0] Jj]) (by kernel_rfl) (gj (b:=sub [1,1,1,1,1,1,1,1,0,0,0] Jj) (rid:=15) (by kernel_rfl) (by kernel_rfl) (trivial))
def Z0 {R:Type}:Inl R:= .mk 154 Ou Ua Jj Tryz.f154.results.toList Ox
def TT {R:Type}:List (Nat×Hd R):= []
def Qy {R:Type}:List (Nat×Inl R):=[(7,Z0)]
def QH:Cfg:={T:=cx,spec:=[(38,mH)],aX:=aG.G Tryz.prog,eqs:=cy,N:=8,fuel:=64,fid:=140}
theorem aaT:aH Tryz.prog QH:=aZ cA cB ⟨nD,trivial⟩
theorem ad1 {R:Type}:aP Tryz.prog (R:=R) 1 Qy:=bE Tryz.f154 aca af1 (bw (by kernel_rfl)) amL (aC _ _)
theorem alW {R:Type}:aL (R:=R) (hnd 1 Qy) QH TT VD:=aD (l:= []) (by kernel_rfl) (trivial)
def an_ {R:Type}:Inl R:= .mk 140 QH TT VD Tryz.f140.results.toList Qy
def WD {R:Type}:List (Nat×Hd R):= []
def QI {R:Type}:List (Nat×Inl R):=[(7,an_)]
def Qg:Cfg:={T:=cx,spec:=[(38,mH)],aX:=aG.G Tryz.prog,eqs:=cy,N:=9,fuel:=64,fid:=120}
theorem acT:aH Tryz.prog Qg:=aZ cA cB ⟨nD,trivial⟩
theorem abH {R:Type}:aP Tryz.prog (R:=R) 2 QI:=bE Tryz.f140 aaT alW (bw (by kernel_rfl)) ad1 (aC _ _)
theorem alc {R:Type}:aL (R:=R) (hnd 2 QI) Qg WD Ry:=aD (l:= []) (by kernel_rfl) (trivial)
def aom {R:Type}:Inl R:= .mk 120 Qg WD Ry Tryz.f120.results.toList QI
def Zk {R:Type}:List (Nat×Hd R):= []
def Sc {R:Type}:List (Nat×Inl R):=[(49,adS),(69,aom)]
def Vu:Cfg:={T:=cx,spec:=[(38,mH)],aX:=aG.G Tryz.prog,eqs:=cy,N:=80,fuel:=64,fid:=77}
theorem aez:aH Tryz.prog Vu:=aZ cA cB ⟨nD,trivial⟩
theorem aeq {R:Type}:aP Tryz.prog (R:=R) 3 Sc:=bE Tryz.f78 ai2 akV (bw (by kernel_rfl)) ahW (bE Tryz.f120 acT alc (bw (by kernel_rfl)) abH (aC _ _))
theorem aii {R:Type}:aL (R:=R) (hnd 3 Sc) Vu Zk ajy:=aD (l:= []) (by kernel_rfl) (trivial)
theorem aop:aT Tryz.prog 77 Tg:=bl Tryz.f77 aez m8 (d:=3) aeq aii (bw (by kernel_rfl)) (toY:=Zf)
def Vq:List HV:=[.agg [.int .i64, .int .i64, .int .i64, .sl .aB, .sl .kept, .sl .aB], .agg [.int .i64, .int .i64, .bool, .str]]
def MA:List HV:=[.one (.bool)]
def aiu:HP.V Vq→al×Kept:=fun v=>((⟨(cFs v.1),(⟨v.1.2.2.2.2.1,v.1.2.2.2.2.2.1⟩:ay)⟩:al),(⟨v.2.1.1,v.2.1.2.1,v.2.1.2.2.1,v.2.1.2.2.2.1⟩:Kept))
def XF:HX.V MA→Bool:=fun v=>(v)
def ao9:Bool→HX.V MA:=fun y=>(y)
def agp:(al×Kept)→Option (Bool):=fun x=>jf x.1 x.2
def SW:Spec:=aU Vq MA aiu ao9 agp
def aac:Cfg:={T:=cx,spec:=[(50,Ba)],aX:=aG.G Tryz.prog,eqs:=cy,N:=44,fuel:=64,fid:=80}
theorem agl:aH Tryz.prog aac:=aZ cA cB ⟨Et,trivial⟩
theorem ajV:aT Tryz.prog 80 SW:=bV Tryz.f80 agl m8 (toY:=XF)
def Bv:HS:=⟨[(0, .one (.sl .aB)),(1, .one (.clo 1)),(7, .one (.int .i64)),(8, .one (.int .i64)),(2000001, .one (.ptr 0 0))],[(0, .cells [.int .i64, .int .i64, .int .i64, .sl .aB, .sl .kept, .sl .aB]),(1, .clo 76 [] [.ptr 0 0])],2⟩
def Lk {R:Type}:Nat→HS.V Bv→(Ex→St→Option R)→Option R:=fun q v K=>
 hO v.1.1 v.1.2.2.1 (⟨(cFs v.2.1),(⟨v.2.1.2.2.2.2.1,v.2.1.2.2.2.2.2.1⟩:ay)⟩:al) (fun y10=>K .ret {aA:=[(4, .v (.one (.int .i64 y10))),(2000001, .v (.one (.ptr 0 0)))],mem:=[(0, .cells [.int .i64 ((⟨(cFs v.2.1),(⟨v.2.1.2.2.2.2.1,v.2.1.2.2.2.2.2.1⟩:ay)⟩:al).fs.aq), .int .i64 ((⟨(cFs v.2.1),(⟨v.2.1.2.2.2.2.1,v.2.1.2.2.2.2.2.1⟩:ay)⟩:al).fs.au), .int .i64 ((⟨(cFs v.2.1),(⟨v.2.1.2.2.2.2.1,v.2.1.2.2.2.2.2.1⟩:ay)⟩:al).fs.next), .sl .aB ((⟨(cFs v.2.1),(⟨v.2.1.2.2.2.2.1,v.2.1.2.2.2.2.2.1⟩:ay)⟩:al).fs.aa), .sl .kept ((⟨(cFs v.2.1),(⟨v.2.1.2.2.2.2.1,v.2.1.2.2.2.2.2.1⟩:ay)⟩:al).ao.kept), .sl .aB ((⟨(cFs v.2.1),(⟨v.2.1.2.2.2.2.1,v.2.1.2.2.2.2.2.1⟩:ay)⟩:al).ao.aJ)])],nx:=1}) (K (.exit 0) {aA:=[(2000001, .v (.one (.ptr 0 0)))],mem:=[(0, .cells [.int .i64 ((⟨(cFs v.2.1),(⟨v.2.1.2.2.2.2.1,v.2.1.2.2.2.2.2.1⟩:ay)⟩:al).fs.aq), .int .i64 ((⟨(cFs v.2.1),(⟨v.2.1.2.2.2.2.1,v.2.1.2.2.2.2.2.1⟩:ay)⟩:al).fs.au), .int .i64 ((⟨(cFs v.2.1),(⟨v.2.1.2.2.2.2.1,v.2.1.2.2.2.2.2.1⟩:ay)⟩:al).fs.next), .sl .aB ((⟨(cFs v.2.1),(⟨v.2.1.2.2.2.2.1,v.2.1.2.2.2.2.2.1⟩:ay)⟩:al).fs.aa), .sl .kept ((⟨(cFs v.2.1),(⟨v.2.1.2.2.2.2.1,v.2.1.2.2.2.2.2.1⟩:ay)⟩:al).ao.kept), .sl .aB ((⟨(cFs v.2.1),(⟨v.2.1.2.2.2.2.1,v.2.1.2.2.2.2.2.1⟩:ay)⟩:al).ao.aJ)])],nx:=1}) q v.1.2.2.2.1
def Dr:HS:=⟨[(0, .one (.sl .kept)),(1, .one (.clo 1)),(7, .one (.int .i64)),(8, .one (.int .i64)),(2000027, .one (.bool))],[(0, .cells [.int .i64, .int .i64, .int .i64, .sl .aB, .sl .kept, .sl .aB]),(1, .clo 79 [] [.ptr 0 0])],2⟩
def IF {R:Type}:Nat→HS.V Dr→(Ex→St→Option R)→Option R:=fun q v K=>
 fj v.1.1 v.1.2.2.1 (⟨(cFs v.2.1),(⟨v.2.1.2.2.2.2.1,v.2.1.2.2.2.2.2.1⟩:ay)⟩:al) (fun y21=>K .ret {aA:=[(4, .v (.one (.int .i64 y21))),(2000027, .v (.one (.bool v.1.2.2.2.2.1)))],mem:= [],nx:=0}) (K (.exit 0) {aA:=[(2000027, .v (.one (.bool v.1.2.2.2.2.1)))],mem:= [],nx:=0}) q v.1.2.2.2.1
def Sd:List HV:=[.agg [.int .i64, .int .i64, .int .i64, .sl .aB, .sl .kept, .sl .aB]]
def O9:List HV:=[.one (.bool)]
def aa7:HP.V Sd→al:=fun v=>((⟨(cFs v.1),(⟨v.1.2.2.2.2.1,v.1.2.2.2.2.2.1⟩:ay)⟩:al))
def amq:HX.V O9→Bool:=fun v=>(v)
def ad3:Bool→HX.V O9:=fun y=>(y)
def YQ:al→Option (Bool):=fun x=>iA x
def Wk:Spec:=aU Sd O9 aa7 ad3 YQ
def SU:Cfg:={T:=cx,spec:=[(72,z_),(73,AM),(74,zf),(77,Tg)],aX:=aG.G Tryz.prog,eqs:=cy,N:=8,fuel:=64,fid:=76}
theorem X1:aH Tryz.prog SU:=aZ cA cB ⟨BP,⟨Ct,⟨Bh,⟨aop,trivial⟩⟩⟩⟩
def ahl {R:Type}:Inl R:= .mk 76 SU [] ab6 Tryz.f76.results.toList []
def NT {R:Type}:List (Nat×Hd R):=[(2,bC Bv Lk)]
def I1 {R:Type}:List (Nat×Inl R):=[(16,ahl)]
def HI:Cfg:={T:=cx,spec:=[(72,z_),(73,AM),(74,zf)],aX:=aG.G Tryz.prog,eqs:=cy,N:=19,fuel:=64,loops:=[(2,⟨[0,1,7,8,2000001], [],[0,1],2, [], [], [], []⟩)],blocks:=[(0,⟨[2000001], [],[0],1, [], [], [], []⟩)],eV:=some ⟨[4,2000001], [],[0],1, [], [], [], []⟩,fid:=100}
theorem amu:aH Tryz.prog HI:=aZ cA cB ⟨BP,⟨Ct,⟨Bh,trivial⟩⟩⟩
theorem an3 {R:Type}:aP Tryz.prog (R:=R) 1 I1:=bF Tryz.f76 X1 (aC _ _)
theorem Zg {R:Type}:bA (R:=R) (hnd 1 I1) HI NT (sub [1,0,1,0,0] wv) (HS.V Bv) (HS.st Bv) (HS.sh Bv) Lk (bC Bv Lk):=aN Bv Lk (fun _ _=>rfl) (by intro q v K;kernel_rfl)
theorem aaR {R:Type}:aL (R:=R) (hnd 1 I1) HI NT wv:=aD (l:=[sub [1,0,1,0,0] wv]) (by kernel_rfl) (aK (b:=sub [1,0,1,0,0] wv) (rid:=2) (by kernel_rfl) (by kernel_rfl) Zg (trivial))
def afz {R:Type}:Inl R:= .mk 100 HI NT wv Tryz.f100.results.toList I1
def T_ {R:Type}:List (Nat×Hd R):= []
def L8 {R:Type}:List (Nat×Inl R):=[(7,afz)]
def QX:Cfg:={T:=cx,spec:=[(72,z_),(73,AM),(74,zf)],aX:=aG.G Tryz.prog,eqs:=cy,N:=9,fuel:=64,fid:=75}
theorem ajY:aH Tryz.prog QX:=aZ cA cB ⟨BP,⟨Ct,⟨Bh,trivial⟩⟩⟩
theorem aje {R:Type}:aP Tryz.prog (R:=R) 2 L8:=bE Tryz.f100 amu aaR (bw (by kernel_rfl)) an3 (aC _ _)
theorem Yp {R:Type}:aL (R:=R) (hnd 2 L8) QX T_ Sf:=aD (l:= []) (by kernel_rfl) (trivial)
def ahg {R:Type}:Inl R:= .mk 75 QX T_ Sf Tryz.f75.results.toList L8
def WA:Cfg:={T:=cx,spec:=[(72,z_),(73,AM),(74,zf),(80,SW)],aX:=aG.G Tryz.prog,eqs:=cy,N:=8,fuel:=64,fid:=79}
theorem afx:aH Tryz.prog WA:=aZ cA cB ⟨BP,⟨Ct,⟨Bh,⟨ajV,trivial⟩⟩⟩⟩
def afm {R:Type}:Inl R:= .mk 79 WA [] aki Tryz.f79.results.toList []
def Qz {R:Type}:List (Nat×Hd R):=[(2,bC Dr IF)]
def Ll {R:Type}:List (Nat×Inl R):=[(16,afm)]
def HE:Cfg:={T:=cx,spec:=[(72,z_),(73,AM),(74,zf)],aX:=aG.G Tryz.prog,eqs:=cy,N:=19,fuel:=64,loops:=[(2,⟨[0,1,7,8,2000027], [],[0,1],2, [], [], [], []⟩)],blocks:=[(0,⟨[2000027], [], [],0, [], [], [], []⟩)],eV:=some ⟨[4,2000027], [], [],0, [], [], [], []⟩,fid:=121}
theorem alQ:aH Tryz.prog HE:=aZ cA cB ⟨BP,⟨Ct,⟨Bh,trivial⟩⟩⟩
theorem aec {R:Type}:aP Tryz.prog (R:=R) 1 Ll:=bF Tryz.f79 afx (aC _ _)
theorem ang {R:Type}:bA (R:=R) (hnd 1 Ll) HE Qz (sub [1,0,1,0,0] pT) (HS.V Dr) (HS.st Dr) (HS.sh Dr) IF (bC Dr IF):=aN Dr IF (fun _ _=>rfl) (by intro q v K;kernel_rfl)
theorem agh {R:Type}:aL (R:=R) (hnd 1 Ll) HE Qz pT:=aD (l:=[sub [1,0,1,0,0] pT]) (by kernel_rfl) (aK (b:=sub [1,0,1,0,0] pT) (rid:=2) (by kernel_rfl) (by kernel_rfl) ang (trivial))
def aou {R:Type}:Inl R:= .mk 121 HE Qz pT Tryz.f121.results.toList Ll
def RI {R:Type}:List (Nat×Hd R):= []
def PJ {R:Type}:List (Nat×Inl R):=[(7,aou)]
def Oy:Cfg:={T:=cx,spec:=[(72,z_),(73,AM),(74,zf)],aX:=aG.G Tryz.prog,eqs:=cy,N:=9,fuel:=64,fid:=78}
theorem aeD:aH Tryz.prog Oy:=aZ cA cB ⟨BP,⟨Ct,⟨Bh,trivial⟩⟩⟩
theorem afr {R:Type}:aP Tryz.prog (R:=R) 2 PJ:=bE Tryz.f121 alQ agh (bw (by kernel_rfl)) aec (aC _ _)
theorem anO {R:Type}:aL (R:=R) (hnd 2 PJ) Oy RI KE:=aD (l:= []) (by kernel_rfl) (trivial)
def ann {R:Type}:Inl R:= .mk 78 Oy RI KE Tryz.f78.results.toList PJ
def Y9 {R:Type}:List (Nat×Hd R):= []
def SI {R:Type}:List (Nat×Inl R):=[(25,ahg),(32,ann)]
def W9:Cfg:={T:=cx,spec:=[(72,z_),(73,AM),(74,zf)],aX:=aG.G Tryz.prog,eqs:=cy,N:=35,fuel:=64,fid:=30}
theorem afs:aH Tryz.prog W9:=aZ cA cB ⟨BP,⟨Ct,⟨Bh,trivial⟩⟩⟩
theorem ack {R:Type}:aP Tryz.prog (R:=R) 3 SI:=bE Tryz.f75 ajY Yp (bw (by kernel_rfl)) aje (bE Tryz.f78 aeD anO (bw (by kernel_rfl)) afr (aC _ _))
theorem alq {R:Type}:aL (R:=R) (hnd 3 SI) W9 Y9 afR:=aD (l:= []) (by kernel_rfl) (trivial)
theorem ai8:aT Tryz.prog 30 Wk:=bl Tryz.f30 afs m8 (d:=3) ack alq (bw (by kernel_rfl)) (toY:=amq)
end
end Go.Eng
set_option linter.unusedVariables false
set_option maxRecDepth 100000
namespace Go.Eng
noncomputable section
open Go Go.Proofs
def xH:List (Nat×TI):=[(3,⟨false,1, .one (.int .i64 0), .int .i64⟩),(4,⟨false,1, .one (.bool false), .bool⟩),(9,⟨false,1, .one (.str []), .str⟩),(22,⟨false,1, .one (.clip .aB []), .slice .aB 39⟩),(24,⟨true,4, .agg [.int .i64 0, .int .i64 0, .int .i64 0, .clip .aB []], .struct [(0,3),(1,3),(2,3),(3,22)]⟩),(25,⟨false,1, .one (.clip .kept []), .slice .kept 60⟩),(27,⟨true,2, .agg [.clip .kept [], .clip .aB []], .struct [(0,25),(1,22)]⟩),(29,⟨true,6, .agg [.int .i64 0, .int .i64 0, .int .i64 0, .clip .aB [], .clip .kept [], .clip .aB []], .struct [(0,24),(4,27)]⟩),(34,⟨true,3, .agg [.int .i64 0, .str [], .int .i64 0], .struct [(0,3),(1,9),(2,3)]⟩),(37,⟨false,1, .one (.clip .entry []), .slice .entry 90⟩),(39,⟨true,6, .agg [.int .i64 0, .int .i64 0, .int .i64 0, .str [], .int .i64 0, .clip .entry []], .struct [(0,3),(1,3),(2,3),(3,9),(4,3),(5,37)]⟩),(60,⟨true,4, .agg [.int .i64 0, .int .i64 0, .bool false, .str []], .struct [(0,3),(1,3),(2,4),(3,9)]⟩),(90,⟨true,2, .agg [.str [], .int .i64 0], .struct [(0,9),(1,3)]⟩)]
def ya:List (Nat×List EK):=[(60,[.i, .i, .b, .s])]
theorem zx:Tryz.prog.follows .mixedOrders=true:=by kernel_rfl
theorem zM:(xH.all fun x=>tiB Tryz.prog x.1 x.2)=true:=by kernel_rfl
theorem AH:(ya.all fun x=>eqB Tryz.prog x.1 x.2)=true:=by kernel_rfl
def SX:List HV:= []
def OK:List HV:=[.agg [.int .i64, .int .i64, .int .i64, .sl .aB, .sl .kept, .sl .aB]]
def YZ:HP.V SX→Unit:=fun v=>()
def XO:HX.V OK→al:=fun v=>((⟨(cFs v),(⟨v.2.2.2.2.1,v.2.2.2.2.2.1⟩:ay)⟩:al))
def ahz:al→HX.V OK:=fun y=>((y.fs.aq,(y.fs.au,(y.fs.next,(y.fs.aa,(y.ao.kept,(y.ao.aJ,())))))))
def ajD:Unit→Option (al):=fun x=>lY
def Tf:Spec:=aU SX OK YZ ahz ajD
def adK:Cfg:={T:=xH,spec:=[(47,CX),(69,T6)],aX:=aG.G Tryz.prog,eqs:=ya,N:=14,fuel:=64,fid:=28}
theorem aiB:aH Tryz.prog adK:=aZ zM AH ⟨Ef,⟨ac5,trivial⟩⟩
theorem ac6:aT Tryz.prog 28 Tf:=bV Tryz.f28 aiB zx (toY:=XO)
def Uv:List HV:= []
def PQ:List HV:=[.one (.bool)]
def ahN:HP.V Uv→Unit:=fun v=>()
def ag_:HX.V PQ→Bool:=fun v=>(v)
def akf:Bool→HX.V PQ:=fun y=>(y)
def acu:Unit→Option (Bool):=fun x=>bu
def Ck:Spec:=aU Uv PQ ahN akf acu
def aex:Cfg:={T:=xH,spec:=[(11,Qx),(12,zD),(16,DV),(18,Fg),(20,Ih),(22,IE),(27,PT),(28,Tf),(29,u6),(30,Wk)],aX:=aG.G Tryz.prog,eqs:=ya,N:=159,fuel:=64,fid:=9}
theorem Y1:aH Tryz.prog aex:=aZ zM AH ⟨Vv,⟨Be,⟨Fq,⟨G7,⟨Pg,⟨PY,⟨Xj,⟨ac6,⟨wi,⟨ai8,trivial⟩⟩⟩⟩⟩⟩⟩⟩⟩⟩
theorem D7:aT Tryz.prog 9 Ck:=bV Tryz.f9 Y1 zx (toY:=ag_)
def Fz:List HV:=[.agg [.int .i64, .int .i64, .int .i64, .sl .aB, .sl .kept, .sl .aB], .agg [.int .i64, .int .i64, .int .i64, .sl .aB, .sl .kept, .sl .aB]]
def O_:List HV:=[.one (.bool)]
def PO:HP.V Fz→al×al:=fun v=>((⟨(cFs v.1),(⟨v.1.2.2.2.2.1,v.1.2.2.2.2.2.1⟩:ay)⟩:al),(⟨(cFs v.2.1),(⟨v.2.1.2.2.2.2.1,v.2.1.2.2.2.2.2.1⟩:ay)⟩:al))
def ads:HX.V O_→Bool:=fun v=>(v)
def U_:Bool→HX.V O_:=fun y=>(y)
def Ni:(al×al)→Option (Bool):=fun x=>jx x.1 x.2
def alJ:Spec:=aU Fz O_ PO U_ Ni
def Y4:Cfg:={T:=xH,spec:=[(9,Ck),(10,O7),(11,Qx),(12,zD)],aX:=aG.G Tryz.prog,eqs:=ya,N:=30,fuel:=64,fid:=3}
theorem ajh:aH Tryz.prog Y4:=aZ zM AH ⟨D7,⟨Vs,⟨Vv,⟨Be,trivial⟩⟩⟩⟩
theorem abz:aT Tryz.prog 3 alJ:=bV Tryz.f3 ajh zx (toY:=ads)
def Hc:List HV:=[.agg [.int .i64, .int .i64, .int .i64, .sl .aB, .sl .kept, .sl .aB], .one (.int .i64), .one (.str)]
def MW:List HV:=[.one (.bool)]
def Ow:HP.V Hc→al×Int×Str:=fun v=>((⟨(cFs v.1),(⟨v.1.2.2.2.2.1,v.1.2.2.2.2.2.1⟩:ay)⟩:al),v.2.1,v.2.2.1)
def acD:HX.V MW→Bool:=fun v=>(v)
def VI:Bool→HX.V MW:=fun y=>(y)
def MJ:(al×Int×Str)→Option (Bool):=fun x=>jE x.1 x.2.1 x.2.2
def Yw:Spec:=aU Hc MW Ow VI MJ
def ade:Cfg:={T:=xH,spec:=[(9,Ck),(12,zD),(13,Eb),(14,Gv),(15,nR),(16,DV),(17,WG),(18,Fg),(19,Ti)],aX:=aG.G Tryz.prog,eqs:=ya,N:=111,fuel:=64,fid:=4}
theorem aey:aH Tryz.prog ade:=aZ zM AH ⟨D7,⟨Be,⟨Gy,⟨K8,⟨oG,⟨Fq,⟨Yz,⟨G7,⟨XU,trivial⟩⟩⟩⟩⟩⟩⟩⟩⟩
theorem XK:aT Tryz.prog 4 Yw:=bV Tryz.f4 aey zx (toY:=acD)
def GM:List HV:=[.agg [.int .i64, .int .i64, .int .i64, .sl .aB, .sl .kept, .sl .aB], .one (.int .i64), .one (.int .i64)]
def NO:List HV:=[.one (.bool)]
def OY:HP.V GM→al×Int×Int:=fun v=>((⟨(cFs v.1),(⟨v.1.2.2.2.2.1,v.1.2.2.2.2.2.1⟩:ay)⟩:al),v.2.1,v.2.2.1)
def akX:HX.V NO→Bool:=fun v=>(v)
def R6:Bool→HX.V NO:=fun y=>(y)
def Mr:(al×Int×Int)→Option (Bool):=fun x=>jD x.1 x.2.1 x.2.2
def aaz:Spec:=aU GM NO OY R6 Mr
def ae_:Cfg:={T:=xH,spec:=[(9,Ck),(12,zD),(13,Eb),(15,nR),(20,Ih),(21,Ul),(22,IE),(23,UD)],aX:=aG.G Tryz.prog,eqs:=ya,N:=90,fuel:=64,fid:=5}
theorem aha:aH Tryz.prog ae_:=aZ zM AH ⟨D7,⟨Be,⟨Gy,⟨oG,⟨Pg,⟨ah9,⟨PY,⟨apa,trivial⟩⟩⟩⟩⟩⟩⟩⟩
theorem aow:aT Tryz.prog 5 aaz:=bV Tryz.f5 aha zx (toY:=akX)
def FK:List HV:=[.agg [.int .i64, .int .i64, .int .i64, .sl .aB, .sl .kept, .sl .aB], .one (.int .i64), .one (.str)]
def PN:List HV:=[.one (.bool)]
def OO:HP.V FK→al×Int×Str:=fun v=>((⟨(cFs v.1),(⟨v.1.2.2.2.2.1,v.1.2.2.2.2.2.1⟩:ay)⟩:al),v.2.1,v.2.2.1)
def abP:HX.V PN→Bool:=fun v=>(v)
def Up:Bool→HX.V PN:=fun y=>(y)
def M7:(al×Int×Str)→Option (Bool):=fun x=>j5 x.1 x.2.1 x.2.2
def Zd:Spec:=aU FK PN OO Up M7
def Zu:Cfg:={T:=xH,spec:=[(9,Ck),(12,zD),(13,Eb),(14,Gv),(15,nR),(16,DV),(18,Fg),(24,E6),(25,JG),(26,Oz)],aX:=aG.G Tryz.prog,eqs:=ya,N:=164,fuel:=64,fid:=6}
theorem anM:aH Tryz.prog Zu:=aZ zM AH ⟨D7,⟨Be,⟨Gy,⟨K8,⟨oG,⟨Fq,⟨G7,⟨Gj,⟨L3,⟨Um,trivial⟩⟩⟩⟩⟩⟩⟩⟩⟩⟩
theorem adL:aT Tryz.prog 6 Zd:=bV Tryz.f6 anM zx (toY:=abP)
def Gf:List HV:=[.agg [.int .i64, .int .i64, .int .i64, .sl .aB, .sl .kept, .sl .aB], .one (.int .i64), .one (.str), .one (.str)]
def PK:List HV:=[.one (.bool)]
def MU:HP.V Gf→al×Int×Str×Str:=fun v=>((⟨(cFs v.1),(⟨v.1.2.2.2.2.1,v.1.2.2.2.2.2.1⟩:ay)⟩:al),v.2.1,v.2.2.1,v.2.2.2.1)
def an7:HX.V PK→Bool:=fun v=>(v)
def RT:Bool→HX.V PK:=fun y=>(y)
def QE:(al×Int×Str×Str)→Option (Bool):=fun x=>lg x.1 x.2.1 x.2.2.1 x.2.2.2
def ajH:Spec:=aU Gf PK MU RT QE
def ajt:Cfg:={T:=xH,spec:=[(9,Ck),(12,zD),(13,Eb),(14,Gv),(15,nR),(16,DV),(18,Fg),(25,JG)],aX:=aG.G Tryz.prog,eqs:=ya,N:=175,fuel:=64,fid:=7}
theorem aj3:aH Tryz.prog ajt:=aZ zM AH ⟨D7,⟨Be,⟨Gy,⟨K8,⟨oG,⟨Fq,⟨G7,⟨L3,trivial⟩⟩⟩⟩⟩⟩⟩⟩
theorem aox:aT Tryz.prog 7 ajH:=bV Tryz.f7 aj3 zx (toY:=an7)
def FL:List HV:=[.agg [.int .i64, .int .i64, .int .i64, .sl .aB, .sl .kept, .sl .aB], .one (.int .i64), .one (.str), .one (.int .i64)]
def OH:List HV:=[.one (.bool)]
def Ra:HP.V FL→al×Int×Str×Int:=fun v=>((⟨(cFs v.1),(⟨v.1.2.2.2.2.1,v.1.2.2.2.2.2.1⟩:ay)⟩:al),v.2.1,v.2.2.1,v.2.2.2.1)
def ZZ:HX.V OH→Bool:=fun v=>(v)
def RU:Bool→HX.V OH:=fun y=>(y)
def QQ:(al×Int×Str×Int)→Option (Bool):=fun x=>jv x.1 x.2.1 x.2.2.1 x.2.2.2
def adG:Spec:=aU FL OH Ra RU QQ
def amz:Cfg:={T:=xH,spec:=[(9,Ck),(12,zD),(13,Eb),(14,Gv),(15,nR),(16,DV),(18,Fg),(20,Ih),(22,IE),(27,PT)],aX:=aG.G Tryz.prog,eqs:=ya,N:=123,fuel:=64,fid:=8}
theorem ahb:aH Tryz.prog amz:=aZ zM AH ⟨D7,⟨Be,⟨Gy,⟨K8,⟨oG,⟨Fq,⟨G7,⟨Pg,⟨PY,⟨Xj,trivial⟩⟩⟩⟩⟩⟩⟩⟩⟩⟩
theorem aaX:aT Tryz.prog 8 adG:=bV Tryz.f8 ahb zx (toY:=ZZ)
end
end Go.Eng
