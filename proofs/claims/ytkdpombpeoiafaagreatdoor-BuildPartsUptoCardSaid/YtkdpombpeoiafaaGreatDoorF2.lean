/- A part of the proofs of the laws of this seat: the engine that reads the program's code, plain functions, or facts of the program's functions. Conditions: none. -/
import Derived.Test.YtkdpombpeoiafaaGreatDoorE4
import Derived.Test.YtkdpombpeoiafaaGreatDoorF1
import Derived.Test.YtkdpombpeoiafaaGreatDoorP1
set_option linter.unusedSectionVars false
set_option linter.unusedVariables false
set_option linter.unusedSimpArgs false
set_option linter.unnecessarySimpa false
set_option linter.unusedVariables false
set_option maxRecDepth 100000
namespace Go.Eng
noncomputable section
open Go Go.Proofs
def zQ:List (Nat×TI):=[(3,⟨false,1, .one (.int .i64 0), .int .i64⟩),(9,⟨false,1, .one (.str []), .str⟩),(22,⟨false,1, .one (.clip .bH []), .slice .bH 36⟩),(24,⟨true,4, .agg [.int .i64 0, .int .i64 0, .int .i64 0, .clip .bH []], .struct [(0,3),(1,3),(2,3),(3,22)]⟩),(34,⟨false,1, .one (.clip .entry []), .slice .entry 94⟩),(36,⟨true,6, .agg [.int .i64 0, .int .i64 0, .int .i64 0, .str [], .int .i64 0, .clip .entry []], .struct [(0,3),(1,3),(2,3),(3,9),(4,3),(5,34)]⟩),(62,⟨false,1, .one (.clip .int []), .slice .int 3⟩),(94,⟨true,2, .agg [.str [], .int .i64 0], .struct [(0,9),(1,3)]⟩)]
def zp:List (Nat×List EK):= []
theorem B9:Tryz.prog.follows .mixedOrders=true:=by kernel_rfl
theorem AE:(zQ.all fun x=>tiB Tryz.prog x.1 x.2)=true:=by kernel_rfl
theorem BN:(zp.all fun x=>eqB Tryz.prog x.1 x.2)=true:=by kernel_rfl
def Ho:Code:=bd Tryz.f58
def AI:Code:=bd Tryz.f59
def B5:Code:=bd Tryz.f60
def KN:Code:=bd Tryz.f61
def u9:Code:=bd Tryz.f62
def BD:Code:=bd Tryz.f86
def Cr:HS:=⟨[(1, .one (.ptr 0 0)),(3, .one (.int .i64))],[(0, .cells hFs)],1⟩
def I_ {R:Type}:Nat→HS.V Cr→(Ex→St→Option R)→Option R:=fun q v K=>
 eT (cFs v.2.1) (K .ret {ar:=[(2, .v (.one (.bool false)))],mem:= [],nx:=0}) (K (.exit 0) {ar:=[(1, .v (.one (.ptr 0 0)))],mem:=[(0, .cells (rFs (cFs v.2.1)))],nx:=1}) q v.1.2.1
def Ud:List HV:=[.agg hFs]
def Nf:List HV:=[.one (.bool)]
def abR:HP.V Ud→Fs:=fun v=>((cFs v.1))
def aoi:HX.V Nf→Bool:=fun v=>(v)
def akQ:Bool→HX.V Nf:=fun y=>(y)
def ajC:Fs→Option (Bool):=fun x=>kK x
def V5:Spec:=aH Ud Nf abR akQ ajC
def UO {R:Type}:List (Nat×Hd R):=[(4,bL Cr I_)]
def Qg {R:Type}:List (Nat×Inl R):= []
def Ot:Cfg:={T:=zQ,spec:=[(18,m9),(84,Te)],aO:=aA.G Tryz.prog,eqs:=zp,N:=69,fuel:=64,loops:=[(4,⟨[1,3], [],[0],1, [], [], [], []⟩)],blocks:=[(0,⟨[1], [],[0],1, [], [], [], []⟩)],gk:=some ⟨[2], [], [],0, [], [], [], []⟩,fid:=58}
theorem Zj:az Tryz.prog Ot:=aP AE BN ⟨nE,⟨agL,trivial⟩⟩
theorem adw {R:Type}:aI Tryz.prog (R:=R) 0 Qg:=au _ _
theorem amY {R:Type}:bB (R:=R) (hnd 0 Qg) Ot UO (sub [1,1,0,1,0,0] Ho) (HS.V Cr) (HS.st Cr) (HS.sh Cr) I_ (bL Cr I_):=aT Cr I_ (fun _ _=>rfl) (by intro q v K;kernel_rfl)
theorem ae7 {R:Type}:aD (R:=R) (hnd 0 Qg) Ot UO Ho:=ao (l:=[sub [1,1,0,1,0,0] Ho]) (by kernel_rfl) (aK (b:=sub [1,1,0,1,0,0] Ho) (rid:=4) (by kernel_rfl) (by kernel_rfl) amY (trivial))
theorem anW:aF Tryz.prog 58 V5:=bf Tryz.f58 Zj B9 (d:=0) adw ae7 (bp (by kernel_rfl)) (toY:=aoi)
def B3:HS:=⟨[(1, .one (.ptr 0 0)),(3, .one (.int .i64)),(4, .one (.ptr 1 0)),(5, .one (.int .i64))],[(0, .cells hFs),(1, .cells hIn)],2⟩
def G7 {R:Type}:Nat→HS.V B3→(Ex→St→Option R)→Option R:=fun q v K=>
 aM (cIn v.2.2.1) (K .ret {ar:=[(2, .v (.one (.bool false)))],mem:= [],nx:=0}) (K (.exit 2) {ar:=[(1, .v (.one (.ptr 0 0))),(3, .v (.one (.int .i64 v.1.2.1)))],mem:=[(0, .cells (rFs (cFs v.2.1)))],nx:=1}) q v.1.2.2.2.1
def Am:HS:=⟨[(1, .one (.ptr 0 0)),(3, .one (.int .i64))],[(0, .cells hFs)],1⟩
def Hh {R:Type}:Nat→HS.V Am→(Ex→St→Option R)→Option R:=fun q v K=>
 aS (cFs v.2.1) (K .ret {ar:=[(2, .v (.one (.bool false)))],mem:= [],nx:=0}) (K (.exit 0) {ar:= [],mem:= [],nx:=0}) q v.1.2.1
def Ug:List HV:=[.agg hFs]
def Pz:List HV:=[.one (.bool)]
def alQ:HP.V Ug→Fs:=fun v=>((cFs v.1))
def aej:HX.V Pz→Bool:=fun v=>(v)
def aiB:Bool→HX.V Pz:=fun y=>(y)
def YQ:Fs→Option (Bool):=fun x=>jK x
def WC:Spec:=aH Ug Pz alQ aiB YQ
def PC {R:Type}:List (Nat×Hd R):=[(2,bL Am Hh),(14,bL B3 G7)]
def Hy {R:Type}:List (Nat×Inl R):= []
def Ka:Cfg:={T:=zQ,spec:=[(85,Vc)],aO:=aA.G Tryz.prog,eqs:=zp,N:=91,fuel:=64,loops:=[(14,⟨[1,3,4,5], [],[0,1],2, [], [], [], []⟩),(2,⟨[1,3], [],[0],1, [], [], [], []⟩)],blocks:=[(0,⟨[], [], [],0, [], [], [], []⟩),(1,⟨[1,3], [],[0],1, [], [], [], []⟩),(2,⟨[1,3], [],[0],1, [], [], [], []⟩)],gk:=some ⟨[2], [], [],0, [], [], [], []⟩,fid:=59}
theorem acb:az Tryz.prog Ka:=aP AE BN ⟨anj,trivial⟩
theorem adZ {R:Type}:aI Tryz.prog (R:=R) 0 Hy:=au _ _
theorem afR {R:Type}:bB (R:=R) (hnd 0 Hy) Ka PC (sub [1,0,1,0,0] AI) (HS.V Am) (HS.st Am) (HS.sh Am) Hh (bL Am Hh):=aT Am Hh (fun _ _=>rfl) (by intro q v K;kernel_rfl)
theorem apG {R:Type}:bB (R:=R) (hnd 0 Hy) Ka PC (sub [1,0,1,0,0,1,0,0,1,1,1,1,1,1,0,0] AI) (HS.V B3) (HS.st B3) (HS.sh B3) G7 (bL B3 G7):=aT B3 G7 (fun _ _=>rfl) (by intro q v K;kernel_rfl)
theorem YB {R:Type}:aD (R:=R) (hnd 0 Hy) Ka PC AI:=ao (l:=[sub [1,0,1,0,0] AI,sub [1,0,1,0,0,1,0,0,1,1,1,1,1,1,0,0] AI]) (by kernel_rfl) (aK (b:=sub [1,0,1,0,0] AI) (rid:=2) (by kernel_rfl) (by kernel_rfl) afR (aK (b:=sub [1,0,1,0,0,1,0,0,1,1,1,1,1,1,0,0] AI) (rid:=14) (by kernel_rfl) (by kernel_rfl) apG (trivial)))
theorem af_:aF Tryz.prog 59 WC:=bf Tryz.f59 acb B9 (d:=0) adZ YB (bp (by kernel_rfl)) (toY:=aej)
def Ck:HS:=⟨[(1, .one (.ptr 0 0)),(3, .one (.int .i64)),(4, .one (.int .i64))],[(0, .cells hFs)],1⟩
def JZ {R:Type}:Nat→HS.V Ck→(Ex→St→Option R)→Option R:=fun q v K=>
 dQ v.1.2.1 (cFs v.2.1) (K .ret {ar:=[(2, .v (.one (.bool false)))],mem:= [],nx:=0}) (K (.exit 2) {ar:=[(1, .v (.one (.ptr 0 0))),(3, .v (.one (.int .i64 v.1.2.1)))],mem:=[(0, .cells (rFs (cFs v.2.1)))],nx:=1}) q v.1.2.2.1
def B8:HS:=⟨[(1, .one (.ptr 0 0)),(3, .one (.int .i64))],[(0, .cells hFs)],1⟩
def JO {R:Type}:Nat→HS.V B8→(Ex→St→Option R)→Option R:=fun q v K=>
 eW (cFs v.2.1) (K .ret {ar:=[(2, .v (.one (.bool false)))],mem:= [],nx:=0}) (K (.exit 0) {ar:= [],mem:= [],nx:=0}) q v.1.2.1
def Ua:List HV:=[.agg hFs]
def Lk:List HV:=[.one (.bool)]
def aqF:HP.V Ua→Fs:=fun v=>((cFs v.1))
def ZZ:HX.V Lk→Bool:=fun v=>(v)
def Zx:Bool→HX.V Lk:=fun y=>(y)
def acJ:Fs→Option (Bool):=fun x=>kJ x
def VF:Spec:=aH Ua Lk aqF Zx acJ
def OE {R:Type}:List (Nat×Hd R):=[(2,bL B8 JO),(5,bL Ck JZ)]
def KG {R:Type}:List (Nat×Inl R):= []
def GY:Cfg:={T:=zQ,spec:=[(18,m9)],aO:=aA.G Tryz.prog,eqs:=zp,N:=42,fuel:=64,loops:=[(5,⟨[1,3,4], [],[0],1, [], [], [], []⟩),(2,⟨[1,3], [],[0],1, [], [], [], []⟩)],blocks:=[(0,⟨[], [], [],0, [], [], [], []⟩),(1,⟨[1,3], [],[0],1, [], [], [], []⟩),(2,⟨[1,3], [],[0],1, [], [], [], []⟩)],gk:=some ⟨[2], [], [],0, [], [], [], []⟩,fid:=60}
theorem al3:az Tryz.prog GY:=aP AE BN ⟨nE,trivial⟩
theorem aka {R:Type}:aI Tryz.prog (R:=R) 0 KG:=au _ _
theorem ama {R:Type}:bB (R:=R) (hnd 0 KG) GY OE (sub [1,0,1,0,0] B5) (HS.V B8) (HS.st B8) (HS.sh B8) JO (bL B8 JO):=aT B8 JO (fun _ _=>rfl) (by intro q v K;kernel_rfl)
theorem alD {R:Type}:bB (R:=R) (hnd 0 KG) GY OE (sub [1,0,1,0,0,1,0,0,1,0,0] B5) (HS.V Ck) (HS.st Ck) (HS.sh Ck) JZ (bL Ck JZ):=aT Ck JZ (fun _ _=>rfl) (by intro q v K;kernel_rfl)
theorem aii {R:Type}:aD (R:=R) (hnd 0 KG) GY OE B5:=ao (l:=[sub [1,0,1,0,0] B5,sub [1,0,1,0,0,1,0,0,1,0,0] B5]) (by kernel_rfl) (aK (b:=sub [1,0,1,0,0] B5) (rid:=2) (by kernel_rfl) (by kernel_rfl) ama (aK (b:=sub [1,0,1,0,0,1,0,0,1,0,0] B5) (rid:=5) (by kernel_rfl) (by kernel_rfl) alD (trivial)))
theorem XS:aF Tryz.prog 60 VF:=bf Tryz.f60 al3 B9 (d:=0) aka aii (bp (by kernel_rfl)) (toY:=ZZ)
def Ah:HS:=⟨[(1, .one (.int .i64)),(2, .one (.ptr 0 0)),(6, .one (.int .i64)),(7, .one (.int .i64)),(8, .one (.int .i64)),(9, .one (.int .i64))],[(0, .cells hFs)],1⟩
def Iz {R:Type}:Nat→HS.V Ah→(Ex→St→Option R)→Option R:=fun q v K=>
 dv v.1.1 v.1.2.2.2.2.1 (cFs v.2.1) (fun y17 y18=>K (.exit 2) {ar:=[(1, .v (.one (.int .i64 v.1.1))),(2, .v (.one (.ptr 0 0))),(6, .v (.one (.int .i64 y17))),(7, .v (.one (.int .i64 y18))),(8, .v (.one (.int .i64 v.1.2.2.2.2.1)))],mem:=[(0, .cells (rFs (cFs v.2.1)))],nx:=1}) q v.1.2.2.1 v.1.2.2.2.1 v.1.2.2.2.2.2.1
def AQ:HS:=⟨[(1, .one (.int .i64)),(2, .one (.ptr 0 0)),(6, .one (.int .i64)),(7, .one (.int .i64)),(8, .one (.int .i64))],[(0, .cells hFs)],1⟩
def Iw {R:Type}:Nat→HS.V AQ→(Ex→St→Option R)→Option R:=fun q v K=>
 e_ v.1.1 (cFs v.2.1) (fun y23 y24=>K (.exit 0) {ar:=[(6, .v (.one (.int .i64 y23))),(7, .v (.one (.int .i64 y24)))],mem:= [],nx:=0}) q v.1.2.2.1 v.1.2.2.2.1 v.1.2.2.2.2.1
def Ur:List HV:=[.agg hFs, .one (.int .i64)]
def OV:List HV:=[.one (.int .i64), .one (.int .i64)]
def aec:HP.V Ur→Fs×Int:=fun v=>((cFs v.1),v.2.1)
def ajX:HX.V OV→Int×Int:=fun v=>(v.1,v.2)
def aiq:(Int×Int)→HX.V OV:=fun y=>(y.1,y.2)
def X7:(Fs×Int)→Option (Int×Int):=fun x=>kZ x.1 x.2
def Wb:Spec:=aH Ur OV aec aiq X7
def LJ {R:Type}:List (Nat×Hd R):=[(4,bL AQ Iw),(7,bL Ah Iz)]
def Ke {R:Type}:List (Nat×Inl R):= []
def Kl:Cfg:={T:=zQ,aO:=aA.G Tryz.prog,eqs:=zp,N:=50,fuel:=64,loops:=[(7,⟨[1,2,6,7,8,9], [],[0],1, [], [], [], []⟩),(4,⟨[1,2,6,7,8], [],[0],1, [], [], [], []⟩)],blocks:=[(0,⟨[6,7], [], [],0, [], [], [], []⟩),(1,⟨[1,2,6,7,8], [],[0],1, [], [], [], []⟩),(2,⟨[1,2,6,7,8], [],[0],1, [], [], [], []⟩)],fid:=86}
theorem aod:az Tryz.prog Kl:=aP AE BN trivial
theorem ahj {R:Type}:aI Tryz.prog (R:=R) 0 Ke:=au _ _
theorem adp {R:Type}:bB (R:=R) (hnd 0 Ke) Kl LJ (sub [1,1,1,0,1,0,0] BD) (HS.V AQ) (HS.st AQ) (HS.sh AQ) Iw (bL AQ Iw):=aT AQ Iw (fun _ _=>rfl) (by intro q v K;kernel_rfl)
theorem aaa {R:Type}:bB (R:=R) (hnd 0 Ke) Kl LJ (sub [1,1,1,0,1,0,0,1,0,0,1,0,0] BD) (HS.V Ah) (HS.st Ah) (HS.sh Ah) Iz (bL Ah Iz):=aT Ah Iz (fun _ _=>rfl) (by intro q v K;kernel_rfl)
theorem aji {R:Type}:aD (R:=R) (hnd 0 Ke) Kl LJ BD:=ao (l:=[sub [1,1,1,0,1,0,0] BD,sub [1,1,1,0,1,0,0,1,0,0,1,0,0] BD]) (by kernel_rfl) (aK (b:=sub [1,1,1,0,1,0,0] BD) (rid:=4) (by kernel_rfl) (by kernel_rfl) adp (aK (b:=sub [1,1,1,0,1,0,0,1,0,0,1,0,0] BD) (rid:=7) (by kernel_rfl) (by kernel_rfl) aaa (trivial)))
theorem amj:aF Tryz.prog 86 Wb:=bf Tryz.f86 aod B9 (d:=0) ahj aji (bp (by kernel_rfl)) (toY:=ajX)
def Ae:HS:=⟨[(1, .one (.ptr 0 0)),(3, .one (.int .i64))],[(0, .cells hFs)],1⟩
def Kk {R:Type}:Nat→HS.V Ae→(Ex→St→Option R)→Option R:=fun q v K=>
 cZ (cFs v.2.1) (K .ret {ar:=[(2, .v (.one (.bool false)))],mem:= [],nx:=0}) (K (.exit 0) {ar:= [],mem:= [],nx:=0}) q v.1.2.1
def U9:List HV:=[.agg hFs]
def QH:List HV:=[.one (.bool)]
def afL:HP.V U9→Fs:=fun v=>((cFs v.1))
def alk:HX.V QH→Bool:=fun v=>(v)
def ajj:Bool→HX.V QH:=fun y=>(y)
def akR:Fs→Option (Bool):=fun x=>jH x
def W2:Spec:=aH U9 QH afL ajj akR
def SJ {R:Type}:List (Nat×Hd R):=[(2,bL Ae Kk)]
def MG {R:Type}:List (Nat×Inl R):= []
def Ni:Cfg:={T:=zQ,spec:=[(86,Wb)],aO:=aA.G Tryz.prog,eqs:=zp,N:=57,fuel:=64,loops:=[(2,⟨[1,3], [],[0],1, [], [], [], []⟩)],blocks:=[(0,⟨[], [], [],0, [], [], [], []⟩)],gk:=some ⟨[2], [], [],0, [], [], [], []⟩,fid:=61}
theorem aco:az Tryz.prog Ni:=aP AE BN ⟨amj,trivial⟩
theorem aaW {R:Type}:aI Tryz.prog (R:=R) 0 MG:=au _ _
theorem aiN {R:Type}:bB (R:=R) (hnd 0 MG) Ni SJ (sub [1,0,1,0,0] KN) (HS.V Ae) (HS.st Ae) (HS.sh Ae) Kk (bL Ae Kk):=aT Ae Kk (fun _ _=>rfl) (by intro q v K;kernel_rfl)
theorem apH {R:Type}:aD (R:=R) (hnd 0 MG) Ni SJ KN:=ao (l:=[sub [1,0,1,0,0] KN]) (by kernel_rfl) (aK (b:=sub [1,0,1,0,0] KN) (rid:=2) (by kernel_rfl) (by kernel_rfl) aiN (trivial))
theorem als:aF Tryz.prog 61 W2:=bf Tryz.f61 aco B9 (d:=0) aaW apH (bp (by kernel_rfl)) (toY:=alk)
def AJ:HS:=⟨[(1, .one (.ptr 0 0)),(3, .one (.own 1)),(4, .one (.int .i64)),(5, .one (.ptr 2 0)),(7, .one (.int .i64)),(8, .one (.bool)),(9, .one (.int .i64))],[(0, .cells hFs),(1, .row .int),(2, .cells hIn)],3⟩
def IP {R:Type}:Nat→HS.V AJ→(Ex→St→Option R)→Option R:=fun q v K=>
 c_ v.1.2.2.2.2.1 v.2.2.1 (cIn v.2.2.2.1) (fun y22=>K (.exit 4) {ar:=[(1, .v (.one (.ptr 0 0))),(3, .v (.one (.own 1))),(4, .v (.one (.int .i64 v.1.2.2.1))),(5, .v (.one (.ptr 2 0))),(7, .v (.one (.int .i64 v.1.2.2.2.2.1))),(8, .v (.one (.bool y22)))],mem:=[(0, .cells (rFs (cFs v.2.1))),(1, .row .int v.2.2.1),(2, .cells (rIn (cIn v.2.2.2.1)))],nx:=3}) q v.1.2.2.2.2.2.1 v.1.2.2.2.2.2.2.1
def BQ:HS:=⟨[(1, .one (.ptr 0 0)),(3, .one (.own 1)),(4, .one (.int .i64)),(5, .one (.ptr 2 0)),(7, .one (.int .i64))],[(0, .cells hFs),(1, .row .int),(2, .cells hIn)],3⟩
def Ic {R:Type}:Nat→HS.V BQ→(Ex→St→Option R)→Option R:=fun q v K=>
 dx (cIn v.2.2.2.1) (fun y30=>K (.exit 2) {ar:=[(1, .v (.one (.ptr 0 0))),(3, .v (.one (.own 1))),(4, .v (.one (.int .i64 v.1.2.2.1)))],mem:=[(0, .cells (rFs (cFs v.2.1))),(1, .row .int y30)],nx:=2}) q v.1.2.2.2.2.1 v.2.2.1
def AL:HS:=⟨[(1, .one (.ptr 0 0)),(3, .one (.own 1)),(4, .one (.int .i64))],[(0, .cells hFs),(1, .row .int)],2⟩
def Ki {R:Type}:Nat→HS.V AL→(Ex→St→Option R)→Option R:=fun q v K=>
 fM (cFs v.2.1) (fun y33=>K (.exit 0) {ar:=[(1, .v (.one (.ptr 0 0))),(3, .v (.one (.own 1)))],mem:=[(0, .cells (rFs (cFs v.2.1))),(1, .row .int y33)],nx:=2}) q v.1.2.2.1 v.2.2.1
def R5:List HV:=[.agg hFs]
def O_:List HV:=[.one (.bool)]
def acH:HP.V R5→Fs:=fun v=>((cFs v.1))
def amX:HX.V O_→Bool:=fun v=>(v)
def abx:Bool→HX.V O_:=fun y=>(y)
def XP:Fs→Option (Bool):=fun x=>kD x
def Uu:Spec:=aH R5 O_ acH abx XP
def Hb {R:Type}:List (Nat×Hd R):=[(3,bL AL Ki),(7,bL BQ Ic),(11,bL AJ IP)]
def F_ {R:Type}:List (Nat×Inl R):= []
def E1:Cfg:={T:=zQ,spec:=[(18,m9)],aO:=aA.G Tryz.prog,eqs:=zp,N:=70,fuel:=64,loops:=[(11,⟨[1,3,4,5,7,8,9], [],[0,1,2],3, [], [], [], []⟩),(7,⟨[1,3,4,5,7], [],[0,1,2],3, [], [], [], []⟩),(3,⟨[1,3,4], [],[0,1],2, [], [], [], []⟩)],blocks:=[(0,⟨[1,3], [],[0,1],2, [], [], [], []⟩),(1,⟨[1,3,4], [],[0,1],2, [], [], [], []⟩),(2,⟨[1,3,4], [],[0,1],2, [], [], [], []⟩),(3,⟨[1,3,4,5,7], [],[0,1,2],3, [], [], [], []⟩),(4,⟨[1,3,4,5,7,8], [],[0,1,2],3, [], [], [], []⟩)],fid:=62}
theorem aeb:az Tryz.prog E1:=aP AE BN ⟨nE,trivial⟩
theorem abN {R:Type}:aI Tryz.prog (R:=R) 0 F_:=au _ _
theorem am_ {R:Type}:bB (R:=R) (hnd 0 F_) E1 Hb (sub [1,1,0,1,0,0] u9) (HS.V AL) (HS.st AL) (HS.sh AL) Ki (bL AL Ki):=aT AL Ki (fun _ _=>rfl) (by intro q v K;kernel_rfl)
theorem Yd {R:Type}:bB (R:=R) (hnd 0 F_) E1 Hb (sub [1,1,0,1,0,0,1,0,0,1,1,0,0] u9) (HS.V BQ) (HS.st BQ) (HS.sh BQ) Ic (bL BQ Ic):=aT BQ Ic (fun _ _=>rfl) (by intro q v K;kernel_rfl)
theorem akU {R:Type}:bB (R:=R) (hnd 0 F_) E1 Hb (sub [1,1,0,1,0,0,1,0,0,1,1,0,0,1,0,0,1,0,1,0,0] u9) (HS.V AJ) (HS.st AJ) (HS.sh AJ) IP (bL AJ IP):=aT AJ IP (fun _ _=>rfl) (by intro q v K;kernel_rfl)
theorem alq {R:Type}:aD (R:=R) (hnd 0 F_) E1 Hb u9:=ao (l:=[sub [1,1,0,1,0,0] u9,sub [1,1,0,1,0,0,1,0,0,1,1,0,0] u9,sub [1,1,0,1,0,0,1,0,0,1,1,0,0,1,0,0,1,0,1,0,0] u9]) (by kernel_rfl) (aK (b:=sub [1,1,0,1,0,0] u9) (rid:=3) (by kernel_rfl) (by kernel_rfl) am_ (aK (b:=sub [1,1,0,1,0,0,1,0,0,1,1,0,0] u9) (rid:=7) (by kernel_rfl) (by kernel_rfl) Yd (aK (b:=sub [1,1,0,1,0,0,1,0,0,1,1,0,0,1,0,0,1,0,1,0,0] u9) (rid:=11) (by kernel_rfl) (by kernel_rfl) akU (trivial))))
theorem Yb:aF Tryz.prog 62 Uu:=bf Tryz.f62 aeb B9 (d:=0) abN alq (bp (by kernel_rfl)) (toY:=amX)
def RW:List HV:=[.agg hFs]
def QI:List HV:=[.one (.int .i64)]
def aaY:HP.V RW→Fs:=fun v=>((cFs v.1))
def ago:HX.V QI→Int:=fun v=>(v)
def ajn:Int→HX.V QI:=fun y=>(y)
def ag5:Fs→Option (Int):=fun x=>je x
def SU:Spec:=aH RW QI aaY ajn ag5
def aey:Cfg:={T:=zQ,spec:=[(58,V5),(59,WC),(60,VF),(61,W2),(62,Uu),(63,Ib)],aO:=aA.G Tryz.prog,eqs:=zp,N:=21,fuel:=64,fid:=25}
theorem adq:az Tryz.prog aey:=aP AE BN ⟨anW,⟨af_,⟨XS,⟨als,⟨Yb,⟨MS,trivial⟩⟩⟩⟩⟩⟩
theorem X3:aF Tryz.prog 25 SU:=aV Tryz.f25 adq B9 (toY:=ago)
end
end Go.Eng
set_option linter.unusedVariables false
set_option maxRecDepth 100000
namespace Go.Eng
noncomputable section
open Go Go.Proofs
def Mc:List (Nat×TI):=[(3,⟨false,1, .one (.int .i64 0), .int .i64⟩),(9,⟨false,1, .one (.str []), .str⟩),(24,⟨true,4, .agg [.int .i64 0, .int .i64 0, .int .i64 0, .clip .bH []], .struct [(0,3),(1,3),(2,3),(3,22)]⟩),(34,⟨false,1, .one (.clip .entry []), .slice .entry 94⟩),(36,⟨true,6, .agg [.int .i64 0, .int .i64 0, .int .i64 0, .str [], .int .i64 0, .clip .entry []], .struct [(0,3),(1,3),(2,3),(3,9),(4,3),(5,34)]⟩),(41,⟨true,3, .agg [.int .i64 0, .str [], .int .i64 0], .struct [(0,3),(1,9),(2,3)]⟩),(46,⟨false,1, .one (.clip .str []), .slice .str 9⟩)]
def Py:List (Nat×List EK):= []
theorem QY:Tryz.prog.follows .mixedOrders=true:=by kernel_rfl
theorem WR:(Mc.all fun x=>tiB Tryz.prog x.1 x.2)=true:=by kernel_rfl
theorem S3:(Py.all fun x=>eqB Tryz.prog x.1 x.2)=true:=by kernel_rfl
def HC:Code:=bd Tryz.f21
def Bb:HS:=⟨[(2, .one (.ptr 0 0)),(4, .one (.ptr 1 0)),(6, .one (.sl .str)),(8, .one (.ptr 2 0)),(9, .one (.int .i64))],[(0, .cells hFs),(1, .cells [.int .i64, .str, .int .i64]),(2, .cells [.int .i64, .str, .int .i64])],3⟩
def I6 {R:Type}:Nat→HS.V Bb→(Ex→St→Option R)→Option R:=fun q v K=>
 gR v.1.2.2.1 (cFs v.2.1) (fun y11=>K .ret {ar:=[(4, .v (.one (.ptr 1 0))),(5, .v (.one (.int .i64 y11)))],mem:=[(1, .cells [.int .i64 ((⟨0, [],0⟩:aj).dir), .str ((⟨0, [],0⟩:aj).name), .int .i64 ((⟨0, [],0⟩:aj).ino)])],nx:=2}) (fun y14=>K (.exit 0) {ar:=[(4, .v (.one (.ptr 1 0))),(8, .v (.one (.ptr 2 0)))],mem:=[(1, .cells [.int .i64 ((⟨v.2.2.1.1,v.2.2.1.2.1,v.2.2.1.2.2.1⟩:aj).dir), .str ((⟨v.2.2.1.1,v.2.2.1.2.1,v.2.2.1.2.2.1⟩:aj).name), .int .i64 ((⟨v.2.2.1.1,v.2.2.1.2.1,v.2.2.1.2.2.1⟩:aj).ino)]),(2, .cells [.int .i64 y14.dir, .str y14.name, .int .i64 y14.ino])],nx:=3}) q v.1.2.2.2.2.1 (⟨v.2.2.2.1.1,v.2.2.2.1.2.1,v.2.2.2.1.2.2.1⟩:aj)
def UQ:List HV:=[.agg hFs, .one (.str)]
def Pc:List HV:=[.agg [.int .i64, .str, .int .i64], .one (.int .i64)]
def anr:HP.V UQ→Fs×Str:=fun v=>((cFs v.1),v.2.1)
def anu:HX.V Pc→aj×Int:=fun v=>((⟨v.1.1,v.1.2.1,v.1.2.2.1⟩:aj),v.2)
def Xt:(aj×Int)→HX.V Pc:=fun y=>((y.1.dir,(y.1.name,(y.1.ino,()))),y.2)
def ac9:(Fs×Str)→Option (aj×Int):=fun x=>pF x.1 x.2
def Q_:Spec:=aH UQ Pc anr Xt ac9
def WX {R:Type}:List (Nat×Hd R):=[(6,bL Bb I6)]
def Ma {R:Type}:List (Nat×Inl R):= []
def ND:Cfg:={T:=Mc,spec:=[(18,m9),(24,SB),(47,Nt)],aO:=aA.G Tryz.prog,eqs:=Py,N:=63,fuel:=64,loops:=[(6,⟨[2,4,6,8,9], [],[0,1,2],3, [], [], [], []⟩)],blocks:=[(0,⟨[4,8], [],[1,2],3, [], [], [], []⟩)],gk:=some ⟨[4,5], [],[1],2, [], [], [], []⟩,fid:=21}
theorem ae0:az Tryz.prog ND:=aP WR S3 ⟨nE,⟨abp,⟨V9,trivial⟩⟩⟩
theorem ap7 {R:Type}:aI Tryz.prog (R:=R) 0 Ma:=au _ _
theorem ahK {R:Type}:bB (R:=R) (hnd 0 Ma) ND WX (sub [1,1,1,1,0,1,0,0] HC) (HS.V Bb) (HS.st Bb) (HS.sh Bb) I6 (bL Bb I6):=aT Bb I6 (fun _ _=>rfl) (by intro q v K;kernel_rfl)
theorem aen {R:Type}:aD (R:=R) (hnd 0 Ma) ND WX HC:=ao (l:=[sub [1,1,1,1,0,1,0,0] HC]) (by kernel_rfl) (aK (b:=sub [1,1,1,1,0,1,0,0] HC) (rid:=6) (by kernel_rfl) (by kernel_rfl) ahK (trivial))
theorem Y_:aF Tryz.prog 21 Q_:=bf Tryz.f21 ae0 QY (d:=0) ap7 aen (bp (by kernel_rfl)) (toY:=anu)
def Tk:List HV:=[.agg hFs, .one (.str)]
def NX:List HV:=[.agg hIn, .one (.int .i64)]
def afA:HP.V Tk→Fs×Str:=fun v=>((cFs v.1),v.2.1)
def Y6:HX.V NX→ah×Int:=fun v=>((cIn v.1),v.2)
def aeC:(ah×Int)→HX.V NX:=fun y=>((y.1.ino,(y.1.kind,(y.1.aL,(y.1.data,(y.1.parent,(y.1.entries,())))))),y.2)
def ad_:(Fs×Str)→Option (ah×Int):=fun x=>n7 x.1 x.2
def Wv:Spec:=aH Tk NX afA aeC ad_
def aeT:Cfg:={T:=Mc,spec:=[(18,m9),(21,Q_)],aO:=aA.G Tryz.prog,eqs:=Py,N:=32,fuel:=64,fid:=26}
theorem ajf:az Tryz.prog aeT:=aP WR S3 ⟨nE,⟨Y_,trivial⟩⟩
theorem ZE:aF Tryz.prog 26 Wv:=aV Tryz.f26 ajf QY (toY:=Y6)
end
end Go.Eng
set_option linter.unusedVariables false
set_option maxRecDepth 100000
namespace Go.Eng
noncomputable section
open Go Go.Proofs
def KA:List (Nat×TI):=[(3,⟨false,1, .one (.int .i64 0), .int .i64⟩),(4,⟨false,1, .one (.bool false), .bool⟩),(9,⟨false,1, .one (.str []), .str⟩),(22,⟨false,1, .one (.clip .bH []), .slice .bH 36⟩),(24,⟨true,4, .agg [.int .i64 0, .int .i64 0, .int .i64 0, .clip .bH []], .struct [(0,3),(1,3),(2,3),(3,22)]⟩),(34,⟨false,1, .one (.clip .entry []), .slice .entry 94⟩),(36,⟨true,6, .agg [.int .i64 0, .int .i64 0, .int .i64 0, .str [], .int .i64 0, .clip .entry []], .struct [(0,3),(1,3),(2,3),(3,9),(4,3),(5,34)]⟩),(41,⟨true,3, .agg [.int .i64 0, .str [], .int .i64 0], .struct [(0,3),(1,9),(2,3)]⟩),(46,⟨false,1, .one (.clip .str []), .slice .str 9⟩),(79,⟨true,3, .agg [.bool false, .clip .str [], .bool false], .struct [(0,4),(1,46),(2,4)]⟩)]
def Kd:List (Nat×List EK):= []
theorem Oj:Tryz.prog.follows .mixedOrders=true:=by kernel_rfl
theorem NP:(KA.all fun x=>tiB Tryz.prog x.1 x.2)=true:=by kernel_rfl
theorem OH:(Kd.all fun x=>eqB Tryz.prog x.1 x.2)=true:=by kernel_rfl
def KY:Code:=bd Tryz.f75
def UU:List HV:=[.agg hFs, .one (.str)]
def Mh:List HV:=[.one (.int .i64), .one (.int .i64)]
def afn:HP.V UU→Fs×Str:=fun v=>((cFs v.1),v.2.1)
def apq:HX.V Mh→Int×Int:=fun v=>(v.1,v.2)
def ap_:(Int×Int)→HX.V Mh:=fun y=>(y.1,y.2)
def abw:(Fs×Str)→Option (Int×Int):=fun x=>mq x.1 x.2
def UR:Spec:=aH UU Mh afn ap_ abw
def ahi:Cfg:={T:=KA,spec:=[(26,Wv)],aO:=aA.G Tryz.prog,eqs:=Kd,N:=22,fuel:=64,fid:=74}
theorem amZ:az Tryz.prog ahi:=aP NP OH ⟨ZE,trivial⟩
theorem aeg:aF Tryz.prog 74 UR:=aV Tryz.f74 amZ Oj (toY:=apq)
def JN:List HV:=[.agg hFs, .agg [.int .i64, .str, .int .i64], .one (.sl .str), .one (.bool), .one (.bool), .one (.int .i64)]
def EV:List HV:=[.agg [.int .i64, .str, .int .i64], .one (.int .i64)]
def Mt:HP.V JN→Fs×aj×(List Str)×Bool×Bool×Int:=fun v=>((cFs v.1),(⟨v.2.1.1,v.2.1.2.1,v.2.1.2.2.1⟩:aj),v.2.2.1,v.2.2.2.1,v.2.2.2.2.1,v.2.2.2.2.2.1)
def Y1:HX.V EV→aj×Int:=fun v=>((⟨v.1.1,v.1.2.1,v.1.2.2.1⟩:aj),v.2)
def Tp:(aj×Int)→HX.V EV:=fun y=>((y.1.dir,(y.1.name,(y.1.ino,()))),y.2)
def Wp (nn:Nat):(Fs×aj×(List Str)×Bool×Bool×Int)→Option (aj×Int):=fun x=>bl nn x.1 x.2.1 x.2.2.1 x.2.2.2.1 x.2.2.2.2.1 x.2.2.2.2.2
def MH (nn:Nat):Spec:=aH JN EV Mt Tp (Wp nn)
def agv:(Fs×aj×(List Str)×Bool×Bool×Int)→Option (aj×Int):=fun x=>nL x.1 x.2.1 x.2.2.1 x.2.2.2.1 x.2.2.2.2.1 x.2.2.2.2.2
def T1:Spec:=aH JN EV Mt Tp agv
def Um {R:Type} (nn:Nat):List (Nat×Hd R):= []
def LH {R:Type} (nn:Nat):List (Nat×Inl R):= []
def JB (nn:Nat):Cfg:={T:=KA,spec:=[(18,m9),(43,Et),(47,Nt),(73,OO),(75,MH nn)],aO:=aA.G Tryz.prog,eqs:=Kd,N:=176,fuel:=64,fid:=75}
theorem acX (nn:Nat) (hrec:aF Tryz.prog 75 (MH nn)):az Tryz.prog (JB nn):=aP NP OH ⟨nE,⟨E6,⟨V9,⟨U8,⟨hrec,trivial⟩⟩⟩⟩⟩
theorem Xw {R:Type} (nn:Nat):aI Tryz.prog (R:=R) 0 (LH nn):=au _ _
theorem ahR {R:Type} (nn:Nat):aD (R:=R) (hnd 0 (LH nn)) (JB nn) (Um nn) KY:=ao (l:= []) (by kernel_rfl) (trivial)
theorem agj (nn:Nat):dB Tryz.prog (JB nn) KY:=bp (by kernel_rfl)
theorem XG (nn:Nat):∀v,v8 (hnd 0 (LH nn)) (JB nn) (Um nn) KY Tryz.f75.results.toList (HP.st JN v) (wq EV Y1)=Wp (nn+1) (Mt v):=by intro v;kernel_rfl
theorem SC:∀nn,aF Tryz.prog 75 (MH nn)
 |0=>⟨enters_of (fn:=Tryz.f75) (body:=KY) (by kernel_rfl) (by kernel_rfl) (by kernel_rfl),fun S w args vs x y _ _ _ _ h=>by cases h⟩
 |nn+1=>qw (fn:=Tryz.f75) (by kernel_rfl) (by kernel_rfl) (by kernel_rfl) (acX nn (SC nn)) (by kernel_rfl) (by kernel_rfl) Oj (by kernel_rfl) (fun _=>rfl) (d:=0) (Xw nn) (ahR nn) (agj nn) (XG nn)
theorem ZV:aF Tryz.prog 75 T1:=SC bo
def Vy:List HV:=[.agg hFs, .one (.str), .one (.str), .one (.bool)]
def NU:List HV:=[.agg [.int .i64, .str, .int .i64], .one (.int .i64)]
def X_:HP.V Vy→Fs×Str×Str×Bool:=fun v=>((cFs v.1),v.2.1,v.2.2.1,v.2.2.2.1)
def acR:HX.V NU→aj×Int:=fun v=>((⟨v.1.1,v.1.2.1,v.1.2.2.1⟩:aj),v.2)
def aev:(aj×Int)→HX.V NU:=fun y=>((y.1.dir,(y.1.name,(y.1.ino,()))),y.2)
def aop:(Fs×Str×Str×Bool)→Option (aj×Int):=fun x=>dY x.1 x.2.1 x.2.2.1 x.2.2.2
def BT:Spec:=aH Vy NU X_ aev aop
def ap0:Cfg:={T:=KA,spec:=[(43,Et),(73,OO),(74,UR),(75,T1)],aO:=aA.G Tryz.prog,eqs:=Kd,N:=47,fuel:=64,fid:=42}
theorem ab5:az Tryz.prog ap0:=aP NP OH ⟨E6,⟨U8,⟨aeg,⟨ZV,trivial⟩⟩⟩⟩
theorem EF:aF Tryz.prog 42 BT:=aV Tryz.f42 ab5 Oj (toY:=acR)
end
end Go.Eng
set_option linter.unusedVariables false
set_option maxRecDepth 100000
namespace Go.Eng
noncomputable section
open Go Go.Proofs
def EA:List (Nat×TI):=[(3,⟨false,1, .one (.int .i64 0), .int .i64⟩),(4,⟨false,1, .one (.bool false), .bool⟩),(9,⟨false,1, .one (.str []), .str⟩),(24,⟨true,4, .agg [.int .i64 0, .int .i64 0, .int .i64 0, .clip .bH []], .struct [(0,3),(1,3),(2,3),(3,22)]⟩),(34,⟨false,1, .one (.clip .entry []), .slice .entry 94⟩),(36,⟨true,6, .agg [.int .i64 0, .int .i64 0, .int .i64 0, .str [], .int .i64 0, .clip .entry []], .struct [(0,3),(1,3),(2,3),(3,9),(4,3),(5,34)]⟩),(41,⟨true,3, .agg [.int .i64 0, .str [], .int .i64 0], .struct [(0,3),(1,9),(2,3)]⟩),(79,⟨true,3, .agg [.bool false, .clip .str [], .bool false], .struct [(0,4),(1,46),(2,4)]⟩)]
def EI:List (Nat×List EK):= []
theorem Fc:Tryz.prog.follows .mixedOrders=true:=by kernel_rfl
theorem Gx:(EA.all fun x=>tiB Tryz.prog x.1 x.2)=true:=by kernel_rfl
theorem E_:(EI.all fun x=>eqB Tryz.prog x.1 x.2)=true:=by kernel_rfl
def Io:Code:=bd Tryz.f91
def Q5:List HV:=[.agg hFs, .agg [.int .i64, .str, .int .i64], .one (.int .i64), .one (.str)]
def Mi:List HV:=[.agg hFs, .one (.int .i64)]
def amp:HP.V Q5→Fs×aj×Int×Str:=fun v=>((cFs v.1),(⟨v.2.1.1,v.2.1.2.1,v.2.1.2.2.1⟩:aj),v.2.2.1,v.2.2.2.1)
def afj:HX.V Mi→Fs×Int:=fun v=>((cFs v.1),v.2)
def ann:(Fs×Int)→HX.V Mi:=fun y=>((y.1.ak,(y.1.aw,(y.1.next,(y.1.aa,())))),y.2)
def ZB:(Fs×aj×Int×Str)→Option (Fs×Int):=fun x=>jW x.1 x.2.1 x.2.2.1 x.2.2.2
def Rc:Spec:=aH Q5 Mi amp ann ZB
def air:Cfg:={T:=EA,spec:=[(18,m9),(44,Em),(54,DI),(55,KT),(63,Ib)],aO:=aA.G Tryz.prog,eqs:=EI,N:=63,fuel:=64,fid:=159}
theorem Xy:az Tryz.prog air:=aP Gx E_ ⟨nE,⟨F3,⟨E8,⟨OD,⟨MS,trivial⟩⟩⟩⟩⟩
theorem aax:aF Tryz.prog 159 Rc:=aV Tryz.f159 Xy Fc (toY:=afj)
def T7:List HV:=[.agg hFs, .one (.str), .one (.str), .one (.int .i64), .one (.str), .one (.int .i64)]
def P5:List HV:=[.agg hFs, .one (.int .i64)]
def aaR:HP.V T7→Fs×Str×Str×Int×Str×Int:=fun v=>((cFs v.1),v.2.1,v.2.2.1,v.2.2.2.1,v.2.2.2.2.1,v.2.2.2.2.2.1)
def ahc:HX.V P5→Fs×Int:=fun v=>((cFs v.1),v.2)
def agA:(Fs×Int)→HX.V P5:=fun y=>((y.1.ak,(y.1.aw,(y.1.next,(y.1.aa,())))),y.2)
def akH:(Fs×Str×Str×Int×Str×Int)→Option (Fs×Int):=fun x=>iB x.1 x.2.1 x.2.2.1 x.2.2.2.1 x.2.2.2.2.1 x.2.2.2.2.2
def IQ:Spec:=aH T7 P5 aaR agA akH
def aki:Cfg:={T:=EA,spec:=[(42,BT),(43,Et),(159,Rc)],aO:=aA.G Tryz.prog,eqs:=EI,N:=47,fuel:=64,fid:=132}
theorem Yo:az Tryz.prog aki:=aP Gx E_ ⟨EF,⟨E6,⟨aax,trivial⟩⟩⟩
theorem Ls:aF Tryz.prog 132 IQ:=aV Tryz.f132 Yo Fc (toY:=ahc)
def Rj:List HV:=[.agg hFs, .one (.str), .one (.str)]
def Pp:List HV:=[.agg hFs, .one (.int .i64)]
def ado:HP.V Rj→Fs×Str×Str:=fun v=>((cFs v.1),v.2.1,v.2.2.1)
def akP:HX.V Pp→Fs×Int:=fun v=>((cFs v.1),v.2)
def ab9:(Fs×Int)→HX.V Pp:=fun y=>((y.1.ak,(y.1.aw,(y.1.next,(y.1.aa,())))),y.2)
def aoV:(Fs×Str×Str)→Option (Fs×Int):=fun x=>kE x.1 x.2.1 x.2.2
def Rf:Spec:=aH Rj Pp ado ab9 aoV
def XB:Cfg:={T:=EA,spec:=[(132,IQ)],aO:=aA.G Tryz.prog,eqs:=EI,N:=14,fuel:=64,fid:=88}
theorem apB:az Tryz.prog XB:=aP Gx E_ ⟨Ls,trivial⟩
theorem YD:aF Tryz.prog 88 Rf:=aV Tryz.f88 apB Fc (toY:=akP)
def WL:List HV:=[.agg hFs, .one (.str), .one (.str), .one (.str)]
def PM:List HV:=[.agg hFs, .one (.int .i64)]
def ai_:HP.V WL→Fs×Str×Str×Str:=fun v=>((cFs v.1),v.2.1,v.2.2.1,v.2.2.2.1)
def aiR:HX.V PM→Fs×Int:=fun v=>((cFs v.1),v.2)
def am3:(Fs×Int)→HX.V PM:=fun y=>((y.1.ak,(y.1.aw,(y.1.next,(y.1.aa,())))),y.2)
def ao5:(Fs×Str×Str×Str)→Option (Fs×Int):=fun x=>jI x.1 x.2.1 x.2.2.1 x.2.2.2
def TQ:Spec:=aH WL PM ai_ am3 ao5
def apL:Cfg:={T:=EA,spec:=[(132,IQ)],aO:=aA.G Tryz.prog,eqs:=EI,N:=17,fuel:=64,fid:=89}
theorem acC:az Tryz.prog apL:=aP Gx E_ ⟨Ls,trivial⟩
theorem akE:aF Tryz.prog 89 TQ:=aV Tryz.f89 acC Fc (toY:=aiR)
def Cj:HS:=⟨[(1, .one (.str)),(2, .one (.str)),(3, .one (.str)),(4, .one (.ptr 0 0)),(8, .one (.ptr 1 0)),(10, .one (.int .i64))],[(0, .cells hFs),(1, .cells hFs)],2⟩
def JE {R:Type}:Nat→HS.V Cj→(Ex→St→Option R)→Option R:=fun q v K=>
 dj v.1.2.1 (K .ret {ar:=[(8, .v (.one (.ptr 1 0))),(9, .v (.one (.int .i64 (9:Int))))],mem:=[(1, .cells (rFs (cFs v.2.1)))],nx:=2}) (K (.exit 0) {ar:=[(1, .v (.one (.str v.1.1))),(2, .v (.one (.str v.1.2.1))),(3, .v (.one (.str v.1.2.2.1))),(4, .v (.one (.ptr 0 0))),(8, .v (.one (.ptr 1 0)))],mem:=[(0, .cells (rFs (cFs v.2.1))),(1, .cells (rFs (cFs v.2.2.1)))],nx:=2}) q v.1.2.2.2.2.2.1
def RA:List HV:=[.agg hFs, .one (.str), .one (.str), .one (.str)]
def QP:List HV:=[.agg hFs, .one (.int .i64)]
def adF:HP.V RA→Fs×Str×Str×Str:=fun v=>((cFs v.1),v.2.1,v.2.2.1,v.2.2.2.1)
def agr:HX.V QP→Fs×Int:=fun v=>((cFs v.1),v.2)
def agO:(Fs×Int)→HX.V QP:=fun y=>((y.1.ak,(y.1.aw,(y.1.next,(y.1.aa,())))),y.2)
def afH:(Fs×Str×Str×Str)→Option (Fs×Int):=fun x=>iT x.1 x.2.1 x.2.2.1 x.2.2.2
def Se:Spec:=aH RA QP adF agO afH
def Ti {R:Type}:List (Nat×Hd R):=[(6,bL Cj JE)]
def MJ {R:Type}:List (Nat×Inl R):= []
def MM:Cfg:={T:=EA,spec:=[(132,IQ)],aO:=aA.G Tryz.prog,eqs:=EI,N:=36,fuel:=64,loops:=[(6,⟨[1,2,3,4,8,10], [],[0,1],2, [],[1], [], []⟩)],blocks:=[(0,⟨[1,2,3,4,8], [],[0,1],2, [], [], [], []⟩)],gk:=some ⟨[8,9], [],[1],2, [], [], [], []⟩,fid:=91}
theorem aa5:az Tryz.prog MM:=aP Gx E_ ⟨Ls,trivial⟩
theorem adG {R:Type}:aI Tryz.prog (R:=R) 0 MJ:=au _ _
theorem ahf {R:Type}:bB (R:=R) (hnd 0 MJ) MM Ti (sub [1,1,1,0,1,0,0] Io) (HS.V Cj) (HS.st Cj) (HS.sh Cj) JE (bL Cj JE):=aT Cj JE (fun _ _=>rfl) (by intro q v K;kernel_rfl)
theorem anO {R:Type}:aD (R:=R) (hnd 0 MJ) MM Ti Io:=ao (l:=[sub [1,1,1,0,1,0,0] Io]) (by kernel_rfl) (aK (b:=sub [1,1,1,0,1,0,0] Io) (rid:=6) (by kernel_rfl) (by kernel_rfl) ahf (trivial))
theorem ahA:aF Tryz.prog 91 Se:=bf Tryz.f91 aa5 Fc (d:=0) adG anO (bp (by kernel_rfl)) (toY:=agr)
end
end Go.Eng
set_option linter.unusedVariables false
set_option maxRecDepth 100000
namespace Go.Eng
noncomputable section
open Go Go.Proofs
def Ed:List (Nat×TI):=[(3,⟨false,1, .one (.int .i64 0), .int .i64⟩),(4,⟨false,1, .one (.bool false), .bool⟩),(9,⟨false,1, .one (.str []), .str⟩),(24,⟨true,4, .agg [.int .i64 0, .int .i64 0, .int .i64 0, .clip .bH []], .struct [(0,3),(1,3),(2,3),(3,22)]⟩),(34,⟨false,1, .one (.clip .entry []), .slice .entry 94⟩),(36,⟨true,6, .agg [.int .i64 0, .int .i64 0, .int .i64 0, .str [], .int .i64 0, .clip .entry []], .struct [(0,3),(1,3),(2,3),(3,9),(4,3),(5,34)]⟩),(41,⟨true,3, .agg [.int .i64 0, .str [], .int .i64 0], .struct [(0,3),(1,9),(2,3)]⟩),(79,⟨true,3, .agg [.bool false, .clip .str [], .bool false], .struct [(0,4),(1,46),(2,4)]⟩)]
def Dq:List (Nat×List EK):= []
theorem F6:Tryz.prog.follows .mixedOrders=true:=by kernel_rfl
theorem GL:(Ed.all fun x=>tiB Tryz.prog x.1 x.2)=true:=by kernel_rfl
theorem Fb:(Dq.all fun x=>eqB Tryz.prog x.1 x.2)=true:=by kernel_rfl
def SR:List HV:=[.agg hFs, .agg [.int .i64, .str, .int .i64]]
def N3:List HV:=[.agg hFs]
def YH:HP.V SR→Fs×aj:=fun v=>((cFs v.1),(⟨v.2.1.1,v.2.1.2.1,v.2.1.2.2.1⟩:aj))
def aaG:HX.V N3→Fs:=fun v=>((cFs v))
def YK:Fs→HX.V N3:=fun y=>((y.ak,(y.aw,(y.next,(y.aa,())))))
def aqb:(Fs×aj)→Option (Fs):=fun x=>fU x.1 x.2
def K2:Spec:=aH SR N3 YH YK aqb
def apl:Cfg:={T:=Ed,spec:=[(18,m9),(53,HJ),(54,DI),(83,Qb)],aO:=aA.G Tryz.prog,eqs:=Dq,N:=46,fuel:=64,fid:=52}
theorem alU:az Tryz.prog apl:=aP GL Fb ⟨nE,⟨Pr,⟨E8,⟨Sb,trivial⟩⟩⟩⟩
theorem P_:aF Tryz.prog 52 K2:=aV Tryz.f52 alU F6 (toY:=aaG)
def VU:List HV:=[.agg hFs, .agg [.int .i64, .str, .int .i64], .one (.int .i64)]
def Pj:List HV:=[.agg hFs]
def alA:HP.V VU→Fs×aj×Int:=fun v=>((cFs v.1),(⟨v.2.1.1,v.2.1.2.1,v.2.1.2.2.1⟩:aj),v.2.2.1)
def afP:HX.V Pj→Fs:=fun v=>((cFs v))
def ac2:Fs→HX.V Pj:=fun y=>((y.ak,(y.aw,(y.next,(y.aa,())))))
def XI:(Fs×aj×Int)→Option (Fs):=fun x=>mL x.1 x.2.1 x.2.2
def Tj:Spec:=aH VU Pj alA ac2 XI
def ahG:Cfg:={T:=Ed,spec:=[(18,m9),(54,DI),(55,KT)],aO:=aA.G Tryz.prog,eqs:=Dq,N:=40,fuel:=64,fid:=136}
theorem aoo:az Tryz.prog ahG:=aP GL Fb ⟨nE,⟨E8,⟨OD,trivial⟩⟩⟩
theorem ac1:aF Tryz.prog 136 Tj:=aV Tryz.f136 aoo F6 (toY:=afP)
def VO:List HV:=[.agg hFs, .one (.str), .one (.str), .one (.str)]
def Mo:List HV:=[.agg hFs, .one (.int .i64)]
def aqu:HP.V VO→Fs×Str×Str×Str:=fun v=>((cFs v.1),v.2.1,v.2.2.1,v.2.2.2.1)
def aiC:HX.V Mo→Fs×Int:=fun v=>((cFs v.1),v.2)
def akg:(Fs×Int)→HX.V Mo:=fun y=>((y.1.ak,(y.1.aw,(y.1.next,(y.1.aa,())))),y.2)
def ap1:(Fs×Str×Str×Str)→Option (Fs×Int):=fun x=>mU x.1 x.2.1 x.2.2.1 x.2.2.2
def U1:Spec:=aH VO Mo aqu akg ap1
def aap:Cfg:={T:=Ed,spec:=[(18,m9),(42,BT),(43,Et),(44,Em),(136,Tj)],aO:=aA.G Tryz.prog,eqs:=Dq,N:=71,fuel:=64,fid:=92}
theorem Zm:az Tryz.prog aap:=aP GL Fb ⟨nE,⟨EF,⟨E6,⟨F3,⟨ac1,trivial⟩⟩⟩⟩⟩
theorem aoy:aF Tryz.prog 92 U1:=aV Tryz.f92 Zm F6 (toY:=aiC)
def SF:List HV:=[.agg hFs, .one (.str), .one (.str)]
def MY:List HV:=[.agg hFs, .one (.int .i64)]
def afC:HP.V SF→Fs×Str×Str:=fun v=>((cFs v.1),v.2.1,v.2.2.1)
def abQ:HX.V MY→Fs×Int:=fun v=>((cFs v.1),v.2)
def akk:(Fs×Int)→HX.V MY:=fun y=>((y.1.ak,(y.1.aw,(y.1.next,(y.1.aa,())))),y.2)
def amg:(Fs×Str×Str)→Option (Fs×Int):=fun x=>jJ x.1 x.2.1 x.2.2
def R3:Spec:=aH SF MY afC akk amg
def afu:Cfg:={T:=Ed,spec:=[(18,m9),(42,BT),(52,K2)],aO:=aA.G Tryz.prog,eqs:=Dq,N:=41,fuel:=64,fid:=93}
theorem ajo:az Tryz.prog afu:=aP GL Fb ⟨nE,⟨EF,⟨P_,trivial⟩⟩⟩
theorem agK:aF Tryz.prog 93 R3:=aV Tryz.f93 ajo F6 (toY:=abQ)
def SG:List HV:=[.agg hFs, .one (.str), .one (.str)]
def Mr:List HV:=[.agg hFs, .one (.int .i64)]
def aoC:HP.V SG→Fs×Str×Str:=fun v=>((cFs v.1),v.2.1,v.2.2.1)
def afo:HX.V Mr→Fs×Int:=fun v=>((cFs v.1),v.2)
def ahe:(Fs×Int)→HX.V Mr:=fun y=>((y.1.ak,(y.1.aw,(y.1.next,(y.1.aa,())))),y.2)
def XV:(Fs×Str×Str)→Option (Fs×Int):=fun x=>kY x.1 x.2.1 x.2.2
def QX:Spec:=aH SG Mr aoC ahe XV
def aow:Cfg:={T:=Ed,spec:=[(18,m9),(42,BT),(52,K2)],aO:=aA.G Tryz.prog,eqs:=Dq,N:=54,fuel:=64,fid:=94}
theorem ZI:az Tryz.prog aow:=aP GL Fb ⟨nE,⟨EF,⟨P_,trivial⟩⟩⟩
theorem ac_:aF Tryz.prog 94 QX:=aV Tryz.f94 ZI F6 (toY:=afo)
end
end Go.Eng
set_option linter.unusedVariables false
set_option maxRecDepth 100000
namespace Go.Eng
noncomputable section
open Go Go.Proofs
def Gr:List (Nat×TI):=[(3,⟨false,1, .one (.int .i64 0), .int .i64⟩),(4,⟨false,1, .one (.bool false), .bool⟩),(9,⟨false,1, .one (.str []), .str⟩),(24,⟨true,4, .agg [.int .i64 0, .int .i64 0, .int .i64 0, .clip .bH []], .struct [(0,3),(1,3),(2,3),(3,22)]⟩),(36,⟨true,6, .agg [.int .i64 0, .int .i64 0, .int .i64 0, .str [], .int .i64 0, .clip .entry []], .struct [(0,3),(1,3),(2,3),(3,9),(4,3),(5,34)]⟩),(41,⟨true,3, .agg [.int .i64 0, .str [], .int .i64 0], .struct [(0,3),(1,9),(2,3)]⟩)]
def Fp:List (Nat×List EK):= []
theorem KS:Tryz.prog.follows .mixedOrders=true:=by kernel_rfl
theorem Jy:(Gr.all fun x=>tiB Tryz.prog x.1 x.2)=true:=by kernel_rfl
theorem Ji:(Fp.all fun x=>eqB Tryz.prog x.1 x.2)=true:=by kernel_rfl
def VD:List HV:=[.agg hFs, .one (.str), .one (.str), .one (.bool)]
def Qn:List HV:=[.agg hIn, .one (.int .i64)]
def aay:HP.V VD→Fs×Str×Str×Bool:=fun v=>((cFs v.1),v.2.1,v.2.2.1,v.2.2.2.1)
def anA:HX.V Qn→ah×Int:=fun v=>((cIn v.1),v.2)
def apM:(ah×Int)→HX.V Qn:=fun y=>((y.1.ino,(y.1.kind,(y.1.aL,(y.1.data,(y.1.parent,(y.1.entries,())))))),y.2)
def abZ:(Fs×Str×Str×Bool)→Option (ah×Int):=fun x=>ko x.1 x.2.1 x.2.2.1 x.2.2.2
def LD:Spec:=aH VD Qn aay apM abZ
def Yh:Cfg:={T:=Gr,spec:=[(18,m9),(42,BT)],aO:=aA.G Tryz.prog,eqs:=Fp,N:=37,fuel:=64,fid:=134}
theorem akX:az Tryz.prog Yh:=aP Jy Ji ⟨nE,⟨EF,trivial⟩⟩
theorem S2:aF Tryz.prog 134 LD:=aV Tryz.f134 akX KS (toY:=anA)
def Xa:List HV:=[.agg hFs, .one (.str), .one (.str)]
def MI:List HV:=[.one (.str), .one (.int .i64)]
def afI:HP.V Xa→Fs×Str×Str:=fun v=>((cFs v.1),v.2.1,v.2.2.1)
def aa_:HX.V MI→Str×Int:=fun v=>(v.1,v.2)
def aqD:(Str×Int)→HX.V MI:=fun y=>(y.1,y.2)
def aaj:(Fs×Str×Str)→Option (Str×Int):=fun x=>mX x.1 x.2.1 x.2.2
def U0:Spec:=aH Xa MI afI aqD aaj
def ap8:Cfg:={T:=Gr,spec:=[(134,LD)],aO:=aA.G Tryz.prog,eqs:=Fp,N:=25,fuel:=64,fid:=133}
theorem Zr:az Tryz.prog ap8:=aP Jy Ji ⟨S2,trivial⟩
theorem ajt:aF Tryz.prog 133 U0:=aV Tryz.f133 Zr KS (toY:=aa_)
def W3:List HV:=[.agg hFs, .one (.int .i64), .one (.str)]
def Qp:List HV:=[.agg hFs, .one (.int .i64)]
def Zo:HP.V W3→Fs×Int×Str:=fun v=>((cFs v.1),v.2.1,v.2.2.1)
def aeM:HX.V Qp→Fs×Int:=fun v=>((cFs v.1),v.2)
def am4:(Fs×Int)→HX.V Qp:=fun y=>((y.1.ak,(y.1.aw,(y.1.next,(y.1.aa,())))),y.2)
def ap6:(Fs×Int×Str)→Option (Fs×Int):=fun x=>n6 x.1 x.2.1 x.2.2
def Vz:Spec:=aH W3 Qp Zo am4 ap6
def YY:Cfg:={T:=Gr,spec:=[(18,m9),(54,DI),(63,Ib)],aO:=aA.G Tryz.prog,eqs:=Fp,N:=31,fuel:=64,fid:=135}
theorem al_:az Tryz.prog YY:=aP Jy Ji ⟨nE,⟨E8,⟨MS,trivial⟩⟩⟩
theorem anF:aF Tryz.prog 135 Vz:=aV Tryz.f135 al_ KS (toY:=aeM)
def Sq:List HV:=[.agg hFs, .one (.str), .one (.str), .one (.str)]
def M3:List HV:=[.agg hFs, .one (.int .i64)]
def ael:HP.V Sq→Fs×Str×Str×Str:=fun v=>((cFs v.1),v.2.1,v.2.2.1,v.2.2.2.1)
def Yc:HX.V M3→Fs×Int:=fun v=>((cFs v.1),v.2)
def Xu:(Fs×Int)→HX.V M3:=fun y=>((y.1.ak,(y.1.aw,(y.1.next,(y.1.aa,())))),y.2)
def agM:(Fs×Str×Str×Str)→Option (Fs×Int):=fun x=>kH x.1 x.2.1 x.2.2.1 x.2.2.2
def WB:Spec:=aH Sq M3 ael Xu agM
def acY:Cfg:={T:=Gr,spec:=[(133,U0),(134,LD),(135,Vz)],aO:=aA.G Tryz.prog,eqs:=Fp,N:=39,fuel:=64,fid:=90}
theorem aer:az Tryz.prog acY:=aP Jy Ji ⟨ajt,⟨S2,⟨anF,trivial⟩⟩⟩
theorem ZJ:aF Tryz.prog 90 WB:=aV Tryz.f90 aer KS (toY:=Yc)
end
end Go.Eng
set_option linter.unusedVariables false
set_option maxRecDepth 100000
namespace Go.Eng
noncomputable section
open Go Go.Proofs
def JQ:List (Nat×TI):=[(3,⟨false,1, .one (.int .i64 0), .int .i64⟩),(4,⟨false,1, .one (.bool false), .bool⟩),(9,⟨false,1, .one (.str []), .str⟩),(22,⟨false,1, .one (.clip .bH []), .slice .bH 36⟩),(24,⟨true,4, .agg [.int .i64 0, .int .i64 0, .int .i64 0, .clip .bH []], .struct [(0,3),(1,3),(2,3),(3,22)]⟩),(34,⟨false,1, .one (.clip .entry []), .slice .entry 94⟩),(36,⟨true,6, .agg [.int .i64 0, .int .i64 0, .int .i64 0, .str [], .int .i64 0, .clip .entry []], .struct [(0,3),(1,3),(2,3),(3,9),(4,3),(5,34)]⟩),(41,⟨true,3, .agg [.int .i64 0, .str [], .int .i64 0], .struct [(0,3),(1,9),(2,3)]⟩),(79,⟨true,3, .agg [.bool false, .clip .str [], .bool false], .struct [(0,4),(1,46),(2,4)]⟩)]
def Hz:List (Nat×List EK):= []
theorem QA:Tryz.prog.follows .mixedOrders=true:=by kernel_rfl
theorem O8:(JQ.all fun x=>tiB Tryz.prog x.1 x.2)=true:=by kernel_rfl
theorem Pu:(Hz.all fun x=>eqB Tryz.prog x.1 x.2)=true:=by kernel_rfl
def Hc:Code:=bd Tryz.f20
def Co:HS:=⟨[(1, .one (.int .i64)),(2, .one (.int .i64)),(3, .one (.ptr 0 0)),(7, .one (.int .i64))],[(0, .cells hFs)],1⟩
def HH {R:Type}:Nat→HS.V Co→(Ex→St→Option R)→Option R:=fun q v K=>
 eg v.1.2.1 (cFs v.2.1) (K .ret {ar:=[(6, .v (.one (.bool true)))],mem:= [],nx:=0}) (K (.exit 0) {ar:= [],mem:= [],nx:=0}) q v.1.1 v.1.2.2.2.1
def Q7:List HV:=[.agg hFs, .one (.int .i64), .one (.int .i64)]
def LY:List HV:=[.one (.bool)]
def aqn:HP.V Q7→Fs×Int×Int:=fun v=>((cFs v.1),v.2.1,v.2.2.1)
def alu:HX.V LY→Bool:=fun v=>(v)
def aog:Bool→HX.V LY:=fun y=>(y)
def anf:(Fs×Int×Int)→Option (Bool):=fun x=>jB x.1 x.2.1 x.2.2
def Tn:Spec:=aH Q7 LY aqn aog anf
def T8 {R:Type}:List (Nat×Hd R):=[(2,bL Co HH)]
def Qh {R:Type}:List (Nat×Inl R):= []
def Ox:Cfg:={T:=JQ,spec:=[(18,m9)],aO:=aA.G Tryz.prog,eqs:=Hz,N:=28,fuel:=64,loops:=[(2,⟨[1,2,3,7], [],[0],1, [], [], [], []⟩)],blocks:=[(0,⟨[], [], [],0, [], [], [], []⟩)],gk:=some ⟨[6], [], [],0, [], [], [], []⟩,fid:=20}
theorem afm:az Tryz.prog Ox:=aP O8 Pu ⟨nE,trivial⟩
theorem anG {R:Type}:aI Tryz.prog (R:=R) 0 Qh:=au _ _
theorem akJ {R:Type}:bB (R:=R) (hnd 0 Qh) Ox T8 (sub [1,0,1,0,0] Hc) (HS.V Co) (HS.st Co) (HS.sh Co) HH (bL Co HH):=aT Co HH (fun _ _=>rfl) (by intro q v K;kernel_rfl)
theorem am8 {R:Type}:aD (R:=R) (hnd 0 Qh) Ox T8 Hc:=ao (l:=[sub [1,0,1,0,0] Hc]) (by kernel_rfl) (aK (b:=sub [1,0,1,0,0] Hc) (rid:=2) (by kernel_rfl) (by kernel_rfl) akJ (trivial))
theorem ahT:aF Tryz.prog 20 Tn:=bf Tryz.f20 afm QA (d:=0) anG am8 (bp (by kernel_rfl)) (toY:=alu)
def RX:List HV:=[.agg hFs, .agg [.int .i64, .str, .int .i64], .agg [.int .i64, .str, .int .i64]]
def NQ:List HV:=[.agg hFs]
def akl:HP.V RX→Fs×aj×aj:=fun v=>((cFs v.1),(⟨v.2.1.1,v.2.1.2.1,v.2.1.2.2.1⟩:aj),(⟨v.2.2.1.1,v.2.2.1.2.1,v.2.2.1.2.2.1⟩:aj))
def Zg:HX.V NQ→Fs:=fun v=>((cFs v))
def aiu:Fs→HX.V NQ:=fun y=>((y.ak,(y.aw,(y.next,(y.aa,())))))
def an8:(Fs×aj×aj)→Option (Fs):=fun x=>cI x.1 x.2.1 x.2.2
def W4:Spec:=aH RX NQ akl aiu an8
def ZM:Cfg:={T:=JQ,spec:=[(18,m9),(52,K2),(53,HJ),(54,DI),(55,KT)],aO:=aA.G Tryz.prog,eqs:=Hz,N:=70,fuel:=64,fid:=23}
theorem ajh:az Tryz.prog ZM:=aP O8 Pu ⟨nE,⟨P_,⟨Pr,⟨E8,⟨OD,trivial⟩⟩⟩⟩⟩
theorem ap9:aF Tryz.prog 23 W4:=aV Tryz.f23 ajh QA (toY:=Zg)
def SM:List HV:=[.agg hFs, .one (.str), .one (.str), .one (.str)]
def NS:List HV:=[.agg hFs, .one (.int .i64)]
def aez:HP.V SM→Fs×Str×Str×Str:=fun v=>((cFs v.1),v.2.1,v.2.2.1,v.2.2.2.1)
def adb:HX.V NS→Fs×Int:=fun v=>((cFs v.1),v.2)
def anz:(Fs×Int)→HX.V NS:=fun y=>((y.1.ak,(y.1.aw,(y.1.next,(y.1.aa,())))),y.2)
def amB:(Fs×Str×Str×Str)→Option (Fs×Int):=fun x=>jN x.1 x.2.1 x.2.2.1 x.2.2.2
def VP:Spec:=aH SM NS aez anz amB
def aoK:Cfg:={T:=JQ,spec:=[(18,m9),(20,Tn),(23,W4),(42,BT),(43,Et),(44,Em)],aO:=aA.G Tryz.prog,eqs:=Hz,N:=132,fuel:=64,fid:=15}
theorem ZF:az Tryz.prog aoK:=aP O8 Pu ⟨nE,⟨ahT,⟨ap9,⟨EF,⟨E6,⟨F3,trivial⟩⟩⟩⟩⟩⟩
theorem ahr:aF Tryz.prog 15 VP:=aV Tryz.f15 ZF QA (toY:=adb)
end
end Go.Eng
set_option linter.unusedVariables false
set_option maxRecDepth 100000
namespace Go.Eng
noncomputable section
open Go Go.Proofs
def KL:List (Nat×TI):=[(3,⟨false,1, .one (.int .i64 0), .int .i64⟩),(9,⟨false,1, .one (.str []), .str⟩),(24,⟨true,4, .agg [.int .i64 0, .int .i64 0, .int .i64 0, .clip .bH []], .struct [(0,3),(1,3),(2,3),(3,22)]⟩),(56,⟨false,1, .one (.clip .hC []), .slice .hC 70⟩),(62,⟨false,1, .one (.clip .int []), .slice .int 3⟩),(70,⟨true,4, .agg [.int .i64 0, .str [], .str [], .str []], .struct [(0,3),(1,9),(2,9),(3,9)]⟩)]
def HZ:List (Nat×List EK):= []
theorem M6:Tryz.prog.follows .mixedOrders=true:=by kernel_rfl
theorem MB:(KL.all fun x=>tiB Tryz.prog x.1 x.2)=true:=by kernel_rfl
theorem PT:(HZ.all fun x=>eqB Tryz.prog x.1 x.2)=true:=by kernel_rfl
def Kj:Code:=bd Tryz.f30
def HQ:Code:=bd Tryz.f33
def B4:HS:=⟨[(0, .one (.sl .hC)),(3, .one (.int .i64))], [],0⟩
def H2 {R:Type}:Nat→HS.V B4→(Ex→St→Option R)→Option R:=fun q v K=>
 fO v.1.1 (K .ret {ar:=[(2, .v (.one (.bool false)))],mem:= [],nx:=0}) (K (.exit 0) {ar:=[(0, .v (.one (.sl .hC v.1.1)))],mem:= [],nx:=0}) q v.1.2.1
def VE:List HV:=[.one (.sl .hC)]
def Lu:List HV:=[.one (.bool)]
def alC:HP.V VE→(List bZ):=fun v=>(v.1)
def ZC:HX.V Lu→Bool:=fun v=>(v)
def aoH:Bool→HX.V Lu:=fun y=>(y)
def apm:(List bZ)→Option (Bool):=fun x=>jP x
def HG:Spec:=aH VE Lu alC aoH apm
def To {R:Type}:List (Nat×Hd R):=[(2,bL B4 H2)]
def QJ {R:Type}:List (Nat×Inl R):= []
def Np:Cfg:={T:=KL,aO:=aA.G Tryz.prog,eqs:=HZ,N:=42,fuel:=64,loops:=[(2,⟨[0,3], [], [],0, [], [], [], []⟩)],blocks:=[(0,⟨[0], [], [],0, [], [], [], []⟩)],gk:=some ⟨[2], [], [],0, [], [], [], []⟩,fid:=30}
theorem ajv:az Tryz.prog Np:=aP MB PT trivial
theorem amQ {R:Type}:aI Tryz.prog (R:=R) 0 QJ:=au _ _
theorem agE {R:Type}:bB (R:=R) (hnd 0 QJ) Np To (sub [1,0,1,0,0] Kj) (HS.V B4) (HS.st B4) (HS.sh B4) H2 (bL B4 H2):=aT B4 H2 (fun _ _=>rfl) (by intro q v K;kernel_rfl)
theorem Xz {R:Type}:aD (R:=R) (hnd 0 QJ) Np To Kj:=ao (l:=[sub [1,0,1,0,0] Kj]) (by kernel_rfl) (aK (b:=sub [1,0,1,0,0] Kj) (rid:=2) (by kernel_rfl) (by kernel_rfl) agE (trivial))
theorem O9:aF Tryz.prog 30 HG:=bf Tryz.f30 ajv M6 (d:=0) amQ Xz (bp (by kernel_rfl)) (toY:=ZC)
def US:List HV:=[.agg hFs, .one (.str), .agg [.int .i64, .str, .str, .str]]
def Qv:List HV:=[.agg hFs, .one (.int .i64)]
def apE:HP.V US→Fs×Str×bZ:=fun v=>((cFs v.1),v.2.1,(⟨v.2.2.1.1,v.2.2.1.2.1,v.2.2.1.2.2.1,v.2.2.1.2.2.2.1⟩:bZ))
def aoE:HX.V Qv→Fs×Int:=fun v=>((cFs v.1),v.2)
def Y5:(Fs×Int)→HX.V Qv:=fun y=>((y.1.ak,(y.1.aw,(y.1.next,(y.1.aa,())))),y.2)
def alx:(Fs×Str×bZ)→Option (Fs×Int):=fun x=>pA x.1 x.2.1 x.2.2
def TS:Spec:=aH US Qv apE Y5 alx
def Za:Cfg:={T:=KL,spec:=[(15,VP),(88,Rf),(89,TQ),(90,WB),(91,Se),(92,U1),(93,R3),(94,QX)],aO:=aA.G Tryz.prog,eqs:=HZ,N:=93,fuel:=64,fid:=65}
theorem apK:az Tryz.prog Za:=aP MB PT ⟨ahr,⟨YD,⟨akE,⟨ZJ,⟨ahA,⟨aoy,⟨agK,⟨ac_,trivial⟩⟩⟩⟩⟩⟩⟩⟩
theorem alZ:aF Tryz.prog 65 TS:=aV Tryz.f65 apK M6 (toY:=aoE)
def Az:HS:=⟨[(1, .one (.str)),(2, .one (.sl .hC)),(3, .one (.ptr 0 0)),(6, .one (.ptr 1 0)),(8, .one (.own 2)),(9, .one (.int .i64))],[(0, .cells hFs),(1, .cells hFs),(2, .row .int)],3⟩
def Kx {R:Type}:Nat→HS.V Az→(Ex→St→Option R)→Option R:=fun q v K=>
 fX v.1.1 v.1.2.1 (fun y9 y11=>K (.exit 0) {ar:=[(3, .v (.one (.ptr 0 0))),(6, .v (.one (.ptr 1 0))),(8, .v (.one (.own 2)))],mem:=[(0, .cells [.int .i64 y9.ak, .int .i64 y9.aw, .int .i64 y9.next, .sl .bH y9.aa]),(1, .cells (rFs (cFs v.2.2.1))),(2, .row .int y11)],nx:=3}) q v.1.2.2.2.2.2.1 (cFs v.2.1) v.2.2.2.1
def Sa:List HV:=[.agg hFs, .one (.str), .one (.sl .hC)]
def LL:List HV:=[.agg hFs, .one (.sl .int)]
def akF:HP.V Sa→Fs×Str×(List bZ):=fun v=>((cFs v.1),v.2.1,v.2.2.1)
def aad:HX.V LL→Fs×(List Int):=fun v=>((cFs v.1),v.2)
def ahL:(Fs×(List Int))→HX.V LL:=fun y=>((y.1.ak,(y.1.aw,(y.1.next,(y.1.aa,())))),y.2)
def akz:(Fs×Str×(List bZ))→Option (Fs×(List Int)):=fun x=>q4 x.1 x.2.1 x.2.2
def VT:Spec:=aH Sa LL akF ahL akz
def W5 {R:Type}:List (Nat×Hd R):=[(3,bL Az Kx)]
def Px {R:Type}:List (Nat×Inl R):= []
def NW:Cfg:={T:=KL,spec:=[(65,TS)],aO:=aA.G Tryz.prog,eqs:=HZ,N:=35,fuel:=64,loops:=[(3,⟨[1,2,3,6,8,9],[(8,2, .int)],[0,1,2],3, [],[1], [], []⟩)],blocks:=[(0,⟨[3,6,8], [],[0,1,2],3, [], [], [], []⟩)],fid:=33}
theorem aqC:az Tryz.prog NW:=aP MB PT ⟨alZ,trivial⟩
theorem aj7 {R:Type}:aI Tryz.prog (R:=R) 0 Px:=au _ _
theorem acQ {R:Type}:bB (R:=R) (hnd 0 Px) NW W5 (sub [1,1,0,1,0,0] HQ) (HS.V Az) (HS.st Az) (HS.sh Az) Kx (bL Az Kx):=aT Az Kx (fun _ _=>rfl) (by intro q v K;kernel_rfl)
theorem afS {R:Type}:aD (R:=R) (hnd 0 Px) NW W5 HQ:=ao (l:=[sub [1,1,0,1,0,0] HQ]) (by kernel_rfl) (aK (b:=sub [1,1,0,1,0,0] HQ) (rid:=3) (by kernel_rfl) (by kernel_rfl) acQ (trivial))
theorem ala:aF Tryz.prog 33 VT:=bf Tryz.f33 aqC M6 (d:=0) aj7 afS (bp (by kernel_rfl)) (toY:=aad)
end
end Go.Eng
set_option linter.unusedVariables false
set_option maxRecDepth 100000
namespace Go.Eng
noncomputable section
open Go Go.Proofs
def Ep:List (Nat×TI):=[(3,⟨false,1, .one (.int .i64 0), .int .i64⟩),(5,⟨false,1, .one (.int .u8 0), .int .u8⟩),(9,⟨false,1, .one (.str []), .str⟩),(22,⟨false,1, .one (.clip .bH []), .slice .bH 36⟩),(24,⟨true,4, .agg [.int .i64 0, .int .i64 0, .int .i64 0, .clip .bH []], .struct [(0,3),(1,3),(2,3),(3,22)]⟩),(27,⟨false,1, .one (.int .i64 0), .int .i64⟩),(55,⟨false,1, .one (.int .u16 0), .int .u16⟩),(56,⟨false,1, .one (.clip .hC []), .slice .hC 70⟩),(59,⟨false,1, .one (.clip .int []), .slice .int 27⟩),(62,⟨false,1, .one (.clip .int []), .slice .int 3⟩),(70,⟨true,4, .agg [.int .i64 0, .str [], .str [], .str []], .struct [(0,3),(1,9),(2,9),(3,9)]⟩)]
def Eo:List (Nat×List EK):= []
theorem GO:Tryz.prog.follows .mixedOrders=true:=by kernel_rfl
theorem Fh:(Ep.all fun x=>tiB Tryz.prog x.1 x.2)=true:=by kernel_rfl
theorem GW:(Eo.all fun x=>eqB Tryz.prog x.1 x.2)=true:=by kernel_rfl
def Hi:Code:=bd Tryz.f8
def Hf:Code:=bd Tryz.f10
def IZ:Code:=bd Tryz.f11
def VK:List HV:= []
def N2:List HV:=[.one (.bool)]
def ajb:HP.V VK→Unit:=fun v=>()
def X9:HX.V N2→Bool:=fun v=>(v)
def ahx:Bool→HX.V N2:=fun y=>(y)
def alv:Unit→Option (Bool):=fun x=>cJ
def FV:Spec:=aH VK N2 ajb ahx alv
def amx:Cfg:={T:=Ep,spec:=[(16,EB),(31,El),(32,EP),(34,Hr)],aO:=aA.G Tryz.prog,eqs:=Eo,N:=63,fuel:=64,fid:=29}
theorem adu:az Tryz.prog amx:=aP Fh GW ⟨FD,⟨GU,⟨Ih,⟨Me,trivial⟩⟩⟩⟩
theorem Hx:aF Tryz.prog 29 FV:=aV Tryz.f29 adu GO (toY:=X9)
def An:HS:=⟨[(9, .one (.sl .int)),(11, .one (.sl .int)),(14, .one (.int .i64))], [],0⟩
def II {R:Type}:Nat→HS.V An→(Ex→St→Option R)→Option R:=fun q v K=>
 cB v.1.1 v.1.2.1 (K .ret {ar:=[(6, .v (.one (.bool false)))],mem:= [],nx:=0}) (K (.exit 0) {ar:= [],mem:= [],nx:=0}) q v.1.2.2.1
def F1:List HV:=[.one (.int .u16), .one (.int .u16), .one (.sl .hC)]
def PQ:List HV:=[.one (.bool)]
def LS:HP.V F1→Int×Int×(List bZ):=fun v=>(v.1,v.2.1,v.2.2.1)
def ahs:HX.V PQ→Bool:=fun v=>(v)
def Uo:Bool→HX.V PQ:=fun y=>(y)
def Nj:(Int×Int×(List bZ))→Option (Bool):=fun x=>jm x.1 x.2.1 x.2.2
def aiz:Spec:=aH F1 PQ LS Uo Nj
def Rl {R:Type}:List (Nat×Hd R):=[(10,bL An II)]
def N1 {R:Type}:List (Nat×Inl R):= []
def Nw:Cfg:={T:=Ep,spec:=[(16,EB),(29,FV),(30,HG),(31,El),(32,EP),(33,VT),(34,Hr)],aO:=aA.G Tryz.prog,eqs:=Eo,N:=87,fuel:=64,loops:=[(10,⟨[9,11,14], [], [],0, [], [], [], []⟩)],blocks:=[(0,⟨[], [], [],0, [], [], [], []⟩)],gk:=some ⟨[6], [], [],0, [], [], [], []⟩,fid:=8}
theorem abB:az Tryz.prog Nw:=aP Fh GW ⟨FD,⟨Hx,⟨O9,⟨GU,⟨Ih,⟨ala,⟨Me,trivial⟩⟩⟩⟩⟩⟩⟩
theorem an_ {R:Type}:aI Tryz.prog (R:=R) 0 N1:=au _ _
theorem Y3 {R:Type}:bB (R:=R) (hnd 0 N1) Nw Rl (sub [1,1,1,1,1,1,1,0,1,0,0] Hi) (HS.V An) (HS.st An) (HS.sh An) II (bL An II):=aT An II (fun _ _=>rfl) (by intro q v K;kernel_rfl)
theorem Zp {R:Type}:aD (R:=R) (hnd 0 N1) Nw Rl Hi:=ao (l:=[sub [1,1,1,1,1,1,1,0,1,0,0] Hi]) (by kernel_rfl) (aK (b:=sub [1,1,1,1,1,1,1,0,1,0,0] Hi) (rid:=10) (by kernel_rfl) (by kernel_rfl) Y3 (trivial))
theorem aeQ:aF Tryz.prog 8 aiz:=bf Tryz.f8 abB GO (d:=0) an_ Zp (bp (by kernel_rfl)) (toY:=ahs)
def FH:List HV:=[.one (.int .i64), .one (.int .i64)]
def Ld:List HV:=[.one (.bool)]
def Nh:HP.V FH→Int×Int:=fun v=>(v.1,v.2.1)
def ao2:HX.V Ld→Bool:=fun v=>(v)
def RS:Bool→HX.V Ld:=fun y=>(y)
def Ng:(Int×Int)→Option (Bool):=fun x=>iH x.1 x.2
def ak1:Spec:=aH FH Ld Nh RS Ng
def anI:Cfg:={T:=Ep,spec:=[(16,EB),(29,FV),(31,El),(34,Hr)],aO:=aA.G Tryz.prog,eqs:=Eo,N:=45,fuel:=64,fid:=9}
theorem abe:az Tryz.prog anI:=aP Fh GW ⟨FD,⟨Hx,⟨GU,⟨Me,trivial⟩⟩⟩⟩
theorem an1:aF Tryz.prog 9 ak1:=aV Tryz.f9 abe GO (toY:=ao2)
def Af:HS:=⟨[(2, .one (.sl .hC)),(7, .one (.ptr 0 0)),(8, .one (.int .i64))],[(0, .cells hFs)],1⟩
def G4 {R:Type}:Nat→HS.V Af→(Ex→St→Option R)→Option R:=fun q v K=>
 cC v.1.1 (K .ret {ar:=[(6, .v (.one (.bool false)))],mem:= [],nx:=0}) (K (.exit 0) {ar:= [],mem:= [],nx:=0}) q v.1.2.2.1 (cFs v.2.1)
def FB:List HV:=[.one (.int .u16), .one (.int .u16), .one (.sl .hC)]
def LF:List HV:=[.one (.bool)]
def PR:HP.V FB→Int×Int×(List bZ):=fun v=>(v.1,v.2.1,v.2.2.1)
def ac6:HX.V LF→Bool:=fun v=>(v)
def U4:Bool→HX.V LF:=fun y=>(y)
def O4:(Int×Int×(List bZ))→Option (Bool):=fun x=>iP x.1 x.2.1 x.2.2
def acw:Spec:=aH FB LF PR U4 O4
def Wd {R:Type}:List (Nat×Hd R):=[(5,bL Af G4)]
def QN {R:Type}:List (Nat×Inl R):= []
def Pa:Cfg:={T:=Ep,spec:=[(16,EB),(25,SU),(29,FV),(30,HG),(31,El),(35,OR)],aO:=aA.G Tryz.prog,eqs:=Eo,N:=54,fuel:=64,loops:=[(5,⟨[2,7,8], [],[0],1, [], [], [], []⟩)],blocks:=[(0,⟨[], [], [],0, [], [], [], []⟩)],gk:=some ⟨[6], [], [],0, [], [], [], []⟩,fid:=10}
theorem ai0:az Tryz.prog Pa:=aP Fh GW ⟨FD,⟨X3,⟨Hx,⟨O9,⟨GU,⟨Vh,trivial⟩⟩⟩⟩⟩⟩
theorem aeO {R:Type}:aI Tryz.prog (R:=R) 0 QN:=au _ _
theorem ajG {R:Type}:bB (R:=R) (hnd 0 QN) Pa Wd (sub [1,1,1,0,1,0,0] Hf) (HS.V Af) (HS.st Af) (HS.sh Af) G4 (bL Af G4):=aT Af G4 (fun _ _=>rfl) (by intro q v K;kernel_rfl)
theorem ad1 {R:Type}:aD (R:=R) (hnd 0 QN) Pa Wd Hf:=ao (l:=[sub [1,1,1,0,1,0,0] Hf]) (by kernel_rfl) (aK (b:=sub [1,1,1,0,1,0,0] Hf) (rid:=5) (by kernel_rfl) (by kernel_rfl) ajG (trivial))
theorem acx:aF Tryz.prog 10 acw:=bf Tryz.f10 ai0 GO (d:=0) aeO ad1 (bp (by kernel_rfl)) (toY:=ac6)
def As:HS:=⟨[(5, .one (.int .i64)),(8, .one (.sl .int)),(10, .one (.sl .int)),(12, .one (.sl .int)),(13, .one (.int .i64))], [],0⟩
def JJ {R:Type}:Nat→HS.V As→(Ex→St→Option R)→Option R:=fun q v K=>
 bQ v.1.1 v.1.2.1 v.1.2.2.1 v.1.2.2.2.1 (K .ret {ar:=[(4, .v (.one (.bool false)))],mem:= [],nx:=0}) (K (.exit 0) {ar:= [],mem:= [],nx:=0}) q v.1.2.2.2.2.1
def FI:List HV:=[.one (.sl .hC), .one (.int .u8)]
def My:List HV:=[.one (.bool)]
def LB:HP.V FI→(List bZ)×Int:=fun v=>(v.1,v.2.1)
def apT:HX.V My→Bool:=fun v=>(v)
def Q8:Bool→HX.V My:=fun y=>(y)
def Qe:(List bZ)×Int→Option (Bool):=fun x=>iq x.1 x.2
def aoT:Spec:=aH FI My LB Q8 Qe
def RF {R:Type}:List (Nat×Hd R):=[(11,bL As JJ)]
def Pn {R:Type}:List (Nat×Inl R):= []
def O2:Cfg:={T:=Ep,spec:=[(16,EB),(29,FV),(30,HG),(31,El),(32,EP)],aO:=aA.G Tryz.prog,eqs:=Eo,N:=109,fuel:=64,loops:=[(11,⟨[5,8,10,12,13], [], [],0, [], [], [], []⟩)],blocks:=[(0,⟨[], [], [],0, [], [], [], []⟩)],gk:=some ⟨[4], [], [],0, [], [], [], []⟩,fid:=11}
theorem aas:az Tryz.prog O2:=aP Fh GW ⟨FD,⟨Hx,⟨O9,⟨GU,⟨Ih,trivial⟩⟩⟩⟩⟩
theorem akp {R:Type}:aI Tryz.prog (R:=R) 0 Pn:=au _ _
theorem aa3 {R:Type}:bB (R:=R) (hnd 0 Pn) O2 RF (sub [1,1,1,1,1,1,1,1,0,1,0,0] IZ) (HS.V As) (HS.st As) (HS.sh As) JJ (bL As JJ):=aT As JJ (fun _ _=>rfl) (by intro q v K;kernel_rfl)
theorem akf {R:Type}:aD (R:=R) (hnd 0 Pn) O2 RF IZ:=ao (l:=[sub [1,1,1,1,1,1,1,1,0,1,0,0] IZ]) (by kernel_rfl) (aK (b:=sub [1,1,1,1,1,1,1,1,0,1,0,0] IZ) (rid:=11) (by kernel_rfl) (by kernel_rfl) aa3 (trivial))
theorem akd:aF Tryz.prog 11 aoT:=bf Tryz.f11 aas GO (d:=0) akp akf (bp (by kernel_rfl)) (toY:=apT)
end
end Go.Eng
