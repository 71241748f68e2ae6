/- A part of the proofs of the laws of this seat: the engine that reads the program's code, plain functions, or facts of the program's functions. Conditions: none. -/
import Derived.Test.YtodknkhemckfbaaGreatDoorE4
import Derived.Test.YtodknkhemckfbaaGreatDoorF1
import Derived.Test.YtodknkhemckfbaaGreatDoorP1
import Derived.Test.YtodknkhemckfbaaGreatDoorP4
set_option linter.unusedSectionVars false
set_option linter.unusedVariables false
set_option linter.unusedSimpArgs false
set_option linter.unnecessarySimpa false
set_option maxRecDepth 100000
namespace Go.Eng
noncomputable section
open Go Go.Proofs
def vn:List (Nat×TI):=[(3,⟨false,1, .one (.int .i64 0), .int .i64⟩),(4,⟨false,1, .one (.bool false), .bool⟩),(9,⟨false,1, .one (.str []), .str⟩),(22,⟨false,1, .one (.clip .aM []), .slice .aM 75⟩),(24,⟨true,4, .agg [.int .i64 0, .int .i64 0, .int .i64 0, .clip .aM []], .struct [(0,3),(1,3),(2,3),(3,22)]⟩),(25,⟨false,1, .one (.clip .kept []), .slice .kept 57⟩),(27,⟨true,2, .agg [.clip .kept [], .clip .aM []], .struct [(0,25),(1,22)]⟩),(29,⟨true,6, .agg [.int .i64 0, .int .i64 0, .int .i64 0, .clip .aM [], .clip .kept [], .clip .aM []], .struct [(0,24),(4,27)]⟩),(57,⟨true,4, .agg [.int .i64 0, .int .i64 0, .bool false, .str []], .struct [(0,3),(1,3),(2,4),(3,9)]⟩),(73,⟨false,1, .one (.clip .entry []), .slice .entry 103⟩),(75,⟨true,6, .agg [.int .i64 0, .int .i64 0, .int .i64 0, .str [], .int .i64 0, .clip .entry []], .struct [(0,3),(1,3),(2,3),(3,9),(4,3),(5,73)]⟩),(87,⟨true,3, .agg [.int .i64 0, .str [], .int .i64 0], .struct [(0,3),(1,9),(2,3)]⟩)]
def u4:List (Nat×List EK):=[(57,[.i, .i, .b, .s])]
theorem vH:(vn.all λx=>tiB Tryz.prog x.1 x.2)=true:=by kernel_rfl
theorem wh:(u4.all λx=>eqB Tryz.prog x.1 x.2)=true:=by kernel_rfl
def OY:Code:=bd Tryz.f15
def Np:Code:=bd Tryz.f51
def GU:Code:=bd Tryz.f52
def M8:Code:=bd Tryz.f64
def HI:Code:=bd Tryz.f82
def OR:Code:=bd Tryz.f109
def Ol:Code:=bd Tryz.f112
def FV:HS:=⟨[(2, .one (.ptr 0 0)),(3, .one (.ptr 1 0)),(5, .one (.int .i64))],[(0, .cells hW),(1, .cells hW)],2⟩
def NY {R:Type}:Nat->HS.V FV->(Ex->St->Option R)->Option R:=λq v K=>
 hZ (cW v.2.1) (cW v.2.2.1) (K .ret {az:=[(4, .v (.one (.bool false)))],mem:= [],nx:=0}) (K (.exit 0) {az:= [],mem:= [],nx:=0}) q v.1.2.2.1
def YE:List HV:=[.agg hW, .agg hW]
def an9:HP.V YE->aq×aq:=λv=>((cW v.1),(cW v.2.1))
def acH:(aq×aq)->Option (Bool):=λx=>dG x.1 x.2
def Dg:Spec:=aL YE eE an9 dN acH
def ZE {R:Type}:List (Nat×Hd R):=[(4,bw FV NY)]
def SB:Cfg:={T:=vn,spec:=[(37,Vi),(38,Uk)],aW:=aD.G Tryz.prog,eqs:=u4,N:=54,fuel:=64,loops:=[(4,⟨[2,3,5], [],[0,1],2, [], [], [], []⟩)],blocks:=[(0,⟨[], [], [],0, [], [], [], []⟩)],fq:=some ⟨[4], [], [],0, [], [], [], []⟩,fid:=15}
theorem am2:aE Tryz.prog SB:=aX vH wh ⟨aeF,⟨VG,trivial⟩⟩
theorem alG {R:Type}:br (R:=R) (hnd 0 bL) SB ZE (sub [1,1,0,1,0,0] OY) (HS.V FV) (HS.st FV) (HS.sh FV) NY (bw FV NY):=aN FV NY (λ_ _=>rfl) (by intro q v K;kernel_rfl)
theorem akw {R:Type}:aI (R:=R) (hnd 0 bL) SB ZE OY:=aA (l:=[sub [1,1,0,1,0,0] OY]) (by kernel_rfl) (aG (b:=sub [1,1,0,1,0,0] OY) (rid:=4) (by kernel_rfl) (by kernel_rfl) alG (trivial))
theorem E8:aK Tryz.prog 15 Dg:=aY Tryz.f15 am2 bD (d:=0) dU akw (bh (by kernel_rfl)) (toY:=eO)
def am_:aq->Option (Fs):=λx=>eK x
def LK:Spec:=aL uZ kq JQ xP am_
def ajw:Cfg:={T:=vn,aW:=aD.G Tryz.prog,eqs:=u4,N:=7,fuel:=64,fid:=80}
theorem amG:aE Tryz.prog ajw:=aX vH wh trivial
theorem NP:aK Tryz.prog 80 LK:=aZ Tryz.f80 amG bD (toY:=xT)
def uQ:HS:=⟨[(1, .one (.ptr 0 0)),(3, .one (.int .i64))],[(0, .cells hW)],1⟩
def Rn {R:Type}:Nat->HS.V uQ->(Ex->St->Option R)->Option R:=λq v K=>
 iR (cW v.2.1) (K .ret {az:=[(2, .v (.one (.bool false)))],mem:= [],nx:=0}) (K (.exit 0) {az:=[(1, .v (.one (.ptr 0 0)))],mem:=[(0, .cells [.int .i64 ((cW v.2.1).fs.ay), .int .i64 ((cW v.2.1).fs.aB), .int .i64 ((cW v.2.1).fs.next), .sl .aM ((cW v.2.1).fs.aa), .sl .kept ((cW v.2.1).al.kept), .sl .aM ((cW v.2.1).al.aO)])],nx:=1}) q v.1.2.1
def ad0:aq->Option (Bool):=λx=>se x
def V0:Spec:=aL uZ eE JQ dN ad0
def VT {R:Type}:List (Nat×Hd R):=[(2,bw uQ Rn)]
def RO:Cfg:={T:=vn,spec:=[(45,S9),(80,LK)],aW:=aD.G Tryz.prog,eqs:=u4,N:=40,fuel:=64,loops:=[(2,⟨[1,3], [],[0],1, [], [], [], []⟩)],blocks:=[(0,⟨[1], [],[0],1, [], [], [], []⟩)],fq:=some ⟨[2], [], [],0, [], [], [], []⟩,fid:=51}
theorem anG:aE Tryz.prog RO:=aX vH wh ⟨Wi,⟨NP,trivial⟩⟩
theorem al5 {R:Type}:br (R:=R) (hnd 0 bL) RO VT (sub [1,0,1,0,0] Np) (HS.V uQ) (HS.st uQ) (HS.sh uQ) Rn (bw uQ Rn):=aN uQ Rn (λ_ _=>rfl) (by intro q v K;kernel_rfl)
theorem al0 {R:Type}:aI (R:=R) (hnd 0 bL) RO VT Np:=aA (l:=[sub [1,0,1,0,0] Np]) (by kernel_rfl) (aG (b:=sub [1,0,1,0,0] Np) (rid:=2) (by kernel_rfl) (by kernel_rfl) al5 (trivial))
theorem agG:aK Tryz.prog 51 V0:=aY Tryz.f51 anG bD (d:=0) dU al0 (bh (by kernel_rfl)) (toY:=eO)
def FT:HS:=⟨[(2, .one (.ptr 0 0)),(3, .one (.ptr 1 0)),(7, .one (.int .i64))],[(0, .cells hW),(1, .cells hIn)],2⟩
def Nt {R:Type}:Nat->HS.V FT->(Ex->St->Option R)->Option R:=λq v K=>
 cY (cIn v.2.2.1) (K .ret {az:=[(4, .v (.one (.bool false)))],mem:= [],nx:=0}) (K (.exit 0) {az:=[(2, .v (.one (.ptr 0 0))),(3, .v (.one (.ptr 1 0)))],mem:=[(0, .cells [.int .i64 ((cW v.2.1).fs.ay), .int .i64 ((cW v.2.1).fs.aB), .int .i64 ((cW v.2.1).fs.next), .sl .aM ((cW v.2.1).fs.aa), .sl .kept ((cW v.2.1).al.kept), .sl .aM ((cW v.2.1).al.aO)]),(1, .cells (rIn (cIn v.2.2.1)))],nx:=2}) q v.1.2.2.1
def FE:HS:=⟨[(2, .one (.ptr 0 0)),(3, .one (.ptr 1 0)),(8, .one (.bool)),(9, .one (.int .i64))],[(0, .cells hW),(1, .cells hIn)],2⟩
def Oe {R:Type}:Nat->HS.V FE->(Ex->St->Option R)->Option R:=λq v K=>
 cF (cW v.2.1) (cIn v.2.2.1) (λy15=>K (.exit 2) {az:=[(8, .v (.one (.bool y15)))],mem:= [],nx:=0}) q v.1.2.2.1 v.1.2.2.2.1
def aae:List HV:=[.agg hW, .agg hIn]
def aiA:HP.V aae->aq×ao:=λv=>((cW v.1),(cIn v.2.1))
def ajZ:(aq×ao)->Option (Bool):=λx=>mH x.1 x.2
def ZK:Spec:=aL aae eE aiA dN ajZ
def R6 {R:Type}:List (Nat×Hd R):=[(7,bw FT Nt),(13,bw FE Oe)]
def Oj:Cfg:={T:=vn,spec:=[(83,rO)],aW:=aD.G Tryz.prog,eqs:=u4,N:=132,fuel:=64,loops:=[(13,⟨[2,3,8,9], [],[0,1],2, [], [], [], []⟩),(7,⟨[2,3,7], [],[0,1],2, [], [], [], []⟩)],blocks:=[(2,⟨[8], [], [],0, [], [], [], []⟩),(0,⟨[2,3], [],[0,1],2, [], [], [], []⟩)],fq:=some ⟨[4], [], [],0, [], [], [], []⟩,fid:=82}
theorem afh:aE Tryz.prog Oj:=aX vH wh ⟨sF,trivial⟩
theorem amC {R:Type}:br (R:=R) (hnd 0 bL) Oj R6 (sub [1,1,1,1,0,1,0,0] HI) (HS.V FT) (HS.st FT) (HS.sh FT) Nt (bw FT Nt):=aN FT Nt (λ_ _=>rfl) (by intro q v K;kernel_rfl)
theorem aiy {R:Type}:br (R:=R) (hnd 0 bL) Oj R6 (sub [1,1,1,1,1,1,0,1,0,0] HI) (HS.V FE) (HS.st FE) (HS.sh FE) Oe (bw FE Oe):=aN FE Oe (λ_ _=>rfl) (by intro q v K;kernel_rfl)
theorem akr {R:Type}:aI (R:=R) (hnd 0 bL) Oj R6 HI:=aA (l:=[sub [1,1,1,1,0,1,0,0] HI,sub [1,1,1,1,1,1,0,1,0,0] HI]) (by kernel_rfl) (aG (b:=sub [1,1,1,1,0,1,0,0] HI) (rid:=7) (by kernel_rfl) (by kernel_rfl) amC (aG (b:=sub [1,1,1,1,1,1,0,1,0,0] HI) (rid:=13) (by kernel_rfl) (by kernel_rfl) aiy (trivial)))
theorem aee:aK Tryz.prog 82 ZK:=aY Tryz.f82 afh bD (d:=0) dU akr (bh (by kernel_rfl)) (toY:=eO)
def PQ {R:Type}:Nat->HS.V uQ->(Ex->St->Option R)->Option R:=λq v K=>
 f_ (cW v.2.1) (K .ret {az:=[(2, .v (.one (.bool false)))],mem:= [],nx:=0}) (K (.exit 0) {az:=[(1, .v (.one (.ptr 0 0)))],mem:=[(0, .cells [.int .i64 ((cW v.2.1).fs.ay), .int .i64 ((cW v.2.1).fs.aB), .int .i64 ((cW v.2.1).fs.next), .sl .aM ((cW v.2.1).fs.aa), .sl .kept ((cW v.2.1).al.kept), .sl .aM ((cW v.2.1).al.aO)])],nx:=1}) q v.1.2.1
def F5:HS:=⟨[(1, .one (.ptr 0 0)),(4, .one (.int .i64)),(5, .one (.int .i64))],[(0, .cells hW)],1⟩
def N7 {R:Type}:Nat->HS.V F5->(Ex->St->Option R)->Option R:=λq v K=>
 eH (cW v.2.1) (K .ret {az:=[(2, .v (.one (.bool false)))],mem:= [],nx:=0}) (K (.exit 2) {az:= [],mem:= [],nx:=0}) q v.1.2.1 v.1.2.2.1
def aga:aq->Option (Bool):=λx=>nR x
def Ys:Spec:=aL uZ eE JQ dN aga
def TY {R:Type}:List (Nat×Hd R):=[(4,bw uQ PQ),(10,bw F5 N7)]
def OL:Cfg:={T:=vn,spec:=[(46,UX),(80,LK),(81,UO),(82,ZK),(83,rO)],aW:=aD.G Tryz.prog,eqs:=u4,N:=106,fuel:=64,loops:=[(10,⟨[1,4,5], [],[0],1, [], [], [], []⟩),(4,⟨[1,3], [],[0],1, [], [], [], []⟩)],blocks:=[(2,⟨[], [], [],0, [], [], [], []⟩),(0,⟨[1], [],[0],1, [], [], [], []⟩)],fq:=some ⟨[2], [], [],0, [], [], [], []⟩,fid:=52}
theorem amI:aE Tryz.prog OL:=aX vH wh ⟨Y7,⟨NP,⟨Vn,⟨aee,⟨sF,trivial⟩⟩⟩⟩⟩
theorem abh {R:Type}:br (R:=R) (hnd 0 bL) OL TY (sub [1,1,0,1,0,0] GU) (HS.V uQ) (HS.st uQ) (HS.sh uQ) PQ (bw uQ PQ):=aN uQ PQ (λ_ _=>rfl) (by intro q v K;kernel_rfl)
theorem acw {R:Type}:br (R:=R) (hnd 0 bL) OL TY (sub [1,1,1,1,0,1,0,0] GU) (HS.V F5) (HS.st F5) (HS.sh F5) N7 (bw F5 N7):=aN F5 N7 (λ_ _=>rfl) (by intro q v K;kernel_rfl)
theorem ae8 {R:Type}:aI (R:=R) (hnd 0 bL) OL TY GU:=aA (l:=[sub [1,1,0,1,0,0] GU,sub [1,1,1,1,0,1,0,0] GU]) (by kernel_rfl) (aG (b:=sub [1,1,0,1,0,0] GU) (rid:=4) (by kernel_rfl) (by kernel_rfl) abh (aG (b:=sub [1,1,1,1,0,1,0,0] GU) (rid:=10) (by kernel_rfl) (by kernel_rfl) acw (trivial)))
theorem abi:aK Tryz.prog 52 Ys:=aY Tryz.f52 amI bD (d:=0) dU ae8 (bh (by kernel_rfl)) (toY:=eO)
def alk:aq->Option (Bool):=λx=>rF x
def Td:Spec:=aL uZ eE JQ dN alk
def aha:Cfg:={T:=vn,spec:=[(51,V0),(52,Ys)],aW:=aD.G Tryz.prog,eqs:=u4,N:=9,fuel:=64,fid:=33}
theorem aeC:aE Tryz.prog aha:=aX vH wh ⟨agG,⟨abi,trivial⟩⟩
theorem WB:aK Tryz.prog 33 Td:=aZ Tryz.f33 aeC bD (toY:=eO)
def Gt:HS:=⟨[(1, .one (.int .i64)),(2, .one (.ptr 0 0)),(4, .one (.ptr 1 0)),(6, .one (.int .i64))],[(0, .cells hW),(1, .cells [.int .i64, .int .i64, .bool, .str])],2⟩
def PO {R:Type}:Nat->HS.V Gt->(Ex->St->Option R)->Option R:=λq v K=>
 hJ v.1.1 (cW v.2.1) (λy8=>K .ret {az:=[(4, .v (.one (.ptr 1 0))),(5, .v (.one (.bool true)))],mem:=[(1, .cells [.int .i64 y8.slot, .int .i64 y8.ino, .bool y8.content, .str y8.data])],nx:=2}) (K (.exit 0) {az:=[(4, .v (.one (.ptr 1 0)))],mem:=[(1, .cells [.int .i64 ((⟨v.2.2.1.1,v.2.2.1.2.1,v.2.2.1.2.2.1,v.2.2.1.2.2.2.1⟩:Kept).slot), .int .i64 ((⟨v.2.2.1.1,v.2.2.1.2.1,v.2.2.1.2.2.1,v.2.2.1.2.2.2.1⟩:Kept).ino), .bool ((⟨v.2.2.1.1,v.2.2.1.2.1,v.2.2.1.2.2.1,v.2.2.1.2.2.2.1⟩:Kept).content), .str ((⟨v.2.2.1.1,v.2.2.1.2.1,v.2.2.1.2.2.1,v.2.2.1.2.2.2.1⟩:Kept).data)])],nx:=2}) q v.1.2.2.2.1
def ags:(aq×Int)->Option (Kept×Bool):=λx=>iL x.1 x.2
def JG:Spec:=aL im Ps HU Vv ags
def YJ {R:Type}:List (Nat×Hd R):=[(2,bw Gt PO)]
def Si:Cfg:={T:=vn,aW:=aD.G Tryz.prog,eqs:=u4,N:=31,fuel:=64,loops:=[(2,⟨[1,2,4,6], [],[0,1],2, [], [], [], []⟩)],blocks:=[(0,⟨[4], [],[1],2, [], [], [], []⟩)],fq:=some ⟨[4,5], [],[1],2, [], [], [], []⟩,fid:=64}
theorem amt:aE Tryz.prog Si:=aX vH wh trivial
theorem af6 {R:Type}:br (R:=R) (hnd 0 bL) Si YJ (sub [1,0,1,0,0] M8) (HS.V Gt) (HS.st Gt) (HS.sh Gt) PO (bw Gt PO):=aN Gt PO (λ_ _=>rfl) (by intro q v K;kernel_rfl)
theorem ajo {R:Type}:aI (R:=R) (hnd 0 bL) Si YJ M8:=aA (l:=[sub [1,0,1,0,0] M8]) (by kernel_rfl) (aG (b:=sub [1,0,1,0,0] M8) (rid:=2) (by kernel_rfl) (by kernel_rfl) af6 (trivial))
theorem L9:aK Tryz.prog 64 JG:=aY Tryz.f64 amt bD (d:=0) dU ajo (bh (by kernel_rfl)) (toY:=XV)
def H2:HS:=⟨[(2, .one (.ptr 0 0)),(3, .one (.ptr 1 0)),(4, .one (.ptr 2 0)),(5, .one (.own 3)),(6, .one (.bool)),(7, .one (.int .i64))],[(0, .cells hW),(1, .cells [.int .i64, .int .i64, .bool, .str]),(2, .cells hW),(3, .row .kept)],4⟩
def Qh {R:Type}:Nat->HS.V H2->(Ex->St->Option R)->Option R:=λq v K=>
 eX (cW v.2.1) (⟨v.2.2.1.1,v.2.2.1.2.1,v.2.2.1.2.2.1,v.2.2.1.2.2.2.1⟩:Kept) (λy11 y15=>K (.exit 0) {az:=[(2, .v (.one (.ptr 0 0))),(3, .v (.one (.ptr 1 0))),(4, .v (.one (.ptr 2 0))),(5, .v (.one (.own 3))),(6, .v (.one (.bool y11)))],mem:=[(0, .cells [.int .i64 ((cW v.2.1).fs.ay), .int .i64 ((cW v.2.1).fs.aB), .int .i64 ((cW v.2.1).fs.next), .sl .aM ((cW v.2.1).fs.aa), .sl .kept ((cW v.2.1).al.kept), .sl .aM ((cW v.2.1).al.aO)]),(1, .cells [.int .i64 ((⟨v.2.2.1.1,v.2.2.1.2.1,v.2.2.1.2.2.1,v.2.2.1.2.2.2.1⟩:Kept).slot), .int .i64 ((⟨v.2.2.1.1,v.2.2.1.2.1,v.2.2.1.2.2.1,v.2.2.1.2.2.2.1⟩:Kept).ino), .bool ((⟨v.2.2.1.1,v.2.2.1.2.1,v.2.2.1.2.2.1,v.2.2.1.2.2.2.1⟩:Kept).content), .str ((⟨v.2.2.1.1,v.2.2.1.2.1,v.2.2.1.2.2.1,v.2.2.1.2.2.2.1⟩:Kept).data)]),(2, .cells [.int .i64 ((cW v.2.2.2.1).fs.ay), .int .i64 ((cW v.2.2.2.1).fs.aB), .int .i64 ((cW v.2.2.2.1).fs.next), .sl .aM ((cW v.2.2.2.1).fs.aa), .sl .kept ((cW v.2.2.2.1).al.kept), .sl .aM ((cW v.2.2.2.1).al.aO)]),(3, .row .kept y15)],nx:=4}) q v.1.2.2.2.2.1 v.1.2.2.2.2.2.1 v.2.2.2.2.1
def ahj:(aq×Kept)->Option (aq):=λx=>kX x.1 x.2
def S_:Spec:=aL T5 uZ YT KT ahj
def aaC {R:Type}:List (Nat×Hd R):=[(4,bw H2 Qh)]
def RU:Cfg:={T:=vn,aW:=aD.G Tryz.prog,eqs:=u4,N:=53,fuel:=64,loops:=[(4,⟨[2,3,4,5,6,7],[(5,3, .kept)],[0,1,2,3],4, [],[2], [], []⟩)],blocks:=[(0,⟨[2,3,4,5,6], [],[0,1,2,3],4, [], [], [], []⟩)],fid:=109}
theorem ali:aE Tryz.prog RU:=aX vH wh trivial
theorem ahH {R:Type}:br (R:=R) (hnd 0 bL) RU aaC (sub [1,1,1,0,1,0,0] OR) (HS.V H2) (HS.st H2) (HS.sh H2) Qh (bw H2 Qh):=aN H2 Qh (λ_ _=>rfl) (by intro q v K;kernel_rfl)
theorem alC {R:Type}:aI (R:=R) (hnd 0 bL) RU aaC OR:=aA (l:=[sub [1,1,1,0,1,0,0] OR]) (by kernel_rfl) (aG (b:=sub [1,1,1,0,1,0,0] OR) (rid:=4) (by kernel_rfl) (by kernel_rfl) ahH (trivial))
theorem V6:aK Tryz.prog 109 S_:=aY Tryz.f109 ali bD (d:=0) dU alC (bh (by kernel_rfl)) (toY:=LS)
def aeZ:(aq×Int×Int)->Option (aq×Int):=λx=>kf x.1 x.2.1 x.2.2
def YV:Spec:=aL Gx im VS lY aeZ
def akJ:Cfg:={T:=vn,spec:=[(64,JG),(83,rO),(109,S_)],aW:=aD.G Tryz.prog,eqs:=u4,N:=34,fuel:=64,fid:=104}
theorem aaX:aE Tryz.prog akJ:=aX vH wh ⟨L9,⟨sF,⟨V6,trivial⟩⟩⟩
theorem am3:aK Tryz.prog 104 YV:=aZ Tryz.f104 aaX bD (toY:=lM)
def ab2:(aq×Int×au)->Option (aq×Int):=λx=>nw x.1 x.2.1 x.2.2
def ZU:Spec:=aL Lq im P6 lY ab2
def ae7:Cfg:={T:=vn,spec:=[(62,OB),(64,JG),(71,Bs),(80,LK),(83,rO),(109,S_)],aW:=aD.G Tryz.prog,eqs:=u4,N:=51,fuel:=64,fid:=61}
theorem acA:aE Tryz.prog ae7:=aX vH wh ⟨SG,⟨L9,⟨DG,⟨NP,⟨sF,⟨V6,trivial⟩⟩⟩⟩⟩⟩
theorem akn:aK Tryz.prog 61 ZU:=aZ Tryz.f61 acA bD (toY:=lM)
def GR:HS:=⟨[(1, .one (.int .i64)),(2, .one (.ptr 0 0)),(4, .one (.ptr 1 0)),(5, .one (.own 2)),(6, .one (.int .i64))],[(0, .cells hW),(1, .cells hW),(2, .row .kept)],3⟩
def QW {R:Type}:Nat->HS.V GR->(Ex->St->Option R)->Option R:=λq v K=>
 dZ v.1.1 (cW v.2.1) (λy10=>K (.exit 0) {az:=[(2, .v (.one (.ptr 0 0))),(4, .v (.one (.ptr 1 0))),(5, .v (.one (.own 2)))],mem:=[(0, .cells [.int .i64 ((cW v.2.1).fs.ay), .int .i64 ((cW v.2.1).fs.aB), .int .i64 ((cW v.2.1).fs.next), .sl .aM ((cW v.2.1).fs.aa), .sl .kept ((cW v.2.1).al.kept), .sl .aM ((cW v.2.1).al.aO)]),(1, .cells [.int .i64 ((cW v.2.2.1).fs.ay), .int .i64 ((cW v.2.2.1).fs.aB), .int .i64 ((cW v.2.2.1).fs.next), .sl .aM ((cW v.2.2.1).fs.aa), .sl .kept ((cW v.2.2.1).al.kept), .sl .aM ((cW v.2.2.1).al.aO)]),(2, .row .kept y10)],nx:=3}) q v.1.2.2.2.2.1 v.2.2.2.1
def akU:(aq×Int)->Option (aq):=λx=>eV x.1 x.2
def UL:Spec:=aL im uZ HU KT akU
def Wv {R:Type}:List (Nat×Hd R):=[(3,bw GR QW)]
def T1:Cfg:={T:=vn,aW:=aD.G Tryz.prog,eqs:=u4,N:=37,fuel:=64,loops:=[(3,⟨[1,2,4,5,6],[(5,2, .kept)],[0,1,2],3, [],[1], [], []⟩)],blocks:=[(0,⟨[2,4,5], [],[0,1,2],3, [], [], [], []⟩)],fid:=112}
theorem agU:aE Tryz.prog T1:=aX vH wh trivial
theorem acj {R:Type}:br (R:=R) (hnd 0 bL) T1 Wv (sub [1,1,0,1,0,0] Ol) (HS.V GR) (HS.st GR) (HS.sh GR) QW (bw GR QW):=aN GR QW (λ_ _=>rfl) (by intro q v K;kernel_rfl)
theorem am5 {R:Type}:aI (R:=R) (hnd 0 bL) T1 Wv Ol:=aA (l:=[sub [1,1,0,1,0,0] Ol]) (by kernel_rfl) (aG (b:=sub [1,1,0,1,0,0] Ol) (rid:=3) (by kernel_rfl) (by kernel_rfl) acj (trivial))
theorem YQ:aK Tryz.prog 112 UL:=aY Tryz.f112 agU bD (d:=0) dU am5 (bh (by kernel_rfl)) (toY:=LS)
def ain:(aq×Int×au)->Option (aq×Int):=λx=>pX x.1 x.2.1 x.2.2
def aaJ:Spec:=aL Lq im P6 lY ain
def agW:Cfg:={T:=vn,spec:=[(59,Va),(64,JG),(71,Bs),(77,Kf),(80,LK),(83,rO),(110,Og),(111,Mw),(112,UL)],aW:=aD.G Tryz.prog,eqs:=u4,N:=100,fuel:=64,fid:=63}
theorem ag7:aE Tryz.prog agW:=aX vH wh ⟨Xb,⟨L9,⟨DG,⟨KN,⟨NP,⟨sF,⟨Sw,⟨PL,⟨YQ,trivial⟩⟩⟩⟩⟩⟩⟩⟩⟩
theorem aoV:aK Tryz.prog 63 aaJ:=aZ Tryz.f63 ag7 bD (toY:=lM)
def aiU:(aq×Int)->Option (aq×Int):=λx=>j4 x.1 x.2
def Vf:Spec:=aL im im HU lY aiU
def ajn:Cfg:={T:=vn,spec:=[(64,JG),(71,Bs),(77,Kf),(83,rO),(112,UL)],aW:=aD.G Tryz.prog,eqs:=u4,N:=59,fuel:=64,fid:=65}
theorem alF:aE Tryz.prog ajn:=aX vH wh ⟨L9,⟨DG,⟨KN,⟨sF,⟨YQ,trivial⟩⟩⟩⟩⟩
theorem anL:aK Tryz.prog 65 Vf:=aZ Tryz.f65 alF bD (toY:=lM)
end
end Go.Eng
namespace Go.Eng
noncomputable section
open Go Go.Proofs
def Qp:Code:=bd Tryz.f106
def Ib:HS:=⟨[(2, .one (.ptr 0 0)),(4, .one (.ptr 1 0)),(6, .one (.sl .str)),(8, .one (.ptr 2 0)),(9, .one (.int .i64))],[(0, .cells hFs),(1, .cells [.int .i64, .str, .int .i64]),(2, .cells [.int .i64, .str, .int .i64])],3⟩
def N2 {R:Type}:Nat->HS.V Ib->(Ex->St->Option R)->Option R:=λq v K=>
 jK v.1.2.2.1 (cFs v.2.1) (λy11=>K .ret {az:=[(4, .v (.one (.ptr 1 0))),(5, .v (.one (.int .i64 y11)))],mem:=[(1, .cells [.int .i64 ((⟨0, [],0⟩:au).dir), .str ((⟨0, [],0⟩:au).name), .int .i64 ((⟨0, [],0⟩:au).ino)])],nx:=2}) (λy14=>K (.exit 0) {az:=[(4, .v (.one (.ptr 1 0))),(8, .v (.one (.ptr 2 0)))],mem:=[(1, .cells [.int .i64 ((⟨v.2.2.1.1,v.2.2.1.2.1,v.2.2.1.2.2.1⟩:au).dir), .str ((⟨v.2.2.1.1,v.2.2.1.2.1,v.2.2.1.2.2.1⟩:au).name), .int .i64 ((⟨v.2.2.1.1,v.2.2.1.2.1,v.2.2.1.2.2.1⟩:au).ino)]),(2, .cells [.int .i64 y14.dir, .str y14.name, .int .i64 y14.ino])],nx:=3}) q v.1.2.2.2.2.1 (⟨v.2.2.2.1.1,v.2.2.2.1.2.1,v.2.2.2.1.2.2.1⟩:au)
def akA:(Fs×Str)->Option (au×Int):=λx=>qY x.1 x.2
def VY:Spec:=aL Gp M1 JW Ta akA
def Z5 {R:Type}:List (Nat×Hd R):=[(6,bw Ib N2)]
def US:Cfg:={T:=UQ,spec:=[(83,rO),(114,SJ),(141,WY)],aW:=aD.G Tryz.prog,eqs:=bc,N:=63,fuel:=64,loops:=[(6,⟨[2,4,6,8,9], [],[0,1,2],3, [], [], [], []⟩)],blocks:=[(0,⟨[4,8], [],[1,2],3, [], [], [], []⟩)],fq:=some ⟨[4,5], [],[1],2, [], [], [], []⟩,fid:=106}
theorem aow:aE Tryz.prog US:=aX Z8 bg ⟨sF,⟨Vh,⟨aeN,trivial⟩⟩⟩
theorem ahR {R:Type}:br (R:=R) (hnd 0 bL) US Z5 (sub [1,1,1,1,0,1,0,0] Qp) (HS.V Ib) (HS.st Ib) (HS.sh Ib) N2 (bw Ib N2):=aN Ib N2 (λ_ _=>rfl) (by intro q v K;kernel_rfl)
theorem aj6 {R:Type}:aI (R:=R) (hnd 0 bL) US Z5 Qp:=aA (l:=[sub [1,1,1,1,0,1,0,0] Qp]) (by kernel_rfl) (aG (b:=sub [1,1,1,1,0,1,0,0] Qp) (rid:=6) (by kernel_rfl) (by kernel_rfl) ahR (trivial))
theorem agP:aK Tryz.prog 106 VY:=aY Tryz.f106 aow bD (d:=0) dU aj6 (bh (by kernel_rfl)) (toY:=SY)
end
end Go.Eng
namespace Go.Eng
noncomputable section
open Go Go.Proofs
def ada:(Fs×au×Int×Str)->Option (Fs×Int):=λx=>kY x.1 x.2.1 x.2.2.1 x.2.2.2
def WT:Spec:=aL TD vk WJ L1 ada
def ac0:Cfg:={T:=CO,spec:=[(71,Bs),(77,Kf),(83,rO),(107,Rr),(111,Mw)],aW:=aD.G Tryz.prog,eqs:=bc,N:=63,fuel:=64,fid:=103}
theorem ajB:aE Tryz.prog ac0:=aX EF bg ⟨DG,⟨KN,⟨sF,⟨TH,⟨PL,trivial⟩⟩⟩⟩⟩
theorem ajM:aK Tryz.prog 103 WT:=aZ Tryz.f103 ajB bD (toY:=K3)
end
end Go.Eng
namespace Go.Eng
noncomputable section
open Go Go.Proofs
def afx:(Fs×Int×Str)->Option (Fs×Int):=λx=>pe x.1 x.2.1 x.2.2
def Z7:Spec:=aL Uq vk X1 L1 afx
def abQ:Cfg:={T:=Th,spec:=[(71,Bs),(77,Kf),(83,rO)],aW:=aD.G Tryz.prog,eqs:=bc,N:=31,fuel:=64,fid:=105}
theorem ao4:aE Tryz.prog abQ:=aX Xq bg ⟨DG,⟨KN,⟨sF,trivial⟩⟩⟩
theorem aob:aK Tryz.prog 105 Z7:=aZ Tryz.f105 ao4 bD (toY:=K3)
end
end Go.Eng
namespace Go.Eng
noncomputable section
open Go Go.Proofs
def ams:(Fs×au×au)->Option (Fs):=λx=>pH x.1 x.2.1 x.2.2
def X4:Spec:=aL Ts kq Yr xP ams
def amT:Cfg:={T:=CO,spec:=[(62,OB),(71,Bs),(83,rO),(107,Rr),(108,QB)],aW:=aD.G Tryz.prog,eqs:=bc,N:=70,fuel:=64,fid:=60}
theorem abI:aE Tryz.prog amT:=aX EF bg ⟨SG,⟨DG,⟨sF,⟨TH,⟨UG,trivial⟩⟩⟩⟩⟩
theorem aok:aK Tryz.prog 60 X4:=aZ Tryz.f60 abI bD (toY:=xT)
end
end Go.Eng
namespace Go.Eng
noncomputable section
open Go Go.Proofs
def Gr:List (Nat×TI):=[(3,⟨false,1, .one (.int .i64 0), .int .i64⟩),(4,⟨false,1, .one (.bool false), .bool⟩),(9,⟨false,1, .one (.str []), .str⟩),(24,⟨true,4, .agg [.int .i64 0, .int .i64 0, .int .i64 0, .clip .aM []], .struct [(0,3),(1,3),(2,3),(3,22)]⟩),(25,⟨false,1, .one (.clip .kept []), .slice .kept 57⟩),(27,⟨true,2, .agg [.clip .kept [], .clip .aM []], .struct [(0,25),(1,22)]⟩),(29,⟨true,6, .agg [.int .i64 0, .int .i64 0, .int .i64 0, .clip .aM [], .clip .kept [], .clip .aM []], .struct [(0,24),(4,27)]⟩),(46,⟨true,5, .agg [.int .i64 0, .int .i64 0, .str [], .str [], .str []], .struct [(0,3),(1,3),(2,9),(3,9),(4,9)]⟩),(57,⟨true,4, .agg [.int .i64 0, .int .i64 0, .bool false, .str []], .struct [(0,3),(1,3),(2,4),(3,9)]⟩),(73,⟨false,1, .one (.clip .entry []), .slice .entry 103⟩),(75,⟨true,6, .agg [.int .i64 0, .int .i64 0, .int .i64 0, .str [], .int .i64 0, .clip .entry []], .struct [(0,3),(1,3),(2,3),(3,9),(4,3),(5,73)]⟩),(87,⟨true,3, .agg [.int .i64 0, .str [], .int .i64 0], .struct [(0,3),(1,9),(2,3)]⟩)]
theorem Jh:(Gr.all λx=>tiB Tryz.prog x.1 x.2)=true:=by kernel_rfl
def Pk:Code:=bd Tryz.f36
def VM:List HV:=[.agg hFs, .one (.str), .one (.int .i64)]
def adB:HP.V VM->Fs×Str×Int:=λv=>((cFs v.1),v.2.1,v.2.2.1)
def al3:(Fs×Str×Int)->Option (au×ao×Int):=λx=>iB x.1 x.2.1 x.2.2
def O0:Spec:=aL VM PK adB W_ al3
def afK:Cfg:={T:=Gr,spec:=[(83,rO),(106,VY)],aW:=aD.G Tryz.prog,eqs:=bc,N:=48,fuel:=64,fid:=58}
theorem ah4:aE Tryz.prog afK:=aX Jh bg ⟨sF,⟨agP,trivial⟩⟩
theorem Tl:aK Tryz.prog 58 O0:=aZ Tryz.f58 ah4 bD (toY:=Yb)
def aeq:(aq×Str×Int×Str)->Option (aq×Int):=λx=>k_ x.1 x.2.1 x.2.2.1 x.2.2.2
def WL:Spec:=aL U0 im XZ lY aeq
def alu:Cfg:={T:=Gr,spec:=[(58,O0),(103,WT)],aW:=aD.G Tryz.prog,eqs:=bc,N:=40,fuel:=64,fid:=55}
theorem ae2:aE Tryz.prog alu:=aX Jh bg ⟨Tl,⟨ajM,trivial⟩⟩
theorem adh:aK Tryz.prog 55 WL:=aZ Tryz.f55 ae2 bD (toY:=lM)
def ad3:(Fs×Str)->Option (ao×Int):=λx=>kW x.1 x.2
def Ud:Spec:=aL Gp PJ JW XJ ad3
def al8:Cfg:={T:=Gr,spec:=[(58,O0)],aW:=aD.G Tryz.prog,eqs:=bc,N:=32,fuel:=64,fid:=56}
theorem amA:aE Tryz.prog al8:=aX Jh bg ⟨Tl,trivial⟩
theorem Y5:aK Tryz.prog 56 Ud:=aZ Tryz.f56 amA bD (toY:=V5)
def afm:(aq×Opn)->Option (aq×Int):=λx=>lC x.1 x.2
def Xw:Spec:=aL uB im vw lY afm
def agR:Cfg:={T:=Gr,spec:=[(56,Ud),(104,YV),(105,Z7)],aW:=aD.G Tryz.prog,eqs:=bc,N:=74,fuel:=64,fid:=57}
theorem akk:aE Tryz.prog agR:=aX Jh bg ⟨Y5,⟨am3,⟨aob,trivial⟩⟩⟩
theorem anJ:aK Tryz.prog 57 Xw:=aZ Tryz.f57 akk bD (toY:=lM)
def Ga:HS:=⟨[(2, .one (.ptr 0 0)),(4, .one (.ptr 2 0)),(20, .one (.ptr 3 0)),(21, .one (.ptr 4 0)),(23, .one (.int .i64))],[(0, .cells hW),(2, .cells hW),(3, .cells [.int .i64, .str, .int .i64]),(4, .cells hIn)],5⟩
def Ru {R:Type}:Nat->HS.V Ga->(Ex->St->Option R)->Option R:=λq v K=>
 fG (cW v.2.1) (cIn v.2.2.2.2.1) (K .ret {az:=[(4, .v (.one (.ptr 2 0))),(5, .v (.one (.int .i64 (13:Int))))],mem:=[(2, .cells [.int .i64 ((cW v.2.1).fs.ay), .int .i64 ((cW v.2.1).fs.aB), .int .i64 ((cW v.2.1).fs.next), .sl .aM ((cW v.2.1).fs.aa), .sl .kept ((cW v.2.1).al.kept), .sl .aM ((cW v.2.1).al.aO)])],nx:=3}) (K (.exit 1) {az:=[(2, .v (.one (.ptr 0 0))),(4, .v (.one (.ptr 2 0))),(20, .v (.one (.ptr 3 0)))],mem:=[(0, .cells [.int .i64 ((cW v.2.1).fs.ay), .int .i64 ((cW v.2.1).fs.aB), .int .i64 ((cW v.2.1).fs.next), .sl .aM ((cW v.2.1).fs.aa), .sl .kept ((cW v.2.1).al.kept), .sl .aM ((cW v.2.1).al.aO)]),(2, .cells [.int .i64 ((cW v.2.2.1).fs.ay), .int .i64 ((cW v.2.2.1).fs.aB), .int .i64 ((cW v.2.2.1).fs.next), .sl .aM ((cW v.2.2.1).fs.aa), .sl .kept ((cW v.2.2.1).al.kept), .sl .aM ((cW v.2.2.1).al.aO)]),(3, .cells [.int .i64 ((⟨v.2.2.2.1.1,v.2.2.2.1.2.1,v.2.2.2.1.2.2.1⟩:au).dir), .str ((⟨v.2.2.2.1.1,v.2.2.2.1.2.1,v.2.2.2.1.2.2.1⟩:au).name), .int .i64 ((⟨v.2.2.2.1.1,v.2.2.2.1.2.1,v.2.2.2.1.2.2.1⟩:au).ino)])],nx:=4}) q v.1.2.2.2.2.1
def ac4:(aq×Opn)->Option (aq×Int):=λx=>u_ x.1 x.2
def YR:Spec:=aL uB im vw lY ac4
def Yz {R:Type}:List (Nat×Hd R):=[(45,bw Ga Ru)]
def SV:Cfg:={T:=Gr,spec:=[(42,M_),(55,WL),(56,Ud),(57,Xw),(58,O0),(59,Va),(60,X4),(61,ZU),(62,OB),(63,aaJ),(64,JG),(65,Vf)],aW:=aD.G Tryz.prog,eqs:=bc,N:=290,fuel:=64,loops:=[(45,⟨[2,4,20,21,23], [],[0,2,3,4],5, [],[2], [], []⟩)],blocks:=[(0,⟨[2,3,4], [],[0,1,2],3, [],[2], [], []⟩),(1,⟨[2,4,20], [],[0,2,3],4, [], [], [], []⟩)],fq:=some ⟨[4,5], [],[2],3, [], [], [], []⟩,fid:=36}
theorem an1:aE Tryz.prog SV:=aX Jh bg ⟨UC,⟨adh,⟨Y5,⟨anJ,⟨Tl,⟨Xb,⟨aok,⟨akn,⟨SG,⟨aoV,⟨L9,⟨anL,trivial⟩⟩⟩⟩⟩⟩⟩⟩⟩⟩⟩⟩
theorem amZ {R:Type}:br (R:=R) (hnd 0 bL) SV Yz (sub [1,1,0,1,0,1,1,1,1,1,1,1,1,1,1,1,1,1,0,1,1,1,1,0,1,0,0] Pk) (HS.V Ga) (HS.st Ga) (HS.sh Ga) Ru (bw Ga Ru):=aN Ga Ru (λ_ _=>rfl) (by intro q v K;kernel_rfl)
theorem ah6 {R:Type}:aI (R:=R) (hnd 0 bL) SV Yz Pk:=aA (l:=[sub [1,1,0,1,0,1,1,1,1,1,1,1,1,1,1,1,1,1,0,1,1,1,1,0,1,0,0] Pk]) (by kernel_rfl) (aG (b:=sub [1,1,0,1,0,1,1,1,1,1,1,1,1,1,1,1,1,1,0,1,1,1,1,0,1,0,0] Pk) (rid:=45) (by kernel_rfl) (by kernel_rfl) amZ (trivial))
theorem anN:aK Tryz.prog 36 YR:=aY Tryz.f36 an1 bD (d:=0) dU ah6 (bh (by kernel_rfl)) (toY:=lM)
def akE:Opn->Option (Opn×Bool):=λx=>oi x
def Y2:Spec:=aL Mf Pb Rz aaz akE
def alU:Cfg:={T:=Gr,aW:=aD.G Tryz.prog,eqs:=bc,N:=40,fuel:=64,fid:=41}
theorem aa_:aE Tryz.prog alU:=aX Jh bg trivial
theorem al_:aK Tryz.prog 41 Y2:=aZ Tryz.f41 aa_ bD (toY:=Yf)
end
end Go.Eng
namespace Go.Eng
noncomputable section
open Go Go.Proofs
def Pj:Code:=bd Tryz.f14
def Ny:Code:=bd Tryz.f18
def Of:Code:=bd Tryz.f20
def G4:HS:=⟨[(1, .one (.sl .opn)),(2, .one (.int .i64)),(3, .one (.ptr 0 0)),(6, .one (.ptr 1 0)),(9, .one (.int .i64))],[(0, .cells hW),(1, .cells hW)],2⟩
def Qs {R:Type}:Nat->HS.V G4->(Ex->St->Option R)->Option R:=λq v K=>
 iW v.1.1 v.1.2.1 (λy8 y9 y10=>K .ret {az:=[(6, .v (.one (.ptr 1 0))),(7, .v (.one (.int .i64 y8))),(8, .v (.one (.int .i64 y9)))],mem:=[(1, .cells [.int .i64 y10.fs.ay, .int .i64 y10.fs.aB, .int .i64 y10.fs.next, .sl .aM y10.fs.aa, .sl .kept y10.al.kept, .sl .aM y10.al.aO])],nx:=2}) (λy11 y12=>K (.exit 0) {az:=[(3, .v (.one (.ptr 0 0))),(6, .v (.one (.ptr 1 0))),(9, .v (.one (.int .i64 y11)))],mem:=[(0, .cells [.int .i64 y12.fs.ay, .int .i64 y12.fs.aB, .int .i64 y12.fs.next, .sl .aM y12.fs.aa, .sl .kept y12.al.kept, .sl .aM y12.al.aO]),(1, .cells [.int .i64 ((cW v.2.2.1).fs.ay), .int .i64 ((cW v.2.2.1).fs.aB), .int .i64 ((cW v.2.2.1).fs.next), .sl .aM ((cW v.2.2.1).fs.aa), .sl .kept ((cW v.2.2.1).al.kept), .sl .aM ((cW v.2.2.1).al.aO)])],nx:=2}) q v.1.2.2.2.2.1 (cW v.2.1)
def anE:(aq×(List Opn)×Int)->Option (aq×Int×Int):=λx=>kD x.1 x.2.1 x.2.2
def MV:Spec:=aL FU Gx KO Wo anE
def aaL {R:Type}:List (Nat×Hd R):=[(2,bw G4 Qs)]
def SL:Cfg:={T:=Bx,spec:=[(36,YR)],aW:=aD.G Tryz.prog,eqs:=bc,N:=40,fuel:=64,loops:=[(2,⟨[1,2,3,6,9], [],[0,1],2, [],[1], [], []⟩)],blocks:=[(0,⟨[3,6,9], [],[0,1],2, [], [], [], []⟩)],fq:=some ⟨[6,7,8], [],[1],2, [], [], [], []⟩,fid:=14}
theorem ahE:aE Tryz.prog SL:=aX C9 bg ⟨anN,trivial⟩
theorem acO {R:Type}:br (R:=R) (hnd 0 bL) SL aaL (sub [1,1,0,0,0] Pj) (HS.V G4) (HS.st G4) (HS.sh G4) Qs (bw G4 Qs):=aN G4 Qs (λ_ _=>rfl) (by intro q v K;kernel_rfl)
theorem acf {R:Type}:aI (R:=R) (hnd 0 bL) SL aaL Pj:=aA (l:=[sub [1,1,0,0,0] Pj]) (by kernel_rfl) (aG (b:=sub [1,1,0,0,0] Pj) (rid:=2) (by kernel_rfl) (by kernel_rfl) acO (trivial))
theorem NT:aK Tryz.prog 14 MV:=aY Tryz.f14 ahE bD (d:=0) dU acf (bh (by kernel_rfl)) (toY:=Yl)
def F2:HS:=⟨[(0, .one (.sl .opn)),(3, .one (.own 0)),(4, .one (.int .i64))],[(0, .row .opn)],1⟩
def Nr {R:Type}:Nat->HS.V F2->(Ex->St->Option R)->Option R:=λq v K=>
 fL v.1.1 (λy6=>K (.exit 0) {az:=[(3, .v (.one (.own 0)))],mem:=[(0, .row .opn y6)],nx:=1}) q v.1.2.2.1 v.2.1
def abM:(List Opn)->Option ((List Opn)):=λx=>kT x
def Q9:Spec:=aL xW xW GA Wk abM
def aaM {R:Type}:List (Nat×Hd R):=[(3,bw F2 Nr)]
def U9:Cfg:={T:=Bx,spec:=[(41,Y2)],aW:=aD.G Tryz.prog,eqs:=bc,N:=28,fuel:=64,loops:=[(3,⟨[0,3,4],[(3,0, .opn)],[0],1, [], [], [], []⟩)],blocks:=[(0,⟨[3], [],[0],1, [], [], [], []⟩)],fid:=18}
theorem adO:aE Tryz.prog U9:=aX C9 bg ⟨al_,trivial⟩
theorem aeY {R:Type}:br (R:=R) (hnd 0 bL) U9 aaM (sub [1,1,0,1,0,0] Ny) (HS.V F2) (HS.st F2) (HS.sh F2) Nr (bw F2 Nr):=aN F2 Nr (λ_ _=>rfl) (by intro q v K;kernel_rfl)
theorem aiL {R:Type}:aI (R:=R) (hnd 0 bL) U9 aaM Ny:=aA (l:=[sub [1,1,0,1,0,0] Ny]) (by kernel_rfl) (aG (b:=sub [1,1,0,1,0,0] Ny) (rid:=3) (by kernel_rfl) (by kernel_rfl) aeY (trivial))
theorem TC:aK Tryz.prog 18 Q9:=aY Tryz.f18 adO bD (d:=0) dU aiL (bh (by kernel_rfl)) (toY:=aam)
def G9:HS:=⟨[(1, .one (.ptr 0 0)),(3, .one (.int .i64)),(4, .one (.int .i64))],[(0, .cells hW)],1⟩
def P4 {R:Type}:Nat->HS.V G9->(Ex->St->Option R)->Option R:=λq v K=>
 hC (cW v.2.1) (λy5=>K (.exit 0) {az:=[(3, .v (.one (.int .i64 y5)))],mem:= [],nx:=0}) q v.1.2.1 v.1.2.2.1
def aid:aq->Option (Int):=λx=>p7 x
def Xd:Spec:=aL uZ Br JQ JF aid
def aaO {R:Type}:List (Nat×Hd R):=[(3,bw G9 P4)]
def Ti:Cfg:={T:=Bx,aW:=aD.G Tryz.prog,eqs:=bc,N:=23,fuel:=64,loops:=[(3,⟨[1,3,4], [],[0],1, [], [], [], []⟩)],blocks:=[(0,⟨[3], [], [],0, [], [], [], []⟩)],fid:=20}
theorem ahv:aE Tryz.prog Ti:=aX C9 bg trivial
theorem adx {R:Type}:br (R:=R) (hnd 0 bL) Ti aaO (sub [1,1,0,1,0,0] Of) (HS.V G9) (HS.st G9) (HS.sh G9) P4 (bw G9 P4):=aN G9 P4 (λ_ _=>rfl) (by intro q v K;kernel_rfl)
theorem abH {R:Type}:aI (R:=R) (hnd 0 bL) Ti aaO Of:=aA (l:=[sub [1,1,0,1,0,0] Of]) (by kernel_rfl) (aG (b:=sub [1,1,0,1,0,0] Of) (rid:=3) (by kernel_rfl) (by kernel_rfl) adx (trivial))
theorem ajO:aK Tryz.prog 20 Xd:=aY Tryz.f20 ahv bD (d:=0) dU abH (bh (by kernel_rfl)) (toY:=JL)
end
end Go.Eng
namespace Go.Eng
noncomputable section
open Go Go.Proofs
def GN:List (Nat×TI):=[(3,⟨false,1, .one (.int .i64 0), .int .i64⟩),(5,⟨false,1, .one (.int .u8 0), .int .u8⟩),(9,⟨false,1, .one (.str []), .str⟩),(22,⟨false,1, .one (.clip .aM []), .slice .aM 75⟩),(24,⟨true,4, .agg [.int .i64 0, .int .i64 0, .int .i64 0, .clip .aM []], .struct [(0,3),(1,3),(2,3),(3,22)]⟩),(25,⟨false,1, .one (.clip .kept []), .slice .kept 57⟩),(27,⟨true,2, .agg [.clip .kept [], .clip .aM []], .struct [(0,25),(1,22)]⟩),(29,⟨true,6, .agg [.int .i64 0, .int .i64 0, .int .i64 0, .clip .aM [], .clip .kept [], .clip .aM []], .struct [(0,24),(4,27)]⟩),(30,⟨false,1, .one (.clip .opn []), .slice .opn 46⟩),(46,⟨true,5, .agg [.int .i64 0, .int .i64 0, .str [], .str [], .str []], .struct [(0,3),(1,3),(2,9),(3,9),(4,9)]⟩),(57,⟨true,4, .agg [.int .i64 0, .int .i64 0, .bool false, .str []], .struct [(0,3),(1,3),(2,4),(3,9)]⟩),(75,⟨true,6, .agg [.int .i64 0, .int .i64 0, .int .i64 0, .str [], .int .i64 0, .clip .entry []], .struct [(0,3),(1,3),(2,3),(3,9),(4,3),(5,73)]⟩)]
theorem JM:(GN.all λx=>tiB Tryz.prog x.1 x.2)=true:=by kernel_rfl
def P2:Code:=bd Tryz.f6
def QX:List HV:= []
def SD:HP.V QX->Unit:=λv=>()
def afe:Unit->Option (Bool):=λx=>cG
def Mb:Spec:=aL QX eE SD dN afe
def aiR:Cfg:={T:=GN,spec:=[(13,KD),(15,Dg),(17,Lt),(19,U7),(32,Ue)],aW:=aD.G Tryz.prog,eqs:=tG,N:=108,fuel:=64,fid:=11}
theorem ad8:aE Tryz.prog aiR:=aX JM um ⟨L3,⟨E8,⟨Rq,⟨XO,⟨XI,trivial⟩⟩⟩⟩⟩
theorem QN:aK Tryz.prog 11 Mb:=aZ Tryz.f11 ad8 bD (toY:=eO)
def oC:List HV:=[.agg hW, .one (.sl .opn)]
def sH:HP.V oC->aq×(List Opn):=λv=>((cW v.1),v.2.1)
def agp:(aq×(List Opn))->Option (Bool):=λx=>jx x.1 x.2
def K0:Spec:=aL oC eE sH dN agp
def am0:Cfg:={T:=GN,spec:=[(33,Td),(34,SZ)],aW:=aD.G Tryz.prog,eqs:=tG,N:=22,fuel:=64,fid:=12}
theorem ahY:aE Tryz.prog am0:=aX JM um ⟨WB,⟨YY,trivial⟩⟩
theorem O9:aK Tryz.prog 12 K0:=aZ Tryz.f12 ahY bD (toY:=eO)
def U1:(aq×(List Opn)×Int)->Option (Bool):=λx=>nb x.1 x.2.1 x.2.2
def abG:Spec:=aL FU eE KO dN U1
def acp:Cfg:={T:=GN,spec:=[(11,Mb),(12,K0),(13,KD),(14,MV),(15,Dg)],aW:=aD.G Tryz.prog,eqs:=tG,N:=51,fuel:=64,fid:=3}
theorem aiV:aE Tryz.prog acp:=aX JM um ⟨QN,⟨O9,⟨L3,⟨NT,⟨E8,trivial⟩⟩⟩⟩⟩
theorem afU:aK Tryz.prog 3 abG:=aZ Tryz.f3 aiV bD (toY:=eO)
def S5:(aq×(List Opn))->Option (Bool):=λx=>mz x.1 x.2
def aje:Spec:=aL oC eE sH dN S5
def abN:Cfg:={T:=GN,spec:=[(11,Mb),(12,K0),(16,N5),(17,Lt),(18,Q9),(19,U7),(20,Xd)],aW:=aD.G Tryz.prog,eqs:=tG,N:=26,fuel:=64,fid:=4}
theorem alK:aE Tryz.prog abN:=aX JM um ⟨QN,⟨O9,⟨RJ,⟨Rq,⟨TC,⟨XO,⟨ajO,trivial⟩⟩⟩⟩⟩⟩⟩
theorem ae9:aK Tryz.prog 4 aje:=aZ Tryz.f4 alK bD (toY:=eO)
def DP:List HV:=[.agg hW, .one (.sl .opn), .one (.int .u8)]
def Jx:HP.V DP->aq×(List Opn)×Int:=λv=>((cW v.1),v.2.1,v.2.2.1)
def T0:(aq×(List Opn)×Int)->Option (Bool):=λx=>nv x.1 x.2.1 x.2.2
def akM:Spec:=aL DP eE Jx dN T0
def aoD:Cfg:={T:=GN,spec:=[(11,Mb),(12,K0),(13,KD),(15,Dg),(17,Lt),(21,RZ),(22,WH)],aW:=aD.G Tryz.prog,eqs:=tG,N:=91,fuel:=64,fid:=5}
theorem anF:aE Tryz.prog aoD:=aX JM um ⟨QN,⟨O9,⟨L3,⟨E8,⟨Rq,⟨Z6,⟨amn,trivial⟩⟩⟩⟩⟩⟩⟩
theorem ahI:aK Tryz.prog 5 akM:=aZ Tryz.f5 anF bD (toY:=eO)
def GX:HS:=⟨[(1, .one (.sl .opn)),(2, .one (.ptr 0 0)),(5, .one (.sl .opn)),(6, .one (.ptr 3 0)),(7, .one (.own 10)),(8, .one (.int .i64))],[(0, .cells hW),(3, .cells hW),(10, .row .opn)],11⟩
def Nu {R:Type}:Nat->HS.V GX->(Ex->St->Option R)->Option R:=λq v K=>
 dL (K (.exit 0) {az:=[(1, .v (.one (.sl .opn v.1.1))),(2, .v (.one (.ptr 0 0))),(5, .v (.one (.sl .opn v.1.2.2.1))),(6, .v (.one (.ptr 3 0)))],mem:=[(0, .cells [.int .i64 ((cW v.2.1).fs.ay), .int .i64 ((cW v.2.1).fs.aB), .int .i64 ((cW v.2.1).fs.next), .sl .aM ((cW v.2.1).fs.aa), .sl .kept ((cW v.2.1).al.kept), .sl .aM ((cW v.2.1).al.aO)]),(3, .cells [.int .i64 ((cW v.2.2.1).fs.ay), .int .i64 ((cW v.2.2.1).fs.aB), .int .i64 ((cW v.2.2.1).fs.next), .sl .aM ((cW v.2.2.1).fs.aa), .sl .kept ((cW v.2.2.1).al.kept), .sl .aM ((cW v.2.2.1).al.aO)])],nx:=4}) q v.1.2.2.2.2.2.1 v.2.2.2.1
def SS:(aq×(List Opn))->Option (Bool):=λx=>mr x.1 x.2
def aiv:Spec:=aL oC eE sH dN SS
def aau {R:Type}:List (Nat×Hd R):=[(11,bw GX Nu)]
def Sd:Cfg:={T:=GN,spec:=[(11,Mb),(12,K0),(13,KD),(15,Dg),(16,N5),(18,Q9)],aW:=aD.G Tryz.prog,eqs:=tG,N:=75,fuel:=64,loops:=[(11,⟨[1,2,5,6,7,8], [],[0,3,10],11, [], [], [], []⟩)],blocks:=[(0,⟨[1,2,5,6], [],[0,3],4, [], [], [], []⟩)],fid:=6,fresh:=[(17,YC)]}
theorem afO:aE Tryz.prog Sd:=aX JM um ⟨QN,⟨O9,⟨L3,⟨E8,⟨RJ,⟨TC,trivial⟩⟩⟩⟩⟩⟩ (fr:=⟨amB,trivial⟩)
theorem alq {R:Type}:br (R:=R) (hnd 0 bL) Sd aau (sub [1,1,1,1,1,1,1,1,1,0,1,0,0] P2) (HS.V GX) (HS.st GX) (HS.sh GX) Nu (bw GX Nu):=aN GX Nu (λ_ _=>rfl) (by intro q v K;kernel_rfl)
theorem ai3 {R:Type}:aI (R:=R) (hnd 0 bL) Sd aau P2:=aA (l:=[sub [1,1,1,1,1,1,1,1,1,0,1,0,0] P2]) (by kernel_rfl) (aG (b:=sub [1,1,1,1,1,1,1,1,1,0,1,0,0] P2) (rid:=11) (by kernel_rfl) (by kernel_rfl) alq (trivial))
theorem akN:aK Tryz.prog 6 aiv:=aY Tryz.f6 afO bD (d:=0) dU ai3 (bh (by kernel_rfl)) (toY:=eO)
end
end Go.Eng
namespace Go.Eng
noncomputable section
open Go Go.Proofs
def vi:List (Nat×TI):=[(3,⟨false,1, .one (.int .i64 0), .int .i64⟩),(4,⟨false,1, .one (.bool false), .bool⟩),(9,⟨false,1, .one (.str []), .str⟩),(22,⟨false,1, .one (.clip .aM []), .slice .aM 75⟩),(24,⟨true,4, .agg [.int .i64 0, .int .i64 0, .int .i64 0, .clip .aM []], .struct [(0,3),(1,3),(2,3),(3,22)]⟩),(25,⟨false,1, .one (.clip .kept []), .slice .kept 57⟩),(27,⟨true,2, .agg [.clip .kept [], .clip .aM []], .struct [(0,25),(1,22)]⟩),(29,⟨true,6, .agg [.int .i64 0, .int .i64 0, .int .i64 0, .clip .aM [], .clip .kept [], .clip .aM []], .struct [(0,24),(4,27)]⟩),(30,⟨false,1, .one (.clip .opn []), .slice .opn 46⟩),(52,⟨false,1, .one (.clip .int []), .slice .int 3⟩),(57,⟨true,4, .agg [.int .i64 0, .int .i64 0, .bool false, .str []], .struct [(0,3),(1,3),(2,4),(3,9)]⟩),(75,⟨true,6, .agg [.int .i64 0, .int .i64 0, .int .i64 0, .str [], .int .i64 0, .clip .entry []], .struct [(0,3),(1,3),(2,3),(3,9),(4,3),(5,73)]⟩)]
theorem vz:(vi.all λx=>tiB Tryz.prog x.1 x.2)=true:=by kernel_rfl
def QP:Code:=bd Tryz.f29
def Be:Code:=bd Tryz.f31
def anO:(aq×(List Opn))->Option (aq×Int):=λx=>qx x.1 x.2
def Wq:Spec:=aL oC im sH lY anO
def abW:Cfg:={T:=vi,spec:=[(14,MV),(18,Q9)],aW:=aD.G Tryz.prog,eqs:=bc,N:=26,fuel:=64,fid:=26}
theorem ami:aE Tryz.prog abW:=aX vz bg ⟨NT,⟨TC,trivial⟩⟩
theorem anq:aK Tryz.prog 26 Wq:=aZ Tryz.f26 ami bD (toY:=lM)
def H3:HS:=⟨[(1, .one (.int .i64)),(2, .one (.str)),(3, .one (.ptr 0 0)),(7, .one (.int .i64))],[(0, .cells hW)],1⟩
def Oh {R:Type}:Nat->HS.V H3->(Ex->St->Option R)->Option R:=λq v K=>
 ep v.1.1 v.1.2.1 (cW v.2.1) (K .ret {az:=[(6, .v (.one (.bool true)))],mem:= [],nx:=0}) (K (.exit 0) {az:=[(1, .v (.one (.int .i64 v.1.1))),(2, .v (.one (.str v.1.2.1))),(3, .v (.one (.ptr 0 0)))],mem:=[(0, .cells [.int .i64 ((cW v.2.1).fs.ay), .int .i64 ((cW v.2.1).fs.aB), .int .i64 ((cW v.2.1).fs.next), .sl .aM ((cW v.2.1).fs.aa), .sl .kept ((cW v.2.1).al.kept), .sl .aM ((cW v.2.1).al.aO)])],nx:=1}) q v.1.2.2.2.1
def F8:HS:=⟨[(1, .one (.int .i64)),(2, .one (.str)),(3, .one (.ptr 0 0)),(8, .one (.int .i64))],[(0, .cells hW)],1⟩
def Oc {R:Type}:Nat->HS.V F8->(Ex->St->Option R)->Option R:=λq v K=>
 eC v.1.1 v.1.2.1 (cW v.2.1) (K .ret {az:=[(6, .v (.one (.bool true)))],mem:= [],nx:=0}) (K (.exit 2) {az:=[(1, .v (.one (.int .i64 v.1.1))),(2, .v (.one (.str v.1.2.1))),(3, .v (.one (.ptr 0 0)))],mem:=[(0, .cells [.int .i64 ((cW v.2.1).fs.ay), .int .i64 ((cW v.2.1).fs.aB), .int .i64 ((cW v.2.1).fs.next), .sl .aM ((cW v.2.1).fs.aa), .sl .kept ((cW v.2.1).al.kept), .sl .aM ((cW v.2.1).al.aO)])],nx:=1}) q v.1.2.2.2.1
def FD:HS:=⟨[(1, .one (.int .i64)),(2, .one (.str)),(3, .one (.ptr 0 0)),(9, .one (.int .i64))],[(0, .cells hW)],1⟩
def NB {R:Type}:Nat->HS.V FD->(Ex->St->Option R)->Option R:=λq v K=>
 cX v.1.1 v.1.2.1 (cW v.2.1) (K .ret {az:=[(6, .v (.one (.bool true)))],mem:= [],nx:=0}) (K (.exit 4) {az:= [],mem:= [],nx:=0}) q v.1.2.2.2.1
def UA:List HV:=[.agg hW, .one (.int .i64), .one (.str)]
def WZ:HP.V UA->aq×Int×Str:=λv=>((cW v.1),v.2.1,v.2.2.1)
def acT:(aq×Int×Str)->Option (Bool):=λx=>lV x.1 x.2.1 x.2.2
def Ui:Spec:=aL UA eE WZ dN acT
def Q3 {R:Type}:List (Nat×Hd R):=[(2,bw H3 Oh),(7,bw F8 Oc),(12,bw FD NB)]
def ME:Cfg:={T:=vi,aW:=aD.G Tryz.prog,eqs:=bc,N:=96,fuel:=64,loops:=[(12,⟨[1,2,3,9], [],[0],1, [], [], [], []⟩),(7,⟨[1,2,3,8], [],[0],1, [], [], [], []⟩),(2,⟨[1,2,3,7], [],[0],1, [], [], [], []⟩)],blocks:=[(4,⟨[], [], [],0, [], [], [], []⟩),(2,⟨[1,2,3], [],[0],1, [], [], [], []⟩),(0,⟨[1,2,3], [],[0],1, [], [], [], []⟩)],fq:=some ⟨[6], [], [],0, [], [], [], []⟩,fid:=31}
theorem amL:aE Tryz.prog ME:=aX vz bg trivial
theorem ail {R:Type}:br (R:=R) (hnd 0 bL) ME Q3 (sub [1,0,1,0,0] Be) (HS.V H3) (HS.st H3) (HS.sh H3) Oh (bw H3 Oh):=aN H3 Oh (λ_ _=>rfl) (by intro q v K;kernel_rfl)
theorem aog {R:Type}:br (R:=R) (hnd 0 bL) ME Q3 (sub [1,1,0,1,0,0] Be) (HS.V F8) (HS.st F8) (HS.sh F8) Oc (bw F8 Oc):=aN F8 Oc (λ_ _=>rfl) (by intro q v K;kernel_rfl)
theorem aoZ {R:Type}:br (R:=R) (hnd 0 bL) ME Q3 (sub [1,1,1,0,1,0,0] Be) (HS.V FD) (HS.st FD) (HS.sh FD) NB (bw FD NB):=aN FD NB (λ_ _=>rfl) (by intro q v K;kernel_rfl)
theorem agw {R:Type}:aI (R:=R) (hnd 0 bL) ME Q3 Be:=aA (l:=[sub [1,0,1,0,0] Be,sub [1,1,0,1,0,0] Be,sub [1,1,1,0,1,0,0] Be]) (by kernel_rfl) (aG (b:=sub [1,0,1,0,0] Be) (rid:=2) (by kernel_rfl) (by kernel_rfl) ail (aG (b:=sub [1,1,0,1,0,0] Be) (rid:=7) (by kernel_rfl) (by kernel_rfl) aog (aG (b:=sub [1,1,1,0,1,0,0] Be) (rid:=12) (by kernel_rfl) (by kernel_rfl) aoZ (trivial))))
theorem ZZ:aK Tryz.prog 31 Ui:=aY Tryz.f31 amL bD (d:=0) dU agw (bh (by kernel_rfl)) (toY:=eO)
def Gj:HS:=⟨[(2, .one (.ptr 0 0)),(3, .one (.ptr 1 0)),(5, .one (.own 2)),(6, .one (.int .i64))],[(0, .cells hFs),(1, .cells hW),(2, .row .int)],3⟩
def O6 {R:Type}:Nat->HS.V Gj->(Ex->St->Option R)->Option R:=λq v K=>
 eU (cFs v.2.1) (cW v.2.2.1) (λy7=>K (.exit 0) {az:=[(5, .v (.one (.own 2)))],mem:=[(2, .row .int y7)],nx:=3}) q v.1.2.2.2.1 v.2.2.2.1
def UT:List HV:=[.agg hFs, .agg hW]
def NW:List HV:=[.one (.sl .int)]
def WV:HP.V UT->Fs×aq:=λv=>((cFs v.1),(cW v.2.1))
def Vw:HX.V NW->(List Int):=λv=>(v)
def Wj:(List Int)->HX.V NW:=λy=>(y)
def ai_:(Fs×aq)->Option ((List Int)):=λx=>qd x.1 x.2
def Xx:Spec:=aL UT NW WV Wj ai_
def ZC {R:Type}:List (Nat×Hd R):=[(3,bw Gj O6)]
def Sh:Cfg:={T:=vi,spec:=[(31,Ui)],aW:=aD.G Tryz.prog,eqs:=bc,N:=38,fuel:=64,loops:=[(3,⟨[2,3,5,6],[(5,2, .int)],[0,1,2],3, [], [], [], []⟩)],blocks:=[(0,⟨[5], [],[2],3, [], [], [], []⟩)],fid:=29}
theorem ajI:aE Tryz.prog Sh:=aX vz bg ⟨ZZ,trivial⟩
theorem aoA {R:Type}:br (R:=R) (hnd 0 bL) Sh ZC (sub [1,1,0,1,0,0] QP) (HS.V Gj) (HS.st Gj) (HS.sh Gj) O6 (bw Gj O6):=aN Gj O6 (λ_ _=>rfl) (by intro q v K;kernel_rfl)
theorem anP {R:Type}:aI (R:=R) (hnd 0 bL) Sh ZC QP:=aA (l:=[sub [1,1,0,1,0,0] QP]) (by kernel_rfl) (aG (b:=sub [1,1,0,1,0,0] QP) (rid:=3) (by kernel_rfl) (by kernel_rfl) aoA (trivial))
theorem ab3:aK Tryz.prog 29 Xx:=aY Tryz.f29 ajI bD (d:=0) dU anP (bh (by kernel_rfl)) (toY:=Vw)
end
end Go.Eng
namespace Go.Eng
noncomputable section
open Go Go.Proofs
def PW:Code:=bd Tryz.f28
def adt:Code:=bd Tryz.f30
def aeQ:Code:=bd Tryz.f47
def age:Code:=bd Tryz.f48
def Ph:Code:=bd Tryz.f49
def aj1:(aq×(List Opn))->Option (aq×Int):=λx=>gf x.1 x.2
def Lr:Spec:=aL oC im sH lY aj1
def alz:Cfg:={T:=vi,spec:=[(13,KD),(17,Lt)],aW:=aD.G Tryz.prog,eqs:=bc,N:=26,fuel:=64,fid:=25}
theorem akK:aE Tryz.prog alz:=aX vz bg ⟨L3,⟨Rq,trivial⟩⟩
theorem PY:aK Tryz.prog 25 Lr:=aZ Tryz.f25 akK bD (toY:=lM)
def Ge:HS:=⟨[(0, .one (.sl .aM)),(1, .one (.clo 3)),(7, .one (.int .i64)),(8, .one (.int .i64)),(2000003, .one (.ptr 0 0)),(2000007, .one (.clo 3)),(2000008, .one (.clo 4))],[(0, .cells hW),(1, .cells [.int .i64]),(2, .cells [.str]),(3, .clo 47 [] [.ptr 1 0, .ptr 2 0]),(4, .clo 48 [] [.ptr 1 0, .ptr 2 0])],5⟩
def Q8 {R:Type}:Nat->HS.V Ge->(Ex->St->Option R)->Option R:=λq v K=>
 cV v.1.1 v.1.2.2.1 v.2.2.1.1 v.2.2.2.1.1 (λy8=>K .ret {az:=[(4, .v (.one (.int .i64 y8))),(2000003, .v (.one (.ptr 0 0))),(2000007, .v (.one (.clo 3))),(2000008, .v (.one (.clo 4)))],mem:=[(0, .cells [.int .i64 ((cW v.2.1).fs.ay), .int .i64 ((cW v.2.1).fs.aB), .int .i64 ((cW v.2.1).fs.next), .sl .aM ((cW v.2.1).fs.aa), .sl .kept ((cW v.2.1).al.kept), .sl .aM ((cW v.2.1).al.aO)]),(1, .cells [.int .i64 v.2.2.1.1]),(2, .cells [.str v.2.2.2.1.1]),(3, .clo 47 [] [.ptr 1 0, .ptr 2 0]),(4, .clo 48 [] [.ptr 1 0, .ptr 2 0])],nx:=5}) (K (.exit 0) {az:=[(2000003, .v (.one (.ptr 0 0))),(2000007, .v (.one (.clo 3))),(2000008, .v (.one (.clo 4)))],mem:=[(0, .cells [.int .i64 ((cW v.2.1).fs.ay), .int .i64 ((cW v.2.1).fs.aB), .int .i64 ((cW v.2.1).fs.next), .sl .aM ((cW v.2.1).fs.aa), .sl .kept ((cW v.2.1).al.kept), .sl .aM ((cW v.2.1).al.aO)]),(1, .cells [.int .i64 v.2.2.1.1]),(2, .cells [.str v.2.2.2.1.1]),(3, .clo 47 [] [.ptr 1 0, .ptr 2 0]),(4, .clo 48 [] [.ptr 1 0, .ptr 2 0])],nx:=5}) q v.1.2.2.2.1
def Ht:HS:=⟨[(0, .one (.sl .aM)),(1, .one (.clo 3)),(7, .one (.int .i64)),(8, .one (.int .i64)),(2000003, .one (.ptr 0 0)),(2000008, .one (.clo 4)),(2000016, .one (.bool))],[(0, .cells hW),(1, .cells [.int .i64]),(2, .cells [.str]),(3, .clo 47 [] [.ptr 1 0, .ptr 2 0]),(4, .clo 48 [] [.ptr 1 0, .ptr 2 0])],5⟩
def Qe {R:Type}:Nat->HS.V Ht->(Ex->St->Option R)->Option R:=λq v K=>
 cC v.1.1 v.1.2.2.1 v.2.2.1.1 v.2.2.2.1.1 (λy24=>K .ret {az:=[(4, .v (.one (.int .i64 y24))),(2000003, .v (.one (.ptr 0 0))),(2000008, .v (.one (.clo 4))),(2000016, .v (.one (.bool v.1.2.2.2.2.2.2.1)))],mem:=[(0, .cells [.int .i64 ((cW v.2.1).fs.ay), .int .i64 ((cW v.2.1).fs.aB), .int .i64 ((cW v.2.1).fs.next), .sl .aM ((cW v.2.1).fs.aa), .sl .kept ((cW v.2.1).al.kept), .sl .aM ((cW v.2.1).al.aO)]),(1, .cells [.int .i64 v.2.2.1.1]),(2, .cells [.str v.2.2.2.1.1]),(4, .clo 48 [] [.ptr 1 0, .ptr 2 0])],nx:=5}) (K (.exit 0) {az:=[(2000003, .v (.one (.ptr 0 0))),(2000008, .v (.one (.clo 4))),(2000016, .v (.one (.bool v.1.2.2.2.2.2.2.1)))],mem:=[(0, .cells [.int .i64 ((cW v.2.1).fs.ay), .int .i64 ((cW v.2.1).fs.aB), .int .i64 ((cW v.2.1).fs.next), .sl .aM ((cW v.2.1).fs.aa), .sl .kept ((cW v.2.1).al.kept), .sl .aM ((cW v.2.1).al.aO)]),(1, .cells [.int .i64 v.2.2.1.1]),(2, .cells [.str v.2.2.2.1.1]),(4, .clo 48 [] [.ptr 1 0, .ptr 2 0])],nx:=5}) q v.1.2.2.2.1
def FG:HS:=⟨[(0, .one (.sl .kept)),(1, .one (.clo 4)),(7, .one (.int .i64)),(8, .one (.int .i64)),(2000023, .one (.bool))],[(1, .cells [.int .i64]),(2, .cells [.str]),(4, .clo 48 [] [.ptr 1 0, .ptr 2 0])],5⟩
def OD {R:Type}:Nat->HS.V FG->(Ex->St->Option R)->Option R:=λq v K=>
 bY v.1.1 v.1.2.2.1 v.2.1.1 v.2.2.1.1 (λy41=>K .ret {az:=[(4, .v (.one (.int .i64 y41))),(2000023, .v (.one (.bool v.1.2.2.2.2.1)))],mem:= [],nx:=0}) (K (.exit 0) {az:=[(2000023, .v (.one (.bool v.1.2.2.2.2.1)))],mem:= [],nx:=0}) q v.1.2.2.2.1
def acF:(aq×Int×Str)->Option (Bool):=λx=>fR x.1 x.2.1 x.2.2
def M3:Spec:=aL UA eE WZ dN acF
def W7:Cfg:={T:=vi,aW:=aD.G Tryz.prog,eqs:=bc,N:=15,fuel:=64,fid:=47}
theorem ahL:aE Tryz.prog W7:=aX vz bg trivial
def ajc {R:Type}:Inl R:= .mk 47 W7 [] aeQ Tryz.f47.results.toList []
def TA {R:Type}:List (Nat×Hd R):=[(2,bw Ge Q8)]
def FQ {R:Type}:List (Nat×Inl R):=[(16,ajc)]
def Rt:Cfg:={T:=vi,aW:=aD.G Tryz.prog,eqs:=bc,N:=19,fuel:=64,loops:=[(2,⟨[0,1,7,8,2000003,2000007,2000008], [],[0,1,2,3,4],5, [], [], [], []⟩)],blocks:=[(0,⟨[2000003,2000007,2000008], [],[0,1,2,3,4],5, [], [], [], []⟩)],fq:=some ⟨[4,2000003,2000007,2000008], [],[0,1,2,3,4],5, [], [], [], []⟩,fid:=78}
theorem agf:aE Tryz.prog Rt:=aX vz bg trivial
theorem Vy {R:Type}:bt Tryz.prog (R:=R) 1 FQ:=bQ Tryz.f47 ahL (aR _ _)
theorem aj3 {R:Type}:br (R:=R) (hnd 1 FQ) Rt TA (sub [1,0,1,0,0] uf) (HS.V Ge) (HS.st Ge) (HS.sh Ge) Q8 (bw Ge Q8):=aN Ge Q8 (λ_ _=>rfl) (by intro q v K;kernel_rfl)
theorem abq {R:Type}:aI (R:=R) (hnd 1 FQ) Rt TA uf:=aA (l:=[sub [1,0,1,0,0] uf]) (by kernel_rfl) (aG (b:=sub [1,0,1,0,0] uf) (rid:=2) (by kernel_rfl) (by kernel_rfl) aj3 (trivial))
def ahr {R:Type}:Inl R:= .mk 78 Rt TA uf Tryz.f78.results.toList FQ
def Sz {R:Type}:List (Nat×Inl R):=[(7,ahr)]
def Lb:Cfg:={T:=vi,aW:=aD.G Tryz.prog,eqs:=bc,N:=9,fuel:=64,fid:=49}
theorem Xc:aE Tryz.prog Lb:=aX vz bg trivial
theorem aew {R:Type}:bt Tryz.prog (R:=R) 2 Sz:=bJ Tryz.f78 agf abq (bh (by kernel_rfl)) Vy (aR _ _)
theorem alh {R:Type}:aI (R:=R) (hnd 2 Sz) Lb cw Ph:=aA (l:= []) (by kernel_rfl) (trivial)
def acq {R:Type}:Inl R:= .mk 49 Lb cw Ph Tryz.f49.results.toList Sz
def So {R:Type}:List (Nat×Hd R):=[(2,bw Ht Qe)]
def Q4:Cfg:={T:=vi,aW:=aD.G Tryz.prog,eqs:=bc,N:=19,fuel:=64,loops:=[(2,⟨[0,1,7,8,2000003,2000008,2000016], [],[0,1,2,3,4],5, [], [], [], []⟩)],blocks:=[(0,⟨[2000003,2000008,2000016], [],[0,1,2,4],5, [], [], [], []⟩)],fq:=some ⟨[4,2000003,2000008,2000016], [],[0,1,2,4],5, [], [], [], []⟩,fid:=78}
theorem ahy:aE Tryz.prog Q4:=aX vz bg trivial
theorem aeV {R:Type}:br (R:=R) (hnd 1 FQ) Q4 So (sub [1,0,1,0,0] uf) (HS.V Ht) (HS.st Ht) (HS.sh Ht) Qe (bw Ht Qe):=aN Ht Qe (λ_ _=>rfl) (by intro q v K;kernel_rfl)
theorem ao2 {R:Type}:aI (R:=R) (hnd 1 FQ) Q4 So uf:=aA (l:=[sub [1,0,1,0,0] uf]) (by kernel_rfl) (aG (b:=sub [1,0,1,0,0] uf) (rid:=2) (by kernel_rfl) (by kernel_rfl) aeV (trivial))
def ajr {R:Type}:Inl R:= .mk 78 Q4 So uf Tryz.f78.results.toList FQ
def Sy {R:Type}:List (Nat×Inl R):=[(7,ajr)]
theorem afs {R:Type}:bt Tryz.prog (R:=R) 2 Sy:=bJ Tryz.f78 ahy ao2 (bh (by kernel_rfl)) Vy (aR _ _)
theorem akO {R:Type}:aI (R:=R) (hnd 2 Sy) Lb cw Ph:=aA (l:= []) (by kernel_rfl) (trivial)
def afD {R:Type}:Inl R:= .mk 49 Lb cw Ph Tryz.f49.results.toList Sy
def XG:Cfg:={T:=vi,aW:=aD.G Tryz.prog,eqs:=bc,N:=17,fuel:=64,fid:=48}
theorem ai2:aE Tryz.prog XG:=aX vz bg trivial
def an3 {R:Type}:Inl R:= .mk 48 XG [] age Tryz.f48.results.toList []
def Tt {R:Type}:List (Nat×Hd R):=[(2,bw FG OD)]
def QK {R:Type}:List (Nat×Inl R):=[(16,an3)]
def Rd:Cfg:={T:=vi,aW:=aD.G Tryz.prog,eqs:=bc,N:=19,fuel:=64,loops:=[(2,⟨[0,1,7,8,2000023], [],[1,2,4],5, [], [], [], []⟩)],blocks:=[(0,⟨[2000023], [], [],0, [], [], [], []⟩)],fq:=some ⟨[4,2000023], [], [],0, [], [], [], []⟩,fid:=79}
theorem abg:aE Tryz.prog Rd:=aX vz bg trivial
theorem alI {R:Type}:bt Tryz.prog (R:=R) 1 QK:=bQ Tryz.f48 ai2 (aR _ _)
theorem amO {R:Type}:br (R:=R) (hnd 1 QK) Rd Tt (sub [1,0,1,0,0] tL) (HS.V FG) (HS.st FG) (HS.sh FG) OD (bw FG OD):=aN FG OD (λ_ _=>rfl) (by intro q v K;kernel_rfl)
theorem ae0 {R:Type}:aI (R:=R) (hnd 1 QK) Rd Tt tL:=aA (l:=[sub [1,0,1,0,0] tL]) (by kernel_rfl) (aG (b:=sub [1,0,1,0,0] tL) (rid:=2) (by kernel_rfl) (by kernel_rfl) amO (trivial))
def agL {R:Type}:Inl R:= .mk 79 Rd Tt tL Tryz.f79.results.toList QK
def S4 {R:Type}:List (Nat×Inl R):=[(7,agL)]
def Um:Cfg:={T:=vi,aW:=aD.G Tryz.prog,eqs:=bc,N:=9,fuel:=64,fid:=50}
theorem afj:aE Tryz.prog Um:=aX vz bg trivial
theorem ad7 {R:Type}:bt Tryz.prog (R:=R) 2 S4:=bJ Tryz.f79 abg ae0 (bh (by kernel_rfl)) alI (aR _ _)
theorem acx {R:Type}:aI (R:=R) (hnd 2 S4) Um cw Rv:=aA (l:= []) (by kernel_rfl) (trivial)
def aj4 {R:Type}:Inl R:= .mk 50 Um cw Rv Tryz.f50.results.toList S4
def VV {R:Type}:List (Nat×Inl R):=[(15,acq),(21,afD),(28,aj4)]
def aax:Cfg:={T:=vi,aW:=aD.G Tryz.prog,eqs:=bc,N:=30,fuel:=64,fid:=30}
theorem aci:aE Tryz.prog aax:=aX vz bg trivial
theorem anz {R:Type}:bt Tryz.prog (R:=R) 3 VV:=bJ Tryz.f49 Xc alh (bh (by kernel_rfl)) aew (bJ Tryz.f49 Xc akO (bh (by kernel_rfl)) afs (bJ Tryz.f50 afj acx (bh (by kernel_rfl)) ad7 (aR _ _)))
theorem aj2 {R:Type}:aI (R:=R) (hnd 3 VV) aax cw adt:=aA (l:= []) (by kernel_rfl) (trivial)
theorem NZ:aK Tryz.prog 30 M3:=aY Tryz.f30 aci bD (d:=3) anz aj2 (bh (by kernel_rfl)) (toY:=eO)
def Hp:HS:=⟨[(3, .one (.ptr 1 0)),(5, .one (.own 2)),(9, .one (.sl .aM)),(10, .one (.int .i64)),(11, .one (.int .i64))],[(1, .cells hW),(2, .row .int)],3⟩
def Ot {R:Type}:Nat->HS.V Hp->(Ex->St->Option R)->Option R:=λq v K=>
 fF v.1.2.2.1 v.1.2.2.2.1 (cW v.2.1) (λy8=>K (.exit 0) {az:=[(5, .v (.one (.own 2)))],mem:=[(2, .row .int y8)],nx:=3}) q v.1.2.2.2.2.1 v.2.2.1
def abd:(Fs×aq)->Option ((List Int)):=λx=>gh x.1 x.2
def Me:Spec:=aL UT NW WV Wj abd
def ZW {R:Type}:List (Nat×Hd R):=[(3,bw Hp Ot)]
def T_:Cfg:={T:=vi,spec:=[(30,M3)],aW:=aD.G Tryz.prog,eqs:=bc,N:=33,fuel:=64,loops:=[(3,⟨[3,5,9,10,11],[(5,2, .int)],[1,2],3, [], [], [], []⟩)],blocks:=[(0,⟨[5], [],[2],3, [], [], [], []⟩)],fid:=28}
theorem ahn:aE Tryz.prog T_:=aX vz bg ⟨NZ,trivial⟩
theorem ahB {R:Type}:br (R:=R) (hnd 0 bL) T_ ZW (sub [1,0,1,1,0,1,0,0] PW) (HS.V Hp) (HS.st Hp) (HS.sh Hp) Ot (bw Hp Ot):=aN Hp Ot (λ_ _=>rfl) (by intro q v K;kernel_rfl)
theorem ahK {R:Type}:aI (R:=R) (hnd 0 bL) T_ ZW PW:=aA (l:=[sub [1,0,1,1,0,1,0,0] PW]) (by kernel_rfl) (aG (b:=sub [1,0,1,1,0,1,0,0] PW) (rid:=3) (by kernel_rfl) (by kernel_rfl) ahB (trivial))
theorem Nq:aK Tryz.prog 28 Me:=aY Tryz.f28 ahn bD (d:=0) dU ahK (bh (by kernel_rfl)) (toY:=Vw)
end
end Go.Eng
namespace Go.Eng
noncomputable section
open Go Go.Proofs
def D7:List (Nat×TI):=[(3,⟨false,1, .one (.int .i64 0), .int .i64⟩),(4,⟨false,1, .one (.bool false), .bool⟩),(5,⟨false,1, .one (.int .u8 0), .int .u8⟩),(9,⟨false,1, .one (.str []), .str⟩),(22,⟨false,1, .one (.clip .aM []), .slice .aM 75⟩),(24,⟨true,4, .agg [.int .i64 0, .int .i64 0, .int .i64 0, .clip .aM []], .struct [(0,3),(1,3),(2,3),(3,22)]⟩),(25,⟨false,1, .one (.clip .kept []), .slice .kept 57⟩),(27,⟨true,2, .agg [.clip .kept [], .clip .aM []], .struct [(0,25),(1,22)]⟩),(29,⟨true,6, .agg [.int .i64 0, .int .i64 0, .int .i64 0, .clip .aM [], .clip .kept [], .clip .aM []], .struct [(0,24),(4,27)]⟩),(30,⟨false,1, .one (.clip .opn []), .slice .opn 46⟩),(46,⟨true,5, .agg [.int .i64 0, .int .i64 0, .str [], .str [], .str []], .struct [(0,3),(1,3),(2,9),(3,9),(4,9)]⟩),(52,⟨false,1, .one (.clip .int []), .slice .int 3⟩),(57,⟨true,4, .agg [.int .i64 0, .int .i64 0, .bool false, .str []], .struct [(0,3),(1,3),(2,4),(3,9)]⟩),(73,⟨false,1, .one (.clip .entry []), .slice .entry 103⟩),(75,⟨true,6, .agg [.int .i64 0, .int .i64 0, .int .i64 0, .str [], .int .i64 0, .clip .entry []], .struct [(0,3),(1,3),(2,3),(3,9),(4,3),(5,73)]⟩),(103,⟨true,2, .agg [.str [], .int .i64 0], .struct [(0,9),(1,3)]⟩)]
theorem HQ:(D7.all λx=>tiB Tryz.prog x.1 x.2)=true:=by kernel_rfl
def Nf:Code:=bd Tryz.f8
def Qu:Code:=bd Tryz.f9
def afY:Unit->Option (aq):=λx=>nW
def WX:Spec:=aL QX uZ SD KT afY
def alb:Cfg:={T:=D7,spec:=[(32,Ue),(71,Bs)],aW:=aD.G Tryz.prog,eqs:=bc,N:=17,fuel:=64,fid:=44}
theorem amY:aE Tryz.prog alb:=aX HQ bg ⟨XI,⟨DG,trivial⟩⟩
theorem al4:aK Tryz.prog 44 WX:=aZ Tryz.f44 amY bD (toY:=LS)
def aa6:Unit->Option (Bool):=λx=>cu
def KQ:Spec:=aL QX eE SD dN aa6
def aoe:Cfg:={T:=D7,spec:=[(14,MV),(15,Dg),(25,Lr),(28,Me),(30,M3),(44,WX)],aW:=aD.G Tryz.prog,eqs:=bc,N:=84,fuel:=64,fid:=23}
theorem acX:aE Tryz.prog aoe:=aX HQ bg ⟨NT,⟨E8,⟨PY,⟨Nq,⟨NZ,⟨al4,trivial⟩⟩⟩⟩⟩⟩
theorem NQ:aK Tryz.prog 23 KQ:=aZ Tryz.f23 acX bD (toY:=eO)
def aeJ:(aq×(List Opn))->Option (Bool):=λx=>kQ x.1 x.2
def MC:Spec:=aL oC eE sH dN aeJ
def ahG:Cfg:={T:=D7,spec:=[(33,Td),(34,SZ)],aW:=aD.G Tryz.prog,eqs:=bc,N:=22,fuel:=64,fid:=24}
theorem amy:aE Tryz.prog ahG:=aX HQ bg ⟨WB,⟨YY,trivial⟩⟩
theorem N3:aK Tryz.prog 24 MC:=aZ Tryz.f24 amy bD (toY:=eO)
def S8:(aq×(List Opn))->Option (Bool):=λx=>me x.1 x.2
def alO:Spec:=aL oC eE sH dN S8
def ajt:Cfg:={T:=D7,spec:=[(15,Dg),(23,KQ),(24,MC),(25,Lr),(26,Wq)],aW:=aD.G Tryz.prog,eqs:=bc,N:=38,fuel:=64,fid:=7}
theorem aiY:aE Tryz.prog ajt:=aX HQ bg ⟨E8,⟨NQ,⟨N3,⟨PY,⟨anq,trivial⟩⟩⟩⟩⟩
theorem anV:aK Tryz.prog 7 alO:=aZ Tryz.f7 aiY bD (toY:=eO)
def F4:HS:=⟨[(9, .one (.sl .int)),(10, .one (.sl .int)),(11, .one (.int .i64))], [],0⟩
def PI {R:Type}:Nat->HS.V F4->(Ex->St->Option R)->Option R:=λq v K=>
 d_ v.1.1 v.1.2.1 (K .ret {az:=[(8, .v (.one (.bool false)))],mem:= [],nx:=0}) (K (.exit 0) {az:= [],mem:= [],nx:=0}) q v.1.2.2.1
def Ld:List HV:=[.agg hFs, .agg hW, .one (.int .i64), .one (.str)]
def Tn:HP.V Ld->Fs×aq×Int×Str:=λv=>((cFs v.1),(cW v.2.1),v.2.2.1,v.2.2.2.1)
def UF:(Fs×aq×Int×Str)->Option (Bool):=λx=>mw x.1 x.2.1 x.2.2.1 x.2.2.2
def abb:Spec:=aL Ld eE Tn dN UF
def aaj {R:Type}:List (Nat×Hd R):=[(8,bw F4 PI)]
def Uy:Cfg:={T:=D7,spec:=[(23,KQ),(24,MC),(27,X8),(28,Me),(29,Xx),(30,M3),(31,Ui)],aW:=aD.G Tryz.prog,eqs:=bc,N:=67,fuel:=64,loops:=[(8,⟨[9,10,11], [], [],0, [], [], [], []⟩)],blocks:=[(0,⟨[], [], [],0, [], [], [], []⟩)],fq:=some ⟨[8], [], [],0, [], [], [], []⟩,fid:=8}
theorem amw:aE Tryz.prog Uy:=aX HQ bg ⟨NQ,⟨N3,⟨am4,⟨Nq,⟨ab3,⟨NZ,⟨ZZ,trivial⟩⟩⟩⟩⟩⟩⟩
theorem ak1 {R:Type}:br (R:=R) (hnd 0 bL) Uy aaj (sub [1,1,1,1,1,0,1,0,0] Nf) (HS.V F4) (HS.st F4) (HS.sh F4) PI (bw F4 PI):=aN F4 PI (λ_ _=>rfl) (by intro q v K;kernel_rfl)
theorem amX {R:Type}:aI (R:=R) (hnd 0 bL) Uy aaj Nf:=aA (l:=[sub [1,1,1,1,1,0,1,0,0] Nf]) (by kernel_rfl) (aG (b:=sub [1,1,1,1,1,0,1,0,0] Nf) (rid:=8) (by kernel_rfl) (by kernel_rfl) ak1 (trivial))
theorem ajq:aK Tryz.prog 8 abb:=aY Tryz.f8 amw bD (d:=0) dU amX (bh (by kernel_rfl)) (toY:=eO)
def Gc:HS:=⟨[(1, .one (.sl .opn)),(3, .one (.ptr 0 0)),(7, .one (.ptr 1 0)),(8, .one (.int .i64)),(10, .one (.int .i64))],[(0, .cells hW),(1, .cells hW)],2⟩
def Pe {R:Type}:Nat->HS.V Gc->(Ex->St->Option R)->Option R:=λq v K=>
 cT (cW v.2.1) (cW v.2.2.1) (K .ret {az:=[(6, .v (.one (.bool false)))],mem:= [],nx:=0}) (K (.exit 0) {az:=[(1, .v (.one (.sl .opn v.1.1))),(3, .v (.one (.ptr 0 0))),(7, .v (.one (.ptr 1 0))),(8, .v (.one (.int .i64 v.1.2.2.2.1)))],mem:=[(0, .cells [.int .i64 ((cW v.2.1).fs.ay), .int .i64 ((cW v.2.1).fs.aB), .int .i64 ((cW v.2.1).fs.next), .sl .aM ((cW v.2.1).fs.aa), .sl .kept ((cW v.2.1).al.kept), .sl .aM ((cW v.2.1).al.aO)]),(1, .cells [.int .i64 ((cW v.2.2.1).fs.ay), .int .i64 ((cW v.2.2.1).fs.aB), .int .i64 ((cW v.2.2.1).fs.next), .sl .aM ((cW v.2.2.1).fs.aa), .sl .kept ((cW v.2.2.1).al.kept), .sl .aM ((cW v.2.2.1).al.aO)])],nx:=2}) q v.1.2.2.2.2.1
def TB:(aq×(List Opn)×Int)->Option (Bool):=λx=>j9 x.1 x.2.1 x.2.2
def agV:Spec:=aL DP eE Jx dN TB
def XT {R:Type}:List (Nat×Hd R):=[(7,bw Gc Pe)]
def Tj:Cfg:={T:=D7,spec:=[(14,MV),(15,Dg),(21,RZ),(23,KQ),(24,MC),(25,Lr),(28,Me),(30,M3)],aW:=aD.G Tryz.prog,eqs:=bc,N:=89,fuel:=64,loops:=[(7,⟨[1,3,7,8,10], [],[0,1],2, [], [], [], []⟩)],blocks:=[(0,⟨[1,3,7,8], [],[0,1],2, [], [], [], []⟩)],fq:=some ⟨[6], [], [],0, [], [], [], []⟩,fid:=9}
theorem amD:aE Tryz.prog Tj:=aX HQ bg ⟨NT,⟨E8,⟨Z6,⟨NQ,⟨N3,⟨PY,⟨Nq,⟨NZ,trivial⟩⟩⟩⟩⟩⟩⟩⟩
theorem adK {R:Type}:br (R:=R) (hnd 0 bL) Tj XT (sub [1,1,1,1,0,1,0,0] Qu) (HS.V Gc) (HS.st Gc) (HS.sh Gc) Pe (bw Gc Pe):=aN Gc Pe (λ_ _=>rfl) (by intro q v K;kernel_rfl)
theorem agH {R:Type}:aI (R:=R) (hnd 0 bL) Tj XT Qu:=aA (l:=[sub [1,1,1,1,0,1,0,0] Qu]) (by kernel_rfl) (aG (b:=sub [1,1,1,1,0,1,0,0] Qu) (rid:=7) (by kernel_rfl) (by kernel_rfl) adK (trivial))
theorem af5:aK Tryz.prog 9 agV:=aY Tryz.f9 amD bD (d:=0) dU agH (bh (by kernel_rfl)) (toY:=eO)
def TO:(aq×(List Opn))->Option (Bool):=λx=>mj x.1 x.2
def alM:Spec:=aL oC eE sH dN TO
def amS:Cfg:={T:=D7,spec:=[(15,Dg),(16,N5),(23,KQ),(24,MC),(25,Lr),(28,Me)],aW:=aD.G Tryz.prog,eqs:=bc,N:=64,fuel:=64,fid:=10}
theorem aoo:aE Tryz.prog amS:=aX HQ bg ⟨E8,⟨RJ,⟨NQ,⟨N3,⟨PY,⟨Nq,trivial⟩⟩⟩⟩⟩⟩
theorem aiF:aK Tryz.prog 10 alM:=aZ Tryz.f10 aoo bD (toY:=eO)
end
end Go.Eng
