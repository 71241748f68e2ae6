/- A part of the proofs of the laws of this seat: the engine that reads the program's code, plain functions, or facts of the program's functions. Conditions: none. -/
import Derived.Test.YtmhkgpaphifdpaaGreatDoorE4
import Derived.Test.YtmhkgpaphifdpaaGreatDoorF1
import Derived.Test.YtmhkgpaphifdpaaGreatDoorP1
set_option linter.unusedSectionVars false
set_option linter.unusedVariables false
set_option linter.unusedSimpArgs false
set_option linter.unnecessarySimpa false
set_option linter.unusedVariables false
set_option maxRecDepth 100000
namespace Go.Eng
noncomputable section
open Go Go.Proofs
def qbbf:List (Nat×TI):=[(3,⟨false,1, .one (.int .i64 0), .int .i64⟩),(9,⟨false,1, .one (.str []), .str⟩),(22,⟨false,1, .one (.clip .inode []), .slice .inode 45⟩),(24,⟨true,4, .agg [.int .i64 0, .int .i64 0, .int .i64 0, .clip .inode []], .struct [(0,3),(1,3),(2,3),(3,22)]⟩),(43,⟨false,1, .one (.clip .entry []), .slice .entry 95⟩),(45,⟨true,6, .agg [.int .i64 0, .int .i64 0, .int .i64 0, .str [], .int .i64 0, .clip .entry []], .struct [(0,3),(1,3),(2,3),(3,9),(4,3),(5,43)]⟩),(95,⟨true,2, .agg [.str [], .int .i64 0], .struct [(0,9),(1,3)]⟩),(100,⟨false,1, .one (.clip .int []), .slice .int 3⟩)]
def qbbg:List (Nat×List EK):= []
theorem qbbh:Tryz.prog.follows .mixedOrders=true:=by kernel_rfl
theorem qbbi:(qbbf.all fun x=>tiB Tryz.prog x.1 x.2)=true:=by kernel_rfl
theorem qbbj:(qbbg.all fun x=>eqB Tryz.prog x.1 x.2)=true:=by kernel_rfl
def qbbk:Code:=bd Tryz.f66
def qbbl:Code:=bd Tryz.f67
def qbbm:Code:=bd Tryz.f68
def qbbn:Code:=bd Tryz.f69
def qbbo:Code:=bd Tryz.f70
def qbbp:Code:=bd Tryz.f98
def qbbq:HS:=⟨[(1, .one (.ptr 0 0)),(3, .one (.int .i64))],[(0, .cells hFs)],1⟩
def qbbr {R:Type}:Nat→HS.V qbbq→(Ex→St→Option R)→Option R:=fun q v K=>
 ref07_first_L4 (cFs v.2.1) (K .ret {regs:=[(2, .v (.one (.bool false)))],mem:= [],nx:=0}) (K (.exit 0) {regs:=[(1, .v (.one (.ptr 0 0)))],mem:=[(0, .cells (rFs (cFs v.2.1)))],nx:=1}) q v.1.2.1
def qbbs:List HV:=[.agg hFs]
def qbbt:List HV:=[.one (.bool)]
def qbbu:HP.V qbbs→Fs:=fun v=>((cFs v.1))
def qbbv:HX.V qbbt→Bool:=fun v=>(v)
def qbbw:Bool→HX.V qbbt:=fun y=>(y)
def qbbx:Fs→Option (Bool):=fun x=>ref07_first x
def qbby:Spec:=mkSpec qbbs qbbt qbbu qbbw qbbx
def qbbz {R:Type}:List (Nat×Hd R):=[(4,hdOf qbbq qbbr)]
def qbb0 {R:Type}:List (Nat×Inl R):= []
def qbb1:Cfg:={T:=qbbf,spec:=[(27,qa6z),(96,qa7q)],glob:=GlobL.G Tryz.prog,eqs:=qbbg,N:=69,fuel:=64,loops:=[(4,⟨[1,3], [],[0],1, [], [], [], []⟩)],blocks:=[(0,⟨[1], [],[0],1, [], [], [], []⟩)],retA:=some ⟨[2], [], [],0, [], [], [], []⟩,fid:=66}
theorem qbb2:CfgOK Tryz.prog qbb1:=cfgC qbbi qbbj ⟨qa67,⟨qa7y,trivial⟩⟩
theorem qbb3 {R:Type}:SubsOK Tryz.prog (R:=R) 0 qbb0:=subsOK_nil _ _
theorem qbb4 {R:Type}:LoopOK (R:=R) (hnd 0 qbb0) qbb1 qbbz (sub [1,1,0,1,0,0] qbbk) (HS.V qbbq) (HS.st qbbq) (HS.sh qbbq) qbbr (hdOf qbbq qbbr):=loopOK_of qbbq qbbr (fun _ _=>rfl) (by intro q v K;kernel_rfl)
theorem qbb5 {R:Type}:LoopsOK (R:=R) (hnd 0 qbb0) qbb1 qbbz qbbk:=loopsOK_of (l:=[sub [1,1,0,1,0,0] qbbk]) (by kernel_rfl) (loopsL_cons (b:=sub [1,1,0,1,0,0] qbbk) (rid:=4) (by kernel_rfl) (by kernel_rfl) qbb4 (trivial))
theorem qbb6:SpecOK Tryz.prog 66 qbby:=specOK_a Tryz.f66 qbb2 qbbh (d:=0) qbb3 qbb5 (rngs0 (by kernel_rfl)) (toY:=qbbv)
def qbb7:HS:=⟨[(1, .one (.ptr 0 0)),(3, .one (.int .i64)),(4, .one (.ptr 1 0)),(5, .one (.int .i64))],[(0, .cells hFs),(1, .cells hIn)],2⟩
def qbb8 {R:Type}:Nat→HS.V qbb7→(Ex→St→Option R)→Option R:=fun q v K=>
 ref07_second_L14 (cIn v.2.2.1) (K .ret {regs:=[(2, .v (.one (.bool false)))],mem:= [],nx:=0}) (K (.exit 2) {regs:=[(1, .v (.one (.ptr 0 0))),(3, .v (.one (.int .i64 v.1.2.1)))],mem:=[(0, .cells (rFs (cFs v.2.1)))],nx:=1}) q v.1.2.2.2.1
def qbb9:HS:=⟨[(1, .one (.ptr 0 0)),(3, .one (.int .i64))],[(0, .cells hFs)],1⟩
def qbca {R:Type}:Nat→HS.V qbb9→(Ex→St→Option R)→Option R:=fun q v K=>
 ref07_second_L2 (cFs v.2.1) (K .ret {regs:=[(2, .v (.one (.bool false)))],mem:= [],nx:=0}) (K (.exit 0) {regs:= [],mem:= [],nx:=0}) q v.1.2.1
def qbcb:List HV:=[.agg hFs]
def qbcc:List HV:=[.one (.bool)]
def qbcd:HP.V qbcb→Fs:=fun v=>((cFs v.1))
def qbce:HX.V qbcc→Bool:=fun v=>(v)
def qbcf:Bool→HX.V qbcc:=fun y=>(y)
def qbcg:Fs→Option (Bool):=fun x=>ref07_second x
def qbch:Spec:=mkSpec qbcb qbcc qbcd qbcf qbcg
def qbci {R:Type}:List (Nat×Hd R):=[(2,hdOf qbb9 qbca),(14,hdOf qbb7 qbb8)]
def qbcj {R:Type}:List (Nat×Inl R):= []
def qbck:Cfg:={T:=qbbf,spec:=[(97,qa4b)],glob:=GlobL.G Tryz.prog,eqs:=qbbg,N:=91,fuel:=64,loops:=[(14,⟨[1,3,4,5], [],[0,1],2, [], [], [], []⟩),(2,⟨[1,3], [],[0],1, [], [], [], []⟩)],blocks:=[(0,⟨[], [], [],0, [], [], [], []⟩),(1,⟨[1,3], [],[0],1, [], [], [], []⟩),(2,⟨[1,3], [],[0],1, [], [], [], []⟩)],retA:=some ⟨[2], [], [],0, [], [], [], []⟩,fid:=67}
theorem qbcl:CfgOK Tryz.prog qbck:=cfgC qbbi qbbj ⟨qa4j,trivial⟩
theorem qbcm {R:Type}:SubsOK Tryz.prog (R:=R) 0 qbcj:=subsOK_nil _ _
theorem qbcn {R:Type}:LoopOK (R:=R) (hnd 0 qbcj) qbck qbci (sub [1,0,1,0,0] qbbl) (HS.V qbb9) (HS.st qbb9) (HS.sh qbb9) qbca (hdOf qbb9 qbca):=loopOK_of qbb9 qbca (fun _ _=>rfl) (by intro q v K;kernel_rfl)
theorem qbco {R:Type}:LoopOK (R:=R) (hnd 0 qbcj) qbck qbci (sub [1,0,1,0,0,1,0,0,1,1,1,1,1,1,0,0] qbbl) (HS.V qbb7) (HS.st qbb7) (HS.sh qbb7) qbb8 (hdOf qbb7 qbb8):=loopOK_of qbb7 qbb8 (fun _ _=>rfl) (by intro q v K;kernel_rfl)
theorem qbcp {R:Type}:LoopsOK (R:=R) (hnd 0 qbcj) qbck qbci qbbl:=loopsOK_of (l:=[sub [1,0,1,0,0] qbbl,sub [1,0,1,0,0,1,0,0,1,1,1,1,1,1,0,0] qbbl]) (by kernel_rfl) (loopsL_cons (b:=sub [1,0,1,0,0] qbbl) (rid:=2) (by kernel_rfl) (by kernel_rfl) qbcn (loopsL_cons (b:=sub [1,0,1,0,0,1,0,0,1,1,1,1,1,1,0,0] qbbl) (rid:=14) (by kernel_rfl) (by kernel_rfl) qbco (trivial)))
theorem qbcq:SpecOK Tryz.prog 67 qbch:=specOK_a Tryz.f67 qbcl qbbh (d:=0) qbcm qbcp (rngs0 (by kernel_rfl)) (toY:=qbce)
def qbcr:HS:=⟨[(1, .one (.ptr 0 0)),(3, .one (.int .i64)),(4, .one (.int .i64))],[(0, .cells hFs)],1⟩
def qbcs {R:Type}:Nat→HS.V qbcr→(Ex→St→Option R)→Option R:=fun q v K=>
 ref07_third_L5 v.1.2.1 (cFs v.2.1) (K .ret {regs:=[(2, .v (.one (.bool false)))],mem:= [],nx:=0}) (K (.exit 2) {regs:=[(1, .v (.one (.ptr 0 0))),(3, .v (.one (.int .i64 v.1.2.1)))],mem:=[(0, .cells (rFs (cFs v.2.1)))],nx:=1}) q v.1.2.2.1
def qbct:HS:=⟨[(1, .one (.ptr 0 0)),(3, .one (.int .i64))],[(0, .cells hFs)],1⟩
def qbcu {R:Type}:Nat→HS.V qbct→(Ex→St→Option R)→Option R:=fun q v K=>
 ref07_third_L2 (cFs v.2.1) (K .ret {regs:=[(2, .v (.one (.bool false)))],mem:= [],nx:=0}) (K (.exit 0) {regs:= [],mem:= [],nx:=0}) q v.1.2.1
def qbcv:List HV:=[.agg hFs]
def qbcw:List HV:=[.one (.bool)]
def qbcx:HP.V qbcv→Fs:=fun v=>((cFs v.1))
def qbcy:HX.V qbcw→Bool:=fun v=>(v)
def qbcz:Bool→HX.V qbcw:=fun y=>(y)
def qbc0:Fs→Option (Bool):=fun x=>ref07_third x
def qbc1:Spec:=mkSpec qbcv qbcw qbcx qbcz qbc0
def qbc2 {R:Type}:List (Nat×Hd R):=[(2,hdOf qbct qbcu),(5,hdOf qbcr qbcs)]
def qbc3 {R:Type}:List (Nat×Inl R):= []
def qbc4:Cfg:={T:=qbbf,spec:=[(27,qa6z)],glob:=GlobL.G Tryz.prog,eqs:=qbbg,N:=42,fuel:=64,loops:=[(5,⟨[1,3,4], [],[0],1, [], [], [], []⟩),(2,⟨[1,3], [],[0],1, [], [], [], []⟩)],blocks:=[(0,⟨[], [], [],0, [], [], [], []⟩),(1,⟨[1,3], [],[0],1, [], [], [], []⟩),(2,⟨[1,3], [],[0],1, [], [], [], []⟩)],retA:=some ⟨[2], [], [],0, [], [], [], []⟩,fid:=68}
theorem qbc5:CfgOK Tryz.prog qbc4:=cfgC qbbi qbbj ⟨qa67,trivial⟩
theorem qbc6 {R:Type}:SubsOK Tryz.prog (R:=R) 0 qbc3:=subsOK_nil _ _
theorem qbc7 {R:Type}:LoopOK (R:=R) (hnd 0 qbc3) qbc4 qbc2 (sub [1,0,1,0,0] qbbm) (HS.V qbct) (HS.st qbct) (HS.sh qbct) qbcu (hdOf qbct qbcu):=loopOK_of qbct qbcu (fun _ _=>rfl) (by intro q v K;kernel_rfl)
theorem qbc8 {R:Type}:LoopOK (R:=R) (hnd 0 qbc3) qbc4 qbc2 (sub [1,0,1,0,0,1,0,0,1,0,0] qbbm) (HS.V qbcr) (HS.st qbcr) (HS.sh qbcr) qbcs (hdOf qbcr qbcs):=loopOK_of qbcr qbcs (fun _ _=>rfl) (by intro q v K;kernel_rfl)
theorem qbc9 {R:Type}:LoopsOK (R:=R) (hnd 0 qbc3) qbc4 qbc2 qbbm:=loopsOK_of (l:=[sub [1,0,1,0,0] qbbm,sub [1,0,1,0,0,1,0,0,1,0,0] qbbm]) (by kernel_rfl) (loopsL_cons (b:=sub [1,0,1,0,0] qbbm) (rid:=2) (by kernel_rfl) (by kernel_rfl) qbc7 (loopsL_cons (b:=sub [1,0,1,0,0,1,0,0,1,0,0] qbbm) (rid:=5) (by kernel_rfl) (by kernel_rfl) qbc8 (trivial)))
theorem qbda:SpecOK Tryz.prog 68 qbc1:=specOK_a Tryz.f68 qbc5 qbbh (d:=0) qbc6 qbc9 (rngs0 (by kernel_rfl)) (toY:=qbcy)
def qbdb:HS:=⟨[(1, .one (.int .i64)),(2, .one (.ptr 0 0)),(6, .one (.int .i64)),(7, .one (.int .i64)),(8, .one (.int .i64)),(9, .one (.int .i64))],[(0, .cells hFs)],1⟩
def qbdc {R:Type}:Nat→HS.V qbdb→(Ex→St→Option R)→Option R:=fun q v K=>
 ref07_Names_L7 v.1.1 v.1.2.2.2.2.1 (cFs v.2.1) (fun y17 y18=>K (.exit 2) {regs:=[(1, .v (.one (.int .i64 v.1.1))),(2, .v (.one (.ptr 0 0))),(6, .v (.one (.int .i64 y17))),(7, .v (.one (.int .i64 y18))),(8, .v (.one (.int .i64 v.1.2.2.2.2.1)))],mem:=[(0, .cells (rFs (cFs v.2.1)))],nx:=1}) q v.1.2.2.1 v.1.2.2.2.1 v.1.2.2.2.2.2.1
def qbdd:HS:=⟨[(1, .one (.int .i64)),(2, .one (.ptr 0 0)),(6, .one (.int .i64)),(7, .one (.int .i64)),(8, .one (.int .i64))],[(0, .cells hFs)],1⟩
def qbde {R:Type}:Nat→HS.V qbdd→(Ex→St→Option R)→Option R:=fun q v K=>
 ref07_Names_L4 v.1.1 (cFs v.2.1) (fun y23 y24=>K (.exit 0) {regs:=[(6, .v (.one (.int .i64 y23))),(7, .v (.one (.int .i64 y24)))],mem:= [],nx:=0}) q v.1.2.2.1 v.1.2.2.2.1 v.1.2.2.2.2.1
def qbdf:List HV:=[.agg hFs, .one (.int .i64)]
def qbdg:List HV:=[.one (.int .i64), .one (.int .i64)]
def qbdh:HP.V qbdf→Fs×Int:=fun v=>((cFs v.1),v.2.1)
def qbdi:HX.V qbdg→Int×Int:=fun v=>(v.1,v.2)
def qbdj:(Int×Int)→HX.V qbdg:=fun y=>(y.1,y.2)
def qbdk:(Fs×Int)→Option (Int×Int):=fun x=>ref07_Names x.1 x.2
def qbdl:Spec:=mkSpec qbdf qbdg qbdh qbdj qbdk
def qbdm {R:Type}:List (Nat×Hd R):=[(4,hdOf qbdd qbde),(7,hdOf qbdb qbdc)]
def qbdn {R:Type}:List (Nat×Inl R):= []
def qbdo:Cfg:={T:=qbbf,glob:=GlobL.G Tryz.prog,eqs:=qbbg,N:=50,fuel:=64,loops:=[(7,⟨[1,2,6,7,8,9], [],[0],1, [], [], [], []⟩),(4,⟨[1,2,6,7,8], [],[0],1, [], [], [], []⟩)],blocks:=[(0,⟨[6,7], [], [],0, [], [], [], []⟩),(1,⟨[1,2,6,7,8], [],[0],1, [], [], [], []⟩),(2,⟨[1,2,6,7,8], [],[0],1, [], [], [], []⟩)],fid:=98}
theorem qbdp:CfgOK Tryz.prog qbdo:=cfgC qbbi qbbj trivial
theorem qbdq {R:Type}:SubsOK Tryz.prog (R:=R) 0 qbdn:=subsOK_nil _ _
theorem qbdr {R:Type}:LoopOK (R:=R) (hnd 0 qbdn) qbdo qbdm (sub [1,1,1,0,1,0,0] qbbp) (HS.V qbdd) (HS.st qbdd) (HS.sh qbdd) qbde (hdOf qbdd qbde):=loopOK_of qbdd qbde (fun _ _=>rfl) (by intro q v K;kernel_rfl)
theorem qbds {R:Type}:LoopOK (R:=R) (hnd 0 qbdn) qbdo qbdm (sub [1,1,1,0,1,0,0,1,0,0,1,0,0] qbbp) (HS.V qbdb) (HS.st qbdb) (HS.sh qbdb) qbdc (hdOf qbdb qbdc):=loopOK_of qbdb qbdc (fun _ _=>rfl) (by intro q v K;kernel_rfl)
theorem qbdt {R:Type}:LoopsOK (R:=R) (hnd 0 qbdn) qbdo qbdm qbbp:=loopsOK_of (l:=[sub [1,1,1,0,1,0,0] qbbp,sub [1,1,1,0,1,0,0,1,0,0,1,0,0] qbbp]) (by kernel_rfl) (loopsL_cons (b:=sub [1,1,1,0,1,0,0] qbbp) (rid:=4) (by kernel_rfl) (by kernel_rfl) qbdr (loopsL_cons (b:=sub [1,1,1,0,1,0,0,1,0,0,1,0,0] qbbp) (rid:=7) (by kernel_rfl) (by kernel_rfl) qbds (trivial)))
theorem qbdu:SpecOK Tryz.prog 98 qbdl:=specOK_a Tryz.f98 qbdp qbbh (d:=0) qbdq qbdt (rngs0 (by kernel_rfl)) (toY:=qbdi)
def qbdv:HS:=⟨[(1, .one (.ptr 0 0)),(3, .one (.int .i64))],[(0, .cells hFs)],1⟩
def qbdw {R:Type}:Nat→HS.V qbdv→(Ex→St→Option R)→Option R:=fun q v K=>
 ref07_fourth_L2 (cFs v.2.1) (K .ret {regs:=[(2, .v (.one (.bool false)))],mem:= [],nx:=0}) (K (.exit 0) {regs:= [],mem:= [],nx:=0}) q v.1.2.1
def qbdx:List HV:=[.agg hFs]
def qbdy:List HV:=[.one (.bool)]
def qbdz:HP.V qbdx→Fs:=fun v=>((cFs v.1))
def qbd0:HX.V qbdy→Bool:=fun v=>(v)
def qbd1:Bool→HX.V qbdy:=fun y=>(y)
def qbd2:Fs→Option (Bool):=fun x=>ref07_fourth x
def qbd3:Spec:=mkSpec qbdx qbdy qbdz qbd1 qbd2
def qbd4 {R:Type}:List (Nat×Hd R):=[(2,hdOf qbdv qbdw)]
def qbd5 {R:Type}:List (Nat×Inl R):= []
def qbd6:Cfg:={T:=qbbf,spec:=[(98,qbdl)],glob:=GlobL.G Tryz.prog,eqs:=qbbg,N:=57,fuel:=64,loops:=[(2,⟨[1,3], [],[0],1, [], [], [], []⟩)],blocks:=[(0,⟨[], [], [],0, [], [], [], []⟩)],retA:=some ⟨[2], [], [],0, [], [], [], []⟩,fid:=69}
theorem qbd7:CfgOK Tryz.prog qbd6:=cfgC qbbi qbbj ⟨qbdu,trivial⟩
theorem qbd8 {R:Type}:SubsOK Tryz.prog (R:=R) 0 qbd5:=subsOK_nil _ _
theorem qbd9 {R:Type}:LoopOK (R:=R) (hnd 0 qbd5) qbd6 qbd4 (sub [1,0,1,0,0] qbbn) (HS.V qbdv) (HS.st qbdv) (HS.sh qbdv) qbdw (hdOf qbdv qbdw):=loopOK_of qbdv qbdw (fun _ _=>rfl) (by intro q v K;kernel_rfl)
theorem qbea {R:Type}:LoopsOK (R:=R) (hnd 0 qbd5) qbd6 qbd4 qbbn:=loopsOK_of (l:=[sub [1,0,1,0,0] qbbn]) (by kernel_rfl) (loopsL_cons (b:=sub [1,0,1,0,0] qbbn) (rid:=2) (by kernel_rfl) (by kernel_rfl) qbd9 (trivial))
theorem qbeb:SpecOK Tryz.prog 69 qbd3:=specOK_a Tryz.f69 qbd7 qbbh (d:=0) qbd8 qbea (rngs0 (by kernel_rfl)) (toY:=qbd0)
def qbec:HS:=⟨[(1, .one (.ptr 0 0)),(3, .one (.own 1)),(4, .one (.int .i64)),(5, .one (.ptr 2 0)),(7, .one (.int .i64)),(8, .one (.bool)),(9, .one (.int .i64))],[(0, .cells hFs),(1, .row .int),(2, .cells hIn)],3⟩
def qbed {R:Type}:Nat→HS.V qbec→(Ex→St→Option R)→Option R:=fun q v K=>
 ref07_fifth_L11 v.1.2.2.2.2.1 v.2.2.1 (cIn v.2.2.2.1) (fun y22=>K (.exit 4) {regs:=[(1, .v (.one (.ptr 0 0))),(3, .v (.one (.own 1))),(4, .v (.one (.int .i64 v.1.2.2.1))),(5, .v (.one (.ptr 2 0))),(7, .v (.one (.int .i64 v.1.2.2.2.2.1))),(8, .v (.one (.bool y22)))],mem:=[(0, .cells (rFs (cFs v.2.1))),(1, .row .int v.2.2.1),(2, .cells (rIn (cIn v.2.2.2.1)))],nx:=3}) q v.1.2.2.2.2.2.1 v.1.2.2.2.2.2.2.1
def qbee:HS:=⟨[(1, .one (.ptr 0 0)),(3, .one (.own 1)),(4, .one (.int .i64)),(5, .one (.ptr 2 0)),(7, .one (.int .i64))],[(0, .cells hFs),(1, .row .int),(2, .cells hIn)],3⟩
def qbef {R:Type}:Nat→HS.V qbee→(Ex→St→Option R)→Option R:=fun q v K=>
 ref07_fifth_L7 (cIn v.2.2.2.1) (fun y30=>K (.exit 2) {regs:=[(1, .v (.one (.ptr 0 0))),(3, .v (.one (.own 1))),(4, .v (.one (.int .i64 v.1.2.2.1)))],mem:=[(0, .cells (rFs (cFs v.2.1))),(1, .row .int y30)],nx:=2}) q v.1.2.2.2.2.1 v.2.2.1
def qbeg:HS:=⟨[(1, .one (.ptr 0 0)),(3, .one (.own 1)),(4, .one (.int .i64))],[(0, .cells hFs),(1, .row .int)],2⟩
def qbeh {R:Type}:Nat→HS.V qbeg→(Ex→St→Option R)→Option R:=fun q v K=>
 ref07_fifth_L3 (cFs v.2.1) (fun y33=>K (.exit 0) {regs:=[(1, .v (.one (.ptr 0 0))),(3, .v (.one (.own 1)))],mem:=[(0, .cells (rFs (cFs v.2.1))),(1, .row .int y33)],nx:=2}) q v.1.2.2.1 v.2.2.1
def qbei:List HV:=[.agg hFs]
def qbej:List HV:=[.one (.bool)]
def qbek:HP.V qbei→Fs:=fun v=>((cFs v.1))
def qbel:HX.V qbej→Bool:=fun v=>(v)
def qbem:Bool→HX.V qbej:=fun y=>(y)
def qben:Fs→Option (Bool):=fun x=>ref07_fifth x
def qbeo:Spec:=mkSpec qbei qbej qbek qbem qben
def qbep {R:Type}:List (Nat×Hd R):=[(3,hdOf qbeg qbeh),(7,hdOf qbee qbef),(11,hdOf qbec qbed)]
def qbeq {R:Type}:List (Nat×Inl R):= []
def qber:Cfg:={T:=qbbf,spec:=[(27,qa6z)],glob:=GlobL.G Tryz.prog,eqs:=qbbg,N:=70,fuel:=64,loops:=[(11,⟨[1,3,4,5,7,8,9], [],[0,1,2],3, [], [], [], []⟩),(7,⟨[1,3,4,5,7], [],[0,1,2],3, [], [], [], []⟩),(3,⟨[1,3,4], [],[0,1],2, [], [], [], []⟩)],blocks:=[(0,⟨[1,3], [],[0,1],2, [], [], [], []⟩),(1,⟨[1,3,4], [],[0,1],2, [], [], [], []⟩),(2,⟨[1,3,4], [],[0,1],2, [], [], [], []⟩),(3,⟨[1,3,4,5,7], [],[0,1,2],3, [], [], [], []⟩),(4,⟨[1,3,4,5,7,8], [],[0,1,2],3, [], [], [], []⟩)],fid:=70}
theorem qbes:CfgOK Tryz.prog qber:=cfgC qbbi qbbj ⟨qa67,trivial⟩
theorem qbet {R:Type}:SubsOK Tryz.prog (R:=R) 0 qbeq:=subsOK_nil _ _
theorem qbeu {R:Type}:LoopOK (R:=R) (hnd 0 qbeq) qber qbep (sub [1,1,0,1,0,0] qbbo) (HS.V qbeg) (HS.st qbeg) (HS.sh qbeg) qbeh (hdOf qbeg qbeh):=loopOK_of qbeg qbeh (fun _ _=>rfl) (by intro q v K;kernel_rfl)
theorem qbev {R:Type}:LoopOK (R:=R) (hnd 0 qbeq) qber qbep (sub [1,1,0,1,0,0,1,0,0,1,1,0,0] qbbo) (HS.V qbee) (HS.st qbee) (HS.sh qbee) qbef (hdOf qbee qbef):=loopOK_of qbee qbef (fun _ _=>rfl) (by intro q v K;kernel_rfl)
theorem qbew {R:Type}:LoopOK (R:=R) (hnd 0 qbeq) qber qbep (sub [1,1,0,1,0,0,1,0,0,1,1,0,0,1,0,0,1,0,1,0,0] qbbo) (HS.V qbec) (HS.st qbec) (HS.sh qbec) qbed (hdOf qbec qbed):=loopOK_of qbec qbed (fun _ _=>rfl) (by intro q v K;kernel_rfl)
theorem qbex {R:Type}:LoopsOK (R:=R) (hnd 0 qbeq) qber qbep qbbo:=loopsOK_of (l:=[sub [1,1,0,1,0,0] qbbo,sub [1,1,0,1,0,0,1,0,0,1,1,0,0] qbbo,sub [1,1,0,1,0,0,1,0,0,1,1,0,0,1,0,0,1,0,1,0,0] qbbo]) (by kernel_rfl) (loopsL_cons (b:=sub [1,1,0,1,0,0] qbbo) (rid:=3) (by kernel_rfl) (by kernel_rfl) qbeu (loopsL_cons (b:=sub [1,1,0,1,0,0,1,0,0,1,1,0,0] qbbo) (rid:=7) (by kernel_rfl) (by kernel_rfl) qbev (loopsL_cons (b:=sub [1,1,0,1,0,0,1,0,0,1,1,0,0,1,0,0,1,0,1,0,0] qbbo) (rid:=11) (by kernel_rfl) (by kernel_rfl) qbew (trivial))))
theorem qbey:SpecOK Tryz.prog 70 qbeo:=specOK_a Tryz.f70 qbes qbbh (d:=0) qbet qbex (rngs0 (by kernel_rfl)) (toY:=qbel)
def qbez:List HV:=[.agg hFs]
def qbe0:List HV:=[.one (.int .i64)]
def qbe1:HP.V qbez→Fs:=fun v=>((cFs v.1))
def qbe2:HX.V qbe0→Int:=fun v=>(v)
def qbe3:Int→HX.V qbe0:=fun y=>(y)
def qbe4:Fs→Option (Int):=fun x=>ref07_Check x
def qbe5:Spec:=mkSpec qbez qbe0 qbe1 qbe3 qbe4
def qbe6:Cfg:={T:=qbbf,spec:=[(63,qbbb),(66,qbby),(67,qbch),(68,qbc1),(69,qbd3),(70,qbeo)],glob:=GlobL.G Tryz.prog,eqs:=qbbg,N:=21,fuel:=64,fid:=28}
theorem qbe7:CfgOK Tryz.prog qbe6:=cfgC qbbi qbbj ⟨qbbe,⟨qbb6,⟨qbcq,⟨qbda,⟨qbeb,⟨qbey,trivial⟩⟩⟩⟩⟩⟩
theorem qbe8:SpecOK Tryz.prog 28 qbe5:=specOK_0 Tryz.f28 qbe7 qbbh (toY:=qbe2)
def qbe9:List HV:=[.agg hFs]
def qbfa:List HV:=[.one (.bool)]
def qbfb:HP.V qbe9→Fs:=fun v=>((cFs v.1))
def qbfc:HX.V qbfa→Bool:=fun v=>(v)
def qbfd:Bool→HX.V qbfa:=fun y=>(y)
def qbfe:Fs→Option (Bool):=fun x=>ref07_Ok x
def qbff:Spec:=mkSpec qbe9 qbfa qbfb qbfd qbfe
def qbfg:Cfg:={T:=qbbf,spec:=[(28,qbe5),(80,qa79)],glob:=GlobL.G Tryz.prog,eqs:=qbbg,N:=10,fuel:=64,fid:=44}
theorem qbfh:CfgOK Tryz.prog qbfg:=cfgC qbbi qbbj ⟨qbe8,⟨qa8i,trivial⟩⟩
theorem qbfi:SpecOK Tryz.prog 44 qbff:=specOK_0 Tryz.f44 qbfh qbbh (toY:=qbfc)
end
end Go.Eng
set_option linter.unusedVariables false
set_option maxRecDepth 100000
namespace Go.Eng
noncomputable section
open Go Go.Proofs
def qbfj:List (Nat×TI):=[(3,⟨false,1, .one (.int .i64 0), .int .i64⟩),(9,⟨false,1, .one (.str []), .str⟩),(22,⟨false,1, .one (.clip .inode []), .slice .inode 45⟩),(24,⟨true,4, .agg [.int .i64 0, .int .i64 0, .int .i64 0, .clip .inode []], .struct [(0,3),(1,3),(2,3),(3,22)]⟩),(43,⟨false,1, .one (.clip .entry []), .slice .entry 95⟩),(45,⟨true,6, .agg [.int .i64 0, .int .i64 0, .int .i64 0, .str [], .int .i64 0, .clip .entry []], .struct [(0,3),(1,3),(2,3),(3,9),(4,3),(5,43)]⟩),(49,⟨false,1, .one (.clip .seen []), .slice .seen 52⟩),(52,⟨true,2, .agg [.str [], .int .i64 0], .struct [(0,9),(1,3)]⟩),(95,⟨true,2, .agg [.str [], .int .i64 0], .struct [(0,9),(1,3)]⟩)]
def qbfk:List (Nat×List EK):= []
theorem qbfl:Tryz.prog.follows .mixedOrders=true:=by kernel_rfl
theorem qbfm:(qbfj.all fun x=>tiB Tryz.prog x.1 x.2)=true:=by kernel_rfl
theorem qbfn:(qbfk.all fun x=>eqB Tryz.prog x.1 x.2)=true:=by kernel_rfl
def qbfo:Code:=bd Tryz.f71
def qbfp:List HV:=[.one (.str), .one (.str)]
def qbfq:List HV:=[.one (.str)]
def qbfr:HP.V qbfp→Str×Str:=fun v=>(v.1,v.2.1)
def qbfs:HX.V qbfq→Str:=fun v=>(v)
def qbft:Str→HX.V qbfq:=fun y=>(y)
def qbfu:(Str×Str)→Option (Str):=fun x=>ref08_under x.1 x.2
def qbfv:Spec:=mkSpec qbfp qbfq qbfr qbft qbfu
def qbfw:Cfg:={T:=qbfj,glob:=GlobL.G Tryz.prog,eqs:=qbfk,N:=14,fuel:=64,fid:=99}
theorem qbfx:CfgOK Tryz.prog qbfw:=cfgC qbfm qbfn trivial
theorem qbfy:SpecOK Tryz.prog 99 qbfv:=specOK_0 Tryz.f99 qbfx qbfl (toY:=qbfs)
def qbfz:HS:=⟨[(2, .one (.str)),(3, .one (.int .i64)),(4, .one (.ptr 0 0)),(9, .one (.ptr 1 0)),(11, .one (.own 2)),(12, .one (.int .i64))],[(0, .cells hFs),(1, .cells hIn),(2, .row .seen)],3⟩
def qbf0 {R:Type} (nn:Nat):Nat→HS.V qbfz→(Ex→St→Option R)→Option R:=fun q v K=>
 ref08_Below_L6 (ref08_Below_r nn) v.1.1 v.1.2.1 (cFs v.2.1) (cIn v.2.2.1) (fun y12=>K (.exit 0) {regs:=[(11, .v (.one (.own 2)))],mem:=[(2, .row .seen y12)],nx:=3}) q v.1.2.2.2.2.2.1 v.2.2.2.1
def qbf1:List HV:=[.agg hFs, .one (.int .i64), .one (.str), .one (.int .i64)]
def qbf2:List HV:=[.one (.sl .seen)]
def qbf3:HP.V qbf1→Fs×Int×Str×Int:=fun v=>((cFs v.1),v.2.1,v.2.2.1,v.2.2.2.1)
def qbf4:HX.V qbf2→(List Seen):=fun v=>(v)
def qbf5:(List Seen)→HX.V qbf2:=fun y=>(y)
def qbf6 (nn:Nat):(Fs×Int×Str×Int)→Option ((List Seen)):=fun x=>ref08_Below_r nn x.1 x.2.1 x.2.2.1 x.2.2.2
def qbf7 (nn:Nat):Spec:=mkSpec qbf1 qbf2 qbf3 qbf5 (qbf6 nn)
def qbf8:(Fs×Int×Str×Int)→Option ((List Seen)):=fun x=>ref08_Below x.1 x.2.1 x.2.2.1 x.2.2.2
def qbf9:Spec:=mkSpec qbf1 qbf2 qbf3 qbf5 qbf8
def qbga {R:Type} (nn:Nat):List (Nat×Hd R):=[(6,hdOf qbfz (qbf0 nn))]
def qbgb {R:Type} (nn:Nat):List (Nat×Inl R):= []
def qbgc (nn:Nat):Cfg:={T:=qbfj,spec:=[(27,qa6z),(71,qbf7 nn),(99,qbfv)],glob:=GlobL.G Tryz.prog,eqs:=qbfk,N:=57,fuel:=64,loops:=[(6,⟨[2,3,4,9,11,12], [],[0,1,2],3, [], [], [], []⟩)],blocks:=[(0,⟨[11], [],[2],3, [], [], [], []⟩)],fid:=71}
theorem qbgd (nn:Nat) (hrec:SpecOK Tryz.prog 71 (qbf7 nn)):CfgOK Tryz.prog (qbgc nn):=cfgC qbfm qbfn ⟨qa67,⟨hrec,⟨qbfy,trivial⟩⟩⟩
theorem qbge {R:Type} (nn:Nat):SubsOK Tryz.prog (R:=R) 0 (qbgb nn):=subsOK_nil _ _
theorem qbgf {R:Type} (nn:Nat):LoopOK (R:=R) (hnd 0 (qbgb nn)) (qbgc nn) (qbga nn) (sub [1,1,1,1,0,1,0,0] qbfo) (HS.V qbfz) (HS.st qbfz) (HS.sh qbfz) (qbf0 nn) (hdOf qbfz (qbf0 nn)):=loopOK_of qbfz (qbf0 nn) (fun _ _=>rfl) (by intro q v K;kernel_rfl)
theorem qbgg {R:Type} (nn:Nat):LoopsOK (R:=R) (hnd 0 (qbgb nn)) (qbgc nn) (qbga nn) qbfo:=loopsOK_of (l:=[sub [1,1,1,1,0,1,0,0] qbfo]) (by kernel_rfl) (loopsL_cons (b:=sub [1,1,1,1,0,1,0,0] qbfo) (rid:=6) (by kernel_rfl) (by kernel_rfl) (qbgf nn) (trivial))
theorem qbgh (nn:Nat):RngsOK Tryz.prog (qbgc nn) qbfo:=rngs0 (by kernel_rfl)
theorem qbgi (nn:Nat):∀v,runFn (hnd 0 (qbgb nn)) (qbgc nn) (qbga nn) qbfo Tryz.f71.results.toList (HP.st qbf1 v) (decOf qbf2 qbf4)=qbf6 (nn+1) (qbf3 v):=by intro v;kernel_rfl
theorem qbgj:∀nn,SpecOK Tryz.prog 71 (qbf7 nn)
 |0=>⟨enters_of (fn:=Tryz.f71) (body:=qbfo) (by kernel_rfl) (by kernel_rfl) (by kernel_rfl),fun S w args vs x y _ _ _ _ h=>by cases h⟩
 |nn+1=>specOK_mk (fn:=Tryz.f71) (by kernel_rfl) (by kernel_rfl) (by kernel_rfl) (qbgd nn (qbgj nn)) (by kernel_rfl) (by kernel_rfl) qbfl (by kernel_rfl) (fun _=>rfl) (d:=0) (qbge nn) (qbgg nn) (qbgh nn) (qbgi nn)
theorem qbgk:SpecOK Tryz.prog 71 qbf9:=qbgj FUEL
def qbgl:List HV:=[.agg hFs]
def qbgm:List HV:=[.one (.sl .seen)]
def qbgn:HP.V qbgl→Fs:=fun v=>((cFs v.1))
def qbgo:HX.V qbgm→(List Seen):=fun v=>(v)
def qbgp:(List Seen)→HX.V qbgm:=fun y=>(y)
def qbgq:Fs→Option ((List Seen)):=fun x=>ref08_List x
def qbgr:Spec:=mkSpec qbgl qbgm qbgn qbgp qbgq
def qbgs:Cfg:={T:=qbfj,spec:=[(71,qbf9)],glob:=GlobL.G Tryz.prog,eqs:=qbfk,N:=8,fuel:=64,fid:=29}
theorem qbgt:CfgOK Tryz.prog qbgs:=cfgC qbfm qbfn ⟨qbgk,trivial⟩
theorem qbgu:SpecOK Tryz.prog 29 qbgr:=specOK_0 Tryz.f29 qbgt qbfl (toY:=qbgo)
end
end Go.Eng
set_option linter.unusedVariables false
set_option maxRecDepth 100000
namespace Go.Eng
noncomputable section
open Go Go.Proofs
def qbgv:List (Nat×TI):=[(3,⟨false,1, .one (.int .i64 0), .int .i64⟩),(9,⟨false,1, .one (.str []), .str⟩),(24,⟨true,4, .agg [.int .i64 0, .int .i64 0, .int .i64 0, .clip .inode []], .struct [(0,3),(1,3),(2,3),(3,22)]⟩),(37,⟨true,3, .agg [.int .i64 0, .str [], .int .i64 0], .struct [(0,3),(1,9),(2,3)]⟩),(43,⟨false,1, .one (.clip .entry []), .slice .entry 95⟩),(45,⟨true,6, .agg [.int .i64 0, .int .i64 0, .int .i64 0, .str [], .int .i64 0, .clip .entry []], .struct [(0,3),(1,3),(2,3),(3,9),(4,3),(5,43)]⟩),(65,⟨false,1, .one (.clip .str []), .slice .str 9⟩)]
def qbgw:List (Nat×List EK):= []
theorem qbgx:Tryz.prog.follows .mixedOrders=true:=by kernel_rfl
theorem qbgy:(qbgv.all fun x=>tiB Tryz.prog x.1 x.2)=true:=by kernel_rfl
theorem qbgz:(qbgw.all fun x=>eqB Tryz.prog x.1 x.2)=true:=by kernel_rfl
def qbg0:Code:=bd Tryz.f109
def qbg1:HS:=⟨[(2, .one (.ptr 0 0)),(4, .one (.ptr 1 0)),(6, .one (.sl .str)),(8, .one (.ptr 2 0)),(9, .one (.int .i64))],[(0, .cells hFs),(1, .cells [.int .i64, .str, .int .i64]),(2, .cells [.int .i64, .str, .int .i64])],3⟩
def qbg2 {R:Type}:Nat→HS.V qbg1→(Ex→St→Option R)→Option R:=fun q v K=>
 ref09_At_L6 v.1.2.2.1 (cFs v.2.1) (fun y11=>K .ret {regs:=[(4, .v (.one (.ptr 1 0))),(5, .v (.one (.int .i64 y11)))],mem:=[(1, .cells [.int .i64 ((⟨0, [],0⟩:Spotted).dir), .str ((⟨0, [],0⟩:Spotted).name), .int .i64 ((⟨0, [],0⟩:Spotted).ino)])],nx:=2}) (fun y14=>K (.exit 0) {regs:=[(4, .v (.one (.ptr 1 0))),(8, .v (.one (.ptr 2 0)))],mem:=[(1, .cells [.int .i64 ((⟨v.2.2.1.1,v.2.2.1.2.1,v.2.2.1.2.2.1⟩:Spotted).dir), .str ((⟨v.2.2.1.1,v.2.2.1.2.1,v.2.2.1.2.2.1⟩:Spotted).name), .int .i64 ((⟨v.2.2.1.1,v.2.2.1.2.1,v.2.2.1.2.2.1⟩:Spotted).ino)]),(2, .cells [.int .i64 y14.dir, .str y14.name, .int .i64 y14.ino])],nx:=3}) q v.1.2.2.2.2.1 (⟨v.2.2.2.1.1,v.2.2.2.1.2.1,v.2.2.2.1.2.2.1⟩:Spotted)
def qbg3:List HV:=[.agg hFs, .one (.str)]
def qbg4:List HV:=[.agg [.int .i64, .str, .int .i64], .one (.int .i64)]
def qbg5:HP.V qbg3→Fs×Str:=fun v=>((cFs v.1),v.2.1)
def qbg6:HX.V qbg4→Spotted×Int:=fun v=>((⟨v.1.1,v.1.2.1,v.1.2.2.1⟩:Spotted),v.2)
def qbg7:(Spotted×Int)→HX.V qbg4:=fun y=>((y.1.dir,(y.1.name,(y.1.ino,()))),y.2)
def qbg8:(Fs×Str)→Option (Spotted×Int):=fun x=>ref09_At x.1 x.2
def qbg9:Spec:=mkSpec qbg3 qbg4 qbg5 qbg7 qbg8
def qbha {R:Type}:List (Nat×Hd R):=[(6,hdOf qbg1 qbg2)]
def qbhb {R:Type}:List (Nat×Inl R):= []
def qbhc:Cfg:={T:=qbgv,spec:=[(27,qa6z),(85,qa4s),(135,qa3k)],glob:=GlobL.G Tryz.prog,eqs:=qbgw,N:=63,fuel:=64,loops:=[(6,⟨[2,4,6,8,9], [],[0,1,2],3, [], [], [], []⟩)],blocks:=[(0,⟨[4,8], [],[1,2],3, [], [], [], []⟩)],retA:=some ⟨[4,5], [],[1],2, [], [], [], []⟩,fid:=109}
theorem qbhd:CfgOK Tryz.prog qbhc:=cfgC qbgy qbgz ⟨qa67,⟨qa40,⟨qa3s,trivial⟩⟩⟩
theorem qbhe {R:Type}:SubsOK Tryz.prog (R:=R) 0 qbhb:=subsOK_nil _ _
theorem qbhf {R:Type}:LoopOK (R:=R) (hnd 0 qbhb) qbhc qbha (sub [1,1,1,1,0,1,0,0] qbg0) (HS.V qbg1) (HS.st qbg1) (HS.sh qbg1) qbg2 (hdOf qbg1 qbg2):=loopOK_of qbg1 qbg2 (fun _ _=>rfl) (by intro q v K;kernel_rfl)
theorem qbhg {R:Type}:LoopsOK (R:=R) (hnd 0 qbhb) qbhc qbha qbg0:=loopsOK_of (l:=[sub [1,1,1,1,0,1,0,0] qbg0]) (by kernel_rfl) (loopsL_cons (b:=sub [1,1,1,1,0,1,0,0] qbg0) (rid:=6) (by kernel_rfl) (by kernel_rfl) qbhf (trivial))
theorem qbhh:SpecOK Tryz.prog 109 qbg9:=specOK_a Tryz.f109 qbhd qbgx (d:=0) qbhe qbhg (rngs0 (by kernel_rfl)) (toY:=qbg6)
def qbhi:List HV:=[.agg hFs, .one (.str)]
def qbhj:List HV:=[.agg hIn, .one (.int .i64)]
def qbhk:HP.V qbhi→Fs×Str:=fun v=>((cFs v.1),v.2.1)
def qbhl:HX.V qbhj→Inode×Int:=fun v=>((cIn v.1),v.2)
def qbhm:(Inode×Int)→HX.V qbhj:=fun y=>((y.1.ino,(y.1.kind,(y.1.links,(y.1.data,(y.1.parent,(y.1.entries,())))))),y.2)
def qbhn:(Fs×Str)→Option (Inode×Int):=fun x=>ref09_Get x.1 x.2
def qbho:Spec:=mkSpec qbhi qbhj qbhk qbhm qbhn
def qbhp:Cfg:={T:=qbgv,spec:=[(27,qa6z),(109,qbg9)],glob:=GlobL.G Tryz.prog,eqs:=qbgw,N:=32,fuel:=64,fid:=84}
theorem qbhq:CfgOK Tryz.prog qbhp:=cfgC qbgy qbgz ⟨qa67,⟨qbhh,trivial⟩⟩
theorem qbhr:SpecOK Tryz.prog 84 qbho:=specOK_0 Tryz.f84 qbhq qbgx (toY:=qbhl)
end
end Go.Eng
set_option linter.unusedVariables false
set_option maxRecDepth 100000
namespace Go.Eng
noncomputable section
open Go Go.Proofs
def qbhs:List (Nat×TI):=[(3,⟨false,1, .one (.int .i64 0), .int .i64⟩),(4,⟨false,1, .one (.bool false), .bool⟩),(9,⟨false,1, .one (.str []), .str⟩),(22,⟨false,1, .one (.clip .inode []), .slice .inode 45⟩),(24,⟨true,4, .agg [.int .i64 0, .int .i64 0, .int .i64 0, .clip .inode []], .struct [(0,3),(1,3),(2,3),(3,22)]⟩),(37,⟨true,3, .agg [.int .i64 0, .str [], .int .i64 0], .struct [(0,3),(1,9),(2,3)]⟩),(43,⟨false,1, .one (.clip .entry []), .slice .entry 95⟩),(45,⟨true,6, .agg [.int .i64 0, .int .i64 0, .int .i64 0, .str [], .int .i64 0, .clip .entry []], .struct [(0,3),(1,3),(2,3),(3,9),(4,3),(5,43)]⟩),(65,⟨false,1, .one (.clip .str []), .slice .str 9⟩),(67,⟨true,3, .agg [.bool false, .clip .str [], .bool false], .struct [(0,4),(1,65),(2,4)]⟩)]
def qbht:List (Nat×List EK):= []
theorem qbhu:Tryz.prog.follows .mixedOrders=true:=by kernel_rfl
theorem qbhv:(qbhs.all fun x=>tiB Tryz.prog x.1 x.2)=true:=by kernel_rfl
theorem qbhw:(qbht.all fun x=>eqB Tryz.prog x.1 x.2)=true:=by kernel_rfl
def qbhx:Code:=bd Tryz.f45
def qbhy:Code:=bd Tryz.f56
def qbhz:HS:=⟨[(1, .one (.str)),(2, .one (.str)),(3, .one (.ptr 0 0)),(7, .one (.int .i64))],[(0, .cells hFs)],1⟩
def qbh0 {R:Type}:Nat→HS.V qbhz→(Ex→St→Option R)→Option R:=fun q v K=>
 ref10_Short_L2 (cFs v.2.1) (K .ret {regs:=[(6, .v (.one (.bool false)))],mem:= [],nx:=0}) (K (.exit 0) {regs:=[(1, .v (.one (.str v.1.1))),(2, .v (.one (.str v.1.2.1)))],mem:= [],nx:=0}) q v.1.2.2.2.1
def qbh1:List HV:=[.agg hFs, .one (.str), .one (.str)]
def qbh2:List HV:=[.one (.bool)]
def qbh3:HP.V qbh1→Fs×Str×Str:=fun v=>((cFs v.1),v.2.1,v.2.2.1)
def qbh4:HX.V qbh2→Bool:=fun v=>(v)
def qbh5:Bool→HX.V qbh2:=fun y=>(y)
def qbh6:(Fs×Str×Str)→Option (Bool):=fun x=>ref10_Short x.1 x.2.1 x.2.2
def qbh7:Spec:=mkSpec qbh1 qbh2 qbh3 qbh5 qbh6
def qbh8 {R:Type}:List (Nat×Hd R):=[(2,hdOf qbhz qbh0)]
def qbh9 {R:Type}:List (Nat×Inl R):= []
def qbia:Cfg:={T:=qbhs,glob:=GlobL.G Tryz.prog,eqs:=qbht,N:=44,fuel:=64,loops:=[(2,⟨[1,2,3,7], [],[0],1, [], [], [], []⟩)],blocks:=[(0,⟨[1,2], [], [],0, [], [], [], []⟩)],retA:=some ⟨[6], [], [],0, [], [], [], []⟩,fid:=45}
theorem qbib:CfgOK Tryz.prog qbia:=cfgC qbhv qbhw trivial
theorem qbic {R:Type}:SubsOK Tryz.prog (R:=R) 0 qbh9:=subsOK_nil _ _
theorem qbid {R:Type}:LoopOK (R:=R) (hnd 0 qbh9) qbia qbh8 (sub [1,0,1,0,0] qbhx) (HS.V qbhz) (HS.st qbhz) (HS.sh qbhz) qbh0 (hdOf qbhz qbh0):=loopOK_of qbhz qbh0 (fun _ _=>rfl) (by intro q v K;kernel_rfl)
theorem qbie {R:Type}:LoopsOK (R:=R) (hnd 0 qbh9) qbia qbh8 qbhx:=loopsOK_of (l:=[sub [1,0,1,0,0] qbhx]) (by kernel_rfl) (loopsL_cons (b:=sub [1,0,1,0,0] qbhx) (rid:=2) (by kernel_rfl) (by kernel_rfl) qbid (trivial))
theorem qbif:SpecOK Tryz.prog 45 qbh7:=specOK_a Tryz.f45 qbib qbhu (d:=0) qbic qbie (rngs0 (by kernel_rfl)) (toY:=qbh4)
def qbig:List HV:=[.agg hFs, .one (.str)]
def qbih:List HV:=[.one (.int .i64), .one (.int .i64)]
def qbii:HP.V qbig→Fs×Str:=fun v=>((cFs v.1),v.2.1)
def qbij:HX.V qbih→Int×Int:=fun v=>(v.1,v.2)
def qbik:(Int×Int)→HX.V qbih:=fun y=>(y.1,y.2)
def qbil:(Fs×Str)→Option (Int×Int):=fun x=>ref10_Home x.1 x.2
def qbim:Spec:=mkSpec qbig qbih qbii qbik qbil
def qbin:Cfg:={T:=qbhs,spec:=[(84,qbho)],glob:=GlobL.G Tryz.prog,eqs:=qbht,N:=22,fuel:=64,fid:=55}
theorem qbio:CfgOK Tryz.prog qbin:=cfgC qbhv qbhw ⟨qbhr,trivial⟩
theorem qbip:SpecOK Tryz.prog 55 qbim:=specOK_0 Tryz.f55 qbio qbhu (toY:=qbij)
def qbiq:List HV:=[.agg hFs, .agg [.int .i64, .str, .int .i64], .one (.sl .str), .one (.bool), .one (.bool), .one (.int .i64)]
def qbir:List HV:=[.agg [.int .i64, .str, .int .i64], .one (.int .i64)]
def qbis:HP.V qbiq→Fs×Spotted×(List Str)×Bool×Bool×Int:=fun v=>((cFs v.1),(⟨v.2.1.1,v.2.1.2.1,v.2.1.2.2.1⟩:Spotted),v.2.2.1,v.2.2.2.1,v.2.2.2.2.1,v.2.2.2.2.2.1)
def qbit:HX.V qbir→Spotted×Int:=fun v=>((⟨v.1.1,v.1.2.1,v.1.2.2.1⟩:Spotted),v.2)
def qbiu:(Spotted×Int)→HX.V qbir:=fun y=>((y.1.dir,(y.1.name,(y.1.ino,()))),y.2)
def qbiv (nn:Nat):(Fs×Spotted×(List Str)×Bool×Bool×Int)→Option (Spotted×Int):=fun x=>ref10_on_r nn x.1 x.2.1 x.2.2.1 x.2.2.2.1 x.2.2.2.2.1 x.2.2.2.2.2
def qbiw (nn:Nat):Spec:=mkSpec qbiq qbir qbis qbiu (qbiv nn)
def qbix:(Fs×Spotted×(List Str)×Bool×Bool×Int)→Option (Spotted×Int):=fun x=>ref10_on x.1 x.2.1 x.2.2.1 x.2.2.2.1 x.2.2.2.2.1 x.2.2.2.2.2
def qbiy:Spec:=mkSpec qbiq qbir qbis qbiu qbix
def qbiz {R:Type} (nn:Nat):List (Nat×Hd R):= []
def qbi0 {R:Type} (nn:Nat):List (Nat×Inl R):= []
def qbi1 (nn:Nat):Cfg:={T:=qbhs,spec:=[(27,qa6z),(53,qa2c),(54,qa2r),(56,qbiw nn),(85,qa4s)],glob:=GlobL.G Tryz.prog,eqs:=qbht,N:=176,fuel:=64,fid:=56}
theorem qbi2 (nn:Nat) (hrec:SpecOK Tryz.prog 56 (qbiw nn)):CfgOK Tryz.prog (qbi1 nn):=cfgC qbhv qbhw ⟨qa67,⟨qa2k,⟨qa2u,⟨hrec,⟨qa40,trivial⟩⟩⟩⟩⟩
theorem qbi3 {R:Type} (nn:Nat):SubsOK Tryz.prog (R:=R) 0 (qbi0 nn):=subsOK_nil _ _
theorem qbi4 {R:Type} (nn:Nat):LoopsOK (R:=R) (hnd 0 (qbi0 nn)) (qbi1 nn) (qbiz nn) qbhy:=loopsOK_of (l:= []) (by kernel_rfl) (trivial)
theorem qbi5 (nn:Nat):RngsOK Tryz.prog (qbi1 nn) qbhy:=rngs0 (by kernel_rfl)
theorem qbi6 (nn:Nat):∀v,runFn (hnd 0 (qbi0 nn)) (qbi1 nn) (qbiz nn) qbhy Tryz.f56.results.toList (HP.st qbiq v) (decOf qbir qbit)=qbiv (nn+1) (qbis v):=by intro v;kernel_rfl
theorem qbi7:∀nn,SpecOK Tryz.prog 56 (qbiw nn)
 |0=>⟨enters_of (fn:=Tryz.f56) (body:=qbhy) (by kernel_rfl) (by kernel_rfl) (by kernel_rfl),fun S w args vs x y _ _ _ _ h=>by cases h⟩
 |nn+1=>specOK_mk (fn:=Tryz.f56) (by kernel_rfl) (by kernel_rfl) (by kernel_rfl) (qbi2 nn (qbi7 nn)) (by kernel_rfl) (by kernel_rfl) qbhu (by kernel_rfl) (fun _=>rfl) (d:=0) (qbi3 nn) (qbi4 nn) (qbi5 nn) (qbi6 nn)
theorem qbi8:SpecOK Tryz.prog 56 qbiy:=qbi7 FUEL
def qbi9:List HV:=[.agg hFs, .one (.str), .one (.str), .one (.bool)]
def qbja:List HV:=[.agg [.int .i64, .str, .int .i64], .one (.int .i64)]
def qbjb:HP.V qbi9→Fs×Str×Str×Bool:=fun v=>((cFs v.1),v.2.1,v.2.2.1,v.2.2.2.1)
def qbjc:HX.V qbja→Spotted×Int:=fun v=>((⟨v.1.1,v.1.2.1,v.1.2.2.1⟩:Spotted),v.2)
def qbjd:(Spotted×Int)→HX.V qbja:=fun y=>((y.1.dir,(y.1.name,(y.1.ino,()))),y.2)
def qbje:(Fs×Str×Str×Bool)→Option (Spotted×Int):=fun x=>ref10_Seek x.1 x.2.1 x.2.2.1 x.2.2.2
def qbjf:Spec:=mkSpec qbi9 qbja qbjb qbjd qbje
def qbjg:Cfg:={T:=qbhs,spec:=[(53,qa2c),(54,qa2r),(55,qbim),(56,qbiy)],glob:=GlobL.G Tryz.prog,eqs:=qbht,N:=47,fuel:=64,fid:=24}
theorem qbjh:CfgOK Tryz.prog qbjg:=cfgC qbhv qbhw ⟨qa2k,⟨qa2u,⟨qbip,⟨qbi8,trivial⟩⟩⟩⟩
theorem qbji:SpecOK Tryz.prog 24 qbjf:=specOK_0 Tryz.f24 qbjh qbhu (toY:=qbjc)
end
end Go.Eng
set_option linter.unusedVariables false
set_option maxRecDepth 100000
namespace Go.Eng
noncomputable section
open Go Go.Proofs
def qbjj:List (Nat×TI):=[(3,⟨false,1, .one (.int .i64 0), .int .i64⟩),(4,⟨false,1, .one (.bool false), .bool⟩),(9,⟨false,1, .one (.str []), .str⟩),(24,⟨true,4, .agg [.int .i64 0, .int .i64 0, .int .i64 0, .clip .inode []], .struct [(0,3),(1,3),(2,3),(3,22)]⟩),(37,⟨true,3, .agg [.int .i64 0, .str [], .int .i64 0], .struct [(0,3),(1,9),(2,3)]⟩),(43,⟨false,1, .one (.clip .entry []), .slice .entry 95⟩),(45,⟨true,6, .agg [.int .i64 0, .int .i64 0, .int .i64 0, .str [], .int .i64 0, .clip .entry []], .struct [(0,3),(1,3),(2,3),(3,9),(4,3),(5,43)]⟩),(67,⟨true,3, .agg [.bool false, .clip .str [], .bool false], .struct [(0,4),(1,65),(2,4)]⟩)]
def qbjk:List (Nat×List EK):= []
theorem qbjl:Tryz.prog.follows .mixedOrders=true:=by kernel_rfl
theorem qbjm:(qbjj.all fun x=>tiB Tryz.prog x.1 x.2)=true:=by kernel_rfl
theorem qbjn:(qbjk.all fun x=>eqB Tryz.prog x.1 x.2)=true:=by kernel_rfl
def qbjo:Code:=bd Tryz.f23
def qbjp:List HV:=[.agg hFs, .agg [.int .i64, .str, .int .i64], .one (.int .i64), .one (.str)]
def qbjq:List HV:=[.agg hFs, .one (.int .i64)]
def qbjr:HP.V qbjp→Fs×Spotted×Int×Str:=fun v=>((cFs v.1),(⟨v.2.1.1,v.2.1.2.1,v.2.1.2.2.1⟩:Spotted),v.2.2.1,v.2.2.2.1)
def qbjs:HX.V qbjq→Fs×Int:=fun v=>((cFs v.1),v.2)
def qbjt:(Fs×Int)→HX.V qbjq:=fun y=>((y.1.maxInodes,(y.1.maxBytes,(y.1.next,(y.1.inodes,())))),y.2)
def qbju:(Fs×Spotted×Int×Str)→Option (Fs×Int):=fun x=>ref11_New x.1 x.2.1 x.2.2.1 x.2.2.2
def qbjv:Spec:=mkSpec qbjp qbjq qbjr qbjt qbju
def qbjw:Cfg:={T:=qbjj,spec:=[(27,qa6z),(40,qa1e),(63,qbbb),(64,qa5q),(65,qa88)],glob:=GlobL.G Tryz.prog,eqs:=qbjk,N:=63,fuel:=64,fid:=26}
theorem qbjx:CfgOK Tryz.prog qbjw:=cfgC qbjm qbjn ⟨qa67,⟨qa1m,⟨qbbe,⟨qa5y,⟨qa9g,trivial⟩⟩⟩⟩⟩
theorem qbjy:SpecOK Tryz.prog 26 qbjv:=specOK_0 Tryz.f26 qbjx qbjl (toY:=qbjs)
def qbjz:List HV:=[.agg hFs, .one (.str), .one (.str), .one (.int .i64), .one (.str), .one (.int .i64)]
def qbj0:List HV:=[.agg hFs, .one (.int .i64)]
def qbj1:HP.V qbjz→Fs×Str×Str×Int×Str×Int:=fun v=>((cFs v.1),v.2.1,v.2.2.1,v.2.2.2.1,v.2.2.2.2.1,v.2.2.2.2.2.1)
def qbj2:HX.V qbj0→Fs×Int:=fun v=>((cFs v.1),v.2)
def qbj3:(Fs×Int)→HX.V qbj0:=fun y=>((y.1.maxInodes,(y.1.maxBytes,(y.1.next,(y.1.inodes,())))),y.2)
def qbj4:(Fs×Str×Str×Int×Str×Int)→Option (Fs×Int):=fun x=>ref11_put x.1 x.2.1 x.2.2.1 x.2.2.2.1 x.2.2.2.2.1 x.2.2.2.2.2
def qbj5:Spec:=mkSpec qbjz qbj0 qbj1 qbj3 qbj4
def qbj6:Cfg:={T:=qbjj,spec:=[(24,qbjf),(26,qbjv),(54,qa2r)],glob:=GlobL.G Tryz.prog,eqs:=qbjk,N:=47,fuel:=64,fid:=48}
theorem qbj7:CfgOK Tryz.prog qbj6:=cfgC qbjm qbjn ⟨qbji,⟨qbjy,⟨qa2u,trivial⟩⟩⟩
theorem qbj8:SpecOK Tryz.prog 48 qbj5:=specOK_0 Tryz.f48 qbj7 qbjl (toY:=qbj2)
def qbj9:List HV:=[.agg hFs, .one (.str), .one (.str)]
def qbka:List HV:=[.agg hFs, .one (.int .i64)]
def qbkb:HP.V qbj9→Fs×Str×Str:=fun v=>((cFs v.1),v.2.1,v.2.2.1)
def qbkc:HX.V qbka→Fs×Int:=fun v=>((cFs v.1),v.2)
def qbkd:(Fs×Int)→HX.V qbka:=fun y=>((y.1.maxInodes,(y.1.maxBytes,(y.1.next,(y.1.inodes,())))),y.2)
def qbke:(Fs×Str×Str)→Option (Fs×Int):=fun x=>ref11_Mkdir x.1 x.2.1 x.2.2
def qbkf:Spec:=mkSpec qbj9 qbka qbkb qbkd qbke
def qbkg:Cfg:={T:=qbjj,spec:=[(48,qbj5)],glob:=GlobL.G Tryz.prog,eqs:=qbjk,N:=14,fuel:=64,fid:=18}
theorem qbkh:CfgOK Tryz.prog qbkg:=cfgC qbjm qbjn ⟨qbj8,trivial⟩
theorem qbki:SpecOK Tryz.prog 18 qbkf:=specOK_0 Tryz.f18 qbkh qbjl (toY:=qbkc)
def qbkj:List HV:=[.agg hFs, .one (.str), .one (.str), .one (.str)]
def qbkk:List HV:=[.agg hFs, .one (.int .i64)]
def qbkl:HP.V qbkj→Fs×Str×Str×Str:=fun v=>((cFs v.1),v.2.1,v.2.2.1,v.2.2.2.1)
def qbkm:HX.V qbkk→Fs×Int:=fun v=>((cFs v.1),v.2)
def qbkn:(Fs×Int)→HX.V qbkk:=fun y=>((y.1.maxInodes,(y.1.maxBytes,(y.1.next,(y.1.inodes,())))),y.2)
def qbko:(Fs×Str×Str×Str)→Option (Fs×Int):=fun x=>ref11_Create x.1 x.2.1 x.2.2.1 x.2.2.2
def qbkp:Spec:=mkSpec qbkj qbkk qbkl qbkn qbko
def qbkq:Cfg:={T:=qbjj,spec:=[(48,qbj5)],glob:=GlobL.G Tryz.prog,eqs:=qbjk,N:=17,fuel:=64,fid:=21}
theorem qbkr:CfgOK Tryz.prog qbkq:=cfgC qbjm qbjn ⟨qbj8,trivial⟩
theorem qbks:SpecOK Tryz.prog 21 qbkp:=specOK_0 Tryz.f21 qbkr qbjl (toY:=qbkm)
def qbkt:HS:=⟨[(1, .one (.str)),(2, .one (.str)),(3, .one (.str)),(4, .one (.ptr 0 0)),(8, .one (.ptr 1 0)),(10, .one (.int .i64))],[(0, .cells hFs),(1, .cells hFs)],2⟩
def qbku {R:Type}:Nat→HS.V qbkt→(Ex→St→Option R)→Option R:=fun q v K=>
 ref11_Symlink_L6 v.1.2.1 (K .ret {regs:=[(8, .v (.one (.ptr 1 0))),(9, .v (.one (.int .i64 (9:Int))))],mem:=[(1, .cells (rFs (cFs v.2.1)))],nx:=2}) (K (.exit 0) {regs:=[(1, .v (.one (.str v.1.1))),(2, .v (.one (.str v.1.2.1))),(3, .v (.one (.str v.1.2.2.1))),(4, .v (.one (.ptr 0 0))),(8, .v (.one (.ptr 1 0)))],mem:=[(0, .cells (rFs (cFs v.2.1))),(1, .cells (rFs (cFs v.2.2.1)))],nx:=2}) q v.1.2.2.2.2.2.1
def qbkv:List HV:=[.agg hFs, .one (.str), .one (.str), .one (.str)]
def qbkw:List HV:=[.agg hFs, .one (.int .i64)]
def qbkx:HP.V qbkv→Fs×Str×Str×Str:=fun v=>((cFs v.1),v.2.1,v.2.2.1,v.2.2.2.1)
def qbky:HX.V qbkw→Fs×Int:=fun v=>((cFs v.1),v.2)
def qbkz:(Fs×Int)→HX.V qbkw:=fun y=>((y.1.maxInodes,(y.1.maxBytes,(y.1.next,(y.1.inodes,())))),y.2)
def qbk0:(Fs×Str×Str×Str)→Option (Fs×Int):=fun x=>ref11_Symlink x.1 x.2.1 x.2.2.1 x.2.2.2
def qbk1:Spec:=mkSpec qbkv qbkw qbkx qbkz qbk0
def qbk2 {R:Type}:List (Nat×Hd R):=[(6,hdOf qbkt qbku)]
def qbk3 {R:Type}:List (Nat×Inl R):= []
def qbk4:Cfg:={T:=qbjj,spec:=[(48,qbj5)],glob:=GlobL.G Tryz.prog,eqs:=qbjk,N:=36,fuel:=64,loops:=[(6,⟨[1,2,3,4,8,10], [],[0,1],2, [],[1], [], []⟩)],blocks:=[(0,⟨[1,2,3,4,8], [],[0,1],2, [], [], [], []⟩)],retA:=some ⟨[8,9], [],[1],2, [], [], [], []⟩,fid:=23}
theorem qbk5:CfgOK Tryz.prog qbk4:=cfgC qbjm qbjn ⟨qbj8,trivial⟩
theorem qbk6 {R:Type}:SubsOK Tryz.prog (R:=R) 0 qbk3:=subsOK_nil _ _
theorem qbk7 {R:Type}:LoopOK (R:=R) (hnd 0 qbk3) qbk4 qbk2 (sub [1,1,1,0,1,0,0] qbjo) (HS.V qbkt) (HS.st qbkt) (HS.sh qbkt) qbku (hdOf qbkt qbku):=loopOK_of qbkt qbku (fun _ _=>rfl) (by intro q v K;kernel_rfl)
theorem qbk8 {R:Type}:LoopsOK (R:=R) (hnd 0 qbk3) qbk4 qbk2 qbjo:=loopsOK_of (l:=[sub [1,1,1,0,1,0,0] qbjo]) (by kernel_rfl) (loopsL_cons (b:=sub [1,1,1,0,1,0,0] qbjo) (rid:=6) (by kernel_rfl) (by kernel_rfl) qbk7 (trivial))
theorem qbk9:SpecOK Tryz.prog 23 qbk1:=specOK_a Tryz.f23 qbk5 qbjl (d:=0) qbk6 qbk8 (rngs0 (by kernel_rfl)) (toY:=qbky)
end
end Go.Eng
set_option linter.unusedVariables false
set_option maxRecDepth 100000
namespace Go.Eng
noncomputable section
open Go Go.Proofs
def qbla:List (Nat×TI):=[(3,⟨false,1, .one (.int .i64 0), .int .i64⟩),(5,⟨false,1, .one (.int .u8 0), .int .u8⟩),(9,⟨false,1, .one (.str []), .str⟩),(22,⟨false,1, .one (.clip .inode []), .slice .inode 45⟩),(24,⟨true,4, .agg [.int .i64 0, .int .i64 0, .int .i64 0, .clip .inode []], .struct [(0,3),(1,3),(2,3),(3,22)]⟩),(37,⟨true,3, .agg [.int .i64 0, .str [], .int .i64 0], .struct [(0,3),(1,9),(2,3)]⟩),(45,⟨true,6, .agg [.int .i64 0, .int .i64 0, .int .i64 0, .str [], .int .i64 0, .clip .entry []], .struct [(0,3),(1,3),(2,3),(3,9),(4,3),(5,43)]⟩),(49,⟨false,1, .one (.clip .seen []), .slice .seen 52⟩),(52,⟨true,2, .agg [.str [], .int .i64 0], .struct [(0,9),(1,3)]⟩)]
def qblb:List (Nat×List EK):=[(52,[.s, .i])]
theorem qblc:Tryz.prog.follows .mixedOrders=true:=by kernel_rfl
theorem qbld:(qbla.all fun x=>tiB Tryz.prog x.1 x.2)=true:=by kernel_rfl
theorem qble:(qblb.all fun x=>eqB Tryz.prog x.1 x.2)=true:=by kernel_rfl
def qblf:Code:=bd Tryz.f7
def qblg:List HV:= []
def qblh:List HV:=[.one (.bool)]
def qbli:HP.V qblg→Unit:=fun v=>()
def qblj:HX.V qblh→Bool:=fun v=>(v)
def qblk:Bool→HX.V qblh:=fun y=>(y)
def qbll:Unit→Option (Bool):=fun x=>law11_awake
def qblm:Spec:=mkSpec qblg qblh qbli qblk qbll
def qbln:Cfg:={T:=qbla,spec:=[(17,qayh),(20,qay5),(22,qazt),(27,qa6z),(43,qa7e)],glob:=GlobL.G Tryz.prog,eqs:=qblb,N:=111,fuel:=64,fid:=15}
theorem qblo:CfgOK Tryz.prog qbln:=cfgC qbld qble ⟨qayy,⟨qazm,⟨qa0v,⟨qa67,⟨qa7h,trivial⟩⟩⟩⟩⟩
theorem qblp:SpecOK Tryz.prog 15 qblm:=specOK_0 Tryz.f15 qblo qblc (toY:=qblj)
def qblq:List HV:=[.agg hFs, .one (.str), .one (.str), .one (.str)]
def qblr:List HV:=[.one (.bool)]
def qbls:HP.V qblq→Fs×Str×Str×Str:=fun v=>((cFs v.1),v.2.1,v.2.2.1,v.2.2.2.1)
def qblt:HX.V qblr→Bool:=fun v=>(v)
def qblu:Bool→HX.V qblr:=fun y=>(y)
def qblv:(Fs×Str×Str×Str)→Option (Bool):=fun x=>law11_fits x.1 x.2.1 x.2.2.1 x.2.2.2
def qblw:Spec:=mkSpec qblq qblr qbls qblu qblv
def qblx:Cfg:={T:=qbla,spec:=[(44,qbff),(45,qbh7)],glob:=GlobL.G Tryz.prog,eqs:=qblb,N:=27,fuel:=64,fid:=16}
theorem qbly:CfgOK Tryz.prog qblx:=cfgC qbld qble ⟨qbfi,⟨qbif,trivial⟩⟩
theorem qblz:SpecOK Tryz.prog 16 qblw:=specOK_0 Tryz.f16 qbly qblc (toY:=qblt)
def qbl0:List HV:=[.agg hFs, .one (.str), .one (.str)]
def qbl1:List HV:=[.one (.bool)]
def qbl2:HP.V qbl0→Fs×Str×Str:=fun v=>((cFs v.1),v.2.1,v.2.2.1)
def qbl3:HX.V qbl1→Bool:=fun v=>(v)
def qbl4:Bool→HX.V qbl1:=fun y=>(y)
def qbl5:(Fs×Str×Str)→Option (Bool):=fun x=>law11_MakeMkdirs x.1 x.2.1 x.2.2
def qbl6:Spec:=mkSpec qbl0 qbl1 qbl2 qbl4 qbl5
def qbl7:Cfg:={T:=qbla,spec:=[(15,qblm),(16,qblw),(17,qayh),(18,qbkf),(19,qbae)],glob:=GlobL.G Tryz.prog,eqs:=qblb,N:=43,fuel:=64,fid:=3}
theorem qbl8:CfgOK Tryz.prog qbl7:=cfgC qbld qble ⟨qblp,⟨qblz,⟨qayy,⟨qbki,⟨qbah,trivial⟩⟩⟩⟩⟩
theorem qbl9:SpecOK Tryz.prog 3 qbl6:=specOK_0 Tryz.f3 qbl8 qblc (toY:=qbl3)
def qbma:List HV:=[.agg hFs, .one (.str), .one (.str), .one (.str)]
def qbmb:List HV:=[.one (.bool)]
def qbmc:HP.V qbma→Fs×Str×Str×Str:=fun v=>((cFs v.1),v.2.1,v.2.2.1,v.2.2.2.1)
def qbmd:HX.V qbmb→Bool:=fun v=>(v)
def qbme:Bool→HX.V qbmb:=fun y=>(y)
def qbmf:(Fs×Str×Str×Str)→Option (Bool):=fun x=>law11_MakeCreates x.1 x.2.1 x.2.2.1 x.2.2.2
def qbmg:Spec:=mkSpec qbma qbmb qbmc qbme qbmf
def qbmh:Cfg:={T:=qbla,spec:=[(15,qblm),(16,qblw),(19,qbae),(20,qay5),(21,qbkp)],glob:=GlobL.G Tryz.prog,eqs:=qblb,N:=48,fuel:=64,fid:=4}
theorem qbmi:CfgOK Tryz.prog qbmh:=cfgC qbld qble ⟨qblp,⟨qblz,⟨qbah,⟨qazm,⟨qbks,trivial⟩⟩⟩⟩⟩
theorem qbmj:SpecOK Tryz.prog 4 qbmg:=specOK_0 Tryz.f4 qbmi qblc (toY:=qbmd)
def qbmk:List HV:=[.agg hFs, .one (.str), .one (.str), .one (.str)]
def qbml:List HV:=[.one (.bool)]
def qbmm:HP.V qbmk→Fs×Str×Str×Str:=fun v=>((cFs v.1),v.2.1,v.2.2.1,v.2.2.2.1)
def qbmn:HX.V qbml→Bool:=fun v=>(v)
def qbmo:Bool→HX.V qbml:=fun y=>(y)
def qbmp:(Fs×Str×Str×Str)→Option (Bool):=fun x=>law11_MakeSymlinks x.1 x.2.1 x.2.2.1 x.2.2.2
def qbmq:Spec:=mkSpec qbmk qbml qbmm qbmo qbmp
def qbmr:Cfg:={T:=qbla,spec:=[(15,qblm),(16,qblw),(19,qbae),(22,qazt),(23,qbk1)],glob:=GlobL.G Tryz.prog,eqs:=qblb,N:=48,fuel:=64,fid:=5}
theorem qbms:CfgOK Tryz.prog qbmr:=cfgC qbld qble ⟨qblp,⟨qblz,⟨qbah,⟨qa0v,⟨qbk9,trivial⟩⟩⟩⟩⟩
theorem qbmt:SpecOK Tryz.prog 5 qbmq:=specOK_0 Tryz.f5 qbms qblc (toY:=qbmn)
def qbmu:List HV:=[.agg hFs, .one (.str), .one (.str), .one (.int .u8), .one (.str)]
def qbmv:List HV:=[.one (.bool)]
def qbmw:HP.V qbmu→Fs×Str×Str×Int×Str:=fun v=>((cFs v.1),v.2.1,v.2.2.1,v.2.2.2.1,v.2.2.2.2.1)
def qbmx:HX.V qbmv→Bool:=fun v=>(v)
def qbmy:Bool→HX.V qbmv:=fun y=>(y)
def qbmz:(Fs×Str×Str×Int×Str)→Option (Bool):=fun x=>law11_MakeNews x.1 x.2.1 x.2.2.1 x.2.2.2.1 x.2.2.2.2
def qbm0:Spec:=mkSpec qbmu qbmv qbmw qbmy qbmz
def qbm1:Cfg:={T:=qbla,spec:=[(15,qblm),(16,qblw),(19,qbae),(24,qbjf),(25,qax7),(26,qbjv)],glob:=GlobL.G Tryz.prog,eqs:=qblb,N:=75,fuel:=64,fid:=6}
theorem qbm2:CfgOK Tryz.prog qbm1:=cfgC qbld qble ⟨qblp,⟨qblz,⟨qbah,⟨qbji,⟨qaya,⟨qbjy,trivial⟩⟩⟩⟩⟩⟩
theorem qbm3:SpecOK Tryz.prog 6 qbm0:=specOK_0 Tryz.f6 qbm2 qblc (toY:=qbmx)
def qbm4:HS:=⟨[(18, .one (.sl .seen)),(19, .one (.sl .seen)),(20, .one (.int .i64)),(21, .one (.int .i64))], [],0⟩
def qbm5 {R:Type}:Nat→HS.V qbm4→(Ex→St→Option R)→Option R:=fun q v K=>
 law11_MakeSound_L23 v.1.1 v.1.2.1 (fun y20=>K (.exit 0) {regs:=[(18, .v (.one (.sl .seen v.1.1))),(19, .v (.one (.sl .seen v.1.2.1))),(20, .v (.one (.int .i64 y20)))],mem:= [],nx:=0}) q v.1.2.2.1 v.1.2.2.2.1
def qbm6:List HV:=[.agg hFs, .one (.str), .one (.str), .one (.str), .one (.int .u8)]
def qbm7:List HV:=[.one (.bool)]
def qbm8:HP.V qbm6→Fs×Str×Str×Str×Int:=fun v=>((cFs v.1),v.2.1,v.2.2.1,v.2.2.2.1,v.2.2.2.2.1)
def qbm9:HX.V qbm7→Bool:=fun v=>(v)
def qbna:Bool→HX.V qbm7:=fun y=>(y)
def qbnb:(Fs×Str×Str×Str×Int)→Option (Bool):=fun x=>law11_MakeSound x.1 x.2.1 x.2.2.1 x.2.2.2.1 x.2.2.2.2
def qbnc:Spec:=mkSpec qbm6 qbm7 qbm8 qbna qbnb
def qbnd {R:Type}:List (Nat×Hd R):=[(23,hdOf qbm4 qbm5)]
def qbne {R:Type}:List (Nat×Inl R):= []
def qbnf:Cfg:={T:=qbla,spec:=[(15,qblm),(16,qblw),(17,qayh),(19,qbae),(20,qay5),(22,qazt),(24,qbjf),(27,qa6z),(28,qbe5),(29,qbgr)],glob:=GlobL.G Tryz.prog,eqs:=qblb,N:=173,fuel:=64,loops:=[(23,⟨[18,19,20,21], [], [],0, [], [], [], []⟩)],blocks:=[(0,⟨[18,19,20], [], [],0, [], [], [], []⟩)],fid:=7}
theorem qbng:CfgOK Tryz.prog qbnf:=cfgC qbld qble ⟨qblp,⟨qblz,⟨qayy,⟨qbah,⟨qazm,⟨qa0v,⟨qbji,⟨qa67,⟨qbe8,⟨qbgu,trivial⟩⟩⟩⟩⟩⟩⟩⟩⟩⟩
theorem qbnh {R:Type}:SubsOK Tryz.prog (R:=R) 0 qbne:=subsOK_nil _ _
theorem qbni {R:Type}:LoopOK (R:=R) (hnd 0 qbne) qbnf qbnd (sub [1,1,1,1,1,1,1,1,1,1,1,1,1,1,0,1,0,0] qblf) (HS.V qbm4) (HS.st qbm4) (HS.sh qbm4) qbm5 (hdOf qbm4 qbm5):=loopOK_of qbm4 qbm5 (fun _ _=>rfl) (by intro q v K;kernel_rfl)
theorem qbnj {R:Type}:LoopsOK (R:=R) (hnd 0 qbne) qbnf qbnd qblf:=loopsOK_of (l:=[sub [1,1,1,1,1,1,1,1,1,1,1,1,1,1,0,1,0,0] qblf]) (by kernel_rfl) (loopsL_cons (b:=sub [1,1,1,1,1,1,1,1,1,1,1,1,1,1,0,1,0,0] qblf) (rid:=23) (by kernel_rfl) (by kernel_rfl) qbni (trivial))
theorem qbnk:SpecOK Tryz.prog 7 qbnc:=specOK_a Tryz.f7 qbng qblc (d:=0) qbnh qbnj (rngs0 (by kernel_rfl)) (toY:=qbm9)
def qbnl:List HV:=[.agg hFs, .one (.str), .one (.str), .one (.str)]
def qbnm:List HV:=[.one (.bool)]
def qbnn:HP.V qbnl→Fs×Str×Str×Str:=fun v=>((cFs v.1),v.2.1,v.2.2.1,v.2.2.2.1)
def qbno:HX.V qbnm→Bool:=fun v=>(v)
def qbnp:Bool→HX.V qbnm:=fun y=>(y)
def qbnq:(Fs×Str×Str×Str)→Option (Bool):=fun x=>law11_MakeKeeps x.1 x.2.1 x.2.2.1 x.2.2.2
def qbnr:Spec:=mkSpec qbnl qbnm qbnn qbnp qbnq
def qbns:Cfg:={T:=qbla,spec:=[(15,qblm),(16,qblw),(17,qayh),(19,qbae),(20,qay5),(21,qbkp),(22,qazt)],glob:=GlobL.G Tryz.prog,eqs:=qblb,N:=68,fuel:=64,fid:=8}
theorem qbnt:CfgOK Tryz.prog qbns:=cfgC qbld qble ⟨qblp,⟨qblz,⟨qayy,⟨qbah,⟨qazm,⟨qbks,⟨qa0v,trivial⟩⟩⟩⟩⟩⟩⟩
theorem qbnu:SpecOK Tryz.prog 8 qbnr:=specOK_0 Tryz.f8 qbnt qblc (toY:=qbno)
end
end Go.Eng
