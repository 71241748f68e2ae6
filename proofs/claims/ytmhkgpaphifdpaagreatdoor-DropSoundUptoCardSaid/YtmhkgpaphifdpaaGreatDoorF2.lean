/- A part of the proofs of the laws of this seat: the engine that reads the program's code, plain functions, or facts of the program's functions. Conditions: none. -/
import Derived.Test.YtmhkgpaphifdpaaGreatDoorE4
import Derived.Test.YtmhkgpaphifdpaaGreatDoorF1
import Derived.Test.YtmhkgpaphifdpaaGreatDoorP1
set_option linter.unusedSectionVars false
set_option linter.unusedVariables false
set_option linter.unusedSimpArgs false
set_option linter.unnecessarySimpa false
set_option linter.unusedVariables false
set_option maxRecDepth 100000
namespace Go.Eng
noncomputable section
open Go Go.Proofs
def qbet:List (Nat×TI):=[(3,⟨false,1, .one (.int .i64 0), .int .i64⟩),(9,⟨false,1, .one (.str []), .str⟩),(24,⟨true,4, .agg [.int .i64 0, .int .i64 0, .int .i64 0, .clip .inode []], .struct [(0,3),(1,3),(2,3),(3,22)]⟩),(37,⟨true,3, .agg [.int .i64 0, .str [], .int .i64 0], .struct [(0,3),(1,9),(2,3)]⟩),(43,⟨false,1, .one (.clip .entry []), .slice .entry 95⟩),(45,⟨true,6, .agg [.int .i64 0, .int .i64 0, .int .i64 0, .str [], .int .i64 0, .clip .entry []], .struct [(0,3),(1,3),(2,3),(3,9),(4,3),(5,43)]⟩),(65,⟨false,1, .one (.clip .str []), .slice .str 9⟩)]
def qbeu:List (Nat×List EK):= []
theorem qbev:Tryz.prog.follows .mixedOrders=true:=by kernel_rfl
theorem qbew:(qbet.all fun x=>tiB Tryz.prog x.1 x.2)=true:=by kernel_rfl
theorem qbex:(qbeu.all fun x=>eqB Tryz.prog x.1 x.2)=true:=by kernel_rfl
def qbey:Code:=bd Tryz.f109
def qbez:HS:=⟨[(2, .one (.ptr 0 0)),(4, .one (.ptr 1 0)),(6, .one (.sl .str)),(8, .one (.ptr 2 0)),(9, .one (.int .i64))],[(0, .cells hFs),(1, .cells [.int .i64, .str, .int .i64]),(2, .cells [.int .i64, .str, .int .i64])],3⟩
def qbe0 {R:Type}:Nat→HS.V qbez→(Ex→St→Option R)→Option R:=fun q v K=>
 ref09_At_L6 v.1.2.2.1 (cFs v.2.1) (fun y11=>K .ret {regs:=[(4, .v (.one (.ptr 1 0))),(5, .v (.one (.int .i64 y11)))],mem:=[(1, .cells [.int .i64 ((⟨0, [],0⟩:Spotted).dir), .str ((⟨0, [],0⟩:Spotted).name), .int .i64 ((⟨0, [],0⟩:Spotted).ino)])],nx:=2}) (fun y14=>K (.exit 0) {regs:=[(4, .v (.one (.ptr 1 0))),(8, .v (.one (.ptr 2 0)))],mem:=[(1, .cells [.int .i64 ((⟨v.2.2.1.1,v.2.2.1.2.1,v.2.2.1.2.2.1⟩:Spotted).dir), .str ((⟨v.2.2.1.1,v.2.2.1.2.1,v.2.2.1.2.2.1⟩:Spotted).name), .int .i64 ((⟨v.2.2.1.1,v.2.2.1.2.1,v.2.2.1.2.2.1⟩:Spotted).ino)]),(2, .cells [.int .i64 y14.dir, .str y14.name, .int .i64 y14.ino])],nx:=3}) q v.1.2.2.2.2.1 (⟨v.2.2.2.1.1,v.2.2.2.1.2.1,v.2.2.2.1.2.2.1⟩:Spotted)
def qbe1:List HV:=[.agg hFs, .one (.str)]
def qbe2:List HV:=[.agg [.int .i64, .str, .int .i64], .one (.int .i64)]
def qbe3:HP.V qbe1→Fs×Str:=fun v=>((cFs v.1),v.2.1)
def qbe4:HX.V qbe2→Spotted×Int:=fun v=>((⟨v.1.1,v.1.2.1,v.1.2.2.1⟩:Spotted),v.2)
def qbe5:(Spotted×Int)→HX.V qbe2:=fun y=>((y.1.dir,(y.1.name,(y.1.ino,()))),y.2)
def qbe6:(Fs×Str)→Option (Spotted×Int):=fun x=>ref09_At x.1 x.2
def qbe7:Spec:=mkSpec qbe1 qbe2 qbe3 qbe5 qbe6
def qbe8 {R:Type}:List (Nat×Hd R):=[(6,hdOf qbez qbe0)]
def qbe9 {R:Type}:List (Nat×Inl R):= []
def qbfa:Cfg:={T:=qbet,spec:=[(27,qa4x),(85,qa2q),(135,qa1i)],glob:=GlobL.G Tryz.prog,eqs:=qbeu,N:=63,fuel:=64,loops:=[(6,⟨[2,4,6,8,9], [],[0,1,2],3, [], [], [], []⟩)],blocks:=[(0,⟨[4,8], [],[1,2],3, [], [], [], []⟩)],retA:=some ⟨[4,5], [],[1],2, [], [], [], []⟩,fid:=109}
theorem qbfb:CfgOK Tryz.prog qbfa:=cfgC qbew qbex ⟨qa45,⟨qa2y,⟨qa1q,trivial⟩⟩⟩
theorem qbfc {R:Type}:SubsOK Tryz.prog (R:=R) 0 qbe9:=subsOK_nil _ _
theorem qbfd {R:Type}:LoopOK (R:=R) (hnd 0 qbe9) qbfa qbe8 (sub [1,1,1,1,0,1,0,0] qbey) (HS.V qbez) (HS.st qbez) (HS.sh qbez) qbe0 (hdOf qbez qbe0):=loopOK_of qbez qbe0 (fun _ _=>rfl) (by intro q v K;kernel_rfl)
theorem qbfe {R:Type}:LoopsOK (R:=R) (hnd 0 qbe9) qbfa qbe8 qbey:=loopsOK_of (l:=[sub [1,1,1,1,0,1,0,0] qbey]) (by kernel_rfl) (loopsL_cons (b:=sub [1,1,1,1,0,1,0,0] qbey) (rid:=6) (by kernel_rfl) (by kernel_rfl) qbfd (trivial))
theorem qbff:SpecOK Tryz.prog 109 qbe7:=specOK_a Tryz.f109 qbfb qbev (d:=0) qbfc qbfe (rngs0 (by kernel_rfl)) (toY:=qbe4)
def qbfg:List HV:=[.agg hFs, .one (.str)]
def qbfh:List HV:=[.agg hIn, .one (.int .i64)]
def qbfi:HP.V qbfg→Fs×Str:=fun v=>((cFs v.1),v.2.1)
def qbfj:HX.V qbfh→Inode×Int:=fun v=>((cIn v.1),v.2)
def qbfk:(Inode×Int)→HX.V qbfh:=fun y=>((y.1.ino,(y.1.kind,(y.1.links,(y.1.data,(y.1.parent,(y.1.entries,())))))),y.2)
def qbfl:(Fs×Str)→Option (Inode×Int):=fun x=>ref09_Get x.1 x.2
def qbfm:Spec:=mkSpec qbfg qbfh qbfi qbfk qbfl
def qbfn:Cfg:={T:=qbet,spec:=[(27,qa4x),(109,qbe7)],glob:=GlobL.G Tryz.prog,eqs:=qbeu,N:=32,fuel:=64,fid:=84}
theorem qbfo:CfgOK Tryz.prog qbfn:=cfgC qbew qbex ⟨qa45,⟨qbff,trivial⟩⟩
theorem qbfp:SpecOK Tryz.prog 84 qbfm:=specOK_0 Tryz.f84 qbfo qbev (toY:=qbfj)
end
end Go.Eng
set_option linter.unusedVariables false
set_option maxRecDepth 100000
namespace Go.Eng
noncomputable section
open Go Go.Proofs
def qbfq:List (Nat×TI):=[(3,⟨false,1, .one (.int .i64 0), .int .i64⟩),(4,⟨false,1, .one (.bool false), .bool⟩),(9,⟨false,1, .one (.str []), .str⟩),(22,⟨false,1, .one (.clip .inode []), .slice .inode 45⟩),(24,⟨true,4, .agg [.int .i64 0, .int .i64 0, .int .i64 0, .clip .inode []], .struct [(0,3),(1,3),(2,3),(3,22)]⟩),(37,⟨true,3, .agg [.int .i64 0, .str [], .int .i64 0], .struct [(0,3),(1,9),(2,3)]⟩),(43,⟨false,1, .one (.clip .entry []), .slice .entry 95⟩),(45,⟨true,6, .agg [.int .i64 0, .int .i64 0, .int .i64 0, .str [], .int .i64 0, .clip .entry []], .struct [(0,3),(1,3),(2,3),(3,9),(4,3),(5,43)]⟩),(65,⟨false,1, .one (.clip .str []), .slice .str 9⟩),(67,⟨true,3, .agg [.bool false, .clip .str [], .bool false], .struct [(0,4),(1,65),(2,4)]⟩)]
def qbfr:List (Nat×List EK):= []
theorem qbfs:Tryz.prog.follows .mixedOrders=true:=by kernel_rfl
theorem qbft:(qbfq.all fun x=>tiB Tryz.prog x.1 x.2)=true:=by kernel_rfl
theorem qbfu:(qbfr.all fun x=>eqB Tryz.prog x.1 x.2)=true:=by kernel_rfl
def qbfv:Code:=bd Tryz.f45
def qbfw:Code:=bd Tryz.f56
def qbfx:HS:=⟨[(1, .one (.str)),(2, .one (.str)),(3, .one (.ptr 0 0)),(7, .one (.int .i64))],[(0, .cells hFs)],1⟩
def qbfy {R:Type}:Nat→HS.V qbfx→(Ex→St→Option R)→Option R:=fun q v K=>
 ref10_Short_L2 (cFs v.2.1) (K .ret {regs:=[(6, .v (.one (.bool false)))],mem:= [],nx:=0}) (K (.exit 0) {regs:=[(1, .v (.one (.str v.1.1))),(2, .v (.one (.str v.1.2.1)))],mem:= [],nx:=0}) q v.1.2.2.2.1
def qbfz:List HV:=[.agg hFs, .one (.str), .one (.str)]
def qbf0:List HV:=[.one (.bool)]
def qbf1:HP.V qbfz→Fs×Str×Str:=fun v=>((cFs v.1),v.2.1,v.2.2.1)
def qbf2:HX.V qbf0→Bool:=fun v=>(v)
def qbf3:Bool→HX.V qbf0:=fun y=>(y)
def qbf4:(Fs×Str×Str)→Option (Bool):=fun x=>ref10_Short x.1 x.2.1 x.2.2
def qbf5:Spec:=mkSpec qbfz qbf0 qbf1 qbf3 qbf4
def qbf6 {R:Type}:List (Nat×Hd R):=[(2,hdOf qbfx qbfy)]
def qbf7 {R:Type}:List (Nat×Inl R):= []
def qbf8:Cfg:={T:=qbfq,glob:=GlobL.G Tryz.prog,eqs:=qbfr,N:=44,fuel:=64,loops:=[(2,⟨[1,2,3,7], [],[0],1, [], [], [], []⟩)],blocks:=[(0,⟨[1,2], [], [],0, [], [], [], []⟩)],retA:=some ⟨[6], [], [],0, [], [], [], []⟩,fid:=45}
theorem qbf9:CfgOK Tryz.prog qbf8:=cfgC qbft qbfu trivial
theorem qbga {R:Type}:SubsOK Tryz.prog (R:=R) 0 qbf7:=subsOK_nil _ _
theorem qbgb {R:Type}:LoopOK (R:=R) (hnd 0 qbf7) qbf8 qbf6 (sub [1,0,1,0,0] qbfv) (HS.V qbfx) (HS.st qbfx) (HS.sh qbfx) qbfy (hdOf qbfx qbfy):=loopOK_of qbfx qbfy (fun _ _=>rfl) (by intro q v K;kernel_rfl)
theorem qbgc {R:Type}:LoopsOK (R:=R) (hnd 0 qbf7) qbf8 qbf6 qbfv:=loopsOK_of (l:=[sub [1,0,1,0,0] qbfv]) (by kernel_rfl) (loopsL_cons (b:=sub [1,0,1,0,0] qbfv) (rid:=2) (by kernel_rfl) (by kernel_rfl) qbgb (trivial))
theorem qbgd:SpecOK Tryz.prog 45 qbf5:=specOK_a Tryz.f45 qbf9 qbfs (d:=0) qbga qbgc (rngs0 (by kernel_rfl)) (toY:=qbf2)
def qbge:List HV:=[.agg hFs, .one (.str)]
def qbgf:List HV:=[.one (.int .i64), .one (.int .i64)]
def qbgg:HP.V qbge→Fs×Str:=fun v=>((cFs v.1),v.2.1)
def qbgh:HX.V qbgf→Int×Int:=fun v=>(v.1,v.2)
def qbgi:(Int×Int)→HX.V qbgf:=fun y=>(y.1,y.2)
def qbgj:(Fs×Str)→Option (Int×Int):=fun x=>ref10_Home x.1 x.2
def qbgk:Spec:=mkSpec qbge qbgf qbgg qbgi qbgj
def qbgl:Cfg:={T:=qbfq,spec:=[(84,qbfm)],glob:=GlobL.G Tryz.prog,eqs:=qbfr,N:=22,fuel:=64,fid:=55}
theorem qbgm:CfgOK Tryz.prog qbgl:=cfgC qbft qbfu ⟨qbfp,trivial⟩
theorem qbgn:SpecOK Tryz.prog 55 qbgk:=specOK_0 Tryz.f55 qbgm qbfs (toY:=qbgh)
def qbgo:List HV:=[.agg hFs, .agg [.int .i64, .str, .int .i64], .one (.sl .str), .one (.bool), .one (.bool), .one (.int .i64)]
def qbgp:List HV:=[.agg [.int .i64, .str, .int .i64], .one (.int .i64)]
def qbgq:HP.V qbgo→Fs×Spotted×(List Str)×Bool×Bool×Int:=fun v=>((cFs v.1),(⟨v.2.1.1,v.2.1.2.1,v.2.1.2.2.1⟩:Spotted),v.2.2.1,v.2.2.2.1,v.2.2.2.2.1,v.2.2.2.2.2.1)
def qbgr:HX.V qbgp→Spotted×Int:=fun v=>((⟨v.1.1,v.1.2.1,v.1.2.2.1⟩:Spotted),v.2)
def qbgs:(Spotted×Int)→HX.V qbgp:=fun y=>((y.1.dir,(y.1.name,(y.1.ino,()))),y.2)
def qbgt (nn:Nat):(Fs×Spotted×(List Str)×Bool×Bool×Int)→Option (Spotted×Int):=fun x=>ref10_on_r nn x.1 x.2.1 x.2.2.1 x.2.2.2.1 x.2.2.2.2.1 x.2.2.2.2.2
def qbgu (nn:Nat):Spec:=mkSpec qbgo qbgp qbgq qbgs (qbgt nn)
def qbgv:(Fs×Spotted×(List Str)×Bool×Bool×Int)→Option (Spotted×Int):=fun x=>ref10_on x.1 x.2.1 x.2.2.1 x.2.2.2.1 x.2.2.2.2.1 x.2.2.2.2.2
def qbgw:Spec:=mkSpec qbgo qbgp qbgq qbgs qbgv
def qbgx {R:Type} (nn:Nat):List (Nat×Hd R):= []
def qbgy {R:Type} (nn:Nat):List (Nat×Inl R):= []
def qbgz (nn:Nat):Cfg:={T:=qbfq,spec:=[(27,qa4x),(53,qa0a),(54,qa0p),(56,qbgu nn),(85,qa2q)],glob:=GlobL.G Tryz.prog,eqs:=qbfr,N:=176,fuel:=64,fid:=56}
theorem qbg0 (nn:Nat) (hrec:SpecOK Tryz.prog 56 (qbgu nn)):CfgOK Tryz.prog (qbgz nn):=cfgC qbft qbfu ⟨qa45,⟨qa0i,⟨qa0s,⟨hrec,⟨qa2y,trivial⟩⟩⟩⟩⟩
theorem qbg1 {R:Type} (nn:Nat):SubsOK Tryz.prog (R:=R) 0 (qbgy nn):=subsOK_nil _ _
theorem qbg2 {R:Type} (nn:Nat):LoopsOK (R:=R) (hnd 0 (qbgy nn)) (qbgz nn) (qbgx nn) qbfw:=loopsOK_of (l:= []) (by kernel_rfl) (trivial)
theorem qbg3 (nn:Nat):RngsOK Tryz.prog (qbgz nn) qbfw:=rngs0 (by kernel_rfl)
theorem qbg4 (nn:Nat):∀v,runFn (hnd 0 (qbgy nn)) (qbgz nn) (qbgx nn) qbfw Tryz.f56.results.toList (HP.st qbgo v) (decOf qbgp qbgr)=qbgt (nn+1) (qbgq v):=by intro v;kernel_rfl
theorem qbg5:∀nn,SpecOK Tryz.prog 56 (qbgu nn)
 |0=>⟨enters_of (fn:=Tryz.f56) (body:=qbfw) (by kernel_rfl) (by kernel_rfl) (by kernel_rfl),fun S w args vs x y _ _ _ _ h=>by cases h⟩
 |nn+1=>specOK_mk (fn:=Tryz.f56) (by kernel_rfl) (by kernel_rfl) (by kernel_rfl) (qbg0 nn (qbg5 nn)) (by kernel_rfl) (by kernel_rfl) qbfs (by kernel_rfl) (fun _=>rfl) (d:=0) (qbg1 nn) (qbg2 nn) (qbg3 nn) (qbg4 nn)
theorem qbg6:SpecOK Tryz.prog 56 qbgw:=qbg5 FUEL
def qbg7:List HV:=[.agg hFs, .one (.str), .one (.str), .one (.bool)]
def qbg8:List HV:=[.agg [.int .i64, .str, .int .i64], .one (.int .i64)]
def qbg9:HP.V qbg7→Fs×Str×Str×Bool:=fun v=>((cFs v.1),v.2.1,v.2.2.1,v.2.2.2.1)
def qbha:HX.V qbg8→Spotted×Int:=fun v=>((⟨v.1.1,v.1.2.1,v.1.2.2.1⟩:Spotted),v.2)
def qbhb:(Spotted×Int)→HX.V qbg8:=fun y=>((y.1.dir,(y.1.name,(y.1.ino,()))),y.2)
def qbhc:(Fs×Str×Str×Bool)→Option (Spotted×Int):=fun x=>ref10_Seek x.1 x.2.1 x.2.2.1 x.2.2.2
def qbhd:Spec:=mkSpec qbg7 qbg8 qbg9 qbhb qbhc
def qbhe:Cfg:={T:=qbfq,spec:=[(53,qa0a),(54,qa0p),(55,qbgk),(56,qbgw)],glob:=GlobL.G Tryz.prog,eqs:=qbfr,N:=47,fuel:=64,fid:=24}
theorem qbhf:CfgOK Tryz.prog qbhe:=cfgC qbft qbfu ⟨qa0i,⟨qa0s,⟨qbgn,⟨qbg6,trivial⟩⟩⟩⟩
theorem qbhg:SpecOK Tryz.prog 24 qbhd:=specOK_0 Tryz.f24 qbhf qbfs (toY:=qbha)
end
end Go.Eng
set_option linter.unusedVariables false
set_option maxRecDepth 100000
namespace Go.Eng
noncomputable section
open Go Go.Proofs
def qbhh:List (Nat×TI):=[(3,⟨false,1, .one (.int .i64 0), .int .i64⟩),(4,⟨false,1, .one (.bool false), .bool⟩),(9,⟨false,1, .one (.str []), .str⟩),(24,⟨true,4, .agg [.int .i64 0, .int .i64 0, .int .i64 0, .clip .inode []], .struct [(0,3),(1,3),(2,3),(3,22)]⟩),(37,⟨true,3, .agg [.int .i64 0, .str [], .int .i64 0], .struct [(0,3),(1,9),(2,3)]⟩),(43,⟨false,1, .one (.clip .entry []), .slice .entry 95⟩),(45,⟨true,6, .agg [.int .i64 0, .int .i64 0, .int .i64 0, .str [], .int .i64 0, .clip .entry []], .struct [(0,3),(1,3),(2,3),(3,9),(4,3),(5,43)]⟩),(67,⟨true,3, .agg [.bool false, .clip .str [], .bool false], .struct [(0,4),(1,65),(2,4)]⟩)]
def qbhi:List (Nat×List EK):= []
theorem qbhj:Tryz.prog.follows .mixedOrders=true:=by kernel_rfl
theorem qbhk:(qbhh.all fun x=>tiB Tryz.prog x.1 x.2)=true:=by kernel_rfl
theorem qbhl:(qbhi.all fun x=>eqB Tryz.prog x.1 x.2)=true:=by kernel_rfl
def qbhm:List HV:=[.agg hFs, .agg [.int .i64, .str, .int .i64], .one (.int .i64)]
def qbhn:List HV:=[.agg hFs]
def qbho:HP.V qbhm→Fs×Spotted×Int:=fun v=>((cFs v.1),(⟨v.2.1.1,v.2.1.2.1,v.2.1.2.2.1⟩:Spotted),v.2.2.1)
def qbhp:HX.V qbhn→Fs:=fun v=>((cFs v))
def qbhq:Fs→HX.V qbhn:=fun y=>((y.maxInodes,(y.maxBytes,(y.next,(y.inodes,())))))
def qbhr:(Fs×Spotted×Int)→Option (Fs):=fun x=>ref12_Name x.1 x.2.1 x.2.2
def qbhs:Spec:=mkSpec qbhm qbhn qbho qbhq qbhr
def qbht:Cfg:={T:=qbhh,spec:=[(27,qa4x),(64,qa3o),(65,qa66)],glob:=GlobL.G Tryz.prog,eqs:=qbhi,N:=40,fuel:=64,fid:=42}
theorem qbhu:CfgOK Tryz.prog qbht:=cfgC qbhk qbhl ⟨qa45,⟨qa3w,⟨qa7e,trivial⟩⟩⟩
theorem qbhv:SpecOK Tryz.prog 42 qbhs:=specOK_0 Tryz.f42 qbhu qbhj (toY:=qbhp)
def qbhw:List HV:=[.agg hFs, .one (.str), .one (.str), .one (.str)]
def qbhx:List HV:=[.agg hFs, .one (.int .i64)]
def qbhy:HP.V qbhw→Fs×Str×Str×Str:=fun v=>((cFs v.1),v.2.1,v.2.2.1,v.2.2.2.1)
def qbhz:HX.V qbhx→Fs×Int:=fun v=>((cFs v.1),v.2)
def qbh0:(Fs×Int)→HX.V qbhx:=fun y=>((y.1.maxInodes,(y.1.maxBytes,(y.1.next,(y.1.inodes,())))),y.2)
def qbh1:(Fs×Str×Str×Str)→Option (Fs×Int):=fun x=>ref12_Link x.1 x.2.1 x.2.2.1 x.2.2.2
def qbh2:Spec:=mkSpec qbhw qbhx qbhy qbh0 qbh1
def qbh3:Cfg:={T:=qbhh,spec:=[(24,qbhd),(27,qa4x),(40,qazc),(42,qbhs),(54,qa0p)],glob:=GlobL.G Tryz.prog,eqs:=qbhi,N:=71,fuel:=64,fid:=33}
theorem qbh4:CfgOK Tryz.prog qbh3:=cfgC qbhk qbhl ⟨qbhg,⟨qa45,⟨qazk,⟨qbhv,⟨qa0s,trivial⟩⟩⟩⟩⟩
theorem qbh5:SpecOK Tryz.prog 33 qbh2:=specOK_0 Tryz.f33 qbh4 qbhj (toY:=qbhz)
def qbh6:List HV:=[.agg hFs, .agg [.int .i64, .str, .int .i64]]
def qbh7:List HV:=[.agg hFs]
def qbh8:HP.V qbh6→Fs×Spotted:=fun v=>((cFs v.1),(⟨v.2.1.1,v.2.1.2.1,v.2.1.2.2.1⟩:Spotted))
def qbh9:HX.V qbh7→Fs:=fun v=>((cFs v))
def qbia:Fs→HX.V qbh7:=fun y=>((y.maxInodes,(y.maxBytes,(y.next,(y.inodes,())))))
def qbib:(Fs×Spotted)→Option (Fs):=fun x=>ref12_Unname x.1 x.2
def qbic:Spec:=mkSpec qbh6 qbh7 qbh8 qbia qbib
def qbid:Cfg:={T:=qbhh,spec:=[(27,qa4x),(65,qa66),(78,qa27),(79,qa6p)],glob:=GlobL.G Tryz.prog,eqs:=qbhi,N:=46,fuel:=64,fid:=39}
theorem qbie:CfgOK Tryz.prog qbid:=cfgC qbhk qbhl ⟨qa45,⟨qa7e,⟨qa3f,⟨qa6x,trivial⟩⟩⟩⟩
theorem qbif:SpecOK Tryz.prog 39 qbic:=specOK_0 Tryz.f39 qbie qbhj (toY:=qbh9)
def qbig:List HV:=[.agg hFs, .one (.str), .one (.str)]
def qbih:List HV:=[.agg hFs, .one (.int .i64)]
def qbii:HP.V qbig→Fs×Str×Str:=fun v=>((cFs v.1),v.2.1,v.2.2.1)
def qbij:HX.V qbih→Fs×Int:=fun v=>((cFs v.1),v.2)
def qbik:(Fs×Int)→HX.V qbih:=fun y=>((y.1.maxInodes,(y.1.maxBytes,(y.1.next,(y.1.inodes,())))),y.2)
def qbil:(Fs×Str×Str)→Option (Fs×Int):=fun x=>ref12_Unlink x.1 x.2.1 x.2.2
def qbim:Spec:=mkSpec qbig qbih qbii qbik qbil
def qbin:Cfg:={T:=qbhh,spec:=[(24,qbhd),(27,qa4x),(39,qbic)],glob:=GlobL.G Tryz.prog,eqs:=qbhi,N:=41,fuel:=64,fid:=35}
theorem qbio:CfgOK Tryz.prog qbin:=cfgC qbhk qbhl ⟨qbhg,⟨qa45,⟨qbif,trivial⟩⟩⟩
theorem qbip:SpecOK Tryz.prog 35 qbim:=specOK_0 Tryz.f35 qbio qbhj (toY:=qbij)
def qbiq:List HV:=[.agg hFs, .one (.str), .one (.str)]
def qbir:List HV:=[.agg hFs, .one (.int .i64)]
def qbis:HP.V qbiq→Fs×Str×Str:=fun v=>((cFs v.1),v.2.1,v.2.2.1)
def qbit:HX.V qbir→Fs×Int:=fun v=>((cFs v.1),v.2)
def qbiu:(Fs×Int)→HX.V qbir:=fun y=>((y.1.maxInodes,(y.1.maxBytes,(y.1.next,(y.1.inodes,())))),y.2)
def qbiv:(Fs×Str×Str)→Option (Fs×Int):=fun x=>ref12_Rmdir x.1 x.2.1 x.2.2
def qbiw:Spec:=mkSpec qbiq qbir qbis qbiu qbiv
def qbix:Cfg:={T:=qbhh,spec:=[(24,qbhd),(27,qa4x),(39,qbic)],glob:=GlobL.G Tryz.prog,eqs:=qbhi,N:=54,fuel:=64,fid:=37}
theorem qbiy:CfgOK Tryz.prog qbix:=cfgC qbhk qbhl ⟨qbhg,⟨qa45,⟨qbif,trivial⟩⟩⟩
theorem qbiz:SpecOK Tryz.prog 37 qbiw:=specOK_0 Tryz.f37 qbiy qbhj (toY:=qbit)
end
end Go.Eng
set_option linter.unusedVariables false
set_option maxRecDepth 100000
namespace Go.Eng
noncomputable section
open Go Go.Proofs
def qbi0:List (Nat×TI):=[(3,⟨false,1, .one (.int .i64 0), .int .i64⟩),(5,⟨false,1, .one (.int .u8 0), .int .u8⟩),(9,⟨false,1, .one (.str []), .str⟩),(22,⟨false,1, .one (.clip .inode []), .slice .inode 45⟩),(24,⟨true,4, .agg [.int .i64 0, .int .i64 0, .int .i64 0, .clip .inode []], .struct [(0,3),(1,3),(2,3),(3,22)]⟩),(37,⟨true,3, .agg [.int .i64 0, .str [], .int .i64 0], .struct [(0,3),(1,9),(2,3)]⟩),(43,⟨false,1, .one (.clip .entry []), .slice .entry 95⟩),(45,⟨true,6, .agg [.int .i64 0, .int .i64 0, .int .i64 0, .str [], .int .i64 0, .clip .entry []], .struct [(0,3),(1,3),(2,3),(3,9),(4,3),(5,43)]⟩),(49,⟨false,1, .one (.clip .seen []), .slice .seen 52⟩),(95,⟨true,2, .agg [.str [], .int .i64 0], .struct [(0,9),(1,3)]⟩)]
def qbi1:List (Nat×List EK):= []
theorem qbi2:Tryz.prog.follows .mixedOrders=true:=by kernel_rfl
theorem qbi3:(qbi0.all fun x=>tiB Tryz.prog x.1 x.2)=true:=by kernel_rfl
theorem qbi4:(qbi1.all fun x=>eqB Tryz.prog x.1 x.2)=true:=by kernel_rfl
def qbi5:List HV:= []
def qbi6:List HV:=[.agg hFs]
def qbi7:HP.V qbi5→Unit:=fun v=>()
def qbi8:HX.V qbi6→Fs:=fun v=>((cFs v))
def qbi9:Fs→HX.V qbi6:=fun y=>((y.maxInodes,(y.maxBytes,(y.next,(y.inodes,())))))
def qbja:Unit→Option (Fs):=fun x=>law12_small
def qbjb:Spec:=mkSpec qbi5 qbi6 qbi7 qbi9 qbja
def qbjc:Cfg:={T:=qbi0,spec:=[(43,qa5c),(65,qa66)],glob:=GlobL.G Tryz.prog,eqs:=qbi1,N:=17,fuel:=64,fid:=72}
theorem qbjd:CfgOK Tryz.prog qbjc:=cfgC qbi3 qbi4 ⟨qa5f,⟨qa7e,trivial⟩⟩
theorem qbje:SpecOK Tryz.prog 72 qbjb:=specOK_0 Tryz.f72 qbjd qbi2 (toY:=qbi8)
def qbjf:List HV:= []
def qbjg:List HV:=[.one (.bool)]
def qbjh:HP.V qbjf→Unit:=fun v=>()
def qbji:HX.V qbjg→Bool:=fun v=>(v)
def qbjj:Bool→HX.V qbjg:=fun y=>(y)
def qbjk:Unit→Option (Bool):=fun x=>law12_awake
def qbjl:Spec:=mkSpec qbjf qbjg qbjh qbjj qbjk
def qbjm:Cfg:={T:=qbi0,spec:=[(27,qa4x),(32,qaxw),(34,qayg),(36,qayq),(72,qbjb)],glob:=GlobL.G Tryz.prog,eqs:=qbi1,N:=107,fuel:=64,fid:=30}
theorem qbjn:CfgOK Tryz.prog qbjm:=cfgC qbi3 qbi4 ⟨qa45,⟨qaxz,⟨qayj,⟨qayt,⟨qbje,trivial⟩⟩⟩⟩⟩
theorem qbjo:SpecOK Tryz.prog 30 qbjl:=specOK_0 Tryz.f30 qbjn qbi2 (toY:=qbji)
def qbjp:List HV:=[.agg hFs, .one (.str), .one (.str), .one (.str)]
def qbjq:List HV:=[.one (.bool)]
def qbjr:HP.V qbjp→Fs×Str×Str×Str:=fun v=>((cFs v.1),v.2.1,v.2.2.1,v.2.2.2.1)
def qbjs:HX.V qbjq→Bool:=fun v=>(v)
def qbjt:Bool→HX.V qbjq:=fun y=>(y)
def qbju:(Fs×Str×Str×Str)→Option (Bool):=fun x=>law12_fits x.1 x.2.1 x.2.2.1 x.2.2.2
def qbjv:Spec:=mkSpec qbjp qbjq qbjr qbjt qbju
def qbjw:Cfg:={T:=qbi0,spec:=[(44,qbdd),(45,qbf5)],glob:=GlobL.G Tryz.prog,eqs:=qbi1,N:=23,fuel:=64,fid:=31}
theorem qbjx:CfgOK Tryz.prog qbjw:=cfgC qbi3 qbi4 ⟨qbdg,⟨qbgd,trivial⟩⟩
theorem qbjy:SpecOK Tryz.prog 31 qbjv:=specOK_0 Tryz.f31 qbjx qbi2 (toY:=qbjs)
def qbjz:List HV:=[.agg hFs, .one (.str), .one (.str), .one (.str)]
def qbj0:List HV:=[.one (.bool)]
def qbj1:HP.V qbjz→Fs×Str×Str×Str:=fun v=>((cFs v.1),v.2.1,v.2.2.1,v.2.2.2.1)
def qbj2:HX.V qbj0→Bool:=fun v=>(v)
def qbj3:Bool→HX.V qbj0:=fun y=>(y)
def qbj4:(Fs×Str×Str×Str)→Option (Bool):=fun x=>law12_DropLinks x.1 x.2.1 x.2.2.1 x.2.2.2
def qbj5:Spec:=mkSpec qbjz qbj0 qbj1 qbj3 qbj4
def qbj6:Cfg:={T:=qbi0,spec:=[(19,qa8c),(30,qbjl),(31,qbjv),(32,qaxw),(33,qbh2)],glob:=GlobL.G Tryz.prog,eqs:=qbi1,N:=48,fuel:=64,fid:=9}
theorem qbj7:CfgOK Tryz.prog qbj6:=cfgC qbi3 qbi4 ⟨qa8f,⟨qbjo,⟨qbjy,⟨qaxz,⟨qbh5,trivial⟩⟩⟩⟩⟩
theorem qbj8:SpecOK Tryz.prog 9 qbj5:=specOK_0 Tryz.f9 qbj7 qbi2 (toY:=qbj2)
def qbj9:List HV:=[.agg hFs, .one (.str), .one (.str)]
def qbka:List HV:=[.one (.bool)]
def qbkb:HP.V qbj9→Fs×Str×Str:=fun v=>((cFs v.1),v.2.1,v.2.2.1)
def qbkc:HX.V qbka→Bool:=fun v=>(v)
def qbkd:Bool→HX.V qbka:=fun y=>(y)
def qbke:(Fs×Str×Str)→Option (Bool):=fun x=>law12_DropUnlinks x.1 x.2.1 x.2.2
def qbkf:Spec:=mkSpec qbj9 qbka qbkb qbkd qbke
def qbkg:Cfg:={T:=qbi0,spec:=[(19,qa8c),(30,qbjl),(31,qbjv),(34,qayg),(35,qbim),(36,qayq),(37,qbiw)],glob:=GlobL.G Tryz.prog,eqs:=qbi1,N:=72,fuel:=64,fid:=10}
theorem qbkh:CfgOK Tryz.prog qbkg:=cfgC qbi3 qbi4 ⟨qa8f,⟨qbjo,⟨qbjy,⟨qayj,⟨qbip,⟨qayt,⟨qbiz,trivial⟩⟩⟩⟩⟩⟩⟩
theorem qbki:SpecOK Tryz.prog 10 qbkf:=specOK_0 Tryz.f10 qbkh qbi2 (toY:=qbkc)
def qbkj:List HV:=[.agg hFs, .one (.str), .one (.str), .one (.int .i64)]
def qbkk:List HV:=[.one (.bool)]
def qbkl:HP.V qbkj→Fs×Str×Str×Int:=fun v=>((cFs v.1),v.2.1,v.2.2.1,v.2.2.2.1)
def qbkm:HX.V qbkk→Bool:=fun v=>(v)
def qbkn:Bool→HX.V qbkk:=fun y=>(y)
def qbko:(Fs×Str×Str×Int)→Option (Bool):=fun x=>law12_DropNames x.1 x.2.1 x.2.2.1 x.2.2.2
def qbkp:Spec:=mkSpec qbkj qbkk qbkl qbkn qbko
def qbkq:Cfg:={T:=qbi0,spec:=[(19,qa8c),(24,qbhd),(27,qa4x),(30,qbjl),(31,qbjv),(38,qax6),(39,qbic),(40,qazc),(41,qaxc),(42,qbhs)],glob:=GlobL.G Tryz.prog,eqs:=qbi1,N:=100,fuel:=64,fid:=11}
theorem qbkr:CfgOK Tryz.prog qbkq:=cfgC qbi3 qbi4 ⟨qa8f,⟨qbhg,⟨qa45,⟨qbjo,⟨qbjy,⟨qax9,⟨qbif,⟨qazk,⟨qaxf,⟨qbhv,trivial⟩⟩⟩⟩⟩⟩⟩⟩⟩⟩
theorem qbks:SpecOK Tryz.prog 11 qbkp:=specOK_0 Tryz.f11 qbkr qbi2 (toY:=qbkm)
def qbkt:List HV:=[.agg hFs, .one (.str), .one (.str), .one (.str), .one (.int .u8)]
def qbku:List HV:=[.one (.bool)]
def qbkv:HP.V qbkt→Fs×Str×Str×Str×Int:=fun v=>((cFs v.1),v.2.1,v.2.2.1,v.2.2.2.1,v.2.2.2.2.1)
def qbkw:HX.V qbku→Bool:=fun v=>(v)
def qbkx:Bool→HX.V qbku:=fun y=>(y)
def qbky:(Fs×Str×Str×Str×Int)→Option (Bool):=fun x=>law12_DropSound x.1 x.2.1 x.2.2.1 x.2.2.2.1 x.2.2.2.2
def qbkz:Spec:=mkSpec qbkt qbku qbkv qbkx qbky
def qbk0:Cfg:={T:=qbi0,spec:=[(19,qa8c),(28,qbc3),(29,qbep),(30,qbjl),(31,qbjv),(32,qaxw),(34,qayg),(36,qayq)],glob:=GlobL.G Tryz.prog,eqs:=qbi1,N:=73,fuel:=64,fid:=12}
theorem qbk1:CfgOK Tryz.prog qbk0:=cfgC qbi3 qbi4 ⟨qa8f,⟨qbc6,⟨qbes,⟨qbjo,⟨qbjy,⟨qaxz,⟨qayj,⟨qayt,trivial⟩⟩⟩⟩⟩⟩⟩⟩
theorem qbk2:SpecOK Tryz.prog 12 qbkz:=specOK_0 Tryz.f12 qbk1 qbi2 (toY:=qbkw)
def qbk3:List HV:=[.agg hFs, .one (.str), .one (.str), .one (.str)]
def qbk4:List HV:=[.one (.bool)]
def qbk5:HP.V qbk3→Fs×Str×Str×Str:=fun v=>((cFs v.1),v.2.1,v.2.2.1,v.2.2.2.1)
def qbk6:HX.V qbk4→Bool:=fun v=>(v)
def qbk7:Bool→HX.V qbk4:=fun y=>(y)
def qbk8:(Fs×Str×Str×Str)→Option (Bool):=fun x=>law12_DropBack x.1 x.2.1 x.2.2.1 x.2.2.2
def qbk9:Spec:=mkSpec qbk3 qbk4 qbk5 qbk7 qbk8
def qbla:Cfg:={T:=qbi0,spec:=[(19,qa8c),(24,qbhd),(30,qbjl),(31,qbjv),(32,qaxw),(34,qayg)],glob:=GlobL.G Tryz.prog,eqs:=qbi1,N:=79,fuel:=64,fid:=13}
theorem qblb:CfgOK Tryz.prog qbla:=cfgC qbi3 qbi4 ⟨qa8f,⟨qbhg,⟨qbjo,⟨qbjy,⟨qaxz,⟨qayj,trivial⟩⟩⟩⟩⟩⟩
theorem qblc:SpecOK Tryz.prog 13 qbk9:=specOK_0 Tryz.f13 qblb qbi2 (toY:=qbk6)
def qbld:List HV:=[.agg hFs, .one (.str), .one (.str), .one (.str)]
def qble:List HV:=[.one (.bool)]
def qblf:HP.V qbld→Fs×Str×Str×Str:=fun v=>((cFs v.1),v.2.1,v.2.2.1,v.2.2.2.1)
def qblg:HX.V qble→Bool:=fun v=>(v)
def qblh:Bool→HX.V qble:=fun y=>(y)
def qbli:(Fs×Str×Str×Str)→Option (Bool):=fun x=>law12_DropKeeps x.1 x.2.1 x.2.2.1 x.2.2.2
def qblj:Spec:=mkSpec qbld qble qblf qblh qbli
def qblk:Cfg:={T:=qbi0,spec:=[(19,qa8c),(30,qbjl),(31,qbjv),(32,qaxw),(33,qbh2),(34,qayg),(35,qbim),(36,qayq)],glob:=GlobL.G Tryz.prog,eqs:=qbi1,N:=91,fuel:=64,fid:=14}
theorem qbll:CfgOK Tryz.prog qblk:=cfgC qbi3 qbi4 ⟨qa8f,⟨qbjo,⟨qbjy,⟨qaxz,⟨qbh5,⟨qayj,⟨qbip,⟨qayt,trivial⟩⟩⟩⟩⟩⟩⟩⟩
theorem qblm:SpecOK Tryz.prog 14 qblj:=specOK_0 Tryz.f14 qbll qbi2 (toY:=qblg)
end
end Go.Eng
