/- A part of the proofs of the laws of this seat: the engine that reads the program's code, plain functions, or facts of the program's functions. Conditions: none. -/
import Derived.Test.YtkdpombpeoiafaaGreatDoorE4
import Derived.Test.YtkdpombpeoiafaaGreatDoorF1
import Derived.Test.YtkdpombpeoiafaaGreatDoorP1
set_option linter.unusedSectionVars false
set_option linter.unusedVariables false
set_option linter.unusedSimpArgs false
set_option linter.unnecessarySimpa false
set_option linter.unusedVariables false
set_option maxRecDepth 100000
namespace Go.Eng
noncomputable section
open Go Go.Proofs
def qbdu:List (Nat×TI):=[(3,⟨false,1, .one (.int .i64 0), .int .i64⟩),(9,⟨false,1, .one (.str []), .str⟩),(24,⟨true,4, .agg [.int .i64 0, .int .i64 0, .int .i64 0, .clip .inode []], .struct [(0,3),(1,3),(2,3),(3,22)]⟩),(34,⟨false,1, .one (.clip .entry []), .slice .entry 94⟩),(36,⟨true,6, .agg [.int .i64 0, .int .i64 0, .int .i64 0, .str [], .int .i64 0, .clip .entry []], .struct [(0,3),(1,3),(2,3),(3,9),(4,3),(5,34)]⟩),(52,⟨false,1, .one (.clip .seen []), .slice .seen 92⟩),(92,⟨true,2, .agg [.str [], .int .i64 0], .struct [(0,9),(1,3)]⟩),(94,⟨true,2, .agg [.str [], .int .i64 0], .struct [(0,9),(1,3)]⟩)]
def qbdv:List (Nat×List EK):=[(92,[.s, .i])]
theorem qbdw:Tryz.prog.follows .mixedOrders=true:=by kernel_rfl
theorem qbdx:(qbdu.all fun x=>tiB Tryz.prog x.1 x.2)=true:=by kernel_rfl
theorem qbdy:(qbdv.all fun x=>eqB Tryz.prog x.1 x.2)=true:=by kernel_rfl
def qbdz:Code:=bd Tryz.f27
def qbd0:Code:=bd Tryz.f28
def qbd1:List HV:=[.one (.str), .one (.str)]
def qbd2:List HV:=[.one (.str)]
def qbd3:HP.V qbd1→Str×Str:=fun v=>(v.1,v.2.1)
def qbd4:HX.V qbd2→Str:=fun v=>(v)
def qbd5:Str→HX.V qbd2:=fun y=>(y)
def qbd6:(Str×Str)→Option (Str):=fun x=>ref08_under x.1 x.2
def qbd7:Spec:=mkSpec qbd1 qbd2 qbd3 qbd5 qbd6
def qbd8:Cfg:={T:=qbdu,glob:=GlobL.G Tryz.prog,eqs:=qbdv,N:=14,fuel:=64,fid:=64}
theorem qbd9:CfgOK Tryz.prog qbd8:=cfgC qbdx qbdy trivial
theorem qbea:SpecOK Tryz.prog 64 qbd7:=specOK_0 Tryz.f64 qbd9 qbdw (toY:=qbd4)
def qbeb:HS:=⟨[(2, .one (.str)),(3, .one (.int .i64)),(4, .one (.ptr 0 0)),(9, .one (.ptr 1 0)),(11, .one (.own 2)),(12, .one (.int .i64))],[(0, .cells hFs),(1, .cells hIn),(2, .row .seen)],3⟩
def qbec {R:Type} (nn:Nat):Nat→HS.V qbeb→(Ex→St→Option R)→Option R:=fun q v K=>
 ref08_Below_L6 (ref08_Below_r nn) v.1.1 v.1.2.1 (cFs v.2.1) (cIn v.2.2.1) (fun y12=>K (.exit 0) {regs:=[(11, .v (.one (.own 2)))],mem:=[(2, .row .seen y12)],nx:=3}) q v.1.2.2.2.2.2.1 v.2.2.2.1
def qbed:List HV:=[.agg hFs, .one (.int .i64), .one (.str), .one (.int .i64)]
def qbee:List HV:=[.one (.sl .seen)]
def qbef:HP.V qbed→Fs×Int×Str×Int:=fun v=>((cFs v.1),v.2.1,v.2.2.1,v.2.2.2.1)
def qbeg:HX.V qbee→(List Seen):=fun v=>(v)
def qbeh:(List Seen)→HX.V qbee:=fun y=>(y)
def qbei (nn:Nat):(Fs×Int×Str×Int)→Option ((List Seen)):=fun x=>ref08_Below_r nn x.1 x.2.1 x.2.2.1 x.2.2.2
def qbej (nn:Nat):Spec:=mkSpec qbed qbee qbef qbeh (qbei nn)
def qbek:(Fs×Int×Str×Int)→Option ((List Seen)):=fun x=>ref08_Below x.1 x.2.1 x.2.2.1 x.2.2.2
def qbel:Spec:=mkSpec qbed qbee qbef qbeh qbek
def qbem {R:Type} (nn:Nat):List (Nat×Hd R):=[(6,hdOf qbeb (qbec nn))]
def qben {R:Type} (nn:Nat):List (Nat×Inl R):= []
def qbeo (nn:Nat):Cfg:={T:=qbdu,spec:=[(18,qa6b),(27,qbej nn),(64,qbd7)],glob:=GlobL.G Tryz.prog,eqs:=qbdv,N:=57,fuel:=64,loops:=[(6,⟨[2,3,4,9,11,12], [],[0,1,2],3, [], [], [], []⟩)],blocks:=[(0,⟨[11], [],[2],3, [], [], [], []⟩)],fid:=27}
theorem qbep (nn:Nat) (hrec:SpecOK Tryz.prog 27 (qbej nn)):CfgOK Tryz.prog (qbeo nn):=cfgC qbdx qbdy ⟨qa6j,⟨hrec,⟨qbea,trivial⟩⟩⟩
theorem qbeq {R:Type} (nn:Nat):SubsOK Tryz.prog (R:=R) 0 (qben nn):=subsOK_nil _ _
theorem qber {R:Type} (nn:Nat):LoopOK (R:=R) (hnd 0 (qben nn)) (qbeo nn) (qbem nn) (sub [1,1,1,1,0,1,0,0] qbdz) (HS.V qbeb) (HS.st qbeb) (HS.sh qbeb) (qbec nn) (hdOf qbeb (qbec nn)):=loopOK_of qbeb (qbec nn) (fun _ _=>rfl) (by intro q v K;kernel_rfl)
theorem qbes {R:Type} (nn:Nat):LoopsOK (R:=R) (hnd 0 (qben nn)) (qbeo nn) (qbem nn) qbdz:=loopsOK_of (l:=[sub [1,1,1,1,0,1,0,0] qbdz]) (by kernel_rfl) (loopsL_cons (b:=sub [1,1,1,1,0,1,0,0] qbdz) (rid:=6) (by kernel_rfl) (by kernel_rfl) (qber nn) (trivial))
theorem qbet (nn:Nat):RngsOK Tryz.prog (qbeo nn) qbdz:=rngs0 (by kernel_rfl)
theorem qbeu (nn:Nat):∀v,runFn (hnd 0 (qben nn)) (qbeo nn) (qbem nn) qbdz Tryz.f27.results.toList (HP.st qbed v) (decOf qbee qbeg)=qbei (nn+1) (qbef v):=by intro v;kernel_rfl
theorem qbev:∀nn,SpecOK Tryz.prog 27 (qbej nn)
 |0=>⟨enters_of (fn:=Tryz.f27) (body:=qbdz) (by kernel_rfl) (by kernel_rfl) (by kernel_rfl),fun S w args vs x y _ _ _ _ h=>by cases h⟩
 |nn+1=>specOK_mk (fn:=Tryz.f27) (by kernel_rfl) (by kernel_rfl) (by kernel_rfl) (qbep nn (qbev nn)) (by kernel_rfl) (by kernel_rfl) qbdw (by kernel_rfl) (fun _=>rfl) (d:=0) (qbeq nn) (qbes nn) (qbet nn) (qbeu nn)
theorem qbew:SpecOK Tryz.prog 27 qbel:=qbev FUEL
def qbex:HS:=⟨[(0, .one (.sl .seen)),(1, .one (.sl .seen)),(5, .one (.int .i64))], [],0⟩
def qbey {R:Type}:Nat→HS.V qbex→(Ex→St→Option R)→Option R:=fun q v K=>
 ref08_Same_L4 v.1.1 v.1.2.1 (K .ret {regs:=[(4, .v (.one (.bool false)))],mem:= [],nx:=0}) (K (.exit 0) {regs:= [],mem:= [],nx:=0}) q v.1.2.2.1
def qbez:List HV:=[.one (.sl .seen), .one (.sl .seen)]
def qbe0:List HV:=[.one (.bool)]
def qbe1:HP.V qbez→(List Seen)×(List Seen):=fun v=>(v.1,v.2.1)
def qbe2:HX.V qbe0→Bool:=fun v=>(v)
def qbe3:Bool→HX.V qbe0:=fun y=>(y)
def qbe4:(List Seen)×(List Seen)→Option (Bool):=fun x=>ref08_Same x.1 x.2
def qbe5:Spec:=mkSpec qbez qbe0 qbe1 qbe3 qbe4
def qbe6 {R:Type}:List (Nat×Hd R):=[(4,hdOf qbex qbey)]
def qbe7 {R:Type}:List (Nat×Inl R):= []
def qbe8:Cfg:={T:=qbdu,glob:=GlobL.G Tryz.prog,eqs:=qbdv,N:=26,fuel:=64,loops:=[(4,⟨[0,1,5], [], [],0, [], [], [], []⟩)],blocks:=[(0,⟨[], [], [],0, [], [], [], []⟩)],retA:=some ⟨[4], [], [],0, [], [], [], []⟩,fid:=28}
theorem qbe9:CfgOK Tryz.prog qbe8:=cfgC qbdx qbdy trivial
theorem qbfa {R:Type}:SubsOK Tryz.prog (R:=R) 0 qbe7:=subsOK_nil _ _
theorem qbfb {R:Type}:LoopOK (R:=R) (hnd 0 qbe7) qbe8 qbe6 (sub [1,1,0,1,0,0] qbd0) (HS.V qbex) (HS.st qbex) (HS.sh qbex) qbey (hdOf qbex qbey):=loopOK_of qbex qbey (fun _ _=>rfl) (by intro q v K;kernel_rfl)
theorem qbfc {R:Type}:LoopsOK (R:=R) (hnd 0 qbe7) qbe8 qbe6 qbd0:=loopsOK_of (l:=[sub [1,1,0,1,0,0] qbd0]) (by kernel_rfl) (loopsL_cons (b:=sub [1,1,0,1,0,0] qbd0) (rid:=4) (by kernel_rfl) (by kernel_rfl) qbfb (trivial))
theorem qbfd:SpecOK Tryz.prog 28 qbe5:=specOK_a Tryz.f28 qbe9 qbdw (d:=0) qbfa qbfc (rngs0 (by kernel_rfl)) (toY:=qbe2)
end
end Go.Eng
set_option linter.unusedVariables false
set_option maxRecDepth 100000
namespace Go.Eng
noncomputable section
open Go Go.Proofs
def qbfe:List (Nat×TI):=[(3,⟨false,1, .one (.int .i64 0), .int .i64⟩),(9,⟨false,1, .one (.str []), .str⟩),(24,⟨true,4, .agg [.int .i64 0, .int .i64 0, .int .i64 0, .clip .inode []], .struct [(0,3),(1,3),(2,3),(3,22)]⟩),(34,⟨false,1, .one (.clip .entry []), .slice .entry 94⟩),(36,⟨true,6, .agg [.int .i64 0, .int .i64 0, .int .i64 0, .str [], .int .i64 0, .clip .entry []], .struct [(0,3),(1,3),(2,3),(3,9),(4,3),(5,34)]⟩),(41,⟨true,3, .agg [.int .i64 0, .str [], .int .i64 0], .struct [(0,3),(1,9),(2,3)]⟩),(46,⟨false,1, .one (.clip .str []), .slice .str 9⟩)]
def qbff:List (Nat×List EK):= []
theorem qbfg:Tryz.prog.follows .mixedOrders=true:=by kernel_rfl
theorem qbfh:(qbfe.all fun x=>tiB Tryz.prog x.1 x.2)=true:=by kernel_rfl
theorem qbfi:(qbff.all fun x=>eqB Tryz.prog x.1 x.2)=true:=by kernel_rfl
def qbfj:Code:=bd Tryz.f21
def qbfk:HS:=⟨[(2, .one (.ptr 0 0)),(4, .one (.ptr 1 0)),(6, .one (.sl .str)),(8, .one (.ptr 2 0)),(9, .one (.int .i64))],[(0, .cells hFs),(1, .cells [.int .i64, .str, .int .i64]),(2, .cells [.int .i64, .str, .int .i64])],3⟩
def qbfl {R:Type}:Nat→HS.V qbfk→(Ex→St→Option R)→Option R:=fun q v K=>
 ref09_At_L6 v.1.2.2.1 (cFs v.2.1) (fun y11=>K .ret {regs:=[(4, .v (.one (.ptr 1 0))),(5, .v (.one (.int .i64 y11)))],mem:=[(1, .cells [.int .i64 ((⟨0, [],0⟩:Spotted).dir), .str ((⟨0, [],0⟩:Spotted).name), .int .i64 ((⟨0, [],0⟩:Spotted).ino)])],nx:=2}) (fun y14=>K (.exit 0) {regs:=[(4, .v (.one (.ptr 1 0))),(8, .v (.one (.ptr 2 0)))],mem:=[(1, .cells [.int .i64 ((⟨v.2.2.1.1,v.2.2.1.2.1,v.2.2.1.2.2.1⟩:Spotted).dir), .str ((⟨v.2.2.1.1,v.2.2.1.2.1,v.2.2.1.2.2.1⟩:Spotted).name), .int .i64 ((⟨v.2.2.1.1,v.2.2.1.2.1,v.2.2.1.2.2.1⟩:Spotted).ino)]),(2, .cells [.int .i64 y14.dir, .str y14.name, .int .i64 y14.ino])],nx:=3}) q v.1.2.2.2.2.1 (⟨v.2.2.2.1.1,v.2.2.2.1.2.1,v.2.2.2.1.2.2.1⟩:Spotted)
def qbfm:List HV:=[.agg hFs, .one (.str)]
def qbfn:List HV:=[.agg [.int .i64, .str, .int .i64], .one (.int .i64)]
def qbfo:HP.V qbfm→Fs×Str:=fun v=>((cFs v.1),v.2.1)
def qbfp:HX.V qbfn→Spotted×Int:=fun v=>((⟨v.1.1,v.1.2.1,v.1.2.2.1⟩:Spotted),v.2)
def qbfq:(Spotted×Int)→HX.V qbfn:=fun y=>((y.1.dir,(y.1.name,(y.1.ino,()))),y.2)
def qbfr:(Fs×Str)→Option (Spotted×Int):=fun x=>ref09_At x.1 x.2
def qbfs:Spec:=mkSpec qbfm qbfn qbfo qbfq qbfr
def qbft {R:Type}:List (Nat×Hd R):=[(6,hdOf qbfk qbfl)]
def qbfu {R:Type}:List (Nat×Inl R):= []
def qbfv:Cfg:={T:=qbfe,spec:=[(18,qa6b),(24,qa04),(47,qa23)],glob:=GlobL.G Tryz.prog,eqs:=qbff,N:=63,fuel:=64,loops:=[(6,⟨[2,4,6,8,9], [],[0,1,2],3, [], [], [], []⟩)],blocks:=[(0,⟨[4,8], [],[1,2],3, [], [], [], []⟩)],retA:=some ⟨[4,5], [],[1],2, [], [], [], []⟩,fid:=21}
theorem qbfw:CfgOK Tryz.prog qbfv:=cfgC qbfh qbfi ⟨qa6j,⟨qa1c,⟨qa3b,trivial⟩⟩⟩
theorem qbfx {R:Type}:SubsOK Tryz.prog (R:=R) 0 qbfu:=subsOK_nil _ _
theorem qbfy {R:Type}:LoopOK (R:=R) (hnd 0 qbfu) qbfv qbft (sub [1,1,1,1,0,1,0,0] qbfj) (HS.V qbfk) (HS.st qbfk) (HS.sh qbfk) qbfl (hdOf qbfk qbfl):=loopOK_of qbfk qbfl (fun _ _=>rfl) (by intro q v K;kernel_rfl)
theorem qbfz {R:Type}:LoopsOK (R:=R) (hnd 0 qbfu) qbfv qbft qbfj:=loopsOK_of (l:=[sub [1,1,1,1,0,1,0,0] qbfj]) (by kernel_rfl) (loopsL_cons (b:=sub [1,1,1,1,0,1,0,0] qbfj) (rid:=6) (by kernel_rfl) (by kernel_rfl) qbfy (trivial))
theorem qbf0:SpecOK Tryz.prog 21 qbfs:=specOK_a Tryz.f21 qbfw qbfg (d:=0) qbfx qbfz (rngs0 (by kernel_rfl)) (toY:=qbfp)
def qbf1:List HV:=[.agg hFs, .one (.str)]
def qbf2:List HV:=[.agg hIn, .one (.int .i64)]
def qbf3:HP.V qbf1→Fs×Str:=fun v=>((cFs v.1),v.2.1)
def qbf4:HX.V qbf2→Inode×Int:=fun v=>((cIn v.1),v.2)
def qbf5:(Inode×Int)→HX.V qbf2:=fun y=>((y.1.ino,(y.1.kind,(y.1.links,(y.1.data,(y.1.parent,(y.1.entries,())))))),y.2)
def qbf6:(Fs×Str)→Option (Inode×Int):=fun x=>ref09_Get x.1 x.2
def qbf7:Spec:=mkSpec qbf1 qbf2 qbf3 qbf5 qbf6
def qbf8:Cfg:={T:=qbfe,spec:=[(18,qa6b),(21,qbfs)],glob:=GlobL.G Tryz.prog,eqs:=qbff,N:=32,fuel:=64,fid:=26}
theorem qbf9:CfgOK Tryz.prog qbf8:=cfgC qbfh qbfi ⟨qa6j,⟨qbf0,trivial⟩⟩
theorem qbga:SpecOK Tryz.prog 26 qbf7:=specOK_0 Tryz.f26 qbf9 qbfg (toY:=qbf4)
end
end Go.Eng
set_option linter.unusedVariables false
set_option maxRecDepth 100000
namespace Go.Eng
noncomputable section
open Go Go.Proofs
def qbgb:List (Nat×TI):=[(3,⟨false,1, .one (.int .i64 0), .int .i64⟩),(4,⟨false,1, .one (.bool false), .bool⟩),(9,⟨false,1, .one (.str []), .str⟩),(22,⟨false,1, .one (.clip .inode []), .slice .inode 36⟩),(24,⟨true,4, .agg [.int .i64 0, .int .i64 0, .int .i64 0, .clip .inode []], .struct [(0,3),(1,3),(2,3),(3,22)]⟩),(34,⟨false,1, .one (.clip .entry []), .slice .entry 94⟩),(36,⟨true,6, .agg [.int .i64 0, .int .i64 0, .int .i64 0, .str [], .int .i64 0, .clip .entry []], .struct [(0,3),(1,3),(2,3),(3,9),(4,3),(5,34)]⟩),(41,⟨true,3, .agg [.int .i64 0, .str [], .int .i64 0], .struct [(0,3),(1,9),(2,3)]⟩),(46,⟨false,1, .one (.clip .str []), .slice .str 9⟩),(79,⟨true,3, .agg [.bool false, .clip .str [], .bool false], .struct [(0,4),(1,46),(2,4)]⟩)]
def qbgc:List (Nat×List EK):= []
theorem qbgd:Tryz.prog.follows .mixedOrders=true:=by kernel_rfl
theorem qbge:(qbgb.all fun x=>tiB Tryz.prog x.1 x.2)=true:=by kernel_rfl
theorem qbgf:(qbgc.all fun x=>eqB Tryz.prog x.1 x.2)=true:=by kernel_rfl
def qbgg:Code:=bd Tryz.f37
def qbgh:Code:=bd Tryz.f75
def qbgi:HS:=⟨[(1, .one (.str)),(2, .one (.str)),(3, .one (.ptr 0 0)),(7, .one (.int .i64))],[(0, .cells hFs)],1⟩
def qbgj {R:Type}:Nat→HS.V qbgi→(Ex→St→Option R)→Option R:=fun q v K=>
 ref10_Short_L2 (cFs v.2.1) (K .ret {regs:=[(6, .v (.one (.bool false)))],mem:= [],nx:=0}) (K (.exit 0) {regs:=[(1, .v (.one (.str v.1.1))),(2, .v (.one (.str v.1.2.1)))],mem:= [],nx:=0}) q v.1.2.2.2.1
def qbgk:List HV:=[.agg hFs, .one (.str), .one (.str)]
def qbgl:List HV:=[.one (.bool)]
def qbgm:HP.V qbgk→Fs×Str×Str:=fun v=>((cFs v.1),v.2.1,v.2.2.1)
def qbgn:HX.V qbgl→Bool:=fun v=>(v)
def qbgo:Bool→HX.V qbgl:=fun y=>(y)
def qbgp:(Fs×Str×Str)→Option (Bool):=fun x=>ref10_Short x.1 x.2.1 x.2.2
def qbgq:Spec:=mkSpec qbgk qbgl qbgm qbgo qbgp
def qbgr {R:Type}:List (Nat×Hd R):=[(2,hdOf qbgi qbgj)]
def qbgs {R:Type}:List (Nat×Inl R):= []
def qbgt:Cfg:={T:=qbgb,glob:=GlobL.G Tryz.prog,eqs:=qbgc,N:=44,fuel:=64,loops:=[(2,⟨[1,2,3,7], [],[0],1, [], [], [], []⟩)],blocks:=[(0,⟨[1,2], [], [],0, [], [], [], []⟩)],retA:=some ⟨[6], [], [],0, [], [], [], []⟩,fid:=37}
theorem qbgu:CfgOK Tryz.prog qbgt:=cfgC qbge qbgf trivial
theorem qbgv {R:Type}:SubsOK Tryz.prog (R:=R) 0 qbgs:=subsOK_nil _ _
theorem qbgw {R:Type}:LoopOK (R:=R) (hnd 0 qbgs) qbgt qbgr (sub [1,0,1,0,0] qbgg) (HS.V qbgi) (HS.st qbgi) (HS.sh qbgi) qbgj (hdOf qbgi qbgj):=loopOK_of qbgi qbgj (fun _ _=>rfl) (by intro q v K;kernel_rfl)
theorem qbgx {R:Type}:LoopsOK (R:=R) (hnd 0 qbgs) qbgt qbgr qbgg:=loopsOK_of (l:=[sub [1,0,1,0,0] qbgg]) (by kernel_rfl) (loopsL_cons (b:=sub [1,0,1,0,0] qbgg) (rid:=2) (by kernel_rfl) (by kernel_rfl) qbgw (trivial))
theorem qbgy:SpecOK Tryz.prog 37 qbgq:=specOK_a Tryz.f37 qbgu qbgd (d:=0) qbgv qbgx (rngs0 (by kernel_rfl)) (toY:=qbgn)
def qbgz:List HV:=[.agg hFs, .one (.str)]
def qbg0:List HV:=[.one (.int .i64), .one (.int .i64)]
def qbg1:HP.V qbgz→Fs×Str:=fun v=>((cFs v.1),v.2.1)
def qbg2:HX.V qbg0→Int×Int:=fun v=>(v.1,v.2)
def qbg3:(Int×Int)→HX.V qbg0:=fun y=>(y.1,y.2)
def qbg4:(Fs×Str)→Option (Int×Int):=fun x=>ref10_Home x.1 x.2
def qbg5:Spec:=mkSpec qbgz qbg0 qbg1 qbg3 qbg4
def qbg6:Cfg:={T:=qbgb,spec:=[(26,qbf7)],glob:=GlobL.G Tryz.prog,eqs:=qbgc,N:=22,fuel:=64,fid:=74}
theorem qbg7:CfgOK Tryz.prog qbg6:=cfgC qbge qbgf ⟨qbga,trivial⟩
theorem qbg8:SpecOK Tryz.prog 74 qbg5:=specOK_0 Tryz.f74 qbg7 qbgd (toY:=qbg2)
def qbg9:List HV:=[.agg hFs, .agg [.int .i64, .str, .int .i64], .one (.sl .str), .one (.bool), .one (.bool), .one (.int .i64)]
def qbha:List HV:=[.agg [.int .i64, .str, .int .i64], .one (.int .i64)]
def qbhb:HP.V qbg9→Fs×Spotted×(List Str)×Bool×Bool×Int:=fun v=>((cFs v.1),(⟨v.2.1.1,v.2.1.2.1,v.2.1.2.2.1⟩:Spotted),v.2.2.1,v.2.2.2.1,v.2.2.2.2.1,v.2.2.2.2.2.1)
def qbhc:HX.V qbha→Spotted×Int:=fun v=>((⟨v.1.1,v.1.2.1,v.1.2.2.1⟩:Spotted),v.2)
def qbhd:(Spotted×Int)→HX.V qbha:=fun y=>((y.1.dir,(y.1.name,(y.1.ino,()))),y.2)
def qbhe (nn:Nat):(Fs×Spotted×(List Str)×Bool×Bool×Int)→Option (Spotted×Int):=fun x=>ref10_on_r nn x.1 x.2.1 x.2.2.1 x.2.2.2.1 x.2.2.2.2.1 x.2.2.2.2.2
def qbhf (nn:Nat):Spec:=mkSpec qbg9 qbha qbhb qbhd (qbhe nn)
def qbhg:(Fs×Spotted×(List Str)×Bool×Bool×Int)→Option (Spotted×Int):=fun x=>ref10_on x.1 x.2.1 x.2.2.1 x.2.2.2.1 x.2.2.2.2.1 x.2.2.2.2.2
def qbhh:Spec:=mkSpec qbg9 qbha qbhb qbhd qbhg
def qbhi {R:Type} (nn:Nat):List (Nat×Hd R):= []
def qbhj {R:Type} (nn:Nat):List (Nat×Inl R):= []
def qbhk (nn:Nat):Cfg:={T:=qbgb,spec:=[(18,qa6b),(43,qa1j),(47,qa23),(73,qa1v),(75,qbhf nn)],glob:=GlobL.G Tryz.prog,eqs:=qbgc,N:=176,fuel:=64,fid:=75}
theorem qbhl (nn:Nat) (hrec:SpecOK Tryz.prog 75 (qbhf nn)):CfgOK Tryz.prog (qbhk nn):=cfgC qbge qbgf ⟨qa6j,⟨qa1m,⟨qa3b,⟨qa13,⟨hrec,trivial⟩⟩⟩⟩⟩
theorem qbhm {R:Type} (nn:Nat):SubsOK Tryz.prog (R:=R) 0 (qbhj nn):=subsOK_nil _ _
theorem qbhn {R:Type} (nn:Nat):LoopsOK (R:=R) (hnd 0 (qbhj nn)) (qbhk nn) (qbhi nn) qbgh:=loopsOK_of (l:= []) (by kernel_rfl) (trivial)
theorem qbho (nn:Nat):RngsOK Tryz.prog (qbhk nn) qbgh:=rngs0 (by kernel_rfl)
theorem qbhp (nn:Nat):∀v,runFn (hnd 0 (qbhj nn)) (qbhk nn) (qbhi nn) qbgh Tryz.f75.results.toList (HP.st qbg9 v) (decOf qbha qbhc)=qbhe (nn+1) (qbhb v):=by intro v;kernel_rfl
theorem qbhq:∀nn,SpecOK Tryz.prog 75 (qbhf nn)
 |0=>⟨enters_of (fn:=Tryz.f75) (body:=qbgh) (by kernel_rfl) (by kernel_rfl) (by kernel_rfl),fun S w args vs x y _ _ _ _ h=>by cases h⟩
 |nn+1=>specOK_mk (fn:=Tryz.f75) (by kernel_rfl) (by kernel_rfl) (by kernel_rfl) (qbhl nn (qbhq nn)) (by kernel_rfl) (by kernel_rfl) qbgd (by kernel_rfl) (fun _=>rfl) (d:=0) (qbhm nn) (qbhn nn) (qbho nn) (qbhp nn)
theorem qbhr:SpecOK Tryz.prog 75 qbhh:=qbhq FUEL
def qbhs:List HV:=[.agg hFs, .one (.str), .one (.str), .one (.bool)]
def qbht:List HV:=[.agg [.int .i64, .str, .int .i64], .one (.int .i64)]
def qbhu:HP.V qbhs→Fs×Str×Str×Bool:=fun v=>((cFs v.1),v.2.1,v.2.2.1,v.2.2.2.1)
def qbhv:HX.V qbht→Spotted×Int:=fun v=>((⟨v.1.1,v.1.2.1,v.1.2.2.1⟩:Spotted),v.2)
def qbhw:(Spotted×Int)→HX.V qbht:=fun y=>((y.1.dir,(y.1.name,(y.1.ino,()))),y.2)
def qbhx:(Fs×Str×Str×Bool)→Option (Spotted×Int):=fun x=>ref10_Seek x.1 x.2.1 x.2.2.1 x.2.2.2
def qbhy:Spec:=mkSpec qbhs qbht qbhu qbhw qbhx
def qbhz:Cfg:={T:=qbgb,spec:=[(43,qa1j),(73,qa1v),(74,qbg5),(75,qbhh)],glob:=GlobL.G Tryz.prog,eqs:=qbgc,N:=47,fuel:=64,fid:=42}
theorem qbh0:CfgOK Tryz.prog qbhz:=cfgC qbge qbgf ⟨qa1m,⟨qa13,⟨qbg8,⟨qbhr,trivial⟩⟩⟩⟩
theorem qbh1:SpecOK Tryz.prog 42 qbhy:=specOK_0 Tryz.f42 qbh0 qbgd (toY:=qbhv)
end
end Go.Eng
set_option linter.unusedVariables false
set_option maxRecDepth 100000
namespace Go.Eng
noncomputable section
open Go Go.Proofs
def qbh2:List (Nat×TI):=[(3,⟨false,1, .one (.int .i64 0), .int .i64⟩),(4,⟨false,1, .one (.bool false), .bool⟩),(9,⟨false,1, .one (.str []), .str⟩),(24,⟨true,4, .agg [.int .i64 0, .int .i64 0, .int .i64 0, .clip .inode []], .struct [(0,3),(1,3),(2,3),(3,22)]⟩),(34,⟨false,1, .one (.clip .entry []), .slice .entry 94⟩),(36,⟨true,6, .agg [.int .i64 0, .int .i64 0, .int .i64 0, .str [], .int .i64 0, .clip .entry []], .struct [(0,3),(1,3),(2,3),(3,9),(4,3),(5,34)]⟩),(41,⟨true,3, .agg [.int .i64 0, .str [], .int .i64 0], .struct [(0,3),(1,9),(2,3)]⟩),(79,⟨true,3, .agg [.bool false, .clip .str [], .bool false], .struct [(0,4),(1,46),(2,4)]⟩)]
def qbh3:List (Nat×List EK):= []
theorem qbh4:Tryz.prog.follows .mixedOrders=true:=by kernel_rfl
theorem qbh5:(qbh2.all fun x=>tiB Tryz.prog x.1 x.2)=true:=by kernel_rfl
theorem qbh6:(qbh3.all fun x=>eqB Tryz.prog x.1 x.2)=true:=by kernel_rfl
def qbh7:List HV:=[.agg hFs, .agg [.int .i64, .str, .int .i64]]
def qbh8:List HV:=[.agg hFs]
def qbh9:HP.V qbh7→Fs×Spotted:=fun v=>((cFs v.1),(⟨v.2.1.1,v.2.1.2.1,v.2.1.2.2.1⟩:Spotted))
def qbia:HX.V qbh8→Fs:=fun v=>((cFs v))
def qbib:Fs→HX.V qbh8:=fun y=>((y.maxInodes,(y.maxBytes,(y.next,(y.inodes,())))))
def qbic:(Fs×Spotted)→Option (Fs):=fun x=>ref12_Unname x.1 x.2
def qbid:Spec:=mkSpec qbh7 qbh8 qbh9 qbib qbic
def qbie:Cfg:={T:=qbh2,spec:=[(18,qa6b),(53,qa31),(54,qa7j),(83,qa62)],glob:=GlobL.G Tryz.prog,eqs:=qbh3,N:=46,fuel:=64,fid:=52}
theorem qbif:CfgOK Tryz.prog qbie:=cfgC qbh5 qbh6 ⟨qa6j,⟨qa39,⟨qa7r,⟨qa7a,trivial⟩⟩⟩⟩
theorem qbig:SpecOK Tryz.prog 52 qbid:=specOK_0 Tryz.f52 qbif qbh4 (toY:=qbia)
end
end Go.Eng
set_option linter.unusedVariables false
set_option maxRecDepth 100000
namespace Go.Eng
noncomputable section
open Go Go.Proofs
def qbih:List (Nat×TI):=[(3,⟨false,1, .one (.int .i64 0), .int .i64⟩),(4,⟨false,1, .one (.bool false), .bool⟩),(9,⟨false,1, .one (.str []), .str⟩),(22,⟨false,1, .one (.clip .inode []), .slice .inode 36⟩),(24,⟨true,4, .agg [.int .i64 0, .int .i64 0, .int .i64 0, .clip .inode []], .struct [(0,3),(1,3),(2,3),(3,22)]⟩),(34,⟨false,1, .one (.clip .entry []), .slice .entry 94⟩),(36,⟨true,6, .agg [.int .i64 0, .int .i64 0, .int .i64 0, .str [], .int .i64 0, .clip .entry []], .struct [(0,3),(1,3),(2,3),(3,9),(4,3),(5,34)]⟩),(41,⟨true,3, .agg [.int .i64 0, .str [], .int .i64 0], .struct [(0,3),(1,9),(2,3)]⟩),(79,⟨true,3, .agg [.bool false, .clip .str [], .bool false], .struct [(0,4),(1,46),(2,4)]⟩)]
def qbii:List (Nat×List EK):= []
theorem qbij:Tryz.prog.follows .mixedOrders=true:=by kernel_rfl
theorem qbik:(qbih.all fun x=>tiB Tryz.prog x.1 x.2)=true:=by kernel_rfl
theorem qbil:(qbii.all fun x=>eqB Tryz.prog x.1 x.2)=true:=by kernel_rfl
def qbim:Code:=bd Tryz.f20
def qbin:HS:=⟨[(1, .one (.int .i64)),(2, .one (.int .i64)),(3, .one (.ptr 0 0)),(7, .one (.int .i64))],[(0, .cells hFs)],1⟩
def qbio {R:Type}:Nat→HS.V qbin→(Ex→St→Option R)→Option R:=fun q v K=>
 ref14_Inside_L2 v.1.2.1 (cFs v.2.1) (K .ret {regs:=[(6, .v (.one (.bool true)))],mem:= [],nx:=0}) (K (.exit 0) {regs:= [],mem:= [],nx:=0}) q v.1.1 v.1.2.2.2.1
def qbip:List HV:=[.agg hFs, .one (.int .i64), .one (.int .i64)]
def qbiq:List HV:=[.one (.bool)]
def qbir:HP.V qbip→Fs×Int×Int:=fun v=>((cFs v.1),v.2.1,v.2.2.1)
def qbis:HX.V qbiq→Bool:=fun v=>(v)
def qbit:Bool→HX.V qbiq:=fun y=>(y)
def qbiu:(Fs×Int×Int)→Option (Bool):=fun x=>ref14_Inside x.1 x.2.1 x.2.2
def qbiv:Spec:=mkSpec qbip qbiq qbir qbit qbiu
def qbiw {R:Type}:List (Nat×Hd R):=[(2,hdOf qbin qbio)]
def qbix {R:Type}:List (Nat×Inl R):= []
def qbiy:Cfg:={T:=qbih,spec:=[(18,qa6b)],glob:=GlobL.G Tryz.prog,eqs:=qbii,N:=28,fuel:=64,loops:=[(2,⟨[1,2,3,7], [],[0],1, [], [], [], []⟩)],blocks:=[(0,⟨[], [], [],0, [], [], [], []⟩)],retA:=some ⟨[6], [], [],0, [], [], [], []⟩,fid:=20}
theorem qbiz:CfgOK Tryz.prog qbiy:=cfgC qbik qbil ⟨qa6j,trivial⟩
theorem qbi0 {R:Type}:SubsOK Tryz.prog (R:=R) 0 qbix:=subsOK_nil _ _
theorem qbi1 {R:Type}:LoopOK (R:=R) (hnd 0 qbix) qbiy qbiw (sub [1,0,1,0,0] qbim) (HS.V qbin) (HS.st qbin) (HS.sh qbin) qbio (hdOf qbin qbio):=loopOK_of qbin qbio (fun _ _=>rfl) (by intro q v K;kernel_rfl)
theorem qbi2 {R:Type}:LoopsOK (R:=R) (hnd 0 qbix) qbiy qbiw qbim:=loopsOK_of (l:=[sub [1,0,1,0,0] qbim]) (by kernel_rfl) (loopsL_cons (b:=sub [1,0,1,0,0] qbim) (rid:=2) (by kernel_rfl) (by kernel_rfl) qbi1 (trivial))
theorem qbi3:SpecOK Tryz.prog 20 qbiv:=specOK_a Tryz.f20 qbiz qbij (d:=0) qbi0 qbi2 (rngs0 (by kernel_rfl)) (toY:=qbis)
def qbi4:List HV:=[.agg hFs, .agg [.int .i64, .str, .int .i64], .agg [.int .i64, .str, .int .i64]]
def qbi5:List HV:=[.agg hFs]
def qbi6:HP.V qbi4→Fs×Spotted×Spotted:=fun v=>((cFs v.1),(⟨v.2.1.1,v.2.1.2.1,v.2.1.2.2.1⟩:Spotted),(⟨v.2.2.1.1,v.2.2.1.2.1,v.2.2.1.2.2.1⟩:Spotted))
def qbi7:HX.V qbi5→Fs:=fun v=>((cFs v))
def qbi8:Fs→HX.V qbi5:=fun y=>((y.maxInodes,(y.maxBytes,(y.next,(y.inodes,())))))
def qbi9:(Fs×Spotted×Spotted)→Option (Fs):=fun x=>ref14_Move x.1 x.2.1 x.2.2
def qbja:Spec:=mkSpec qbi4 qbi5 qbi6 qbi8 qbi9
def qbjb:Cfg:={T:=qbih,spec:=[(18,qa6b),(52,qbid),(53,qa31),(54,qa7j),(55,qa4i)],glob:=GlobL.G Tryz.prog,eqs:=qbii,N:=70,fuel:=64,fid:=23}
theorem qbjc:CfgOK Tryz.prog qbjb:=cfgC qbik qbil ⟨qa6j,⟨qbig,⟨qa39,⟨qa7r,⟨qa4q,trivial⟩⟩⟩⟩⟩
theorem qbjd:SpecOK Tryz.prog 23 qbja:=specOK_0 Tryz.f23 qbjc qbij (toY:=qbi7)
def qbje:List HV:=[.agg hFs, .one (.str), .one (.str), .one (.str)]
def qbjf:List HV:=[.agg hFs, .one (.int .i64)]
def qbjg:HP.V qbje→Fs×Str×Str×Str:=fun v=>((cFs v.1),v.2.1,v.2.2.1,v.2.2.2.1)
def qbjh:HX.V qbjf→Fs×Int:=fun v=>((cFs v.1),v.2)
def qbji:(Fs×Int)→HX.V qbjf:=fun y=>((y.1.maxInodes,(y.1.maxBytes,(y.1.next,(y.1.inodes,())))),y.2)
def qbjj:(Fs×Str×Str×Str)→Option (Fs×Int):=fun x=>ref14_Rename x.1 x.2.1 x.2.2.1 x.2.2.2
def qbjk:Spec:=mkSpec qbje qbjf qbjg qbji qbjj
def qbjl:Cfg:={T:=qbih,spec:=[(18,qa6b),(20,qbiv),(23,qbja),(42,qbhy),(43,qa1j),(44,qazp)],glob:=GlobL.G Tryz.prog,eqs:=qbii,N:=132,fuel:=64,fid:=15}
theorem qbjm:CfgOK Tryz.prog qbjl:=cfgC qbik qbil ⟨qa6j,⟨qbi3,⟨qbjd,⟨qbh1,⟨qa1m,⟨qazx,trivial⟩⟩⟩⟩⟩⟩
theorem qbjn:SpecOK Tryz.prog 15 qbjk:=specOK_0 Tryz.f15 qbjm qbij (toY:=qbjh)
end
end Go.Eng
set_option linter.unusedVariables false
set_option maxRecDepth 100000
namespace Go.Eng
noncomputable section
open Go Go.Proofs
def qbjo:List (Nat×TI):=[(3,⟨false,1, .one (.int .i64 0), .int .i64⟩),(4,⟨false,1, .one (.bool false), .bool⟩),(9,⟨false,1, .one (.str []), .str⟩),(22,⟨false,1, .one (.clip .inode []), .slice .inode 36⟩),(24,⟨true,4, .agg [.int .i64 0, .int .i64 0, .int .i64 0, .clip .inode []], .struct [(0,3),(1,3),(2,3),(3,22)]⟩),(34,⟨false,1, .one (.clip .entry []), .slice .entry 94⟩),(36,⟨true,6, .agg [.int .i64 0, .int .i64 0, .int .i64 0, .str [], .int .i64 0, .clip .entry []], .struct [(0,3),(1,3),(2,3),(3,9),(4,3),(5,34)]⟩),(41,⟨true,3, .agg [.int .i64 0, .str [], .int .i64 0], .struct [(0,3),(1,9),(2,3)]⟩),(94,⟨true,2, .agg [.str [], .int .i64 0], .struct [(0,9),(1,3)]⟩)]
def qbjp:List (Nat×List EK):= []
theorem qbjq:Tryz.prog.follows .mixedOrders=true:=by kernel_rfl
theorem qbjr:(qbjo.all fun x=>tiB Tryz.prog x.1 x.2)=true:=by kernel_rfl
theorem qbjs:(qbjp.all fun x=>eqB Tryz.prog x.1 x.2)=true:=by kernel_rfl
def qbjt:List HV:= []
def qbju:List HV:=[.agg hFs]
def qbjv:HP.V qbjt→Unit:=fun v=>()
def qbjw:HX.V qbju→Fs:=fun v=>((cFs v))
def qbjx:Fs→HX.V qbju:=fun y=>((y.maxInodes,(y.maxBytes,(y.next,(y.inodes,())))))
def qbjy:Unit→Option (Fs):=fun x=>law14_small
def qbjz:Spec:=mkSpec qbjt qbju qbjv qbjx qbjy
def qbj0:Cfg:={T:=qbjo,spec:=[(31,qa6q),(54,qa7j)],glob:=GlobL.G Tryz.prog,eqs:=qbjp,N:=21,fuel:=64,fid:=36}
theorem qbj1:CfgOK Tryz.prog qbj0:=cfgC qbjr qbjs ⟨qa6t,⟨qa7r,trivial⟩⟩
theorem qbj2:SpecOK Tryz.prog 36 qbjz:=specOK_0 Tryz.f36 qbj1 qbjq (toY:=qbjw)
def qbj3:List HV:= []
def qbj4:List HV:=[.one (.bool)]
def qbj5:HP.V qbj3→Unit:=fun v=>()
def qbj6:HX.V qbj4→Bool:=fun v=>(v)
def qbj7:Bool→HX.V qbj4:=fun y=>(y)
def qbj8:Unit→Option (Bool):=fun x=>law14_awake
def qbj9:Spec:=mkSpec qbj3 qbj4 qbj5 qbj7 qbj8
def qbka:Cfg:={T:=qbjo,spec:=[(14,qay3),(16,qa5z),(18,qa6b),(19,qaxu),(21,qbfs),(36,qbjz)],glob:=GlobL.G Tryz.prog,eqs:=qbjp,N:=124,fuel:=64,fid:=12}
theorem qbkb:CfgOK Tryz.prog qbka:=cfgC qbjr qbjs ⟨qay6,⟨qa52,⟨qa6j,⟨qax2,⟨qbf0,⟨qbj2,trivial⟩⟩⟩⟩⟩⟩
theorem qbkc:SpecOK Tryz.prog 12 qbj9:=specOK_0 Tryz.f12 qbkb qbjq (toY:=qbj6)
def qbkd:List HV:=[.agg hFs, .one (.str), .one (.str), .one (.str)]
def qbke:List HV:=[.one (.bool)]
def qbkf:HP.V qbkd→Fs×Str×Str×Str:=fun v=>((cFs v.1),v.2.1,v.2.2.1,v.2.2.2.1)
def qbkg:HX.V qbke→Bool:=fun v=>(v)
def qbkh:Bool→HX.V qbke:=fun y=>(y)
def qbki:(Fs×Str×Str×Str)→Option (Bool):=fun x=>law14_fits x.1 x.2.1 x.2.2.1 x.2.2.2
def qbkj:Spec:=mkSpec qbkd qbke qbkf qbkh qbki
def qbkk:Cfg:={T:=qbjo,spec:=[(17,qbdq),(37,qbgq)],glob:=GlobL.G Tryz.prog,eqs:=qbjp,N:=23,fuel:=64,fid:=13}
theorem qbkl:CfgOK Tryz.prog qbkk:=cfgC qbjr qbjs ⟨qbdt,⟨qbgy,trivial⟩⟩
theorem qbkm:SpecOK Tryz.prog 13 qbkj:=specOK_0 Tryz.f13 qbkl qbjq (toY:=qbkg)
def qbkn:List HV:=[.agg hFs, .one (.str), .one (.str), .one (.str)]
def qbko:List HV:=[.one (.bool)]
def qbkp:HP.V qbkn→Fs×Str×Str×Str:=fun v=>((cFs v.1),v.2.1,v.2.2.1,v.2.2.2.1)
def qbkq:HX.V qbko→Bool:=fun v=>(v)
def qbkr:Bool→HX.V qbko:=fun y=>(y)
def qbks:(Fs×Str×Str×Str)→Option (Bool):=fun x=>law14_MoveRenames x.1 x.2.1 x.2.2.1 x.2.2.2
def qbkt:Spec:=mkSpec qbkn qbko qbkp qbkr qbks
def qbku:Cfg:={T:=qbjo,spec:=[(12,qbj9),(13,qbkj),(14,qay3),(15,qbjk),(16,qa5z)],glob:=GlobL.G Tryz.prog,eqs:=qbjp,N:=48,fuel:=64,fid:=3}
theorem qbkv:CfgOK Tryz.prog qbku:=cfgC qbjr qbjs ⟨qbkc,⟨qbkm,⟨qay6,⟨qbjn,⟨qa52,trivial⟩⟩⟩⟩⟩
theorem qbkw:SpecOK Tryz.prog 3 qbkt:=specOK_0 Tryz.f3 qbkv qbjq (toY:=qbkq)
def qbkx:List HV:=[.agg hFs, .one (.int .i64), .one (.int .i64)]
def qbky:List HV:=[.one (.bool)]
def qbkz:HP.V qbkx→Fs×Int×Int:=fun v=>((cFs v.1),v.2.1,v.2.2.1)
def qbk0:HX.V qbky→Bool:=fun v=>(v)
def qbk1:Bool→HX.V qbky:=fun y=>(y)
def qbk2:(Fs×Int×Int)→Option (Bool):=fun x=>law14_MoveInside x.1 x.2.1 x.2.2
def qbk3:Spec:=mkSpec qbkx qbky qbkz qbk1 qbk2
def qbk4:Cfg:={T:=qbjo,spec:=[(12,qbj9),(17,qbdq),(18,qa6b),(19,qaxu),(20,qbiv)],glob:=GlobL.G Tryz.prog,eqs:=qbjp,N:=86,fuel:=64,fid:=4}
theorem qbk5:CfgOK Tryz.prog qbk4:=cfgC qbjr qbjs ⟨qbkc,⟨qbdt,⟨qa6j,⟨qax2,⟨qbi3,trivial⟩⟩⟩⟩⟩
theorem qbk6:SpecOK Tryz.prog 4 qbk3:=specOK_0 Tryz.f4 qbk5 qbjq (toY:=qbk0)
def qbk7:List HV:=[.agg hFs, .one (.str), .one (.str)]
def qbk8:List HV:=[.one (.bool)]
def qbk9:HP.V qbk7→Fs×Str×Str:=fun v=>((cFs v.1),v.2.1,v.2.2.1)
def qbla:HX.V qbk8→Bool:=fun v=>(v)
def qblb:Bool→HX.V qbk8:=fun y=>(y)
def qblc:(Fs×Str×Str)→Option (Bool):=fun x=>law14_MoveMoves x.1 x.2.1 x.2.2
def qbld:Spec:=mkSpec qbk7 qbk8 qbk9 qblb qblc
def qble:Cfg:={T:=qbjo,spec:=[(12,qbj9),(13,qbkj),(16,qa5z),(18,qa6b),(20,qbiv),(21,qbfs),(22,qax9),(23,qbja)],glob:=GlobL.G Tryz.prog,eqs:=qbjp,N:=105,fuel:=64,fid:=5}
theorem qblf:CfgOK Tryz.prog qble:=cfgC qbjr qbjs ⟨qbkc,⟨qbkm,⟨qa52,⟨qa6j,⟨qbi3,⟨qbf0,⟨qayc,⟨qbjd,trivial⟩⟩⟩⟩⟩⟩⟩⟩
theorem qblg:SpecOK Tryz.prog 5 qbld:=specOK_0 Tryz.f5 qblf qbjq (toY:=qbla)
def qblh:List HV:=[.agg hFs, .one (.str), .one (.str)]
def qbli:List HV:=[.one (.bool)]
def qblj:HP.V qblh→Fs×Str×Str:=fun v=>((cFs v.1),v.2.1,v.2.2.1)
def qblk:HX.V qbli→Bool:=fun v=>(v)
def qbll:Bool→HX.V qbli:=fun y=>(y)
def qblm:(Fs×Str×Str)→Option (Bool):=fun x=>law14_MoveSound x.1 x.2.1 x.2.2
def qbln:Spec:=mkSpec qblh qbli qblj qbll qblm
def qblo:Cfg:={T:=qbjo,spec:=[(12,qbj9),(13,qbkj),(14,qay3),(16,qa5z),(21,qbfs),(24,qa04),(25,qbdg),(26,qbf7),(27,qbel),(28,qbe5)],glob:=GlobL.G Tryz.prog,eqs:=qbjp,N:=149,fuel:=64,fid:=6}
theorem qblp:CfgOK Tryz.prog qblo:=cfgC qbjr qbjs ⟨qbkc,⟨qbkm,⟨qay6,⟨qa52,⟨qbf0,⟨qa1c,⟨qbdj,⟨qbga,⟨qbew,⟨qbfd,trivial⟩⟩⟩⟩⟩⟩⟩⟩⟩⟩
theorem qblq:SpecOK Tryz.prog 6 qbln:=specOK_0 Tryz.f6 qblp qbjq (toY:=qblk)
def qblr:List HV:=[.agg hFs, .one (.str), .one (.str), .one (.str)]
def qbls:List HV:=[.one (.bool)]
def qblt:HP.V qblr→Fs×Str×Str×Str:=fun v=>((cFs v.1),v.2.1,v.2.2.1,v.2.2.2.1)
def qblu:HX.V qbls→Bool:=fun v=>(v)
def qblv:Bool→HX.V qbls:=fun y=>(y)
def qblw:(Fs×Str×Str×Str)→Option (Bool):=fun x=>law14_MoveKeeps x.1 x.2.1 x.2.2.1 x.2.2.2
def qblx:Spec:=mkSpec qblr qbls qblt qblv qblw
def qbly:Cfg:={T:=qbjo,spec:=[(12,qbj9),(13,qbkj),(14,qay3),(15,qbjk),(16,qa5z)],glob:=GlobL.G Tryz.prog,eqs:=qbjp,N:=59,fuel:=64,fid:=7}
theorem qblz:CfgOK Tryz.prog qbly:=cfgC qbjr qbjs ⟨qbkc,⟨qbkm,⟨qay6,⟨qbjn,⟨qa52,trivial⟩⟩⟩⟩⟩
theorem qbl0:SpecOK Tryz.prog 7 qblx:=specOK_0 Tryz.f7 qblz qbjq (toY:=qblu)
end
end Go.Eng
