/- A part of the proofs of the laws of this seat: the engine that reads the program's code, plain functions, or facts of the program's functions. Conditions: none. -/
import Derived.Test.YtcilfbaaaipbcaaGreatE4
import Derived.Test.YtcilfbaaaipbcaaGreatP1
set_option linter.unusedSectionVars false
set_option linter.unusedVariables false
set_option linter.unusedSimpArgs false
set_option linter.unnecessarySimpa false
set_option linter.unusedVariables false
set_option maxRecDepth 100000
namespace Go.Eng
open Go
noncomputable def ek {R:Type} (x2:List Kept) (x3:List Kept) (x4:Int) (kr:Option R) (k0:Option R):Nat→Int→Option R
 |0,_=>none
 |n+1,x5=>
  ah (decide (x5<x4)) (
  ah (decide (0≤x5)) (aj x2[Int.toNat x5]? fun e9=>
  ah (decide (0≤x5)) (aj x3[Int.toNat x5]? fun e10=>
  ah (!((e9.slot==e10.slot)&&((e9.ino==e10.ino)&&((e9.content==e10.content)&&(e9.data==e10.data))))) ((kr)) ((ek x2 x3 x4 kr k0 n (IntKind.i64.wrap (x5+(1:Int)))))) (none)) (none)) ((k0))
noncomputable def fA (w0:al) (w1:al):Option (Bool):=
 aj (kS w0.fs w1.fs) fun y1=>
 ah y1 (
 ah ((List.length w0.ao.kept:Int) !=(List.length w1.ao.kept:Int)) (some false) (ek w0.ao.kept w1.ao.kept (List.length w0.ao.kept:Int) (some false) (aj (kS (⟨0,0,0,w0.ao.aJ⟩:Fs) (⟨0,0,0,w1.ao.aJ⟩:Fs)) fun y18=>some y18) bg (0:Int))) (some false)
noncomputable def b4 {R:Type} (x1:List Kept) (x2:Int) (k0:Int→Option R):Nat→Int→Int→Option R
 |0,_,_=>none
 |n+1,x4,x5=>
  ah (decide (x4<x5)) (
  ah (decide ((1:Int)<0)) (none) (
  ah (decide (0≤(IntKind.i64.wrap (Int.fdiv (IntKind.u64.wrap (IntKind.i64.wrap (x4+x5))) (2^(min (Int.toNat (1:Int)) (IntKind.bits .u64))))))) (aj x1[Int.toNat (IntKind.i64.wrap (Int.fdiv (IntKind.u64.wrap (IntKind.i64.wrap (x4+x5))) (2^(min (Int.toNat (1:Int)) (IntKind.bits .u64)))))]? fun e6=>
  ah (e6.slot !=e6.slot) (
  ah (x2 !=x2) ((b4 x1 x2 k0 n x4 (IntKind.i64.wrap (Int.fdiv (IntKind.u64.wrap (IntKind.i64.wrap (x4+x5))) (2^(min (Int.toNat (1:Int)) (IntKind.bits .u64))))))) ((b4 x1 x2 k0 n (IntKind.i64.wrap ((IntKind.i64.wrap (Int.fdiv (IntKind.u64.wrap (IntKind.i64.wrap (x4+x5))) (2^(min (Int.toNat (1:Int)) (IntKind.bits .u64)))))+(1:Int))) x5))) (
  ah (x2 !=x2) ((b4 x1 x2 k0 n x4 (IntKind.i64.wrap (Int.fdiv (IntKind.u64.wrap (IntKind.i64.wrap (x4+x5))) (2^(min (Int.toNat (1:Int)) (IntKind.bits .u64))))))) (
  ah (decide (e6.slot<x2)) ((b4 x1 x2 k0 n (IntKind.i64.wrap ((IntKind.i64.wrap (Int.fdiv (IntKind.u64.wrap (IntKind.i64.wrap (x4+x5))) (2^(min (Int.toNat (1:Int)) (IntKind.bits .u64)))))+(1:Int))) x5)) (
  ah (decide (e6.slot>x2)) ((b4 x1 x2 k0 n x4 (IntKind.i64.wrap (Int.fdiv (IntKind.u64.wrap (IntKind.i64.wrap (x4+x5))) (2^(min (Int.toNat (1:Int)) (IntKind.bits .u64))))))) ((b4 x1 x2 k0 n x4 (IntKind.i64.wrap (Int.fdiv (IntKind.u64.wrap (IntKind.i64.wrap (x4+x5))) (2^(min (Int.toNat (1:Int)) (IntKind.bits .u64))))))))))) (none))) ((k0 x4))
noncomputable def ig (w0:(List Kept)) (w1:Int):Option (Int×Bool):=
 b4 w0 w1 (fun z11=>
 ah (decide (z11<(List.length w0:Int))) (
 ah (decide (0≤z11)) (aj w0[Int.toNat z11]? fun e12=>
 ah (e12.slot !=e12.slot) (
 ah (w1 !=w1) (some (z11,true)) (some (z11,false))) (
 ah (w1 !=w1) (some (z11,false)) (
 ah (decide (e12.slot<w1)) (some (z11,false)) (
 ah (decide (e12.slot>w1)) (some (z11,false)) (some (z11,true)))))) (none)) (some (z11,false))) bg (0:Int) (List.length w0:Int)
noncomputable def iw (w0:Kept):Option (Int):=
 some w0.slot
noncomputable def gm (w0:al) (w1:Int):Option (Kept×Bool):=
 aj (ig w0.ao.kept w1) fun y1=>
 ah (!y1.2) (some ((⟨0,0,false, []⟩:Kept),false)) (
 ah (decide (0≤y1.1)) (aj w0.ao.kept[Int.toNat y1.1]? fun e2=>some (e2,true)) (none))
noncomputable def bT {R:Type} (x1:List ae) (x2:Int) (k0:Int→Option R):Nat→Int→Int→Option R
 |0,_,_=>none
 |n+1,x4,x5=>
  ah (decide (x4<x5)) (
  ah (decide ((1:Int)<0)) (none) (
  ah (decide (0≤(IntKind.i64.wrap (Int.fdiv (IntKind.u64.wrap (IntKind.i64.wrap (x4+x5))) (2^(min (Int.toNat (1:Int)) (IntKind.bits .u64))))))) (aj x1[Int.toNat (IntKind.i64.wrap (Int.fdiv (IntKind.u64.wrap (IntKind.i64.wrap (x4+x5))) (2^(min (Int.toNat (1:Int)) (IntKind.bits .u64)))))]? fun e6=>
  ah (e6.ino !=e6.ino) (
  ah (x2 !=x2) ((bT x1 x2 k0 n x4 (IntKind.i64.wrap (Int.fdiv (IntKind.u64.wrap (IntKind.i64.wrap (x4+x5))) (2^(min (Int.toNat (1:Int)) (IntKind.bits .u64))))))) ((bT x1 x2 k0 n (IntKind.i64.wrap ((IntKind.i64.wrap (Int.fdiv (IntKind.u64.wrap (IntKind.i64.wrap (x4+x5))) (2^(min (Int.toNat (1:Int)) (IntKind.bits .u64)))))+(1:Int))) x5))) (
  ah (x2 !=x2) ((bT x1 x2 k0 n x4 (IntKind.i64.wrap (Int.fdiv (IntKind.u64.wrap (IntKind.i64.wrap (x4+x5))) (2^(min (Int.toNat (1:Int)) (IntKind.bits .u64))))))) (
  ah (decide (e6.ino<x2)) ((bT x1 x2 k0 n (IntKind.i64.wrap ((IntKind.i64.wrap (Int.fdiv (IntKind.u64.wrap (IntKind.i64.wrap (x4+x5))) (2^(min (Int.toNat (1:Int)) (IntKind.bits .u64)))))+(1:Int))) x5)) (
  ah (decide (e6.ino>x2)) ((bT x1 x2 k0 n x4 (IntKind.i64.wrap (Int.fdiv (IntKind.u64.wrap (IntKind.i64.wrap (x4+x5))) (2^(min (Int.toNat (1:Int)) (IntKind.bits .u64))))))) ((bT x1 x2 k0 n x4 (IntKind.i64.wrap (Int.fdiv (IntKind.u64.wrap (IntKind.i64.wrap (x4+x5))) (2^(min (Int.toNat (1:Int)) (IntKind.bits .u64))))))))))) (none))) ((k0 x4))
noncomputable def gI (w0:(List ae)) (w1:Int):Option (Int×Bool):=
 bT w0 w1 (fun z11=>
 ah (decide (z11<(List.length w0:Int))) (
 ah (decide (0≤z11)) (aj w0[Int.toNat z11]? fun e12=>
 ah (e12.ino !=e12.ino) (
 ah (w1 !=w1) (some (z11,true)) (some (z11,false))) (
 ah (w1 !=w1) (some (z11,false)) (
 ah (decide (e12.ino<w1)) (some (z11,false)) (
 ah (decide (e12.ino>w1)) (some (z11,false)) (some (z11,true)))))) (none)) (some (z11,false))) bg (0:Int) (List.length w0:Int)
noncomputable def jq (w0:ae):Option (Int):=
 some w0.ino
noncomputable def eF (w0:al) (w1:Kept):Option (al):=
 aj (ig w0.ao.kept w1.slot) fun y1=>aj (dM w0.ao.kept) fun y2=>
 ah (decide (0≤y1.1∧y1.1≤(y2.length:Int))) (
 ah ((List.length [w1]:Int)==(0:Int)) (some (⟨w0.fs,(⟨y2,w0.ao.aJ⟩:ay)⟩:al)) (
 ah (y1.1==(List.length y2:Int)) (aR (y2.length+[w1].length) (some (⟨w0.fs,(⟨(y2++[w1]),w0.ao.aJ⟩:ay)⟩:al))) (yc y2.length fun cp3=>
 ah (decide ((IntKind.i64.wrap ((List.length y2:Int)+(List.length [w1]:Int)))>(cp3:Int))) (
 ah (decide (0≤y1.1∧y1.1≤(cp3:Int))) (
 ah (decide (0≤(IntKind.i64.wrap ((IntKind.i64.wrap ((List.length y2:Int)+(List.length [w1]:Int))) - y1.1)))) (aR ((Int.toNat y1.1)+Int.toNat (IntKind.i64.wrap ((IntKind.i64.wrap ((List.length y2:Int)+(List.length [w1]:Int))) - y1.1))) (
 ah (Nat.ble (0+(Int.toNat y1.1)) y2.length) (
 ah (Nat.blt (cp3 - 0) ((Int.toNat y1.1)+Int.toNat (IntKind.i64.wrap ((IntKind.i64.wrap ((List.length y2:Int)+(List.length [w1]:Int))) - y1.1)))) (
 ah (decide (0≤y1.1∧y1.1≤(((y2.drop 0).take (Int.toNat y1.1)++List.replicate (Int.toNat (IntKind.i64.wrap ((IntKind.i64.wrap ((List.length y2:Int)+(List.length [w1]:Int))) - y1.1))) (⟨0,0,false, []⟩:Kept)).length:Int))) (
 ah (Nat.ble ((Int.toNat y1.1)+(((y2.drop 0).take (Int.toNat y1.1)++List.replicate (Int.toNat (IntKind.i64.wrap ((IntKind.i64.wrap ((List.length y2:Int)+(List.length [w1]:Int))) - y1.1))) (⟨0,0,false, []⟩:Kept)).length - (Int.toNat y1.1))) ((y2.drop 0).take (Int.toNat y1.1)++List.replicate (Int.toNat (IntKind.i64.wrap ((IntKind.i64.wrap ((List.length y2:Int)+(List.length [w1]:Int))) - y1.1))) (⟨0,0,false, []⟩:Kept)).length) (
 ah (decide (0≤(IntKind.i64.wrap (y1.1+(List.length [w1]:Int)))∧(IntKind.i64.wrap (y1.1+(List.length [w1]:Int)))≤((((y2.drop 0).take (Int.toNat y1.1)++List.replicate (Int.toNat (IntKind.i64.wrap ((IntKind.i64.wrap ((List.length y2:Int)+(List.length [w1]:Int))) - y1.1))) (⟨0,0,false, []⟩:Kept)).take (Int.toNat y1.1)++([w1].take (((y2.drop 0).take (Int.toNat y1.1)++List.replicate (Int.toNat (IntKind.i64.wrap ((IntKind.i64.wrap ((List.length y2:Int)+(List.length [w1]:Int))) - y1.1))) (⟨0,0,false, []⟩:Kept)).length - (Int.toNat y1.1))++(((y2.drop 0).take (Int.toNat y1.1)++List.replicate (Int.toNat (IntKind.i64.wrap ((IntKind.i64.wrap ((List.length y2:Int)+(List.length [w1]:Int))) - y1.1))) (⟨0,0,false, []⟩:Kept)).drop (Int.toNat y1.1)).drop (min [w1].length (((y2.drop 0).take (Int.toNat y1.1)++List.replicate (Int.toNat (IntKind.i64.wrap ((IntKind.i64.wrap ((List.length y2:Int)+(List.length [w1]:Int))) - y1.1))) (⟨0,0,false, []⟩:Kept)).length - (Int.toNat y1.1))))).length:Int))) (
 ah (decide (0≤y1.1∧y1.1≤(y2.length:Int))) (
 ah (Nat.ble ((Int.toNat y1.1)+(min (y2.length - (Int.toNat y1.1)) ((((y2.drop 0).take (Int.toNat y1.1)++List.replicate (Int.toNat (IntKind.i64.wrap ((IntKind.i64.wrap ((List.length y2:Int)+(List.length [w1]:Int))) - y1.1))) (⟨0,0,false, []⟩:Kept)).take (Int.toNat y1.1)++([w1].take (((y2.drop 0).take (Int.toNat y1.1)++List.replicate (Int.toNat (IntKind.i64.wrap ((IntKind.i64.wrap ((List.length y2:Int)+(List.length [w1]:Int))) - y1.1))) (⟨0,0,false, []⟩:Kept)).length - (Int.toNat y1.1))++(((y2.drop 0).take (Int.toNat y1.1)++List.replicate (Int.toNat (IntKind.i64.wrap ((IntKind.i64.wrap ((List.length y2:Int)+(List.length [w1]:Int))) - y1.1))) (⟨0,0,false, []⟩:Kept)).drop (Int.toNat y1.1)).drop (min [w1].length (((y2.drop 0).take (Int.toNat y1.1)++List.replicate (Int.toNat (IntKind.i64.wrap ((IntKind.i64.wrap ((List.length y2:Int)+(List.length [w1]:Int))) - y1.1))) (⟨0,0,false, []⟩:Kept)).length - (Int.toNat y1.1))))).length - (Int.toNat (IntKind.i64.wrap (y1.1+(List.length [w1]:Int))))))) y2.length) (
 ah (Nat.ble (Int.toNat (IntKind.i64.wrap (y1.1+(List.length [w1]:Int)))) (((y2.drop 0).take (Int.toNat y1.1)++List.replicate (Int.toNat (IntKind.i64.wrap ((IntKind.i64.wrap ((List.length y2:Int)+(List.length [w1]:Int))) - y1.1))) (⟨0,0,false, []⟩:Kept)).take (Int.toNat y1.1)++([w1].take (((y2.drop 0).take (Int.toNat y1.1)++List.replicate (Int.toNat (IntKind.i64.wrap ((IntKind.i64.wrap ((List.length y2:Int)+(List.length [w1]:Int))) - y1.1))) (⟨0,0,false, []⟩:Kept)).length - (Int.toNat y1.1))++(((y2.drop 0).take (Int.toNat y1.1)++List.replicate (Int.toNat (IntKind.i64.wrap ((IntKind.i64.wrap ((List.length y2:Int)+(List.length [w1]:Int))) - y1.1))) (⟨0,0,false, []⟩:Kept)).drop (Int.toNat y1.1)).drop (min [w1].length (((y2.drop 0).take (Int.toNat y1.1)++List.replicate (Int.toNat (IntKind.i64.wrap ((IntKind.i64.wrap ((List.length y2:Int)+(List.length [w1]:Int))) - y1.1))) (⟨0,0,false, []⟩:Kept)).length - (Int.toNat y1.1))))).length) (
 ah (Nat.ble ((Int.toNat (IntKind.i64.wrap (y1.1+(List.length [w1]:Int))))+(min (y2.length - (Int.toNat y1.1)) ((((y2.drop 0).take (Int.toNat y1.1)++List.replicate (Int.toNat (IntKind.i64.wrap ((IntKind.i64.wrap ((List.length y2:Int)+(List.length [w1]:Int))) - y1.1))) (⟨0,0,false, []⟩:Kept)).take (Int.toNat y1.1)++([w1].take (((y2.drop 0).take (Int.toNat y1.1)++List.replicate (Int.toNat (IntKind.i64.wrap ((IntKind.i64.wrap ((List.length y2:Int)+(List.length [w1]:Int))) - y1.1))) (⟨0,0,false, []⟩:Kept)).length - (Int.toNat y1.1))++(((y2.drop 0).take (Int.toNat y1.1)++List.replicate (Int.toNat (IntKind.i64.wrap ((IntKind.i64.wrap ((List.length y2:Int)+(List.length [w1]:Int))) - y1.1))) (⟨0,0,false, []⟩:Kept)).drop (Int.toNat y1.1)).drop (min [w1].length (((y2.drop 0).take (Int.toNat y1.1)++List.replicate (Int.toNat (IntKind.i64.wrap ((IntKind.i64.wrap ((List.length y2:Int)+(List.length [w1]:Int))) - y1.1))) (⟨0,0,false, []⟩:Kept)).length - (Int.toNat y1.1))))).length - (Int.toNat (IntKind.i64.wrap (y1.1+(List.length [w1]:Int))))))) (((y2.drop 0).take (Int.toNat y1.1)++List.replicate (Int.toNat (IntKind.i64.wrap ((IntKind.i64.wrap ((List.length y2:Int)+(List.length [w1]:Int))) - y1.1))) (⟨0,0,false, []⟩:Kept)).take (Int.toNat y1.1)++([w1].take (((y2.drop 0).take (Int.toNat y1.1)++List.replicate (Int.toNat (IntKind.i64.wrap ((IntKind.i64.wrap ((List.length y2:Int)+(List.length [w1]:Int))) - y1.1))) (⟨0,0,false, []⟩:Kept)).length - (Int.toNat y1.1))++(((y2.drop 0).take (Int.toNat y1.1)++List.replicate (Int.toNat (IntKind.i64.wrap ((IntKind.i64.wrap ((List.length y2:Int)+(List.length [w1]:Int))) - y1.1))) (⟨0,0,false, []⟩:Kept)).drop (Int.toNat y1.1)).drop (min [w1].length (((y2.drop 0).take (Int.toNat y1.1)++List.replicate (Int.toNat (IntKind.i64.wrap ((IntKind.i64.wrap ((List.length y2:Int)+(List.length [w1]:Int))) - y1.1))) (⟨0,0,false, []⟩:Kept)).length - (Int.toNat y1.1))))).length) (some (⟨w0.fs,(⟨((((y2.drop 0).take (Int.toNat y1.1)++List.replicate (Int.toNat (IntKind.i64.wrap ((IntKind.i64.wrap ((List.length y2:Int)+(List.length [w1]:Int))) - y1.1))) (⟨0,0,false, []⟩:Kept)).take (Int.toNat y1.1)++([w1].take (((y2.drop 0).take (Int.toNat y1.1)++List.replicate (Int.toNat (IntKind.i64.wrap ((IntKind.i64.wrap ((List.length y2:Int)+(List.length [w1]:Int))) - y1.1))) (⟨0,0,false, []⟩:Kept)).length - (Int.toNat y1.1))++(((y2.drop 0).take (Int.toNat y1.1)++List.replicate (Int.toNat (IntKind.i64.wrap ((IntKind.i64.wrap ((List.length y2:Int)+(List.length [w1]:Int))) - y1.1))) (⟨0,0,false, []⟩:Kept)).drop (Int.toNat y1.1)).drop (min [w1].length (((y2.drop 0).take (Int.toNat y1.1)++List.replicate (Int.toNat (IntKind.i64.wrap ((IntKind.i64.wrap ((List.length y2:Int)+(List.length [w1]:Int))) - y1.1))) (⟨0,0,false, []⟩:Kept)).length - (Int.toNat y1.1))))).take (Int.toNat (IntKind.i64.wrap (y1.1+(List.length [w1]:Int))))++(((y2.drop (Int.toNat y1.1)).take (min (y2.length - (Int.toNat y1.1)) ((((y2.drop 0).take (Int.toNat y1.1)++List.replicate (Int.toNat (IntKind.i64.wrap ((IntKind.i64.wrap ((List.length y2:Int)+(List.length [w1]:Int))) - y1.1))) (⟨0,0,false, []⟩:Kept)).take (Int.toNat y1.1)++([w1].take (((y2.drop 0).take (Int.toNat y1.1)++List.replicate (Int.toNat (IntKind.i64.wrap ((IntKind.i64.wrap ((List.length y2:Int)+(List.length [w1]:Int))) - y1.1))) (⟨0,0,false, []⟩:Kept)).length - (Int.toNat y1.1))++(((y2.drop 0).take (Int.toNat y1.1)++List.replicate (Int.toNat (IntKind.i64.wrap ((IntKind.i64.wrap ((List.length y2:Int)+(List.length [w1]:Int))) - y1.1))) (⟨0,0,false, []⟩:Kept)).drop (Int.toNat y1.1)).drop (min [w1].length (((y2.drop 0).take (Int.toNat y1.1)++List.replicate (Int.toNat (IntKind.i64.wrap ((IntKind.i64.wrap ((List.length y2:Int)+(List.length [w1]:Int))) - y1.1))) (⟨0,0,false, []⟩:Kept)).length - (Int.toNat y1.1))))).length - (Int.toNat (IntKind.i64.wrap (y1.1+(List.length [w1]:Int)))))))++(((y2.drop 0).take (Int.toNat y1.1)++List.replicate (Int.toNat (IntKind.i64.wrap ((IntKind.i64.wrap ((List.length y2:Int)+(List.length [w1]:Int))) - y1.1))) (⟨0,0,false, []⟩:Kept)).take (Int.toNat y1.1)++([w1].take (((y2.drop 0).take (Int.toNat y1.1)++List.replicate (Int.toNat (IntKind.i64.wrap ((IntKind.i64.wrap ((List.length y2:Int)+(List.length [w1]:Int))) - y1.1))) (⟨0,0,false, []⟩:Kept)).length - (Int.toNat y1.1))++(((y2.drop 0).take (Int.toNat y1.1)++List.replicate (Int.toNat (IntKind.i64.wrap ((IntKind.i64.wrap ((List.length y2:Int)+(List.length [w1]:Int))) - y1.1))) (⟨0,0,false, []⟩:Kept)).drop (Int.toNat y1.1)).drop (min [w1].length (((y2.drop 0).take (Int.toNat y1.1)++List.replicate (Int.toNat (IntKind.i64.wrap ((IntKind.i64.wrap ((List.length y2:Int)+(List.length [w1]:Int))) - y1.1))) (⟨0,0,false, []⟩:Kept)).length - (Int.toNat y1.1))))).drop ((Int.toNat (IntKind.i64.wrap (y1.1+(List.length [w1]:Int))))+(min (y2.length - (Int.toNat y1.1)) ((((y2.drop 0).take (Int.toNat y1.1)++List.replicate (Int.toNat (IntKind.i64.wrap ((IntKind.i64.wrap ((List.length y2:Int)+(List.length [w1]:Int))) - y1.1))) (⟨0,0,false, []⟩:Kept)).take (Int.toNat y1.1)++([w1].take (((y2.drop 0).take (Int.toNat y1.1)++List.replicate (Int.toNat (IntKind.i64.wrap ((IntKind.i64.wrap ((List.length y2:Int)+(List.length [w1]:Int))) - y1.1))) (⟨0,0,false, []⟩:Kept)).length - (Int.toNat y1.1))++(((y2.drop 0).take (Int.toNat y1.1)++List.replicate (Int.toNat (IntKind.i64.wrap ((IntKind.i64.wrap ((List.length y2:Int)+(List.length [w1]:Int))) - y1.1))) (⟨0,0,false, []⟩:Kept)).drop (Int.toNat y1.1)).drop (min [w1].length (((y2.drop 0).take (Int.toNat y1.1)++List.replicate (Int.toNat (IntKind.i64.wrap ((IntKind.i64.wrap ((List.length y2:Int)+(List.length [w1]:Int))) - y1.1))) (⟨0,0,false, []⟩:Kept)).length - (Int.toNat y1.1))))).length - (Int.toNat (IntKind.i64.wrap (y1.1+(List.length [w1]:Int))))))))),w0.ao.aJ⟩:ay)⟩:al)) (none)) (none)) (none)) (none)) (none)) (none)) (none)) (none)) (none))) (none)) (none)) (
 ah (decide (0≤(IntKind.i64.wrap ((List.length y2:Int)+(List.length [w1]:Int)))∧(IntKind.i64.wrap ((List.length y2:Int)+(List.length [w1]:Int)))≤(cp3:Int))) (
 ah (decide (0≤(IntKind.i64.wrap (y1.1+(List.length [w1]:Int)))∧(IntKind.i64.wrap (y1.1+(List.length [w1]:Int)))≤((Int.toNat (IntKind.i64.wrap ((List.length y2:Int)+(List.length [w1]:Int)))):Int))) (
 ah (Nat.blt 0 [w1].length) (
 ah (Nat.blt 0 y2.length) (
 ah (decide (0≤(IntKind.i64.wrap (y1.1+(List.length [w1]:Int)))∧(IntKind.i64.wrap (y1.1+(List.length [w1]:Int)))≤((Int.toNat (IntKind.i64.wrap ((List.length y2:Int)+(List.length [w1]:Int)))):Int))) (
 ah (decide (0≤y1.1∧y1.1≤((Int.toNat (IntKind.i64.wrap ((List.length y2:Int)+(List.length [w1]:Int)))):Int))) (
 ah (Nat.ble ((0+(Int.toNat y1.1))+(min ((Int.toNat (IntKind.i64.wrap ((List.length y2:Int)+(List.length [w1]:Int)))) - (Int.toNat y1.1)) ((Int.toNat (IntKind.i64.wrap ((List.length y2:Int)+(List.length [w1]:Int)))) - (Int.toNat (IntKind.i64.wrap (y1.1+(List.length [w1]:Int))))))) y2.length) (
 ah (Nat.ble (0+(Int.toNat (IntKind.i64.wrap (y1.1+(List.length [w1]:Int))))) y2.length) (
 ah (Nat.ble ((0+(Int.toNat (IntKind.i64.wrap (y1.1+(List.length [w1]:Int)))))+(min ((Int.toNat (IntKind.i64.wrap ((List.length y2:Int)+(List.length [w1]:Int)))) - (Int.toNat y1.1)) ((Int.toNat (IntKind.i64.wrap ((List.length y2:Int)+(List.length [w1]:Int)))) - (Int.toNat (IntKind.i64.wrap (y1.1+(List.length [w1]:Int))))))) y2.length) (
 ah (decide (0≤y1.1∧y1.1≤((Int.toNat (IntKind.i64.wrap ((List.length y2:Int)+(List.length [w1]:Int)))):Int))) (
 ah (Nat.ble ((0+(Int.toNat y1.1))+((Int.toNat (IntKind.i64.wrap ((List.length y2:Int)+(List.length [w1]:Int)))) - (Int.toNat y1.1))) (y2.take (0+(Int.toNat (IntKind.i64.wrap (y1.1+(List.length [w1]:Int)))))++(((y2.drop (0+(Int.toNat y1.1))).take (min ((Int.toNat (IntKind.i64.wrap ((List.length y2:Int)+(List.length [w1]:Int)))) - (Int.toNat y1.1)) ((Int.toNat (IntKind.i64.wrap ((List.length y2:Int)+(List.length [w1]:Int)))) - (Int.toNat (IntKind.i64.wrap (y1.1+(List.length [w1]:Int)))))))++y2.drop ((0+(Int.toNat (IntKind.i64.wrap (y1.1+(List.length [w1]:Int)))))+(min ((Int.toNat (IntKind.i64.wrap ((List.length y2:Int)+(List.length [w1]:Int)))) - (Int.toNat y1.1)) ((Int.toNat (IntKind.i64.wrap ((List.length y2:Int)+(List.length [w1]:Int)))) - (Int.toNat (IntKind.i64.wrap (y1.1+(List.length [w1]:Int))))))))).length) (
 ah (Nat.ble (0+(Int.toNat (IntKind.i64.wrap ((List.length y2:Int)+(List.length [w1]:Int))))) ((y2.take (0+(Int.toNat (IntKind.i64.wrap (y1.1+(List.length [w1]:Int)))))++(((y2.drop (0+(Int.toNat y1.1))).take (min ((Int.toNat (IntKind.i64.wrap ((List.length y2:Int)+(List.length [w1]:Int)))) - (Int.toNat y1.1)) ((Int.toNat (IntKind.i64.wrap ((List.length y2:Int)+(List.length [w1]:Int)))) - (Int.toNat (IntKind.i64.wrap (y1.1+(List.length [w1]:Int)))))))++y2.drop ((0+(Int.toNat (IntKind.i64.wrap (y1.1+(List.length [w1]:Int)))))+(min ((Int.toNat (IntKind.i64.wrap ((List.length y2:Int)+(List.length [w1]:Int)))) - (Int.toNat y1.1)) ((Int.toNat (IntKind.i64.wrap ((List.length y2:Int)+(List.length [w1]:Int)))) - (Int.toNat (IntKind.i64.wrap (y1.1+(List.length [w1]:Int))))))))).take (0+(Int.toNat y1.1))++([w1].take ((Int.toNat (IntKind.i64.wrap ((List.length y2:Int)+(List.length [w1]:Int)))) - (Int.toNat y1.1))++((y2.take (0+(Int.toNat (IntKind.i64.wrap (y1.1+(List.length [w1]:Int)))))++(((y2.drop (0+(Int.toNat y1.1))).take (min ((Int.toNat (IntKind.i64.wrap ((List.length y2:Int)+(List.length [w1]:Int)))) - (Int.toNat y1.1)) ((Int.toNat (IntKind.i64.wrap ((List.length y2:Int)+(List.length [w1]:Int)))) - (Int.toNat (IntKind.i64.wrap (y1.1+(List.length [w1]:Int)))))))++y2.drop ((0+(Int.toNat (IntKind.i64.wrap (y1.1+(List.length [w1]:Int)))))+(min ((Int.toNat (IntKind.i64.wrap ((List.length y2:Int)+(List.length [w1]:Int)))) - (Int.toNat y1.1)) ((Int.toNat (IntKind.i64.wrap ((List.length y2:Int)+(List.length [w1]:Int)))) - (Int.toNat (IntKind.i64.wrap (y1.1+(List.length [w1]:Int))))))))).drop (0+(Int.toNat y1.1))).drop (min [w1].length ((Int.toNat (IntKind.i64.wrap ((List.length y2:Int)+(List.length [w1]:Int)))) - (Int.toNat y1.1))))).length) (some (⟨w0.fs,(⟨((((y2.take (0+(Int.toNat (IntKind.i64.wrap (y1.1+(List.length [w1]:Int)))))++(((y2.drop (0+(Int.toNat y1.1))).take (min ((Int.toNat (IntKind.i64.wrap ((List.length y2:Int)+(List.length [w1]:Int)))) - (Int.toNat y1.1)) ((Int.toNat (IntKind.i64.wrap ((List.length y2:Int)+(List.length [w1]:Int)))) - (Int.toNat (IntKind.i64.wrap (y1.1+(List.length [w1]:Int)))))))++y2.drop ((0+(Int.toNat (IntKind.i64.wrap (y1.1+(List.length [w1]:Int)))))+(min ((Int.toNat (IntKind.i64.wrap ((List.length y2:Int)+(List.length [w1]:Int)))) - (Int.toNat y1.1)) ((Int.toNat (IntKind.i64.wrap ((List.length y2:Int)+(List.length [w1]:Int)))) - (Int.toNat (IntKind.i64.wrap (y1.1+(List.length [w1]:Int))))))))).take (0+(Int.toNat y1.1))++([w1].take ((Int.toNat (IntKind.i64.wrap ((List.length y2:Int)+(List.length [w1]:Int)))) - (Int.toNat y1.1))++((y2.take (0+(Int.toNat (IntKind.i64.wrap (y1.1+(List.length [w1]:Int)))))++(((y2.drop (0+(Int.toNat y1.1))).take (min ((Int.toNat (IntKind.i64.wrap ((List.length y2:Int)+(List.length [w1]:Int)))) - (Int.toNat y1.1)) ((Int.toNat (IntKind.i64.wrap ((List.length y2:Int)+(List.length [w1]:Int)))) - (Int.toNat (IntKind.i64.wrap (y1.1+(List.length [w1]:Int)))))))++y2.drop ((0+(Int.toNat (IntKind.i64.wrap (y1.1+(List.length [w1]:Int)))))+(min ((Int.toNat (IntKind.i64.wrap ((List.length y2:Int)+(List.length [w1]:Int)))) - (Int.toNat y1.1)) ((Int.toNat (IntKind.i64.wrap ((List.length y2:Int)+(List.length [w1]:Int)))) - (Int.toNat (IntKind.i64.wrap (y1.1+(List.length [w1]:Int))))))))).drop (0+(Int.toNat y1.1))).drop (min [w1].length ((Int.toNat (IntKind.i64.wrap ((List.length y2:Int)+(List.length [w1]:Int)))) - (Int.toNat y1.1))))).drop 0).take (Int.toNat (IntKind.i64.wrap ((List.length y2:Int)+(List.length [w1]:Int))))),w0.ao.aJ⟩:ay)⟩:al)) (none)) (none)) (none)) (
 ah (decide (0≤y1.1∧y1.1≤((Int.toNat (IntKind.i64.wrap ((List.length y2:Int)+(List.length [w1]:Int)))):Int))) (
 ah (Nat.ble ((0+(Int.toNat y1.1))+((Int.toNat (IntKind.i64.wrap ((List.length y2:Int)+(List.length [w1]:Int)))) - (Int.toNat y1.1))) (y2.take (0+(Int.toNat (IntKind.i64.wrap (y1.1+(List.length [w1]:Int)))))++((y2.drop (0+(Int.toNat y1.1))).take (min ((Int.toNat (IntKind.i64.wrap ((List.length y2:Int)+(List.length [w1]:Int)))) - (Int.toNat y1.1)) ((Int.toNat (IntKind.i64.wrap ((List.length y2:Int)+(List.length [w1]:Int)))) - (Int.toNat (IntKind.i64.wrap (y1.1+(List.length [w1]:Int)))))))).length) (
 ah (Nat.ble (0+(Int.toNat (IntKind.i64.wrap ((List.length y2:Int)+(List.length [w1]:Int))))) ((y2.take (0+(Int.toNat (IntKind.i64.wrap (y1.1+(List.length [w1]:Int)))))++((y2.drop (0+(Int.toNat y1.1))).take (min ((Int.toNat (IntKind.i64.wrap ((List.length y2:Int)+(List.length [w1]:Int)))) - (Int.toNat y1.1)) ((Int.toNat (IntKind.i64.wrap ((List.length y2:Int)+(List.length [w1]:Int)))) - (Int.toNat (IntKind.i64.wrap (y1.1+(List.length [w1]:Int)))))))).take (0+(Int.toNat y1.1))++([w1].take ((Int.toNat (IntKind.i64.wrap ((List.length y2:Int)+(List.length [w1]:Int)))) - (Int.toNat y1.1))++((y2.take (0+(Int.toNat (IntKind.i64.wrap (y1.1+(List.length [w1]:Int)))))++((y2.drop (0+(Int.toNat y1.1))).take (min ((Int.toNat (IntKind.i64.wrap ((List.length y2:Int)+(List.length [w1]:Int)))) - (Int.toNat y1.1)) ((Int.toNat (IntKind.i64.wrap ((List.length y2:Int)+(List.length [w1]:Int)))) - (Int.toNat (IntKind.i64.wrap (y1.1+(List.length [w1]:Int)))))))).drop (0+(Int.toNat y1.1))).drop (min [w1].length ((Int.toNat (IntKind.i64.wrap ((List.length y2:Int)+(List.length [w1]:Int)))) - (Int.toNat y1.1))))).length) (some (⟨w0.fs,(⟨((((y2.take (0+(Int.toNat (IntKind.i64.wrap (y1.1+(List.length [w1]:Int)))))++((y2.drop (0+(Int.toNat y1.1))).take (min ((Int.toNat (IntKind.i64.wrap ((List.length y2:Int)+(List.length [w1]:Int)))) - (Int.toNat y1.1)) ((Int.toNat (IntKind.i64.wrap ((List.length y2:Int)+(List.length [w1]:Int)))) - (Int.toNat (IntKind.i64.wrap (y1.1+(List.length [w1]:Int)))))))).take (0+(Int.toNat y1.1))++([w1].take ((Int.toNat (IntKind.i64.wrap ((List.length y2:Int)+(List.length [w1]:Int)))) - (Int.toNat y1.1))++((y2.take (0+(Int.toNat (IntKind.i64.wrap (y1.1+(List.length [w1]:Int)))))++((y2.drop (0+(Int.toNat y1.1))).take (min ((Int.toNat (IntKind.i64.wrap ((List.length y2:Int)+(List.length [w1]:Int)))) - (Int.toNat y1.1)) ((Int.toNat (IntKind.i64.wrap ((List.length y2:Int)+(List.length [w1]:Int)))) - (Int.toNat (IntKind.i64.wrap (y1.1+(List.length [w1]:Int)))))))).drop (0+(Int.toNat y1.1))).drop (min [w1].length ((Int.toNat (IntKind.i64.wrap ((List.length y2:Int)+(List.length [w1]:Int)))) - (Int.toNat y1.1))))).drop 0).take (Int.toNat (IntKind.i64.wrap ((List.length y2:Int)+(List.length [w1]:Int))))),w0.ao.aJ⟩:ay)⟩:al)) (none)) (none)) (none))) (none)) (none)) (none)) (none)) (none)) (none)) (none)) (none))))) (none)
noncomputable def er (w0:al) (w1:Int) (w2:ax):Option (al×Int):=
 aj (gm w0 w1) fun y1=>
 ah y1.2 (some (w0,(13:Int))) (aj (cZ w0.fs w2.ino) fun y2=>aj (lK w0.fs w2) fun y3=>aj (cZ y3 w2.ino) fun y4=>
 ah (!y4.2) (aj (gI w0.ao.aJ y2.1.ino) fun y5=>aj (bP w0.ao.aJ) fun y6=>
 ah (decide (0≤y5.1∧y5.1≤(y6.length:Int))) (
 ah ((List.length [(⟨y2.1.ino,y2.1.kind,(0:Int),y2.1.data,(0:Int),y2.1.entries⟩:ae)]:Int)==(0:Int)) (aj (eF (⟨y3,(⟨w0.ao.kept,y6⟩:ay)⟩:al) (⟨w1,w2.ino,false, []⟩:Kept)) fun y7=>some (y7,(0:Int))) (
 ah (y5.1==(List.length y6:Int)) (aR (y6.length+[(⟨y2.1.ino,y2.1.kind,(0:Int),y2.1.data,(0:Int),y2.1.entries⟩:ae)].length) (aj (eF (⟨y3,(⟨w0.ao.kept,(y6++[(⟨y2.1.ino,y2.1.kind,(0:Int),y2.1.data,(0:Int),y2.1.entries⟩:ae)])⟩:ay)⟩:al) (⟨w1,w2.ino,false, []⟩:Kept)) fun y8=>some (y8,(0:Int)))) (yc y6.length fun cp9=>
 ah (decide ((IntKind.i64.wrap ((List.length y6:Int)+(List.length [(⟨y2.1.ino,y2.1.kind,(0:Int),y2.1.data,(0:Int),y2.1.entries⟩:ae)]:Int)))>(cp9:Int))) (
 ah (decide (0≤y5.1∧y5.1≤(cp9:Int))) (
 ah (decide (0≤(IntKind.i64.wrap ((IntKind.i64.wrap ((List.length y6:Int)+(List.length [(⟨y2.1.ino,y2.1.kind,(0:Int),y2.1.data,(0:Int),y2.1.entries⟩:ae)]:Int))) - y5.1)))) (aR ((Int.toNat y5.1)+Int.toNat (IntKind.i64.wrap ((IntKind.i64.wrap ((List.length y6:Int)+(List.length [(⟨y2.1.ino,y2.1.kind,(0:Int),y2.1.data,(0:Int),y2.1.entries⟩:ae)]:Int))) - y5.1))) (
 ah (Nat.ble (0+(Int.toNat y5.1)) y6.length) (
 ah (Nat.blt (cp9 - 0) ((Int.toNat y5.1)+Int.toNat (IntKind.i64.wrap ((IntKind.i64.wrap ((List.length y6:Int)+(List.length [(⟨y2.1.ino,y2.1.kind,(0:Int),y2.1.data,(0:Int),y2.1.entries⟩:ae)]:Int))) - y5.1)))) (
 ah (decide (0≤y5.1∧y5.1≤(((y6.drop 0).take (Int.toNat y5.1)++List.replicate (Int.toNat (IntKind.i64.wrap ((IntKind.i64.wrap ((List.length y6:Int)+(List.length [(⟨y2.1.ino,y2.1.kind,(0:Int),y2.1.data,(0:Int),y2.1.entries⟩:ae)]:Int))) - y5.1))) (⟨0,0,0, [],0,([] :List Entry)⟩:ae)).length:Int))) (
 ah (Nat.ble ((Int.toNat y5.1)+(((y6.drop 0).take (Int.toNat y5.1)++List.replicate (Int.toNat (IntKind.i64.wrap ((IntKind.i64.wrap ((List.length y6:Int)+(List.length [(⟨y2.1.ino,y2.1.kind,(0:Int),y2.1.data,(0:Int),y2.1.entries⟩:ae)]:Int))) - y5.1))) (⟨0,0,0, [],0,([] :List Entry)⟩:ae)).length - (Int.toNat y5.1))) ((y6.drop 0).take (Int.toNat y5.1)++List.replicate (Int.toNat (IntKind.i64.wrap ((IntKind.i64.wrap ((List.length y6:Int)+(List.length [(⟨y2.1.ino,y2.1.kind,(0:Int),y2.1.data,(0:Int),y2.1.entries⟩:ae)]:Int))) - y5.1))) (⟨0,0,0, [],0,([] :List Entry)⟩:ae)).length) (
 ah (decide (0≤(IntKind.i64.wrap (y5.1+(List.length [(⟨y2.1.ino,y2.1.kind,(0:Int),y2.1.data,(0:Int),y2.1.entries⟩:ae)]:Int)))∧(IntKind.i64.wrap (y5.1+(List.length [(⟨y2.1.ino,y2.1.kind,(0:Int),y2.1.data,(0:Int),y2.1.entries⟩:ae)]:Int)))≤((((y6.drop 0).take (Int.toNat y5.1)++List.replicate (Int.toNat (IntKind.i64.wrap ((IntKind.i64.wrap ((List.length y6:Int)+(List.length [(⟨y2.1.ino,y2.1.kind,(0:Int),y2.1.data,(0:Int),y2.1.entries⟩:ae)]:Int))) - y5.1))) (⟨0,0,0, [],0,([] :List Entry)⟩:ae)).take (Int.toNat y5.1)++([(⟨y2.1.ino,y2.1.kind,(0:Int),y2.1.data,(0:Int),y2.1.entries⟩:ae)].take (((y6.drop 0).take (Int.toNat y5.1)++List.replicate (Int.toNat (IntKind.i64.wrap ((IntKind.i64.wrap ((List.length y6:Int)+(List.length [(⟨y2.1.ino,y2.1.kind,(0:Int),y2.1.data,(0:Int),y2.1.entries⟩:ae)]:Int))) - y5.1))) (⟨0,0,0, [],0,([] :List Entry)⟩:ae)).length - (Int.toNat y5.1))++(((y6.drop 0).take (Int.toNat y5.1)++List.replicate (Int.toNat (IntKind.i64.wrap ((IntKind.i64.wrap ((List.length y6:Int)+(List.length [(⟨y2.1.ino,y2.1.kind,(0:Int),y2.1.data,(0:Int),y2.1.entries⟩:ae)]:Int))) - y5.1))) (⟨0,0,0, [],0,([] :List Entry)⟩:ae)).drop (Int.toNat y5.1)).drop (min [(⟨y2.1.ino,y2.1.kind,(0:Int),y2.1.data,(0:Int),y2.1.entries⟩:ae)].length (((y6.drop 0).take (Int.toNat y5.1)++List.replicate (Int.toNat (IntKind.i64.wrap ((IntKind.i64.wrap ((List.length y6:Int)+(List.length [(⟨y2.1.ino,y2.1.kind,(0:Int),y2.1.data,(0:Int),y2.1.entries⟩:ae)]:Int))) - y5.1))) (⟨0,0,0, [],0,([] :List Entry)⟩:ae)).length - (Int.toNat y5.1))))).length:Int))) (
 ah (decide (0≤y5.1∧y5.1≤(y6.length:Int))) (
 ah (Nat.ble ((Int.toNat y5.1)+(min (y6.length - (Int.toNat y5.1)) ((((y6.drop 0).take (Int.toNat y5.1)++List.replicate (Int.toNat (IntKind.i64.wrap ((IntKind.i64.wrap ((List.length y6:Int)+(List.length [(⟨y2.1.ino,y2.1.kind,(0:Int),y2.1.data,(0:Int),y2.1.entries⟩:ae)]:Int))) - y5.1))) (⟨0,0,0, [],0,([] :List Entry)⟩:ae)).take (Int.toNat y5.1)++([(⟨y2.1.ino,y2.1.kind,(0:Int),y2.1.data,(0:Int),y2.1.entries⟩:ae)].take (((y6.drop 0).take (Int.toNat y5.1)++List.replicate (Int.toNat (IntKind.i64.wrap ((IntKind.i64.wrap ((List.length y6:Int)+(List.length [(⟨y2.1.ino,y2.1.kind,(0:Int),y2.1.data,(0:Int),y2.1.entries⟩:ae)]:Int))) - y5.1))) (⟨0,0,0, [],0,([] :List Entry)⟩:ae)).length - (Int.toNat y5.1))++(((y6.drop 0).take (Int.toNat y5.1)++List.replicate (Int.toNat (IntKind.i64.wrap ((IntKind.i64.wrap ((List.length y6:Int)+(List.length [(⟨y2.1.ino,y2.1.kind,(0:Int),y2.1.data,(0:Int),y2.1.entries⟩:ae)]:Int))) - y5.1))) (⟨0,0,0, [],0,([] :List Entry)⟩:ae)).drop (Int.toNat y5.1)).drop (min [(⟨y2.1.ino,y2.1.kind,(0:Int),y2.1.data,(0:Int),y2.1.entries⟩:ae)].length (((y6.drop 0).take (Int.toNat y5.1)++List.replicate (Int.toNat (IntKind.i64.wrap ((IntKind.i64.wrap ((List.length y6:Int)+(List.length [(⟨y2.1.ino,y2.1.kind,(0:Int),y2.1.data,(0:Int),y2.1.entries⟩:ae)]:Int))) - y5.1))) (⟨0,0,0, [],0,([] :List Entry)⟩:ae)).length - (Int.toNat y5.1))))).length - (Int.toNat (IntKind.i64.wrap (y5.1+(List.length [(⟨y2.1.ino,y2.1.kind,(0:Int),y2.1.data,(0:Int),y2.1.entries⟩:ae)]:Int))))))) y6.length) (
 ah (Nat.ble (Int.toNat (IntKind.i64.wrap (y5.1+(List.length [(⟨y2.1.ino,y2.1.kind,(0:Int),y2.1.data,(0:Int),y2.1.entries⟩:ae)]:Int)))) (((y6.drop 0).take (Int.toNat y5.1)++List.replicate (Int.toNat (IntKind.i64.wrap ((IntKind.i64.wrap ((List.length y6:Int)+(List.length [(⟨y2.1.ino,y2.1.kind,(0:Int),y2.1.data,(0:Int),y2.1.entries⟩:ae)]:Int))) - y5.1))) (⟨0,0,0, [],0,([] :List Entry)⟩:ae)).take (Int.toNat y5.1)++([(⟨y2.1.ino,y2.1.kind,(0:Int),y2.1.data,(0:Int),y2.1.entries⟩:ae)].take (((y6.drop 0).take (Int.toNat y5.1)++List.replicate (Int.toNat (IntKind.i64.wrap ((IntKind.i64.wrap ((List.length y6:Int)+(List.length [(⟨y2.1.ino,y2.1.kind,(0:Int),y2.1.data,(0:Int),y2.1.entries⟩:ae)]:Int))) - y5.1))) (⟨0,0,0, [],0,([] :List Entry)⟩:ae)).length - (Int.toNat y5.1))++(((y6.drop 0).take (Int.toNat y5.1)++List.replicate (Int.toNat (IntKind.i64.wrap ((IntKind.i64.wrap ((List.length y6:Int)+(List.length [(⟨y2.1.ino,y2.1.kind,(0:Int),y2.1.data,(0:Int),y2.1.entries⟩:ae)]:Int))) - y5.1))) (⟨0,0,0, [],0,([] :List Entry)⟩:ae)).drop (Int.toNat y5.1)).drop (min [(⟨y2.1.ino,y2.1.kind,(0:Int),y2.1.data,(0:Int),y2.1.entries⟩:ae)].length (((y6.drop 0).take (Int.toNat y5.1)++List.replicate (Int.toNat (IntKind.i64.wrap ((IntKind.i64.wrap ((List.length y6:Int)+(List.length [(⟨y2.1.ino,y2.1.kind,(0:Int),y2.1.data,(0:Int),y2.1.entries⟩:ae)]:Int))) - y5.1))) (⟨0,0,0, [],0,([] :List Entry)⟩:ae)).length - (Int.toNat y5.1))))).length) (
 ah (Nat.ble ((Int.toNat (IntKind.i64.wrap (y5.1+(List.length [(⟨y2.1.ino,y2.1.kind,(0:Int),y2.1.data,(0:Int),y2.1.entries⟩:ae)]:Int))))+(min (y6.length - (Int.toNat y5.1)) ((((y6.drop 0).take (Int.toNat y5.1)++List.replicate (Int.toNat (IntKind.i64.wrap ((IntKind.i64.wrap ((List.length y6:Int)+(List.length [(⟨y2.1.ino,y2.1.kind,(0:Int),y2.1.data,(0:Int),y2.1.entries⟩:ae)]:Int))) - y5.1))) (⟨0,0,0, [],0,([] :List Entry)⟩:ae)).take (Int.toNat y5.1)++([(⟨y2.1.ino,y2.1.kind,(0:Int),y2.1.data,(0:Int),y2.1.entries⟩:ae)].take (((y6.drop 0).take (Int.toNat y5.1)++List.replicate (Int.toNat (IntKind.i64.wrap ((IntKind.i64.wrap ((List.length y6:Int)+(List.length [(⟨y2.1.ino,y2.1.kind,(0:Int),y2.1.data,(0:Int),y2.1.entries⟩:ae)]:Int))) - y5.1))) (⟨0,0,0, [],0,([] :List Entry)⟩:ae)).length - (Int.toNat y5.1))++(((y6.drop 0).take (Int.toNat y5.1)++List.replicate (Int.toNat (IntKind.i64.wrap ((IntKind.i64.wrap ((List.length y6:Int)+(List.length [(⟨y2.1.ino,y2.1.kind,(0:Int),y2.1.data,(0:Int),y2.1.entries⟩:ae)]:Int))) - y5.1))) (⟨0,0,0, [],0,([] :List Entry)⟩:ae)).drop (Int.toNat y5.1)).drop (min [(⟨y2.1.ino,y2.1.kind,(0:Int),y2.1.data,(0:Int),y2.1.entries⟩:ae)].length (((y6.drop 0).take (Int.toNat y5.1)++List.replicate (Int.toNat (IntKind.i64.wrap ((IntKind.i64.wrap ((List.length y6:Int)+(List.length [(⟨y2.1.ino,y2.1.kind,(0:Int),y2.1.data,(0:Int),y2.1.entries⟩:ae)]:Int))) - y5.1))) (⟨0,0,0, [],0,([] :List Entry)⟩:ae)).length - (Int.toNat y5.1))))).length - (Int.toNat (IntKind.i64.wrap (y5.1+(List.length [(⟨y2.1.ino,y2.1.kind,(0:Int),y2.1.data,(0:Int),y2.1.entries⟩:ae)]:Int))))))) (((y6.drop 0).take (Int.toNat y5.1)++List.replicate (Int.toNat (IntKind.i64.wrap ((IntKind.i64.wrap ((List.length y6:Int)+(List.length [(⟨y2.1.ino,y2.1.kind,(0:Int),y2.1.data,(0:Int),y2.1.entries⟩:ae)]:Int))) - y5.1))) (⟨0,0,0, [],0,([] :List Entry)⟩:ae)).take (Int.toNat y5.1)++([(⟨y2.1.ino,y2.1.kind,(0:Int),y2.1.data,(0:Int),y2.1.entries⟩:ae)].take (((y6.drop 0).take (Int.toNat y5.1)++List.replicate (Int.toNat (IntKind.i64.wrap ((IntKind.i64.wrap ((List.length y6:Int)+(List.length [(⟨y2.1.ino,y2.1.kind,(0:Int),y2.1.data,(0:Int),y2.1.entries⟩:ae)]:Int))) - y5.1))) (⟨0,0,0, [],0,([] :List Entry)⟩:ae)).length - (Int.toNat y5.1))++(((y6.drop 0).take (Int.toNat y5.1)++List.replicate (Int.toNat (IntKind.i64.wrap ((IntKind.i64.wrap ((List.length y6:Int)+(List.length [(⟨y2.1.ino,y2.1.kind,(0:Int),y2.1.data,(0:Int),y2.1.entries⟩:ae)]:Int))) - y5.1))) (⟨0,0,0, [],0,([] :List Entry)⟩:ae)).drop (Int.toNat y5.1)).drop (min [(⟨y2.1.ino,y2.1.kind,(0:Int),y2.1.data,(0:Int),y2.1.entries⟩:ae)].length (((y6.drop 0).take (Int.toNat y5.1)++List.replicate (Int.toNat (IntKind.i64.wrap ((IntKind.i64.wrap ((List.length y6:Int)+(List.length [(⟨y2.1.ino,y2.1.kind,(0:Int),y2.1.data,(0:Int),y2.1.entries⟩:ae)]:Int))) - y5.1))) (⟨0,0,0, [],0,([] :List Entry)⟩:ae)).length - (Int.toNat y5.1))))).length) (aj (eF (⟨y3,(⟨w0.ao.kept,((((y6.drop 0).take (Int.toNat y5.1)++List.replicate (Int.toNat (IntKind.i64.wrap ((IntKind.i64.wrap ((List.length y6:Int)+(List.length [(⟨y2.1.ino,y2.1.kind,(0:Int),y2.1.data,(0:Int),y2.1.entries⟩:ae)]:Int))) - y5.1))) (⟨0,0,0, [],0,([] :List Entry)⟩:ae)).take (Int.toNat y5.1)++([(⟨y2.1.ino,y2.1.kind,(0:Int),y2.1.data,(0:Int),y2.1.entries⟩:ae)].take (((y6.drop 0).take (Int.toNat y5.1)++List.replicate (Int.toNat (IntKind.i64.wrap ((IntKind.i64.wrap ((List.length y6:Int)+(List.length [(⟨y2.1.ino,y2.1.kind,(0:Int),y2.1.data,(0:Int),y2.1.entries⟩:ae)]:Int))) - y5.1))) (⟨0,0,0, [],0,([] :List Entry)⟩:ae)).length - (Int.toNat y5.1))++(((y6.drop 0).take (Int.toNat y5.1)++List.replicate (Int.toNat (IntKind.i64.wrap ((IntKind.i64.wrap ((List.length y6:Int)+(List.length [(⟨y2.1.ino,y2.1.kind,(0:Int),y2.1.data,(0:Int),y2.1.entries⟩:ae)]:Int))) - y5.1))) (⟨0,0,0, [],0,([] :List Entry)⟩:ae)).drop (Int.toNat y5.1)).drop (min [(⟨y2.1.ino,y2.1.kind,(0:Int),y2.1.data,(0:Int),y2.1.entries⟩:ae)].length (((y6.drop 0).take (Int.toNat y5.1)++List.replicate (Int.toNat (IntKind.i64.wrap ((IntKind.i64.wrap ((List.length y6:Int)+(List.length [(⟨y2.1.ino,y2.1.kind,(0:Int),y2.1.data,(0:Int),y2.1.entries⟩:ae)]:Int))) - y5.1))) (⟨0,0,0, [],0,([] :List Entry)⟩:ae)).length - (Int.toNat y5.1))))).take (Int.toNat (IntKind.i64.wrap (y5.1+(List.length [(⟨y2.1.ino,y2.1.kind,(0:Int),y2.1.data,(0:Int),y2.1.entries⟩:ae)]:Int))))++(((y6.drop (Int.toNat y5.1)).take (min (y6.length - (Int.toNat y5.1)) ((((y6.drop 0).take (Int.toNat y5.1)++List.replicate (Int.toNat (IntKind.i64.wrap ((IntKind.i64.wrap ((List.length y6:Int)+(List.length [(⟨y2.1.ino,y2.1.kind,(0:Int),y2.1.data,(0:Int),y2.1.entries⟩:ae)]:Int))) - y5.1))) (⟨0,0,0, [],0,([] :List Entry)⟩:ae)).take (Int.toNat y5.1)++([(⟨y2.1.ino,y2.1.kind,(0:Int),y2.1.data,(0:Int),y2.1.entries⟩:ae)].take (((y6.drop 0).take (Int.toNat y5.1)++List.replicate (Int.toNat (IntKind.i64.wrap ((IntKind.i64.wrap ((List.length y6:Int)+(List.length [(⟨y2.1.ino,y2.1.kind,(0:Int),y2.1.data,(0:Int),y2.1.entries⟩:ae)]:Int))) - y5.1))) (⟨0,0,0, [],0,([] :List Entry)⟩:ae)).length - (Int.toNat y5.1))++(((y6.drop 0).take (Int.toNat y5.1)++List.replicate (Int.toNat (IntKind.i64.wrap ((IntKind.i64.wrap ((List.length y6:Int)+(List.length [(⟨y2.1.ino,y2.1.kind,(0:Int),y2.1.data,(0:Int),y2.1.entries⟩:ae)]:Int))) - y5.1))) (⟨0,0,0, [],0,([] :List Entry)⟩:ae)).drop (Int.toNat y5.1)).drop (min [(⟨y2.1.ino,y2.1.kind,(0:Int),y2.1.data,(0:Int),y2.1.entries⟩:ae)].length (((y6.drop 0).take (Int.toNat y5.1)++List.replicate (Int.toNat (IntKind.i64.wrap ((IntKind.i64.wrap ((List.length y6:Int)+(List.length [(⟨y2.1.ino,y2.1.kind,(0:Int),y2.1.data,(0:Int),y2.1.entries⟩:ae)]:Int))) - y5.1))) (⟨0,0,0, [],0,([] :List Entry)⟩:ae)).length - (Int.toNat y5.1))))).length - (Int.toNat (IntKind.i64.wrap (y5.1+(List.length [(⟨y2.1.ino,y2.1.kind,(0:Int),y2.1.data,(0:Int),y2.1.entries⟩:ae)]:Int)))))))++(((y6.drop 0).take (Int.toNat y5.1)++List.replicate (Int.toNat (IntKind.i64.wrap ((IntKind.i64.wrap ((List.length y6:Int)+(List.length [(⟨y2.1.ino,y2.1.kind,(0:Int),y2.1.data,(0:Int),y2.1.entries⟩:ae)]:Int))) - y5.1))) (⟨0,0,0, [],0,([] :List Entry)⟩:ae)).take (Int.toNat y5.1)++([(⟨y2.1.ino,y2.1.kind,(0:Int),y2.1.data,(0:Int),y2.1.entries⟩:ae)].take (((y6.drop 0).take (Int.toNat y5.1)++List.replicate (Int.toNat (IntKind.i64.wrap ((IntKind.i64.wrap ((List.length y6:Int)+(List.length [(⟨y2.1.ino,y2.1.kind,(0:Int),y2.1.data,(0:Int),y2.1.entries⟩:ae)]:Int))) - y5.1))) (⟨0,0,0, [],0,([] :List Entry)⟩:ae)).length - (Int.toNat y5.1))++(((y6.drop 0).take (Int.toNat y5.1)++List.replicate (Int.toNat (IntKind.i64.wrap ((IntKind.i64.wrap ((List.length y6:Int)+(List.length [(⟨y2.1.ino,y2.1.kind,(0:Int),y2.1.data,(0:Int),y2.1.entries⟩:ae)]:Int))) - y5.1))) (⟨0,0,0, [],0,([] :List Entry)⟩:ae)).drop (Int.toNat y5.1)).drop (min [(⟨y2.1.ino,y2.1.kind,(0:Int),y2.1.data,(0:Int),y2.1.entries⟩:ae)].length (((y6.drop 0).take (Int.toNat y5.1)++List.replicate (Int.toNat (IntKind.i64.wrap ((IntKind.i64.wrap ((List.length y6:Int)+(List.length [(⟨y2.1.ino,y2.1.kind,(0:Int),y2.1.data,(0:Int),y2.1.entries⟩:ae)]:Int))) - y5.1))) (⟨0,0,0, [],0,([] :List Entry)⟩:ae)).length - (Int.toNat y5.1))))).drop ((Int.toNat (IntKind.i64.wrap (y5.1+(List.length [(⟨y2.1.ino,y2.1.kind,(0:Int),y2.1.data,(0:Int),y2.1.entries⟩:ae)]:Int))))+(min (y6.length - (Int.toNat y5.1)) ((((y6.drop 0).take (Int.toNat y5.1)++List.replicate (Int.toNat (IntKind.i64.wrap ((IntKind.i64.wrap ((List.length y6:Int)+(List.length [(⟨y2.1.ino,y2.1.kind,(0:Int),y2.1.data,(0:Int),y2.1.entries⟩:ae)]:Int))) - y5.1))) (⟨0,0,0, [],0,([] :List Entry)⟩:ae)).take (Int.toNat y5.1)++([(⟨y2.1.ino,y2.1.kind,(0:Int),y2.1.data,(0:Int),y2.1.entries⟩:ae)].take (((y6.drop 0).take (Int.toNat y5.1)++List.replicate (Int.toNat (IntKind.i64.wrap ((IntKind.i64.wrap ((List.length y6:Int)+(List.length [(⟨y2.1.ino,y2.1.kind,(0:Int),y2.1.data,(0:Int),y2.1.entries⟩:ae)]:Int))) - y5.1))) (⟨0,0,0, [],0,([] :List Entry)⟩:ae)).length - (Int.toNat y5.1))++(((y6.drop 0).take (Int.toNat y5.1)++List.replicate (Int.toNat (IntKind.i64.wrap ((IntKind.i64.wrap ((List.length y6:Int)+(List.length [(⟨y2.1.ino,y2.1.kind,(0:Int),y2.1.data,(0:Int),y2.1.entries⟩:ae)]:Int))) - y5.1))) (⟨0,0,0, [],0,([] :List Entry)⟩:ae)).drop (Int.toNat y5.1)).drop (min [(⟨y2.1.ino,y2.1.kind,(0:Int),y2.1.data,(0:Int),y2.1.entries⟩:ae)].length (((y6.drop 0).take (Int.toNat y5.1)++List.replicate (Int.toNat (IntKind.i64.wrap ((IntKind.i64.wrap ((List.length y6:Int)+(List.length [(⟨y2.1.ino,y2.1.kind,(0:Int),y2.1.data,(0:Int),y2.1.entries⟩:ae)]:Int))) - y5.1))) (⟨0,0,0, [],0,([] :List Entry)⟩:ae)).length - (Int.toNat y5.1))))).length - (Int.toNat (IntKind.i64.wrap (y5.1+(List.length [(⟨y2.1.ino,y2.1.kind,(0:Int),y2.1.data,(0:Int),y2.1.entries⟩:ae)]:Int)))))))))⟩:ay)⟩:al) (⟨w1,w2.ino,false, []⟩:Kept)) fun y10=>some (y10,(0:Int))) (none)) (none)) (none)) (none)) (none)) (none)) (none)) (none)) (none))) (none)) (none)) (
 ah (decide (0≤(IntKind.i64.wrap ((List.length y6:Int)+(List.length [(⟨y2.1.ino,y2.1.kind,(0:Int),y2.1.data,(0:Int),y2.1.entries⟩:ae)]:Int)))∧(IntKind.i64.wrap ((List.length y6:Int)+(List.length [(⟨y2.1.ino,y2.1.kind,(0:Int),y2.1.data,(0:Int),y2.1.entries⟩:ae)]:Int)))≤(cp9:Int))) (
 ah (decide (0≤(IntKind.i64.wrap (y5.1+(List.length [(⟨y2.1.ino,y2.1.kind,(0:Int),y2.1.data,(0:Int),y2.1.entries⟩:ae)]:Int)))∧(IntKind.i64.wrap (y5.1+(List.length [(⟨y2.1.ino,y2.1.kind,(0:Int),y2.1.data,(0:Int),y2.1.entries⟩:ae)]:Int)))≤((Int.toNat (IntKind.i64.wrap ((List.length y6:Int)+(List.length [(⟨y2.1.ino,y2.1.kind,(0:Int),y2.1.data,(0:Int),y2.1.entries⟩:ae)]:Int)))):Int))) (
 ah (Nat.blt 0 [(⟨y2.1.ino,y2.1.kind,(0:Int),y2.1.data,(0:Int),y2.1.entries⟩:ae)].length) (
 ah (Nat.blt 0 y6.length) (
 ah (decide (0≤(IntKind.i64.wrap (y5.1+(List.length [(⟨y2.1.ino,y2.1.kind,(0:Int),y2.1.data,(0:Int),y2.1.entries⟩:ae)]:Int)))∧(IntKind.i64.wrap (y5.1+(List.length [(⟨y2.1.ino,y2.1.kind,(0:Int),y2.1.data,(0:Int),y2.1.entries⟩:ae)]:Int)))≤((Int.toNat (IntKind.i64.wrap ((List.length y6:Int)+(List.length [(⟨y2.1.ino,y2.1.kind,(0:Int),y2.1.data,(0:Int),y2.1.entries⟩:ae)]:Int)))):Int))) (
 ah (decide (0≤y5.1∧y5.1≤((Int.toNat (IntKind.i64.wrap ((List.length y6:Int)+(List.length [(⟨y2.1.ino,y2.1.kind,(0:Int),y2.1.data,(0:Int),y2.1.entries⟩:ae)]:Int)))):Int))) (
 ah (Nat.ble ((0+(Int.toNat y5.1))+(min ((Int.toNat (IntKind.i64.wrap ((List.length y6:Int)+(List.length [(⟨y2.1.ino,y2.1.kind,(0:Int),y2.1.data,(0:Int),y2.1.entries⟩:ae)]:Int)))) - (Int.toNat y5.1)) ((Int.toNat (IntKind.i64.wrap ((List.length y6:Int)+(List.length [(⟨y2.1.ino,y2.1.kind,(0:Int),y2.1.data,(0:Int),y2.1.entries⟩:ae)]:Int)))) - (Int.toNat (IntKind.i64.wrap (y5.1+(List.length [(⟨y2.1.ino,y2.1.kind,(0:Int),y2.1.data,(0:Int),y2.1.entries⟩:ae)]:Int))))))) y6.length) (
 ah (Nat.ble (0+(Int.toNat (IntKind.i64.wrap (y5.1+(List.length [(⟨y2.1.ino,y2.1.kind,(0:Int),y2.1.data,(0:Int),y2.1.entries⟩:ae)]:Int))))) y6.length) (
 ah (Nat.ble ((0+(Int.toNat (IntKind.i64.wrap (y5.1+(List.length [(⟨y2.1.ino,y2.1.kind,(0:Int),y2.1.data,(0:Int),y2.1.entries⟩:ae)]:Int)))))+(min ((Int.toNat (IntKind.i64.wrap ((List.length y6:Int)+(List.length [(⟨y2.1.ino,y2.1.kind,(0:Int),y2.1.data,(0:Int),y2.1.entries⟩:ae)]:Int)))) - (Int.toNat y5.1)) ((Int.toNat (IntKind.i64.wrap ((List.length y6:Int)+(List.length [(⟨y2.1.ino,y2.1.kind,(0:Int),y2.1.data,(0:Int),y2.1.entries⟩:ae)]:Int)))) - (Int.toNat (IntKind.i64.wrap (y5.1+(List.length [(⟨y2.1.ino,y2.1.kind,(0:Int),y2.1.data,(0:Int),y2.1.entries⟩:ae)]:Int))))))) y6.length) (
 ah (decide (0≤y5.1∧y5.1≤((Int.toNat (IntKind.i64.wrap ((List.length y6:Int)+(List.length [(⟨y2.1.ino,y2.1.kind,(0:Int),y2.1.data,(0:Int),y2.1.entries⟩:ae)]:Int)))):Int))) (
 ah (Nat.ble ((0+(Int.toNat y5.1))+((Int.toNat (IntKind.i64.wrap ((List.length y6:Int)+(List.length [(⟨y2.1.ino,y2.1.kind,(0:Int),y2.1.data,(0:Int),y2.1.entries⟩:ae)]:Int)))) - (Int.toNat y5.1))) (y6.take (0+(Int.toNat (IntKind.i64.wrap (y5.1+(List.length [(⟨y2.1.ino,y2.1.kind,(0:Int),y2.1.data,(0:Int),y2.1.entries⟩:ae)]:Int)))))++(((y6.drop (0+(Int.toNat y5.1))).take (min ((Int.toNat (IntKind.i64.wrap ((List.length y6:Int)+(List.length [(⟨y2.1.ino,y2.1.kind,(0:Int),y2.1.data,(0:Int),y2.1.entries⟩:ae)]:Int)))) - (Int.toNat y5.1)) ((Int.toNat (IntKind.i64.wrap ((List.length y6:Int)+(List.length [(⟨y2.1.ino,y2.1.kind,(0:Int),y2.1.data,(0:Int),y2.1.entries⟩:ae)]:Int)))) - (Int.toNat (IntKind.i64.wrap (y5.1+(List.length [(⟨y2.1.ino,y2.1.kind,(0:Int),y2.1.data,(0:Int),y2.1.entries⟩:ae)]:Int)))))))++y6.drop ((0+(Int.toNat (IntKind.i64.wrap (y5.1+(List.length [(⟨y2.1.ino,y2.1.kind,(0:Int),y2.1.data,(0:Int),y2.1.entries⟩:ae)]:Int)))))+(min ((Int.toNat (IntKind.i64.wrap ((List.length y6:Int)+(List.length [(⟨y2.1.ino,y2.1.kind,(0:Int),y2.1.data,(0:Int),y2.1.entries⟩:ae)]:Int)))) - (Int.toNat y5.1)) ((Int.toNat (IntKind.i64.wrap ((List.length y6:Int)+(List.length [(⟨y2.1.ino,y2.1.kind,(0:Int),y2.1.data,(0:Int),y2.1.entries⟩:ae)]:Int)))) - (Int.toNat (IntKind.i64.wrap (y5.1+(List.length [(⟨y2.1.ino,y2.1.kind,(0:Int),y2.1.data,(0:Int),y2.1.entries⟩:ae)]:Int))))))))).length) (
 ah (Nat.ble (0+(Int.toNat (IntKind.i64.wrap ((List.length y6:Int)+(List.length [(⟨y2.1.ino,y2.1.kind,(0:Int),y2.1.data,(0:Int),y2.1.entries⟩:ae)]:Int))))) ((y6.take (0+(Int.toNat (IntKind.i64.wrap (y5.1+(List.length [(⟨y2.1.ino,y2.1.kind,(0:Int),y2.1.data,(0:Int),y2.1.entries⟩:ae)]:Int)))))++(((y6.drop (0+(Int.toNat y5.1))).take (min ((Int.toNat (IntKind.i64.wrap ((List.length y6:Int)+(List.length [(⟨y2.1.ino,y2.1.kind,(0:Int),y2.1.data,(0:Int),y2.1.entries⟩:ae)]:Int)))) - (Int.toNat y5.1)) ((Int.toNat (IntKind.i64.wrap ((List.length y6:Int)+(List.length [(⟨y2.1.ino,y2.1.kind,(0:Int),y2.1.data,(0:Int),y2.1.entries⟩:ae)]:Int)))) - (Int.toNat (IntKind.i64.wrap (y5.1+(List.length [(⟨y2.1.ino,y2.1.kind,(0:Int),y2.1.data,(0:Int),y2.1.entries⟩:ae)]:Int)))))))++y6.drop ((0+(Int.toNat (IntKind.i64.wrap (y5.1+(List.length [(⟨y2.1.ino,y2.1.kind,(0:Int),y2.1.data,(0:Int),y2.1.entries⟩:ae)]:Int)))))+(min ((Int.toNat (IntKind.i64.wrap ((List.length y6:Int)+(List.length [(⟨y2.1.ino,y2.1.kind,(0:Int),y2.1.data,(0:Int),y2.1.entries⟩:ae)]:Int)))) - (Int.toNat y5.1)) ((Int.toNat (IntKind.i64.wrap ((List.length y6:Int)+(List.length [(⟨y2.1.ino,y2.1.kind,(0:Int),y2.1.data,(0:Int),y2.1.entries⟩:ae)]:Int)))) - (Int.toNat (IntKind.i64.wrap (y5.1+(List.length [(⟨y2.1.ino,y2.1.kind,(0:Int),y2.1.data,(0:Int),y2.1.entries⟩:ae)]:Int))))))))).take (0+(Int.toNat y5.1))++([(⟨y2.1.ino,y2.1.kind,(0:Int),y2.1.data,(0:Int),y2.1.entries⟩:ae)].take ((Int.toNat (IntKind.i64.wrap ((List.length y6:Int)+(List.length [(⟨y2.1.ino,y2.1.kind,(0:Int),y2.1.data,(0:Int),y2.1.entries⟩:ae)]:Int)))) - (Int.toNat y5.1))++((y6.take (0+(Int.toNat (IntKind.i64.wrap (y5.1+(List.length [(⟨y2.1.ino,y2.1.kind,(0:Int),y2.1.data,(0:Int),y2.1.entries⟩:ae)]:Int)))))++(((y6.drop (0+(Int.toNat y5.1))).take (min ((Int.toNat (IntKind.i64.wrap ((List.length y6:Int)+(List.length [(⟨y2.1.ino,y2.1.kind,(0:Int),y2.1.data,(0:Int),y2.1.entries⟩:ae)]:Int)))) - (Int.toNat y5.1)) ((Int.toNat (IntKind.i64.wrap ((List.length y6:Int)+(List.length [(⟨y2.1.ino,y2.1.kind,(0:Int),y2.1.data,(0:Int),y2.1.entries⟩:ae)]:Int)))) - (Int.toNat (IntKind.i64.wrap (y5.1+(List.length [(⟨y2.1.ino,y2.1.kind,(0:Int),y2.1.data,(0:Int),y2.1.entries⟩:ae)]:Int)))))))++y6.drop ((0+(Int.toNat (IntKind.i64.wrap (y5.1+(List.length [(⟨y2.1.ino,y2.1.kind,(0:Int),y2.1.data,(0:Int),y2.1.entries⟩:ae)]:Int)))))+(min ((Int.toNat (IntKind.i64.wrap ((List.length y6:Int)+(List.length [(⟨y2.1.ino,y2.1.kind,(0:Int),y2.1.data,(0:Int),y2.1.entries⟩:ae)]:Int)))) - (Int.toNat y5.1)) ((Int.toNat (IntKind.i64.wrap ((List.length y6:Int)+(List.length [(⟨y2.1.ino,y2.1.kind,(0:Int),y2.1.data,(0:Int),y2.1.entries⟩:ae)]:Int)))) - (Int.toNat (IntKind.i64.wrap (y5.1+(List.length [(⟨y2.1.ino,y2.1.kind,(0:Int),y2.1.data,(0:Int),y2.1.entries⟩:ae)]:Int))))))))).drop (0+(Int.toNat y5.1))).drop (min [(⟨y2.1.ino,y2.1.kind,(0:Int),y2.1.data,(0:Int),y2.1.entries⟩:ae)].length ((Int.toNat (IntKind.i64.wrap ((List.length y6:Int)+(List.length [(⟨y2.1.ino,y2.1.kind,(0:Int),y2.1.data,(0:Int),y2.1.entries⟩:ae)]:Int)))) - (Int.toNat y5.1))))).length) (aj (eF (⟨y3,(⟨w0.ao.kept,((((y6.take (0+(Int.toNat (IntKind.i64.wrap (y5.1+(List.length [(⟨y2.1.ino,y2.1.kind,(0:Int),y2.1.data,(0:Int),y2.1.entries⟩:ae)]:Int)))))++(((y6.drop (0+(Int.toNat y5.1))).take (min ((Int.toNat (IntKind.i64.wrap ((List.length y6:Int)+(List.length [(⟨y2.1.ino,y2.1.kind,(0:Int),y2.1.data,(0:Int),y2.1.entries⟩:ae)]:Int)))) - (Int.toNat y5.1)) ((Int.toNat (IntKind.i64.wrap ((List.length y6:Int)+(List.length [(⟨y2.1.ino,y2.1.kind,(0:Int),y2.1.data,(0:Int),y2.1.entries⟩:ae)]:Int)))) - (Int.toNat (IntKind.i64.wrap (y5.1+(List.length [(⟨y2.1.ino,y2.1.kind,(0:Int),y2.1.data,(0:Int),y2.1.entries⟩:ae)]:Int)))))))++y6.drop ((0+(Int.toNat (IntKind.i64.wrap (y5.1+(List.length [(⟨y2.1.ino,y2.1.kind,(0:Int),y2.1.data,(0:Int),y2.1.entries⟩:ae)]:Int)))))+(min ((Int.toNat (IntKind.i64.wrap ((List.length y6:Int)+(List.length [(⟨y2.1.ino,y2.1.kind,(0:Int),y2.1.data,(0:Int),y2.1.entries⟩:ae)]:Int)))) - (Int.toNat y5.1)) ((Int.toNat (IntKind.i64.wrap ((List.length y6:Int)+(List.length [(⟨y2.1.ino,y2.1.kind,(0:Int),y2.1.data,(0:Int),y2.1.entries⟩:ae)]:Int)))) - (Int.toNat (IntKind.i64.wrap (y5.1+(List.length [(⟨y2.1.ino,y2.1.kind,(0:Int),y2.1.data,(0:Int),y2.1.entries⟩:ae)]:Int))))))))).take (0+(Int.toNat y5.1))++([(⟨y2.1.ino,y2.1.kind,(0:Int),y2.1.data,(0:Int),y2.1.entries⟩:ae)].take ((Int.toNat (IntKind.i64.wrap ((List.length y6:Int)+(List.length [(⟨y2.1.ino,y2.1.kind,(0:Int),y2.1.data,(0:Int),y2.1.entries⟩:ae)]:Int)))) - (Int.toNat y5.1))++((y6.take (0+(Int.toNat (IntKind.i64.wrap (y5.1+(List.length [(⟨y2.1.ino,y2.1.kind,(0:Int),y2.1.data,(0:Int),y2.1.entries⟩:ae)]:Int)))))++(((y6.drop (0+(Int.toNat y5.1))).take (min ((Int.toNat (IntKind.i64.wrap ((List.length y6:Int)+(List.length [(⟨y2.1.ino,y2.1.kind,(0:Int),y2.1.data,(0:Int),y2.1.entries⟩:ae)]:Int)))) - (Int.toNat y5.1)) ((Int.toNat (IntKind.i64.wrap ((List.length y6:Int)+(List.length [(⟨y2.1.ino,y2.1.kind,(0:Int),y2.1.data,(0:Int),y2.1.entries⟩:ae)]:Int)))) - (Int.toNat (IntKind.i64.wrap (y5.1+(List.length [(⟨y2.1.ino,y2.1.kind,(0:Int),y2.1.data,(0:Int),y2.1.entries⟩:ae)]:Int)))))))++y6.drop ((0+(Int.toNat (IntKind.i64.wrap (y5.1+(List.length [(⟨y2.1.ino,y2.1.kind,(0:Int),y2.1.data,(0:Int),y2.1.entries⟩:ae)]:Int)))))+(min ((Int.toNat (IntKind.i64.wrap ((List.length y6:Int)+(List.length [(⟨y2.1.ino,y2.1.kind,(0:Int),y2.1.data,(0:Int),y2.1.entries⟩:ae)]:Int)))) - (Int.toNat y5.1)) ((Int.toNat (IntKind.i64.wrap ((List.length y6:Int)+(List.length [(⟨y2.1.ino,y2.1.kind,(0:Int),y2.1.data,(0:Int),y2.1.entries⟩:ae)]:Int)))) - (Int.toNat (IntKind.i64.wrap (y5.1+(List.length [(⟨y2.1.ino,y2.1.kind,(0:Int),y2.1.data,(0:Int),y2.1.entries⟩:ae)]:Int))))))))).drop (0+(Int.toNat y5.1))).drop (min [(⟨y2.1.ino,y2.1.kind,(0:Int),y2.1.data,(0:Int),y2.1.entries⟩:ae)].length ((Int.toNat (IntKind.i64.wrap ((List.length y6:Int)+(List.length [(⟨y2.1.ino,y2.1.kind,(0:Int),y2.1.data,(0:Int),y2.1.entries⟩:ae)]:Int)))) - (Int.toNat y5.1))))).drop 0).take (Int.toNat (IntKind.i64.wrap ((List.length y6:Int)+(List.length [(⟨y2.1.ino,y2.1.kind,(0:Int),y2.1.data,(0:Int),y2.1.entries⟩:ae)]:Int)))))⟩:ay)⟩:al) (⟨w1,w2.ino,false, []⟩:Kept)) fun y11=>some (y11,(0:Int))) (none)) (none)) (none)) (
 ah (decide (0≤y5.1∧y5.1≤((Int.toNat (IntKind.i64.wrap ((List.length y6:Int)+(List.length [(⟨y2.1.ino,y2.1.kind,(0:Int),y2.1.data,(0:Int),y2.1.entries⟩:ae)]:Int)))):Int))) (
 ah (Nat.ble ((0+(Int.toNat y5.1))+((Int.toNat (IntKind.i64.wrap ((List.length y6:Int)+(List.length [(⟨y2.1.ino,y2.1.kind,(0:Int),y2.1.data,(0:Int),y2.1.entries⟩:ae)]:Int)))) - (Int.toNat y5.1))) (y6.take (0+(Int.toNat (IntKind.i64.wrap (y5.1+(List.length [(⟨y2.1.ino,y2.1.kind,(0:Int),y2.1.data,(0:Int),y2.1.entries⟩:ae)]:Int)))))++((y6.drop (0+(Int.toNat y5.1))).take (min ((Int.toNat (IntKind.i64.wrap ((List.length y6:Int)+(List.length [(⟨y2.1.ino,y2.1.kind,(0:Int),y2.1.data,(0:Int),y2.1.entries⟩:ae)]:Int)))) - (Int.toNat y5.1)) ((Int.toNat (IntKind.i64.wrap ((List.length y6:Int)+(List.length [(⟨y2.1.ino,y2.1.kind,(0:Int),y2.1.data,(0:Int),y2.1.entries⟩:ae)]:Int)))) - (Int.toNat (IntKind.i64.wrap (y5.1+(List.length [(⟨y2.1.ino,y2.1.kind,(0:Int),y2.1.data,(0:Int),y2.1.entries⟩:ae)]:Int)))))))).length) (
 ah (Nat.ble (0+(Int.toNat (IntKind.i64.wrap ((List.length y6:Int)+(List.length [(⟨y2.1.ino,y2.1.kind,(0:Int),y2.1.data,(0:Int),y2.1.entries⟩:ae)]:Int))))) ((y6.take (0+(Int.toNat (IntKind.i64.wrap (y5.1+(List.length [(⟨y2.1.ino,y2.1.kind,(0:Int),y2.1.data,(0:Int),y2.1.entries⟩:ae)]:Int)))))++((y6.drop (0+(Int.toNat y5.1))).take (min ((Int.toNat (IntKind.i64.wrap ((List.length y6:Int)+(List.length [(⟨y2.1.ino,y2.1.kind,(0:Int),y2.1.data,(0:Int),y2.1.entries⟩:ae)]:Int)))) - (Int.toNat y5.1)) ((Int.toNat (IntKind.i64.wrap ((List.length y6:Int)+(List.length [(⟨y2.1.ino,y2.1.kind,(0:Int),y2.1.data,(0:Int),y2.1.entries⟩:ae)]:Int)))) - (Int.toNat (IntKind.i64.wrap (y5.1+(List.length [(⟨y2.1.ino,y2.1.kind,(0:Int),y2.1.data,(0:Int),y2.1.entries⟩:ae)]:Int)))))))).take (0+(Int.toNat y5.1))++([(⟨y2.1.ino,y2.1.kind,(0:Int),y2.1.data,(0:Int),y2.1.entries⟩:ae)].take ((Int.toNat (IntKind.i64.wrap ((List.length y6:Int)+(List.length [(⟨y2.1.ino,y2.1.kind,(0:Int),y2.1.data,(0:Int),y2.1.entries⟩:ae)]:Int)))) - (Int.toNat y5.1))++((y6.take (0+(Int.toNat (IntKind.i64.wrap (y5.1+(List.length [(⟨y2.1.ino,y2.1.kind,(0:Int),y2.1.data,(0:Int),y2.1.entries⟩:ae)]:Int)))))++((y6.drop (0+(Int.toNat y5.1))).take (min ((Int.toNat (IntKind.i64.wrap ((List.length y6:Int)+(List.length [(⟨y2.1.ino,y2.1.kind,(0:Int),y2.1.data,(0:Int),y2.1.entries⟩:ae)]:Int)))) - (Int.toNat y5.1)) ((Int.toNat (IntKind.i64.wrap ((List.length y6:Int)+(List.length [(⟨y2.1.ino,y2.1.kind,(0:Int),y2.1.data,(0:Int),y2.1.entries⟩:ae)]:Int)))) - (Int.toNat (IntKind.i64.wrap (y5.1+(List.length [(⟨y2.1.ino,y2.1.kind,(0:Int),y2.1.data,(0:Int),y2.1.entries⟩:ae)]:Int)))))))).drop (0+(Int.toNat y5.1))).drop (min [(⟨y2.1.ino,y2.1.kind,(0:Int),y2.1.data,(0:Int),y2.1.entries⟩:ae)].length ((Int.toNat (IntKind.i64.wrap ((List.length y6:Int)+(List.length [(⟨y2.1.ino,y2.1.kind,(0:Int),y2.1.data,(0:Int),y2.1.entries⟩:ae)]:Int)))) - (Int.toNat y5.1))))).length) (aj (eF (⟨y3,(⟨w0.ao.kept,((((y6.take (0+(Int.toNat (IntKind.i64.wrap (y5.1+(List.length [(⟨y2.1.ino,y2.1.kind,(0:Int),y2.1.data,(0:Int),y2.1.entries⟩:ae)]:Int)))))++((y6.drop (0+(Int.toNat y5.1))).take (min ((Int.toNat (IntKind.i64.wrap ((List.length y6:Int)+(List.length [(⟨y2.1.ino,y2.1.kind,(0:Int),y2.1.data,(0:Int),y2.1.entries⟩:ae)]:Int)))) - (Int.toNat y5.1)) ((Int.toNat (IntKind.i64.wrap ((List.length y6:Int)+(List.length [(⟨y2.1.ino,y2.1.kind,(0:Int),y2.1.data,(0:Int),y2.1.entries⟩:ae)]:Int)))) - (Int.toNat (IntKind.i64.wrap (y5.1+(List.length [(⟨y2.1.ino,y2.1.kind,(0:Int),y2.1.data,(0:Int),y2.1.entries⟩:ae)]:Int)))))))).take (0+(Int.toNat y5.1))++([(⟨y2.1.ino,y2.1.kind,(0:Int),y2.1.data,(0:Int),y2.1.entries⟩:ae)].take ((Int.toNat (IntKind.i64.wrap ((List.length y6:Int)+(List.length [(⟨y2.1.ino,y2.1.kind,(0:Int),y2.1.data,(0:Int),y2.1.entries⟩:ae)]:Int)))) - (Int.toNat y5.1))++((y6.take (0+(Int.toNat (IntKind.i64.wrap (y5.1+(List.length [(⟨y2.1.ino,y2.1.kind,(0:Int),y2.1.data,(0:Int),y2.1.entries⟩:ae)]:Int)))))++((y6.drop (0+(Int.toNat y5.1))).take (min ((Int.toNat (IntKind.i64.wrap ((List.length y6:Int)+(List.length [(⟨y2.1.ino,y2.1.kind,(0:Int),y2.1.data,(0:Int),y2.1.entries⟩:ae)]:Int)))) - (Int.toNat y5.1)) ((Int.toNat (IntKind.i64.wrap ((List.length y6:Int)+(List.length [(⟨y2.1.ino,y2.1.kind,(0:Int),y2.1.data,(0:Int),y2.1.entries⟩:ae)]:Int)))) - (Int.toNat (IntKind.i64.wrap (y5.1+(List.length [(⟨y2.1.ino,y2.1.kind,(0:Int),y2.1.data,(0:Int),y2.1.entries⟩:ae)]:Int)))))))).drop (0+(Int.toNat y5.1))).drop (min [(⟨y2.1.ino,y2.1.kind,(0:Int),y2.1.data,(0:Int),y2.1.entries⟩:ae)].length ((Int.toNat (IntKind.i64.wrap ((List.length y6:Int)+(List.length [(⟨y2.1.ino,y2.1.kind,(0:Int),y2.1.data,(0:Int),y2.1.entries⟩:ae)]:Int)))) - (Int.toNat y5.1))))).drop 0).take (Int.toNat (IntKind.i64.wrap ((List.length y6:Int)+(List.length [(⟨y2.1.ino,y2.1.kind,(0:Int),y2.1.data,(0:Int),y2.1.entries⟩:ae)]:Int)))))⟩:ay)⟩:al) (⟨w1,w2.ino,false, []⟩:Kept)) fun y12=>some (y12,(0:Int))) (none)) (none)) (none))) (none)) (none)) (none)) (none)) (none)) (none)) (none)) (none))))) (none)) (aj (eF (⟨y3,w0.ao⟩:al) (⟨w1,w2.ino,false, []⟩:Kept)) fun y13=>some (y13,(0:Int))))
noncomputable def jl (w0:al) (w1:Int):Option (ae×Bool):=
 aj (cZ w0.fs w1) fun y1=>
 ah y1.2 (some (y1.1,true)) (aj (gI w0.ao.aJ w1) fun y2=>
 ah (!y2.2) (some ((⟨0,0,0, [],0,([] :List Entry)⟩:ae),false)) (
 ah (decide (0≤y2.1)) (aj w0.ao.aJ[Int.toNat y2.1]? fun e3=>some (e3,true)) (none)))
noncomputable def dm {R:Type} (x2:Int) (x5:Int) (x7:List Kept) (kr:Int→Option R) (k0:Option R):Nat→Int→Option R
 |0,_=>none
 |n+1,x3=>
  ah (decide (x3<x2)) (
  ah (decide (0≤x3∧x3<(x7.length:Int))) (aj x7[(Int.toNat x3)]? fun e8=>
  ah (e8.slot==x5) ((kr x3)) ((dm x2 x5 x7 kr k0 n (IntKind.i64.wrap (x3+(1:Int)))))) (none)) ((k0))
noncomputable def cS {R:Type} (x22:Int) (k0:Int→(List Kept)→Option R):Nat→Int→Int→(List Kept)→Option R
 |0,_,_,_=>none
 |n+1,x19,x20,x24=>
  ah (decide (x20<(List.length x24:Int))) (
  ah (decide (0≤x20∧x20<(x24.length:Int))) (aj x24[(Int.toNat x20)]? fun e25=>
  ah (!(e25.slot==x22)) (
  ah (decide (0≤x19∧x19<(x24.length:Int))) (aj x24[(Int.toNat x19)]? fun e26=>(cS x22 k0 n (IntKind.i64.wrap (x19+(1:Int))) (IntKind.i64.wrap (x20+(1:Int))) (x24.set (Int.toNat x19) e25))) (none)) ((cS x22 k0 n x19 (IntKind.i64.wrap (x20+(1:Int))) x24))) (none)) ((k0 x19 x24))
noncomputable def aS (w0:al) (w1:Int):Option (al):=
 aj (dM w0.ao.kept) fun y1=>dm (List.length y1:Int) w1 y1 (fun z18=>
 ah (z18==(-1:Int)) (some (⟨w0.fs,(⟨y1,w0.ao.aJ⟩:ay)⟩:al)) (cS w1 (fun z31 z32=>
 ah (decide (0≤z31∧z31≤(z32.length:Int))) (
 ah (Nat.ble ((Int.toNat z31)+(z32.length - (Int.toNat z31))) z32.length) (
 ah (decide (0≤z31∧z31≤((z32.take (Int.toNat z31)++(List.replicate (z32.length - (Int.toNat z31)) (⟨0,0,false, []⟩:Kept)++z32.drop ((Int.toNat z31)+(z32.length - (Int.toNat z31))))).length:Int))) (
 ah (Nat.ble (0+(Int.toNat z31)) (z32.take (Int.toNat z31)++(List.replicate (z32.length - (Int.toNat z31)) (⟨0,0,false, []⟩:Kept)++z32.drop ((Int.toNat z31)+(z32.length - (Int.toNat z31))))).length) (some (⟨w0.fs,(⟨(((z32.take (Int.toNat z31)++(List.replicate (z32.length - (Int.toNat z31)) (⟨0,0,false, []⟩:Kept)++z32.drop ((Int.toNat z31)+(z32.length - (Int.toNat z31))))).drop 0).take (Int.toNat z31)),w0.ao.aJ⟩:ay)⟩:al)) (none)) (none)) (none)) (none)) bg z18 (IntKind.i64.wrap (z18+(1:Int))) y1)) (some (⟨w0.fs,(⟨y1,w0.ao.aJ⟩:ay)⟩:al)) bg (0:Int)
noncomputable def bJ {R:Type} (x7:Int) (x14:ae) (x15:List ae) (kr:Int→Option R) (k0:Option R):Nat→Int→Option R
 |0,_=>none
 |n+1,x8=>
  ah (decide (x8<x7)) (
  ah (decide (0≤x8∧x8<(x15.length:Int))) (aj x15[(Int.toNat x8)]? fun e16=>
  ah (e16.ino==x14.ino) ((kr x8)) ((bJ x7 x14 x15 kr k0 n (IntKind.i64.wrap (x8+(1:Int)))))) (none)) ((k0))
noncomputable def bQ {R:Type} (x43:ae) (k0:Int→(List ae)→Option R):Nat→Int→Int→(List ae)→Option R
 |0,_,_,_=>none
 |n+1,x36,x37,x44=>
  ah (decide (x37<(List.length x44:Int))) (
  ah (decide (0≤x37∧x37<(x44.length:Int))) (aj x44[(Int.toNat x37)]? fun e45=>
  ah (!(e45.ino==x43.ino)) (
  ah (decide (0≤x36∧x36<(x44.length:Int))) (aj x44[(Int.toNat x36)]? fun e46=>(bQ x43 k0 n (IntKind.i64.wrap (x36+(1:Int))) (IntKind.i64.wrap (x37+(1:Int))) (x44.set (Int.toNat x36) e45))) (none)) ((bQ x43 k0 n x36 (IntKind.i64.wrap (x37+(1:Int))) x44))) (none)) ((k0 x36 x44))
noncomputable def cH (w0:al) (w1:Int) (w2:ax):Option (al×Int):=
 aj (gm w0 w1) fun y1=>aj (cZ w0.fs y1.1.ino) fun y2=>
 ah (!y1.2) (some (w0,(13:Int))) (
 ah y1.1.content (some (w0,(13:Int))) (aj (kU w2.name) fun y3=>
 ah (!y3) (some (w0,(9:Int))) (
 ah y2.2 (
 ah (y2.1.kind==(2:Int)) (some (w0,(9:Int))) (
 ah (!y2.2) (aj (jl w0 y1.1.ino) fun y4=>
 ah (y4.1.kind==(1:Int)) (aj (fx w0.fs (1:Int) (List.length y4.1.data:Int)) fun y5=>
 ah (!y5) (some (w0,(8:Int))) (
 ah (y4.1.kind==(2:Int)) (aj (bP w0.ao.aJ) fun y6=>bJ (List.length y6:Int) (⟨y4.1.ino,y4.1.kind,y4.1.ar,y4.1.data,w2.dir,y4.1.entries⟩:ae) y6 (fun z32=>
 ah (z32==(-1:Int)) (aj (bh w0.fs (⟨((⟨y4.1.ino,y4.1.kind,y4.1.ar,y4.1.data,w2.dir,y4.1.entries⟩:ae).ino),((⟨y4.1.ino,y4.1.kind,y4.1.ar,y4.1.data,w2.dir,y4.1.entries⟩:ae).kind),((⟨y4.1.ino,y4.1.kind,y4.1.ar,y4.1.data,w2.dir,y4.1.entries⟩:ae).ar),((⟨y4.1.ino,y4.1.kind,y4.1.ar,y4.1.data,w2.dir,y4.1.entries⟩:ae).data),((⟨y4.1.ino,y4.1.kind,y4.1.ar,y4.1.data,w2.dir,y4.1.entries⟩:ae).parent),((⟨y4.1.ino,y4.1.kind,y4.1.ar,y4.1.data,w2.dir,y4.1.entries⟩:ae).entries)⟩:ae)) fun y33=>aj (bO y33 w2 y1.1.ino) fun y34=>aj (aS (⟨y34,(⟨w0.ao.kept,y6⟩:ay)⟩:al) w1) fun y35=>some (y35,(0:Int))) (bQ (⟨((⟨y4.1.ino,y4.1.kind,y4.1.ar,y4.1.data,w2.dir,y4.1.entries⟩:ae).ino),((⟨y4.1.ino,y4.1.kind,y4.1.ar,y4.1.data,w2.dir,y4.1.entries⟩:ae).kind),((⟨y4.1.ino,y4.1.kind,y4.1.ar,y4.1.data,w2.dir,y4.1.entries⟩:ae).ar),((⟨y4.1.ino,y4.1.kind,y4.1.ar,y4.1.data,w2.dir,y4.1.entries⟩:ae).data),((⟨y4.1.ino,y4.1.kind,y4.1.ar,y4.1.data,w2.dir,y4.1.entries⟩:ae).parent),((⟨y4.1.ino,y4.1.kind,y4.1.ar,y4.1.data,w2.dir,y4.1.entries⟩:ae).entries)⟩:ae) (fun z55 z56=>
 ah (decide (0≤z55∧z55≤(z56.length:Int))) (
 ah (Nat.ble ((Int.toNat z55)+(z56.length - (Int.toNat z55))) z56.length) (
 ah (decide (0≤z55∧z55≤((z56.take (Int.toNat z55)++(List.replicate (z56.length - (Int.toNat z55)) (⟨0,0,0, [],0,([] :List Entry)⟩:ae)++z56.drop ((Int.toNat z55)+(z56.length - (Int.toNat z55))))).length:Int))) (aj (bh w0.fs (⟨((⟨((⟨y4.1.ino,y4.1.kind,y4.1.ar,y4.1.data,w2.dir,y4.1.entries⟩:ae).ino),((⟨y4.1.ino,y4.1.kind,y4.1.ar,y4.1.data,w2.dir,y4.1.entries⟩:ae).kind),((⟨y4.1.ino,y4.1.kind,y4.1.ar,y4.1.data,w2.dir,y4.1.entries⟩:ae).ar),((⟨y4.1.ino,y4.1.kind,y4.1.ar,y4.1.data,w2.dir,y4.1.entries⟩:ae).data),((⟨y4.1.ino,y4.1.kind,y4.1.ar,y4.1.data,w2.dir,y4.1.entries⟩:ae).parent),((⟨y4.1.ino,y4.1.kind,y4.1.ar,y4.1.data,w2.dir,y4.1.entries⟩:ae).entries)⟩:ae).ino),((⟨((⟨y4.1.ino,y4.1.kind,y4.1.ar,y4.1.data,w2.dir,y4.1.entries⟩:ae).ino),((⟨y4.1.ino,y4.1.kind,y4.1.ar,y4.1.data,w2.dir,y4.1.entries⟩:ae).kind),((⟨y4.1.ino,y4.1.kind,y4.1.ar,y4.1.data,w2.dir,y4.1.entries⟩:ae).ar),((⟨y4.1.ino,y4.1.kind,y4.1.ar,y4.1.data,w2.dir,y4.1.entries⟩:ae).data),((⟨y4.1.ino,y4.1.kind,y4.1.ar,y4.1.data,w2.dir,y4.1.entries⟩:ae).parent),((⟨y4.1.ino,y4.1.kind,y4.1.ar,y4.1.data,w2.dir,y4.1.entries⟩:ae).entries)⟩:ae).kind),((⟨((⟨y4.1.ino,y4.1.kind,y4.1.ar,y4.1.data,w2.dir,y4.1.entries⟩:ae).ino),((⟨y4.1.ino,y4.1.kind,y4.1.ar,y4.1.data,w2.dir,y4.1.entries⟩:ae).kind),((⟨y4.1.ino,y4.1.kind,y4.1.ar,y4.1.data,w2.dir,y4.1.entries⟩:ae).ar),((⟨y4.1.ino,y4.1.kind,y4.1.ar,y4.1.data,w2.dir,y4.1.entries⟩:ae).data),((⟨y4.1.ino,y4.1.kind,y4.1.ar,y4.1.data,w2.dir,y4.1.entries⟩:ae).parent),((⟨y4.1.ino,y4.1.kind,y4.1.ar,y4.1.data,w2.dir,y4.1.entries⟩:ae).entries)⟩:ae).ar),((⟨((⟨y4.1.ino,y4.1.kind,y4.1.ar,y4.1.data,w2.dir,y4.1.entries⟩:ae).ino),((⟨y4.1.ino,y4.1.kind,y4.1.ar,y4.1.data,w2.dir,y4.1.entries⟩:ae).kind),((⟨y4.1.ino,y4.1.kind,y4.1.ar,y4.1.data,w2.dir,y4.1.entries⟩:ae).ar),((⟨y4.1.ino,y4.1.kind,y4.1.ar,y4.1.data,w2.dir,y4.1.entries⟩:ae).data),((⟨y4.1.ino,y4.1.kind,y4.1.ar,y4.1.data,w2.dir,y4.1.entries⟩:ae).parent),((⟨y4.1.ino,y4.1.kind,y4.1.ar,y4.1.data,w2.dir,y4.1.entries⟩:ae).entries)⟩:ae).data),((⟨((⟨y4.1.ino,y4.1.kind,y4.1.ar,y4.1.data,w2.dir,y4.1.entries⟩:ae).ino),((⟨y4.1.ino,y4.1.kind,y4.1.ar,y4.1.data,w2.dir,y4.1.entries⟩:ae).kind),((⟨y4.1.ino,y4.1.kind,y4.1.ar,y4.1.data,w2.dir,y4.1.entries⟩:ae).ar),((⟨y4.1.ino,y4.1.kind,y4.1.ar,y4.1.data,w2.dir,y4.1.entries⟩:ae).data),((⟨y4.1.ino,y4.1.kind,y4.1.ar,y4.1.data,w2.dir,y4.1.entries⟩:ae).parent),((⟨y4.1.ino,y4.1.kind,y4.1.ar,y4.1.data,w2.dir,y4.1.entries⟩:ae).entries)⟩:ae).parent),((⟨((⟨y4.1.ino,y4.1.kind,y4.1.ar,y4.1.data,w2.dir,y4.1.entries⟩:ae).ino),((⟨y4.1.ino,y4.1.kind,y4.1.ar,y4.1.data,w2.dir,y4.1.entries⟩:ae).kind),((⟨y4.1.ino,y4.1.kind,y4.1.ar,y4.1.data,w2.dir,y4.1.entries⟩:ae).ar),((⟨y4.1.ino,y4.1.kind,y4.1.ar,y4.1.data,w2.dir,y4.1.entries⟩:ae).data),((⟨y4.1.ino,y4.1.kind,y4.1.ar,y4.1.data,w2.dir,y4.1.entries⟩:ae).parent),((⟨y4.1.ino,y4.1.kind,y4.1.ar,y4.1.data,w2.dir,y4.1.entries⟩:ae).entries)⟩:ae).entries)⟩:ae)) fun y57=>aj (bO y57 w2 y1.1.ino) fun y58=>
 ah (Nat.ble (0+(Int.toNat z55)) (z56.take (Int.toNat z55)++(List.replicate (z56.length - (Int.toNat z55)) (⟨0,0,0, [],0,([] :List Entry)⟩:ae)++z56.drop ((Int.toNat z55)+(z56.length - (Int.toNat z55))))).length) (aj (aS (⟨y58,(⟨w0.ao.kept,(((z56.take (Int.toNat z55)++(List.replicate (z56.length - (Int.toNat z55)) (⟨0,0,0, [],0,([] :List Entry)⟩:ae)++z56.drop ((Int.toNat z55)+(z56.length - (Int.toNat z55))))).drop 0).take (Int.toNat z55))⟩:ay)⟩:al) w1) fun y59=>some (y59,(0:Int))) (none)) (none)) (none)) (none)) bg z32 (IntKind.i64.wrap (z32+(1:Int))) y6)) (aj (bh w0.fs (⟨((⟨y4.1.ino,y4.1.kind,y4.1.ar,y4.1.data,w2.dir,y4.1.entries⟩:ae).ino),((⟨y4.1.ino,y4.1.kind,y4.1.ar,y4.1.data,w2.dir,y4.1.entries⟩:ae).kind),((⟨y4.1.ino,y4.1.kind,y4.1.ar,y4.1.data,w2.dir,y4.1.entries⟩:ae).ar),((⟨y4.1.ino,y4.1.kind,y4.1.ar,y4.1.data,w2.dir,y4.1.entries⟩:ae).data),((⟨y4.1.ino,y4.1.kind,y4.1.ar,y4.1.data,w2.dir,y4.1.entries⟩:ae).parent),((⟨y4.1.ino,y4.1.kind,y4.1.ar,y4.1.data,w2.dir,y4.1.entries⟩:ae).entries)⟩:ae)) fun y60=>aj (bO y60 w2 y1.1.ino) fun y61=>aj (aS (⟨y61,(⟨w0.ao.kept,y6⟩:ay)⟩:al) w1) fun y62=>some (y62,(0:Int))) bg (0:Int)) (aj (bP w0.ao.aJ) fun y63=>bJ (List.length y63:Int) y4.1 y63 (fun z64=>
 ah (z64==(-1:Int)) (aj (bh w0.fs y4.1) fun y65=>aj (bO y65 w2 y1.1.ino) fun y66=>aj (aS (⟨y66,(⟨w0.ao.kept,y63⟩:ay)⟩:al) w1) fun y67=>some (y67,(0:Int))) (bQ y4.1 (fun z68 z69=>
 ah (decide (0≤z68∧z68≤(z69.length:Int))) (
 ah (Nat.ble ((Int.toNat z68)+(z69.length - (Int.toNat z68))) z69.length) (
 ah (decide (0≤z68∧z68≤((z69.take (Int.toNat z68)++(List.replicate (z69.length - (Int.toNat z68)) (⟨0,0,0, [],0,([] :List Entry)⟩:ae)++z69.drop ((Int.toNat z68)+(z69.length - (Int.toNat z68))))).length:Int))) (aj (bh w0.fs y4.1) fun y70=>aj (bO y70 w2 y1.1.ino) fun y71=>
 ah (Nat.ble (0+(Int.toNat z68)) (z69.take (Int.toNat z68)++(List.replicate (z69.length - (Int.toNat z68)) (⟨0,0,0, [],0,([] :List Entry)⟩:ae)++z69.drop ((Int.toNat z68)+(z69.length - (Int.toNat z68))))).length) (aj (aS (⟨y71,(⟨w0.ao.kept,(((z69.take (Int.toNat z68)++(List.replicate (z69.length - (Int.toNat z68)) (⟨0,0,0, [],0,([] :List Entry)⟩:ae)++z69.drop ((Int.toNat z68)+(z69.length - (Int.toNat z68))))).drop 0).take (Int.toNat z68))⟩:ay)⟩:al) w1) fun y72=>some (y72,(0:Int))) (none)) (none)) (none)) (none)) bg z64 (IntKind.i64.wrap (z64+(1:Int))) y63)) (aj (bh w0.fs y4.1) fun y73=>aj (bO y73 w2 y1.1.ino) fun y74=>aj (aS (⟨y74,(⟨w0.ao.kept,y63⟩:ay)⟩:al) w1) fun y75=>some (y75,(0:Int))) bg (0:Int)))) (aj (fx w0.fs (1:Int) (0:Int)) fun y76=>
 ah (!y76) (some (w0,(8:Int))) (
 ah (y4.1.kind==(2:Int)) (aj (bP w0.ao.aJ) fun y77=>bJ (List.length y77:Int) (⟨y4.1.ino,y4.1.kind,y4.1.ar,y4.1.data,w2.dir,y4.1.entries⟩:ae) y77 (fun z78=>
 ah (z78==(-1:Int)) (aj (bh w0.fs (⟨((⟨y4.1.ino,y4.1.kind,y4.1.ar,y4.1.data,w2.dir,y4.1.entries⟩:ae).ino),((⟨y4.1.ino,y4.1.kind,y4.1.ar,y4.1.data,w2.dir,y4.1.entries⟩:ae).kind),((⟨y4.1.ino,y4.1.kind,y4.1.ar,y4.1.data,w2.dir,y4.1.entries⟩:ae).ar),((⟨y4.1.ino,y4.1.kind,y4.1.ar,y4.1.data,w2.dir,y4.1.entries⟩:ae).data),((⟨y4.1.ino,y4.1.kind,y4.1.ar,y4.1.data,w2.dir,y4.1.entries⟩:ae).parent),((⟨y4.1.ino,y4.1.kind,y4.1.ar,y4.1.data,w2.dir,y4.1.entries⟩:ae).entries)⟩:ae)) fun y79=>aj (bO y79 w2 y1.1.ino) fun y80=>aj (aS (⟨y80,(⟨w0.ao.kept,y77⟩:ay)⟩:al) w1) fun y81=>some (y81,(0:Int))) (bQ (⟨((⟨y4.1.ino,y4.1.kind,y4.1.ar,y4.1.data,w2.dir,y4.1.entries⟩:ae).ino),((⟨y4.1.ino,y4.1.kind,y4.1.ar,y4.1.data,w2.dir,y4.1.entries⟩:ae).kind),((⟨y4.1.ino,y4.1.kind,y4.1.ar,y4.1.data,w2.dir,y4.1.entries⟩:ae).ar),((⟨y4.1.ino,y4.1.kind,y4.1.ar,y4.1.data,w2.dir,y4.1.entries⟩:ae).data),((⟨y4.1.ino,y4.1.kind,y4.1.ar,y4.1.data,w2.dir,y4.1.entries⟩:ae).parent),((⟨y4.1.ino,y4.1.kind,y4.1.ar,y4.1.data,w2.dir,y4.1.entries⟩:ae).entries)⟩:ae) (fun z82 z83=>
 ah (decide (0≤z82∧z82≤(z83.length:Int))) (
 ah (Nat.ble ((Int.toNat z82)+(z83.length - (Int.toNat z82))) z83.length) (
 ah (decide (0≤z82∧z82≤((z83.take (Int.toNat z82)++(List.replicate (z83.length - (Int.toNat z82)) (⟨0,0,0, [],0,([] :List Entry)⟩:ae)++z83.drop ((Int.toNat z82)+(z83.length - (Int.toNat z82))))).length:Int))) (aj (bh w0.fs (⟨((⟨((⟨y4.1.ino,y4.1.kind,y4.1.ar,y4.1.data,w2.dir,y4.1.entries⟩:ae).ino),((⟨y4.1.ino,y4.1.kind,y4.1.ar,y4.1.data,w2.dir,y4.1.entries⟩:ae).kind),((⟨y4.1.ino,y4.1.kind,y4.1.ar,y4.1.data,w2.dir,y4.1.entries⟩:ae).ar),((⟨y4.1.ino,y4.1.kind,y4.1.ar,y4.1.data,w2.dir,y4.1.entries⟩:ae).data),((⟨y4.1.ino,y4.1.kind,y4.1.ar,y4.1.data,w2.dir,y4.1.entries⟩:ae).parent),((⟨y4.1.ino,y4.1.kind,y4.1.ar,y4.1.data,w2.dir,y4.1.entries⟩:ae).entries)⟩:ae).ino),((⟨((⟨y4.1.ino,y4.1.kind,y4.1.ar,y4.1.data,w2.dir,y4.1.entries⟩:ae).ino),((⟨y4.1.ino,y4.1.kind,y4.1.ar,y4.1.data,w2.dir,y4.1.entries⟩:ae).kind),((⟨y4.1.ino,y4.1.kind,y4.1.ar,y4.1.data,w2.dir,y4.1.entries⟩:ae).ar),((⟨y4.1.ino,y4.1.kind,y4.1.ar,y4.1.data,w2.dir,y4.1.entries⟩:ae).data),((⟨y4.1.ino,y4.1.kind,y4.1.ar,y4.1.data,w2.dir,y4.1.entries⟩:ae).parent),((⟨y4.1.ino,y4.1.kind,y4.1.ar,y4.1.data,w2.dir,y4.1.entries⟩:ae).entries)⟩:ae).kind),((⟨((⟨y4.1.ino,y4.1.kind,y4.1.ar,y4.1.data,w2.dir,y4.1.entries⟩:ae).ino),((⟨y4.1.ino,y4.1.kind,y4.1.ar,y4.1.data,w2.dir,y4.1.entries⟩:ae).kind),((⟨y4.1.ino,y4.1.kind,y4.1.ar,y4.1.data,w2.dir,y4.1.entries⟩:ae).ar),((⟨y4.1.ino,y4.1.kind,y4.1.ar,y4.1.data,w2.dir,y4.1.entries⟩:ae).data),((⟨y4.1.ino,y4.1.kind,y4.1.ar,y4.1.data,w2.dir,y4.1.entries⟩:ae).parent),((⟨y4.1.ino,y4.1.kind,y4.1.ar,y4.1.data,w2.dir,y4.1.entries⟩:ae).entries)⟩:ae).ar),((⟨((⟨y4.1.ino,y4.1.kind,y4.1.ar,y4.1.data,w2.dir,y4.1.entries⟩:ae).ino),((⟨y4.1.ino,y4.1.kind,y4.1.ar,y4.1.data,w2.dir,y4.1.entries⟩:ae).kind),((⟨y4.1.ino,y4.1.kind,y4.1.ar,y4.1.data,w2.dir,y4.1.entries⟩:ae).ar),((⟨y4.1.ino,y4.1.kind,y4.1.ar,y4.1.data,w2.dir,y4.1.entries⟩:ae).data),((⟨y4.1.ino,y4.1.kind,y4.1.ar,y4.1.data,w2.dir,y4.1.entries⟩:ae).parent),((⟨y4.1.ino,y4.1.kind,y4.1.ar,y4.1.data,w2.dir,y4.1.entries⟩:ae).entries)⟩:ae).data),((⟨((⟨y4.1.ino,y4.1.kind,y4.1.ar,y4.1.data,w2.dir,y4.1.entries⟩:ae).ino),((⟨y4.1.ino,y4.1.kind,y4.1.ar,y4.1.data,w2.dir,y4.1.entries⟩:ae).kind),((⟨y4.1.ino,y4.1.kind,y4.1.ar,y4.1.data,w2.dir,y4.1.entries⟩:ae).ar),((⟨y4.1.ino,y4.1.kind,y4.1.ar,y4.1.data,w2.dir,y4.1.entries⟩:ae).data),((⟨y4.1.ino,y4.1.kind,y4.1.ar,y4.1.data,w2.dir,y4.1.entries⟩:ae).parent),((⟨y4.1.ino,y4.1.kind,y4.1.ar,y4.1.data,w2.dir,y4.1.entries⟩:ae).entries)⟩:ae).parent),((⟨((⟨y4.1.ino,y4.1.kind,y4.1.ar,y4.1.data,w2.dir,y4.1.entries⟩:ae).ino),((⟨y4.1.ino,y4.1.kind,y4.1.ar,y4.1.data,w2.dir,y4.1.entries⟩:ae).kind),((⟨y4.1.ino,y4.1.kind,y4.1.ar,y4.1.data,w2.dir,y4.1.entries⟩:ae).ar),((⟨y4.1.ino,y4.1.kind,y4.1.ar,y4.1.data,w2.dir,y4.1.entries⟩:ae).data),((⟨y4.1.ino,y4.1.kind,y4.1.ar,y4.1.data,w2.dir,y4.1.entries⟩:ae).parent),((⟨y4.1.ino,y4.1.kind,y4.1.ar,y4.1.data,w2.dir,y4.1.entries⟩:ae).entries)⟩:ae).entries)⟩:ae)) fun y84=>aj (bO y84 w2 y1.1.ino) fun y85=>
 ah (Nat.ble (0+(Int.toNat z82)) (z83.take (Int.toNat z82)++(List.replicate (z83.length - (Int.toNat z82)) (⟨0,0,0, [],0,([] :List Entry)⟩:ae)++z83.drop ((Int.toNat z82)+(z83.length - (Int.toNat z82))))).length) (aj (aS (⟨y85,(⟨w0.ao.kept,(((z83.take (Int.toNat z82)++(List.replicate (z83.length - (Int.toNat z82)) (⟨0,0,0, [],0,([] :List Entry)⟩:ae)++z83.drop ((Int.toNat z82)+(z83.length - (Int.toNat z82))))).drop 0).take (Int.toNat z82))⟩:ay)⟩:al) w1) fun y86=>some (y86,(0:Int))) (none)) (none)) (none)) (none)) bg z78 (IntKind.i64.wrap (z78+(1:Int))) y77)) (aj (bh w0.fs (⟨((⟨y4.1.ino,y4.1.kind,y4.1.ar,y4.1.data,w2.dir,y4.1.entries⟩:ae).ino),((⟨y4.1.ino,y4.1.kind,y4.1.ar,y4.1.data,w2.dir,y4.1.entries⟩:ae).kind),((⟨y4.1.ino,y4.1.kind,y4.1.ar,y4.1.data,w2.dir,y4.1.entries⟩:ae).ar),((⟨y4.1.ino,y4.1.kind,y4.1.ar,y4.1.data,w2.dir,y4.1.entries⟩:ae).data),((⟨y4.1.ino,y4.1.kind,y4.1.ar,y4.1.data,w2.dir,y4.1.entries⟩:ae).parent),((⟨y4.1.ino,y4.1.kind,y4.1.ar,y4.1.data,w2.dir,y4.1.entries⟩:ae).entries)⟩:ae)) fun y87=>aj (bO y87 w2 y1.1.ino) fun y88=>aj (aS (⟨y88,(⟨w0.ao.kept,y77⟩:ay)⟩:al) w1) fun y89=>some (y89,(0:Int))) bg (0:Int)) (aj (bP w0.ao.aJ) fun y90=>bJ (List.length y90:Int) y4.1 y90 (fun z91=>
 ah (z91==(-1:Int)) (aj (bh w0.fs y4.1) fun y92=>aj (bO y92 w2 y1.1.ino) fun y93=>aj (aS (⟨y93,(⟨w0.ao.kept,y90⟩:ay)⟩:al) w1) fun y94=>some (y94,(0:Int))) (bQ y4.1 (fun z95 z96=>
 ah (decide (0≤z95∧z95≤(z96.length:Int))) (
 ah (Nat.ble ((Int.toNat z95)+(z96.length - (Int.toNat z95))) z96.length) (
 ah (decide (0≤z95∧z95≤((z96.take (Int.toNat z95)++(List.replicate (z96.length - (Int.toNat z95)) (⟨0,0,0, [],0,([] :List Entry)⟩:ae)++z96.drop ((Int.toNat z95)+(z96.length - (Int.toNat z95))))).length:Int))) (aj (bh w0.fs y4.1) fun y97=>aj (bO y97 w2 y1.1.ino) fun y98=>
 ah (Nat.ble (0+(Int.toNat z95)) (z96.take (Int.toNat z95)++(List.replicate (z96.length - (Int.toNat z95)) (⟨0,0,0, [],0,([] :List Entry)⟩:ae)++z96.drop ((Int.toNat z95)+(z96.length - (Int.toNat z95))))).length) (aj (aS (⟨y98,(⟨w0.ao.kept,(((z96.take (Int.toNat z95)++(List.replicate (z96.length - (Int.toNat z95)) (⟨0,0,0, [],0,([] :List Entry)⟩:ae)++z96.drop ((Int.toNat z95)+(z96.length - (Int.toNat z95))))).drop 0).take (Int.toNat z95))⟩:ay)⟩:al) w1) fun y99=>some (y99,(0:Int))) (none)) (none)) (none)) (none)) bg z91 (IntKind.i64.wrap (z91+(1:Int))) y90)) (aj (bh w0.fs y4.1) fun y100=>aj (bO y100 w2 y1.1.ino) fun y101=>aj (aS (⟨y101,(⟨w0.ao.kept,y90⟩:ay)⟩:al) w1) fun y102=>some (y102,(0:Int))) bg (0:Int))))) (aj (bO w0.fs w2 y1.1.ino) fun y103=>aj (aS (⟨y103,w0.ao⟩:al) w1) fun y104=>some (y104,(0:Int))))) (
 ah (!y2.2) (aj (jl w0 y1.1.ino) fun y105=>
 ah (y105.1.kind==(1:Int)) (aj (fx w0.fs (1:Int) (List.length y105.1.data:Int)) fun y106=>
 ah (!y106) (some (w0,(8:Int))) (
 ah (y105.1.kind==(2:Int)) (aj (bP w0.ao.aJ) fun y107=>bJ (List.length y107:Int) (⟨y105.1.ino,y105.1.kind,y105.1.ar,y105.1.data,w2.dir,y105.1.entries⟩:ae) y107 (fun z108=>
 ah (z108==(-1:Int)) (aj (bh w0.fs (⟨((⟨y105.1.ino,y105.1.kind,y105.1.ar,y105.1.data,w2.dir,y105.1.entries⟩:ae).ino),((⟨y105.1.ino,y105.1.kind,y105.1.ar,y105.1.data,w2.dir,y105.1.entries⟩:ae).kind),((⟨y105.1.ino,y105.1.kind,y105.1.ar,y105.1.data,w2.dir,y105.1.entries⟩:ae).ar),((⟨y105.1.ino,y105.1.kind,y105.1.ar,y105.1.data,w2.dir,y105.1.entries⟩:ae).data),((⟨y105.1.ino,y105.1.kind,y105.1.ar,y105.1.data,w2.dir,y105.1.entries⟩:ae).parent),((⟨y105.1.ino,y105.1.kind,y105.1.ar,y105.1.data,w2.dir,y105.1.entries⟩:ae).entries)⟩:ae)) fun y109=>aj (bO y109 w2 y1.1.ino) fun y110=>aj (aS (⟨y110,(⟨w0.ao.kept,y107⟩:ay)⟩:al) w1) fun y111=>some (y111,(0:Int))) (bQ (⟨((⟨y105.1.ino,y105.1.kind,y105.1.ar,y105.1.data,w2.dir,y105.1.entries⟩:ae).ino),((⟨y105.1.ino,y105.1.kind,y105.1.ar,y105.1.data,w2.dir,y105.1.entries⟩:ae).kind),((⟨y105.1.ino,y105.1.kind,y105.1.ar,y105.1.data,w2.dir,y105.1.entries⟩:ae).ar),((⟨y105.1.ino,y105.1.kind,y105.1.ar,y105.1.data,w2.dir,y105.1.entries⟩:ae).data),((⟨y105.1.ino,y105.1.kind,y105.1.ar,y105.1.data,w2.dir,y105.1.entries⟩:ae).parent),((⟨y105.1.ino,y105.1.kind,y105.1.ar,y105.1.data,w2.dir,y105.1.entries⟩:ae).entries)⟩:ae) (fun z112 z113=>
 ah (decide (0≤z112∧z112≤(z113.length:Int))) (
 ah (Nat.ble ((Int.toNat z112)+(z113.length - (Int.toNat z112))) z113.length) (
 ah (decide (0≤z112∧z112≤((z113.take (Int.toNat z112)++(List.replicate (z113.length - (Int.toNat z112)) (⟨0,0,0, [],0,([] :List Entry)⟩:ae)++z113.drop ((Int.toNat z112)+(z113.length - (Int.toNat z112))))).length:Int))) (aj (bh w0.fs (⟨((⟨((⟨y105.1.ino,y105.1.kind,y105.1.ar,y105.1.data,w2.dir,y105.1.entries⟩:ae).ino),((⟨y105.1.ino,y105.1.kind,y105.1.ar,y105.1.data,w2.dir,y105.1.entries⟩:ae).kind),((⟨y105.1.ino,y105.1.kind,y105.1.ar,y105.1.data,w2.dir,y105.1.entries⟩:ae).ar),((⟨y105.1.ino,y105.1.kind,y105.1.ar,y105.1.data,w2.dir,y105.1.entries⟩:ae).data),((⟨y105.1.ino,y105.1.kind,y105.1.ar,y105.1.data,w2.dir,y105.1.entries⟩:ae).parent),((⟨y105.1.ino,y105.1.kind,y105.1.ar,y105.1.data,w2.dir,y105.1.entries⟩:ae).entries)⟩:ae).ino),((⟨((⟨y105.1.ino,y105.1.kind,y105.1.ar,y105.1.data,w2.dir,y105.1.entries⟩:ae).ino),((⟨y105.1.ino,y105.1.kind,y105.1.ar,y105.1.data,w2.dir,y105.1.entries⟩:ae).kind),((⟨y105.1.ino,y105.1.kind,y105.1.ar,y105.1.data,w2.dir,y105.1.entries⟩:ae).ar),((⟨y105.1.ino,y105.1.kind,y105.1.ar,y105.1.data,w2.dir,y105.1.entries⟩:ae).data),((⟨y105.1.ino,y105.1.kind,y105.1.ar,y105.1.data,w2.dir,y105.1.entries⟩:ae).parent),((⟨y105.1.ino,y105.1.kind,y105.1.ar,y105.1.data,w2.dir,y105.1.entries⟩:ae).entries)⟩:ae).kind),((⟨((⟨y105.1.ino,y105.1.kind,y105.1.ar,y105.1.data,w2.dir,y105.1.entries⟩:ae).ino),((⟨y105.1.ino,y105.1.kind,y105.1.ar,y105.1.data,w2.dir,y105.1.entries⟩:ae).kind),((⟨y105.1.ino,y105.1.kind,y105.1.ar,y105.1.data,w2.dir,y105.1.entries⟩:ae).ar),((⟨y105.1.ino,y105.1.kind,y105.1.ar,y105.1.data,w2.dir,y105.1.entries⟩:ae).data),((⟨y105.1.ino,y105.1.kind,y105.1.ar,y105.1.data,w2.dir,y105.1.entries⟩:ae).parent),((⟨y105.1.ino,y105.1.kind,y105.1.ar,y105.1.data,w2.dir,y105.1.entries⟩:ae).entries)⟩:ae).ar),((⟨((⟨y105.1.ino,y105.1.kind,y105.1.ar,y105.1.data,w2.dir,y105.1.entries⟩:ae).ino),((⟨y105.1.ino,y105.1.kind,y105.1.ar,y105.1.data,w2.dir,y105.1.entries⟩:ae).kind),((⟨y105.1.ino,y105.1.kind,y105.1.ar,y105.1.data,w2.dir,y105.1.entries⟩:ae).ar),((⟨y105.1.ino,y105.1.kind,y105.1.ar,y105.1.data,w2.dir,y105.1.entries⟩:ae).data),((⟨y105.1.ino,y105.1.kind,y105.1.ar,y105.1.data,w2.dir,y105.1.entries⟩:ae).parent),((⟨y105.1.ino,y105.1.kind,y105.1.ar,y105.1.data,w2.dir,y105.1.entries⟩:ae).entries)⟩:ae).data),((⟨((⟨y105.1.ino,y105.1.kind,y105.1.ar,y105.1.data,w2.dir,y105.1.entries⟩:ae).ino),((⟨y105.1.ino,y105.1.kind,y105.1.ar,y105.1.data,w2.dir,y105.1.entries⟩:ae).kind),((⟨y105.1.ino,y105.1.kind,y105.1.ar,y105.1.data,w2.dir,y105.1.entries⟩:ae).ar),((⟨y105.1.ino,y105.1.kind,y105.1.ar,y105.1.data,w2.dir,y105.1.entries⟩:ae).data),((⟨y105.1.ino,y105.1.kind,y105.1.ar,y105.1.data,w2.dir,y105.1.entries⟩:ae).parent),((⟨y105.1.ino,y105.1.kind,y105.1.ar,y105.1.data,w2.dir,y105.1.entries⟩:ae).entries)⟩:ae).parent),((⟨((⟨y105.1.ino,y105.1.kind,y105.1.ar,y105.1.data,w2.dir,y105.1.entries⟩:ae).ino),((⟨y105.1.ino,y105.1.kind,y105.1.ar,y105.1.data,w2.dir,y105.1.entries⟩:ae).kind),((⟨y105.1.ino,y105.1.kind,y105.1.ar,y105.1.data,w2.dir,y105.1.entries⟩:ae).ar),((⟨y105.1.ino,y105.1.kind,y105.1.ar,y105.1.data,w2.dir,y105.1.entries⟩:ae).data),((⟨y105.1.ino,y105.1.kind,y105.1.ar,y105.1.data,w2.dir,y105.1.entries⟩:ae).parent),((⟨y105.1.ino,y105.1.kind,y105.1.ar,y105.1.data,w2.dir,y105.1.entries⟩:ae).entries)⟩:ae).entries)⟩:ae)) fun y114=>aj (bO y114 w2 y1.1.ino) fun y115=>
 ah (Nat.ble (0+(Int.toNat z112)) (z113.take (Int.toNat z112)++(List.replicate (z113.length - (Int.toNat z112)) (⟨0,0,0, [],0,([] :List Entry)⟩:ae)++z113.drop ((Int.toNat z112)+(z113.length - (Int.toNat z112))))).length) (aj (aS (⟨y115,(⟨w0.ao.kept,(((z113.take (Int.toNat z112)++(List.replicate (z113.length - (Int.toNat z112)) (⟨0,0,0, [],0,([] :List Entry)⟩:ae)++z113.drop ((Int.toNat z112)+(z113.length - (Int.toNat z112))))).drop 0).take (Int.toNat z112))⟩:ay)⟩:al) w1) fun y116=>some (y116,(0:Int))) (none)) (none)) (none)) (none)) bg z108 (IntKind.i64.wrap (z108+(1:Int))) y107)) (aj (bh w0.fs (⟨((⟨y105.1.ino,y105.1.kind,y105.1.ar,y105.1.data,w2.dir,y105.1.entries⟩:ae).ino),((⟨y105.1.ino,y105.1.kind,y105.1.ar,y105.1.data,w2.dir,y105.1.entries⟩:ae).kind),((⟨y105.1.ino,y105.1.kind,y105.1.ar,y105.1.data,w2.dir,y105.1.entries⟩:ae).ar),((⟨y105.1.ino,y105.1.kind,y105.1.ar,y105.1.data,w2.dir,y105.1.entries⟩:ae).data),((⟨y105.1.ino,y105.1.kind,y105.1.ar,y105.1.data,w2.dir,y105.1.entries⟩:ae).parent),((⟨y105.1.ino,y105.1.kind,y105.1.ar,y105.1.data,w2.dir,y105.1.entries⟩:ae).entries)⟩:ae)) fun y117=>aj (bO y117 w2 y1.1.ino) fun y118=>aj (aS (⟨y118,(⟨w0.ao.kept,y107⟩:ay)⟩:al) w1) fun y119=>some (y119,(0:Int))) bg (0:Int)) (aj (bP w0.ao.aJ) fun y120=>bJ (List.length y120:Int) y105.1 y120 (fun z121=>
 ah (z121==(-1:Int)) (aj (bh w0.fs y105.1) fun y122=>aj (bO y122 w2 y1.1.ino) fun y123=>aj (aS (⟨y123,(⟨w0.ao.kept,y120⟩:ay)⟩:al) w1) fun y124=>some (y124,(0:Int))) (bQ y105.1 (fun z125 z126=>
 ah (decide (0≤z125∧z125≤(z126.length:Int))) (
 ah (Nat.ble ((Int.toNat z125)+(z126.length - (Int.toNat z125))) z126.length) (
 ah (decide (0≤z125∧z125≤((z126.take (Int.toNat z125)++(List.replicate (z126.length - (Int.toNat z125)) (⟨0,0,0, [],0,([] :List Entry)⟩:ae)++z126.drop ((Int.toNat z125)+(z126.length - (Int.toNat z125))))).length:Int))) (aj (bh w0.fs y105.1) fun y127=>aj (bO y127 w2 y1.1.ino) fun y128=>
 ah (Nat.ble (0+(Int.toNat z125)) (z126.take (Int.toNat z125)++(List.replicate (z126.length - (Int.toNat z125)) (⟨0,0,0, [],0,([] :List Entry)⟩:ae)++z126.drop ((Int.toNat z125)+(z126.length - (Int.toNat z125))))).length) (aj (aS (⟨y128,(⟨w0.ao.kept,(((z126.take (Int.toNat z125)++(List.replicate (z126.length - (Int.toNat z125)) (⟨0,0,0, [],0,([] :List Entry)⟩:ae)++z126.drop ((Int.toNat z125)+(z126.length - (Int.toNat z125))))).drop 0).take (Int.toNat z125))⟩:ay)⟩:al) w1) fun y129=>some (y129,(0:Int))) (none)) (none)) (none)) (none)) bg z121 (IntKind.i64.wrap (z121+(1:Int))) y120)) (aj (bh w0.fs y105.1) fun y130=>aj (bO y130 w2 y1.1.ino) fun y131=>aj (aS (⟨y131,(⟨w0.ao.kept,y120⟩:ay)⟩:al) w1) fun y132=>some (y132,(0:Int))) bg (0:Int)))) (aj (fx w0.fs (1:Int) (0:Int)) fun y133=>
 ah (!y133) (some (w0,(8:Int))) (
 ah (y105.1.kind==(2:Int)) (aj (bP w0.ao.aJ) fun y134=>bJ (List.length y134:Int) (⟨y105.1.ino,y105.1.kind,y105.1.ar,y105.1.data,w2.dir,y105.1.entries⟩:ae) y134 (fun z135=>
 ah (z135==(-1:Int)) (aj (bh w0.fs (⟨((⟨y105.1.ino,y105.1.kind,y105.1.ar,y105.1.data,w2.dir,y105.1.entries⟩:ae).ino),((⟨y105.1.ino,y105.1.kind,y105.1.ar,y105.1.data,w2.dir,y105.1.entries⟩:ae).kind),((⟨y105.1.ino,y105.1.kind,y105.1.ar,y105.1.data,w2.dir,y105.1.entries⟩:ae).ar),((⟨y105.1.ino,y105.1.kind,y105.1.ar,y105.1.data,w2.dir,y105.1.entries⟩:ae).data),((⟨y105.1.ino,y105.1.kind,y105.1.ar,y105.1.data,w2.dir,y105.1.entries⟩:ae).parent),((⟨y105.1.ino,y105.1.kind,y105.1.ar,y105.1.data,w2.dir,y105.1.entries⟩:ae).entries)⟩:ae)) fun y136=>aj (bO y136 w2 y1.1.ino) fun y137=>aj (aS (⟨y137,(⟨w0.ao.kept,y134⟩:ay)⟩:al) w1) fun y138=>some (y138,(0:Int))) (bQ (⟨((⟨y105.1.ino,y105.1.kind,y105.1.ar,y105.1.data,w2.dir,y105.1.entries⟩:ae).ino),((⟨y105.1.ino,y105.1.kind,y105.1.ar,y105.1.data,w2.dir,y105.1.entries⟩:ae).kind),((⟨y105.1.ino,y105.1.kind,y105.1.ar,y105.1.data,w2.dir,y105.1.entries⟩:ae).ar),((⟨y105.1.ino,y105.1.kind,y105.1.ar,y105.1.data,w2.dir,y105.1.entries⟩:ae).data),((⟨y105.1.ino,y105.1.kind,y105.1.ar,y105.1.data,w2.dir,y105.1.entries⟩:ae).parent),((⟨y105.1.ino,y105.1.kind,y105.1.ar,y105.1.data,w2.dir,y105.1.entries⟩:ae).entries)⟩:ae) (fun z139 z140=>
 ah (decide (0≤z139∧z139≤(z140.length:Int))) (
 ah (Nat.ble ((Int.toNat z139)+(z140.length - (Int.toNat z139))) z140.length) (
 ah (decide (0≤z139∧z139≤((z140.take (Int.toNat z139)++(List.replicate (z140.length - (Int.toNat z139)) (⟨0,0,0, [],0,([] :List Entry)⟩:ae)++z140.drop ((Int.toNat z139)+(z140.length - (Int.toNat z139))))).length:Int))) (aj (bh w0.fs (⟨((⟨((⟨y105.1.ino,y105.1.kind,y105.1.ar,y105.1.data,w2.dir,y105.1.entries⟩:ae).ino),((⟨y105.1.ino,y105.1.kind,y105.1.ar,y105.1.data,w2.dir,y105.1.entries⟩:ae).kind),((⟨y105.1.ino,y105.1.kind,y105.1.ar,y105.1.data,w2.dir,y105.1.entries⟩:ae).ar),((⟨y105.1.ino,y105.1.kind,y105.1.ar,y105.1.data,w2.dir,y105.1.entries⟩:ae).data),((⟨y105.1.ino,y105.1.kind,y105.1.ar,y105.1.data,w2.dir,y105.1.entries⟩:ae).parent),((⟨y105.1.ino,y105.1.kind,y105.1.ar,y105.1.data,w2.dir,y105.1.entries⟩:ae).entries)⟩:ae).ino),((⟨((⟨y105.1.ino,y105.1.kind,y105.1.ar,y105.1.data,w2.dir,y105.1.entries⟩:ae).ino),((⟨y105.1.ino,y105.1.kind,y105.1.ar,y105.1.data,w2.dir,y105.1.entries⟩:ae).kind),((⟨y105.1.ino,y105.1.kind,y105.1.ar,y105.1.data,w2.dir,y105.1.entries⟩:ae).ar),((⟨y105.1.ino,y105.1.kind,y105.1.ar,y105.1.data,w2.dir,y105.1.entries⟩:ae).data),((⟨y105.1.ino,y105.1.kind,y105.1.ar,y105.1.data,w2.dir,y105.1.entries⟩:ae).parent),((⟨y105.1.ino,y105.1.kind,y105.1.ar,y105.1.data,w2.dir,y105.1.entries⟩:ae).entries)⟩:ae).kind),((⟨((⟨y105.1.ino,y105.1.kind,y105.1.ar,y105.1.data,w2.dir,y105.1.entries⟩:ae).ino),((⟨y105.1.ino,y105.1.kind,y105.1.ar,y105.1.data,w2.dir,y105.1.entries⟩:ae).kind),((⟨y105.1.ino,y105.1.kind,y105.1.ar,y105.1.data,w2.dir,y105.1.entries⟩:ae).ar),((⟨y105.1.ino,y105.1.kind,y105.1.ar,y105.1.data,w2.dir,y105.1.entries⟩:ae).data),((⟨y105.1.ino,y105.1.kind,y105.1.ar,y105.1.data,w2.dir,y105.1.entries⟩:ae).parent),((⟨y105.1.ino,y105.1.kind,y105.1.ar,y105.1.data,w2.dir,y105.1.entries⟩:ae).entries)⟩:ae).ar),((⟨((⟨y105.1.ino,y105.1.kind,y105.1.ar,y105.1.data,w2.dir,y105.1.entries⟩:ae).ino),((⟨y105.1.ino,y105.1.kind,y105.1.ar,y105.1.data,w2.dir,y105.1.entries⟩:ae).kind),((⟨y105.1.ino,y105.1.kind,y105.1.ar,y105.1.data,w2.dir,y105.1.entries⟩:ae).ar),((⟨y105.1.ino,y105.1.kind,y105.1.ar,y105.1.data,w2.dir,y105.1.entries⟩:ae).data),((⟨y105.1.ino,y105.1.kind,y105.1.ar,y105.1.data,w2.dir,y105.1.entries⟩:ae).parent),((⟨y105.1.ino,y105.1.kind,y105.1.ar,y105.1.data,w2.dir,y105.1.entries⟩:ae).entries)⟩:ae).data),((⟨((⟨y105.1.ino,y105.1.kind,y105.1.ar,y105.1.data,w2.dir,y105.1.entries⟩:ae).ino),((⟨y105.1.ino,y105.1.kind,y105.1.ar,y105.1.data,w2.dir,y105.1.entries⟩:ae).kind),((⟨y105.1.ino,y105.1.kind,y105.1.ar,y105.1.data,w2.dir,y105.1.entries⟩:ae).ar),((⟨y105.1.ino,y105.1.kind,y105.1.ar,y105.1.data,w2.dir,y105.1.entries⟩:ae).data),((⟨y105.1.ino,y105.1.kind,y105.1.ar,y105.1.data,w2.dir,y105.1.entries⟩:ae).parent),((⟨y105.1.ino,y105.1.kind,y105.1.ar,y105.1.data,w2.dir,y105.1.entries⟩:ae).entries)⟩:ae).parent),((⟨((⟨y105.1.ino,y105.1.kind,y105.1.ar,y105.1.data,w2.dir,y105.1.entries⟩:ae).ino),((⟨y105.1.ino,y105.1.kind,y105.1.ar,y105.1.data,w2.dir,y105.1.entries⟩:ae).kind),((⟨y105.1.ino,y105.1.kind,y105.1.ar,y105.1.data,w2.dir,y105.1.entries⟩:ae).ar),((⟨y105.1.ino,y105.1.kind,y105.1.ar,y105.1.data,w2.dir,y105.1.entries⟩:ae).data),((⟨y105.1.ino,y105.1.kind,y105.1.ar,y105.1.data,w2.dir,y105.1.entries⟩:ae).parent),((⟨y105.1.ino,y105.1.kind,y105.1.ar,y105.1.data,w2.dir,y105.1.entries⟩:ae).entries)⟩:ae).entries)⟩:ae)) fun y141=>aj (bO y141 w2 y1.1.ino) fun y142=>
 ah (Nat.ble (0+(Int.toNat z139)) (z140.take (Int.toNat z139)++(List.replicate (z140.length - (Int.toNat z139)) (⟨0,0,0, [],0,([] :List Entry)⟩:ae)++z140.drop ((Int.toNat z139)+(z140.length - (Int.toNat z139))))).length) (aj (aS (⟨y142,(⟨w0.ao.kept,(((z140.take (Int.toNat z139)++(List.replicate (z140.length - (Int.toNat z139)) (⟨0,0,0, [],0,([] :List Entry)⟩:ae)++z140.drop ((Int.toNat z139)+(z140.length - (Int.toNat z139))))).drop 0).take (Int.toNat z139))⟩:ay)⟩:al) w1) fun y143=>some (y143,(0:Int))) (none)) (none)) (none)) (none)) bg z135 (IntKind.i64.wrap (z135+(1:Int))) y134)) (aj (bh w0.fs (⟨((⟨y105.1.ino,y105.1.kind,y105.1.ar,y105.1.data,w2.dir,y105.1.entries⟩:ae).ino),((⟨y105.1.ino,y105.1.kind,y105.1.ar,y105.1.data,w2.dir,y105.1.entries⟩:ae).kind),((⟨y105.1.ino,y105.1.kind,y105.1.ar,y105.1.data,w2.dir,y105.1.entries⟩:ae).ar),((⟨y105.1.ino,y105.1.kind,y105.1.ar,y105.1.data,w2.dir,y105.1.entries⟩:ae).data),((⟨y105.1.ino,y105.1.kind,y105.1.ar,y105.1.data,w2.dir,y105.1.entries⟩:ae).parent),((⟨y105.1.ino,y105.1.kind,y105.1.ar,y105.1.data,w2.dir,y105.1.entries⟩:ae).entries)⟩:ae)) fun y144=>aj (bO y144 w2 y1.1.ino) fun y145=>aj (aS (⟨y145,(⟨w0.ao.kept,y134⟩:ay)⟩:al) w1) fun y146=>some (y146,(0:Int))) bg (0:Int)) (aj (bP w0.ao.aJ) fun y147=>bJ (List.length y147:Int) y105.1 y147 (fun z148=>
 ah (z148==(-1:Int)) (aj (bh w0.fs y105.1) fun y149=>aj (bO y149 w2 y1.1.ino) fun y150=>aj (aS (⟨y150,(⟨w0.ao.kept,y147⟩:ay)⟩:al) w1) fun y151=>some (y151,(0:Int))) (bQ y105.1 (fun z152 z153=>
 ah (decide (0≤z152∧z152≤(z153.length:Int))) (
 ah (Nat.ble ((Int.toNat z152)+(z153.length - (Int.toNat z152))) z153.length) (
 ah (decide (0≤z152∧z152≤((z153.take (Int.toNat z152)++(List.replicate (z153.length - (Int.toNat z152)) (⟨0,0,0, [],0,([] :List Entry)⟩:ae)++z153.drop ((Int.toNat z152)+(z153.length - (Int.toNat z152))))).length:Int))) (aj (bh w0.fs y105.1) fun y154=>aj (bO y154 w2 y1.1.ino) fun y155=>
 ah (Nat.ble (0+(Int.toNat z152)) (z153.take (Int.toNat z152)++(List.replicate (z153.length - (Int.toNat z152)) (⟨0,0,0, [],0,([] :List Entry)⟩:ae)++z153.drop ((Int.toNat z152)+(z153.length - (Int.toNat z152))))).length) (aj (aS (⟨y155,(⟨w0.ao.kept,(((z153.take (Int.toNat z152)++(List.replicate (z153.length - (Int.toNat z152)) (⟨0,0,0, [],0,([] :List Entry)⟩:ae)++z153.drop ((Int.toNat z152)+(z153.length - (Int.toNat z152))))).drop 0).take (Int.toNat z152))⟩:ay)⟩:al) w1) fun y156=>some (y156,(0:Int))) (none)) (none)) (none)) (none)) bg z148 (IntKind.i64.wrap (z148+(1:Int))) y147)) (aj (bh w0.fs y105.1) fun y157=>aj (bO y157 w2 y1.1.ino) fun y158=>aj (aS (⟨y158,(⟨w0.ao.kept,y147⟩:ay)⟩:al) w1) fun y159=>some (y159,(0:Int))) bg (0:Int))))) (aj (bO w0.fs w2 y1.1.ino) fun y160=>aj (aS (⟨y160,w0.ao⟩:al) w1) fun y161=>some (y161,(0:Int)))))))
noncomputable def cw (w0:al) (w1:Int):Option (al×Int):=
 aj (gm w0 w1) fun y1=>aj (cZ w0.fs y1.1.ino) fun y2=>
 ah (!y1.2) (some (w0,(13:Int))) (
 ah (!y1.1.content) (some (w0,(13:Int))) (
 ah (!y2.2) (some (w0,(13:Int))) (aj (fx w0.fs (0:Int) (IntKind.i64.wrap ((List.length y1.1.data:Int) - (List.length y2.1.data:Int)))) fun y3=>
 ah (!y3) (some (w0,(8:Int))) (aj (bh w0.fs (⟨y2.1.ino,y2.1.kind,y2.1.ar,y1.1.data,y2.1.parent,y2.1.entries⟩:ae)) fun y4=>aj (aS (⟨y4,w0.ao⟩:al) w1) fun y5=>some (y5,(0:Int))))))
noncomputable def cr (w0:al) (w1:Int) (w2:Int):Option (al×Int):=
 aj (gm w0 w1) fun y1=>
 ah y1.2 (some (w0,(13:Int))) (aj (cZ w0.fs w2) fun y2=>aj (eF w0 (⟨w1,w2,true,y2.1.data⟩:Kept)) fun y3=>some (y3,(0:Int)))
noncomputable def bM (w0:al):Option (al):=
 some (⟨w0.fs,(⟨([] :List Kept),([] :List ae)⟩:ay)⟩:al)
noncomputable def cY {R:Type} (x1:List Kept) (kr:Option R) (k0:Option R):Nat→Int→Option R
 |0,_=>none
 |n+1,x2=>
  ah (decide (x2>(0:Int))) (
  ah (decide (0≤x2)) (aj x1[Int.toNat x2]? fun e4=>
  ah (decide (0≤(IntKind.i64.wrap (x2 - (1:Int))))) (aj x1[Int.toNat (IntKind.i64.wrap (x2 - (1:Int)))]? fun e5=>aj (iw e4) fun y6=>aj (iw e5) fun y7=>
  ah (y6 !=y6) (
  ah (y7 !=y7) ((cY x1 kr k0 n (IntKind.i64.wrap (x2 - (1:Int))))) ((kr))) (
  ah (y7 !=y7) ((cY x1 kr k0 n (IntKind.i64.wrap (x2 - (1:Int))))) (
  ah (decide (y6<y7)) ((kr)) (
  ah (decide (y6>y7)) ((cY x1 kr k0 n (IntKind.i64.wrap (x2 - (1:Int))))) ((cY x1 kr k0 n (IntKind.i64.wrap (x2 - (1:Int))))))))) (none)) (none)) ((k0))
noncomputable def eK {R:Type} (x21:Nat) (x22:Nat) (k2:Int→(List Kept)→Option R):Nat→Int→Int→(List Kept)→Option R
 |0,_,_,_=>none
 |n+1,x20,x23,x26=>
  ah (decide (x23<(x22:Int))) (
  ah (decide (0≤x23∧x23<(x22:Int))) (aj x26[(x21+Int.toNat x23)]? fun e27=>
  ah (decide (0≤(IntKind.i64.wrap (x23 - (1:Int)))∧(IntKind.i64.wrap (x23 - (1:Int)))<(x22:Int))) (aj x26[(x21+Int.toNat (IntKind.i64.wrap (x23 - (1:Int))))]? fun e28=>aj (iw e27) fun y29=>aj (iw e28) fun y30=>
  ah (!(y29==y30)) (
  ah (decide (0≤x23∧x23<(x22:Int))) (aj x26[(x21+Int.toNat x23)]? fun e31=>
  ah (decide (0≤x20∧x20<(x26.length:Int))) (aj x26[(Int.toNat x20)]? fun e32=>(eK x21 x22 k2 n (IntKind.i64.wrap (x20+(1:Int))) (IntKind.i64.wrap (x23+(1:Int))) (x26.set (Int.toNat x20) e31))) (none)) (none)) ((eK x21 x22 k2 n x20 (IntKind.i64.wrap (x23+(1:Int))) x26))) (none)) (none)) ((k2 x20 x26))
noncomputable def f_ {R:Type} (x15:List Kept) (kr:Nat→(List Kept)→Option R) (k0:Option R):Nat→Int→Option R
 |0,_=>none
 |n+1,x12=>
  ah (decide (x12<(List.length x15:Int))) (
  ah (decide (0≤x12∧x12<(x15.length:Int))) (aj x15[(Int.toNat x12)]? fun e16=>
  ah (decide (0≤(IntKind.i64.wrap (x12 - (1:Int)))∧(IntKind.i64.wrap (x12 - (1:Int)))<(x15.length:Int))) (aj x15[(Int.toNat (IntKind.i64.wrap (x12 - (1:Int))))]? fun e17=>aj (iw e16) fun y18=>aj (iw e17) fun y19=>
  ah (y18==y19) (
  ah (decide (0≤x12∧x12≤(x15.length:Int))) (eK (Int.toNat x12) (x15.length - (Int.toNat x12)) (fun z37 z38=>
  ah (decide (0≤z37∧z37≤(z38.length:Int))) (
  ah (Nat.ble ((Int.toNat z37)+(z38.length - (Int.toNat z37))) z38.length) (
  ah (decide (0≤z37∧z37≤((z38.take (Int.toNat z37)++(List.replicate (z38.length - (Int.toNat z37)) (⟨0,0,false, []⟩:Kept)++z38.drop ((Int.toNat z37)+(z38.length - (Int.toNat z37))))).length:Int))) ((kr (Int.toNat z37) (z38.take (Int.toNat z37)++(List.replicate (z38.length - (Int.toNat z37)) (⟨0,0,false, []⟩:Kept)++z38.drop ((Int.toNat z37)+(z38.length - (Int.toNat z37))))))) (none)) (none)) (none)) bg x12 (1:Int) x15) (none)) ((f_ x15 kr k0 n (IntKind.i64.wrap (x12+(1:Int)))))) (none)) (none)) ((k0))
noncomputable def il (w0:(List Kept)):Option (Bool):=
 cY w0 (some false) (aj (dM w0) fun y11=>
 ah (decide ((List.length y11:Int)<(2:Int))) (some ((List.length y11:Int)==(List.length w0:Int))) (f_ y11 (fun z47 z48=>some ((z47:Int)==(List.length w0:Int))) (some ((List.length y11:Int)==(List.length w0:Int))) bg (1:Int))) bg (IntKind.i64.wrap ((List.length w0:Int) - (1:Int)))
noncomputable def cT {R:Type} (x1:List ae) (kr:Option R) (k0:Option R):Nat→Int→Option R
 |0,_=>none
 |n+1,x2=>
  ah (decide (x2>(0:Int))) (
  ah (decide (0≤x2)) (aj x1[Int.toNat x2]? fun e4=>
  ah (decide (0≤(IntKind.i64.wrap (x2 - (1:Int))))) (aj x1[Int.toNat (IntKind.i64.wrap (x2 - (1:Int)))]? fun e5=>aj (jq e4) fun y6=>aj (jq e5) fun y7=>
  ah (y6 !=y6) (
  ah (y7 !=y7) ((cT x1 kr k0 n (IntKind.i64.wrap (x2 - (1:Int))))) ((kr))) (
  ah (y7 !=y7) ((cT x1 kr k0 n (IntKind.i64.wrap (x2 - (1:Int))))) (
  ah (decide (y6<y7)) ((kr)) (
  ah (decide (y6>y7)) ((cT x1 kr k0 n (IntKind.i64.wrap (x2 - (1:Int))))) ((cT x1 kr k0 n (IntKind.i64.wrap (x2 - (1:Int))))))))) (none)) (none)) ((k0))
noncomputable def dW {R:Type} (x21:Nat) (x22:Nat) (k2:Int→(List ae)→Option R):Nat→Int→Int→(List ae)→Option R
 |0,_,_,_=>none
 |n+1,x20,x23,x26=>
  ah (decide (x23<(x22:Int))) (
  ah (decide (0≤x23∧x23<(x22:Int))) (aj x26[(x21+Int.toNat x23)]? fun e27=>
  ah (decide (0≤(IntKind.i64.wrap (x23 - (1:Int)))∧(IntKind.i64.wrap (x23 - (1:Int)))<(x22:Int))) (aj x26[(x21+Int.toNat (IntKind.i64.wrap (x23 - (1:Int))))]? fun e28=>aj (jq e27) fun y29=>aj (jq e28) fun y30=>
  ah (!(y29==y30)) (
  ah (decide (0≤x23∧x23<(x22:Int))) (aj x26[(x21+Int.toNat x23)]? fun e31=>
  ah (decide (0≤x20∧x20<(x26.length:Int))) (aj x26[(Int.toNat x20)]? fun e32=>(dW x21 x22 k2 n (IntKind.i64.wrap (x20+(1:Int))) (IntKind.i64.wrap (x23+(1:Int))) (x26.set (Int.toNat x20) e31))) (none)) (none)) ((dW x21 x22 k2 n x20 (IntKind.i64.wrap (x23+(1:Int))) x26))) (none)) (none)) ((k2 x20 x26))
noncomputable def fB {R:Type} (x15:List ae) (kr:Nat→(List ae)→Option R) (k0:Option R):Nat→Int→Option R
 |0,_=>none
 |n+1,x12=>
  ah (decide (x12<(List.length x15:Int))) (
  ah (decide (0≤x12∧x12<(x15.length:Int))) (aj x15[(Int.toNat x12)]? fun e16=>
  ah (decide (0≤(IntKind.i64.wrap (x12 - (1:Int)))∧(IntKind.i64.wrap (x12 - (1:Int)))<(x15.length:Int))) (aj x15[(Int.toNat (IntKind.i64.wrap (x12 - (1:Int))))]? fun e17=>aj (jq e16) fun y18=>aj (jq e17) fun y19=>
  ah (y18==y19) (
  ah (decide (0≤x12∧x12≤(x15.length:Int))) (dW (Int.toNat x12) (x15.length - (Int.toNat x12)) (fun z37 z38=>
  ah (decide (0≤z37∧z37≤(z38.length:Int))) (
  ah (Nat.ble ((Int.toNat z37)+(z38.length - (Int.toNat z37))) z38.length) (
  ah (decide (0≤z37∧z37≤((z38.take (Int.toNat z37)++(List.replicate (z38.length - (Int.toNat z37)) (⟨0,0,0, [],0,([] :List Entry)⟩:ae)++z38.drop ((Int.toNat z37)+(z38.length - (Int.toNat z37))))).length:Int))) ((kr (Int.toNat z37) (z38.take (Int.toNat z37)++(List.replicate (z38.length - (Int.toNat z37)) (⟨0,0,0, [],0,([] :List Entry)⟩:ae)++z38.drop ((Int.toNat z37)+(z38.length - (Int.toNat z37))))))) (none)) (none)) (none)) bg x12 (1:Int) x15) (none)) ((fB x15 kr k0 n (IntKind.i64.wrap (x12+(1:Int)))))) (none)) (none)) ((k0))
noncomputable def gY (w0:(List ae)):Option (Bool):=
 cT w0 (some false) (aj (bP w0) fun y11=>
 ah (decide ((List.length y11:Int)<(2:Int))) (some ((List.length y11:Int)==(List.length w0:Int))) (fB y11 (fun z47 z48=>some ((z47:Int)==(List.length w0:Int))) (some ((List.length y11:Int)==(List.length w0:Int))) bg (1:Int))) bg (IntKind.i64.wrap ((List.length w0:Int) - (1:Int)))
noncomputable def eS {R:Type} (x2:List Kept) (x3:Int) (x5:ae) (kr:Int→Option R) (k0:Option R):Nat→Int→Option R
 |0,_=>none
 |n+1,x4=>
  ah (decide (x4<x3)) (
  ah (decide (0≤x4)) (aj x2[Int.toNat x4]? fun e6=>
  ah (e6.ino==x5.ino) (
  ah (!e6.content) ((kr x4)) ((eS x2 x3 x5 kr k0 n (IntKind.i64.wrap (x4+(1:Int)))))) ((eS x2 x3 x5 kr k0 n (IntKind.i64.wrap (x4+(1:Int)))))) (none)) ((k0))
noncomputable def iO (w0:al) (w1:ae):Option (Bool):=
 aj (cZ w0.fs w1.ino) fun y1=>
 ah y1.2 (some false) (
 ah (decide (w1.ino<(1:Int))) (some false) (
 ah (decide (w1.ino≥w0.fs.next)) (some false) (
 ah (w1.ar !=(0:Int)) (some false) (
 ah (w1.parent !=(0:Int)) (some false) (
 ah (decide ((List.length w1.entries:Int)>(0:Int))) (some false) (eS w0.ao.kept (List.length w0.ao.kept:Int) w1 (fun z10=>
 ah (!(decide (z10≥(0:Int)))) (some false) (
 ah (w1.kind==(1:Int)) (some true) (
 ah (w1.kind==(3:Int)) (
 ah (!(w1.data==([] :Str))) (
 ah (decide ((List.length w1.data:Int)≤(4095:Int))) (
 ah (([0]:Str)==w1.data) (some false) (aj (stringslite_IndexByte w1.data (0:Int)) fun y11=>some (!(decide (y11≥(0:Int)))))) (some false)) (some false)) (
 ah (w1.kind==(2:Int)) (some (w1.data==([] :Str))) (some false))))) (some false) bg (0:Int)))))))
noncomputable def jf (w0:al) (w1:Kept):Option (Bool):=
 aj (jl w0 w1.ino) fun y1=>
 ah y1.2 (
 ah (decide (w1.slot≥(1:Int))) (
 ah (decide (w1.slot≤(1073741824:Int))) (
 ah w1.content (
 ah (y1.1.kind==(1:Int)) (some true) (
 ah (!w1.content) (some (w1.data==([] :Str))) (some false))) (
 ah (!w1.content) (some (w1.data==([] :Str))) (some false))) (some false)) (some false)) (some false)
noncomputable def hO {R:Type} (x4:List ae) (x5:Int) (x7:al) (kr:Int→Option R) (k0:Option R):Nat→Int→Option R
 |0,_=>none
 |n+1,x6=>
  ah (decide (x6<x5)) (
  ah (decide (0≤x6)) (aj x4[Int.toNat x6]? fun e8=>aj (iO x7 e8) fun y9=>
  ah (!y9) ((kr x6)) ((hO x4 x5 x7 kr k0 n (IntKind.i64.wrap (x6+(1:Int)))))) (none)) ((k0))
noncomputable def fj {R:Type} (x14:List Kept) (x15:Int) (x18:al) (kr:Int→Option R) (k0:Option R):Nat→Int→Option R
 |0,_=>none
 |n+1,x16=>
  ah (decide (x16<x15)) (
  ah (decide (0≤x16)) (aj x14[Int.toNat x16]? fun e19=>aj (jf x18 e19) fun y20=>
  ah (!y20) ((kr x16)) ((fj x14 x15 x18 kr k0 n (IntKind.i64.wrap (x16+(1:Int)))))) (none)) ((k0))
noncomputable def iA (w0:al):Option (Bool):=
 aj (oD w0.fs) fun y1=>
 ah (!y1) (some false) (aj (il w0.ao.kept) fun y2=>
 ah (!y2) (some false) (aj (gY w0.ao.aJ) fun y3=>
 ah (!y3) (some false) (hO w0.ao.aJ (List.length w0.ao.aJ:Int) w0 (fun z13=>
 ah (!(decide (z13≥(0:Int)))) (fj w0.ao.kept (List.length w0.ao.kept:Int) w0 (fun z24=>some (!(decide (z24≥(0:Int))))) (some true) bg (0:Int)) (some false)) (fj w0.ao.kept (List.length w0.ao.kept:Int) w0 (fun z25=>some (!(decide (z25≥(0:Int))))) (some true) bg (0:Int)) bg (0:Int))))
end Go.Eng
set_option linter.unusedVariables false
set_option maxRecDepth 100000
namespace Go.Eng
open Go
noncomputable def lY:Option (al):=
 aj (r5 (9:Int) (9:Int)) fun y1=>aj (b7 (⟨y1.aq,y1.au,(9:Int),y1.aa⟩:Fs) (⟨(1:Int),(2:Int),0, [],(1:Int),[(⟨([97]:Str),(4:Int)⟩:Entry),(⟨([98]:Str),(4:Int)⟩:Entry)]⟩:ae)) fun y2=>aj (b7 y2 (⟨(4:Int),(1:Int),(2:Int),([122]:Str),0,([] :List Entry)⟩:ae)) fun y3=>some (⟨y3,(⟨([] :List Kept),([] :List ae)⟩:ay)⟩:al)
noncomputable def bu:Option (Bool):=
 aj (lY) fun y1=>aj (er y1 (1:Int) (⟨(1:Int),([97]:Str),(4:Int)⟩:ax)) fun y2=>aj (er y2.1 (2:Int) (⟨(1:Int),([98]:Str),(4:Int)⟩:ax)) fun y3=>aj (cH y3.1 (1:Int) (⟨(1:Int),([97]:Str),0⟩:ax)) fun y4=>aj (cH y4.1 (2:Int) (⟨(1:Int),([98]:Str),0⟩:ax)) fun y5=>aj (cH y3.1 (3:Int) (⟨(1:Int),([97]:Str),0⟩:ax)) fun y6=>aj (cr y1 (7:Int) (4:Int)) fun y7=>aj (cr y7.1 (7:Int) (4:Int)) fun y8=>aj (cw y7.1 (7:Int)) fun y9=>aj (gm y7.1 (7:Int)) fun y10=>
 ah (y2.2==(0:Int)) (
 ah (y3.2==(0:Int)) (
 ah ((List.length y2.1.ao.aJ:Int)==(0:Int)) (
 ah ((List.length y3.1.ao.aJ:Int)==(1:Int)) (
 ah (y4.2==(0:Int)) (
 ah (y5.2==(0:Int)) (aj (bo y5.1 y1) fun y11=>
 ah y11 (
 ah (y6.2==(13:Int)) (
 ah (y7.2==(0:Int)) (
 ah (y8.2==(13:Int)) (
 ah (y9.2==(0:Int)) (aj (bo y9.1 y1) fun y12=>
 ah y12 (
 ah y10.2 (
 ah ((y10.1.slot==(7:Int))&&((y10.1.ino==(4:Int))&&((y10.1.content==true)&&(y10.1.data==([122]:Str))))) (aj (iA y3.1) fun y13=>
 ah y13 (aj (iA (⟨(⟨0,0,0,([] :List ae)⟩:Fs),(⟨([] :List Kept),([] :List ae)⟩:ay)⟩:al)) fun y14=>
 ah (!y14) (aj (bM y7.1) fun y15=>aj (bo y15 y1) fun y16=>
 ah y16 (aj (fA y1 y1) fun y17=>
 ah y17 (aj (fA y1 y7.1) fun y18=>some (!y18)) (some false)) (some false)) (some false)) (some false)) (some false)) (some false)) (some false)) (some false)) (some false)) (some false)) (some false)) (some false)) (some false)) (some false)) (some false)) (some false)) (some false)) (some false)
noncomputable def jx (w0:al) (w1:al):Option (Bool):=
 aj (bu) fun y1=>
 ah (!y1) (aj (bu) fun y2=>some y2) (aj (kL w0) fun y3=>
 ah (!y3) (aj (bu) fun y4=>some y4) (aj (kL w1) fun y5=>
 ah (!y5) (aj (bu) fun y6=>some y6) (aj (fA w0 w1) fun y7=>aj (bo w0 w1) fun y8=>
 ah (y7==y8) (aj (fA w0 w0) fun y9=>some y9) (some false))))
noncomputable def jE (w0:al) (w1:Int) (w2:Str):Option (Bool):=
 aj (bu) fun y1=>
 ah (!y1) (aj (bu) fun y2=>some y2) (aj (j1 w0) fun y3=>
 ah (!y3) (aj (bu) fun y4=>some y4) (
 ah (decide (w1<(1:Int))) (aj (bu) fun y5=>some y5) (
 ah (decide (w1>(1073741824:Int))) (aj (bu) fun y6=>some y6) (
 ah (decide ((List.length w2:Int)>(1000:Int))) (aj (bu) fun y7=>some y7) (aj (iP w0.fs w2) fun y8=>
 ah (y8.2 !=(0:Int)) (some true) (
 ah (y8.1.name==([] :Str)) (some true) (aj (bB w0.fs y8.1.ino) fun y9=>
 ah y9.2 (
 ah (decide ((List.length y9.1.entries:Int)>(0:Int))) (some true) (aj (er w0 w1 y8.1) fun y10=>aj (lj w0 w1 y8.1) fun y11=>aj (bo y10.1 y11.1) fun y12=>
 ah y12 (some (y10.2==y11.2)) (some false))) (aj (cH w0 w1 y8.1) fun y13=>aj (mY w0 w1 y8.1) fun y14=>aj (bo y13.1 y14.1) fun y15=>
 ah y15 (some (y13.2==y14.2)) (some false)))))))))
noncomputable def jD (w0:al) (w1:Int) (w2:Int):Option (Bool):=
 aj (bu) fun y1=>
 ah (!y1) (aj (bu) fun y2=>some y2) (aj (j1 w0) fun y3=>
 ah (!y3) (aj (bu) fun y4=>some y4) (
 ah (decide (w1<(1:Int))) (aj (bu) fun y5=>some y5) (
 ah (decide (w1>(1073741824:Int))) (aj (bu) fun y6=>some y6) (aj (cw w0 w1) fun y7=>aj (iW w0 w1) fun y8=>aj (bo y7.1 y8.1) fun y9=>
 ah (!y9) (some false) (
 ah (y7.2 !=y8.2) (some false) (aj (bB w0.fs w2) fun y10=>
 ah (!y10.2) (some true) (
 ah (y10.1.kind !=(1:Int)) (some true) (aj (cr w0 w1 w2) fun y11=>aj (i_ w0 w1 w2) fun y12=>aj (bo y11.1 y12.1) fun y13=>
 ah y13 (some (y11.2==y12.2)) (some false)))))))))
noncomputable def j5 (w0:al) (w1:Int) (w2:Str):Option (Bool):=
 aj (bu) fun y1=>
 ah (!y1) (aj (bu) fun y2=>some y2) (aj (j1 w0) fun y3=>
 ah (!y3) (aj (bu) fun y4=>some y4) (
 ah (decide (w1<(1:Int))) (aj (bu) fun y5=>some y5) (
 ah (decide (w1>(1073741824:Int))) (aj (bu) fun y6=>some y6) (
 ah (decide ((List.length w2:Int)>(1000:Int))) (aj (bu) fun y7=>some y7) (aj (iP w0.fs w2) fun y8=>aj (bB w0.fs y8.1.ino) fun y9=>
 ah (y8.2 !=(0:Int)) (some true) (
 ah (y8.1.name==([] :Str)) (some true) (
 ah (!y9.2) (some true) (
 ah (decide ((List.length y9.1.entries:Int)>(0:Int))) (some true) (aj (er w0 w1 y8.1) fun y10=>
 ah (y10.2 !=(0:Int)) (
 ah (y10.2==(13:Int)) (aj (bo y10.1 w0) fun y11=>some y11) (some false)) (aj (bB y10.1.fs y8.1.ino) fun y12=>aj (cu y10.1) fun y13=>aj (bB y13 y8.1.ino) fun y14=>aj (gG y10.1) fun y15=>
 ah (!y15) (some false) (
 ah (y12.2==y14.2) (some false) (
 ah y12.2 (
 ah (!(y12.1.data==y9.1.data)) (some false) (
 ah y14.2 (
 ah (!(y14.1.data==y9.1.data)) (some false) (
 ah (decide ((List.length y10.1.fs.aa:Int)>(List.length w0.fs.aa:Int))) (some false) (aj (eY y10.1.fs) fun y16=>
 ah (y16 !=(0:Int)) (some false) (aj (cH y10.1 w1 (⟨y8.1.dir,y8.1.name,(0:Int)⟩:ax)) fun y17=>
 ah (y17.2==(0:Int)) (aj (bo y17.1 w0) fun y18=>some y18) (some false))))) (
 ah (decide ((List.length y10.1.fs.aa:Int)>(List.length w0.fs.aa:Int))) (some false) (aj (eY y10.1.fs) fun y19=>
 ah (y19 !=(0:Int)) (some false) (aj (cH y10.1 w1 (⟨y8.1.dir,y8.1.name,(0:Int)⟩:ax)) fun y20=>
 ah (y20.2==(0:Int)) (aj (bo y20.1 w0) fun y21=>some y21) (some false)))))) (
 ah y14.2 (
 ah (!(y14.1.data==y9.1.data)) (some false) (
 ah (decide ((List.length y10.1.fs.aa:Int)>(List.length w0.fs.aa:Int))) (some false) (aj (eY y10.1.fs) fun y22=>
 ah (y22 !=(0:Int)) (some false) (aj (cH y10.1 w1 (⟨y8.1.dir,y8.1.name,(0:Int)⟩:ax)) fun y23=>
 ah (y23.2==(0:Int)) (aj (bo y23.1 w0) fun y24=>some y24) (some false))))) (
 ah (decide ((List.length y10.1.fs.aa:Int)>(List.length w0.fs.aa:Int))) (some false) (aj (eY y10.1.fs) fun y25=>
 ah (y25 !=(0:Int)) (some false) (aj (cH y10.1 w1 (⟨y8.1.dir,y8.1.name,(0:Int)⟩:ax)) fun y26=>
 ah (y26.2==(0:Int)) (aj (bo y26.1 w0) fun y27=>some y27) (some false)))))))))))))))))
noncomputable def lg (w0:al) (w1:Int) (w2:Str) (w3:Str):Option (Bool):=
 aj (bu) fun y1=>
 ah (!y1) (aj (bu) fun y2=>some y2) (aj (j1 w0) fun y3=>
 ah (!y3) (aj (bu) fun y4=>some y4) (
 ah (decide (w1<(1:Int))) (aj (bu) fun y5=>some y5) (
 ah (decide (w1>(1073741823:Int))) (aj (bu) fun y6=>some y6) (
 ah (decide ((List.length w2:Int)>(1000:Int))) (aj (bu) fun y7=>some y7) (
 ah (decide ((List.length w3:Int)>(1000:Int))) (aj (bu) fun y8=>some y8) (aj (iP w0.fs w2) fun y9=>aj (bB w0.fs y9.1.ino) fun y10=>
 ah (y9.2 !=(0:Int)) (some true) (
 ah (y9.1.name==([] :Str)) (some true) (
 ah (!y10.2) (some true) (
 ah (decide ((List.length y10.1.entries:Int)>(0:Int))) (some true) (aj (er w0 w1 y9.1) fun y11=>aj (iP y11.1.fs w3) fun y12=>aj (bB y11.1.fs y12.1.ino) fun y13=>
 ah (y11.2 !=(0:Int)) (some true) (
 ah (y12.2 !=(0:Int)) (some true) (
 ah (y12.1.name==([] :Str)) (some true) (
 ah (!y13.2) (some true) (
 ah (decide ((List.length y13.1.entries:Int)>(0:Int))) (some true) (aj (er y11.1 (IntKind.i64.wrap (w1+(1:Int))) y12.1) fun y14=>
 ah (y14.2 !=(0:Int)) (some (y14.2==(13:Int))) (aj (cH y14.1 (IntKind.i64.wrap (w1+(1:Int))) (⟨y12.1.dir,y12.1.name,(0:Int)⟩:ax)) fun y15=>aj (cH y15.1 w1 (⟨y9.1.dir,y9.1.name,(0:Int)⟩:ax)) fun y16=>
 ah (y15.2==(0:Int)) (
 ah (y16.2==(0:Int)) (aj (gG y14.1) fun y17=>
 ah y17 (aj (bo y15.1 y11.1) fun y18=>
 ah y18 (aj (bo y16.1 w0) fun y19=>some y19) (some false)) (some false)) (some false)) (some false)))))))))))))))))
noncomputable def jv (w0:al) (w1:Int) (w2:Str) (w3:Int):Option (Bool):=
 aj (bu) fun y1=>
 ah (!y1) (aj (bu) fun y2=>some y2) (aj (j1 w0) fun y3=>
 ah (!y3) (aj (bu) fun y4=>some y4) (
 ah (decide (w1<(1:Int))) (aj (bu) fun y5=>some y5) (
 ah (decide (w1>(1073741824:Int))) (aj (bu) fun y6=>some y6) (
 ah (decide ((List.length w2:Int)>(1000:Int))) (aj (bu) fun y7=>some y7) (aR (([] :List ae).length+w0.fs.aa.length) (aR (([] :List Kept).length+w0.ao.kept.length) (aR (([] :List ae).length+w0.ao.aJ.length) (aj (iP w0.fs w2) fun y8=>aj (bB w0.fs y8.1.ino) fun y9=>
 ah (y8.2==(0:Int)) (
 ah (!(y8.1.name==([] :Str))) (
 ah y9.2 (
 ah ((List.length y9.1.entries:Int)==(0:Int)) (aj (er (⟨(⟨w0.fs.aq,w0.fs.au,w0.fs.next,(([] :List ae)++w0.fs.aa)⟩:Fs),(⟨(([] :List Kept)++w0.ao.kept),(([] :List ae)++w0.ao.aJ)⟩:ay)⟩:al) w1 y8.1) fun y10=>
 ah (!y9.2) (aj (cH (⟨(⟨w0.fs.aq,w0.fs.au,w0.fs.next,(([] :List ae)++w0.fs.aa)⟩:Fs),(⟨(([] :List Kept)++w0.ao.kept),(([] :List ae)++w0.ao.aJ)⟩:ay)⟩:al) w1 y8.1) fun y11=>aj (cw (⟨(⟨w0.fs.aq,w0.fs.au,w0.fs.next,(([] :List ae)++w0.fs.aa)⟩:Fs),(⟨(([] :List Kept)++w0.ao.kept),(([] :List ae)++w0.ao.aJ)⟩:ay)⟩:al) w1) fun y12=>aj (bB w0.fs w3) fun y13=>
 ah y13.2 (
 ah (y13.1.kind==(1:Int)) (aj (cr (⟨(⟨w0.fs.aq,w0.fs.au,w0.fs.next,(([] :List ae)++w0.fs.aa)⟩:Fs),(⟨(([] :List Kept)++w0.ao.kept),(([] :List ae)++w0.ao.aJ)⟩:ay)⟩:al) w1 w3) fun y14=>aj (bM (⟨(⟨w0.fs.aq,w0.fs.au,w0.fs.next,(([] :List ae)++w0.fs.aa)⟩:Fs),(⟨(([] :List Kept)++w0.ao.kept),(([] :List ae)++w0.ao.aJ)⟩:ay)⟩:al)) fun y15=>aj (bo (⟨(⟨w0.fs.aq,w0.fs.au,w0.fs.next,(([] :List ae)++w0.fs.aa)⟩:Fs),(⟨(([] :List Kept)++w0.ao.kept),(([] :List ae)++w0.ao.aJ)⟩:ay)⟩:al) w0) fun y16=>some y16) (aj (bM (⟨(⟨w0.fs.aq,w0.fs.au,w0.fs.next,(([] :List ae)++w0.fs.aa)⟩:Fs),(⟨(([] :List Kept)++w0.ao.kept),(([] :List ae)++w0.ao.aJ)⟩:ay)⟩:al)) fun y17=>aj (bo (⟨(⟨w0.fs.aq,w0.fs.au,w0.fs.next,(([] :List ae)++w0.fs.aa)⟩:Fs),(⟨(([] :List Kept)++w0.ao.kept),(([] :List ae)++w0.ao.aJ)⟩:ay)⟩:al) w0) fun y18=>some y18)) (aj (bM (⟨(⟨w0.fs.aq,w0.fs.au,w0.fs.next,(([] :List ae)++w0.fs.aa)⟩:Fs),(⟨(([] :List Kept)++w0.ao.kept),(([] :List ae)++w0.ao.aJ)⟩:ay)⟩:al)) fun y19=>aj (bo (⟨(⟨w0.fs.aq,w0.fs.au,w0.fs.next,(([] :List ae)++w0.fs.aa)⟩:Fs),(⟨(([] :List Kept)++w0.ao.kept),(([] :List ae)++w0.ao.aJ)⟩:ay)⟩:al) w0) fun y20=>some y20)) (aj (cw (⟨(⟨w0.fs.aq,w0.fs.au,w0.fs.next,(([] :List ae)++w0.fs.aa)⟩:Fs),(⟨(([] :List Kept)++w0.ao.kept),(([] :List ae)++w0.ao.aJ)⟩:ay)⟩:al) w1) fun y21=>aj (bB w0.fs w3) fun y22=>
 ah y22.2 (
 ah (y22.1.kind==(1:Int)) (aj (cr (⟨(⟨w0.fs.aq,w0.fs.au,w0.fs.next,(([] :List ae)++w0.fs.aa)⟩:Fs),(⟨(([] :List Kept)++w0.ao.kept),(([] :List ae)++w0.ao.aJ)⟩:ay)⟩:al) w1 w3) fun y23=>aj (bM (⟨(⟨w0.fs.aq,w0.fs.au,w0.fs.next,(([] :List ae)++w0.fs.aa)⟩:Fs),(⟨(([] :List Kept)++w0.ao.kept),(([] :List ae)++w0.ao.aJ)⟩:ay)⟩:al)) fun y24=>aj (bo (⟨(⟨w0.fs.aq,w0.fs.au,w0.fs.next,(([] :List ae)++w0.fs.aa)⟩:Fs),(⟨(([] :List Kept)++w0.ao.kept),(([] :List ae)++w0.ao.aJ)⟩:ay)⟩:al) w0) fun y25=>some y25) (aj (bM (⟨(⟨w0.fs.aq,w0.fs.au,w0.fs.next,(([] :List ae)++w0.fs.aa)⟩:Fs),(⟨(([] :List Kept)++w0.ao.kept),(([] :List ae)++w0.ao.aJ)⟩:ay)⟩:al)) fun y26=>aj (bo (⟨(⟨w0.fs.aq,w0.fs.au,w0.fs.next,(([] :List ae)++w0.fs.aa)⟩:Fs),(⟨(([] :List Kept)++w0.ao.kept),(([] :List ae)++w0.ao.aJ)⟩:ay)⟩:al) w0) fun y27=>some y27)) (aj (bM (⟨(⟨w0.fs.aq,w0.fs.au,w0.fs.next,(([] :List ae)++w0.fs.aa)⟩:Fs),(⟨(([] :List Kept)++w0.ao.kept),(([] :List ae)++w0.ao.aJ)⟩:ay)⟩:al)) fun y28=>aj (bo (⟨(⟨w0.fs.aq,w0.fs.au,w0.fs.next,(([] :List ae)++w0.fs.aa)⟩:Fs),(⟨(([] :List Kept)++w0.ao.kept),(([] :List ae)++w0.ao.aJ)⟩:ay)⟩:al) w0) fun y29=>some y29))) (
 ah (!y9.2) (aj (cH (⟨(⟨w0.fs.aq,w0.fs.au,w0.fs.next,(([] :List ae)++w0.fs.aa)⟩:Fs),(⟨(([] :List Kept)++w0.ao.kept),(([] :List ae)++w0.ao.aJ)⟩:ay)⟩:al) w1 y8.1) fun y30=>aj (cw (⟨(⟨w0.fs.aq,w0.fs.au,w0.fs.next,(([] :List ae)++w0.fs.aa)⟩:Fs),(⟨(([] :List Kept)++w0.ao.kept),(([] :List ae)++w0.ao.aJ)⟩:ay)⟩:al) w1) fun y31=>aj (bB w0.fs w3) fun y32=>
 ah y32.2 (
 ah (y32.1.kind==(1:Int)) (aj (cr (⟨(⟨w0.fs.aq,w0.fs.au,w0.fs.next,(([] :List ae)++w0.fs.aa)⟩:Fs),(⟨(([] :List Kept)++w0.ao.kept),(([] :List ae)++w0.ao.aJ)⟩:ay)⟩:al) w1 w3) fun y33=>aj (bM (⟨(⟨w0.fs.aq,w0.fs.au,w0.fs.next,(([] :List ae)++w0.fs.aa)⟩:Fs),(⟨(([] :List Kept)++w0.ao.kept),(([] :List ae)++w0.ao.aJ)⟩:ay)⟩:al)) fun y34=>aj (bo (⟨(⟨w0.fs.aq,w0.fs.au,w0.fs.next,(([] :List ae)++w0.fs.aa)⟩:Fs),(⟨(([] :List Kept)++w0.ao.kept),(([] :List ae)++w0.ao.aJ)⟩:ay)⟩:al) w0) fun y35=>some y35) (aj (bM (⟨(⟨w0.fs.aq,w0.fs.au,w0.fs.next,(([] :List ae)++w0.fs.aa)⟩:Fs),(⟨(([] :List Kept)++w0.ao.kept),(([] :List ae)++w0.ao.aJ)⟩:ay)⟩:al)) fun y36=>aj (bo (⟨(⟨w0.fs.aq,w0.fs.au,w0.fs.next,(([] :List ae)++w0.fs.aa)⟩:Fs),(⟨(([] :List Kept)++w0.ao.kept),(([] :List ae)++w0.ao.aJ)⟩:ay)⟩:al) w0) fun y37=>some y37)) (aj (bM (⟨(⟨w0.fs.aq,w0.fs.au,w0.fs.next,(([] :List ae)++w0.fs.aa)⟩:Fs),(⟨(([] :List Kept)++w0.ao.kept),(([] :List ae)++w0.ao.aJ)⟩:ay)⟩:al)) fun y38=>aj (bo (⟨(⟨w0.fs.aq,w0.fs.au,w0.fs.next,(([] :List ae)++w0.fs.aa)⟩:Fs),(⟨(([] :List Kept)++w0.ao.kept),(([] :List ae)++w0.ao.aJ)⟩:ay)⟩:al) w0) fun y39=>some y39)) (aj (cw (⟨(⟨w0.fs.aq,w0.fs.au,w0.fs.next,(([] :List ae)++w0.fs.aa)⟩:Fs),(⟨(([] :List Kept)++w0.ao.kept),(([] :List ae)++w0.ao.aJ)⟩:ay)⟩:al) w1) fun y40=>aj (bB w0.fs w3) fun y41=>
 ah y41.2 (
 ah (y41.1.kind==(1:Int)) (aj (cr (⟨(⟨w0.fs.aq,w0.fs.au,w0.fs.next,(([] :List ae)++w0.fs.aa)⟩:Fs),(⟨(([] :List Kept)++w0.ao.kept),(([] :List ae)++w0.ao.aJ)⟩:ay)⟩:al) w1 w3) fun y42=>aj (bM (⟨(⟨w0.fs.aq,w0.fs.au,w0.fs.next,(([] :List ae)++w0.fs.aa)⟩:Fs),(⟨(([] :List Kept)++w0.ao.kept),(([] :List ae)++w0.ao.aJ)⟩:ay)⟩:al)) fun y43=>aj (bo (⟨(⟨w0.fs.aq,w0.fs.au,w0.fs.next,(([] :List ae)++w0.fs.aa)⟩:Fs),(⟨(([] :List Kept)++w0.ao.kept),(([] :List ae)++w0.ao.aJ)⟩:ay)⟩:al) w0) fun y44=>some y44) (aj (bM (⟨(⟨w0.fs.aq,w0.fs.au,w0.fs.next,(([] :List ae)++w0.fs.aa)⟩:Fs),(⟨(([] :List Kept)++w0.ao.kept),(([] :List ae)++w0.ao.aJ)⟩:ay)⟩:al)) fun y45=>aj (bo (⟨(⟨w0.fs.aq,w0.fs.au,w0.fs.next,(([] :List ae)++w0.fs.aa)⟩:Fs),(⟨(([] :List Kept)++w0.ao.kept),(([] :List ae)++w0.ao.aJ)⟩:ay)⟩:al) w0) fun y46=>some y46)) (aj (bM (⟨(⟨w0.fs.aq,w0.fs.au,w0.fs.next,(([] :List ae)++w0.fs.aa)⟩:Fs),(⟨(([] :List Kept)++w0.ao.kept),(([] :List ae)++w0.ao.aJ)⟩:ay)⟩:al)) fun y47=>aj (bo (⟨(⟨w0.fs.aq,w0.fs.au,w0.fs.next,(([] :List ae)++w0.fs.aa)⟩:Fs),(⟨(([] :List Kept)++w0.ao.kept),(([] :List ae)++w0.ao.aJ)⟩:ay)⟩:al) w0) fun y48=>some y48)))) (
 ah (!y9.2) (aj (cH (⟨(⟨w0.fs.aq,w0.fs.au,w0.fs.next,(([] :List ae)++w0.fs.aa)⟩:Fs),(⟨(([] :List Kept)++w0.ao.kept),(([] :List ae)++w0.ao.aJ)⟩:ay)⟩:al) w1 y8.1) fun y49=>aj (cw (⟨(⟨w0.fs.aq,w0.fs.au,w0.fs.next,(([] :List ae)++w0.fs.aa)⟩:Fs),(⟨(([] :List Kept)++w0.ao.kept),(([] :List ae)++w0.ao.aJ)⟩:ay)⟩:al) w1) fun y50=>aj (bB w0.fs w3) fun y51=>
 ah y51.2 (
 ah (y51.1.kind==(1:Int)) (aj (cr (⟨(⟨w0.fs.aq,w0.fs.au,w0.fs.next,(([] :List ae)++w0.fs.aa)⟩:Fs),(⟨(([] :List Kept)++w0.ao.kept),(([] :List ae)++w0.ao.aJ)⟩:ay)⟩:al) w1 w3) fun y52=>aj (bM (⟨(⟨w0.fs.aq,w0.fs.au,w0.fs.next,(([] :List ae)++w0.fs.aa)⟩:Fs),(⟨(([] :List Kept)++w0.ao.kept),(([] :List ae)++w0.ao.aJ)⟩:ay)⟩:al)) fun y53=>aj (bo (⟨(⟨w0.fs.aq,w0.fs.au,w0.fs.next,(([] :List ae)++w0.fs.aa)⟩:Fs),(⟨(([] :List Kept)++w0.ao.kept),(([] :List ae)++w0.ao.aJ)⟩:ay)⟩:al) w0) fun y54=>some y54) (aj (bM (⟨(⟨w0.fs.aq,w0.fs.au,w0.fs.next,(([] :List ae)++w0.fs.aa)⟩:Fs),(⟨(([] :List Kept)++w0.ao.kept),(([] :List ae)++w0.ao.aJ)⟩:ay)⟩:al)) fun y55=>aj (bo (⟨(⟨w0.fs.aq,w0.fs.au,w0.fs.next,(([] :List ae)++w0.fs.aa)⟩:Fs),(⟨(([] :List Kept)++w0.ao.kept),(([] :List ae)++w0.ao.aJ)⟩:ay)⟩:al) w0) fun y56=>some y56)) (aj (bM (⟨(⟨w0.fs.aq,w0.fs.au,w0.fs.next,(([] :List ae)++w0.fs.aa)⟩:Fs),(⟨(([] :List Kept)++w0.ao.kept),(([] :List ae)++w0.ao.aJ)⟩:ay)⟩:al)) fun y57=>aj (bo (⟨(⟨w0.fs.aq,w0.fs.au,w0.fs.next,(([] :List ae)++w0.fs.aa)⟩:Fs),(⟨(([] :List Kept)++w0.ao.kept),(([] :List ae)++w0.ao.aJ)⟩:ay)⟩:al) w0) fun y58=>some y58)) (aj (cw (⟨(⟨w0.fs.aq,w0.fs.au,w0.fs.next,(([] :List ae)++w0.fs.aa)⟩:Fs),(⟨(([] :List Kept)++w0.ao.kept),(([] :List ae)++w0.ao.aJ)⟩:ay)⟩:al) w1) fun y59=>aj (bB w0.fs w3) fun y60=>
 ah y60.2 (
 ah (y60.1.kind==(1:Int)) (aj (cr (⟨(⟨w0.fs.aq,w0.fs.au,w0.fs.next,(([] :List ae)++w0.fs.aa)⟩:Fs),(⟨(([] :List Kept)++w0.ao.kept),(([] :List ae)++w0.ao.aJ)⟩:ay)⟩:al) w1 w3) fun y61=>aj (bM (⟨(⟨w0.fs.aq,w0.fs.au,w0.fs.next,(([] :List ae)++w0.fs.aa)⟩:Fs),(⟨(([] :List Kept)++w0.ao.kept),(([] :List ae)++w0.ao.aJ)⟩:ay)⟩:al)) fun y62=>aj (bo (⟨(⟨w0.fs.aq,w0.fs.au,w0.fs.next,(([] :List ae)++w0.fs.aa)⟩:Fs),(⟨(([] :List Kept)++w0.ao.kept),(([] :List ae)++w0.ao.aJ)⟩:ay)⟩:al) w0) fun y63=>some y63) (aj (bM (⟨(⟨w0.fs.aq,w0.fs.au,w0.fs.next,(([] :List ae)++w0.fs.aa)⟩:Fs),(⟨(([] :List Kept)++w0.ao.kept),(([] :List ae)++w0.ao.aJ)⟩:ay)⟩:al)) fun y64=>aj (bo (⟨(⟨w0.fs.aq,w0.fs.au,w0.fs.next,(([] :List ae)++w0.fs.aa)⟩:Fs),(⟨(([] :List Kept)++w0.ao.kept),(([] :List ae)++w0.ao.aJ)⟩:ay)⟩:al) w0) fun y65=>some y65)) (aj (bM (⟨(⟨w0.fs.aq,w0.fs.au,w0.fs.next,(([] :List ae)++w0.fs.aa)⟩:Fs),(⟨(([] :List Kept)++w0.ao.kept),(([] :List ae)++w0.ao.aJ)⟩:ay)⟩:al)) fun y66=>aj (bo (⟨(⟨w0.fs.aq,w0.fs.au,w0.fs.next,(([] :List ae)++w0.fs.aa)⟩:Fs),(⟨(([] :List Kept)++w0.ao.kept),(([] :List ae)++w0.ao.aJ)⟩:ay)⟩:al) w0) fun y67=>some y67)))) (aj (cw (⟨(⟨w0.fs.aq,w0.fs.au,w0.fs.next,(([] :List ae)++w0.fs.aa)⟩:Fs),(⟨(([] :List Kept)++w0.ao.kept),(([] :List ae)++w0.ao.aJ)⟩:ay)⟩:al) w1) fun y68=>aj (bB w0.fs w3) fun y69=>
 ah y69.2 (
 ah (y69.1.kind==(1:Int)) (aj (cr (⟨(⟨w0.fs.aq,w0.fs.au,w0.fs.next,(([] :List ae)++w0.fs.aa)⟩:Fs),(⟨(([] :List Kept)++w0.ao.kept),(([] :List ae)++w0.ao.aJ)⟩:ay)⟩:al) w1 w3) fun y70=>aj (bM (⟨(⟨w0.fs.aq,w0.fs.au,w0.fs.next,(([] :List ae)++w0.fs.aa)⟩:Fs),(⟨(([] :List Kept)++w0.ao.kept),(([] :List ae)++w0.ao.aJ)⟩:ay)⟩:al)) fun y71=>aj (bo (⟨(⟨w0.fs.aq,w0.fs.au,w0.fs.next,(([] :List ae)++w0.fs.aa)⟩:Fs),(⟨(([] :List Kept)++w0.ao.kept),(([] :List ae)++w0.ao.aJ)⟩:ay)⟩:al) w0) fun y72=>some y72) (aj (bM (⟨(⟨w0.fs.aq,w0.fs.au,w0.fs.next,(([] :List ae)++w0.fs.aa)⟩:Fs),(⟨(([] :List Kept)++w0.ao.kept),(([] :List ae)++w0.ao.aJ)⟩:ay)⟩:al)) fun y73=>aj (bo (⟨(⟨w0.fs.aq,w0.fs.au,w0.fs.next,(([] :List ae)++w0.fs.aa)⟩:Fs),(⟨(([] :List Kept)++w0.ao.kept),(([] :List ae)++w0.ao.aJ)⟩:ay)⟩:al) w0) fun y74=>some y74)) (aj (bM (⟨(⟨w0.fs.aq,w0.fs.au,w0.fs.next,(([] :List ae)++w0.fs.aa)⟩:Fs),(⟨(([] :List Kept)++w0.ao.kept),(([] :List ae)++w0.ao.aJ)⟩:ay)⟩:al)) fun y75=>aj (bo (⟨(⟨w0.fs.aq,w0.fs.au,w0.fs.next,(([] :List ae)++w0.fs.aa)⟩:Fs),(⟨(([] :List Kept)++w0.ao.kept),(([] :List ae)++w0.ao.aJ)⟩:ay)⟩:al) w0) fun y76=>some y76))) (aj (cw (⟨(⟨w0.fs.aq,w0.fs.au,w0.fs.next,(([] :List ae)++w0.fs.aa)⟩:Fs),(⟨(([] :List Kept)++w0.ao.kept),(([] :List ae)++w0.ao.aJ)⟩:ay)⟩:al) w1) fun y77=>aj (bB w0.fs w3) fun y78=>
 ah y78.2 (
 ah (y78.1.kind==(1:Int)) (aj (cr (⟨(⟨w0.fs.aq,w0.fs.au,w0.fs.next,(([] :List ae)++w0.fs.aa)⟩:Fs),(⟨(([] :List Kept)++w0.ao.kept),(([] :List ae)++w0.ao.aJ)⟩:ay)⟩:al) w1 w3) fun y79=>aj (bM (⟨(⟨w0.fs.aq,w0.fs.au,w0.fs.next,(([] :List ae)++w0.fs.aa)⟩:Fs),(⟨(([] :List Kept)++w0.ao.kept),(([] :List ae)++w0.ao.aJ)⟩:ay)⟩:al)) fun y80=>aj (bo (⟨(⟨w0.fs.aq,w0.fs.au,w0.fs.next,(([] :List ae)++w0.fs.aa)⟩:Fs),(⟨(([] :List Kept)++w0.ao.kept),(([] :List ae)++w0.ao.aJ)⟩:ay)⟩:al) w0) fun y81=>some y81) (aj (bM (⟨(⟨w0.fs.aq,w0.fs.au,w0.fs.next,(([] :List ae)++w0.fs.aa)⟩:Fs),(⟨(([] :List Kept)++w0.ao.kept),(([] :List ae)++w0.ao.aJ)⟩:ay)⟩:al)) fun y82=>aj (bo (⟨(⟨w0.fs.aq,w0.fs.au,w0.fs.next,(([] :List ae)++w0.fs.aa)⟩:Fs),(⟨(([] :List Kept)++w0.ao.kept),(([] :List ae)++w0.ao.aJ)⟩:ay)⟩:al) w0) fun y83=>some y83)) (aj (bM (⟨(⟨w0.fs.aq,w0.fs.au,w0.fs.next,(([] :List ae)++w0.fs.aa)⟩:Fs),(⟨(([] :List Kept)++w0.ao.kept),(([] :List ae)++w0.ao.aJ)⟩:ay)⟩:al)) fun y84=>aj (bo (⟨(⟨w0.fs.aq,w0.fs.au,w0.fs.next,(([] :List ae)++w0.fs.aa)⟩:Fs),(⟨(([] :List Kept)++w0.ao.kept),(([] :List ae)++w0.ao.aJ)⟩:ay)⟩:al) w0) fun y85=>some y85))))))))))
end Go.Eng
set_option linter.unusedSimpArgs false
set_option linter.unusedVariables false
namespace Go.Eng
open Go
@[simp] theorem aE {α:Type} (x y:Option α):ah true x y=x:=rfl
@[simp] theorem az {α:Type} (x y:Option α):ah false x y=y:=rfl
@[simp] theorem ai {α β:Type} (a:α) (f:α→Option β):aj (some a) f=f a:=rfl
theorem aV {α:Type} (b:Bool) (x y:Option α):ah b x y=if b then x else y:=by cases b<;>rfl
theorem bY {α:Type} {n:Nat} {x:Option α} (h:n≤LIM):aR n x=x:=by
 unfold aR;rw[Nat.ble_eq_true_of_le h]
theorem b9 {n:Int} (h1: -9223372036854775808≤n) (h2:n<9223372036854775808):IntKind.i64.wrap n=n:=by
 simp [IntKind.wrap,IntKind.bits,IntKind.signed];omega
theorem bc {k:Nat} (h:k<4611686018427387904):IntKind.i64.wrap ((k:Int)+1)=((k+1:Nat):Int):=by
 rw[b9 (by omega) (by omega)];rfl
theorem tG {α:Type} {l:List α} {k:Nat} (h:k<l.length):∃x,l[k]? =some x∧l.drop k=x::l.drop (k+1):=
 ⟨l[k],by simp,List.drop_eq_getElem_cons h⟩
theorem dec_lt {k n:Nat} (h:k<n):decide ((k:Int)<(n:Int))=true:=by simp;omega
theorem b6 {k n:Nat} (h:n≤k):decide ((k:Int)<(n:Int))=false:=by simp;omega
theorem bS (k:Nat):decide (0≤(k:Int))=true:=by simp
theorem F7 {k n:Nat} (h:k<n):decide (0≤(k:Int)∧(k:Int)<(n:Int))=true:=by simp;omega
theorem toNat_cast (k:Nat):Int.toNat (k:Int)=k:=Int.toNat_natCast k
theorem gN {n:Nat} (h:n≤1099511627775):n<bg:=Nat.lt_of_lt_of_le (by omega) qP
end Go.Eng
namespace Go.Eng
def dV {α S R:Type} (G:Nat→α→S→(S→Option R)→Option R) (E:S→Option R):Nat→List α→S→Option R
 |_, [],s=>E s
 |k,x::r,s=>G k x s (dV G E (k+1) r)
theorem E7 {α S R:Type} {l:List α} (F:Nat→Int→S→Option R) (G:Nat→α→S→(S→Option R)→Option R) (E:S→Option R) (hl:l.length≤1099511627775)
 (h1:∀(n k:Nat) (x:α) (s:S),k<l.length→l[k]? =some x→F (n+1) (k:Int) s=G k x s (F n ((k+1:Nat):Int))) (h0:∀(n:Nat) (s:S),F (n+1) (l.length:Int) s=E s):
 ∀(n k:Nat) (s:S),k≤l.length→l.length - k<n→F n (k:Int) s=dV G E k (l.drop k) s:=by
 intro n;induction n with
 |zero=>intro k s _ h;omega
 |succ n ih=>
  intro k s hk hn;by_cases h:k<l.length
  ·obtain⟨x,hx,hd⟩:=tG h
   rw[h1 n k x s h hx,hd];simp only[dV];congr 1;funext s';exact ih (k+1) s' (by omega) (by omega)
  ·have:k=l.length:=by omega
   subst this;rw[h0,List.drop_length];rfl
theorem bZ {α S R:Type} {l:List α} (F:Nat→Int→S→Option R) (G:Nat→α→S→(S→Option R)→Option R) (E:S→Option R) (hl:l.length≤1099511627775)
 (h1:∀(n k:Nat) (x:α) (s:S),k<l.length→l[k]? =some x→F (n+1) (k:Int) s=G k x s (F n ((k+1:Nat):Int))) (h0:∀(n:Nat) (s:S),F (n+1) (l.length:Int) s=E s) (s:S):F bg (0:Int) s=dV G E 0 l s:=
 E7 F G E hl h1 h0 bg 0 s (Nat.zero_le _) (gN (by omega))
end Go.Eng
namespace Go.Eng
theorem kK {α S R:Type} {l:List α} (F:Nat→Int→S→Option R) (Inv:Nat→S→Prop) (P:Option R→Prop) (hl:l.length≤1099511627775)
 (h1:∀(n k:Nat) (x:α) (s:S),k<l.length→l[k]? =some x→Inv k s→(∀s',Inv (k+1) s'→P (F n ((k+1:Nat):Int) s'))→P (F (n+1) (k:Int) s))
 (h0:∀(n:Nat) (s:S),Inv l.length s→P (F (n+1) (l.length:Int) s)) (s:S) (hi:Inv 0 s):P (F bg (0:Int) s):=by
 have key:∀(n k:Nat) (s:S),Inv k s→k≤l.length→l.length - k<n→P (F n (k:Int) s):=by
  intro n;induction n with
  |zero=>intro k s _ _ h;omega
  |succ n ih=>
   intro k s hs hk hn;by_cases h:k<l.length
   ·exact h1 n k l[k] s h (by simp [h]) hs fun s' hs'=>ih (k+1) s' hs' (by omega) (by omega)
   ·have:k=l.length:=by omega
    subst this;exact h0 n s hs
 exact key bg 0 s hi (Nat.zero_le _) (gN (by omega))
end Go.Eng
namespace Go.Eng
theorem aO {α:Type} {b:Bool} {x y:Option α} (h:b=true):ah b x y=x:=by subst h;rfl
theorem bK {α:Type} {b:Bool} {x y:Option α} (h:b=false):ah b x y=y:=by subst h;rfl
theorem DT {a b:Nat} (h:b<a):Nat.ble a b=false:=by
 cases e:Nat.ble a b with
 |false=>rfl
 |true=>exact absurd (Nat.le_of_ble_eq_true e) (by omega)
end Go.Eng
set_option linter.unusedSimpArgs false
set_option linter.unusedVariables false
namespace Go.Eng
open Go
def kc (b:UInt8):Bool:=b==47||b==0
def fD (s:Str):Bool:= !(s== [])&&(decide (s.length≤255)&&(!(s.any kc)&&(!(s==[46])&& !(s==[46,46]))))
theorem xt {R:Type} (k:Nat→Option R):∀(m i n:Nat),i≤n→n<i+m→splitK (n:Int) m i k=k n
 |0,i,n,h1,h2=>by omega
 |m+1,i,n,h1,h2=>by
  unfold splitK;by_cases h:n=i
  ·subst h;simp
  ·have e:((n:Int)==(i:Int))=false:=by rw[beq_eq_false_iff_ne];omega
   rw[e,az];exact xt k m (i+1) n (by omega) (by omega)
theorem US (b:UInt8):b.toNat<256:=b.toNat_lt
theorem ur (b:UInt8) (n:Nat) (h:n<256):Nat.beq b.toNat n=(b==UInt8.ofNat n):=by
 rw[Bool.eq_iff_iff,beq_iff_eq];constructor
 ·intro e
  have e:=Nat.eq_of_beq_eq_true e;apply UInt8.toNat_inj.1;rw[UInt8.toNat_ofNat',e];omega
 ·intro e
  subst e;rw[UInt8.toNat_ofNat'];have:n%2^8=n:=Nat.mod_eq_of_lt h;rw[this];simp
theorem jH (b:UInt8) (n:Nat) (h:n<256):((b.toNat:Int)==(n:Int))=(b==UInt8.ofNat n):=by
 rw[←ur b n h,Bool.eq_iff_iff];constructor
 ·intro e
  have e:=beq_iff_eq.1 e;have:b.toNat=n:=by omega
  rw[this];simp
 ·intro e
  have e:=Nat.eq_of_beq_eq_true e;rw[e];simp
theorem mQ {α R:Type} (p:α→Bool) (kr:Nat→α→Option R) (k0:Option R) (r:Option R) (hr:∀k x,kr k x=r):∀(l:List α) (k:Nat) (s:Unit),dV (fun k x s K=>if p x then kr k x else K s) (fun _=>k0) k l s=if l.any p then r else k0
 | [],_,_=>rfl
 |x::l,k,s=>by
  simp only[dV,List.any_cons];by_cases h:p x=true
  ·simp [h,hr]
  ·simp [h,mQ p kr k0 r hr l]
theorem I0 {s:Str} (hl:s.length≤1099511627775):cn s (fun z6=>some (decide (z6≥(0:Int)))) (some false) bg (0:Int)=some (s.any kc):=by
 refine(bZ (l:=s) (fun n i (_:Unit)=>cn s (fun z6=>some (decide (z6≥(0:Int)))) (some false) n i) (fun k x s K=>if kc x then some (decide ((k:Int)≥(0:Int))) else K s) (fun _=>some false) hl (fun n k x u hk hx=> ?_) (fun n u=> ?_) ()).trans ?_
 ·simp only[cn]
  rw[dec_lt hk,bS,toNat_cast,hx,bc (by omega)];simp only[aE,ai,aV,if_true];rw[xt _ _ _ _ (Nat.zero_le _) (by have:=US x;omega),ur x 0 (by omega),ur x 47 (by omega)];unfold kc;rw[Bool.or_comm];rfl
 ·simp only[cn]
  rw[b6 (Nat.le_refl _)];rfl
 ·rw[mQ kc _ _ (some true) (fun k x=>by simp)]
  cases s.any kc<;>rfl
theorem Ai {s:Str} {i:Nat} {x:UInt8} (h:s[i]? =some x):
 (x.toNat<128∧bz s i=(x.toNat,1))∨(128≤x.toNat∧128≤(bz s i).1∧1≤(bz s i).2∧∀j,j<(bz s i).2→∃b,s[i+j]? =some b∧128≤b.toNat):=by
 have hget:∀k b,s[i+k]? =some b→(ByteArray.get! ⟨s.toArray⟩ (i+k))=b:=by
  intro k b hb;have:(ByteArray.mk s.toArray).get! (i+k)=s.toArray[i+k]! :=rfl;rw[this];simp [hb]
 have hx0:(ByteArray.get! ⟨s.toArray⟩ (i+0))=x:=hget 0 x (by simpa using h);have hcont:∀k,((decide (i+k<(ByteArray.mk s.toArray).size)&&((ByteArray.get! ⟨s.toArray⟩ (i+k)).toNat/64==2))=true)→∃b,s[i+k]? =some b∧128≤b.toNat:=by
  intro k hk;simp only[Bool.and_eq_true,decide_eq_true_eq,beq_iff_eq] at hk;obtain⟨h1,h2⟩:=hk;have h1':i+k<s.length:=h1;refine⟨s[i+k],by simp [h1'], ?_⟩;rw[hget k s[i+k] (by simp [h1'])] at h2;omega
 unfold bz Utf8.decode;simp only[hx0];by_cases hb:x.toNat<128
 ·left;exact⟨hb,by rw[if_pos hb]⟩
 ·right
  refine⟨by omega, ?_⟩;rw[if_neg hb];have base:∃b,s[i+0]? =some b∧128≤b.toNat:=⟨x,by simpa using h,by omega⟩;have one:128≤((Utf8.runeError,1):Nat×Nat).1∧1≤((Utf8.runeError,1):Nat×Nat).2∧∀j,j<((Utf8.runeError,1):Nat×Nat).2→∃b,s[i+j]? =some b∧128≤b.toNat:=by
   refine⟨by decide,by decide,fun j hj=> ?_⟩;have:j=0:=by simp at hj;exact hj
   subst this;exact base
  split
  ·rename_i hc
   simp only[Bool.and_eq_true] at hc;have c1:=hcont 1 (by simpa using hc.2);split
   ·rename_i hv
    refine⟨by simpa using hv,by show 1≤2;omega,fun j hj=> ?_⟩;simp at hj;have:j=0∨j=1:=by omega
    rcases this with rfl|rfl
    ·exact base
    ·exact c1
   ·exact one
  ·split
   ·rename_i hc
    simp only[Bool.and_eq_true] at hc;have c1:=hcont 1 (by simpa using hc.1.2);have c2:=hcont 2 (by simpa using hc.2);split
    ·rename_i hv
     simp only[Bool.and_eq_true,decide_eq_true_eq] at hv;refine⟨by simp;omega,by show 1≤3;omega,fun j hj=> ?_⟩;simp at hj;have:j=0∨j=1∨j=2:=by omega
     rcases this with rfl|rfl|rfl
     ·exact base
     ·exact c1
     ·exact c2
    ·exact one
   ·split
    ·rename_i hc
     simp only[Bool.and_eq_true] at hc;have c1:=hcont 1 (by simpa using hc.1.1.2);have c2:=hcont 2 (by simpa using hc.1.2);have c3:=hcont 3 (by simpa using hc.2);split
     ·rename_i hv
      simp only[Bool.and_eq_true,decide_eq_true_eq] at hv;refine⟨by simp;omega,by show 1≤4;omega,fun j hj=> ?_⟩;simp at hj;have:j=0∨j=1∨j=2∨j=3:=by omega
      rcases this with rfl|rfl|rfl|rfl
      ·exact base
      ·exact c1
      ·exact c2
      ·exact c3
     ·exact one
    ·exact one
theorem sf {s:Str}:∀(w i:Nat),(∀j,j<w→∃b,s[i+j]? =some b∧128≤b.toNat)→(s.drop i).any kc=(s.drop (i+w)).any kc
 |0,i,_=>rfl
 |w+1,i,h=>by
  obtain⟨b,hb,h128⟩:=h 0 (by omega);simp only[Nat.add_zero] at hb;have hi:=(List.getElem?_eq_some_iff.1 hb).1;obtain⟨x,hx,hd⟩:=tG hi;rw[hb] at hx;cases hx;rw[hd,List.any_cons,sf w (i+1) (fun j hj=>by
   obtain⟨b,h1,h2⟩:=h (j+1) (by omega);exact⟨b,by rw[←h1];congr 1;omega,h2⟩)]
  have hn:kc b=false:=by
   unfold kc;simp only[Bool.or_eq_false_iff,beq_eq_false_iff_ne];constructor<;>(intro e;subst e;revert h128;decide)
  rw[hn,Bool.false_or];congr 2;omega
theorem zc {s:Str} {w i:Nat} (h1:1≤w) (h:∀j,j<w→∃b,s[i+j]? =some b∧128≤b.toNat):i+w≤s.length:=by
 obtain⟨b,hb,_⟩:=h (w - 1) (by omega);have:=(List.getElem?_eq_some_iff.1 hb).1;omega
theorem Gt:∃m,bg=m+3:=⟨bg - 3,by have:=qP;omega⟩
theorem Kh {r:Nat} (h:128≤r):(2=(Utf8.encode (r:Int)).data.toList.length∧∃a b:UInt8,(Utf8.encode (r:Int)).data.toList=[a,b]∧128≤b.toNat)∨3≤(Utf8.encode (r:Int)).data.toList.length:=by
 unfold Utf8.encode;have hc:128≤(if Utf8.valid (r:Int) then (r:Int).toNat else Utf8.runeError):=by
  split
  ·simpa using h
  ·decide
 generalize (if Utf8.valid (r:Int) then (r:Int).toNat else Utf8.runeError)=c at hc;simp only;rw[if_neg (by omega)];split
 ·left
  refine⟨rfl,_,_,rfl, ?_⟩;rw[UInt8.toNat_ofNat'];omega
 ·right
  split
  ·exact Nat.le_refl 3
  ·show 3≤4;omega
theorem W8 {R:Type} {e:Str} (kr:Int→Option R) (k1:Option R) (r:Option R) (h:(∃a b:UInt8,e=[a,b]∧128≤b.toNat)∨3≤e.length) (hs:e.length≤10) (h1:kr (-1)=r) (h2:k1=r):
 bI e (IntKind.i64.wrap ((List.length e:Int) - (1:Int))) (IntKind.i64.wrap ((List.length e:Int) - (1:Int))) kr k1 bg=r:=by
 obtain⟨m,hm⟩:=Gt;rw[hm];simp only[bI];rcases h with⟨a,b,rfl,hb⟩ |h
 ·have e1:IntKind.i64.wrap ((List.length [a,b]:Int) - (1:Int))=1:=by rfl
  rw[e1];have e2:((UInt8.toNat (0:UInt8):Int) !=(UInt8.toNat b:Int))=true:=by
   rw[bne_iff_ne];simp;omega
  have e3:Lib.indexByte ([] :Str) ((UInt8.toNat b:Int)).toNat.toUInt8= -1:=rfl;show ah true (ah true (aj (some (0:UInt8)) fun c31=>ah true (aj (some b) fun c32=>_) none) none) k1=r;simp only[aE,ai,e2];exact h1
 ·rw[b9 (by omega) (by omega)]
  have:decide (((e.length:Int) - 1)<(2:Int))=false:=by simp;omega
  rw[this,az,h2]
theorem QN {R:Type} (kr:Int→Option R) (k9:Option R):cD ([47,0]:Str) kr k9 bg 0=k9:=by
 obtain⟨m,hm⟩:=Gt;rw[hm];rfl
theorem OR (r:Int):(Utf8.encode r).data.toList.length≤10:=by
 unfold Utf8.encode;simp only;generalize (if Utf8.valid r then r.toNat else Utf8.runeError)=c;split
 ·show 1≤10;omega
 ·split
  ·show 2≤10;omega
  ·split
   ·show 3≤10;omega
   ·show 4≤10;omega
theorem FJ {s:Str} (hl:s.length≤1099511627775):∀(n i:Nat),i≤s.length→s.length - i<n→aI s (fun z67=>some (decide (z67≥(0:Int)))) (some false) n i=some ((s.drop i).any kc):=by
 intro n;induction n with
 |zero=>intro i _ h;omega
 |succ n ih=>
  intro i hi hn;simp only[aI];by_cases hlt:i<s.length
  ·have e0:Nat.blt i s.length=true:=by simpa [Nat.blt_eq] using hlt
   rw[e0,aE];obtain⟨x,hx,hd⟩:=tG hlt;rcases Ai hx with⟨h1,h2⟩ |⟨h1,h2,h3,h4⟩
   ·rw[h2]
    simp only;have a1:decide ((0:Int)≤(x.toNat:Int))=true:=by simp
    have a2:decide ((x.toNat:Int)<(128:Int))=true:=by simp;omega
    rw[a1,a2,aE,aE];have a3:IntKind.u8.wrap (x.toNat:Int)=(x.toNat:Int):=by
     simp [IntKind.wrap,IntKind.bits,IntKind.signed];omega
    rw[a3];unfold stringslite_IndexByte;have a4:((x.toNat:Int).toNat.toUInt8)=x:=by
     apply UInt8.toNat_inj.1;simp
    rw[a4,ai,hd,List.any_cons];by_cases hb:kc x=true
    ·rw[hb]
     have:Lib.indexByte ([47,0]:Str) x≥0:=by
      unfold kc at hb;simp at hb;rcases hb with rfl|rfl<;>decide
     rw[decide_eq_true this];simp
    ·have hb':kc x=false:=by simpa using hb
     rw[hb'];have:¬Lib.indexByte ([47,0]:Str) x≥0:=by
      unfold kc at hb';simp only[Bool.or_eq_false_iff,beq_eq_false_iff_ne] at hb';have e1:((47:UInt8)==x)=false:=by rw[beq_eq_false_iff_ne];exact fun e=>hb'.1 e.symm
      have e2:((0:UInt8)==x)=false:=by rw[beq_eq_false_iff_ne];exact fun e=>hb'.2 e.symm
      simp [Lib.indexByte,e1,e2]
     rw[decide_eq_false this,az,ih (i+1) (by omega) (by omega),Bool.false_or]
   ·have hw:=zc h3 h4
    have hrec:=ih (i+(bz s i).2) hw (by omega);rw[←sf _ _ h4] at hrec;generalize hr:aI s (fun z67=>some (decide (z67≥(0:Int)))) (some false) n (i+(bz s i).2)=rc at hrec;subst hrec;have b1:decide ((0:Int)≤((bz s i).1:Int))=true:=by simp
    have b2:decide (((bz s i).1:Int)<(128:Int))=false:=by simp;omega
    have he:=Kh h2;have he':(∃a b:UInt8,(Utf8.encode ((bz s i).1:Int)).data.toList=[a,b]∧128≤b.toNat)∨3≤(Utf8.encode ((bz s i).1:Int)).data.toList.length:=by
     rcases he with⟨_,h⟩ |h
     ·exact Or.inl h
     ·exact Or.inr h
    have h5:∀kr:Int→Option Bool,kr (-1)=some ((s.drop i).any kc)→bI (Utf8.encode ((bz s i).1:Int)).data.toList (IntKind.i64.wrap ((List.length (Utf8.encode ((bz s i).1:Int)).data.toList:Int) - (1:Int))) (IntKind.i64.wrap ((List.length (Utf8.encode ((bz s i).1:Int)).data.toList:Int) - (1:Int))) kr (some ((s.drop i).any kc)) bg=some ((s.drop i).any kc):=
     fun kr hk=>W8 _ _ _ he' (OR _) hk rfl
    rw[b1,b2,aE,az];simp only[QN];rw[h5 _ (by rfl)];simp only[aV,if_true]
    repeat' split
    all_goals rfl
  ·have e0:Nat.blt i s.length=false:=by
    cases h:Nat.blt i s.length with
    |false=>rfl
    |true=>exact absurd (Nat.le_of_ble_eq_true h) (by omega)
   rw[e0,az,List.drop_eq_nil_of_le (by omega)];rfl
theorem mV {s:Str} (hl:s.length≤1099511627775):fk s=some (s.any kc):=by
 unfold fk;rw[I0 hl,FJ hl bg 0 (Nat.zero_le _) (gN (by omega))];simp [aV]
theorem sE {s:Str} (hl:s.length≤1099511627775):kU s=some (fD s):=by
 unfold kU fD;rw[mV hl];have e:decide ((List.length s:Int)≤(255:Int))=decide (s.length≤255):=by
  rw[decide_eq_decide];omega
 rw[e];simp only[ai,aV];cases (!(s==([] :Str)))<;>cases decide (s.length≤255)<;>cases (s.any kc)<;>cases (!(s==([46]:Str)))<;>simp
theorem kx {s:Str} (hl:s.length≤1099511627775):js s=some (fD s):=by
 unfold js;refine(bZ (l:=s) (fun n i (_:Unit)=>gS s (some false) (ah (decide ((List.length s:Int)≥(1:Int))) (ah (decide ((List.length s:Int)≤(255:Int))) (ah (!(s==([46]:Str))) (some (!(s==([46,46]:Str)))) (some false)) (some false)) (some false)) n i) (fun k x s K=>if kc x then some false else K s) (fun _=>(ah (decide ((List.length s:Int)≥(1:Int))) (ah (decide ((List.length s:Int)≤(255:Int))) (ah (!(s==([46]:Str))) (some (!(s==([46,46]:Str)))) (some false)) (some false)) (some false))) hl (fun n k x u hk hx=> ?_) (fun n u=> ?_) ()).trans ?_
 ·simp only[gS]
  rw[dec_lt hk,bS,toNat_cast,hx,bc (by omega)];simp only[aE,ai,aV,if_true];have e1:((UInt8.toNat x:Int)==(47:Int))=(x==47):=jH x 47 (by omega);have e2:((UInt8.toNat x:Int)==(0:Int))=(x==0):=jH x 0 (by omega);rw[e1,e2];unfold kc;cases (x==47)<;>simp
 ·simp only[gS]
  rw[b6 (Nat.le_refl _)];rfl
 ·rw[mQ kc _ _ (some false) (fun k x=>rfl)]
  unfold fD;have e:decide ((List.length s:Int)≤(255:Int))=decide (s.length≤255):=by
   rw[decide_eq_decide];omega
  have e':decide ((List.length s:Int)≥(1:Int))= !(s==([] :Str)):=by
   cases s with
   |nil=>rfl
   |cons a l=>
    have:(a::l==([] :Str))=false:=rfl;rw[this];simp;omega
  rw[e,e'];simp only[aV];cases (!(s==([] :Str)))<;>cases decide (s.length≤255)<;>cases (s.any kc)<;>cases (!(s==([46]:Str)))<;>simp
abbrev ltS (a b:Str):Bool:=Op.bytesLess a b
theorem k7:∀a:Str,ltS a a=false
 | [] =>rfl
 |a::l=>by
  have:=k7 l;simp only[ltS] at this;simp [ltS,Op.bytesLess,this,UInt8.lt_irrefl]
theorem oQ:∀{a b c:Str},ltS a b=true→ltS b c=true→ltS a c=true
 | [], [],_,h,_=>by simp [ltS,Op.bytesLess] at h
 | [],_::_, [],_,h=>by simp [ltS,Op.bytesLess] at h
 | [],_::_,_::_,_,_=>rfl
 |_::_, [],_,h,_=>by simp [ltS,Op.bytesLess] at h
 |_::_,_::_, [],_,h=>by simp [ltS,Op.bytesLess] at h
 |a::l,b::m,c::k,h1,h2=>by
  simp only[ltS,Op.bytesLess,Bool.or_eq_true,decide_eq_true_eq,Bool.and_eq_true,beq_iff_eq] at h1 h2⊢;rcases h1 with h1|⟨rfl,h1⟩
  ·rcases h2 with h2|⟨rfl,h2⟩
   ·exact Or.inl (UInt8.lt_trans h1 h2)
   ·exact Or.inl h1
  ·rcases h2 with h2|⟨rfl,h2⟩
   ·exact Or.inl h2
   ·exact Or.inr ⟨rfl,oQ h1 h2⟩
theorem xR:∀a b:Str,ltS a b=true∨a=b∨ltS b a=true
 | [], [] =>Or.inr (Or.inl rfl)
 | [],_::_=>Or.inl rfl
 |_::_, [] =>Or.inr (Or.inr rfl)
 |a::l,b::m=>by
  simp only[ltS,Op.bytesLess,Bool.or_eq_true,decide_eq_true_eq,Bool.and_eq_true,beq_iff_eq,List.cons.injEq];rcases UInt8.lt_or_lt_of_ne (a:=a) (b:=b) |> fun h=>(Decidable.em (a=b)).elim (fun e=>Or.inr e) (fun e=>Or.inl (h e)) with h|rfl
  ·rcases h with h|h
   ·exact Or.inl (Or.inl h)
   ·exact Or.inr (Or.inr (Or.inl h))
  ·rcases xR l m with h|rfl|h
   ·exact Or.inl (Or.inr ⟨rfl,h⟩)
   ·exact Or.inr (Or.inl ⟨rfl,rfl⟩)
   ·exact Or.inr (Or.inr (Or.inr ⟨rfl,h⟩))
theorem xB {a b:Str} (h:ltS a b=true):ltS b a=false:=by
 cases h':ltS b a
 ·rfl
 ·have:=oQ h h';rw[k7] at this;cases this
theorem Nk {a b:Str} (h:ltS a b=true):a≠b:=by intro e;subst e;rw[k7] at h;cases h
theorem uA:∀a b:Str,decide (Lib.compareBytes a b<0)=ltS a b
 | [], [] =>rfl
 | [],_::_=>rfl
 |_::_, [] =>rfl
 |a::l,b::m=>by
  simp only[Lib.compareBytes,ltS,Op.bytesLess];by_cases h:a<b
  ·simp [h]
  ·by_cases h':b<a
   ·have hne:(a==b)=false:=by rw[beq_eq_false_iff_ne];intro e;subst e;exact UInt8.lt_irrefl _ h'
    simp [h,h',hne]
   ·have he:a=b:=UInt8.le_antisymm (UInt8.not_lt.1 h') (UInt8.not_lt.1 h)
    subst he;have:=uA l m;simp only[if_neg h,decide_eq_false h,beq_self_eq_true,Bool.true_and,Bool.false_or];exact this
theorem tM:∀a b:Str,(Lib.compareBytes a b==0)=(a==b)
 | [], [] =>rfl
 | [],_::_=>rfl
 |_::_, [] =>rfl
 |a::l,b::m=>by
  simp only[Lib.compareBytes];by_cases h:a<b
  ·have hne:(a==b)=false:=by rw[beq_eq_false_iff_ne];intro e;subst e;exact UInt8.lt_irrefl _ h
   rw[if_pos h];have:(a::l==b::m)=false:=by rw[beq_eq_false_iff_ne] at hne⊢;intro e;cases e;exact hne rfl
   rw[this];rfl
  ·rw[if_neg h]
   by_cases h':b<a
   ·have hne:(a==b)=false:=by rw[beq_eq_false_iff_ne];intro e;subst e;exact UInt8.lt_irrefl _ h'
    rw[if_pos h'];have:(a::l==b::m)=false:=by rw[beq_eq_false_iff_ne] at hne⊢;intro e;cases e;exact hne rfl
    rw[this];rfl
   ·rw[if_neg h']
    have he:a=b:=UInt8.le_antisymm (UInt8.not_lt.1 h') (UInt8.not_lt.1 h);subst he;rw[tM l m,Bool.eq_iff_iff];simp
end Go.Eng
set_option linter.unusedSimpArgs false
set_option linter.unusedVariables false
namespace Go.Eng
open Go
structure LO {κ:Type} (lt:κ→κ→Bool):Prop where
 irrefl:∀a,lt a a=false
 trans:∀{a b c},lt a b=true→lt b c=true→lt a c=true
 tri:∀a b,lt a b=true∨a=b∨lt b a=true
def ltI (a b:Int):Bool:=decide (a<b)
theorem loI:LO ltI where
 irrefl a:=by simp [ltI]
 trans h1 h2:=by simp only[ltI,decide_eq_true_eq] at*;omega
 tri a b:=by simp only[ltI,decide_eq_true_eq];omega
section
set_option linter.unusedSectionVars false
variable {α κ:Type} [DecidableEq κ] {lt:κ→κ→Bool} {key:α→κ}
def cU (lt:κ→κ→Bool) (key:α→κ) (l:List α):Prop:=l.Pairwise fun x y=>lt (key x) (key y)=true
def dy (lt:κ→κ→Bool) (key:α→κ) (k:κ):List α→Nat
 | [] =>0
 |x::l=>if lt (key x) k then dy lt key k l+1 else 0
def b5 (key:α→κ) (k:κ) (l:List α):Option α:=l.find? fun x=>decide (key x=k)
def iF (lt:κ→κ→Bool) (key:α→κ) (x:α):List α→List α
 | [] =>[x]
 |y::l=>if lt (key x) (key y) then x::y::l else y::iF lt key x l
def dZ (key:α→κ) (k:κ) (l:List α):List α:=l.filter fun y=> !decide (key y=k)
def nt (lt:κ→κ→Bool) (key:α→κ) (x:α) (l:List α):List α:=iF lt key x (dZ key (key x) l)
theorem LO.asymm (O:LO lt) {a b:κ} (h:lt a b=true):lt b a=false:=by
 cases h':lt b a
 ·rfl
 ·have:=O.trans h h';rw[O.irrefl] at this;cases this
theorem LO.ne (O:LO lt) {a b:κ} (h:lt a b=true):a≠b:=by intro e;subst e;rw[O.irrefl] at h;cases h
theorem lX {k:κ} (l:List α):dy lt key k l≤l.length:=by
 induction l with
 |nil=>exact Nat.le_refl _
 |cons x l ih=>
  simp only[dy];split<;>simp only[List.length_cons]<;>omega
theorem oP {k:κ}:∀{l:List α} {j:Nat} {x:α},j<dy lt key k l→l[j]? =some x→lt (key x) k=true
 | [],j,x,h,_=>by simp [dy] at h
 |y::l,j,x,h,hx=>by
  simp only[dy] at h;split at h
  ·rename_i hy
   cases j with
   |zero=>simp at hx;subst hx;exact hy
   |succ j=>exact oP (l:=l) (j:=j) (by omega) (by simpa using hx)
  ·omega
theorem qA (O:LO lt) {k:κ}:∀{l:List α} {j:Nat} {x:α},cU lt key l→dy lt key k l≤j→l[j]? =some x→lt (key x) k=false
 | [],j,x,_,_,hx=>by simp at hx
 |y::l,j,x,hs,h,hx=>by
  simp only[dy] at h;unfold cU at hs;rw[List.pairwise_cons] at hs;split at h
  ·cases j with
   |zero=>omega
   |succ j=>exact qA O (l:=l) (j:=j) hs.2 (by omega) (by simpa using hx)
  ·rename_i hy
   cases j with
   |zero=>simp at hx;subst hx;simpa using hy
   |succ j=>
    have h2:x∈l:=List.mem_of_getElem? (by simpa using hx);cases h':lt (key x) k
    ·rfl
    ·have:=O.trans (hs.1 x h2) h'
     exact absurd this hy
theorem Ha (O:LO lt) {k:κ}:∀{l:List α},cU lt key l→(∀x∈l,lt k (key x)=true)→b5 key k l=none:=by
 intro l _ h;unfold b5;rw[List.find?_eq_none];intro x hx;have:=O.ne (h x hx);simp;exact fun e=>this e.symm
theorem jk (O:LO lt) {k:κ}:∀{l:List α},cU lt key l→b5 key k l=aj l[dy lt key k l]? fun x=>if key x=k then some x else none
 | [],_=>rfl
 |y::l,hs=>by
  unfold cU at hs;rw[List.pairwise_cons] at hs;have ih:=jk O (k:=k) hs.2;simp only[dy];by_cases hy:lt (key y) k=true
  ·rw[if_pos hy]
   simp only[List.getElem?_cons_succ];rw[←ih];unfold b5;rw[List.find?_cons];simp [O.ne hy]
  ·rw[if_neg hy]
   simp only[List.getElem?_cons_zero,ai];unfold b5;rw[List.find?_cons];by_cases he:key y=k
   ·simp [he]
   ·simp only[he,decide_false,if_false]
    have h1:lt k (key y)=true:=by
     rcases O.tri (key y) k with h|h|h
     ·exact absurd h hy
     ·exact absurd h he
     ·exact h
    exact Ha O hs.2 (fun x hx=>O.trans h1 (hs.1 x hx))
theorem na {k:κ} {l:List α} (h:b5 key k l=none):dZ key k l=l:=by
 unfold b5 at h;unfold dZ;rw[List.find?_eq_none] at h;rw[List.filter_eq_self];intro x hx;have:=h x hx;simpa using this
theorem Aq (O:LO lt) {k:κ} {l:List α} (h:∀x∈l,lt k (key x)=true):dZ key k l=l:=by
 unfold dZ;rw[List.filter_eq_self];intro x hx;have:=O.ne (h x hx);simp;exact fun e=>this e.symm
theorem oM (O:LO lt) {k:κ}:∀{l:List α} {x:α},cU lt key l→l[dy lt key k l]? =some x→key x=k→dZ key k l=l.take (dy lt key k l)++l.drop (dy lt key k l+1)
 | [],x,_,h,_=>by simp at h
 |y::l,x,hs,h,hk=>by
  unfold cU at hs;rw[List.pairwise_cons] at hs;simp only[dy] at h⊢;by_cases hy:lt (key y) k=true
  ·rw[if_pos hy] at h⊢
   have:=oM O (k:=k) hs.2 (by simpa using h) hk;simp only[List.take_succ_cons,List.drop_succ_cons,List.cons_append];rw[←this];unfold dZ;rw[List.filter_cons];simp [O.ne hy]
  ·rw[if_neg hy] at h⊢
   simp at h;subst h;simp only[List.take_zero,List.nil_append,List.drop_succ_cons,List.drop_zero,Nat.zero_add];have:=Aq O (key:=key) (l:=l) (k:=k) (fun z hz=>by rw[←hk];exact hs.1 z hz);rw[←this];unfold dZ;rw[List.filter_cons];simp [hk]
theorem Ke (O:LO lt) {x:α}:∀{l:List α},(∀y∈l,lt (key x) (key y)=true)→iF lt key x l=x::l
 | [],_=>rfl
 |y::l,h=>by simp only[iF];rw[if_pos (h y (by simp))]
theorem qw (O:LO lt) {x:α}:∀{l:List α},cU lt key l→b5 key (key x) l=none→nt lt key x l=l.take (dy lt key (key x) l)++x::l.drop (dy lt key (key x) l):=by
 intro l hs hf;unfold nt;rw[na hf];induction l with
 |nil=>rfl
 |cons y l ih=>
  unfold cU at hs;rw[List.pairwise_cons] at hs;have hf':¬key y=key x∧b5 key (key x) l=none:=by
   unfold b5 at hf⊢;rw[List.find?_cons] at hf;split at hf
   ·cases hf
   ·rename_i h;exact⟨by simpa using h,hf⟩
  simp only[dy,iF];by_cases hy:lt (key y) (key x)=true
  ·rw[if_pos hy,O.asymm hy]
   simp only[List.take_succ_cons,List.drop_succ_cons,List.cons_append,Bool.false_eq_true,if_false];rw[ih hs.2 hf'.2]
  ·rw[if_neg hy]
   have h1:lt (key x) (key y)=true:=by
    rcases O.tri (key y) (key x) with h|h|h
    ·exact absurd h hy
    ·exact absurd h hf'.1
    ·exact h
   rw[if_pos h1];rfl
theorem wO (O:LO lt) {x:α}:∀{a b:List α},(∀y∈a,lt (key y) (key x)=true)→iF lt key x (a++b)=a++iF lt key x b
 | [],b,_=>rfl
 |y::a,b,h=>by
  simp only[List.cons_append,iF];rw[O.asymm (h y (by simp))];simp only[Bool.false_eq_true,if_false];rw[wO O (fun z hz=>h z (by simp [hz]))]
theorem zw (O:LO lt) {x y:α} {l:List α} (hs:cU lt key l) (h:l[dy lt key (key x) l]? =some y) (hk:key y=key x):nt lt key x l=l.set (dy lt key (key x) l) x:=by
 unfold nt;rw[oM O hs h hk];have hc:=(List.getElem?_eq_some_iff.1 h).1;have h1:∀z∈l.take (dy lt key (key x) l),lt (key z) (key x)=true:=by
  intro z hz;obtain⟨j,hj,e⟩:=List.getElem_of_mem hz;have hj':j<dy lt key (key x) l:=by simp at hj;omega
  exact oP hj' (by rw[←e];simp)
 have h2:∀z∈l.drop (dy lt key (key x) l+1),lt (key x) (key z)=true:=by
  intro z hz;unfold cU at hs;rw[←List.take_append_drop (dy lt key (key x) l) l,List.pairwise_append] at hs;have hd:=hs.2.1;rw[List.drop_eq_getElem_cons hc,List.pairwise_cons] at hd;have:=hd.1 z hz;rw[List.getElem?_eq_getElem hc] at h;cases h;rw[←hk];exact this
 rw[wO O h1,Ke O h2,List.set_eq_take_append_cons_drop,if_pos hc]
theorem qK {x y:α}:∀{l:List α},y∈iF lt key x l↔y=x∨y∈l
 | [] =>by simp [iF]
 |z::l=>by
  simp only[iF];split
  ·simp
  ·simp only[List.mem_cons,qK (l:=l)]
   constructor
   ·rintro(h|h|h)
    ·exact Or.inr (Or.inl h)
    ·exact Or.inl h
    ·exact Or.inr (Or.inr h)
   ·rintro(h|h|h)
    ·exact Or.inr (Or.inl h)
    ·exact Or.inl h
    ·exact Or.inr (Or.inr h)
theorem fp {k:κ} {y:α} {l:List α}:y∈dZ key k l↔y∈l∧key y≠k:=by
 unfold dZ;rw[List.mem_filter];simp
theorem AJ {x y:α} {l:List α}:y∈nt lt key x l↔y=x∨(y∈l∧key y≠key x):=by
 unfold nt;rw[qK,fp]
theorem fi {k:κ} {l:List α} (h:cU lt key l):cU lt key (dZ key k l):=List.Pairwise.filter _ h
theorem rZ (O:LO lt) {x:α}:∀{l:List α},cU lt key l→(∀y∈l,key y≠key x)→cU lt key (iF lt key x l)
 | [],_,_=>by unfold cU iF;simp
 |y::l,hs,hn=>by
  unfold cU at hs⊢;rw[List.pairwise_cons] at hs;simp only[iF];split
  ·rename_i h
   rw[List.pairwise_cons];refine⟨fun z hz=> ?_,List.pairwise_cons.2 hs⟩;simp only[List.mem_cons] at hz;rcases hz with rfl|hz
   ·exact h
   ·exact O.trans h (hs.1 z hz)
  ·rename_i h
   rw[List.pairwise_cons];refine⟨fun z hz=> ?_,rZ O hs.2 (fun z hz=>hn z (by simp [hz]))⟩;rw[qK] at hz;rcases hz with rfl|hz
   ·rcases O.tri (key y) (key z) with h'|h'|h'
    ·exact h'
    ·exact absurd h' (hn y (by simp))
    ·exact absurd h' h
   ·exact hs.1 z hz
theorem oZ (O:LO lt) {x:α} {l:List α} (h:cU lt key l):cU lt key (nt lt key x l):=
 rZ O (fi h) (fun y hy=>(fp.1 hy).2)
theorem rH {x:α} {k:κ} {l:List α} (hn:∀y∈l,key y≠key x):b5 key k (iF lt key x l)=if key x=k then some x else b5 key k l:=by
 induction l with
 |nil=>
  unfold b5 iF;simp only[List.find?_cons,List.find?_nil];by_cases h:key x=k<;>simp [h]
 |cons y l ih=>
  simp only[iF];split
  ·unfold b5
   rw[List.find?_cons];by_cases h:key x=k<;>simp [h]
  ·have ih:=ih (fun z hz=>hn z (by simp [hz]))
   unfold b5 at ih⊢;rw[List.find?_cons,List.find?_cons,ih];by_cases h:key y=k
   ·have:¬key x=k:=by intro e;exact hn y (by simp) (h.trans e.symm)
    simp [h,this]
   ·simp [h]
theorem mZ {k k':κ} {l:List α}:b5 key k' (dZ key k l)=if k=k' then none else b5 key k' l:=by
 unfold b5 dZ;rw[List.find?_filter];by_cases h:k=k'
 ·subst h
  rw[if_pos rfl,List.find?_eq_none];intro x _;simp
 ·rw[if_neg h]
  congr 1;funext x;by_cases hx:key x=k'
  ·have:¬key x=k:=by intro e;exact h (e.symm.trans hx)
   simp [hx];intro e;exact h e.symm
  ·simp [hx]
theorem wK {x:α} {k:κ} {l:List α}:b5 key k (nt lt key x l)=if key x=k then some x else b5 key k l:=by
 unfold nt;rw[rH (fun y hy=>(fp.1 hy).2),mZ];by_cases h:key x=k<;>simp [h]
theorem b8 {k:κ} {l:List α} {x:α} (h:b5 key k l=some x):x∈l∧key x=k:=by
 unfold b5 at h;exact⟨List.mem_of_find?_eq_some h,by have:=List.find?_some h;simpa using this⟩
theorem kI (O:LO lt) {l:List α} {x:α} (hs:cU lt key l) (h:x∈l):b5 key (key x) l=some x:=by
 induction l with
 |nil=>cases h
 |cons y l ih=>
  unfold cU at hs;rw[List.pairwise_cons] at hs;unfold b5 at ih⊢;rw[List.find?_cons];simp only[List.mem_cons] at h;rcases h with rfl|h
  ·simp
  ·have:=O.ne (hs.1 x h)
   simp [this];exact ih hs.2 h
theorem n5 {x:α}:∀l:List α,(iF lt key x l).length=l.length+1
 | [] =>rfl
 |y::l=>by simp only[iF];split<;>simp [n5 l]
theorem dp {k:κ} {l:List α}:(dZ key k l).length≤l.length:=List.length_filter_le _ _
theorem lx {x:α} {l:List α}:(nt lt key x l).length≤l.length+1:=by
 unfold nt;rw[n5];have:=dp (key:=key) (k:=key x) (l:=l);omega
theorem zp (O:LO lt):∀{l m:List α},cU lt key l→cU lt key m→(∀x,x∈l↔x∈m)→l=m
 | [], [],_,_,_=>rfl
 | [],y::m,_,_,h=>by have:=(h y).2 (by simp);cases this
 |x::l, [],_,_,h=>by have:=(h x).1 (by simp);cases this
 |x::l,y::m,hl,hm,h=>by
  unfold cU at hl hm;rw[List.pairwise_cons] at hl hm;have hxy:x=y:=by
   have h1:=(h x).1 (by simp);have h2:=(h y).2 (by simp);simp only[List.mem_cons] at h1 h2;rcases h1 with h1|h1
   ·exact h1
   ·rcases h2 with h2|h2
    ·exact h2.symm
    ·have a:=hm.1 x h1
     have b:=hl.1 y h2;rw[O.asymm a] at b;cases b
  subst hxy;congr 1;refine zp O hl.2 hm.2 fun z=> ?_
  have hz:=h z;simp only[List.mem_cons] at hz;constructor
  ·intro hzl
   rcases hz.1 (Or.inr hzl) with rfl|h
   ·have:=hl.1 z hzl;rw[O.irrefl] at this;cases this
   ·exact h
  ·intro hzm
   rcases hz.2 (Or.inr hzm) with rfl|h
   ·have:=hm.1 z hzm;rw[O.irrefl] at this;cases this
   ·exact h
theorem jP (O:LO lt) {l m:List α} (hl:cU lt key l) (hm:cU lt key m) (h:∀k,b5 key k l=b5 key k m):l=m:=by
 refine zp O hl hm fun x=>⟨fun hx=> ?_,fun hx=> ?_⟩
 ·have:=kI O hl hx
  rw[h] at this;exact(b8 this).1
 ·have:=kI O hm hx
  rw[←h] at this;exact(b8 this).1
end
theorem xW {R:Type} (F:Nat→Int→Int→Option R) (p:Nat→Bool) (len c:Nat) (k0:Int→Option R) (hlen:len≤1099511627775)
 (h1:∀(n lo hi:Nat),lo<hi→hi≤len→F (n+1) (lo:Int) (hi:Int)=if p ((lo+hi)/2) then F n (((lo+hi)/2+1:Nat):Int) (hi:Int) else F n (lo:Int) (((lo+hi)/2:Nat):Int))
 (h0:∀(n lo:Nat),lo≤len→F (n+1) (lo:Int) (lo:Int)=k0 (lo:Int)) (hp:∀j,j<c→p j=true) (hn:∀j,c≤j→j<len→p j=false):
 ∀(n lo hi:Nat),hi - lo<n→lo≤c→c≤hi→hi≤len→F n (lo:Int) (hi:Int)=k0 (c:Int):=by
 intro n;induction n with
 |zero=>intro lo hi h;omega
 |succ n ih=>
  intro lo hi hd hlo hhi hle;by_cases h:lo<hi
  ·rw[h1 n lo hi h hle]
   by_cases hm:(lo+hi)/2<c
   ·rw[hp _ hm]
    exact ih _ _ (by omega) (by omega) hhi hle
   ·rw[hn _ (by omega) (by omega)]
    exact ih _ _ (by omega) hlo (by omega) (by omega)
  ·have e1:lo=c:=by omega
   have e2:hi=c:=by omega
   subst e1;subst e2;exact h0 n _ hle
theorem yE {lo hi:Nat} (h1:lo≤1099511627775) (h2:hi≤1099511627775):(IntKind.i64.wrap (Int.fdiv (IntKind.u64.wrap (IntKind.i64.wrap ((lo:Int)+(hi:Int)))) (2^(min (Int.toNat (1:Int)) (IntKind.bits .u64)))))=(((lo+hi)/2:Nat):Int):=by
 rw[b9 (n:=(lo:Int)+hi) (by omega) (by omega)];have e1:IntKind.u64.wrap ((lo:Int)+(hi:Int))=(lo:Int)+hi:=by
  simp [IntKind.wrap,IntKind.bits,IntKind.signed];omega
 have e2:(2:Int)^(min (Int.toNat (1:Int)) (IntKind.bits .u64))=2:=by decide
 rw[e1,e2,Int.fdiv_eq_ediv_of_nonneg _ (by omega)];rw[b9 (by omega) (by omega)];omega
end Go.Eng
