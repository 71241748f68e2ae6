/- A part of the proofs of the laws of this seat: the engine that reads the program's code, plain functions, or facts of the program's functions. Conditions: none. -/
import Derived.Test.YtcilfbaaaipbcaaGreatE4
import Derived.Test.YtcilfbaaaipbcaaGreatP1
set_option linter.unusedSectionVars false
set_option linter.unusedVariables false
set_option linter.unusedSimpArgs false
set_option linter.unnecessarySimpa false
set_option linter.unusedVariables false
set_option maxRecDepth 100000
namespace Go.Eng
open Go
noncomputable def ek {R:Type} (x2:List Kept) (x3:List Kept) (x4:Int) (kr:Option R) (k0:Option R):Nat→Int→Option R
 |0,_=>none
 |n+1,x5=>
  ah (decide (x5<x4)) (
  ah (decide (0≤x5)) (aj x2[Int.toNat x5]? fun e9=>
  ah (decide (0≤x5)) (aj x3[Int.toNat x5]? fun e10=>
  ah (!((e9.slot==e10.slot)&&((e9.ino==e10.ino)&&((e9.content==e10.content)&&(e9.data==e10.data))))) ((kr)) ((ek x2 x3 x4 kr k0 n (IntKind.i64.wrap (x5+(1:Int)))))) (none)) (none)) ((k0))
noncomputable def fD (w0:ao) (w1:ao):Option (Bool):=
 aj (kV w0.fs w1.fs) fun y1=>
 ah y1 (
 ah ((List.length w0.al.kept:Int) !=(List.length w1.al.kept:Int)) (some false) (ek w0.al.kept w1.al.kept (List.length w0.al.kept:Int) (some false) (aj (kV (⟨0,0,0,w0.al.aI⟩:Fs) (⟨0,0,0,w1.al.aI⟩:Fs)) fun y18=>some y18) bg (0:Int))) (some false)
noncomputable def b4 {R:Type} (x1:List Kept) (x2:Int) (k0:Int→Option R):Nat→Int→Int→Option R
 |0,_,_=>none
 |n+1,x4,x5=>
  ah (decide (x4<x5)) (
  ah (decide ((1:Int)<0)) (none) (
  ah (decide (0≤(IntKind.i64.wrap (Int.fdiv (IntKind.u64.wrap (IntKind.i64.wrap (x4+x5))) (2^(min (Int.toNat (1:Int)) (IntKind.bits .u64))))))) (aj x1[Int.toNat (IntKind.i64.wrap (Int.fdiv (IntKind.u64.wrap (IntKind.i64.wrap (x4+x5))) (2^(min (Int.toNat (1:Int)) (IntKind.bits .u64)))))]? fun e6=>
  ah (e6.slot !=e6.slot) (
  ah (x2 !=x2) ((b4 x1 x2 k0 n x4 (IntKind.i64.wrap (Int.fdiv (IntKind.u64.wrap (IntKind.i64.wrap (x4+x5))) (2^(min (Int.toNat (1:Int)) (IntKind.bits .u64))))))) ((b4 x1 x2 k0 n (IntKind.i64.wrap ((IntKind.i64.wrap (Int.fdiv (IntKind.u64.wrap (IntKind.i64.wrap (x4+x5))) (2^(min (Int.toNat (1:Int)) (IntKind.bits .u64)))))+(1:Int))) x5))) (
  ah (x2 !=x2) ((b4 x1 x2 k0 n x4 (IntKind.i64.wrap (Int.fdiv (IntKind.u64.wrap (IntKind.i64.wrap (x4+x5))) (2^(min (Int.toNat (1:Int)) (IntKind.bits .u64))))))) (
  ah (decide (e6.slot<x2)) ((b4 x1 x2 k0 n (IntKind.i64.wrap ((IntKind.i64.wrap (Int.fdiv (IntKind.u64.wrap (IntKind.i64.wrap (x4+x5))) (2^(min (Int.toNat (1:Int)) (IntKind.bits .u64)))))+(1:Int))) x5)) (
  ah (decide (e6.slot>x2)) ((b4 x1 x2 k0 n x4 (IntKind.i64.wrap (Int.fdiv (IntKind.u64.wrap (IntKind.i64.wrap (x4+x5))) (2^(min (Int.toNat (1:Int)) (IntKind.bits .u64))))))) ((b4 x1 x2 k0 n x4 (IntKind.i64.wrap (Int.fdiv (IntKind.u64.wrap (IntKind.i64.wrap (x4+x5))) (2^(min (Int.toNat (1:Int)) (IntKind.bits .u64))))))))))) (none))) ((k0 x4))
noncomputable def ie (w0:(List Kept)) (w1:Int):Option (Int×Bool):=
 b4 w0 w1 (fun z11=>
 ah (decide (z11<(List.length w0:Int))) (
 ah (decide (0≤z11)) (aj w0[Int.toNat z11]? fun e12=>
 ah (e12.slot !=e12.slot) (
 ah (w1 !=w1) (some (z11,true)) (some (z11,false))) (
 ah (w1 !=w1) (some (z11,false)) (
 ah (decide (e12.slot<w1)) (some (z11,false)) (
 ah (decide (e12.slot>w1)) (some (z11,false)) (some (z11,true)))))) (none)) (some (z11,false))) bg (0:Int) (List.length w0:Int)
noncomputable def ix (w0:Kept):Option (Int):=
 some w0.slot
noncomputable def gr (w0:ao) (w1:Int):Option (Kept×Bool):=
 aj (ie w0.al.kept w1) fun y1=>
 ah (!y1.2) (some ((⟨0,0,false, []⟩:Kept),false)) (
 ah (decide (0≤y1.1)) (aj w0.al.kept[Int.toNat y1.1]? fun e2=>some (e2,true)) (none))
noncomputable def bT {R:Type} (x1:List ae) (x2:Int) (k0:Int→Option R):Nat→Int→Int→Option R
 |0,_,_=>none
 |n+1,x4,x5=>
  ah (decide (x4<x5)) (
  ah (decide ((1:Int)<0)) (none) (
  ah (decide (0≤(IntKind.i64.wrap (Int.fdiv (IntKind.u64.wrap (IntKind.i64.wrap (x4+x5))) (2^(min (Int.toNat (1:Int)) (IntKind.bits .u64))))))) (aj x1[Int.toNat (IntKind.i64.wrap (Int.fdiv (IntKind.u64.wrap (IntKind.i64.wrap (x4+x5))) (2^(min (Int.toNat (1:Int)) (IntKind.bits .u64)))))]? fun e6=>
  ah (e6.ino !=e6.ino) (
  ah (x2 !=x2) ((bT x1 x2 k0 n x4 (IntKind.i64.wrap (Int.fdiv (IntKind.u64.wrap (IntKind.i64.wrap (x4+x5))) (2^(min (Int.toNat (1:Int)) (IntKind.bits .u64))))))) ((bT x1 x2 k0 n (IntKind.i64.wrap ((IntKind.i64.wrap (Int.fdiv (IntKind.u64.wrap (IntKind.i64.wrap (x4+x5))) (2^(min (Int.toNat (1:Int)) (IntKind.bits .u64)))))+(1:Int))) x5))) (
  ah (x2 !=x2) ((bT x1 x2 k0 n x4 (IntKind.i64.wrap (Int.fdiv (IntKind.u64.wrap (IntKind.i64.wrap (x4+x5))) (2^(min (Int.toNat (1:Int)) (IntKind.bits .u64))))))) (
  ah (decide (e6.ino<x2)) ((bT x1 x2 k0 n (IntKind.i64.wrap ((IntKind.i64.wrap (Int.fdiv (IntKind.u64.wrap (IntKind.i64.wrap (x4+x5))) (2^(min (Int.toNat (1:Int)) (IntKind.bits .u64)))))+(1:Int))) x5)) (
  ah (decide (e6.ino>x2)) ((bT x1 x2 k0 n x4 (IntKind.i64.wrap (Int.fdiv (IntKind.u64.wrap (IntKind.i64.wrap (x4+x5))) (2^(min (Int.toNat (1:Int)) (IntKind.bits .u64))))))) ((bT x1 x2 k0 n x4 (IntKind.i64.wrap (Int.fdiv (IntKind.u64.wrap (IntKind.i64.wrap (x4+x5))) (2^(min (Int.toNat (1:Int)) (IntKind.bits .u64))))))))))) (none))) ((k0 x4))
noncomputable def gE (w0:(List ae)) (w1:Int):Option (Int×Bool):=
 bT w0 w1 (fun z11=>
 ah (decide (z11<(List.length w0:Int))) (
 ah (decide (0≤z11)) (aj w0[Int.toNat z11]? fun e12=>
 ah (e12.ino !=e12.ino) (
 ah (w1 !=w1) (some (z11,true)) (some (z11,false))) (
 ah (w1 !=w1) (some (z11,false)) (
 ah (decide (e12.ino<w1)) (some (z11,false)) (
 ah (decide (e12.ino>w1)) (some (z11,false)) (some (z11,true)))))) (none)) (some (z11,false))) bg (0:Int) (List.length w0:Int)
noncomputable def jw (w0:ae):Option (Int):=
 some w0.ino
noncomputable def eE (w0:ao) (w1:Kept):Option (ao):=
 aj (ie w0.al.kept w1.slot) fun y1=>aj (dP w0.al.kept) fun y2=>
 ah (decide (0≤y1.1∧y1.1≤(y2.length:Int))) (
 ah ((List.length [w1]:Int)==(0:Int)) (some (⟨w0.fs,(⟨y2,w0.al.aI⟩:aU)⟩:ao)) (
 ah (y1.1==(List.length y2:Int)) (aQ (y2.length+[w1].length) (some (⟨w0.fs,(⟨(y2++[w1]),w0.al.aI⟩:aU)⟩:ao))) (yH y2.length fun cp3=>
 ah (decide ((IntKind.i64.wrap ((List.length y2:Int)+(List.length [w1]:Int)))>(cp3:Int))) (
 ah (decide (0≤y1.1∧y1.1≤(cp3:Int))) (
 ah (decide (0≤(IntKind.i64.wrap ((IntKind.i64.wrap ((List.length y2:Int)+(List.length [w1]:Int))) - y1.1)))) (aQ ((Int.toNat y1.1)+Int.toNat (IntKind.i64.wrap ((IntKind.i64.wrap ((List.length y2:Int)+(List.length [w1]:Int))) - y1.1))) (
 ah (Nat.ble (0+(Int.toNat y1.1)) y2.length) (
 ah (Nat.blt (cp3 - 0) ((Int.toNat y1.1)+Int.toNat (IntKind.i64.wrap ((IntKind.i64.wrap ((List.length y2:Int)+(List.length [w1]:Int))) - y1.1)))) (
 ah (decide (0≤y1.1∧y1.1≤(((y2.drop 0).take (Int.toNat y1.1)++List.replicate (Int.toNat (IntKind.i64.wrap ((IntKind.i64.wrap ((List.length y2:Int)+(List.length [w1]:Int))) - y1.1))) (⟨0,0,false, []⟩:Kept)).length:Int))) (
 ah (Nat.ble ((Int.toNat y1.1)+(((y2.drop 0).take (Int.toNat y1.1)++List.replicate (Int.toNat (IntKind.i64.wrap ((IntKind.i64.wrap ((List.length y2:Int)+(List.length [w1]:Int))) - y1.1))) (⟨0,0,false, []⟩:Kept)).length - (Int.toNat y1.1))) ((y2.drop 0).take (Int.toNat y1.1)++List.replicate (Int.toNat (IntKind.i64.wrap ((IntKind.i64.wrap ((List.length y2:Int)+(List.length [w1]:Int))) - y1.1))) (⟨0,0,false, []⟩:Kept)).length) (
 ah (decide (0≤(IntKind.i64.wrap (y1.1+(List.length [w1]:Int)))∧(IntKind.i64.wrap (y1.1+(List.length [w1]:Int)))≤((((y2.drop 0).take (Int.toNat y1.1)++List.replicate (Int.toNat (IntKind.i64.wrap ((IntKind.i64.wrap ((List.length y2:Int)+(List.length [w1]:Int))) - y1.1))) (⟨0,0,false, []⟩:Kept)).take (Int.toNat y1.1)++([w1].take (((y2.drop 0).take (Int.toNat y1.1)++List.replicate (Int.toNat (IntKind.i64.wrap ((IntKind.i64.wrap ((List.length y2:Int)+(List.length [w1]:Int))) - y1.1))) (⟨0,0,false, []⟩:Kept)).length - (Int.toNat y1.1))++(((y2.drop 0).take (Int.toNat y1.1)++List.replicate (Int.toNat (IntKind.i64.wrap ((IntKind.i64.wrap ((List.length y2:Int)+(List.length [w1]:Int))) - y1.1))) (⟨0,0,false, []⟩:Kept)).drop (Int.toNat y1.1)).drop (min [w1].length (((y2.drop 0).take (Int.toNat y1.1)++List.replicate (Int.toNat (IntKind.i64.wrap ((IntKind.i64.wrap ((List.length y2:Int)+(List.length [w1]:Int))) - y1.1))) (⟨0,0,false, []⟩:Kept)).length - (Int.toNat y1.1))))).length:Int))) (
 ah (decide (0≤y1.1∧y1.1≤(y2.length:Int))) (
 ah (Nat.ble ((Int.toNat y1.1)+(min (y2.length - (Int.toNat y1.1)) ((((y2.drop 0).take (Int.toNat y1.1)++List.replicate (Int.toNat (IntKind.i64.wrap ((IntKind.i64.wrap ((List.length y2:Int)+(List.length [w1]:Int))) - y1.1))) (⟨0,0,false, []⟩:Kept)).take (Int.toNat y1.1)++([w1].take (((y2.drop 0).take (Int.toNat y1.1)++List.replicate (Int.toNat (IntKind.i64.wrap ((IntKind.i64.wrap ((List.length y2:Int)+(List.length [w1]:Int))) - y1.1))) (⟨0,0,false, []⟩:Kept)).length - (Int.toNat y1.1))++(((y2.drop 0).take (Int.toNat y1.1)++List.replicate (Int.toNat (IntKind.i64.wrap ((IntKind.i64.wrap ((List.length y2:Int)+(List.length [w1]:Int))) - y1.1))) (⟨0,0,false, []⟩:Kept)).drop (Int.toNat y1.1)).drop (min [w1].length (((y2.drop 0).take (Int.toNat y1.1)++List.replicate (Int.toNat (IntKind.i64.wrap ((IntKind.i64.wrap ((List.length y2:Int)+(List.length [w1]:Int))) - y1.1))) (⟨0,0,false, []⟩:Kept)).length - (Int.toNat y1.1))))).length - (Int.toNat (IntKind.i64.wrap (y1.1+(List.length [w1]:Int))))))) y2.length) (
 ah (Nat.ble (Int.toNat (IntKind.i64.wrap (y1.1+(List.length [w1]:Int)))) (((y2.drop 0).take (Int.toNat y1.1)++List.replicate (Int.toNat (IntKind.i64.wrap ((IntKind.i64.wrap ((List.length y2:Int)+(List.length [w1]:Int))) - y1.1))) (⟨0,0,false, []⟩:Kept)).take (Int.toNat y1.1)++([w1].take (((y2.drop 0).take (Int.toNat y1.1)++List.replicate (Int.toNat (IntKind.i64.wrap ((IntKind.i64.wrap ((List.length y2:Int)+(List.length [w1]:Int))) - y1.1))) (⟨0,0,false, []⟩:Kept)).length - (Int.toNat y1.1))++(((y2.drop 0).take (Int.toNat y1.1)++List.replicate (Int.toNat (IntKind.i64.wrap ((IntKind.i64.wrap ((List.length y2:Int)+(List.length [w1]:Int))) - y1.1))) (⟨0,0,false, []⟩:Kept)).drop (Int.toNat y1.1)).drop (min [w1].length (((y2.drop 0).take (Int.toNat y1.1)++List.replicate (Int.toNat (IntKind.i64.wrap ((IntKind.i64.wrap ((List.length y2:Int)+(List.length [w1]:Int))) - y1.1))) (⟨0,0,false, []⟩:Kept)).length - (Int.toNat y1.1))))).length) (
 ah (Nat.ble ((Int.toNat (IntKind.i64.wrap (y1.1+(List.length [w1]:Int))))+(min (y2.length - (Int.toNat y1.1)) ((((y2.drop 0).take (Int.toNat y1.1)++List.replicate (Int.toNat (IntKind.i64.wrap ((IntKind.i64.wrap ((List.length y2:Int)+(List.length [w1]:Int))) - y1.1))) (⟨0,0,false, []⟩:Kept)).take (Int.toNat y1.1)++([w1].take (((y2.drop 0).take (Int.toNat y1.1)++List.replicate (Int.toNat (IntKind.i64.wrap ((IntKind.i64.wrap ((List.length y2:Int)+(List.length [w1]:Int))) - y1.1))) (⟨0,0,false, []⟩:Kept)).length - (Int.toNat y1.1))++(((y2.drop 0).take (Int.toNat y1.1)++List.replicate (Int.toNat (IntKind.i64.wrap ((IntKind.i64.wrap ((List.length y2:Int)+(List.length [w1]:Int))) - y1.1))) (⟨0,0,false, []⟩:Kept)).drop (Int.toNat y1.1)).drop (min [w1].length (((y2.drop 0).take (Int.toNat y1.1)++List.replicate (Int.toNat (IntKind.i64.wrap ((IntKind.i64.wrap ((List.length y2:Int)+(List.length [w1]:Int))) - y1.1))) (⟨0,0,false, []⟩:Kept)).length - (Int.toNat y1.1))))).length - (Int.toNat (IntKind.i64.wrap (y1.1+(List.length [w1]:Int))))))) (((y2.drop 0).take (Int.toNat y1.1)++List.replicate (Int.toNat (IntKind.i64.wrap ((IntKind.i64.wrap ((List.length y2:Int)+(List.length [w1]:Int))) - y1.1))) (⟨0,0,false, []⟩:Kept)).take (Int.toNat y1.1)++([w1].take (((y2.drop 0).take (Int.toNat y1.1)++List.replicate (Int.toNat (IntKind.i64.wrap ((IntKind.i64.wrap ((List.length y2:Int)+(List.length [w1]:Int))) - y1.1))) (⟨0,0,false, []⟩:Kept)).length - (Int.toNat y1.1))++(((y2.drop 0).take (Int.toNat y1.1)++List.replicate (Int.toNat (IntKind.i64.wrap ((IntKind.i64.wrap ((List.length y2:Int)+(List.length [w1]:Int))) - y1.1))) (⟨0,0,false, []⟩:Kept)).drop (Int.toNat y1.1)).drop (min [w1].length (((y2.drop 0).take (Int.toNat y1.1)++List.replicate (Int.toNat (IntKind.i64.wrap ((IntKind.i64.wrap ((List.length y2:Int)+(List.length [w1]:Int))) - y1.1))) (⟨0,0,false, []⟩:Kept)).length - (Int.toNat y1.1))))).length) (some (⟨w0.fs,(⟨((((y2.drop 0).take (Int.toNat y1.1)++List.replicate (Int.toNat (IntKind.i64.wrap ((IntKind.i64.wrap ((List.length y2:Int)+(List.length [w1]:Int))) - y1.1))) (⟨0,0,false, []⟩:Kept)).take (Int.toNat y1.1)++([w1].take (((y2.drop 0).take (Int.toNat y1.1)++List.replicate (Int.toNat (IntKind.i64.wrap ((IntKind.i64.wrap ((List.length y2:Int)+(List.length [w1]:Int))) - y1.1))) (⟨0,0,false, []⟩:Kept)).length - (Int.toNat y1.1))++(((y2.drop 0).take (Int.toNat y1.1)++List.replicate (Int.toNat (IntKind.i64.wrap ((IntKind.i64.wrap ((List.length y2:Int)+(List.length [w1]:Int))) - y1.1))) (⟨0,0,false, []⟩:Kept)).drop (Int.toNat y1.1)).drop (min [w1].length (((y2.drop 0).take (Int.toNat y1.1)++List.replicate (Int.toNat (IntKind.i64.wrap ((IntKind.i64.wrap ((List.length y2:Int)+(List.length [w1]:Int))) - y1.1))) (⟨0,0,false, []⟩:Kept)).length - (Int.toNat y1.1))))).take (Int.toNat (IntKind.i64.wrap (y1.1+(List.length [w1]:Int))))++(((y2.drop (Int.toNat y1.1)).take (min (y2.length - (Int.toNat y1.1)) ((((y2.drop 0).take (Int.toNat y1.1)++List.replicate (Int.toNat (IntKind.i64.wrap ((IntKind.i64.wrap ((List.length y2:Int)+(List.length [w1]:Int))) - y1.1))) (⟨0,0,false, []⟩:Kept)).take (Int.toNat y1.1)++([w1].take (((y2.drop 0).take (Int.toNat y1.1)++List.replicate (Int.toNat (IntKind.i64.wrap ((IntKind.i64.wrap ((List.length y2:Int)+(List.length [w1]:Int))) - y1.1))) (⟨0,0,false, []⟩:Kept)).length - (Int.toNat y1.1))++(((y2.drop 0).take (Int.toNat y1.1)++List.replicate (Int.toNat (IntKind.i64.wrap ((IntKind.i64.wrap ((List.length y2:Int)+(List.length [w1]:Int))) - y1.1))) (⟨0,0,false, []⟩:Kept)).drop (Int.toNat y1.1)).drop (min [w1].length (((y2.drop 0).take (Int.toNat y1.1)++List.replicate (Int.toNat (IntKind.i64.wrap ((IntKind.i64.wrap ((List.length y2:Int)+(List.length [w1]:Int))) - y1.1))) (⟨0,0,false, []⟩:Kept)).length - (Int.toNat y1.1))))).length - (Int.toNat (IntKind.i64.wrap (y1.1+(List.length [w1]:Int)))))))++(((y2.drop 0).take (Int.toNat y1.1)++List.replicate (Int.toNat (IntKind.i64.wrap ((IntKind.i64.wrap ((List.length y2:Int)+(List.length [w1]:Int))) - y1.1))) (⟨0,0,false, []⟩:Kept)).take (Int.toNat y1.1)++([w1].take (((y2.drop 0).take (Int.toNat y1.1)++List.replicate (Int.toNat (IntKind.i64.wrap ((IntKind.i64.wrap ((List.length y2:Int)+(List.length [w1]:Int))) - y1.1))) (⟨0,0,false, []⟩:Kept)).length - (Int.toNat y1.1))++(((y2.drop 0).take (Int.toNat y1.1)++List.replicate (Int.toNat (IntKind.i64.wrap ((IntKind.i64.wrap ((List.length y2:Int)+(List.length [w1]:Int))) - y1.1))) (⟨0,0,false, []⟩:Kept)).drop (Int.toNat y1.1)).drop (min [w1].length (((y2.drop 0).take (Int.toNat y1.1)++List.replicate (Int.toNat (IntKind.i64.wrap ((IntKind.i64.wrap ((List.length y2:Int)+(List.length [w1]:Int))) - y1.1))) (⟨0,0,false, []⟩:Kept)).length - (Int.toNat y1.1))))).drop ((Int.toNat (IntKind.i64.wrap (y1.1+(List.length [w1]:Int))))+(min (y2.length - (Int.toNat y1.1)) ((((y2.drop 0).take (Int.toNat y1.1)++List.replicate (Int.toNat (IntKind.i64.wrap ((IntKind.i64.wrap ((List.length y2:Int)+(List.length [w1]:Int))) - y1.1))) (⟨0,0,false, []⟩:Kept)).take (Int.toNat y1.1)++([w1].take (((y2.drop 0).take (Int.toNat y1.1)++List.replicate (Int.toNat (IntKind.i64.wrap ((IntKind.i64.wrap ((List.length y2:Int)+(List.length [w1]:Int))) - y1.1))) (⟨0,0,false, []⟩:Kept)).length - (Int.toNat y1.1))++(((y2.drop 0).take (Int.toNat y1.1)++List.replicate (Int.toNat (IntKind.i64.wrap ((IntKind.i64.wrap ((List.length y2:Int)+(List.length [w1]:Int))) - y1.1))) (⟨0,0,false, []⟩:Kept)).drop (Int.toNat y1.1)).drop (min [w1].length (((y2.drop 0).take (Int.toNat y1.1)++List.replicate (Int.toNat (IntKind.i64.wrap ((IntKind.i64.wrap ((List.length y2:Int)+(List.length [w1]:Int))) - y1.1))) (⟨0,0,false, []⟩:Kept)).length - (Int.toNat y1.1))))).length - (Int.toNat (IntKind.i64.wrap (y1.1+(List.length [w1]:Int))))))))),w0.al.aI⟩:aU)⟩:ao)) (none)) (none)) (none)) (none)) (none)) (none)) (none)) (none)) (none))) (none)) (none)) (
 ah (decide (0≤(IntKind.i64.wrap ((List.length y2:Int)+(List.length [w1]:Int)))∧(IntKind.i64.wrap ((List.length y2:Int)+(List.length [w1]:Int)))≤(cp3:Int))) (
 ah (decide (0≤(IntKind.i64.wrap (y1.1+(List.length [w1]:Int)))∧(IntKind.i64.wrap (y1.1+(List.length [w1]:Int)))≤((Int.toNat (IntKind.i64.wrap ((List.length y2:Int)+(List.length [w1]:Int)))):Int))) (
 ah (Nat.blt 0 [w1].length) (
 ah (Nat.blt 0 y2.length) (
 ah (decide (0≤(IntKind.i64.wrap (y1.1+(List.length [w1]:Int)))∧(IntKind.i64.wrap (y1.1+(List.length [w1]:Int)))≤((Int.toNat (IntKind.i64.wrap ((List.length y2:Int)+(List.length [w1]:Int)))):Int))) (
 ah (decide (0≤y1.1∧y1.1≤((Int.toNat (IntKind.i64.wrap ((List.length y2:Int)+(List.length [w1]:Int)))):Int))) (
 ah (Nat.ble ((0+(Int.toNat y1.1))+(min ((Int.toNat (IntKind.i64.wrap ((List.length y2:Int)+(List.length [w1]:Int)))) - (Int.toNat y1.1)) ((Int.toNat (IntKind.i64.wrap ((List.length y2:Int)+(List.length [w1]:Int)))) - (Int.toNat (IntKind.i64.wrap (y1.1+(List.length [w1]:Int))))))) y2.length) (
 ah (Nat.ble (0+(Int.toNat (IntKind.i64.wrap (y1.1+(List.length [w1]:Int))))) y2.length) (
 ah (Nat.ble ((0+(Int.toNat (IntKind.i64.wrap (y1.1+(List.length [w1]:Int)))))+(min ((Int.toNat (IntKind.i64.wrap ((List.length y2:Int)+(List.length [w1]:Int)))) - (Int.toNat y1.1)) ((Int.toNat (IntKind.i64.wrap ((List.length y2:Int)+(List.length [w1]:Int)))) - (Int.toNat (IntKind.i64.wrap (y1.1+(List.length [w1]:Int))))))) y2.length) (
 ah (decide (0≤y1.1∧y1.1≤((Int.toNat (IntKind.i64.wrap ((List.length y2:Int)+(List.length [w1]:Int)))):Int))) (
 ah (Nat.ble ((0+(Int.toNat y1.1))+((Int.toNat (IntKind.i64.wrap ((List.length y2:Int)+(List.length [w1]:Int)))) - (Int.toNat y1.1))) (y2.take (0+(Int.toNat (IntKind.i64.wrap (y1.1+(List.length [w1]:Int)))))++(((y2.drop (0+(Int.toNat y1.1))).take (min ((Int.toNat (IntKind.i64.wrap ((List.length y2:Int)+(List.length [w1]:Int)))) - (Int.toNat y1.1)) ((Int.toNat (IntKind.i64.wrap ((List.length y2:Int)+(List.length [w1]:Int)))) - (Int.toNat (IntKind.i64.wrap (y1.1+(List.length [w1]:Int)))))))++y2.drop ((0+(Int.toNat (IntKind.i64.wrap (y1.1+(List.length [w1]:Int)))))+(min ((Int.toNat (IntKind.i64.wrap ((List.length y2:Int)+(List.length [w1]:Int)))) - (Int.toNat y1.1)) ((Int.toNat (IntKind.i64.wrap ((List.length y2:Int)+(List.length [w1]:Int)))) - (Int.toNat (IntKind.i64.wrap (y1.1+(List.length [w1]:Int))))))))).length) (
 ah (Nat.ble (0+(Int.toNat (IntKind.i64.wrap ((List.length y2:Int)+(List.length [w1]:Int))))) ((y2.take (0+(Int.toNat (IntKind.i64.wrap (y1.1+(List.length [w1]:Int)))))++(((y2.drop (0+(Int.toNat y1.1))).take (min ((Int.toNat (IntKind.i64.wrap ((List.length y2:Int)+(List.length [w1]:Int)))) - (Int.toNat y1.1)) ((Int.toNat (IntKind.i64.wrap ((List.length y2:Int)+(List.length [w1]:Int)))) - (Int.toNat (IntKind.i64.wrap (y1.1+(List.length [w1]:Int)))))))++y2.drop ((0+(Int.toNat (IntKind.i64.wrap (y1.1+(List.length [w1]:Int)))))+(min ((Int.toNat (IntKind.i64.wrap ((List.length y2:Int)+(List.length [w1]:Int)))) - (Int.toNat y1.1)) ((Int.toNat (IntKind.i64.wrap ((List.length y2:Int)+(List.length [w1]:Int)))) - (Int.toNat (IntKind.i64.wrap (y1.1+(List.length [w1]:Int))))))))).take (0+(Int.toNat y1.1))++([w1].take ((Int.toNat (IntKind.i64.wrap ((List.length y2:Int)+(List.length [w1]:Int)))) - (Int.toNat y1.1))++((y2.take (0+(Int.toNat (IntKind.i64.wrap (y1.1+(List.length [w1]:Int)))))++(((y2.drop (0+(Int.toNat y1.1))).take (min ((Int.toNat (IntKind.i64.wrap ((List.length y2:Int)+(List.length [w1]:Int)))) - (Int.toNat y1.1)) ((Int.toNat (IntKind.i64.wrap ((List.length y2:Int)+(List.length [w1]:Int)))) - (Int.toNat (IntKind.i64.wrap (y1.1+(List.length [w1]:Int)))))))++y2.drop ((0+(Int.toNat (IntKind.i64.wrap (y1.1+(List.length [w1]:Int)))))+(min ((Int.toNat (IntKind.i64.wrap ((List.length y2:Int)+(List.length [w1]:Int)))) - (Int.toNat y1.1)) ((Int.toNat (IntKind.i64.wrap ((List.length y2:Int)+(List.length [w1]:Int)))) - (Int.toNat (IntKind.i64.wrap (y1.1+(List.length [w1]:Int))))))))).drop (0+(Int.toNat y1.1))).drop (min [w1].length ((Int.toNat (IntKind.i64.wrap ((List.length y2:Int)+(List.length [w1]:Int)))) - (Int.toNat y1.1))))).length) (some (⟨w0.fs,(⟨((((y2.take (0+(Int.toNat (IntKind.i64.wrap (y1.1+(List.length [w1]:Int)))))++(((y2.drop (0+(Int.toNat y1.1))).take (min ((Int.toNat (IntKind.i64.wrap ((List.length y2:Int)+(List.length [w1]:Int)))) - (Int.toNat y1.1)) ((Int.toNat (IntKind.i64.wrap ((List.length y2:Int)+(List.length [w1]:Int)))) - (Int.toNat (IntKind.i64.wrap (y1.1+(List.length [w1]:Int)))))))++y2.drop ((0+(Int.toNat (IntKind.i64.wrap (y1.1+(List.length [w1]:Int)))))+(min ((Int.toNat (IntKind.i64.wrap ((List.length y2:Int)+(List.length [w1]:Int)))) - (Int.toNat y1.1)) ((Int.toNat (IntKind.i64.wrap ((List.length y2:Int)+(List.length [w1]:Int)))) - (Int.toNat (IntKind.i64.wrap (y1.1+(List.length [w1]:Int))))))))).take (0+(Int.toNat y1.1))++([w1].take ((Int.toNat (IntKind.i64.wrap ((List.length y2:Int)+(List.length [w1]:Int)))) - (Int.toNat y1.1))++((y2.take (0+(Int.toNat (IntKind.i64.wrap (y1.1+(List.length [w1]:Int)))))++(((y2.drop (0+(Int.toNat y1.1))).take (min ((Int.toNat (IntKind.i64.wrap ((List.length y2:Int)+(List.length [w1]:Int)))) - (Int.toNat y1.1)) ((Int.toNat (IntKind.i64.wrap ((List.length y2:Int)+(List.length [w1]:Int)))) - (Int.toNat (IntKind.i64.wrap (y1.1+(List.length [w1]:Int)))))))++y2.drop ((0+(Int.toNat (IntKind.i64.wrap (y1.1+(List.length [w1]:Int)))))+(min ((Int.toNat (IntKind.i64.wrap ((List.length y2:Int)+(List.length [w1]:Int)))) - (Int.toNat y1.1)) ((Int.toNat (IntKind.i64.wrap ((List.length y2:Int)+(List.length [w1]:Int)))) - (Int.toNat (IntKind.i64.wrap (y1.1+(List.length [w1]:Int))))))))).drop (0+(Int.toNat y1.1))).drop (min [w1].length ((Int.toNat (IntKind.i64.wrap ((List.length y2:Int)+(List.length [w1]:Int)))) - (Int.toNat y1.1))))).drop 0).take (Int.toNat (IntKind.i64.wrap ((List.length y2:Int)+(List.length [w1]:Int))))),w0.al.aI⟩:aU)⟩:ao)) (none)) (none)) (none)) (
 ah (decide (0≤y1.1∧y1.1≤((Int.toNat (IntKind.i64.wrap ((List.length y2:Int)+(List.length [w1]:Int)))):Int))) (
 ah (Nat.ble ((0+(Int.toNat y1.1))+((Int.toNat (IntKind.i64.wrap ((List.length y2:Int)+(List.length [w1]:Int)))) - (Int.toNat y1.1))) (y2.take (0+(Int.toNat (IntKind.i64.wrap (y1.1+(List.length [w1]:Int)))))++((y2.drop (0+(Int.toNat y1.1))).take (min ((Int.toNat (IntKind.i64.wrap ((List.length y2:Int)+(List.length [w1]:Int)))) - (Int.toNat y1.1)) ((Int.toNat (IntKind.i64.wrap ((List.length y2:Int)+(List.length [w1]:Int)))) - (Int.toNat (IntKind.i64.wrap (y1.1+(List.length [w1]:Int)))))))).length) (
 ah (Nat.ble (0+(Int.toNat (IntKind.i64.wrap ((List.length y2:Int)+(List.length [w1]:Int))))) ((y2.take (0+(Int.toNat (IntKind.i64.wrap (y1.1+(List.length [w1]:Int)))))++((y2.drop (0+(Int.toNat y1.1))).take (min ((Int.toNat (IntKind.i64.wrap ((List.length y2:Int)+(List.length [w1]:Int)))) - (Int.toNat y1.1)) ((Int.toNat (IntKind.i64.wrap ((List.length y2:Int)+(List.length [w1]:Int)))) - (Int.toNat (IntKind.i64.wrap (y1.1+(List.length [w1]:Int)))))))).take (0+(Int.toNat y1.1))++([w1].take ((Int.toNat (IntKind.i64.wrap ((List.length y2:Int)+(List.length [w1]:Int)))) - (Int.toNat y1.1))++((y2.take (0+(Int.toNat (IntKind.i64.wrap (y1.1+(List.length [w1]:Int)))))++((y2.drop (0+(Int.toNat y1.1))).take (min ((Int.toNat (IntKind.i64.wrap ((List.length y2:Int)+(List.length [w1]:Int)))) - (Int.toNat y1.1)) ((Int.toNat (IntKind.i64.wrap ((List.length y2:Int)+(List.length [w1]:Int)))) - (Int.toNat (IntKind.i64.wrap (y1.1+(List.length [w1]:Int)))))))).drop (0+(Int.toNat y1.1))).drop (min [w1].length ((Int.toNat (IntKind.i64.wrap ((List.length y2:Int)+(List.length [w1]:Int)))) - (Int.toNat y1.1))))).length) (some (⟨w0.fs,(⟨((((y2.take (0+(Int.toNat (IntKind.i64.wrap (y1.1+(List.length [w1]:Int)))))++((y2.drop (0+(Int.toNat y1.1))).take (min ((Int.toNat (IntKind.i64.wrap ((List.length y2:Int)+(List.length [w1]:Int)))) - (Int.toNat y1.1)) ((Int.toNat (IntKind.i64.wrap ((List.length y2:Int)+(List.length [w1]:Int)))) - (Int.toNat (IntKind.i64.wrap (y1.1+(List.length [w1]:Int)))))))).take (0+(Int.toNat y1.1))++([w1].take ((Int.toNat (IntKind.i64.wrap ((List.length y2:Int)+(List.length [w1]:Int)))) - (Int.toNat y1.1))++((y2.take (0+(Int.toNat (IntKind.i64.wrap (y1.1+(List.length [w1]:Int)))))++((y2.drop (0+(Int.toNat y1.1))).take (min ((Int.toNat (IntKind.i64.wrap ((List.length y2:Int)+(List.length [w1]:Int)))) - (Int.toNat y1.1)) ((Int.toNat (IntKind.i64.wrap ((List.length y2:Int)+(List.length [w1]:Int)))) - (Int.toNat (IntKind.i64.wrap (y1.1+(List.length [w1]:Int)))))))).drop (0+(Int.toNat y1.1))).drop (min [w1].length ((Int.toNat (IntKind.i64.wrap ((List.length y2:Int)+(List.length [w1]:Int)))) - (Int.toNat y1.1))))).drop 0).take (Int.toNat (IntKind.i64.wrap ((List.length y2:Int)+(List.length [w1]:Int))))),w0.al.aI⟩:aU)⟩:ao)) (none)) (none)) (none))) (none)) (none)) (none)) (none)) (none)) (none)) (none)) (none))))) (none)
noncomputable def eF (w0:ao) (w1:Int) (w2:ax):Option (ao×Int):=
 aj (gr w0 w1) fun y1=>
 ah y1.2 (some (w0,(13:Int))) (aj (c_ w0.fs w2.ino) fun y2=>aj (lU w0.fs w2) fun y3=>aj (c_ y3 w2.ino) fun y4=>
 ah (!y4.2) (aj (gE w0.al.aI y2.1.ino) fun y5=>aj (bP w0.al.aI) fun y6=>
 ah (decide (0≤y5.1∧y5.1≤(y6.length:Int))) (
 ah ((List.length [(⟨y2.1.ino,y2.1.kind,(0:Int),y2.1.data,(0:Int),y2.1.entries⟩:ae)]:Int)==(0:Int)) (aj (eE (⟨y3,(⟨w0.al.kept,y6⟩:aU)⟩:ao) (⟨w1,w2.ino,false, []⟩:Kept)) fun y7=>some (y7,(0:Int))) (
 ah (y5.1==(List.length y6:Int)) (aQ (y6.length+[(⟨y2.1.ino,y2.1.kind,(0:Int),y2.1.data,(0:Int),y2.1.entries⟩:ae)].length) (aj (eE (⟨y3,(⟨w0.al.kept,(y6++[(⟨y2.1.ino,y2.1.kind,(0:Int),y2.1.data,(0:Int),y2.1.entries⟩:ae)])⟩:aU)⟩:ao) (⟨w1,w2.ino,false, []⟩:Kept)) fun y8=>some (y8,(0:Int)))) (yH y6.length fun cp9=>
 ah (decide ((IntKind.i64.wrap ((List.length y6:Int)+(List.length [(⟨y2.1.ino,y2.1.kind,(0:Int),y2.1.data,(0:Int),y2.1.entries⟩:ae)]:Int)))>(cp9:Int))) (
 ah (decide (0≤y5.1∧y5.1≤(cp9:Int))) (
 ah (decide (0≤(IntKind.i64.wrap ((IntKind.i64.wrap ((List.length y6:Int)+(List.length [(⟨y2.1.ino,y2.1.kind,(0:Int),y2.1.data,(0:Int),y2.1.entries⟩:ae)]:Int))) - y5.1)))) (aQ ((Int.toNat y5.1)+Int.toNat (IntKind.i64.wrap ((IntKind.i64.wrap ((List.length y6:Int)+(List.length [(⟨y2.1.ino,y2.1.kind,(0:Int),y2.1.data,(0:Int),y2.1.entries⟩:ae)]:Int))) - y5.1))) (
 ah (Nat.ble (0+(Int.toNat y5.1)) y6.length) (
 ah (Nat.blt (cp9 - 0) ((Int.toNat y5.1)+Int.toNat (IntKind.i64.wrap ((IntKind.i64.wrap ((List.length y6:Int)+(List.length [(⟨y2.1.ino,y2.1.kind,(0:Int),y2.1.data,(0:Int),y2.1.entries⟩:ae)]:Int))) - y5.1)))) (
 ah (decide (0≤y5.1∧y5.1≤(((y6.drop 0).take (Int.toNat y5.1)++List.replicate (Int.toNat (IntKind.i64.wrap ((IntKind.i64.wrap ((List.length y6:Int)+(List.length [(⟨y2.1.ino,y2.1.kind,(0:Int),y2.1.data,(0:Int),y2.1.entries⟩:ae)]:Int))) - y5.1))) (⟨0,0,0, [],0,([] :List Entry)⟩:ae)).length:Int))) (
 ah (Nat.ble ((Int.toNat y5.1)+(((y6.drop 0).take (Int.toNat y5.1)++List.replicate (Int.toNat (IntKind.i64.wrap ((IntKind.i64.wrap ((List.length y6:Int)+(List.length [(⟨y2.1.ino,y2.1.kind,(0:Int),y2.1.data,(0:Int),y2.1.entries⟩:ae)]:Int))) - y5.1))) (⟨0,0,0, [],0,([] :List Entry)⟩:ae)).length - (Int.toNat y5.1))) ((y6.drop 0).take (Int.toNat y5.1)++List.replicate (Int.toNat (IntKind.i64.wrap ((IntKind.i64.wrap ((List.length y6:Int)+(List.length [(⟨y2.1.ino,y2.1.kind,(0:Int),y2.1.data,(0:Int),y2.1.entries⟩:ae)]:Int))) - y5.1))) (⟨0,0,0, [],0,([] :List Entry)⟩:ae)).length) (
 ah (decide (0≤(IntKind.i64.wrap (y5.1+(List.length [(⟨y2.1.ino,y2.1.kind,(0:Int),y2.1.data,(0:Int),y2.1.entries⟩:ae)]:Int)))∧(IntKind.i64.wrap (y5.1+(List.length [(⟨y2.1.ino,y2.1.kind,(0:Int),y2.1.data,(0:Int),y2.1.entries⟩:ae)]:Int)))≤((((y6.drop 0).take (Int.toNat y5.1)++List.replicate (Int.toNat (IntKind.i64.wrap ((IntKind.i64.wrap ((List.length y6:Int)+(List.length [(⟨y2.1.ino,y2.1.kind,(0:Int),y2.1.data,(0:Int),y2.1.entries⟩:ae)]:Int))) - y5.1))) (⟨0,0,0, [],0,([] :List Entry)⟩:ae)).take (Int.toNat y5.1)++([(⟨y2.1.ino,y2.1.kind,(0:Int),y2.1.data,(0:Int),y2.1.entries⟩:ae)].take (((y6.drop 0).take (Int.toNat y5.1)++List.replicate (Int.toNat (IntKind.i64.wrap ((IntKind.i64.wrap ((List.length y6:Int)+(List.length [(⟨y2.1.ino,y2.1.kind,(0:Int),y2.1.data,(0:Int),y2.1.entries⟩:ae)]:Int))) - y5.1))) (⟨0,0,0, [],0,([] :List Entry)⟩:ae)).length - (Int.toNat y5.1))++(((y6.drop 0).take (Int.toNat y5.1)++List.replicate (Int.toNat (IntKind.i64.wrap ((IntKind.i64.wrap ((List.length y6:Int)+(List.length [(⟨y2.1.ino,y2.1.kind,(0:Int),y2.1.data,(0:Int),y2.1.entries⟩:ae)]:Int))) - y5.1))) (⟨0,0,0, [],0,([] :List Entry)⟩:ae)).drop (Int.toNat y5.1)).drop (min [(⟨y2.1.ino,y2.1.kind,(0:Int),y2.1.data,(0:Int),y2.1.entries⟩:ae)].length (((y6.drop 0).take (Int.toNat y5.1)++List.replicate (Int.toNat (IntKind.i64.wrap ((IntKind.i64.wrap ((List.length y6:Int)+(List.length [(⟨y2.1.ino,y2.1.kind,(0:Int),y2.1.data,(0:Int),y2.1.entries⟩:ae)]:Int))) - y5.1))) (⟨0,0,0, [],0,([] :List Entry)⟩:ae)).length - (Int.toNat y5.1))))).length:Int))) (
 ah (decide (0≤y5.1∧y5.1≤(y6.length:Int))) (
 ah (Nat.ble ((Int.toNat y5.1)+(min (y6.length - (Int.toNat y5.1)) ((((y6.drop 0).take (Int.toNat y5.1)++List.replicate (Int.toNat (IntKind.i64.wrap ((IntKind.i64.wrap ((List.length y6:Int)+(List.length [(⟨y2.1.ino,y2.1.kind,(0:Int),y2.1.data,(0:Int),y2.1.entries⟩:ae)]:Int))) - y5.1))) (⟨0,0,0, [],0,([] :List Entry)⟩:ae)).take (Int.toNat y5.1)++([(⟨y2.1.ino,y2.1.kind,(0:Int),y2.1.data,(0:Int),y2.1.entries⟩:ae)].take (((y6.drop 0).take (Int.toNat y5.1)++List.replicate (Int.toNat (IntKind.i64.wrap ((IntKind.i64.wrap ((List.length y6:Int)+(List.length [(⟨y2.1.ino,y2.1.kind,(0:Int),y2.1.data,(0:Int),y2.1.entries⟩:ae)]:Int))) - y5.1))) (⟨0,0,0, [],0,([] :List Entry)⟩:ae)).length - (Int.toNat y5.1))++(((y6.drop 0).take (Int.toNat y5.1)++List.replicate (Int.toNat (IntKind.i64.wrap ((IntKind.i64.wrap ((List.length y6:Int)+(List.length [(⟨y2.1.ino,y2.1.kind,(0:Int),y2.1.data,(0:Int),y2.1.entries⟩:ae)]:Int))) - y5.1))) (⟨0,0,0, [],0,([] :List Entry)⟩:ae)).drop (Int.toNat y5.1)).drop (min [(⟨y2.1.ino,y2.1.kind,(0:Int),y2.1.data,(0:Int),y2.1.entries⟩:ae)].length (((y6.drop 0).take (Int.toNat y5.1)++List.replicate (Int.toNat (IntKind.i64.wrap ((IntKind.i64.wrap ((List.length y6:Int)+(List.length [(⟨y2.1.ino,y2.1.kind,(0:Int),y2.1.data,(0:Int),y2.1.entries⟩:ae)]:Int))) - y5.1))) (⟨0,0,0, [],0,([] :List Entry)⟩:ae)).length - (Int.toNat y5.1))))).length - (Int.toNat (IntKind.i64.wrap (y5.1+(List.length [(⟨y2.1.ino,y2.1.kind,(0:Int),y2.1.data,(0:Int),y2.1.entries⟩:ae)]:Int))))))) y6.length) (
 ah (Nat.ble (Int.toNat (IntKind.i64.wrap (y5.1+(List.length [(⟨y2.1.ino,y2.1.kind,(0:Int),y2.1.data,(0:Int),y2.1.entries⟩:ae)]:Int)))) (((y6.drop 0).take (Int.toNat y5.1)++List.replicate (Int.toNat (IntKind.i64.wrap ((IntKind.i64.wrap ((List.length y6:Int)+(List.length [(⟨y2.1.ino,y2.1.kind,(0:Int),y2.1.data,(0:Int),y2.1.entries⟩:ae)]:Int))) - y5.1))) (⟨0,0,0, [],0,([] :List Entry)⟩:ae)).take (Int.toNat y5.1)++([(⟨y2.1.ino,y2.1.kind,(0:Int),y2.1.data,(0:Int),y2.1.entries⟩:ae)].take (((y6.drop 0).take (Int.toNat y5.1)++List.replicate (Int.toNat (IntKind.i64.wrap ((IntKind.i64.wrap ((List.length y6:Int)+(List.length [(⟨y2.1.ino,y2.1.kind,(0:Int),y2.1.data,(0:Int),y2.1.entries⟩:ae)]:Int))) - y5.1))) (⟨0,0,0, [],0,([] :List Entry)⟩:ae)).length - (Int.toNat y5.1))++(((y6.drop 0).take (Int.toNat y5.1)++List.replicate (Int.toNat (IntKind.i64.wrap ((IntKind.i64.wrap ((List.length y6:Int)+(List.length [(⟨y2.1.ino,y2.1.kind,(0:Int),y2.1.data,(0:Int),y2.1.entries⟩:ae)]:Int))) - y5.1))) (⟨0,0,0, [],0,([] :List Entry)⟩:ae)).drop (Int.toNat y5.1)).drop (min [(⟨y2.1.ino,y2.1.kind,(0:Int),y2.1.data,(0:Int),y2.1.entries⟩:ae)].length (((y6.drop 0).take (Int.toNat y5.1)++List.replicate (Int.toNat (IntKind.i64.wrap ((IntKind.i64.wrap ((List.length y6:Int)+(List.length [(⟨y2.1.ino,y2.1.kind,(0:Int),y2.1.data,(0:Int),y2.1.entries⟩:ae)]:Int))) - y5.1))) (⟨0,0,0, [],0,([] :List Entry)⟩:ae)).length - (Int.toNat y5.1))))).length) (
 ah (Nat.ble ((Int.toNat (IntKind.i64.wrap (y5.1+(List.length [(⟨y2.1.ino,y2.1.kind,(0:Int),y2.1.data,(0:Int),y2.1.entries⟩:ae)]:Int))))+(min (y6.length - (Int.toNat y5.1)) ((((y6.drop 0).take (Int.toNat y5.1)++List.replicate (Int.toNat (IntKind.i64.wrap ((IntKind.i64.wrap ((List.length y6:Int)+(List.length [(⟨y2.1.ino,y2.1.kind,(0:Int),y2.1.data,(0:Int),y2.1.entries⟩:ae)]:Int))) - y5.1))) (⟨0,0,0, [],0,([] :List Entry)⟩:ae)).take (Int.toNat y5.1)++([(⟨y2.1.ino,y2.1.kind,(0:Int),y2.1.data,(0:Int),y2.1.entries⟩:ae)].take (((y6.drop 0).take (Int.toNat y5.1)++List.replicate (Int.toNat (IntKind.i64.wrap ((IntKind.i64.wrap ((List.length y6:Int)+(List.length [(⟨y2.1.ino,y2.1.kind,(0:Int),y2.1.data,(0:Int),y2.1.entries⟩:ae)]:Int))) - y5.1))) (⟨0,0,0, [],0,([] :List Entry)⟩:ae)).length - (Int.toNat y5.1))++(((y6.drop 0).take (Int.toNat y5.1)++List.replicate (Int.toNat (IntKind.i64.wrap ((IntKind.i64.wrap ((List.length y6:Int)+(List.length [(⟨y2.1.ino,y2.1.kind,(0:Int),y2.1.data,(0:Int),y2.1.entries⟩:ae)]:Int))) - y5.1))) (⟨0,0,0, [],0,([] :List Entry)⟩:ae)).drop (Int.toNat y5.1)).drop (min [(⟨y2.1.ino,y2.1.kind,(0:Int),y2.1.data,(0:Int),y2.1.entries⟩:ae)].length (((y6.drop 0).take (Int.toNat y5.1)++List.replicate (Int.toNat (IntKind.i64.wrap ((IntKind.i64.wrap ((List.length y6:Int)+(List.length [(⟨y2.1.ino,y2.1.kind,(0:Int),y2.1.data,(0:Int),y2.1.entries⟩:ae)]:Int))) - y5.1))) (⟨0,0,0, [],0,([] :List Entry)⟩:ae)).length - (Int.toNat y5.1))))).length - (Int.toNat (IntKind.i64.wrap (y5.1+(List.length [(⟨y2.1.ino,y2.1.kind,(0:Int),y2.1.data,(0:Int),y2.1.entries⟩:ae)]:Int))))))) (((y6.drop 0).take (Int.toNat y5.1)++List.replicate (Int.toNat (IntKind.i64.wrap ((IntKind.i64.wrap ((List.length y6:Int)+(List.length [(⟨y2.1.ino,y2.1.kind,(0:Int),y2.1.data,(0:Int),y2.1.entries⟩:ae)]:Int))) - y5.1))) (⟨0,0,0, [],0,([] :List Entry)⟩:ae)).take (Int.toNat y5.1)++([(⟨y2.1.ino,y2.1.kind,(0:Int),y2.1.data,(0:Int),y2.1.entries⟩:ae)].take (((y6.drop 0).take (Int.toNat y5.1)++List.replicate (Int.toNat (IntKind.i64.wrap ((IntKind.i64.wrap ((List.length y6:Int)+(List.length [(⟨y2.1.ino,y2.1.kind,(0:Int),y2.1.data,(0:Int),y2.1.entries⟩:ae)]:Int))) - y5.1))) (⟨0,0,0, [],0,([] :List Entry)⟩:ae)).length - (Int.toNat y5.1))++(((y6.drop 0).take (Int.toNat y5.1)++List.replicate (Int.toNat (IntKind.i64.wrap ((IntKind.i64.wrap ((List.length y6:Int)+(List.length [(⟨y2.1.ino,y2.1.kind,(0:Int),y2.1.data,(0:Int),y2.1.entries⟩:ae)]:Int))) - y5.1))) (⟨0,0,0, [],0,([] :List Entry)⟩:ae)).drop (Int.toNat y5.1)).drop (min [(⟨y2.1.ino,y2.1.kind,(0:Int),y2.1.data,(0:Int),y2.1.entries⟩:ae)].length (((y6.drop 0).take (Int.toNat y5.1)++List.replicate (Int.toNat (IntKind.i64.wrap ((IntKind.i64.wrap ((List.length y6:Int)+(List.length [(⟨y2.1.ino,y2.1.kind,(0:Int),y2.1.data,(0:Int),y2.1.entries⟩:ae)]:Int))) - y5.1))) (⟨0,0,0, [],0,([] :List Entry)⟩:ae)).length - (Int.toNat y5.1))))).length) (aj (eE (⟨y3,(⟨w0.al.kept,((((y6.drop 0).take (Int.toNat y5.1)++List.replicate (Int.toNat (IntKind.i64.wrap ((IntKind.i64.wrap ((List.length y6:Int)+(List.length [(⟨y2.1.ino,y2.1.kind,(0:Int),y2.1.data,(0:Int),y2.1.entries⟩:ae)]:Int))) - y5.1))) (⟨0,0,0, [],0,([] :List Entry)⟩:ae)).take (Int.toNat y5.1)++([(⟨y2.1.ino,y2.1.kind,(0:Int),y2.1.data,(0:Int),y2.1.entries⟩:ae)].take (((y6.drop 0).take (Int.toNat y5.1)++List.replicate (Int.toNat (IntKind.i64.wrap ((IntKind.i64.wrap ((List.length y6:Int)+(List.length [(⟨y2.1.ino,y2.1.kind,(0:Int),y2.1.data,(0:Int),y2.1.entries⟩:ae)]:Int))) - y5.1))) (⟨0,0,0, [],0,([] :List Entry)⟩:ae)).length - (Int.toNat y5.1))++(((y6.drop 0).take (Int.toNat y5.1)++List.replicate (Int.toNat (IntKind.i64.wrap ((IntKind.i64.wrap ((List.length y6:Int)+(List.length [(⟨y2.1.ino,y2.1.kind,(0:Int),y2.1.data,(0:Int),y2.1.entries⟩:ae)]:Int))) - y5.1))) (⟨0,0,0, [],0,([] :List Entry)⟩:ae)).drop (Int.toNat y5.1)).drop (min [(⟨y2.1.ino,y2.1.kind,(0:Int),y2.1.data,(0:Int),y2.1.entries⟩:ae)].length (((y6.drop 0).take (Int.toNat y5.1)++List.replicate (Int.toNat (IntKind.i64.wrap ((IntKind.i64.wrap ((List.length y6:Int)+(List.length [(⟨y2.1.ino,y2.1.kind,(0:Int),y2.1.data,(0:Int),y2.1.entries⟩:ae)]:Int))) - y5.1))) (⟨0,0,0, [],0,([] :List Entry)⟩:ae)).length - (Int.toNat y5.1))))).take (Int.toNat (IntKind.i64.wrap (y5.1+(List.length [(⟨y2.1.ino,y2.1.kind,(0:Int),y2.1.data,(0:Int),y2.1.entries⟩:ae)]:Int))))++(((y6.drop (Int.toNat y5.1)).take (min (y6.length - (Int.toNat y5.1)) ((((y6.drop 0).take (Int.toNat y5.1)++List.replicate (Int.toNat (IntKind.i64.wrap ((IntKind.i64.wrap ((List.length y6:Int)+(List.length [(⟨y2.1.ino,y2.1.kind,(0:Int),y2.1.data,(0:Int),y2.1.entries⟩:ae)]:Int))) - y5.1))) (⟨0,0,0, [],0,([] :List Entry)⟩:ae)).take (Int.toNat y5.1)++([(⟨y2.1.ino,y2.1.kind,(0:Int),y2.1.data,(0:Int),y2.1.entries⟩:ae)].take (((y6.drop 0).take (Int.toNat y5.1)++List.replicate (Int.toNat (IntKind.i64.wrap ((IntKind.i64.wrap ((List.length y6:Int)+(List.length [(⟨y2.1.ino,y2.1.kind,(0:Int),y2.1.data,(0:Int),y2.1.entries⟩:ae)]:Int))) - y5.1))) (⟨0,0,0, [],0,([] :List Entry)⟩:ae)).length - (Int.toNat y5.1))++(((y6.drop 0).take (Int.toNat y5.1)++List.replicate (Int.toNat (IntKind.i64.wrap ((IntKind.i64.wrap ((List.length y6:Int)+(List.length [(⟨y2.1.ino,y2.1.kind,(0:Int),y2.1.data,(0:Int),y2.1.entries⟩:ae)]:Int))) - y5.1))) (⟨0,0,0, [],0,([] :List Entry)⟩:ae)).drop (Int.toNat y5.1)).drop (min [(⟨y2.1.ino,y2.1.kind,(0:Int),y2.1.data,(0:Int),y2.1.entries⟩:ae)].length (((y6.drop 0).take (Int.toNat y5.1)++List.replicate (Int.toNat (IntKind.i64.wrap ((IntKind.i64.wrap ((List.length y6:Int)+(List.length [(⟨y2.1.ino,y2.1.kind,(0:Int),y2.1.data,(0:Int),y2.1.entries⟩:ae)]:Int))) - y5.1))) (⟨0,0,0, [],0,([] :List Entry)⟩:ae)).length - (Int.toNat y5.1))))).length - (Int.toNat (IntKind.i64.wrap (y5.1+(List.length [(⟨y2.1.ino,y2.1.kind,(0:Int),y2.1.data,(0:Int),y2.1.entries⟩:ae)]:Int)))))))++(((y6.drop 0).take (Int.toNat y5.1)++List.replicate (Int.toNat (IntKind.i64.wrap ((IntKind.i64.wrap ((List.length y6:Int)+(List.length [(⟨y2.1.ino,y2.1.kind,(0:Int),y2.1.data,(0:Int),y2.1.entries⟩:ae)]:Int))) - y5.1))) (⟨0,0,0, [],0,([] :List Entry)⟩:ae)).take (Int.toNat y5.1)++([(⟨y2.1.ino,y2.1.kind,(0:Int),y2.1.data,(0:Int),y2.1.entries⟩:ae)].take (((y6.drop 0).take (Int.toNat y5.1)++List.replicate (Int.toNat (IntKind.i64.wrap ((IntKind.i64.wrap ((List.length y6:Int)+(List.length [(⟨y2.1.ino,y2.1.kind,(0:Int),y2.1.data,(0:Int),y2.1.entries⟩:ae)]:Int))) - y5.1))) (⟨0,0,0, [],0,([] :List Entry)⟩:ae)).length - (Int.toNat y5.1))++(((y6.drop 0).take (Int.toNat y5.1)++List.replicate (Int.toNat (IntKind.i64.wrap ((IntKind.i64.wrap ((List.length y6:Int)+(List.length [(⟨y2.1.ino,y2.1.kind,(0:Int),y2.1.data,(0:Int),y2.1.entries⟩:ae)]:Int))) - y5.1))) (⟨0,0,0, [],0,([] :List Entry)⟩:ae)).drop (Int.toNat y5.1)).drop (min [(⟨y2.1.ino,y2.1.kind,(0:Int),y2.1.data,(0:Int),y2.1.entries⟩:ae)].length (((y6.drop 0).take (Int.toNat y5.1)++List.replicate (Int.toNat (IntKind.i64.wrap ((IntKind.i64.wrap ((List.length y6:Int)+(List.length [(⟨y2.1.ino,y2.1.kind,(0:Int),y2.1.data,(0:Int),y2.1.entries⟩:ae)]:Int))) - y5.1))) (⟨0,0,0, [],0,([] :List Entry)⟩:ae)).length - (Int.toNat y5.1))))).drop ((Int.toNat (IntKind.i64.wrap (y5.1+(List.length [(⟨y2.1.ino,y2.1.kind,(0:Int),y2.1.data,(0:Int),y2.1.entries⟩:ae)]:Int))))+(min (y6.length - (Int.toNat y5.1)) ((((y6.drop 0).take (Int.toNat y5.1)++List.replicate (Int.toNat (IntKind.i64.wrap ((IntKind.i64.wrap ((List.length y6:Int)+(List.length [(⟨y2.1.ino,y2.1.kind,(0:Int),y2.1.data,(0:Int),y2.1.entries⟩:ae)]:Int))) - y5.1))) (⟨0,0,0, [],0,([] :List Entry)⟩:ae)).take (Int.toNat y5.1)++([(⟨y2.1.ino,y2.1.kind,(0:Int),y2.1.data,(0:Int),y2.1.entries⟩:ae)].take (((y6.drop 0).take (Int.toNat y5.1)++List.replicate (Int.toNat (IntKind.i64.wrap ((IntKind.i64.wrap ((List.length y6:Int)+(List.length [(⟨y2.1.ino,y2.1.kind,(0:Int),y2.1.data,(0:Int),y2.1.entries⟩:ae)]:Int))) - y5.1))) (⟨0,0,0, [],0,([] :List Entry)⟩:ae)).length - (Int.toNat y5.1))++(((y6.drop 0).take (Int.toNat y5.1)++List.replicate (Int.toNat (IntKind.i64.wrap ((IntKind.i64.wrap ((List.length y6:Int)+(List.length [(⟨y2.1.ino,y2.1.kind,(0:Int),y2.1.data,(0:Int),y2.1.entries⟩:ae)]:Int))) - y5.1))) (⟨0,0,0, [],0,([] :List Entry)⟩:ae)).drop (Int.toNat y5.1)).drop (min [(⟨y2.1.ino,y2.1.kind,(0:Int),y2.1.data,(0:Int),y2.1.entries⟩:ae)].length (((y6.drop 0).take (Int.toNat y5.1)++List.replicate (Int.toNat (IntKind.i64.wrap ((IntKind.i64.wrap ((List.length y6:Int)+(List.length [(⟨y2.1.ino,y2.1.kind,(0:Int),y2.1.data,(0:Int),y2.1.entries⟩:ae)]:Int))) - y5.1))) (⟨0,0,0, [],0,([] :List Entry)⟩:ae)).length - (Int.toNat y5.1))))).length - (Int.toNat (IntKind.i64.wrap (y5.1+(List.length [(⟨y2.1.ino,y2.1.kind,(0:Int),y2.1.data,(0:Int),y2.1.entries⟩:ae)]:Int)))))))))⟩:aU)⟩:ao) (⟨w1,w2.ino,false, []⟩:Kept)) fun y10=>some (y10,(0:Int))) (none)) (none)) (none)) (none)) (none)) (none)) (none)) (none)) (none))) (none)) (none)) (
 ah (decide (0≤(IntKind.i64.wrap ((List.length y6:Int)+(List.length [(⟨y2.1.ino,y2.1.kind,(0:Int),y2.1.data,(0:Int),y2.1.entries⟩:ae)]:Int)))∧(IntKind.i64.wrap ((List.length y6:Int)+(List.length [(⟨y2.1.ino,y2.1.kind,(0:Int),y2.1.data,(0:Int),y2.1.entries⟩:ae)]:Int)))≤(cp9:Int))) (
 ah (decide (0≤(IntKind.i64.wrap (y5.1+(List.length [(⟨y2.1.ino,y2.1.kind,(0:Int),y2.1.data,(0:Int),y2.1.entries⟩:ae)]:Int)))∧(IntKind.i64.wrap (y5.1+(List.length [(⟨y2.1.ino,y2.1.kind,(0:Int),y2.1.data,(0:Int),y2.1.entries⟩:ae)]:Int)))≤((Int.toNat (IntKind.i64.wrap ((List.length y6:Int)+(List.length [(⟨y2.1.ino,y2.1.kind,(0:Int),y2.1.data,(0:Int),y2.1.entries⟩:ae)]:Int)))):Int))) (
 ah (Nat.blt 0 [(⟨y2.1.ino,y2.1.kind,(0:Int),y2.1.data,(0:Int),y2.1.entries⟩:ae)].length) (
 ah (Nat.blt 0 y6.length) (
 ah (decide (0≤(IntKind.i64.wrap (y5.1+(List.length [(⟨y2.1.ino,y2.1.kind,(0:Int),y2.1.data,(0:Int),y2.1.entries⟩:ae)]:Int)))∧(IntKind.i64.wrap (y5.1+(List.length [(⟨y2.1.ino,y2.1.kind,(0:Int),y2.1.data,(0:Int),y2.1.entries⟩:ae)]:Int)))≤((Int.toNat (IntKind.i64.wrap ((List.length y6:Int)+(List.length [(⟨y2.1.ino,y2.1.kind,(0:Int),y2.1.data,(0:Int),y2.1.entries⟩:ae)]:Int)))):Int))) (
 ah (decide (0≤y5.1∧y5.1≤((Int.toNat (IntKind.i64.wrap ((List.length y6:Int)+(List.length [(⟨y2.1.ino,y2.1.kind,(0:Int),y2.1.data,(0:Int),y2.1.entries⟩:ae)]:Int)))):Int))) (
 ah (Nat.ble ((0+(Int.toNat y5.1))+(min ((Int.toNat (IntKind.i64.wrap ((List.length y6:Int)+(List.length [(⟨y2.1.ino,y2.1.kind,(0:Int),y2.1.data,(0:Int),y2.1.entries⟩:ae)]:Int)))) - (Int.toNat y5.1)) ((Int.toNat (IntKind.i64.wrap ((List.length y6:Int)+(List.length [(⟨y2.1.ino,y2.1.kind,(0:Int),y2.1.data,(0:Int),y2.1.entries⟩:ae)]:Int)))) - (Int.toNat (IntKind.i64.wrap (y5.1+(List.length [(⟨y2.1.ino,y2.1.kind,(0:Int),y2.1.data,(0:Int),y2.1.entries⟩:ae)]:Int))))))) y6.length) (
 ah (Nat.ble (0+(Int.toNat (IntKind.i64.wrap (y5.1+(List.length [(⟨y2.1.ino,y2.1.kind,(0:Int),y2.1.data,(0:Int),y2.1.entries⟩:ae)]:Int))))) y6.length) (
 ah (Nat.ble ((0+(Int.toNat (IntKind.i64.wrap (y5.1+(List.length [(⟨y2.1.ino,y2.1.kind,(0:Int),y2.1.data,(0:Int),y2.1.entries⟩:ae)]:Int)))))+(min ((Int.toNat (IntKind.i64.wrap ((List.length y6:Int)+(List.length [(⟨y2.1.ino,y2.1.kind,(0:Int),y2.1.data,(0:Int),y2.1.entries⟩:ae)]:Int)))) - (Int.toNat y5.1)) ((Int.toNat (IntKind.i64.wrap ((List.length y6:Int)+(List.length [(⟨y2.1.ino,y2.1.kind,(0:Int),y2.1.data,(0:Int),y2.1.entries⟩:ae)]:Int)))) - (Int.toNat (IntKind.i64.wrap (y5.1+(List.length [(⟨y2.1.ino,y2.1.kind,(0:Int),y2.1.data,(0:Int),y2.1.entries⟩:ae)]:Int))))))) y6.length) (
 ah (decide (0≤y5.1∧y5.1≤((Int.toNat (IntKind.i64.wrap ((List.length y6:Int)+(List.length [(⟨y2.1.ino,y2.1.kind,(0:Int),y2.1.data,(0:Int),y2.1.entries⟩:ae)]:Int)))):Int))) (
 ah (Nat.ble ((0+(Int.toNat y5.1))+((Int.toNat (IntKind.i64.wrap ((List.length y6:Int)+(List.length [(⟨y2.1.ino,y2.1.kind,(0:Int),y2.1.data,(0:Int),y2.1.entries⟩:ae)]:Int)))) - (Int.toNat y5.1))) (y6.take (0+(Int.toNat (IntKind.i64.wrap (y5.1+(List.length [(⟨y2.1.ino,y2.1.kind,(0:Int),y2.1.data,(0:Int),y2.1.entries⟩:ae)]:Int)))))++(((y6.drop (0+(Int.toNat y5.1))).take (min ((Int.toNat (IntKind.i64.wrap ((List.length y6:Int)+(List.length [(⟨y2.1.ino,y2.1.kind,(0:Int),y2.1.data,(0:Int),y2.1.entries⟩:ae)]:Int)))) - (Int.toNat y5.1)) ((Int.toNat (IntKind.i64.wrap ((List.length y6:Int)+(List.length [(⟨y2.1.ino,y2.1.kind,(0:Int),y2.1.data,(0:Int),y2.1.entries⟩:ae)]:Int)))) - (Int.toNat (IntKind.i64.wrap (y5.1+(List.length [(⟨y2.1.ino,y2.1.kind,(0:Int),y2.1.data,(0:Int),y2.1.entries⟩:ae)]:Int)))))))++y6.drop ((0+(Int.toNat (IntKind.i64.wrap (y5.1+(List.length [(⟨y2.1.ino,y2.1.kind,(0:Int),y2.1.data,(0:Int),y2.1.entries⟩:ae)]:Int)))))+(min ((Int.toNat (IntKind.i64.wrap ((List.length y6:Int)+(List.length [(⟨y2.1.ino,y2.1.kind,(0:Int),y2.1.data,(0:Int),y2.1.entries⟩:ae)]:Int)))) - (Int.toNat y5.1)) ((Int.toNat (IntKind.i64.wrap ((List.length y6:Int)+(List.length [(⟨y2.1.ino,y2.1.kind,(0:Int),y2.1.data,(0:Int),y2.1.entries⟩:ae)]:Int)))) - (Int.toNat (IntKind.i64.wrap (y5.1+(List.length [(⟨y2.1.ino,y2.1.kind,(0:Int),y2.1.data,(0:Int),y2.1.entries⟩:ae)]:Int))))))))).length) (
 ah (Nat.ble (0+(Int.toNat (IntKind.i64.wrap ((List.length y6:Int)+(List.length [(⟨y2.1.ino,y2.1.kind,(0:Int),y2.1.data,(0:Int),y2.1.entries⟩:ae)]:Int))))) ((y6.take (0+(Int.toNat (IntKind.i64.wrap (y5.1+(List.length [(⟨y2.1.ino,y2.1.kind,(0:Int),y2.1.data,(0:Int),y2.1.entries⟩:ae)]:Int)))))++(((y6.drop (0+(Int.toNat y5.1))).take (min ((Int.toNat (IntKind.i64.wrap ((List.length y6:Int)+(List.length [(⟨y2.1.ino,y2.1.kind,(0:Int),y2.1.data,(0:Int),y2.1.entries⟩:ae)]:Int)))) - (Int.toNat y5.1)) ((Int.toNat (IntKind.i64.wrap ((List.length y6:Int)+(List.length [(⟨y2.1.ino,y2.1.kind,(0:Int),y2.1.data,(0:Int),y2.1.entries⟩:ae)]:Int)))) - (Int.toNat (IntKind.i64.wrap (y5.1+(List.length [(⟨y2.1.ino,y2.1.kind,(0:Int),y2.1.data,(0:Int),y2.1.entries⟩:ae)]:Int)))))))++y6.drop ((0+(Int.toNat (IntKind.i64.wrap (y5.1+(List.length [(⟨y2.1.ino,y2.1.kind,(0:Int),y2.1.data,(0:Int),y2.1.entries⟩:ae)]:Int)))))+(min ((Int.toNat (IntKind.i64.wrap ((List.length y6:Int)+(List.length [(⟨y2.1.ino,y2.1.kind,(0:Int),y2.1.data,(0:Int),y2.1.entries⟩:ae)]:Int)))) - (Int.toNat y5.1)) ((Int.toNat (IntKind.i64.wrap ((List.length y6:Int)+(List.length [(⟨y2.1.ino,y2.1.kind,(0:Int),y2.1.data,(0:Int),y2.1.entries⟩:ae)]:Int)))) - (Int.toNat (IntKind.i64.wrap (y5.1+(List.length [(⟨y2.1.ino,y2.1.kind,(0:Int),y2.1.data,(0:Int),y2.1.entries⟩:ae)]:Int))))))))).take (0+(Int.toNat y5.1))++([(⟨y2.1.ino,y2.1.kind,(0:Int),y2.1.data,(0:Int),y2.1.entries⟩:ae)].take ((Int.toNat (IntKind.i64.wrap ((List.length y6:Int)+(List.length [(⟨y2.1.ino,y2.1.kind,(0:Int),y2.1.data,(0:Int),y2.1.entries⟩:ae)]:Int)))) - (Int.toNat y5.1))++((y6.take (0+(Int.toNat (IntKind.i64.wrap (y5.1+(List.length [(⟨y2.1.ino,y2.1.kind,(0:Int),y2.1.data,(0:Int),y2.1.entries⟩:ae)]:Int)))))++(((y6.drop (0+(Int.toNat y5.1))).take (min ((Int.toNat (IntKind.i64.wrap ((List.length y6:Int)+(List.length [(⟨y2.1.ino,y2.1.kind,(0:Int),y2.1.data,(0:Int),y2.1.entries⟩:ae)]:Int)))) - (Int.toNat y5.1)) ((Int.toNat (IntKind.i64.wrap ((List.length y6:Int)+(List.length [(⟨y2.1.ino,y2.1.kind,(0:Int),y2.1.data,(0:Int),y2.1.entries⟩:ae)]:Int)))) - (Int.toNat (IntKind.i64.wrap (y5.1+(List.length [(⟨y2.1.ino,y2.1.kind,(0:Int),y2.1.data,(0:Int),y2.1.entries⟩:ae)]:Int)))))))++y6.drop ((0+(Int.toNat (IntKind.i64.wrap (y5.1+(List.length [(⟨y2.1.ino,y2.1.kind,(0:Int),y2.1.data,(0:Int),y2.1.entries⟩:ae)]:Int)))))+(min ((Int.toNat (IntKind.i64.wrap ((List.length y6:Int)+(List.length [(⟨y2.1.ino,y2.1.kind,(0:Int),y2.1.data,(0:Int),y2.1.entries⟩:ae)]:Int)))) - (Int.toNat y5.1)) ((Int.toNat (IntKind.i64.wrap ((List.length y6:Int)+(List.length [(⟨y2.1.ino,y2.1.kind,(0:Int),y2.1.data,(0:Int),y2.1.entries⟩:ae)]:Int)))) - (Int.toNat (IntKind.i64.wrap (y5.1+(List.length [(⟨y2.1.ino,y2.1.kind,(0:Int),y2.1.data,(0:Int),y2.1.entries⟩:ae)]:Int))))))))).drop (0+(Int.toNat y5.1))).drop (min [(⟨y2.1.ino,y2.1.kind,(0:Int),y2.1.data,(0:Int),y2.1.entries⟩:ae)].length ((Int.toNat (IntKind.i64.wrap ((List.length y6:Int)+(List.length [(⟨y2.1.ino,y2.1.kind,(0:Int),y2.1.data,(0:Int),y2.1.entries⟩:ae)]:Int)))) - (Int.toNat y5.1))))).length) (aj (eE (⟨y3,(⟨w0.al.kept,((((y6.take (0+(Int.toNat (IntKind.i64.wrap (y5.1+(List.length [(⟨y2.1.ino,y2.1.kind,(0:Int),y2.1.data,(0:Int),y2.1.entries⟩:ae)]:Int)))))++(((y6.drop (0+(Int.toNat y5.1))).take (min ((Int.toNat (IntKind.i64.wrap ((List.length y6:Int)+(List.length [(⟨y2.1.ino,y2.1.kind,(0:Int),y2.1.data,(0:Int),y2.1.entries⟩:ae)]:Int)))) - (Int.toNat y5.1)) ((Int.toNat (IntKind.i64.wrap ((List.length y6:Int)+(List.length [(⟨y2.1.ino,y2.1.kind,(0:Int),y2.1.data,(0:Int),y2.1.entries⟩:ae)]:Int)))) - (Int.toNat (IntKind.i64.wrap (y5.1+(List.length [(⟨y2.1.ino,y2.1.kind,(0:Int),y2.1.data,(0:Int),y2.1.entries⟩:ae)]:Int)))))))++y6.drop ((0+(Int.toNat (IntKind.i64.wrap (y5.1+(List.length [(⟨y2.1.ino,y2.1.kind,(0:Int),y2.1.data,(0:Int),y2.1.entries⟩:ae)]:Int)))))+(min ((Int.toNat (IntKind.i64.wrap ((List.length y6:Int)+(List.length [(⟨y2.1.ino,y2.1.kind,(0:Int),y2.1.data,(0:Int),y2.1.entries⟩:ae)]:Int)))) - (Int.toNat y5.1)) ((Int.toNat (IntKind.i64.wrap ((List.length y6:Int)+(List.length [(⟨y2.1.ino,y2.1.kind,(0:Int),y2.1.data,(0:Int),y2.1.entries⟩:ae)]:Int)))) - (Int.toNat (IntKind.i64.wrap (y5.1+(List.length [(⟨y2.1.ino,y2.1.kind,(0:Int),y2.1.data,(0:Int),y2.1.entries⟩:ae)]:Int))))))))).take (0+(Int.toNat y5.1))++([(⟨y2.1.ino,y2.1.kind,(0:Int),y2.1.data,(0:Int),y2.1.entries⟩:ae)].take ((Int.toNat (IntKind.i64.wrap ((List.length y6:Int)+(List.length [(⟨y2.1.ino,y2.1.kind,(0:Int),y2.1.data,(0:Int),y2.1.entries⟩:ae)]:Int)))) - (Int.toNat y5.1))++((y6.take (0+(Int.toNat (IntKind.i64.wrap (y5.1+(List.length [(⟨y2.1.ino,y2.1.kind,(0:Int),y2.1.data,(0:Int),y2.1.entries⟩:ae)]:Int)))))++(((y6.drop (0+(Int.toNat y5.1))).take (min ((Int.toNat (IntKind.i64.wrap ((List.length y6:Int)+(List.length [(⟨y2.1.ino,y2.1.kind,(0:Int),y2.1.data,(0:Int),y2.1.entries⟩:ae)]:Int)))) - (Int.toNat y5.1)) ((Int.toNat (IntKind.i64.wrap ((List.length y6:Int)+(List.length [(⟨y2.1.ino,y2.1.kind,(0:Int),y2.1.data,(0:Int),y2.1.entries⟩:ae)]:Int)))) - (Int.toNat (IntKind.i64.wrap (y5.1+(List.length [(⟨y2.1.ino,y2.1.kind,(0:Int),y2.1.data,(0:Int),y2.1.entries⟩:ae)]:Int)))))))++y6.drop ((0+(Int.toNat (IntKind.i64.wrap (y5.1+(List.length [(⟨y2.1.ino,y2.1.kind,(0:Int),y2.1.data,(0:Int),y2.1.entries⟩:ae)]:Int)))))+(min ((Int.toNat (IntKind.i64.wrap ((List.length y6:Int)+(List.length [(⟨y2.1.ino,y2.1.kind,(0:Int),y2.1.data,(0:Int),y2.1.entries⟩:ae)]:Int)))) - (Int.toNat y5.1)) ((Int.toNat (IntKind.i64.wrap ((List.length y6:Int)+(List.length [(⟨y2.1.ino,y2.1.kind,(0:Int),y2.1.data,(0:Int),y2.1.entries⟩:ae)]:Int)))) - (Int.toNat (IntKind.i64.wrap (y5.1+(List.length [(⟨y2.1.ino,y2.1.kind,(0:Int),y2.1.data,(0:Int),y2.1.entries⟩:ae)]:Int))))))))).drop (0+(Int.toNat y5.1))).drop (min [(⟨y2.1.ino,y2.1.kind,(0:Int),y2.1.data,(0:Int),y2.1.entries⟩:ae)].length ((Int.toNat (IntKind.i64.wrap ((List.length y6:Int)+(List.length [(⟨y2.1.ino,y2.1.kind,(0:Int),y2.1.data,(0:Int),y2.1.entries⟩:ae)]:Int)))) - (Int.toNat y5.1))))).drop 0).take (Int.toNat (IntKind.i64.wrap ((List.length y6:Int)+(List.length [(⟨y2.1.ino,y2.1.kind,(0:Int),y2.1.data,(0:Int),y2.1.entries⟩:ae)]:Int)))))⟩:aU)⟩:ao) (⟨w1,w2.ino,false, []⟩:Kept)) fun y11=>some (y11,(0:Int))) (none)) (none)) (none)) (
 ah (decide (0≤y5.1∧y5.1≤((Int.toNat (IntKind.i64.wrap ((List.length y6:Int)+(List.length [(⟨y2.1.ino,y2.1.kind,(0:Int),y2.1.data,(0:Int),y2.1.entries⟩:ae)]:Int)))):Int))) (
 ah (Nat.ble ((0+(Int.toNat y5.1))+((Int.toNat (IntKind.i64.wrap ((List.length y6:Int)+(List.length [(⟨y2.1.ino,y2.1.kind,(0:Int),y2.1.data,(0:Int),y2.1.entries⟩:ae)]:Int)))) - (Int.toNat y5.1))) (y6.take (0+(Int.toNat (IntKind.i64.wrap (y5.1+(List.length [(⟨y2.1.ino,y2.1.kind,(0:Int),y2.1.data,(0:Int),y2.1.entries⟩:ae)]:Int)))))++((y6.drop (0+(Int.toNat y5.1))).take (min ((Int.toNat (IntKind.i64.wrap ((List.length y6:Int)+(List.length [(⟨y2.1.ino,y2.1.kind,(0:Int),y2.1.data,(0:Int),y2.1.entries⟩:ae)]:Int)))) - (Int.toNat y5.1)) ((Int.toNat (IntKind.i64.wrap ((List.length y6:Int)+(List.length [(⟨y2.1.ino,y2.1.kind,(0:Int),y2.1.data,(0:Int),y2.1.entries⟩:ae)]:Int)))) - (Int.toNat (IntKind.i64.wrap (y5.1+(List.length [(⟨y2.1.ino,y2.1.kind,(0:Int),y2.1.data,(0:Int),y2.1.entries⟩:ae)]:Int)))))))).length) (
 ah (Nat.ble (0+(Int.toNat (IntKind.i64.wrap ((List.length y6:Int)+(List.length [(⟨y2.1.ino,y2.1.kind,(0:Int),y2.1.data,(0:Int),y2.1.entries⟩:ae)]:Int))))) ((y6.take (0+(Int.toNat (IntKind.i64.wrap (y5.1+(List.length [(⟨y2.1.ino,y2.1.kind,(0:Int),y2.1.data,(0:Int),y2.1.entries⟩:ae)]:Int)))))++((y6.drop (0+(Int.toNat y5.1))).take (min ((Int.toNat (IntKind.i64.wrap ((List.length y6:Int)+(List.length [(⟨y2.1.ino,y2.1.kind,(0:Int),y2.1.data,(0:Int),y2.1.entries⟩:ae)]:Int)))) - (Int.toNat y5.1)) ((Int.toNat (IntKind.i64.wrap ((List.length y6:Int)+(List.length [(⟨y2.1.ino,y2.1.kind,(0:Int),y2.1.data,(0:Int),y2.1.entries⟩:ae)]:Int)))) - (Int.toNat (IntKind.i64.wrap (y5.1+(List.length [(⟨y2.1.ino,y2.1.kind,(0:Int),y2.1.data,(0:Int),y2.1.entries⟩:ae)]:Int)))))))).take (0+(Int.toNat y5.1))++([(⟨y2.1.ino,y2.1.kind,(0:Int),y2.1.data,(0:Int),y2.1.entries⟩:ae)].take ((Int.toNat (IntKind.i64.wrap ((List.length y6:Int)+(List.length [(⟨y2.1.ino,y2.1.kind,(0:Int),y2.1.data,(0:Int),y2.1.entries⟩:ae)]:Int)))) - (Int.toNat y5.1))++((y6.take (0+(Int.toNat (IntKind.i64.wrap (y5.1+(List.length [(⟨y2.1.ino,y2.1.kind,(0:Int),y2.1.data,(0:Int),y2.1.entries⟩:ae)]:Int)))))++((y6.drop (0+(Int.toNat y5.1))).take (min ((Int.toNat (IntKind.i64.wrap ((List.length y6:Int)+(List.length [(⟨y2.1.ino,y2.1.kind,(0:Int),y2.1.data,(0:Int),y2.1.entries⟩:ae)]:Int)))) - (Int.toNat y5.1)) ((Int.toNat (IntKind.i64.wrap ((List.length y6:Int)+(List.length [(⟨y2.1.ino,y2.1.kind,(0:Int),y2.1.data,(0:Int),y2.1.entries⟩:ae)]:Int)))) - (Int.toNat (IntKind.i64.wrap (y5.1+(List.length [(⟨y2.1.ino,y2.1.kind,(0:Int),y2.1.data,(0:Int),y2.1.entries⟩:ae)]:Int)))))))).drop (0+(Int.toNat y5.1))).drop (min [(⟨y2.1.ino,y2.1.kind,(0:Int),y2.1.data,(0:Int),y2.1.entries⟩:ae)].length ((Int.toNat (IntKind.i64.wrap ((List.length y6:Int)+(List.length [(⟨y2.1.ino,y2.1.kind,(0:Int),y2.1.data,(0:Int),y2.1.entries⟩:ae)]:Int)))) - (Int.toNat y5.1))))).length) (aj (eE (⟨y3,(⟨w0.al.kept,((((y6.take (0+(Int.toNat (IntKind.i64.wrap (y5.1+(List.length [(⟨y2.1.ino,y2.1.kind,(0:Int),y2.1.data,(0:Int),y2.1.entries⟩:ae)]:Int)))))++((y6.drop (0+(Int.toNat y5.1))).take (min ((Int.toNat (IntKind.i64.wrap ((List.length y6:Int)+(List.length [(⟨y2.1.ino,y2.1.kind,(0:Int),y2.1.data,(0:Int),y2.1.entries⟩:ae)]:Int)))) - (Int.toNat y5.1)) ((Int.toNat (IntKind.i64.wrap ((List.length y6:Int)+(List.length [(⟨y2.1.ino,y2.1.kind,(0:Int),y2.1.data,(0:Int),y2.1.entries⟩:ae)]:Int)))) - (Int.toNat (IntKind.i64.wrap (y5.1+(List.length [(⟨y2.1.ino,y2.1.kind,(0:Int),y2.1.data,(0:Int),y2.1.entries⟩:ae)]:Int)))))))).take (0+(Int.toNat y5.1))++([(⟨y2.1.ino,y2.1.kind,(0:Int),y2.1.data,(0:Int),y2.1.entries⟩:ae)].take ((Int.toNat (IntKind.i64.wrap ((List.length y6:Int)+(List.length [(⟨y2.1.ino,y2.1.kind,(0:Int),y2.1.data,(0:Int),y2.1.entries⟩:ae)]:Int)))) - (Int.toNat y5.1))++((y6.take (0+(Int.toNat (IntKind.i64.wrap (y5.1+(List.length [(⟨y2.1.ino,y2.1.kind,(0:Int),y2.1.data,(0:Int),y2.1.entries⟩:ae)]:Int)))))++((y6.drop (0+(Int.toNat y5.1))).take (min ((Int.toNat (IntKind.i64.wrap ((List.length y6:Int)+(List.length [(⟨y2.1.ino,y2.1.kind,(0:Int),y2.1.data,(0:Int),y2.1.entries⟩:ae)]:Int)))) - (Int.toNat y5.1)) ((Int.toNat (IntKind.i64.wrap ((List.length y6:Int)+(List.length [(⟨y2.1.ino,y2.1.kind,(0:Int),y2.1.data,(0:Int),y2.1.entries⟩:ae)]:Int)))) - (Int.toNat (IntKind.i64.wrap (y5.1+(List.length [(⟨y2.1.ino,y2.1.kind,(0:Int),y2.1.data,(0:Int),y2.1.entries⟩:ae)]:Int)))))))).drop (0+(Int.toNat y5.1))).drop (min [(⟨y2.1.ino,y2.1.kind,(0:Int),y2.1.data,(0:Int),y2.1.entries⟩:ae)].length ((Int.toNat (IntKind.i64.wrap ((List.length y6:Int)+(List.length [(⟨y2.1.ino,y2.1.kind,(0:Int),y2.1.data,(0:Int),y2.1.entries⟩:ae)]:Int)))) - (Int.toNat y5.1))))).drop 0).take (Int.toNat (IntKind.i64.wrap ((List.length y6:Int)+(List.length [(⟨y2.1.ino,y2.1.kind,(0:Int),y2.1.data,(0:Int),y2.1.entries⟩:ae)]:Int)))))⟩:aU)⟩:ao) (⟨w1,w2.ino,false, []⟩:Kept)) fun y12=>some (y12,(0:Int))) (none)) (none)) (none))) (none)) (none)) (none)) (none)) (none)) (none)) (none)) (none))))) (none)) (aj (eE (⟨y3,w0.al⟩:ao) (⟨w1,w2.ino,false, []⟩:Kept)) fun y13=>some (y13,(0:Int))))
noncomputable def jH (w0:ao) (w1:Int):Option (ae×Bool):=
 aj (c_ w0.fs w1) fun y1=>
 ah y1.2 (some (y1.1,true)) (aj (gE w0.al.aI w1) fun y2=>
 ah (!y2.2) (some ((⟨0,0,0, [],0,([] :List Entry)⟩:ae),false)) (
 ah (decide (0≤y2.1)) (aj w0.al.aI[Int.toNat y2.1]? fun e3=>some (e3,true)) (none)))
noncomputable def di {R:Type} (x2:Int) (x5:Int) (x7:List Kept) (kr:Int→Option R) (k0:Option R):Nat→Int→Option R
 |0,_=>none
 |n+1,x3=>
  ah (decide (x3<x2)) (
  ah (decide (0≤x3∧x3<(x7.length:Int))) (aj x7[(Int.toNat x3)]? fun e8=>
  ah (e8.slot==x5) ((kr x3)) ((di x2 x5 x7 kr k0 n (IntKind.i64.wrap (x3+(1:Int)))))) (none)) ((k0))
noncomputable def cS {R:Type} (x22:Int) (k0:Int→(List Kept)→Option R):Nat→Int→Int→(List Kept)→Option R
 |0,_,_,_=>none
 |n+1,x19,x20,x24=>
  ah (decide (x20<(List.length x24:Int))) (
  ah (decide (0≤x20∧x20<(x24.length:Int))) (aj x24[(Int.toNat x20)]? fun e25=>
  ah (!(e25.slot==x22)) (
  ah (decide (0≤x19∧x19<(x24.length:Int))) (aj x24[(Int.toNat x19)]? fun e26=>(cS x22 k0 n (IntKind.i64.wrap (x19+(1:Int))) (IntKind.i64.wrap (x20+(1:Int))) (x24.set (Int.toNat x19) e25))) (none)) ((cS x22 k0 n x19 (IntKind.i64.wrap (x20+(1:Int))) x24))) (none)) ((k0 x19 x24))
noncomputable def aR (w0:ao) (w1:Int):Option (ao):=
 aj (dP w0.al.kept) fun y1=>di (List.length y1:Int) w1 y1 (fun z18=>
 ah (z18==(-1:Int)) (some (⟨w0.fs,(⟨y1,w0.al.aI⟩:aU)⟩:ao)) (cS w1 (fun z31 z32=>
 ah (decide (0≤z31∧z31≤(z32.length:Int))) (
 ah (Nat.ble ((Int.toNat z31)+(z32.length - (Int.toNat z31))) z32.length) (
 ah (decide (0≤z31∧z31≤((z32.take (Int.toNat z31)++(List.replicate (z32.length - (Int.toNat z31)) (⟨0,0,false, []⟩:Kept)++z32.drop ((Int.toNat z31)+(z32.length - (Int.toNat z31))))).length:Int))) (
 ah (Nat.ble (0+(Int.toNat z31)) (z32.take (Int.toNat z31)++(List.replicate (z32.length - (Int.toNat z31)) (⟨0,0,false, []⟩:Kept)++z32.drop ((Int.toNat z31)+(z32.length - (Int.toNat z31))))).length) (some (⟨w0.fs,(⟨(((z32.take (Int.toNat z31)++(List.replicate (z32.length - (Int.toNat z31)) (⟨0,0,false, []⟩:Kept)++z32.drop ((Int.toNat z31)+(z32.length - (Int.toNat z31))))).drop 0).take (Int.toNat z31)),w0.al.aI⟩:aU)⟩:ao)) (none)) (none)) (none)) (none)) bg z18 (IntKind.i64.wrap (z18+(1:Int))) y1)) (some (⟨w0.fs,(⟨y1,w0.al.aI⟩:aU)⟩:ao)) bg (0:Int)
noncomputable def bJ {R:Type} (x7:Int) (x14:ae) (x15:List ae) (kr:Int→Option R) (k0:Option R):Nat→Int→Option R
 |0,_=>none
 |n+1,x8=>
  ah (decide (x8<x7)) (
  ah (decide (0≤x8∧x8<(x15.length:Int))) (aj x15[(Int.toNat x8)]? fun e16=>
  ah (e16.ino==x14.ino) ((kr x8)) ((bJ x7 x14 x15 kr k0 n (IntKind.i64.wrap (x8+(1:Int)))))) (none)) ((k0))
noncomputable def bQ {R:Type} (x43:ae) (k0:Int→(List ae)→Option R):Nat→Int→Int→(List ae)→Option R
 |0,_,_,_=>none
 |n+1,x36,x37,x44=>
  ah (decide (x37<(List.length x44:Int))) (
  ah (decide (0≤x37∧x37<(x44.length:Int))) (aj x44[(Int.toNat x37)]? fun e45=>
  ah (!(e45.ino==x43.ino)) (
  ah (decide (0≤x36∧x36<(x44.length:Int))) (aj x44[(Int.toNat x36)]? fun e46=>(bQ x43 k0 n (IntKind.i64.wrap (x36+(1:Int))) (IntKind.i64.wrap (x37+(1:Int))) (x44.set (Int.toNat x36) e45))) (none)) ((bQ x43 k0 n x36 (IntKind.i64.wrap (x37+(1:Int))) x44))) (none)) ((k0 x36 x44))
noncomputable def cH (w0:ao) (w1:Int) (w2:ax):Option (ao×Int):=
 aj (gr w0 w1) fun y1=>aj (c_ w0.fs y1.1.ino) fun y2=>
 ah (!y1.2) (some (w0,(13:Int))) (
 ah y1.1.content (some (w0,(13:Int))) (aj (lA w2.name) fun y3=>
 ah (!y3) (some (w0,(9:Int))) (
 ah y2.2 (
 ah (y2.1.kind==(2:Int)) (some (w0,(9:Int))) (
 ah (!y2.2) (aj (jH w0 y1.1.ino) fun y4=>
 ah (y4.1.kind==(1:Int)) (aj (fx w0.fs (1:Int) (List.length y4.1.data:Int)) fun y5=>
 ah (!y5) (some (w0,(8:Int))) (
 ah (y4.1.kind==(2:Int)) (aj (bP w0.al.aI) fun y6=>bJ (List.length y6:Int) (⟨y4.1.ino,y4.1.kind,y4.1.aq,y4.1.data,w2.dir,y4.1.entries⟩:ae) y6 (fun z32=>
 ah (z32==(-1:Int)) (aj (bh w0.fs (⟨((⟨y4.1.ino,y4.1.kind,y4.1.aq,y4.1.data,w2.dir,y4.1.entries⟩:ae).ino),((⟨y4.1.ino,y4.1.kind,y4.1.aq,y4.1.data,w2.dir,y4.1.entries⟩:ae).kind),((⟨y4.1.ino,y4.1.kind,y4.1.aq,y4.1.data,w2.dir,y4.1.entries⟩:ae).aq),((⟨y4.1.ino,y4.1.kind,y4.1.aq,y4.1.data,w2.dir,y4.1.entries⟩:ae).data),((⟨y4.1.ino,y4.1.kind,y4.1.aq,y4.1.data,w2.dir,y4.1.entries⟩:ae).parent),((⟨y4.1.ino,y4.1.kind,y4.1.aq,y4.1.data,w2.dir,y4.1.entries⟩:ae).entries)⟩:ae)) fun y33=>aj (bO y33 w2 y1.1.ino) fun y34=>aj (aR (⟨y34,(⟨w0.al.kept,y6⟩:aU)⟩:ao) w1) fun y35=>some (y35,(0:Int))) (bQ (⟨((⟨y4.1.ino,y4.1.kind,y4.1.aq,y4.1.data,w2.dir,y4.1.entries⟩:ae).ino),((⟨y4.1.ino,y4.1.kind,y4.1.aq,y4.1.data,w2.dir,y4.1.entries⟩:ae).kind),((⟨y4.1.ino,y4.1.kind,y4.1.aq,y4.1.data,w2.dir,y4.1.entries⟩:ae).aq),((⟨y4.1.ino,y4.1.kind,y4.1.aq,y4.1.data,w2.dir,y4.1.entries⟩:ae).data),((⟨y4.1.ino,y4.1.kind,y4.1.aq,y4.1.data,w2.dir,y4.1.entries⟩:ae).parent),((⟨y4.1.ino,y4.1.kind,y4.1.aq,y4.1.data,w2.dir,y4.1.entries⟩:ae).entries)⟩:ae) (fun z55 z56=>
 ah (decide (0≤z55∧z55≤(z56.length:Int))) (
 ah (Nat.ble ((Int.toNat z55)+(z56.length - (Int.toNat z55))) z56.length) (
 ah (decide (0≤z55∧z55≤((z56.take (Int.toNat z55)++(List.replicate (z56.length - (Int.toNat z55)) (⟨0,0,0, [],0,([] :List Entry)⟩:ae)++z56.drop ((Int.toNat z55)+(z56.length - (Int.toNat z55))))).length:Int))) (aj (bh w0.fs (⟨((⟨((⟨y4.1.ino,y4.1.kind,y4.1.aq,y4.1.data,w2.dir,y4.1.entries⟩:ae).ino),((⟨y4.1.ino,y4.1.kind,y4.1.aq,y4.1.data,w2.dir,y4.1.entries⟩:ae).kind),((⟨y4.1.ino,y4.1.kind,y4.1.aq,y4.1.data,w2.dir,y4.1.entries⟩:ae).aq),((⟨y4.1.ino,y4.1.kind,y4.1.aq,y4.1.data,w2.dir,y4.1.entries⟩:ae).data),((⟨y4.1.ino,y4.1.kind,y4.1.aq,y4.1.data,w2.dir,y4.1.entries⟩:ae).parent),((⟨y4.1.ino,y4.1.kind,y4.1.aq,y4.1.data,w2.dir,y4.1.entries⟩:ae).entries)⟩:ae).ino),((⟨((⟨y4.1.ino,y4.1.kind,y4.1.aq,y4.1.data,w2.dir,y4.1.entries⟩:ae).ino),((⟨y4.1.ino,y4.1.kind,y4.1.aq,y4.1.data,w2.dir,y4.1.entries⟩:ae).kind),((⟨y4.1.ino,y4.1.kind,y4.1.aq,y4.1.data,w2.dir,y4.1.entries⟩:ae).aq),((⟨y4.1.ino,y4.1.kind,y4.1.aq,y4.1.data,w2.dir,y4.1.entries⟩:ae).data),((⟨y4.1.ino,y4.1.kind,y4.1.aq,y4.1.data,w2.dir,y4.1.entries⟩:ae).parent),((⟨y4.1.ino,y4.1.kind,y4.1.aq,y4.1.data,w2.dir,y4.1.entries⟩:ae).entries)⟩:ae).kind),((⟨((⟨y4.1.ino,y4.1.kind,y4.1.aq,y4.1.data,w2.dir,y4.1.entries⟩:ae).ino),((⟨y4.1.ino,y4.1.kind,y4.1.aq,y4.1.data,w2.dir,y4.1.entries⟩:ae).kind),((⟨y4.1.ino,y4.1.kind,y4.1.aq,y4.1.data,w2.dir,y4.1.entries⟩:ae).aq),((⟨y4.1.ino,y4.1.kind,y4.1.aq,y4.1.data,w2.dir,y4.1.entries⟩:ae).data),((⟨y4.1.ino,y4.1.kind,y4.1.aq,y4.1.data,w2.dir,y4.1.entries⟩:ae).parent),((⟨y4.1.ino,y4.1.kind,y4.1.aq,y4.1.data,w2.dir,y4.1.entries⟩:ae).entries)⟩:ae).aq),((⟨((⟨y4.1.ino,y4.1.kind,y4.1.aq,y4.1.data,w2.dir,y4.1.entries⟩:ae).ino),((⟨y4.1.ino,y4.1.kind,y4.1.aq,y4.1.data,w2.dir,y4.1.entries⟩:ae).kind),((⟨y4.1.ino,y4.1.kind,y4.1.aq,y4.1.data,w2.dir,y4.1.entries⟩:ae).aq),((⟨y4.1.ino,y4.1.kind,y4.1.aq,y4.1.data,w2.dir,y4.1.entries⟩:ae).data),((⟨y4.1.ino,y4.1.kind,y4.1.aq,y4.1.data,w2.dir,y4.1.entries⟩:ae).parent),((⟨y4.1.ino,y4.1.kind,y4.1.aq,y4.1.data,w2.dir,y4.1.entries⟩:ae).entries)⟩:ae).data),((⟨((⟨y4.1.ino,y4.1.kind,y4.1.aq,y4.1.data,w2.dir,y4.1.entries⟩:ae).ino),((⟨y4.1.ino,y4.1.kind,y4.1.aq,y4.1.data,w2.dir,y4.1.entries⟩:ae).kind),((⟨y4.1.ino,y4.1.kind,y4.1.aq,y4.1.data,w2.dir,y4.1.entries⟩:ae).aq),((⟨y4.1.ino,y4.1.kind,y4.1.aq,y4.1.data,w2.dir,y4.1.entries⟩:ae).data),((⟨y4.1.ino,y4.1.kind,y4.1.aq,y4.1.data,w2.dir,y4.1.entries⟩:ae).parent),((⟨y4.1.ino,y4.1.kind,y4.1.aq,y4.1.data,w2.dir,y4.1.entries⟩:ae).entries)⟩:ae).parent),((⟨((⟨y4.1.ino,y4.1.kind,y4.1.aq,y4.1.data,w2.dir,y4.1.entries⟩:ae).ino),((⟨y4.1.ino,y4.1.kind,y4.1.aq,y4.1.data,w2.dir,y4.1.entries⟩:ae).kind),((⟨y4.1.ino,y4.1.kind,y4.1.aq,y4.1.data,w2.dir,y4.1.entries⟩:ae).aq),((⟨y4.1.ino,y4.1.kind,y4.1.aq,y4.1.data,w2.dir,y4.1.entries⟩:ae).data),((⟨y4.1.ino,y4.1.kind,y4.1.aq,y4.1.data,w2.dir,y4.1.entries⟩:ae).parent),((⟨y4.1.ino,y4.1.kind,y4.1.aq,y4.1.data,w2.dir,y4.1.entries⟩:ae).entries)⟩:ae).entries)⟩:ae)) fun y57=>aj (bO y57 w2 y1.1.ino) fun y58=>
 ah (Nat.ble (0+(Int.toNat z55)) (z56.take (Int.toNat z55)++(List.replicate (z56.length - (Int.toNat z55)) (⟨0,0,0, [],0,([] :List Entry)⟩:ae)++z56.drop ((Int.toNat z55)+(z56.length - (Int.toNat z55))))).length) (aj (aR (⟨y58,(⟨w0.al.kept,(((z56.take (Int.toNat z55)++(List.replicate (z56.length - (Int.toNat z55)) (⟨0,0,0, [],0,([] :List Entry)⟩:ae)++z56.drop ((Int.toNat z55)+(z56.length - (Int.toNat z55))))).drop 0).take (Int.toNat z55))⟩:aU)⟩:ao) w1) fun y59=>some (y59,(0:Int))) (none)) (none)) (none)) (none)) bg z32 (IntKind.i64.wrap (z32+(1:Int))) y6)) (aj (bh w0.fs (⟨((⟨y4.1.ino,y4.1.kind,y4.1.aq,y4.1.data,w2.dir,y4.1.entries⟩:ae).ino),((⟨y4.1.ino,y4.1.kind,y4.1.aq,y4.1.data,w2.dir,y4.1.entries⟩:ae).kind),((⟨y4.1.ino,y4.1.kind,y4.1.aq,y4.1.data,w2.dir,y4.1.entries⟩:ae).aq),((⟨y4.1.ino,y4.1.kind,y4.1.aq,y4.1.data,w2.dir,y4.1.entries⟩:ae).data),((⟨y4.1.ino,y4.1.kind,y4.1.aq,y4.1.data,w2.dir,y4.1.entries⟩:ae).parent),((⟨y4.1.ino,y4.1.kind,y4.1.aq,y4.1.data,w2.dir,y4.1.entries⟩:ae).entries)⟩:ae)) fun y60=>aj (bO y60 w2 y1.1.ino) fun y61=>aj (aR (⟨y61,(⟨w0.al.kept,y6⟩:aU)⟩:ao) w1) fun y62=>some (y62,(0:Int))) bg (0:Int)) (aj (bP w0.al.aI) fun y63=>bJ (List.length y63:Int) y4.1 y63 (fun z64=>
 ah (z64==(-1:Int)) (aj (bh w0.fs y4.1) fun y65=>aj (bO y65 w2 y1.1.ino) fun y66=>aj (aR (⟨y66,(⟨w0.al.kept,y63⟩:aU)⟩:ao) w1) fun y67=>some (y67,(0:Int))) (bQ y4.1 (fun z68 z69=>
 ah (decide (0≤z68∧z68≤(z69.length:Int))) (
 ah (Nat.ble ((Int.toNat z68)+(z69.length - (Int.toNat z68))) z69.length) (
 ah (decide (0≤z68∧z68≤((z69.take (Int.toNat z68)++(List.replicate (z69.length - (Int.toNat z68)) (⟨0,0,0, [],0,([] :List Entry)⟩:ae)++z69.drop ((Int.toNat z68)+(z69.length - (Int.toNat z68))))).length:Int))) (aj (bh w0.fs y4.1) fun y70=>aj (bO y70 w2 y1.1.ino) fun y71=>
 ah (Nat.ble (0+(Int.toNat z68)) (z69.take (Int.toNat z68)++(List.replicate (z69.length - (Int.toNat z68)) (⟨0,0,0, [],0,([] :List Entry)⟩:ae)++z69.drop ((Int.toNat z68)+(z69.length - (Int.toNat z68))))).length) (aj (aR (⟨y71,(⟨w0.al.kept,(((z69.take (Int.toNat z68)++(List.replicate (z69.length - (Int.toNat z68)) (⟨0,0,0, [],0,([] :List Entry)⟩:ae)++z69.drop ((Int.toNat z68)+(z69.length - (Int.toNat z68))))).drop 0).take (Int.toNat z68))⟩:aU)⟩:ao) w1) fun y72=>some (y72,(0:Int))) (none)) (none)) (none)) (none)) bg z64 (IntKind.i64.wrap (z64+(1:Int))) y63)) (aj (bh w0.fs y4.1) fun y73=>aj (bO y73 w2 y1.1.ino) fun y74=>aj (aR (⟨y74,(⟨w0.al.kept,y63⟩:aU)⟩:ao) w1) fun y75=>some (y75,(0:Int))) bg (0:Int)))) (aj (fx w0.fs (1:Int) (0:Int)) fun y76=>
 ah (!y76) (some (w0,(8:Int))) (
 ah (y4.1.kind==(2:Int)) (aj (bP w0.al.aI) fun y77=>bJ (List.length y77:Int) (⟨y4.1.ino,y4.1.kind,y4.1.aq,y4.1.data,w2.dir,y4.1.entries⟩:ae) y77 (fun z78=>
 ah (z78==(-1:Int)) (aj (bh w0.fs (⟨((⟨y4.1.ino,y4.1.kind,y4.1.aq,y4.1.data,w2.dir,y4.1.entries⟩:ae).ino),((⟨y4.1.ino,y4.1.kind,y4.1.aq,y4.1.data,w2.dir,y4.1.entries⟩:ae).kind),((⟨y4.1.ino,y4.1.kind,y4.1.aq,y4.1.data,w2.dir,y4.1.entries⟩:ae).aq),((⟨y4.1.ino,y4.1.kind,y4.1.aq,y4.1.data,w2.dir,y4.1.entries⟩:ae).data),((⟨y4.1.ino,y4.1.kind,y4.1.aq,y4.1.data,w2.dir,y4.1.entries⟩:ae).parent),((⟨y4.1.ino,y4.1.kind,y4.1.aq,y4.1.data,w2.dir,y4.1.entries⟩:ae).entries)⟩:ae)) fun y79=>aj (bO y79 w2 y1.1.ino) fun y80=>aj (aR (⟨y80,(⟨w0.al.kept,y77⟩:aU)⟩:ao) w1) fun y81=>some (y81,(0:Int))) (bQ (⟨((⟨y4.1.ino,y4.1.kind,y4.1.aq,y4.1.data,w2.dir,y4.1.entries⟩:ae).ino),((⟨y4.1.ino,y4.1.kind,y4.1.aq,y4.1.data,w2.dir,y4.1.entries⟩:ae).kind),((⟨y4.1.ino,y4.1.kind,y4.1.aq,y4.1.data,w2.dir,y4.1.entries⟩:ae).aq),((⟨y4.1.ino,y4.1.kind,y4.1.aq,y4.1.data,w2.dir,y4.1.entries⟩:ae).data),((⟨y4.1.ino,y4.1.kind,y4.1.aq,y4.1.data,w2.dir,y4.1.entries⟩:ae).parent),((⟨y4.1.ino,y4.1.kind,y4.1.aq,y4.1.data,w2.dir,y4.1.entries⟩:ae).entries)⟩:ae) (fun z82 z83=>
 ah (decide (0≤z82∧z82≤(z83.length:Int))) (
 ah (Nat.ble ((Int.toNat z82)+(z83.length - (Int.toNat z82))) z83.length) (
 ah (decide (0≤z82∧z82≤((z83.take (Int.toNat z82)++(List.replicate (z83.length - (Int.toNat z82)) (⟨0,0,0, [],0,([] :List Entry)⟩:ae)++z83.drop ((Int.toNat z82)+(z83.length - (Int.toNat z82))))).length:Int))) (aj (bh w0.fs (⟨((⟨((⟨y4.1.ino,y4.1.kind,y4.1.aq,y4.1.data,w2.dir,y4.1.entries⟩:ae).ino),((⟨y4.1.ino,y4.1.kind,y4.1.aq,y4.1.data,w2.dir,y4.1.entries⟩:ae).kind),((⟨y4.1.ino,y4.1.kind,y4.1.aq,y4.1.data,w2.dir,y4.1.entries⟩:ae).aq),((⟨y4.1.ino,y4.1.kind,y4.1.aq,y4.1.data,w2.dir,y4.1.entries⟩:ae).data),((⟨y4.1.ino,y4.1.kind,y4.1.aq,y4.1.data,w2.dir,y4.1.entries⟩:ae).parent),((⟨y4.1.ino,y4.1.kind,y4.1.aq,y4.1.data,w2.dir,y4.1.entries⟩:ae).entries)⟩:ae).ino),((⟨((⟨y4.1.ino,y4.1.kind,y4.1.aq,y4.1.data,w2.dir,y4.1.entries⟩:ae).ino),((⟨y4.1.ino,y4.1.kind,y4.1.aq,y4.1.data,w2.dir,y4.1.entries⟩:ae).kind),((⟨y4.1.ino,y4.1.kind,y4.1.aq,y4.1.data,w2.dir,y4.1.entries⟩:ae).aq),((⟨y4.1.ino,y4.1.kind,y4.1.aq,y4.1.data,w2.dir,y4.1.entries⟩:ae).data),((⟨y4.1.ino,y4.1.kind,y4.1.aq,y4.1.data,w2.dir,y4.1.entries⟩:ae).parent),((⟨y4.1.ino,y4.1.kind,y4.1.aq,y4.1.data,w2.dir,y4.1.entries⟩:ae).entries)⟩:ae).kind),((⟨((⟨y4.1.ino,y4.1.kind,y4.1.aq,y4.1.data,w2.dir,y4.1.entries⟩:ae).ino),((⟨y4.1.ino,y4.1.kind,y4.1.aq,y4.1.data,w2.dir,y4.1.entries⟩:ae).kind),((⟨y4.1.ino,y4.1.kind,y4.1.aq,y4.1.data,w2.dir,y4.1.entries⟩:ae).aq),((⟨y4.1.ino,y4.1.kind,y4.1.aq,y4.1.data,w2.dir,y4.1.entries⟩:ae).data),((⟨y4.1.ino,y4.1.kind,y4.1.aq,y4.1.data,w2.dir,y4.1.entries⟩:ae).parent),((⟨y4.1.ino,y4.1.kind,y4.1.aq,y4.1.data,w2.dir,y4.1.entries⟩:ae).entries)⟩:ae).aq),((⟨((⟨y4.1.ino,y4.1.kind,y4.1.aq,y4.1.data,w2.dir,y4.1.entries⟩:ae).ino),((⟨y4.1.ino,y4.1.kind,y4.1.aq,y4.1.data,w2.dir,y4.1.entries⟩:ae).kind),((⟨y4.1.ino,y4.1.kind,y4.1.aq,y4.1.data,w2.dir,y4.1.entries⟩:ae).aq),((⟨y4.1.ino,y4.1.kind,y4.1.aq,y4.1.data,w2.dir,y4.1.entries⟩:ae).data),((⟨y4.1.ino,y4.1.kind,y4.1.aq,y4.1.data,w2.dir,y4.1.entries⟩:ae).parent),((⟨y4.1.ino,y4.1.kind,y4.1.aq,y4.1.data,w2.dir,y4.1.entries⟩:ae).entries)⟩:ae).data),((⟨((⟨y4.1.ino,y4.1.kind,y4.1.aq,y4.1.data,w2.dir,y4.1.entries⟩:ae).ino),((⟨y4.1.ino,y4.1.kind,y4.1.aq,y4.1.data,w2.dir,y4.1.entries⟩:ae).kind),((⟨y4.1.ino,y4.1.kind,y4.1.aq,y4.1.data,w2.dir,y4.1.entries⟩:ae).aq),((⟨y4.1.ino,y4.1.kind,y4.1.aq,y4.1.data,w2.dir,y4.1.entries⟩:ae).data),((⟨y4.1.ino,y4.1.kind,y4.1.aq,y4.1.data,w2.dir,y4.1.entries⟩:ae).parent),((⟨y4.1.ino,y4.1.kind,y4.1.aq,y4.1.data,w2.dir,y4.1.entries⟩:ae).entries)⟩:ae).parent),((⟨((⟨y4.1.ino,y4.1.kind,y4.1.aq,y4.1.data,w2.dir,y4.1.entries⟩:ae).ino),((⟨y4.1.ino,y4.1.kind,y4.1.aq,y4.1.data,w2.dir,y4.1.entries⟩:ae).kind),((⟨y4.1.ino,y4.1.kind,y4.1.aq,y4.1.data,w2.dir,y4.1.entries⟩:ae).aq),((⟨y4.1.ino,y4.1.kind,y4.1.aq,y4.1.data,w2.dir,y4.1.entries⟩:ae).data),((⟨y4.1.ino,y4.1.kind,y4.1.aq,y4.1.data,w2.dir,y4.1.entries⟩:ae).parent),((⟨y4.1.ino,y4.1.kind,y4.1.aq,y4.1.data,w2.dir,y4.1.entries⟩:ae).entries)⟩:ae).entries)⟩:ae)) fun y84=>aj (bO y84 w2 y1.1.ino) fun y85=>
 ah (Nat.ble (0+(Int.toNat z82)) (z83.take (Int.toNat z82)++(List.replicate (z83.length - (Int.toNat z82)) (⟨0,0,0, [],0,([] :List Entry)⟩:ae)++z83.drop ((Int.toNat z82)+(z83.length - (Int.toNat z82))))).length) (aj (aR (⟨y85,(⟨w0.al.kept,(((z83.take (Int.toNat z82)++(List.replicate (z83.length - (Int.toNat z82)) (⟨0,0,0, [],0,([] :List Entry)⟩:ae)++z83.drop ((Int.toNat z82)+(z83.length - (Int.toNat z82))))).drop 0).take (Int.toNat z82))⟩:aU)⟩:ao) w1) fun y86=>some (y86,(0:Int))) (none)) (none)) (none)) (none)) bg z78 (IntKind.i64.wrap (z78+(1:Int))) y77)) (aj (bh w0.fs (⟨((⟨y4.1.ino,y4.1.kind,y4.1.aq,y4.1.data,w2.dir,y4.1.entries⟩:ae).ino),((⟨y4.1.ino,y4.1.kind,y4.1.aq,y4.1.data,w2.dir,y4.1.entries⟩:ae).kind),((⟨y4.1.ino,y4.1.kind,y4.1.aq,y4.1.data,w2.dir,y4.1.entries⟩:ae).aq),((⟨y4.1.ino,y4.1.kind,y4.1.aq,y4.1.data,w2.dir,y4.1.entries⟩:ae).data),((⟨y4.1.ino,y4.1.kind,y4.1.aq,y4.1.data,w2.dir,y4.1.entries⟩:ae).parent),((⟨y4.1.ino,y4.1.kind,y4.1.aq,y4.1.data,w2.dir,y4.1.entries⟩:ae).entries)⟩:ae)) fun y87=>aj (bO y87 w2 y1.1.ino) fun y88=>aj (aR (⟨y88,(⟨w0.al.kept,y77⟩:aU)⟩:ao) w1) fun y89=>some (y89,(0:Int))) bg (0:Int)) (aj (bP w0.al.aI) fun y90=>bJ (List.length y90:Int) y4.1 y90 (fun z91=>
 ah (z91==(-1:Int)) (aj (bh w0.fs y4.1) fun y92=>aj (bO y92 w2 y1.1.ino) fun y93=>aj (aR (⟨y93,(⟨w0.al.kept,y90⟩:aU)⟩:ao) w1) fun y94=>some (y94,(0:Int))) (bQ y4.1 (fun z95 z96=>
 ah (decide (0≤z95∧z95≤(z96.length:Int))) (
 ah (Nat.ble ((Int.toNat z95)+(z96.length - (Int.toNat z95))) z96.length) (
 ah (decide (0≤z95∧z95≤((z96.take (Int.toNat z95)++(List.replicate (z96.length - (Int.toNat z95)) (⟨0,0,0, [],0,([] :List Entry)⟩:ae)++z96.drop ((Int.toNat z95)+(z96.length - (Int.toNat z95))))).length:Int))) (aj (bh w0.fs y4.1) fun y97=>aj (bO y97 w2 y1.1.ino) fun y98=>
 ah (Nat.ble (0+(Int.toNat z95)) (z96.take (Int.toNat z95)++(List.replicate (z96.length - (Int.toNat z95)) (⟨0,0,0, [],0,([] :List Entry)⟩:ae)++z96.drop ((Int.toNat z95)+(z96.length - (Int.toNat z95))))).length) (aj (aR (⟨y98,(⟨w0.al.kept,(((z96.take (Int.toNat z95)++(List.replicate (z96.length - (Int.toNat z95)) (⟨0,0,0, [],0,([] :List Entry)⟩:ae)++z96.drop ((Int.toNat z95)+(z96.length - (Int.toNat z95))))).drop 0).take (Int.toNat z95))⟩:aU)⟩:ao) w1) fun y99=>some (y99,(0:Int))) (none)) (none)) (none)) (none)) bg z91 (IntKind.i64.wrap (z91+(1:Int))) y90)) (aj (bh w0.fs y4.1) fun y100=>aj (bO y100 w2 y1.1.ino) fun y101=>aj (aR (⟨y101,(⟨w0.al.kept,y90⟩:aU)⟩:ao) w1) fun y102=>some (y102,(0:Int))) bg (0:Int))))) (aj (bO w0.fs w2 y1.1.ino) fun y103=>aj (aR (⟨y103,w0.al⟩:ao) w1) fun y104=>some (y104,(0:Int))))) (
 ah (!y2.2) (aj (jH w0 y1.1.ino) fun y105=>
 ah (y105.1.kind==(1:Int)) (aj (fx w0.fs (1:Int) (List.length y105.1.data:Int)) fun y106=>
 ah (!y106) (some (w0,(8:Int))) (
 ah (y105.1.kind==(2:Int)) (aj (bP w0.al.aI) fun y107=>bJ (List.length y107:Int) (⟨y105.1.ino,y105.1.kind,y105.1.aq,y105.1.data,w2.dir,y105.1.entries⟩:ae) y107 (fun z108=>
 ah (z108==(-1:Int)) (aj (bh w0.fs (⟨((⟨y105.1.ino,y105.1.kind,y105.1.aq,y105.1.data,w2.dir,y105.1.entries⟩:ae).ino),((⟨y105.1.ino,y105.1.kind,y105.1.aq,y105.1.data,w2.dir,y105.1.entries⟩:ae).kind),((⟨y105.1.ino,y105.1.kind,y105.1.aq,y105.1.data,w2.dir,y105.1.entries⟩:ae).aq),((⟨y105.1.ino,y105.1.kind,y105.1.aq,y105.1.data,w2.dir,y105.1.entries⟩:ae).data),((⟨y105.1.ino,y105.1.kind,y105.1.aq,y105.1.data,w2.dir,y105.1.entries⟩:ae).parent),((⟨y105.1.ino,y105.1.kind,y105.1.aq,y105.1.data,w2.dir,y105.1.entries⟩:ae).entries)⟩:ae)) fun y109=>aj (bO y109 w2 y1.1.ino) fun y110=>aj (aR (⟨y110,(⟨w0.al.kept,y107⟩:aU)⟩:ao) w1) fun y111=>some (y111,(0:Int))) (bQ (⟨((⟨y105.1.ino,y105.1.kind,y105.1.aq,y105.1.data,w2.dir,y105.1.entries⟩:ae).ino),((⟨y105.1.ino,y105.1.kind,y105.1.aq,y105.1.data,w2.dir,y105.1.entries⟩:ae).kind),((⟨y105.1.ino,y105.1.kind,y105.1.aq,y105.1.data,w2.dir,y105.1.entries⟩:ae).aq),((⟨y105.1.ino,y105.1.kind,y105.1.aq,y105.1.data,w2.dir,y105.1.entries⟩:ae).data),((⟨y105.1.ino,y105.1.kind,y105.1.aq,y105.1.data,w2.dir,y105.1.entries⟩:ae).parent),((⟨y105.1.ino,y105.1.kind,y105.1.aq,y105.1.data,w2.dir,y105.1.entries⟩:ae).entries)⟩:ae) (fun z112 z113=>
 ah (decide (0≤z112∧z112≤(z113.length:Int))) (
 ah (Nat.ble ((Int.toNat z112)+(z113.length - (Int.toNat z112))) z113.length) (
 ah (decide (0≤z112∧z112≤((z113.take (Int.toNat z112)++(List.replicate (z113.length - (Int.toNat z112)) (⟨0,0,0, [],0,([] :List Entry)⟩:ae)++z113.drop ((Int.toNat z112)+(z113.length - (Int.toNat z112))))).length:Int))) (aj (bh w0.fs (⟨((⟨((⟨y105.1.ino,y105.1.kind,y105.1.aq,y105.1.data,w2.dir,y105.1.entries⟩:ae).ino),((⟨y105.1.ino,y105.1.kind,y105.1.aq,y105.1.data,w2.dir,y105.1.entries⟩:ae).kind),((⟨y105.1.ino,y105.1.kind,y105.1.aq,y105.1.data,w2.dir,y105.1.entries⟩:ae).aq),((⟨y105.1.ino,y105.1.kind,y105.1.aq,y105.1.data,w2.dir,y105.1.entries⟩:ae).data),((⟨y105.1.ino,y105.1.kind,y105.1.aq,y105.1.data,w2.dir,y105.1.entries⟩:ae).parent),((⟨y105.1.ino,y105.1.kind,y105.1.aq,y105.1.data,w2.dir,y105.1.entries⟩:ae).entries)⟩:ae).ino),((⟨((⟨y105.1.ino,y105.1.kind,y105.1.aq,y105.1.data,w2.dir,y105.1.entries⟩:ae).ino),((⟨y105.1.ino,y105.1.kind,y105.1.aq,y105.1.data,w2.dir,y105.1.entries⟩:ae).kind),((⟨y105.1.ino,y105.1.kind,y105.1.aq,y105.1.data,w2.dir,y105.1.entries⟩:ae).aq),((⟨y105.1.ino,y105.1.kind,y105.1.aq,y105.1.data,w2.dir,y105.1.entries⟩:ae).data),((⟨y105.1.ino,y105.1.kind,y105.1.aq,y105.1.data,w2.dir,y105.1.entries⟩:ae).parent),((⟨y105.1.ino,y105.1.kind,y105.1.aq,y105.1.data,w2.dir,y105.1.entries⟩:ae).entries)⟩:ae).kind),((⟨((⟨y105.1.ino,y105.1.kind,y105.1.aq,y105.1.data,w2.dir,y105.1.entries⟩:ae).ino),((⟨y105.1.ino,y105.1.kind,y105.1.aq,y105.1.data,w2.dir,y105.1.entries⟩:ae).kind),((⟨y105.1.ino,y105.1.kind,y105.1.aq,y105.1.data,w2.dir,y105.1.entries⟩:ae).aq),((⟨y105.1.ino,y105.1.kind,y105.1.aq,y105.1.data,w2.dir,y105.1.entries⟩:ae).data),((⟨y105.1.ino,y105.1.kind,y105.1.aq,y105.1.data,w2.dir,y105.1.entries⟩:ae).parent),((⟨y105.1.ino,y105.1.kind,y105.1.aq,y105.1.data,w2.dir,y105.1.entries⟩:ae).entries)⟩:ae).aq),((⟨((⟨y105.1.ino,y105.1.kind,y105.1.aq,y105.1.data,w2.dir,y105.1.entries⟩:ae).ino),((⟨y105.1.ino,y105.1.kind,y105.1.aq,y105.1.data,w2.dir,y105.1.entries⟩:ae).kind),((⟨y105.1.ino,y105.1.kind,y105.1.aq,y105.1.data,w2.dir,y105.1.entries⟩:ae).aq),((⟨y105.1.ino,y105.1.kind,y105.1.aq,y105.1.data,w2.dir,y105.1.entries⟩:ae).data),((⟨y105.1.ino,y105.1.kind,y105.1.aq,y105.1.data,w2.dir,y105.1.entries⟩:ae).parent),((⟨y105.1.ino,y105.1.kind,y105.1.aq,y105.1.data,w2.dir,y105.1.entries⟩:ae).entries)⟩:ae).data),((⟨((⟨y105.1.ino,y105.1.kind,y105.1.aq,y105.1.data,w2.dir,y105.1.entries⟩:ae).ino),((⟨y105.1.ino,y105.1.kind,y105.1.aq,y105.1.data,w2.dir,y105.1.entries⟩:ae).kind),((⟨y105.1.ino,y105.1.kind,y105.1.aq,y105.1.data,w2.dir,y105.1.entries⟩:ae).aq),((⟨y105.1.ino,y105.1.kind,y105.1.aq,y105.1.data,w2.dir,y105.1.entries⟩:ae).data),((⟨y105.1.ino,y105.1.kind,y105.1.aq,y105.1.data,w2.dir,y105.1.entries⟩:ae).parent),((⟨y105.1.ino,y105.1.kind,y105.1.aq,y105.1.data,w2.dir,y105.1.entries⟩:ae).entries)⟩:ae).parent),((⟨((⟨y105.1.ino,y105.1.kind,y105.1.aq,y105.1.data,w2.dir,y105.1.entries⟩:ae).ino),((⟨y105.1.ino,y105.1.kind,y105.1.aq,y105.1.data,w2.dir,y105.1.entries⟩:ae).kind),((⟨y105.1.ino,y105.1.kind,y105.1.aq,y105.1.data,w2.dir,y105.1.entries⟩:ae).aq),((⟨y105.1.ino,y105.1.kind,y105.1.aq,y105.1.data,w2.dir,y105.1.entries⟩:ae).data),((⟨y105.1.ino,y105.1.kind,y105.1.aq,y105.1.data,w2.dir,y105.1.entries⟩:ae).parent),((⟨y105.1.ino,y105.1.kind,y105.1.aq,y105.1.data,w2.dir,y105.1.entries⟩:ae).entries)⟩:ae).entries)⟩:ae)) fun y114=>aj (bO y114 w2 y1.1.ino) fun y115=>
 ah (Nat.ble (0+(Int.toNat z112)) (z113.take (Int.toNat z112)++(List.replicate (z113.length - (Int.toNat z112)) (⟨0,0,0, [],0,([] :List Entry)⟩:ae)++z113.drop ((Int.toNat z112)+(z113.length - (Int.toNat z112))))).length) (aj (aR (⟨y115,(⟨w0.al.kept,(((z113.take (Int.toNat z112)++(List.replicate (z113.length - (Int.toNat z112)) (⟨0,0,0, [],0,([] :List Entry)⟩:ae)++z113.drop ((Int.toNat z112)+(z113.length - (Int.toNat z112))))).drop 0).take (Int.toNat z112))⟩:aU)⟩:ao) w1) fun y116=>some (y116,(0:Int))) (none)) (none)) (none)) (none)) bg z108 (IntKind.i64.wrap (z108+(1:Int))) y107)) (aj (bh w0.fs (⟨((⟨y105.1.ino,y105.1.kind,y105.1.aq,y105.1.data,w2.dir,y105.1.entries⟩:ae).ino),((⟨y105.1.ino,y105.1.kind,y105.1.aq,y105.1.data,w2.dir,y105.1.entries⟩:ae).kind),((⟨y105.1.ino,y105.1.kind,y105.1.aq,y105.1.data,w2.dir,y105.1.entries⟩:ae).aq),((⟨y105.1.ino,y105.1.kind,y105.1.aq,y105.1.data,w2.dir,y105.1.entries⟩:ae).data),((⟨y105.1.ino,y105.1.kind,y105.1.aq,y105.1.data,w2.dir,y105.1.entries⟩:ae).parent),((⟨y105.1.ino,y105.1.kind,y105.1.aq,y105.1.data,w2.dir,y105.1.entries⟩:ae).entries)⟩:ae)) fun y117=>aj (bO y117 w2 y1.1.ino) fun y118=>aj (aR (⟨y118,(⟨w0.al.kept,y107⟩:aU)⟩:ao) w1) fun y119=>some (y119,(0:Int))) bg (0:Int)) (aj (bP w0.al.aI) fun y120=>bJ (List.length y120:Int) y105.1 y120 (fun z121=>
 ah (z121==(-1:Int)) (aj (bh w0.fs y105.1) fun y122=>aj (bO y122 w2 y1.1.ino) fun y123=>aj (aR (⟨y123,(⟨w0.al.kept,y120⟩:aU)⟩:ao) w1) fun y124=>some (y124,(0:Int))) (bQ y105.1 (fun z125 z126=>
 ah (decide (0≤z125∧z125≤(z126.length:Int))) (
 ah (Nat.ble ((Int.toNat z125)+(z126.length - (Int.toNat z125))) z126.length) (
 ah (decide (0≤z125∧z125≤((z126.take (Int.toNat z125)++(List.replicate (z126.length - (Int.toNat z125)) (⟨0,0,0, [],0,([] :List Entry)⟩:ae)++z126.drop ((Int.toNat z125)+(z126.length - (Int.toNat z125))))).length:Int))) (aj (bh w0.fs y105.1) fun y127=>aj (bO y127 w2 y1.1.ino) fun y128=>
 ah (Nat.ble (0+(Int.toNat z125)) (z126.take (Int.toNat z125)++(List.replicate (z126.length - (Int.toNat z125)) (⟨0,0,0, [],0,([] :List Entry)⟩:ae)++z126.drop ((Int.toNat z125)+(z126.length - (Int.toNat z125))))).length) (aj (aR (⟨y128,(⟨w0.al.kept,(((z126.take (Int.toNat z125)++(List.replicate (z126.length - (Int.toNat z125)) (⟨0,0,0, [],0,([] :List Entry)⟩:ae)++z126.drop ((Int.toNat z125)+(z126.length - (Int.toNat z125))))).drop 0).take (Int.toNat z125))⟩:aU)⟩:ao) w1) fun y129=>some (y129,(0:Int))) (none)) (none)) (none)) (none)) bg z121 (IntKind.i64.wrap (z121+(1:Int))) y120)) (aj (bh w0.fs y105.1) fun y130=>aj (bO y130 w2 y1.1.ino) fun y131=>aj (aR (⟨y131,(⟨w0.al.kept,y120⟩:aU)⟩:ao) w1) fun y132=>some (y132,(0:Int))) bg (0:Int)))) (aj (fx w0.fs (1:Int) (0:Int)) fun y133=>
 ah (!y133) (some (w0,(8:Int))) (
 ah (y105.1.kind==(2:Int)) (aj (bP w0.al.aI) fun y134=>bJ (List.length y134:Int) (⟨y105.1.ino,y105.1.kind,y105.1.aq,y105.1.data,w2.dir,y105.1.entries⟩:ae) y134 (fun z135=>
 ah (z135==(-1:Int)) (aj (bh w0.fs (⟨((⟨y105.1.ino,y105.1.kind,y105.1.aq,y105.1.data,w2.dir,y105.1.entries⟩:ae).ino),((⟨y105.1.ino,y105.1.kind,y105.1.aq,y105.1.data,w2.dir,y105.1.entries⟩:ae).kind),((⟨y105.1.ino,y105.1.kind,y105.1.aq,y105.1.data,w2.dir,y105.1.entries⟩:ae).aq),((⟨y105.1.ino,y105.1.kind,y105.1.aq,y105.1.data,w2.dir,y105.1.entries⟩:ae).data),((⟨y105.1.ino,y105.1.kind,y105.1.aq,y105.1.data,w2.dir,y105.1.entries⟩:ae).parent),((⟨y105.1.ino,y105.1.kind,y105.1.aq,y105.1.data,w2.dir,y105.1.entries⟩:ae).entries)⟩:ae)) fun y136=>aj (bO y136 w2 y1.1.ino) fun y137=>aj (aR (⟨y137,(⟨w0.al.kept,y134⟩:aU)⟩:ao) w1) fun y138=>some (y138,(0:Int))) (bQ (⟨((⟨y105.1.ino,y105.1.kind,y105.1.aq,y105.1.data,w2.dir,y105.1.entries⟩:ae).ino),((⟨y105.1.ino,y105.1.kind,y105.1.aq,y105.1.data,w2.dir,y105.1.entries⟩:ae).kind),((⟨y105.1.ino,y105.1.kind,y105.1.aq,y105.1.data,w2.dir,y105.1.entries⟩:ae).aq),((⟨y105.1.ino,y105.1.kind,y105.1.aq,y105.1.data,w2.dir,y105.1.entries⟩:ae).data),((⟨y105.1.ino,y105.1.kind,y105.1.aq,y105.1.data,w2.dir,y105.1.entries⟩:ae).parent),((⟨y105.1.ino,y105.1.kind,y105.1.aq,y105.1.data,w2.dir,y105.1.entries⟩:ae).entries)⟩:ae) (fun z139 z140=>
 ah (decide (0≤z139∧z139≤(z140.length:Int))) (
 ah (Nat.ble ((Int.toNat z139)+(z140.length - (Int.toNat z139))) z140.length) (
 ah (decide (0≤z139∧z139≤((z140.take (Int.toNat z139)++(List.replicate (z140.length - (Int.toNat z139)) (⟨0,0,0, [],0,([] :List Entry)⟩:ae)++z140.drop ((Int.toNat z139)+(z140.length - (Int.toNat z139))))).length:Int))) (aj (bh w0.fs (⟨((⟨((⟨y105.1.ino,y105.1.kind,y105.1.aq,y105.1.data,w2.dir,y105.1.entries⟩:ae).ino),((⟨y105.1.ino,y105.1.kind,y105.1.aq,y105.1.data,w2.dir,y105.1.entries⟩:ae).kind),((⟨y105.1.ino,y105.1.kind,y105.1.aq,y105.1.data,w2.dir,y105.1.entries⟩:ae).aq),((⟨y105.1.ino,y105.1.kind,y105.1.aq,y105.1.data,w2.dir,y105.1.entries⟩:ae).data),((⟨y105.1.ino,y105.1.kind,y105.1.aq,y105.1.data,w2.dir,y105.1.entries⟩:ae).parent),((⟨y105.1.ino,y105.1.kind,y105.1.aq,y105.1.data,w2.dir,y105.1.entries⟩:ae).entries)⟩:ae).ino),((⟨((⟨y105.1.ino,y105.1.kind,y105.1.aq,y105.1.data,w2.dir,y105.1.entries⟩:ae).ino),((⟨y105.1.ino,y105.1.kind,y105.1.aq,y105.1.data,w2.dir,y105.1.entries⟩:ae).kind),((⟨y105.1.ino,y105.1.kind,y105.1.aq,y105.1.data,w2.dir,y105.1.entries⟩:ae).aq),((⟨y105.1.ino,y105.1.kind,y105.1.aq,y105.1.data,w2.dir,y105.1.entries⟩:ae).data),((⟨y105.1.ino,y105.1.kind,y105.1.aq,y105.1.data,w2.dir,y105.1.entries⟩:ae).parent),((⟨y105.1.ino,y105.1.kind,y105.1.aq,y105.1.data,w2.dir,y105.1.entries⟩:ae).entries)⟩:ae).kind),((⟨((⟨y105.1.ino,y105.1.kind,y105.1.aq,y105.1.data,w2.dir,y105.1.entries⟩:ae).ino),((⟨y105.1.ino,y105.1.kind,y105.1.aq,y105.1.data,w2.dir,y105.1.entries⟩:ae).kind),((⟨y105.1.ino,y105.1.kind,y105.1.aq,y105.1.data,w2.dir,y105.1.entries⟩:ae).aq),((⟨y105.1.ino,y105.1.kind,y105.1.aq,y105.1.data,w2.dir,y105.1.entries⟩:ae).data),((⟨y105.1.ino,y105.1.kind,y105.1.aq,y105.1.data,w2.dir,y105.1.entries⟩:ae).parent),((⟨y105.1.ino,y105.1.kind,y105.1.aq,y105.1.data,w2.dir,y105.1.entries⟩:ae).entries)⟩:ae).aq),((⟨((⟨y105.1.ino,y105.1.kind,y105.1.aq,y105.1.data,w2.dir,y105.1.entries⟩:ae).ino),((⟨y105.1.ino,y105.1.kind,y105.1.aq,y105.1.data,w2.dir,y105.1.entries⟩:ae).kind),((⟨y105.1.ino,y105.1.kind,y105.1.aq,y105.1.data,w2.dir,y105.1.entries⟩:ae).aq),((⟨y105.1.ino,y105.1.kind,y105.1.aq,y105.1.data,w2.dir,y105.1.entries⟩:ae).data),((⟨y105.1.ino,y105.1.kind,y105.1.aq,y105.1.data,w2.dir,y105.1.entries⟩:ae).parent),((⟨y105.1.ino,y105.1.kind,y105.1.aq,y105.1.data,w2.dir,y105.1.entries⟩:ae).entries)⟩:ae).data),((⟨((⟨y105.1.ino,y105.1.kind,y105.1.aq,y105.1.data,w2.dir,y105.1.entries⟩:ae).ino),((⟨y105.1.ino,y105.1.kind,y105.1.aq,y105.1.data,w2.dir,y105.1.entries⟩:ae).kind),((⟨y105.1.ino,y105.1.kind,y105.1.aq,y105.1.data,w2.dir,y105.1.entries⟩:ae).aq),((⟨y105.1.ino,y105.1.kind,y105.1.aq,y105.1.data,w2.dir,y105.1.entries⟩:ae).data),((⟨y105.1.ino,y105.1.kind,y105.1.aq,y105.1.data,w2.dir,y105.1.entries⟩:ae).parent),((⟨y105.1.ino,y105.1.kind,y105.1.aq,y105.1.data,w2.dir,y105.1.entries⟩:ae).entries)⟩:ae).parent),((⟨((⟨y105.1.ino,y105.1.kind,y105.1.aq,y105.1.data,w2.dir,y105.1.entries⟩:ae).ino),((⟨y105.1.ino,y105.1.kind,y105.1.aq,y105.1.data,w2.dir,y105.1.entries⟩:ae).kind),((⟨y105.1.ino,y105.1.kind,y105.1.aq,y105.1.data,w2.dir,y105.1.entries⟩:ae).aq),((⟨y105.1.ino,y105.1.kind,y105.1.aq,y105.1.data,w2.dir,y105.1.entries⟩:ae).data),((⟨y105.1.ino,y105.1.kind,y105.1.aq,y105.1.data,w2.dir,y105.1.entries⟩:ae).parent),((⟨y105.1.ino,y105.1.kind,y105.1.aq,y105.1.data,w2.dir,y105.1.entries⟩:ae).entries)⟩:ae).entries)⟩:ae)) fun y141=>aj (bO y141 w2 y1.1.ino) fun y142=>
 ah (Nat.ble (0+(Int.toNat z139)) (z140.take (Int.toNat z139)++(List.replicate (z140.length - (Int.toNat z139)) (⟨0,0,0, [],0,([] :List Entry)⟩:ae)++z140.drop ((Int.toNat z139)+(z140.length - (Int.toNat z139))))).length) (aj (aR (⟨y142,(⟨w0.al.kept,(((z140.take (Int.toNat z139)++(List.replicate (z140.length - (Int.toNat z139)) (⟨0,0,0, [],0,([] :List Entry)⟩:ae)++z140.drop ((Int.toNat z139)+(z140.length - (Int.toNat z139))))).drop 0).take (Int.toNat z139))⟩:aU)⟩:ao) w1) fun y143=>some (y143,(0:Int))) (none)) (none)) (none)) (none)) bg z135 (IntKind.i64.wrap (z135+(1:Int))) y134)) (aj (bh w0.fs (⟨((⟨y105.1.ino,y105.1.kind,y105.1.aq,y105.1.data,w2.dir,y105.1.entries⟩:ae).ino),((⟨y105.1.ino,y105.1.kind,y105.1.aq,y105.1.data,w2.dir,y105.1.entries⟩:ae).kind),((⟨y105.1.ino,y105.1.kind,y105.1.aq,y105.1.data,w2.dir,y105.1.entries⟩:ae).aq),((⟨y105.1.ino,y105.1.kind,y105.1.aq,y105.1.data,w2.dir,y105.1.entries⟩:ae).data),((⟨y105.1.ino,y105.1.kind,y105.1.aq,y105.1.data,w2.dir,y105.1.entries⟩:ae).parent),((⟨y105.1.ino,y105.1.kind,y105.1.aq,y105.1.data,w2.dir,y105.1.entries⟩:ae).entries)⟩:ae)) fun y144=>aj (bO y144 w2 y1.1.ino) fun y145=>aj (aR (⟨y145,(⟨w0.al.kept,y134⟩:aU)⟩:ao) w1) fun y146=>some (y146,(0:Int))) bg (0:Int)) (aj (bP w0.al.aI) fun y147=>bJ (List.length y147:Int) y105.1 y147 (fun z148=>
 ah (z148==(-1:Int)) (aj (bh w0.fs y105.1) fun y149=>aj (bO y149 w2 y1.1.ino) fun y150=>aj (aR (⟨y150,(⟨w0.al.kept,y147⟩:aU)⟩:ao) w1) fun y151=>some (y151,(0:Int))) (bQ y105.1 (fun z152 z153=>
 ah (decide (0≤z152∧z152≤(z153.length:Int))) (
 ah (Nat.ble ((Int.toNat z152)+(z153.length - (Int.toNat z152))) z153.length) (
 ah (decide (0≤z152∧z152≤((z153.take (Int.toNat z152)++(List.replicate (z153.length - (Int.toNat z152)) (⟨0,0,0, [],0,([] :List Entry)⟩:ae)++z153.drop ((Int.toNat z152)+(z153.length - (Int.toNat z152))))).length:Int))) (aj (bh w0.fs y105.1) fun y154=>aj (bO y154 w2 y1.1.ino) fun y155=>
 ah (Nat.ble (0+(Int.toNat z152)) (z153.take (Int.toNat z152)++(List.replicate (z153.length - (Int.toNat z152)) (⟨0,0,0, [],0,([] :List Entry)⟩:ae)++z153.drop ((Int.toNat z152)+(z153.length - (Int.toNat z152))))).length) (aj (aR (⟨y155,(⟨w0.al.kept,(((z153.take (Int.toNat z152)++(List.replicate (z153.length - (Int.toNat z152)) (⟨0,0,0, [],0,([] :List Entry)⟩:ae)++z153.drop ((Int.toNat z152)+(z153.length - (Int.toNat z152))))).drop 0).take (Int.toNat z152))⟩:aU)⟩:ao) w1) fun y156=>some (y156,(0:Int))) (none)) (none)) (none)) (none)) bg z148 (IntKind.i64.wrap (z148+(1:Int))) y147)) (aj (bh w0.fs y105.1) fun y157=>aj (bO y157 w2 y1.1.ino) fun y158=>aj (aR (⟨y158,(⟨w0.al.kept,y147⟩:aU)⟩:ao) w1) fun y159=>some (y159,(0:Int))) bg (0:Int))))) (aj (bO w0.fs w2 y1.1.ino) fun y160=>aj (aR (⟨y160,w0.al⟩:ao) w1) fun y161=>some (y161,(0:Int)))))))
noncomputable def cw (w0:ao) (w1:Int):Option (ao×Int):=
 aj (gr w0 w1) fun y1=>aj (c_ w0.fs y1.1.ino) fun y2=>
 ah (!y1.2) (some (w0,(13:Int))) (
 ah (!y1.1.content) (some (w0,(13:Int))) (
 ah (!y2.2) (some (w0,(13:Int))) (aj (fx w0.fs (0:Int) (IntKind.i64.wrap ((List.length y1.1.data:Int) - (List.length y2.1.data:Int)))) fun y3=>
 ah (!y3) (some (w0,(8:Int))) (aj (bh w0.fs (⟨y2.1.ino,y2.1.kind,y2.1.aq,y1.1.data,y2.1.parent,y2.1.entries⟩:ae)) fun y4=>aj (aR (⟨y4,w0.al⟩:ao) w1) fun y5=>some (y5,(0:Int))))))
noncomputable def cr (w0:ao) (w1:Int) (w2:Int):Option (ao×Int):=
 aj (gr w0 w1) fun y1=>
 ah y1.2 (some (w0,(13:Int))) (aj (c_ w0.fs w2) fun y2=>aj (eE w0 (⟨w1,w2,true,y2.1.data⟩:Kept)) fun y3=>some (y3,(0:Int)))
noncomputable def bN (w0:ao):Option (ao):=
 some (⟨w0.fs,(⟨([] :List Kept),([] :List ae)⟩:aU)⟩:ao)
noncomputable def cZ {R:Type} (x1:List Kept) (kr:Option R) (k0:Option R):Nat→Int→Option R
 |0,_=>none
 |n+1,x2=>
  ah (decide (x2>(0:Int))) (
  ah (decide (0≤x2)) (aj x1[Int.toNat x2]? fun e4=>
  ah (decide (0≤(IntKind.i64.wrap (x2 - (1:Int))))) (aj x1[Int.toNat (IntKind.i64.wrap (x2 - (1:Int)))]? fun e5=>aj (ix e4) fun y6=>aj (ix e5) fun y7=>
  ah (y6 !=y6) (
  ah (y7 !=y7) ((cZ x1 kr k0 n (IntKind.i64.wrap (x2 - (1:Int))))) ((kr))) (
  ah (y7 !=y7) ((cZ x1 kr k0 n (IntKind.i64.wrap (x2 - (1:Int))))) (
  ah (decide (y6<y7)) ((kr)) (
  ah (decide (y6>y7)) ((cZ x1 kr k0 n (IntKind.i64.wrap (x2 - (1:Int))))) ((cZ x1 kr k0 n (IntKind.i64.wrap (x2 - (1:Int))))))))) (none)) (none)) ((k0))
noncomputable def eL {R:Type} (x21:Nat) (x22:Nat) (k2:Int→(List Kept)→Option R):Nat→Int→Int→(List Kept)→Option R
 |0,_,_,_=>none
 |n+1,x20,x23,x26=>
  ah (decide (x23<(x22:Int))) (
  ah (decide (0≤x23∧x23<(x22:Int))) (aj x26[(x21+Int.toNat x23)]? fun e27=>
  ah (decide (0≤(IntKind.i64.wrap (x23 - (1:Int)))∧(IntKind.i64.wrap (x23 - (1:Int)))<(x22:Int))) (aj x26[(x21+Int.toNat (IntKind.i64.wrap (x23 - (1:Int))))]? fun e28=>aj (ix e27) fun y29=>aj (ix e28) fun y30=>
  ah (!(y29==y30)) (
  ah (decide (0≤x23∧x23<(x22:Int))) (aj x26[(x21+Int.toNat x23)]? fun e31=>
  ah (decide (0≤x20∧x20<(x26.length:Int))) (aj x26[(Int.toNat x20)]? fun e32=>(eL x21 x22 k2 n (IntKind.i64.wrap (x20+(1:Int))) (IntKind.i64.wrap (x23+(1:Int))) (x26.set (Int.toNat x20) e31))) (none)) (none)) ((eL x21 x22 k2 n x20 (IntKind.i64.wrap (x23+(1:Int))) x26))) (none)) (none)) ((k2 x20 x26))
noncomputable def gd {R:Type} (x15:List Kept) (kr:Nat→(List Kept)→Option R) (k0:Option R):Nat→Int→Option R
 |0,_=>none
 |n+1,x12=>
  ah (decide (x12<(List.length x15:Int))) (
  ah (decide (0≤x12∧x12<(x15.length:Int))) (aj x15[(Int.toNat x12)]? fun e16=>
  ah (decide (0≤(IntKind.i64.wrap (x12 - (1:Int)))∧(IntKind.i64.wrap (x12 - (1:Int)))<(x15.length:Int))) (aj x15[(Int.toNat (IntKind.i64.wrap (x12 - (1:Int))))]? fun e17=>aj (ix e16) fun y18=>aj (ix e17) fun y19=>
  ah (y18==y19) (
  ah (decide (0≤x12∧x12≤(x15.length:Int))) (eL (Int.toNat x12) (x15.length - (Int.toNat x12)) (fun z37 z38=>
  ah (decide (0≤z37∧z37≤(z38.length:Int))) (
  ah (Nat.ble ((Int.toNat z37)+(z38.length - (Int.toNat z37))) z38.length) (
  ah (decide (0≤z37∧z37≤((z38.take (Int.toNat z37)++(List.replicate (z38.length - (Int.toNat z37)) (⟨0,0,false, []⟩:Kept)++z38.drop ((Int.toNat z37)+(z38.length - (Int.toNat z37))))).length:Int))) ((kr (Int.toNat z37) (z38.take (Int.toNat z37)++(List.replicate (z38.length - (Int.toNat z37)) (⟨0,0,false, []⟩:Kept)++z38.drop ((Int.toNat z37)+(z38.length - (Int.toNat z37))))))) (none)) (none)) (none)) bg x12 (1:Int) x15) (none)) ((gd x15 kr k0 n (IntKind.i64.wrap (x12+(1:Int)))))) (none)) (none)) ((k0))
noncomputable def il (w0:(List Kept)):Option (Bool):=
 cZ w0 (some false) (aj (dP w0) fun y11=>
 ah (decide ((List.length y11:Int)<(2:Int))) (some ((List.length y11:Int)==(List.length w0:Int))) (gd y11 (fun z47 z48=>some ((z47:Int)==(List.length w0:Int))) (some ((List.length y11:Int)==(List.length w0:Int))) bg (1:Int))) bg (IntKind.i64.wrap ((List.length w0:Int) - (1:Int)))
noncomputable def cT {R:Type} (x1:List ae) (kr:Option R) (k0:Option R):Nat→Int→Option R
 |0,_=>none
 |n+1,x2=>
  ah (decide (x2>(0:Int))) (
  ah (decide (0≤x2)) (aj x1[Int.toNat x2]? fun e4=>
  ah (decide (0≤(IntKind.i64.wrap (x2 - (1:Int))))) (aj x1[Int.toNat (IntKind.i64.wrap (x2 - (1:Int)))]? fun e5=>aj (jw e4) fun y6=>aj (jw e5) fun y7=>
  ah (y6 !=y6) (
  ah (y7 !=y7) ((cT x1 kr k0 n (IntKind.i64.wrap (x2 - (1:Int))))) ((kr))) (
  ah (y7 !=y7) ((cT x1 kr k0 n (IntKind.i64.wrap (x2 - (1:Int))))) (
  ah (decide (y6<y7)) ((kr)) (
  ah (decide (y6>y7)) ((cT x1 kr k0 n (IntKind.i64.wrap (x2 - (1:Int))))) ((cT x1 kr k0 n (IntKind.i64.wrap (x2 - (1:Int))))))))) (none)) (none)) ((k0))
noncomputable def dX {R:Type} (x21:Nat) (x22:Nat) (k2:Int→(List ae)→Option R):Nat→Int→Int→(List ae)→Option R
 |0,_,_,_=>none
 |n+1,x20,x23,x26=>
  ah (decide (x23<(x22:Int))) (
  ah (decide (0≤x23∧x23<(x22:Int))) (aj x26[(x21+Int.toNat x23)]? fun e27=>
  ah (decide (0≤(IntKind.i64.wrap (x23 - (1:Int)))∧(IntKind.i64.wrap (x23 - (1:Int)))<(x22:Int))) (aj x26[(x21+Int.toNat (IntKind.i64.wrap (x23 - (1:Int))))]? fun e28=>aj (jw e27) fun y29=>aj (jw e28) fun y30=>
  ah (!(y29==y30)) (
  ah (decide (0≤x23∧x23<(x22:Int))) (aj x26[(x21+Int.toNat x23)]? fun e31=>
  ah (decide (0≤x20∧x20<(x26.length:Int))) (aj x26[(Int.toNat x20)]? fun e32=>(dX x21 x22 k2 n (IntKind.i64.wrap (x20+(1:Int))) (IntKind.i64.wrap (x23+(1:Int))) (x26.set (Int.toNat x20) e31))) (none)) (none)) ((dX x21 x22 k2 n x20 (IntKind.i64.wrap (x23+(1:Int))) x26))) (none)) (none)) ((k2 x20 x26))
noncomputable def fC {R:Type} (x15:List ae) (kr:Nat→(List ae)→Option R) (k0:Option R):Nat→Int→Option R
 |0,_=>none
 |n+1,x12=>
  ah (decide (x12<(List.length x15:Int))) (
  ah (decide (0≤x12∧x12<(x15.length:Int))) (aj x15[(Int.toNat x12)]? fun e16=>
  ah (decide (0≤(IntKind.i64.wrap (x12 - (1:Int)))∧(IntKind.i64.wrap (x12 - (1:Int)))<(x15.length:Int))) (aj x15[(Int.toNat (IntKind.i64.wrap (x12 - (1:Int))))]? fun e17=>aj (jw e16) fun y18=>aj (jw e17) fun y19=>
  ah (y18==y19) (
  ah (decide (0≤x12∧x12≤(x15.length:Int))) (dX (Int.toNat x12) (x15.length - (Int.toNat x12)) (fun z37 z38=>
  ah (decide (0≤z37∧z37≤(z38.length:Int))) (
  ah (Nat.ble ((Int.toNat z37)+(z38.length - (Int.toNat z37))) z38.length) (
  ah (decide (0≤z37∧z37≤((z38.take (Int.toNat z37)++(List.replicate (z38.length - (Int.toNat z37)) (⟨0,0,0, [],0,([] :List Entry)⟩:ae)++z38.drop ((Int.toNat z37)+(z38.length - (Int.toNat z37))))).length:Int))) ((kr (Int.toNat z37) (z38.take (Int.toNat z37)++(List.replicate (z38.length - (Int.toNat z37)) (⟨0,0,0, [],0,([] :List Entry)⟩:ae)++z38.drop ((Int.toNat z37)+(z38.length - (Int.toNat z37))))))) (none)) (none)) (none)) bg x12 (1:Int) x15) (none)) ((fC x15 kr k0 n (IntKind.i64.wrap (x12+(1:Int)))))) (none)) (none)) ((k0))
noncomputable def gO (w0:(List ae)):Option (Bool):=
 cT w0 (some false) (aj (bP w0) fun y11=>
 ah (decide ((List.length y11:Int)<(2:Int))) (some ((List.length y11:Int)==(List.length w0:Int))) (fC y11 (fun z47 z48=>some ((z47:Int)==(List.length w0:Int))) (some ((List.length y11:Int)==(List.length w0:Int))) bg (1:Int))) bg (IntKind.i64.wrap ((List.length w0:Int) - (1:Int)))
noncomputable def eT {R:Type} (x2:List Kept) (x3:Int) (x5:ae) (kr:Int→Option R) (k0:Option R):Nat→Int→Option R
 |0,_=>none
 |n+1,x4=>
  ah (decide (x4<x3)) (
  ah (decide (0≤x4)) (aj x2[Int.toNat x4]? fun e6=>
  ah (e6.ino==x5.ino) (
  ah (!e6.content) ((kr x4)) ((eT x2 x3 x5 kr k0 n (IntKind.i64.wrap (x4+(1:Int)))))) ((eT x2 x3 x5 kr k0 n (IntKind.i64.wrap (x4+(1:Int)))))) (none)) ((k0))
noncomputable def jb (w0:ao) (w1:ae):Option (Bool):=
 aj (c_ w0.fs w1.ino) fun y1=>
 ah y1.2 (some false) (
 ah (decide (w1.ino<(1:Int))) (some false) (
 ah (decide (w1.ino≥w0.fs.next)) (some false) (
 ah (w1.aq !=(0:Int)) (some false) (
 ah (w1.parent !=(0:Int)) (some false) (
 ah (decide ((List.length w1.entries:Int)>(0:Int))) (some false) (eT w0.al.kept (List.length w0.al.kept:Int) w1 (fun z10=>
 ah (!(decide (z10≥(0:Int)))) (some false) (
 ah (w1.kind==(1:Int)) (some true) (
 ah (w1.kind==(3:Int)) (
 ah (!(w1.data==([] :Str))) (
 ah (decide ((List.length w1.data:Int)≤(4095:Int))) (
 ah (([0]:Str)==w1.data) (some false) (aj (stringslite_IndexByte w1.data (0:Int)) fun y11=>some (!(decide (y11≥(0:Int)))))) (some false)) (some false)) (
 ah (w1.kind==(2:Int)) (some (w1.data==([] :Str))) (some false))))) (some false) bg (0:Int)))))))
noncomputable def jI (w0:ao) (w1:Kept):Option (Bool):=
 aj (jH w0 w1.ino) fun y1=>
 ah y1.2 (
 ah (decide (w1.slot≥(1:Int))) (
 ah (decide (w1.slot≤(1073741824:Int))) (
 ah w1.content (
 ah (y1.1.kind==(1:Int)) (some true) (
 ah (!w1.content) (some (w1.data==([] :Str))) (some false))) (
 ah (!w1.content) (some (w1.data==([] :Str))) (some false))) (some false)) (some false)) (some false)
noncomputable def hZ {R:Type} (x4:List ae) (x5:Int) (x7:ao) (kr:Int→Option R) (k0:Option R):Nat→Int→Option R
 |0,_=>none
 |n+1,x6=>
  ah (decide (x6<x5)) (
  ah (decide (0≤x6)) (aj x4[Int.toNat x6]? fun e8=>aj (jb x7 e8) fun y9=>
  ah (!y9) ((kr x6)) ((hZ x4 x5 x7 kr k0 n (IntKind.i64.wrap (x6+(1:Int)))))) (none)) ((k0))
noncomputable def fl {R:Type} (x14:List Kept) (x15:Int) (x18:ao) (kr:Int→Option R) (k0:Option R):Nat→Int→Option R
 |0,_=>none
 |n+1,x16=>
  ah (decide (x16<x15)) (
  ah (decide (0≤x16)) (aj x14[Int.toNat x16]? fun e19=>aj (jI x18 e19) fun y20=>
  ah (!y20) ((kr x16)) ((fl x14 x15 x18 kr k0 n (IntKind.i64.wrap (x16+(1:Int)))))) (none)) ((k0))
noncomputable def iE (w0:ao):Option (Bool):=
 aj (oD w0.fs) fun y1=>
 ah (!y1) (some false) (aj (il w0.al.kept) fun y2=>
 ah (!y2) (some false) (aj (gO w0.al.aI) fun y3=>
 ah (!y3) (some false) (hZ w0.al.aI (List.length w0.al.aI:Int) w0 (fun z13=>
 ah (!(decide (z13≥(0:Int)))) (fl w0.al.kept (List.length w0.al.kept:Int) w0 (fun z24=>some (!(decide (z24≥(0:Int))))) (some true) bg (0:Int)) (some false)) (fl w0.al.kept (List.length w0.al.kept:Int) w0 (fun z25=>some (!(decide (z25≥(0:Int))))) (some true) bg (0:Int)) bg (0:Int))))
end Go.Eng
set_option linter.unusedVariables false
set_option maxRecDepth 100000
namespace Go.Eng
open Go
noncomputable def l8:Option (ao):=
 aj (rn (9:Int) (9:Int)) fun y1=>aj (b7 (⟨y1.ar,y1.aw,(9:Int),y1.aa⟩:Fs) (⟨(1:Int),(2:Int),0, [],(1:Int),[(⟨([97]:Str),(4:Int)⟩:Entry),(⟨([98]:Str),(4:Int)⟩:Entry)]⟩:ae)) fun y2=>aj (b7 y2 (⟨(4:Int),(1:Int),(2:Int),([122]:Str),0,([] :List Entry)⟩:ae)) fun y3=>some (⟨y3,(⟨([] :List Kept),([] :List ae)⟩:aU)⟩:ao)
noncomputable def bu:Option (Bool):=
 aj (l8) fun y1=>aj (eF y1 (1:Int) (⟨(1:Int),([97]:Str),(4:Int)⟩:ax)) fun y2=>aj (eF y2.1 (2:Int) (⟨(1:Int),([98]:Str),(4:Int)⟩:ax)) fun y3=>aj (cH y3.1 (1:Int) (⟨(1:Int),([97]:Str),0⟩:ax)) fun y4=>aj (cH y4.1 (2:Int) (⟨(1:Int),([98]:Str),0⟩:ax)) fun y5=>aj (cH y3.1 (3:Int) (⟨(1:Int),([97]:Str),0⟩:ax)) fun y6=>aj (cr y1 (7:Int) (4:Int)) fun y7=>aj (cr y7.1 (7:Int) (4:Int)) fun y8=>aj (cw y7.1 (7:Int)) fun y9=>aj (gr y7.1 (7:Int)) fun y10=>
 ah (y2.2==(0:Int)) (
 ah (y3.2==(0:Int)) (
 ah ((List.length y2.1.al.aI:Int)==(0:Int)) (
 ah ((List.length y3.1.al.aI:Int)==(1:Int)) (
 ah (y4.2==(0:Int)) (
 ah (y5.2==(0:Int)) (aj (bo y5.1 y1) fun y11=>
 ah y11 (
 ah (y6.2==(13:Int)) (
 ah (y7.2==(0:Int)) (
 ah (y8.2==(13:Int)) (
 ah (y9.2==(0:Int)) (aj (bo y9.1 y1) fun y12=>
 ah y12 (
 ah y10.2 (
 ah ((y10.1.slot==(7:Int))&&((y10.1.ino==(4:Int))&&((y10.1.content==true)&&(y10.1.data==([122]:Str))))) (aj (iE y3.1) fun y13=>
 ah y13 (aj (iE (⟨(⟨0,0,0,([] :List ae)⟩:Fs),(⟨([] :List Kept),([] :List ae)⟩:aU)⟩:ao)) fun y14=>
 ah (!y14) (aj (bN y7.1) fun y15=>aj (bo y15 y1) fun y16=>
 ah y16 (aj (fD y1 y1) fun y17=>
 ah y17 (aj (fD y1 y7.1) fun y18=>some (!y18)) (some false)) (some false)) (some false)) (some false)) (some false)) (some false)) (some false)) (some false)) (some false)) (some false)) (some false)) (some false)) (some false)) (some false)) (some false)) (some false)) (some false)) (some false)
noncomputable def jl (w0:ao) (w1:ao):Option (Bool):=
 aj (bu) fun y1=>
 ah (!y1) (aj (bu) fun y2=>some y2) (aj (kN w0) fun y3=>
 ah (!y3) (aj (bu) fun y4=>some y4) (aj (kN w1) fun y5=>
 ah (!y5) (aj (bu) fun y6=>some y6) (aj (fD w0 w1) fun y7=>aj (bo w0 w1) fun y8=>
 ah (y7==y8) (aj (fD w0 w0) fun y9=>some y9) (some false))))
noncomputable def jr (w0:ao) (w1:Int) (w2:Str):Option (Bool):=
 aj (bu) fun y1=>
 ah (!y1) (aj (bu) fun y2=>some y2) (aj (jU w0) fun y3=>
 ah (!y3) (aj (bu) fun y4=>some y4) (
 ah (decide (w1<(1:Int))) (aj (bu) fun y5=>some y5) (
 ah (decide (w1>(1073741824:Int))) (aj (bu) fun y6=>some y6) (
 ah (decide ((List.length w2:Int)>(1000:Int))) (aj (bu) fun y7=>some y7) (aj (iO w0.fs w2) fun y8=>
 ah (y8.2 !=(0:Int)) (some true) (
 ah (y8.1.name==([] :Str)) (some true) (aj (bB w0.fs y8.1.ino) fun y9=>
 ah y9.2 (
 ah (decide ((List.length y9.1.entries:Int)>(0:Int))) (some true) (aj (eF w0 w1 y8.1) fun y10=>aj (lj w0 w1 y8.1) fun y11=>aj (bo y10.1 y11.1) fun y12=>
 ah y12 (some (y10.2==y11.2)) (some false))) (aj (cH w0 w1 y8.1) fun y13=>aj (nw w0 w1 y8.1) fun y14=>aj (bo y13.1 y14.1) fun y15=>
 ah y15 (some (y13.2==y14.2)) (some false)))))))))
noncomputable def ju (w0:ao) (w1:Int) (w2:Int):Option (Bool):=
 aj (bu) fun y1=>
 ah (!y1) (aj (bu) fun y2=>some y2) (aj (jU w0) fun y3=>
 ah (!y3) (aj (bu) fun y4=>some y4) (
 ah (decide (w1<(1:Int))) (aj (bu) fun y5=>some y5) (
 ah (decide (w1>(1073741824:Int))) (aj (bu) fun y6=>some y6) (aj (cw w0 w1) fun y7=>aj (iI w0 w1) fun y8=>aj (bo y7.1 y8.1) fun y9=>
 ah (!y9) (some false) (
 ah (y7.2 !=y8.2) (some false) (aj (bB w0.fs w2) fun y10=>
 ah (!y10.2) (some true) (
 ah (y10.1.kind !=(1:Int)) (some true) (aj (cr w0 w1 w2) fun y11=>aj (iZ w0 w1 w2) fun y12=>aj (bo y11.1 y12.1) fun y13=>
 ah y13 (some (y11.2==y12.2)) (some false)))))))))
noncomputable def j5 (w0:ao) (w1:Int) (w2:Str):Option (Bool):=
 aj (bu) fun y1=>
 ah (!y1) (aj (bu) fun y2=>some y2) (aj (jU w0) fun y3=>
 ah (!y3) (aj (bu) fun y4=>some y4) (
 ah (decide (w1<(1:Int))) (aj (bu) fun y5=>some y5) (
 ah (decide (w1>(1073741824:Int))) (aj (bu) fun y6=>some y6) (
 ah (decide ((List.length w2:Int)>(1000:Int))) (aj (bu) fun y7=>some y7) (aj (iO w0.fs w2) fun y8=>aj (bB w0.fs y8.1.ino) fun y9=>
 ah (y8.2 !=(0:Int)) (some true) (
 ah (y8.1.name==([] :Str)) (some true) (
 ah (!y9.2) (some true) (
 ah (decide ((List.length y9.1.entries:Int)>(0:Int))) (some true) (aj (eF w0 w1 y8.1) fun y10=>
 ah (y10.2 !=(0:Int)) (
 ah (y10.2==(13:Int)) (aj (bo y10.1 w0) fun y11=>some y11) (some false)) (aj (bB y10.1.fs y8.1.ino) fun y12=>aj (cv y10.1) fun y13=>aj (bB y13 y8.1.ino) fun y14=>aj (gJ y10.1) fun y15=>
 ah (!y15) (some false) (
 ah (y12.2==y14.2) (some false) (
 ah y12.2 (
 ah (!(y12.1.data==y9.1.data)) (some false) (
 ah y14.2 (
 ah (!(y14.1.data==y9.1.data)) (some false) (
 ah (decide ((List.length y10.1.fs.aa:Int)>(List.length w0.fs.aa:Int))) (some false) (aj (e_ y10.1.fs) fun y16=>
 ah (y16 !=(0:Int)) (some false) (aj (cH y10.1 w1 (⟨y8.1.dir,y8.1.name,(0:Int)⟩:ax)) fun y17=>
 ah (y17.2==(0:Int)) (aj (bo y17.1 w0) fun y18=>some y18) (some false))))) (
 ah (decide ((List.length y10.1.fs.aa:Int)>(List.length w0.fs.aa:Int))) (some false) (aj (e_ y10.1.fs) fun y19=>
 ah (y19 !=(0:Int)) (some false) (aj (cH y10.1 w1 (⟨y8.1.dir,y8.1.name,(0:Int)⟩:ax)) fun y20=>
 ah (y20.2==(0:Int)) (aj (bo y20.1 w0) fun y21=>some y21) (some false)))))) (
 ah y14.2 (
 ah (!(y14.1.data==y9.1.data)) (some false) (
 ah (decide ((List.length y10.1.fs.aa:Int)>(List.length w0.fs.aa:Int))) (some false) (aj (e_ y10.1.fs) fun y22=>
 ah (y22 !=(0:Int)) (some false) (aj (cH y10.1 w1 (⟨y8.1.dir,y8.1.name,(0:Int)⟩:ax)) fun y23=>
 ah (y23.2==(0:Int)) (aj (bo y23.1 w0) fun y24=>some y24) (some false))))) (
 ah (decide ((List.length y10.1.fs.aa:Int)>(List.length w0.fs.aa:Int))) (some false) (aj (e_ y10.1.fs) fun y25=>
 ah (y25 !=(0:Int)) (some false) (aj (cH y10.1 w1 (⟨y8.1.dir,y8.1.name,(0:Int)⟩:ax)) fun y26=>
 ah (y26.2==(0:Int)) (aj (bo y26.1 w0) fun y27=>some y27) (some false)))))))))))))))))
noncomputable def ll (w0:ao) (w1:Int) (w2:Str) (w3:Str):Option (Bool):=
 aj (bu) fun y1=>
 ah (!y1) (aj (bu) fun y2=>some y2) (aj (jU w0) fun y3=>
 ah (!y3) (aj (bu) fun y4=>some y4) (
 ah (decide (w1<(1:Int))) (aj (bu) fun y5=>some y5) (
 ah (decide (w1>(1073741823:Int))) (aj (bu) fun y6=>some y6) (
 ah (decide ((List.length w2:Int)>(1000:Int))) (aj (bu) fun y7=>some y7) (
 ah (decide ((List.length w3:Int)>(1000:Int))) (aj (bu) fun y8=>some y8) (aj (iO w0.fs w2) fun y9=>aj (bB w0.fs y9.1.ino) fun y10=>
 ah (y9.2 !=(0:Int)) (some true) (
 ah (y9.1.name==([] :Str)) (some true) (
 ah (!y10.2) (some true) (
 ah (decide ((List.length y10.1.entries:Int)>(0:Int))) (some true) (aj (eF w0 w1 y9.1) fun y11=>aj (iO y11.1.fs w3) fun y12=>aj (bB y11.1.fs y12.1.ino) fun y13=>
 ah (y11.2 !=(0:Int)) (some true) (
 ah (y12.2 !=(0:Int)) (some true) (
 ah (y12.1.name==([] :Str)) (some true) (
 ah (!y13.2) (some true) (
 ah (decide ((List.length y13.1.entries:Int)>(0:Int))) (some true) (aj (eF y11.1 (IntKind.i64.wrap (w1+(1:Int))) y12.1) fun y14=>
 ah (y14.2 !=(0:Int)) (some (y14.2==(13:Int))) (aj (cH y14.1 (IntKind.i64.wrap (w1+(1:Int))) (⟨y12.1.dir,y12.1.name,(0:Int)⟩:ax)) fun y15=>aj (cH y15.1 w1 (⟨y9.1.dir,y9.1.name,(0:Int)⟩:ax)) fun y16=>
 ah (y15.2==(0:Int)) (
 ah (y16.2==(0:Int)) (aj (gJ y14.1) fun y17=>
 ah y17 (aj (bo y15.1 y11.1) fun y18=>
 ah y18 (aj (bo y16.1 w0) fun y19=>some y19) (some false)) (some false)) (some false)) (some false)))))))))))))))))
noncomputable def jh (w0:ao) (w1:Int) (w2:Str) (w3:Int):Option (Bool):=
 aj (bu) fun y1=>
 ah (!y1) (aj (bu) fun y2=>some y2) (aj (jU w0) fun y3=>
 ah (!y3) (aj (bu) fun y4=>some y4) (
 ah (decide (w1<(1:Int))) (aj (bu) fun y5=>some y5) (
 ah (decide (w1>(1073741824:Int))) (aj (bu) fun y6=>some y6) (
 ah (decide ((List.length w2:Int)>(1000:Int))) (aj (bu) fun y7=>some y7) (aQ (([] :List ae).length+w0.fs.aa.length) (aQ (([] :List Kept).length+w0.al.kept.length) (aQ (([] :List ae).length+w0.al.aI.length) (aj (iO w0.fs w2) fun y8=>aj (bB w0.fs y8.1.ino) fun y9=>
 ah (y8.2==(0:Int)) (
 ah (!(y8.1.name==([] :Str))) (
 ah y9.2 (
 ah ((List.length y9.1.entries:Int)==(0:Int)) (aj (eF (⟨(⟨w0.fs.ar,w0.fs.aw,w0.fs.next,(([] :List ae)++w0.fs.aa)⟩:Fs),(⟨(([] :List Kept)++w0.al.kept),(([] :List ae)++w0.al.aI)⟩:aU)⟩:ao) w1 y8.1) fun y10=>
 ah (!y9.2) (aj (cH (⟨(⟨w0.fs.ar,w0.fs.aw,w0.fs.next,(([] :List ae)++w0.fs.aa)⟩:Fs),(⟨(([] :List Kept)++w0.al.kept),(([] :List ae)++w0.al.aI)⟩:aU)⟩:ao) w1 y8.1) fun y11=>aj (cw (⟨(⟨w0.fs.ar,w0.fs.aw,w0.fs.next,(([] :List ae)++w0.fs.aa)⟩:Fs),(⟨(([] :List Kept)++w0.al.kept),(([] :List ae)++w0.al.aI)⟩:aU)⟩:ao) w1) fun y12=>aj (bB w0.fs w3) fun y13=>
 ah y13.2 (
 ah (y13.1.kind==(1:Int)) (aj (cr (⟨(⟨w0.fs.ar,w0.fs.aw,w0.fs.next,(([] :List ae)++w0.fs.aa)⟩:Fs),(⟨(([] :List Kept)++w0.al.kept),(([] :List ae)++w0.al.aI)⟩:aU)⟩:ao) w1 w3) fun y14=>aj (bN (⟨(⟨w0.fs.ar,w0.fs.aw,w0.fs.next,(([] :List ae)++w0.fs.aa)⟩:Fs),(⟨(([] :List Kept)++w0.al.kept),(([] :List ae)++w0.al.aI)⟩:aU)⟩:ao)) fun y15=>aj (bo (⟨(⟨w0.fs.ar,w0.fs.aw,w0.fs.next,(([] :List ae)++w0.fs.aa)⟩:Fs),(⟨(([] :List Kept)++w0.al.kept),(([] :List ae)++w0.al.aI)⟩:aU)⟩:ao) w0) fun y16=>some y16) (aj (bN (⟨(⟨w0.fs.ar,w0.fs.aw,w0.fs.next,(([] :List ae)++w0.fs.aa)⟩:Fs),(⟨(([] :List Kept)++w0.al.kept),(([] :List ae)++w0.al.aI)⟩:aU)⟩:ao)) fun y17=>aj (bo (⟨(⟨w0.fs.ar,w0.fs.aw,w0.fs.next,(([] :List ae)++w0.fs.aa)⟩:Fs),(⟨(([] :List Kept)++w0.al.kept),(([] :List ae)++w0.al.aI)⟩:aU)⟩:ao) w0) fun y18=>some y18)) (aj (bN (⟨(⟨w0.fs.ar,w0.fs.aw,w0.fs.next,(([] :List ae)++w0.fs.aa)⟩:Fs),(⟨(([] :List Kept)++w0.al.kept),(([] :List ae)++w0.al.aI)⟩:aU)⟩:ao)) fun y19=>aj (bo (⟨(⟨w0.fs.ar,w0.fs.aw,w0.fs.next,(([] :List ae)++w0.fs.aa)⟩:Fs),(⟨(([] :List Kept)++w0.al.kept),(([] :List ae)++w0.al.aI)⟩:aU)⟩:ao) w0) fun y20=>some y20)) (aj (cw (⟨(⟨w0.fs.ar,w0.fs.aw,w0.fs.next,(([] :List ae)++w0.fs.aa)⟩:Fs),(⟨(([] :List Kept)++w0.al.kept),(([] :List ae)++w0.al.aI)⟩:aU)⟩:ao) w1) fun y21=>aj (bB w0.fs w3) fun y22=>
 ah y22.2 (
 ah (y22.1.kind==(1:Int)) (aj (cr (⟨(⟨w0.fs.ar,w0.fs.aw,w0.fs.next,(([] :List ae)++w0.fs.aa)⟩:Fs),(⟨(([] :List Kept)++w0.al.kept),(([] :List ae)++w0.al.aI)⟩:aU)⟩:ao) w1 w3) fun y23=>aj (bN (⟨(⟨w0.fs.ar,w0.fs.aw,w0.fs.next,(([] :List ae)++w0.fs.aa)⟩:Fs),(⟨(([] :List Kept)++w0.al.kept),(([] :List ae)++w0.al.aI)⟩:aU)⟩:ao)) fun y24=>aj (bo (⟨(⟨w0.fs.ar,w0.fs.aw,w0.fs.next,(([] :List ae)++w0.fs.aa)⟩:Fs),(⟨(([] :List Kept)++w0.al.kept),(([] :List ae)++w0.al.aI)⟩:aU)⟩:ao) w0) fun y25=>some y25) (aj (bN (⟨(⟨w0.fs.ar,w0.fs.aw,w0.fs.next,(([] :List ae)++w0.fs.aa)⟩:Fs),(⟨(([] :List Kept)++w0.al.kept),(([] :List ae)++w0.al.aI)⟩:aU)⟩:ao)) fun y26=>aj (bo (⟨(⟨w0.fs.ar,w0.fs.aw,w0.fs.next,(([] :List ae)++w0.fs.aa)⟩:Fs),(⟨(([] :List Kept)++w0.al.kept),(([] :List ae)++w0.al.aI)⟩:aU)⟩:ao) w0) fun y27=>some y27)) (aj (bN (⟨(⟨w0.fs.ar,w0.fs.aw,w0.fs.next,(([] :List ae)++w0.fs.aa)⟩:Fs),(⟨(([] :List Kept)++w0.al.kept),(([] :List ae)++w0.al.aI)⟩:aU)⟩:ao)) fun y28=>aj (bo (⟨(⟨w0.fs.ar,w0.fs.aw,w0.fs.next,(([] :List ae)++w0.fs.aa)⟩:Fs),(⟨(([] :List Kept)++w0.al.kept),(([] :List ae)++w0.al.aI)⟩:aU)⟩:ao) w0) fun y29=>some y29))) (
 ah (!y9.2) (aj (cH (⟨(⟨w0.fs.ar,w0.fs.aw,w0.fs.next,(([] :List ae)++w0.fs.aa)⟩:Fs),(⟨(([] :List Kept)++w0.al.kept),(([] :List ae)++w0.al.aI)⟩:aU)⟩:ao) w1 y8.1) fun y30=>aj (cw (⟨(⟨w0.fs.ar,w0.fs.aw,w0.fs.next,(([] :List ae)++w0.fs.aa)⟩:Fs),(⟨(([] :List Kept)++w0.al.kept),(([] :List ae)++w0.al.aI)⟩:aU)⟩:ao) w1) fun y31=>aj (bB w0.fs w3) fun y32=>
 ah y32.2 (
 ah (y32.1.kind==(1:Int)) (aj (cr (⟨(⟨w0.fs.ar,w0.fs.aw,w0.fs.next,(([] :List ae)++w0.fs.aa)⟩:Fs),(⟨(([] :List Kept)++w0.al.kept),(([] :List ae)++w0.al.aI)⟩:aU)⟩:ao) w1 w3) fun y33=>aj (bN (⟨(⟨w0.fs.ar,w0.fs.aw,w0.fs.next,(([] :List ae)++w0.fs.aa)⟩:Fs),(⟨(([] :List Kept)++w0.al.kept),(([] :List ae)++w0.al.aI)⟩:aU)⟩:ao)) fun y34=>aj (bo (⟨(⟨w0.fs.ar,w0.fs.aw,w0.fs.next,(([] :List ae)++w0.fs.aa)⟩:Fs),(⟨(([] :List Kept)++w0.al.kept),(([] :List ae)++w0.al.aI)⟩:aU)⟩:ao) w0) fun y35=>some y35) (aj (bN (⟨(⟨w0.fs.ar,w0.fs.aw,w0.fs.next,(([] :List ae)++w0.fs.aa)⟩:Fs),(⟨(([] :List Kept)++w0.al.kept),(([] :List ae)++w0.al.aI)⟩:aU)⟩:ao)) fun y36=>aj (bo (⟨(⟨w0.fs.ar,w0.fs.aw,w0.fs.next,(([] :List ae)++w0.fs.aa)⟩:Fs),(⟨(([] :List Kept)++w0.al.kept),(([] :List ae)++w0.al.aI)⟩:aU)⟩:ao) w0) fun y37=>some y37)) (aj (bN (⟨(⟨w0.fs.ar,w0.fs.aw,w0.fs.next,(([] :List ae)++w0.fs.aa)⟩:Fs),(⟨(([] :List Kept)++w0.al.kept),(([] :List ae)++w0.al.aI)⟩:aU)⟩:ao)) fun y38=>aj (bo (⟨(⟨w0.fs.ar,w0.fs.aw,w0.fs.next,(([] :List ae)++w0.fs.aa)⟩:Fs),(⟨(([] :List Kept)++w0.al.kept),(([] :List ae)++w0.al.aI)⟩:aU)⟩:ao) w0) fun y39=>some y39)) (aj (cw (⟨(⟨w0.fs.ar,w0.fs.aw,w0.fs.next,(([] :List ae)++w0.fs.aa)⟩:Fs),(⟨(([] :List Kept)++w0.al.kept),(([] :List ae)++w0.al.aI)⟩:aU)⟩:ao) w1) fun y40=>aj (bB w0.fs w3) fun y41=>
 ah y41.2 (
 ah (y41.1.kind==(1:Int)) (aj (cr (⟨(⟨w0.fs.ar,w0.fs.aw,w0.fs.next,(([] :List ae)++w0.fs.aa)⟩:Fs),(⟨(([] :List Kept)++w0.al.kept),(([] :List ae)++w0.al.aI)⟩:aU)⟩:ao) w1 w3) fun y42=>aj (bN (⟨(⟨w0.fs.ar,w0.fs.aw,w0.fs.next,(([] :List ae)++w0.fs.aa)⟩:Fs),(⟨(([] :List Kept)++w0.al.kept),(([] :List ae)++w0.al.aI)⟩:aU)⟩:ao)) fun y43=>aj (bo (⟨(⟨w0.fs.ar,w0.fs.aw,w0.fs.next,(([] :List ae)++w0.fs.aa)⟩:Fs),(⟨(([] :List Kept)++w0.al.kept),(([] :List ae)++w0.al.aI)⟩:aU)⟩:ao) w0) fun y44=>some y44) (aj (bN (⟨(⟨w0.fs.ar,w0.fs.aw,w0.fs.next,(([] :List ae)++w0.fs.aa)⟩:Fs),(⟨(([] :List Kept)++w0.al.kept),(([] :List ae)++w0.al.aI)⟩:aU)⟩:ao)) fun y45=>aj (bo (⟨(⟨w0.fs.ar,w0.fs.aw,w0.fs.next,(([] :List ae)++w0.fs.aa)⟩:Fs),(⟨(([] :List Kept)++w0.al.kept),(([] :List ae)++w0.al.aI)⟩:aU)⟩:ao) w0) fun y46=>some y46)) (aj (bN (⟨(⟨w0.fs.ar,w0.fs.aw,w0.fs.next,(([] :List ae)++w0.fs.aa)⟩:Fs),(⟨(([] :List Kept)++w0.al.kept),(([] :List ae)++w0.al.aI)⟩:aU)⟩:ao)) fun y47=>aj (bo (⟨(⟨w0.fs.ar,w0.fs.aw,w0.fs.next,(([] :List ae)++w0.fs.aa)⟩:Fs),(⟨(([] :List Kept)++w0.al.kept),(([] :List ae)++w0.al.aI)⟩:aU)⟩:ao) w0) fun y48=>some y48)))) (
 ah (!y9.2) (aj (cH (⟨(⟨w0.fs.ar,w0.fs.aw,w0.fs.next,(([] :List ae)++w0.fs.aa)⟩:Fs),(⟨(([] :List Kept)++w0.al.kept),(([] :List ae)++w0.al.aI)⟩:aU)⟩:ao) w1 y8.1) fun y49=>aj (cw (⟨(⟨w0.fs.ar,w0.fs.aw,w0.fs.next,(([] :List ae)++w0.fs.aa)⟩:Fs),(⟨(([] :List Kept)++w0.al.kept),(([] :List ae)++w0.al.aI)⟩:aU)⟩:ao) w1) fun y50=>aj (bB w0.fs w3) fun y51=>
 ah y51.2 (
 ah (y51.1.kind==(1:Int)) (aj (cr (⟨(⟨w0.fs.ar,w0.fs.aw,w0.fs.next,(([] :List ae)++w0.fs.aa)⟩:Fs),(⟨(([] :List Kept)++w0.al.kept),(([] :List ae)++w0.al.aI)⟩:aU)⟩:ao) w1 w3) fun y52=>aj (bN (⟨(⟨w0.fs.ar,w0.fs.aw,w0.fs.next,(([] :List ae)++w0.fs.aa)⟩:Fs),(⟨(([] :List Kept)++w0.al.kept),(([] :List ae)++w0.al.aI)⟩:aU)⟩:ao)) fun y53=>aj (bo (⟨(⟨w0.fs.ar,w0.fs.aw,w0.fs.next,(([] :List ae)++w0.fs.aa)⟩:Fs),(⟨(([] :List Kept)++w0.al.kept),(([] :List ae)++w0.al.aI)⟩:aU)⟩:ao) w0) fun y54=>some y54) (aj (bN (⟨(⟨w0.fs.ar,w0.fs.aw,w0.fs.next,(([] :List ae)++w0.fs.aa)⟩:Fs),(⟨(([] :List Kept)++w0.al.kept),(([] :List ae)++w0.al.aI)⟩:aU)⟩:ao)) fun y55=>aj (bo (⟨(⟨w0.fs.ar,w0.fs.aw,w0.fs.next,(([] :List ae)++w0.fs.aa)⟩:Fs),(⟨(([] :List Kept)++w0.al.kept),(([] :List ae)++w0.al.aI)⟩:aU)⟩:ao) w0) fun y56=>some y56)) (aj (bN (⟨(⟨w0.fs.ar,w0.fs.aw,w0.fs.next,(([] :List ae)++w0.fs.aa)⟩:Fs),(⟨(([] :List Kept)++w0.al.kept),(([] :List ae)++w0.al.aI)⟩:aU)⟩:ao)) fun y57=>aj (bo (⟨(⟨w0.fs.ar,w0.fs.aw,w0.fs.next,(([] :List ae)++w0.fs.aa)⟩:Fs),(⟨(([] :List Kept)++w0.al.kept),(([] :List ae)++w0.al.aI)⟩:aU)⟩:ao) w0) fun y58=>some y58)) (aj (cw (⟨(⟨w0.fs.ar,w0.fs.aw,w0.fs.next,(([] :List ae)++w0.fs.aa)⟩:Fs),(⟨(([] :List Kept)++w0.al.kept),(([] :List ae)++w0.al.aI)⟩:aU)⟩:ao) w1) fun y59=>aj (bB w0.fs w3) fun y60=>
 ah y60.2 (
 ah (y60.1.kind==(1:Int)) (aj (cr (⟨(⟨w0.fs.ar,w0.fs.aw,w0.fs.next,(([] :List ae)++w0.fs.aa)⟩:Fs),(⟨(([] :List Kept)++w0.al.kept),(([] :List ae)++w0.al.aI)⟩:aU)⟩:ao) w1 w3) fun y61=>aj (bN (⟨(⟨w0.fs.ar,w0.fs.aw,w0.fs.next,(([] :List ae)++w0.fs.aa)⟩:Fs),(⟨(([] :List Kept)++w0.al.kept),(([] :List ae)++w0.al.aI)⟩:aU)⟩:ao)) fun y62=>aj (bo (⟨(⟨w0.fs.ar,w0.fs.aw,w0.fs.next,(([] :List ae)++w0.fs.aa)⟩:Fs),(⟨(([] :List Kept)++w0.al.kept),(([] :List ae)++w0.al.aI)⟩:aU)⟩:ao) w0) fun y63=>some y63) (aj (bN (⟨(⟨w0.fs.ar,w0.fs.aw,w0.fs.next,(([] :List ae)++w0.fs.aa)⟩:Fs),(⟨(([] :List Kept)++w0.al.kept),(([] :List ae)++w0.al.aI)⟩:aU)⟩:ao)) fun y64=>aj (bo (⟨(⟨w0.fs.ar,w0.fs.aw,w0.fs.next,(([] :List ae)++w0.fs.aa)⟩:Fs),(⟨(([] :List Kept)++w0.al.kept),(([] :List ae)++w0.al.aI)⟩:aU)⟩:ao) w0) fun y65=>some y65)) (aj (bN (⟨(⟨w0.fs.ar,w0.fs.aw,w0.fs.next,(([] :List ae)++w0.fs.aa)⟩:Fs),(⟨(([] :List Kept)++w0.al.kept),(([] :List ae)++w0.al.aI)⟩:aU)⟩:ao)) fun y66=>aj (bo (⟨(⟨w0.fs.ar,w0.fs.aw,w0.fs.next,(([] :List ae)++w0.fs.aa)⟩:Fs),(⟨(([] :List Kept)++w0.al.kept),(([] :List ae)++w0.al.aI)⟩:aU)⟩:ao) w0) fun y67=>some y67)))) (aj (cw (⟨(⟨w0.fs.ar,w0.fs.aw,w0.fs.next,(([] :List ae)++w0.fs.aa)⟩:Fs),(⟨(([] :List Kept)++w0.al.kept),(([] :List ae)++w0.al.aI)⟩:aU)⟩:ao) w1) fun y68=>aj (bB w0.fs w3) fun y69=>
 ah y69.2 (
 ah (y69.1.kind==(1:Int)) (aj (cr (⟨(⟨w0.fs.ar,w0.fs.aw,w0.fs.next,(([] :List ae)++w0.fs.aa)⟩:Fs),(⟨(([] :List Kept)++w0.al.kept),(([] :List ae)++w0.al.aI)⟩:aU)⟩:ao) w1 w3) fun y70=>aj (bN (⟨(⟨w0.fs.ar,w0.fs.aw,w0.fs.next,(([] :List ae)++w0.fs.aa)⟩:Fs),(⟨(([] :List Kept)++w0.al.kept),(([] :List ae)++w0.al.aI)⟩:aU)⟩:ao)) fun y71=>aj (bo (⟨(⟨w0.fs.ar,w0.fs.aw,w0.fs.next,(([] :List ae)++w0.fs.aa)⟩:Fs),(⟨(([] :List Kept)++w0.al.kept),(([] :List ae)++w0.al.aI)⟩:aU)⟩:ao) w0) fun y72=>some y72) (aj (bN (⟨(⟨w0.fs.ar,w0.fs.aw,w0.fs.next,(([] :List ae)++w0.fs.aa)⟩:Fs),(⟨(([] :List Kept)++w0.al.kept),(([] :List ae)++w0.al.aI)⟩:aU)⟩:ao)) fun y73=>aj (bo (⟨(⟨w0.fs.ar,w0.fs.aw,w0.fs.next,(([] :List ae)++w0.fs.aa)⟩:Fs),(⟨(([] :List Kept)++w0.al.kept),(([] :List ae)++w0.al.aI)⟩:aU)⟩:ao) w0) fun y74=>some y74)) (aj (bN (⟨(⟨w0.fs.ar,w0.fs.aw,w0.fs.next,(([] :List ae)++w0.fs.aa)⟩:Fs),(⟨(([] :List Kept)++w0.al.kept),(([] :List ae)++w0.al.aI)⟩:aU)⟩:ao)) fun y75=>aj (bo (⟨(⟨w0.fs.ar,w0.fs.aw,w0.fs.next,(([] :List ae)++w0.fs.aa)⟩:Fs),(⟨(([] :List Kept)++w0.al.kept),(([] :List ae)++w0.al.aI)⟩:aU)⟩:ao) w0) fun y76=>some y76))) (aj (cw (⟨(⟨w0.fs.ar,w0.fs.aw,w0.fs.next,(([] :List ae)++w0.fs.aa)⟩:Fs),(⟨(([] :List Kept)++w0.al.kept),(([] :List ae)++w0.al.aI)⟩:aU)⟩:ao) w1) fun y77=>aj (bB w0.fs w3) fun y78=>
 ah y78.2 (
 ah (y78.1.kind==(1:Int)) (aj (cr (⟨(⟨w0.fs.ar,w0.fs.aw,w0.fs.next,(([] :List ae)++w0.fs.aa)⟩:Fs),(⟨(([] :List Kept)++w0.al.kept),(([] :List ae)++w0.al.aI)⟩:aU)⟩:ao) w1 w3) fun y79=>aj (bN (⟨(⟨w0.fs.ar,w0.fs.aw,w0.fs.next,(([] :List ae)++w0.fs.aa)⟩:Fs),(⟨(([] :List Kept)++w0.al.kept),(([] :List ae)++w0.al.aI)⟩:aU)⟩:ao)) fun y80=>aj (bo (⟨(⟨w0.fs.ar,w0.fs.aw,w0.fs.next,(([] :List ae)++w0.fs.aa)⟩:Fs),(⟨(([] :List Kept)++w0.al.kept),(([] :List ae)++w0.al.aI)⟩:aU)⟩:ao) w0) fun y81=>some y81) (aj (bN (⟨(⟨w0.fs.ar,w0.fs.aw,w0.fs.next,(([] :List ae)++w0.fs.aa)⟩:Fs),(⟨(([] :List Kept)++w0.al.kept),(([] :List ae)++w0.al.aI)⟩:aU)⟩:ao)) fun y82=>aj (bo (⟨(⟨w0.fs.ar,w0.fs.aw,w0.fs.next,(([] :List ae)++w0.fs.aa)⟩:Fs),(⟨(([] :List Kept)++w0.al.kept),(([] :List ae)++w0.al.aI)⟩:aU)⟩:ao) w0) fun y83=>some y83)) (aj (bN (⟨(⟨w0.fs.ar,w0.fs.aw,w0.fs.next,(([] :List ae)++w0.fs.aa)⟩:Fs),(⟨(([] :List Kept)++w0.al.kept),(([] :List ae)++w0.al.aI)⟩:aU)⟩:ao)) fun y84=>aj (bo (⟨(⟨w0.fs.ar,w0.fs.aw,w0.fs.next,(([] :List ae)++w0.fs.aa)⟩:Fs),(⟨(([] :List Kept)++w0.al.kept),(([] :List ae)++w0.al.aI)⟩:aU)⟩:ao) w0) fun y85=>some y85))))))))))
end Go.Eng
set_option linter.unusedSimpArgs false
set_option linter.unusedVariables false
namespace Go.Eng
open Go
@[simp] theorem aC {α:Type} (x y:Option α):ah true x y=x:=rfl
@[simp] theorem ay {α:Type} (x y:Option α):ah false x y=y:=rfl
@[simp] theorem ai {α β:Type} (a:α) (f:α→Option β):aj (some a) f=f a:=rfl
theorem aV {α:Type} (b:Bool) (x y:Option α):ah b x y=if b then x else y:=by cases b<;>rfl
theorem bZ {α:Type} {n:Nat} {x:Option α} (h:n≤LIM):aQ n x=x:=by
 unfold aQ;rw[Nat.ble_eq_true_of_le h]
theorem b9 {n:Int} (h1: -9223372036854775808≤n) (h2:n<9223372036854775808):IntKind.i64.wrap n=n:=by
 simp [IntKind.wrap,IntKind.bits,IntKind.signed];omega
theorem bc {k:Nat} (h:k<4611686018427387904):IntKind.i64.wrap ((k:Int)+1)=((k+1:Nat):Int):=by
 rw[b9 (by omega) (by omega)];rfl
theorem tL {α:Type} {l:List α} {k:Nat} (h:k<l.length):∃x,l[k]? =some x∧l.drop k=x::l.drop (k+1):=
 ⟨l[k],by simp,List.drop_eq_getElem_cons h⟩
theorem dec_lt {k n:Nat} (h:k<n):decide ((k:Int)<(n:Int))=true:=by simp;omega
theorem b6 {k n:Nat} (h:n≤k):decide ((k:Int)<(n:Int))=false:=by simp;omega
theorem bS (k:Nat):decide (0≤(k:Int))=true:=by simp
theorem Gy {k n:Nat} (h:k<n):decide (0≤(k:Int)∧(k:Int)<(n:Int))=true:=by simp;omega
theorem toNat_cast (k:Nat):Int.toNat (k:Int)=k:=Int.toNat_natCast k
theorem gZ {n:Nat} (h:n≤1099511627775):n<bg:=Nat.lt_of_lt_of_le (by omega) qW
end Go.Eng
namespace Go.Eng
def dW {α S R:Type} (G:Nat→α→S→(S→Option R)→Option R) (E:S→Option R):Nat→List α→S→Option R
 |_, [],s=>E s
 |k,x::r,s=>G k x s (dW G E (k+1) r)
theorem Ey {α S R:Type} {l:List α} (F:Nat→Int→S→Option R) (G:Nat→α→S→(S→Option R)→Option R) (E:S→Option R) (hl:l.length≤1099511627775)
 (h1:∀(n k:Nat) (x:α) (s:S),k<l.length→l[k]? =some x→F (n+1) (k:Int) s=G k x s (F n ((k+1:Nat):Int))) (h0:∀(n:Nat) (s:S),F (n+1) (l.length:Int) s=E s):
 ∀(n k:Nat) (s:S),k≤l.length→l.length - k<n→F n (k:Int) s=dW G E k (l.drop k) s:=by
 intro n;induction n with
 |zero=>intro k s _ h;omega
 |succ n ih=>
  intro k s hk hn;by_cases h:k<l.length
  ·obtain⟨x,hx,hd⟩:=tL h
   rw[h1 n k x s h hx,hd];simp only[dW];congr 1;funext s';exact ih (k+1) s' (by omega) (by omega)
  ·have:k=l.length:=by omega
   subst this;rw[h0,List.drop_length];rfl
theorem bY {α S R:Type} {l:List α} (F:Nat→Int→S→Option R) (G:Nat→α→S→(S→Option R)→Option R) (E:S→Option R) (hl:l.length≤1099511627775)
 (h1:∀(n k:Nat) (x:α) (s:S),k<l.length→l[k]? =some x→F (n+1) (k:Int) s=G k x s (F n ((k+1:Nat):Int))) (h0:∀(n:Nat) (s:S),F (n+1) (l.length:Int) s=E s) (s:S):F bg (0:Int) s=dW G E 0 l s:=
 Ey F G E hl h1 h0 bg 0 s (Nat.zero_le _) (gZ (by omega))
end Go.Eng
namespace Go.Eng
theorem kK {α S R:Type} {l:List α} (F:Nat→Int→S→Option R) (Inv:Nat→S→Prop) (P:Option R→Prop) (hl:l.length≤1099511627775)
 (h1:∀(n k:Nat) (x:α) (s:S),k<l.length→l[k]? =some x→Inv k s→(∀s',Inv (k+1) s'→P (F n ((k+1:Nat):Int) s'))→P (F (n+1) (k:Int) s))
 (h0:∀(n:Nat) (s:S),Inv l.length s→P (F (n+1) (l.length:Int) s)) (s:S) (hi:Inv 0 s):P (F bg (0:Int) s):=by
 have key:∀(n k:Nat) (s:S),Inv k s→k≤l.length→l.length - k<n→P (F n (k:Int) s):=by
  intro n;induction n with
  |zero=>intro k s _ _ h;omega
  |succ n ih=>
   intro k s hs hk hn;by_cases h:k<l.length
   ·exact h1 n k l[k] s h (by simp [h]) hs fun s' hs'=>ih (k+1) s' hs' (by omega) (by omega)
   ·have:k=l.length:=by omega
    subst this;exact h0 n s hs
 exact key bg 0 s hi (Nat.zero_le _) (gZ (by omega))
end Go.Eng
namespace Go.Eng
theorem aN {α:Type} {b:Bool} {x y:Option α} (h:b=true):ah b x y=x:=by subst h;rfl
theorem bK {α:Type} {b:Bool} {x y:Option α} (h:b=false):ah b x y=y:=by subst h;rfl
theorem Dw {a b:Nat} (h:b<a):Nat.ble a b=false:=by
 cases e:Nat.ble a b with
 |false=>rfl
 |true=>exact absurd (Nat.le_of_ble_eq_true e) (by omega)
end Go.Eng
set_option linter.unusedSimpArgs false
set_option linter.unusedVariables false
namespace Go.Eng
open Go
def j9 (b:UInt8):Bool:=b==47||b==0
def fE (s:Str):Bool:= !(s== [])&&(decide (s.length≤255)&&(!(s.any j9)&&(!(s==[46])&& !(s==[46,46]))))
theorem xr {R:Type} (k:Nat→Option R):∀(m i n:Nat),i≤n→n<i+m→splitK (n:Int) m i k=k n
 |0,i,n,h1,h2=>by omega
 |m+1,i,n,h1,h2=>by
  unfold splitK;by_cases h:n=i
  ·subst h;simp
  ·have e:((n:Int)==(i:Int))=false:=by rw[beq_eq_false_iff_ne];omega
   rw[e,ay];exact xr k m (i+1) n (by omega) (by omega)
theorem RX (b:UInt8):b.toNat<256:=b.toNat_lt
theorem vp (b:UInt8) (n:Nat) (h:n<256):Nat.beq b.toNat n=(b==UInt8.ofNat n):=by
 rw[Bool.eq_iff_iff,beq_iff_eq];constructor
 ·intro e
  have e:=Nat.eq_of_beq_eq_true e;apply UInt8.toNat_inj.1;rw[UInt8.toNat_ofNat',e];omega
 ·intro e
  subst e;rw[UInt8.toNat_ofNat'];have:n%2^8=n:=Nat.mod_eq_of_lt h;rw[this];simp
theorem jt (b:UInt8) (n:Nat) (h:n<256):((b.toNat:Int)==(n:Int))=(b==UInt8.ofNat n):=by
 rw[←vp b n h,Bool.eq_iff_iff];constructor
 ·intro e
  have e:=beq_iff_eq.1 e;have:b.toNat=n:=by omega
  rw[this];simp
 ·intro e
  have e:=Nat.eq_of_beq_eq_true e;rw[e];simp
theorem mL {α R:Type} (p:α→Bool) (kr:Nat→α→Option R) (k0:Option R) (r:Option R) (hr:∀k x,kr k x=r):∀(l:List α) (k:Nat) (s:Unit),dW (fun k x s K=>if p x then kr k x else K s) (fun _=>k0) k l s=if l.any p then r else k0
 | [],_,_=>rfl
 |x::l,k,s=>by
  simp only[dW,List.any_cons];by_cases h:p x=true
  ·simp [h,hr]
  ·simp [h,mL p kr k0 r hr l]
theorem Ij {s:Str} (hl:s.length≤1099511627775):cn s (fun z6=>some (decide (z6≥(0:Int)))) (some false) bg (0:Int)=some (s.any j9):=by
 refine(bY (l:=s) (fun n i (_:Unit)=>cn s (fun z6=>some (decide (z6≥(0:Int)))) (some false) n i) (fun k x s K=>if j9 x then some (decide ((k:Int)≥(0:Int))) else K s) (fun _=>some false) hl (fun n k x u hk hx=> ?_) (fun n u=> ?_) ()).trans ?_
 ·simp only[cn]
  rw[dec_lt hk,bS,toNat_cast,hx,bc (by omega)];simp only[aC,ai,aV,if_true];rw[xr _ _ _ _ (Nat.zero_le _) (by have:=RX x;omega),vp x 0 (by omega),vp x 47 (by omega)];unfold j9;rw[Bool.or_comm];rfl
 ·simp only[cn]
  rw[b6 (Nat.le_refl _)];rfl
 ·rw[mL j9 _ _ (some true) (fun k x=>by simp)]
  cases s.any j9<;>rfl
theorem AY {s:Str} {i:Nat} {x:UInt8} (h:s[i]? =some x):
 (x.toNat<128∧bz s i=(x.toNat,1))∨(128≤x.toNat∧128≤(bz s i).1∧1≤(bz s i).2∧∀j,j<(bz s i).2→∃b,s[i+j]? =some b∧128≤b.toNat):=by
 have hget:∀k b,s[i+k]? =some b→(ByteArray.get! ⟨s.toArray⟩ (i+k))=b:=by
  intro k b hb;have:(ByteArray.mk s.toArray).get! (i+k)=s.toArray[i+k]! :=rfl;rw[this];simp [hb]
 have hx0:(ByteArray.get! ⟨s.toArray⟩ (i+0))=x:=hget 0 x (by simpa using h);have hcont:∀k,((decide (i+k<(ByteArray.mk s.toArray).size)&&((ByteArray.get! ⟨s.toArray⟩ (i+k)).toNat/64==2))=true)→∃b,s[i+k]? =some b∧128≤b.toNat:=by
  intro k hk;simp only[Bool.and_eq_true,decide_eq_true_eq,beq_iff_eq] at hk;obtain⟨h1,h2⟩:=hk;have h1':i+k<s.length:=h1;refine⟨s[i+k],by simp [h1'], ?_⟩;rw[hget k s[i+k] (by simp [h1'])] at h2;omega
 unfold bz Utf8.decode;simp only[hx0];by_cases hb:x.toNat<128
 ·left;exact⟨hb,by rw[if_pos hb]⟩
 ·right
  refine⟨by omega, ?_⟩;rw[if_neg hb];have base:∃b,s[i+0]? =some b∧128≤b.toNat:=⟨x,by simpa using h,by omega⟩;have one:128≤((Utf8.runeError,1):Nat×Nat).1∧1≤((Utf8.runeError,1):Nat×Nat).2∧∀j,j<((Utf8.runeError,1):Nat×Nat).2→∃b,s[i+j]? =some b∧128≤b.toNat:=by
   refine⟨by decide,by decide,fun j hj=> ?_⟩;have:j=0:=by simp at hj;exact hj
   subst this;exact base
  split
  ·rename_i hc
   simp only[Bool.and_eq_true] at hc;have c1:=hcont 1 (by simpa using hc.2);split
   ·rename_i hv
    refine⟨by simpa using hv,by show 1≤2;omega,fun j hj=> ?_⟩;simp at hj;have:j=0∨j=1:=by omega
    rcases this with rfl|rfl
    ·exact base
    ·exact c1
   ·exact one
  ·split
   ·rename_i hc
    simp only[Bool.and_eq_true] at hc;have c1:=hcont 1 (by simpa using hc.1.2);have c2:=hcont 2 (by simpa using hc.2);split
    ·rename_i hv
     simp only[Bool.and_eq_true,decide_eq_true_eq] at hv;refine⟨by simp;omega,by show 1≤3;omega,fun j hj=> ?_⟩;simp at hj;have:j=0∨j=1∨j=2:=by omega
     rcases this with rfl|rfl|rfl
     ·exact base
     ·exact c1
     ·exact c2
    ·exact one
   ·split
    ·rename_i hc
     simp only[Bool.and_eq_true] at hc;have c1:=hcont 1 (by simpa using hc.1.1.2);have c2:=hcont 2 (by simpa using hc.1.2);have c3:=hcont 3 (by simpa using hc.2);split
     ·rename_i hv
      simp only[Bool.and_eq_true,decide_eq_true_eq] at hv;refine⟨by simp;omega,by show 1≤4;omega,fun j hj=> ?_⟩;simp at hj;have:j=0∨j=1∨j=2∨j=3:=by omega
      rcases this with rfl|rfl|rfl|rfl
      ·exact base
      ·exact c1
      ·exact c2
      ·exact c3
     ·exact one
    ·exact one
theorem s4 {s:Str}:∀(w i:Nat),(∀j,j<w→∃b,s[i+j]? =some b∧128≤b.toNat)→(s.drop i).any j9=(s.drop (i+w)).any j9
 |0,i,_=>rfl
 |w+1,i,h=>by
  obtain⟨b,hb,h128⟩:=h 0 (by omega);simp only[Nat.add_zero] at hb;have hi:=(List.getElem?_eq_some_iff.1 hb).1;obtain⟨x,hx,hd⟩:=tL hi;rw[hb] at hx;cases hx;rw[hd,List.any_cons,s4 w (i+1) (fun j hj=>by
   obtain⟨b,h1,h2⟩:=h (j+1) (by omega);exact⟨b,by rw[←h1];congr 1;omega,h2⟩)]
  have hn:j9 b=false:=by
   unfold j9;simp only[Bool.or_eq_false_iff,beq_eq_false_iff_ne];constructor<;>(intro e;subst e;revert h128;decide)
  rw[hn,Bool.false_or];congr 2;omega
theorem Ay {s:Str} {w i:Nat} (h1:1≤w) (h:∀j,j<w→∃b,s[i+j]? =some b∧128≤b.toNat):i+w≤s.length:=by
 obtain⟨b,hb,_⟩:=h (w - 1) (by omega);have:=(List.getElem?_eq_some_iff.1 hb).1;omega
theorem Ge:∃m,bg=m+3:=⟨bg - 3,by have:=qW;omega⟩
theorem Hz {r:Nat} (h:128≤r):(2=(Utf8.encode (r:Int)).data.toList.length∧∃a b:UInt8,(Utf8.encode (r:Int)).data.toList=[a,b]∧128≤b.toNat)∨3≤(Utf8.encode (r:Int)).data.toList.length:=by
 unfold Utf8.encode;have hc:128≤(if Utf8.valid (r:Int) then (r:Int).toNat else Utf8.runeError):=by
  split
  ·simpa using h
  ·decide
 generalize (if Utf8.valid (r:Int) then (r:Int).toNat else Utf8.runeError)=c at hc;simp only;rw[if_neg (by omega)];split
 ·left
  refine⟨rfl,_,_,rfl, ?_⟩;rw[UInt8.toNat_ofNat'];omega
 ·right
  split
  ·exact Nat.le_refl 3
  ·show 3≤4;omega
theorem Sp {R:Type} {e:Str} (kr:Int→Option R) (k1:Option R) (r:Option R) (h:(∃a b:UInt8,e=[a,b]∧128≤b.toNat)∨3≤e.length) (hs:e.length≤10) (h1:kr (-1)=r) (h2:k1=r):
 bI e (IntKind.i64.wrap ((List.length e:Int) - (1:Int))) (IntKind.i64.wrap ((List.length e:Int) - (1:Int))) kr k1 bg=r:=by
 obtain⟨m,hm⟩:=Ge;rw[hm];simp only[bI];rcases h with⟨a,b,rfl,hb⟩ |h
 ·have e1:IntKind.i64.wrap ((List.length [a,b]:Int) - (1:Int))=1:=by rfl
  rw[e1];have e2:((UInt8.toNat (0:UInt8):Int) !=(UInt8.toNat b:Int))=true:=by
   rw[bne_iff_ne];simp;omega
  have e3:Lib.indexByte ([] :Str) ((UInt8.toNat b:Int)).toNat.toUInt8= -1:=rfl;show ah true (ah true (aj (some (0:UInt8)) fun c31=>ah true (aj (some b) fun c32=>_) none) none) k1=r;simp only[aC,ai,e2];exact h1
 ·rw[b9 (by omega) (by omega)]
  have:decide (((e.length:Int) - 1)<(2:Int))=false:=by simp;omega
  rw[this,ay,h2]
theorem MD {R:Type} (kr:Int→Option R) (k9:Option R):cD ([47,0]:Str) kr k9 bg 0=k9:=by
 obtain⟨m,hm⟩:=Ge;rw[hm];rfl
theorem MN (r:Int):(Utf8.encode r).data.toList.length≤10:=by
 unfold Utf8.encode;simp only;generalize (if Utf8.valid r then r.toNat else Utf8.runeError)=c;split
 ·show 1≤10;omega
 ·split
  ·show 2≤10;omega
  ·split
   ·show 3≤10;omega
   ·show 4≤10;omega
theorem G7 {s:Str} (hl:s.length≤1099511627775):∀(n i:Nat),i≤s.length→s.length - i<n→aG s (fun z67=>some (decide (z67≥(0:Int)))) (some false) n i=some ((s.drop i).any j9):=by
 intro n;induction n with
 |zero=>intro i _ h;omega
 |succ n ih=>
  intro i hi hn;simp only[aG];by_cases hlt:i<s.length
  ·have e0:Nat.blt i s.length=true:=by simpa [Nat.blt_eq] using hlt
   rw[e0,aC];obtain⟨x,hx,hd⟩:=tL hlt;rcases AY hx with⟨h1,h2⟩ |⟨h1,h2,h3,h4⟩
   ·rw[h2]
    simp only;have a1:decide ((0:Int)≤(x.toNat:Int))=true:=by simp
    have a2:decide ((x.toNat:Int)<(128:Int))=true:=by simp;omega
    rw[a1,a2,aC,aC];have a3:IntKind.u8.wrap (x.toNat:Int)=(x.toNat:Int):=by
     simp [IntKind.wrap,IntKind.bits,IntKind.signed];omega
    rw[a3];unfold stringslite_IndexByte;have a4:((x.toNat:Int).toNat.toUInt8)=x:=by
     apply UInt8.toNat_inj.1;simp
    rw[a4,ai,hd,List.any_cons];by_cases hb:j9 x=true
    ·rw[hb]
     have:Lib.indexByte ([47,0]:Str) x≥0:=by
      unfold j9 at hb;simp at hb;rcases hb with rfl|rfl<;>decide
     rw[decide_eq_true this];simp
    ·have hb':j9 x=false:=by simpa using hb
     rw[hb'];have:¬Lib.indexByte ([47,0]:Str) x≥0:=by
      unfold j9 at hb';simp only[Bool.or_eq_false_iff,beq_eq_false_iff_ne] at hb';have e1:((47:UInt8)==x)=false:=by rw[beq_eq_false_iff_ne];exact fun e=>hb'.1 e.symm
      have e2:((0:UInt8)==x)=false:=by rw[beq_eq_false_iff_ne];exact fun e=>hb'.2 e.symm
      simp [Lib.indexByte,e1,e2]
     rw[decide_eq_false this,ay,ih (i+1) (by omega) (by omega),Bool.false_or]
   ·have hw:=Ay h3 h4
    have hrec:=ih (i+(bz s i).2) hw (by omega);rw[←s4 _ _ h4] at hrec;generalize hr:aG s (fun z67=>some (decide (z67≥(0:Int)))) (some false) n (i+(bz s i).2)=rc at hrec;subst hrec;have b1:decide ((0:Int)≤((bz s i).1:Int))=true:=by simp
    have b2:decide (((bz s i).1:Int)<(128:Int))=false:=by simp;omega
    have he:=Hz h2;have he':(∃a b:UInt8,(Utf8.encode ((bz s i).1:Int)).data.toList=[a,b]∧128≤b.toNat)∨3≤(Utf8.encode ((bz s i).1:Int)).data.toList.length:=by
     rcases he with⟨_,h⟩ |h
     ·exact Or.inl h
     ·exact Or.inr h
    have h5:∀kr:Int→Option Bool,kr (-1)=some ((s.drop i).any j9)→bI (Utf8.encode ((bz s i).1:Int)).data.toList (IntKind.i64.wrap ((List.length (Utf8.encode ((bz s i).1:Int)).data.toList:Int) - (1:Int))) (IntKind.i64.wrap ((List.length (Utf8.encode ((bz s i).1:Int)).data.toList:Int) - (1:Int))) kr (some ((s.drop i).any j9)) bg=some ((s.drop i).any j9):=
     fun kr hk=>Sp _ _ _ he' (MN _) hk rfl
    rw[b1,b2,aC,ay];simp only[MD];rw[h5 _ (by rfl)];simp only[aV,if_true]
    repeat' split
    all_goals rfl
  ·have e0:Nat.blt i s.length=false:=by
    cases h:Nat.blt i s.length with
    |false=>rfl
    |true=>exact absurd (Nat.le_of_ble_eq_true h) (by omega)
   rw[e0,ay,List.drop_eq_nil_of_le (by omega)];rfl
theorem nt {s:Str} (hl:s.length≤1099511627775):fk s=some (s.any j9):=by
 unfold fk;rw[Ij hl,G7 hl bg 0 (Nat.zero_le _) (gZ (by omega))];simp [aV]
theorem sP {s:Str} (hl:s.length≤1099511627775):lA s=some (fE s):=by
 unfold lA fE;rw[nt hl];have e:decide ((List.length s:Int)≤(255:Int))=decide (s.length≤255):=by
  rw[decide_eq_decide];omega
 rw[e];simp only[ai,aV];cases (!(s==([] :Str)))<;>cases decide (s.length≤255)<;>cases (s.any j9)<;>cases (!(s==([46]:Str)))<;>simp
theorem kG {s:Str} (hl:s.length≤1099511627775):jy s=some (fE s):=by
 unfold jy;refine(bY (l:=s) (fun n i (_:Unit)=>gR s (some false) (ah (decide ((List.length s:Int)≥(1:Int))) (ah (decide ((List.length s:Int)≤(255:Int))) (ah (!(s==([46]:Str))) (some (!(s==([46,46]:Str)))) (some false)) (some false)) (some false)) n i) (fun k x s K=>if j9 x then some false else K s) (fun _=>(ah (decide ((List.length s:Int)≥(1:Int))) (ah (decide ((List.length s:Int)≤(255:Int))) (ah (!(s==([46]:Str))) (some (!(s==([46,46]:Str)))) (some false)) (some false)) (some false))) hl (fun n k x u hk hx=> ?_) (fun n u=> ?_) ()).trans ?_
 ·simp only[gR]
  rw[dec_lt hk,bS,toNat_cast,hx,bc (by omega)];simp only[aC,ai,aV,if_true];have e1:((UInt8.toNat x:Int)==(47:Int))=(x==47):=jt x 47 (by omega);have e2:((UInt8.toNat x:Int)==(0:Int))=(x==0):=jt x 0 (by omega);rw[e1,e2];unfold j9;cases (x==47)<;>simp
 ·simp only[gR]
  rw[b6 (Nat.le_refl _)];rfl
 ·rw[mL j9 _ _ (some false) (fun k x=>rfl)]
  unfold fE;have e:decide ((List.length s:Int)≤(255:Int))=decide (s.length≤255):=by
   rw[decide_eq_decide];omega
  have e':decide ((List.length s:Int)≥(1:Int))= !(s==([] :Str)):=by
   cases s with
   |nil=>rfl
   |cons a l=>
    have:(a::l==([] :Str))=false:=rfl;rw[this];simp;omega
  rw[e,e'];simp only[aV];cases (!(s==([] :Str)))<;>cases decide (s.length≤255)<;>cases (s.any j9)<;>cases (!(s==([46]:Str)))<;>simp
abbrev ltS (a b:Str):Bool:=Op.bytesLess a b
theorem k7:∀a:Str,ltS a a=false
 | [] =>rfl
 |a::l=>by
  have:=k7 l;simp only[ltS] at this;simp [ltS,Op.bytesLess,this,UInt8.lt_irrefl]
theorem oU:∀{a b c:Str},ltS a b=true→ltS b c=true→ltS a c=true
 | [], [],_,h,_=>by simp [ltS,Op.bytesLess] at h
 | [],_::_, [],_,h=>by simp [ltS,Op.bytesLess] at h
 | [],_::_,_::_,_,_=>rfl
 |_::_, [],_,h,_=>by simp [ltS,Op.bytesLess] at h
 |_::_,_::_, [],_,h=>by simp [ltS,Op.bytesLess] at h
 |a::l,b::m,c::k,h1,h2=>by
  simp only[ltS,Op.bytesLess,Bool.or_eq_true,decide_eq_true_eq,Bool.and_eq_true,beq_iff_eq] at h1 h2⊢;rcases h1 with h1|⟨rfl,h1⟩
  ·rcases h2 with h2|⟨rfl,h2⟩
   ·exact Or.inl (UInt8.lt_trans h1 h2)
   ·exact Or.inl h1
  ·rcases h2 with h2|⟨rfl,h2⟩
   ·exact Or.inl h2
   ·exact Or.inr ⟨rfl,oU h1 h2⟩
theorem yd:∀a b:Str,ltS a b=true∨a=b∨ltS b a=true
 | [], [] =>Or.inr (Or.inl rfl)
 | [],_::_=>Or.inl rfl
 |_::_, [] =>Or.inr (Or.inr rfl)
 |a::l,b::m=>by
  simp only[ltS,Op.bytesLess,Bool.or_eq_true,decide_eq_true_eq,Bool.and_eq_true,beq_iff_eq,List.cons.injEq];rcases UInt8.lt_or_lt_of_ne (a:=a) (b:=b) |> fun h=>(Decidable.em (a=b)).elim (fun e=>Or.inr e) (fun e=>Or.inl (h e)) with h|rfl
  ·rcases h with h|h
   ·exact Or.inl (Or.inl h)
   ·exact Or.inr (Or.inr (Or.inl h))
  ·rcases yd l m with h|rfl|h
   ·exact Or.inl (Or.inr ⟨rfl,h⟩)
   ·exact Or.inr (Or.inl ⟨rfl,rfl⟩)
   ·exact Or.inr (Or.inr (Or.inr ⟨rfl,h⟩))
theorem xF {a b:Str} (h:ltS a b=true):ltS b a=false:=by
 cases h':ltS b a
 ·rfl
 ·have:=oU h h';rw[k7] at this;cases this
theorem Ma {a b:Str} (h:ltS a b=true):a≠b:=by intro e;subst e;rw[k7] at h;cases h
theorem ub:∀a b:Str,decide (Lib.compareBytes a b<0)=ltS a b
 | [], [] =>rfl
 | [],_::_=>rfl
 |_::_, [] =>rfl
 |a::l,b::m=>by
  simp only[Lib.compareBytes,ltS,Op.bytesLess];by_cases h:a<b
  ·simp [h]
  ·by_cases h':b<a
   ·have hne:(a==b)=false:=by rw[beq_eq_false_iff_ne];intro e;subst e;exact UInt8.lt_irrefl _ h'
    simp [h,h',hne]
   ·have he:a=b:=UInt8.le_antisymm (UInt8.not_lt.1 h') (UInt8.not_lt.1 h)
    subst he;have:=ub l m;simp only[if_neg h,decide_eq_false h,beq_self_eq_true,Bool.true_and,Bool.false_or];exact this
theorem vi:∀a b:Str,(Lib.compareBytes a b==0)=(a==b)
 | [], [] =>rfl
 | [],_::_=>rfl
 |_::_, [] =>rfl
 |a::l,b::m=>by
  simp only[Lib.compareBytes];by_cases h:a<b
  ·have hne:(a==b)=false:=by rw[beq_eq_false_iff_ne];intro e;subst e;exact UInt8.lt_irrefl _ h
   rw[if_pos h];have:(a::l==b::m)=false:=by rw[beq_eq_false_iff_ne] at hne⊢;intro e;cases e;exact hne rfl
   rw[this];rfl
  ·rw[if_neg h]
   by_cases h':b<a
   ·have hne:(a==b)=false:=by rw[beq_eq_false_iff_ne];intro e;subst e;exact UInt8.lt_irrefl _ h'
    rw[if_pos h'];have:(a::l==b::m)=false:=by rw[beq_eq_false_iff_ne] at hne⊢;intro e;cases e;exact hne rfl
    rw[this];rfl
   ·rw[if_neg h']
    have he:a=b:=UInt8.le_antisymm (UInt8.not_lt.1 h') (UInt8.not_lt.1 h);subst he;rw[vi l m,Bool.eq_iff_iff];simp
end Go.Eng
set_option linter.unusedSimpArgs false
set_option linter.unusedVariables false
namespace Go.Eng
open Go
structure LO {κ:Type} (lt:κ→κ→Bool):Prop where
 irrefl:∀a,lt a a=false
 trans:∀{a b c},lt a b=true→lt b c=true→lt a c=true
 tri:∀a b,lt a b=true∨a=b∨lt b a=true
def ltI (a b:Int):Bool:=decide (a<b)
theorem loI:LO ltI where
 irrefl a:=by simp [ltI]
 trans h1 h2:=by simp only[ltI,decide_eq_true_eq] at*;omega
 tri a b:=by simp only[ltI,decide_eq_true_eq];omega
section
set_option linter.unusedSectionVars false
variable {α κ:Type} [DecidableEq κ] {lt:κ→κ→Bool} {key:α→κ}
def cU (lt:κ→κ→Bool) (key:α→κ) (l:List α):Prop:=l.Pairwise fun x y=>lt (key x) (key y)=true
def dz (lt:κ→κ→Bool) (key:α→κ) (k:κ):List α→Nat
 | [] =>0
 |x::l=>if lt (key x) k then dz lt key k l+1 else 0
def b5 (key:α→κ) (k:κ) (l:List α):Option α:=l.find? fun x=>decide (key x=k)
def iG (lt:κ→κ→Bool) (key:α→κ) (x:α):List α→List α
 | [] =>[x]
 |y::l=>if lt (key x) (key y) then x::y::l else y::iG lt key x l
def eh (key:α→κ) (k:κ) (l:List α):List α:=l.filter fun y=> !decide (key y=k)
def nD (lt:κ→κ→Bool) (key:α→κ) (x:α) (l:List α):List α:=iG lt key x (eh key (key x) l)
theorem LO.asymm (O:LO lt) {a b:κ} (h:lt a b=true):lt b a=false:=by
 cases h':lt b a
 ·rfl
 ·have:=O.trans h h';rw[O.irrefl] at this;cases this
theorem LO.ne (O:LO lt) {a b:κ} (h:lt a b=true):a≠b:=by intro e;subst e;rw[O.irrefl] at h;cases h
theorem l7 {k:κ} (l:List α):dz lt key k l≤l.length:=by
 induction l with
 |nil=>exact Nat.le_refl _
 |cons x l ih=>
  simp only[dz];split<;>simp only[List.length_cons]<;>omega
theorem o4 {k:κ}:∀{l:List α} {j:Nat} {x:α},j<dz lt key k l→l[j]? =some x→lt (key x) k=true
 | [],j,x,h,_=>by simp [dz] at h
 |y::l,j,x,h,hx=>by
  simp only[dz] at h;split at h
  ·rename_i hy
   cases j with
   |zero=>simp at hx;subst hx;exact hy
   |succ j=>exact o4 (l:=l) (j:=j) (by omega) (by simpa using hx)
  ·omega
theorem qZ (O:LO lt) {k:κ}:∀{l:List α} {j:Nat} {x:α},cU lt key l→dz lt key k l≤j→l[j]? =some x→lt (key x) k=false
 | [],j,x,_,_,hx=>by simp at hx
 |y::l,j,x,hs,h,hx=>by
  simp only[dz] at h;unfold cU at hs;rw[List.pairwise_cons] at hs;split at h
  ·cases j with
   |zero=>omega
   |succ j=>exact qZ O (l:=l) (j:=j) hs.2 (by omega) (by simpa using hx)
  ·rename_i hy
   cases j with
   |zero=>simp at hx;subst hx;simpa using hy
   |succ j=>
    have h2:x∈l:=List.mem_of_getElem? (by simpa using hx);cases h':lt (key x) k
    ·rfl
    ·have:=O.trans (hs.1 x h2) h'
     exact absurd this hy
theorem GS (O:LO lt) {k:κ}:∀{l:List α},cU lt key l→(∀x∈l,lt k (key x)=true)→b5 key k l=none:=by
 intro l _ h;unfold b5;rw[List.find?_eq_none];intro x hx;have:=O.ne (h x hx);simp;exact fun e=>this e.symm
theorem jm (O:LO lt) {k:κ}:∀{l:List α},cU lt key l→b5 key k l=aj l[dz lt key k l]? fun x=>if key x=k then some x else none
 | [],_=>rfl
 |y::l,hs=>by
  unfold cU at hs;rw[List.pairwise_cons] at hs;have ih:=jm O (k:=k) hs.2;simp only[dz];by_cases hy:lt (key y) k=true
  ·rw[if_pos hy]
   simp only[List.getElem?_cons_succ];rw[←ih];unfold b5;rw[List.find?_cons];simp [O.ne hy]
  ·rw[if_neg hy]
   simp only[List.getElem?_cons_zero,ai];unfold b5;rw[List.find?_cons];by_cases he:key y=k
   ·simp [he]
   ·simp only[he,decide_false,if_false]
    have h1:lt k (key y)=true:=by
     rcases O.tri (key y) k with h|h|h
     ·exact absurd h hy
     ·exact absurd h he
     ·exact h
    exact GS O hs.2 (fun x hx=>O.trans h1 (hs.1 x hx))
theorem nv {k:κ} {l:List α} (h:b5 key k l=none):eh key k l=l:=by
 unfold b5 at h;unfold eh;rw[List.find?_eq_none] at h;rw[List.filter_eq_self];intro x hx;have:=h x hx;simpa using this
theorem zi (O:LO lt) {k:κ} {l:List α} (h:∀x∈l,lt k (key x)=true):eh key k l=l:=by
 unfold eh;rw[List.filter_eq_self];intro x hx;have:=O.ne (h x hx);simp;exact fun e=>this e.symm
theorem oR (O:LO lt) {k:κ}:∀{l:List α} {x:α},cU lt key l→l[dz lt key k l]? =some x→key x=k→eh key k l=l.take (dz lt key k l)++l.drop (dz lt key k l+1)
 | [],x,_,h,_=>by simp at h
 |y::l,x,hs,h,hk=>by
  unfold cU at hs;rw[List.pairwise_cons] at hs;simp only[dz] at h⊢;by_cases hy:lt (key y) k=true
  ·rw[if_pos hy] at h⊢
   have:=oR O (k:=k) hs.2 (by simpa using h) hk;simp only[List.take_succ_cons,List.drop_succ_cons,List.cons_append];rw[←this];unfold eh;rw[List.filter_cons];simp [O.ne hy]
  ·rw[if_neg hy] at h⊢
   simp at h;subst h;simp only[List.take_zero,List.nil_append,List.drop_succ_cons,List.drop_zero,Nat.zero_add];have:=zi O (key:=key) (l:=l) (k:=k) (fun z hz=>by rw[←hk];exact hs.1 z hz);rw[←this];unfold eh;rw[List.filter_cons];simp [hk]
theorem IK (O:LO lt) {x:α}:∀{l:List α},(∀y∈l,lt (key x) (key y)=true)→iG lt key x l=x::l
 | [],_=>rfl
 |y::l,h=>by simp only[iG];rw[if_pos (h y (by simp))]
theorem qT (O:LO lt) {x:α}:∀{l:List α},cU lt key l→b5 key (key x) l=none→nD lt key x l=l.take (dz lt key (key x) l)++x::l.drop (dz lt key (key x) l):=by
 intro l hs hf;unfold nD;rw[nv hf];induction l with
 |nil=>rfl
 |cons y l ih=>
  unfold cU at hs;rw[List.pairwise_cons] at hs;have hf':¬key y=key x∧b5 key (key x) l=none:=by
   unfold b5 at hf⊢;rw[List.find?_cons] at hf;split at hf
   ·cases hf
   ·rename_i h;exact⟨by simpa using h,hf⟩
  simp only[dz,iG];by_cases hy:lt (key y) (key x)=true
  ·rw[if_pos hy,O.asymm hy]
   simp only[List.take_succ_cons,List.drop_succ_cons,List.cons_append,Bool.false_eq_true,if_false];rw[ih hs.2 hf'.2]
  ·rw[if_neg hy]
   have h1:lt (key x) (key y)=true:=by
    rcases O.tri (key y) (key x) with h|h|h
    ·exact absurd h hy
    ·exact absurd h hf'.1
    ·exact h
   rw[if_pos h1];rfl
theorem w_ (O:LO lt) {x:α}:∀{a b:List α},(∀y∈a,lt (key y) (key x)=true)→iG lt key x (a++b)=a++iG lt key x b
 | [],b,_=>rfl
 |y::a,b,h=>by
  simp only[List.cons_append,iG];rw[O.asymm (h y (by simp))];simp only[Bool.false_eq_true,if_false];rw[w_ O (fun z hz=>h z (by simp [hz]))]
theorem zf (O:LO lt) {x y:α} {l:List α} (hs:cU lt key l) (h:l[dz lt key (key x) l]? =some y) (hk:key y=key x):nD lt key x l=l.set (dz lt key (key x) l) x:=by
 unfold nD;rw[oR O hs h hk];have hc:=(List.getElem?_eq_some_iff.1 h).1;have h1:∀z∈l.take (dz lt key (key x) l),lt (key z) (key x)=true:=by
  intro z hz;obtain⟨j,hj,e⟩:=List.getElem_of_mem hz;have hj':j<dz lt key (key x) l:=by simp at hj;omega
  exact o4 hj' (by rw[←e];simp)
 have h2:∀z∈l.drop (dz lt key (key x) l+1),lt (key x) (key z)=true:=by
  intro z hz;unfold cU at hs;rw[←List.take_append_drop (dz lt key (key x) l) l,List.pairwise_append] at hs;have hd:=hs.2.1;rw[List.drop_eq_getElem_cons hc,List.pairwise_cons] at hd;have:=hd.1 z hz;rw[List.getElem?_eq_getElem hc] at h;cases h;rw[←hk];exact this
 rw[w_ O h1,IK O h2,List.set_eq_take_append_cons_drop,if_pos hc]
theorem qL {x y:α}:∀{l:List α},y∈iG lt key x l↔y=x∨y∈l
 | [] =>by simp [iG]
 |z::l=>by
  simp only[iG];split
  ·simp
  ·simp only[List.mem_cons,qL (l:=l)]
   constructor
   ·rintro(h|h|h)
    ·exact Or.inr (Or.inl h)
    ·exact Or.inl h
    ·exact Or.inr (Or.inr h)
   ·rintro(h|h|h)
    ·exact Or.inr (Or.inl h)
    ·exact Or.inl h
    ·exact Or.inr (Or.inr h)
theorem fo {k:κ} {y:α} {l:List α}:y∈eh key k l↔y∈l∧key y≠k:=by
 unfold eh;rw[List.mem_filter];simp
theorem zC {x y:α} {l:List α}:y∈nD lt key x l↔y=x∨(y∈l∧key y≠key x):=by
 unfold nD;rw[qL,fo]
theorem fh {k:κ} {l:List α} (h:cU lt key l):cU lt key (eh key k l):=List.Pairwise.filter _ h
theorem rl (O:LO lt) {x:α}:∀{l:List α},cU lt key l→(∀y∈l,key y≠key x)→cU lt key (iG lt key x l)
 | [],_,_=>by unfold cU iG;simp
 |y::l,hs,hn=>by
  unfold cU at hs⊢;rw[List.pairwise_cons] at hs;simp only[iG];split
  ·rename_i h
   rw[List.pairwise_cons];refine⟨fun z hz=> ?_,List.pairwise_cons.2 hs⟩;simp only[List.mem_cons] at hz;rcases hz with rfl|hz
   ·exact h
   ·exact O.trans h (hs.1 z hz)
  ·rename_i h
   rw[List.pairwise_cons];refine⟨fun z hz=> ?_,rl O hs.2 (fun z hz=>hn z (by simp [hz]))⟩;rw[qL] at hz;rcases hz with rfl|hz
   ·rcases O.tri (key y) (key z) with h'|h'|h'
    ·exact h'
    ·exact absurd h' (hn y (by simp))
    ·exact absurd h' h
   ·exact hs.1 z hz
theorem oN (O:LO lt) {x:α} {l:List α} (h:cU lt key l):cU lt key (nD lt key x l):=
 rl O (fh h) (fun y hy=>(fo.1 hy).2)
theorem rI {x:α} {k:κ} {l:List α} (hn:∀y∈l,key y≠key x):b5 key k (iG lt key x l)=if key x=k then some x else b5 key k l:=by
 induction l with
 |nil=>
  unfold b5 iG;simp only[List.find?_cons,List.find?_nil];by_cases h:key x=k<;>simp [h]
 |cons y l ih=>
  simp only[iG];split
  ·unfold b5
   rw[List.find?_cons];by_cases h:key x=k<;>simp [h]
  ·have ih:=ih (fun z hz=>hn z (by simp [hz]))
   unfold b5 at ih⊢;rw[List.find?_cons,List.find?_cons,ih];by_cases h:key y=k
   ·have:¬key x=k:=by intro e;exact hn y (by simp) (h.trans e.symm)
    simp [h,this]
   ·simp [h]
theorem nc {k k':κ} {l:List α}:b5 key k' (eh key k l)=if k=k' then none else b5 key k' l:=by
 unfold b5 eh;rw[List.find?_filter];by_cases h:k=k'
 ·subst h
  rw[if_pos rfl,List.find?_eq_none];intro x _;simp
 ·rw[if_neg h]
  congr 1;funext x;by_cases hx:key x=k'
  ·have:¬key x=k:=by intro e;exact h (e.symm.trans hx)
   simp [hx];intro e;exact h e.symm
  ·simp [hx]
theorem xp {x:α} {k:κ} {l:List α}:b5 key k (nD lt key x l)=if key x=k then some x else b5 key k l:=by
 unfold nD;rw[rI (fun y hy=>(fo.1 hy).2),nc];by_cases h:key x=k<;>simp [h]
theorem b8 {k:κ} {l:List α} {x:α} (h:b5 key k l=some x):x∈l∧key x=k:=by
 unfold b5 at h;exact⟨List.mem_of_find?_eq_some h,by have:=List.find?_some h;simpa using this⟩
theorem kM (O:LO lt) {l:List α} {x:α} (hs:cU lt key l) (h:x∈l):b5 key (key x) l=some x:=by
 induction l with
 |nil=>cases h
 |cons y l ih=>
  unfold cU at hs;rw[List.pairwise_cons] at hs;unfold b5 at ih⊢;rw[List.find?_cons];simp only[List.mem_cons] at h;rcases h with rfl|h
  ·simp
  ·have:=O.ne (hs.1 x h)
   simp [this];exact ih hs.2 h
theorem oa {x:α}:∀l:List α,(iG lt key x l).length=l.length+1
 | [] =>rfl
 |y::l=>by simp only[iG];split<;>simp [oa l]
theorem dt {k:κ} {l:List α}:(eh key k l).length≤l.length:=List.length_filter_le _ _
theorem kP {x:α} {l:List α}:(nD lt key x l).length≤l.length+1:=by
 unfold nD;rw[oa];have:=dt (key:=key) (k:=key x) (l:=l);omega
theorem zT (O:LO lt):∀{l m:List α},cU lt key l→cU lt key m→(∀x,x∈l↔x∈m)→l=m
 | [], [],_,_,_=>rfl
 | [],y::m,_,_,h=>by have:=(h y).2 (by simp);cases this
 |x::l, [],_,_,h=>by have:=(h x).1 (by simp);cases this
 |x::l,y::m,hl,hm,h=>by
  unfold cU at hl hm;rw[List.pairwise_cons] at hl hm;have hxy:x=y:=by
   have h1:=(h x).1 (by simp);have h2:=(h y).2 (by simp);simp only[List.mem_cons] at h1 h2;rcases h1 with h1|h1
   ·exact h1
   ·rcases h2 with h2|h2
    ·exact h2.symm
    ·have a:=hm.1 x h1
     have b:=hl.1 y h2;rw[O.asymm a] at b;cases b
  subst hxy;congr 1;refine zT O hl.2 hm.2 fun z=> ?_
  have hz:=h z;simp only[List.mem_cons] at hz;constructor
  ·intro hzl
   rcases hz.1 (Or.inr hzl) with rfl|h
   ·have:=hl.1 z hzl;rw[O.irrefl] at this;cases this
   ·exact h
  ·intro hzm
   rcases hz.2 (Or.inr hzm) with rfl|h
   ·have:=hm.1 z hzm;rw[O.irrefl] at this;cases this
   ·exact h
theorem jL (O:LO lt) {l m:List α} (hl:cU lt key l) (hm:cU lt key m) (h:∀k,b5 key k l=b5 key k m):l=m:=by
 refine zT O hl hm fun x=>⟨fun hx=> ?_,fun hx=> ?_⟩
 ·have:=kM O hl hx
  rw[h] at this;exact(b8 this).1
 ·have:=kM O hm hx
  rw[←h] at this;exact(b8 this).1
end
theorem yU {R:Type} (F:Nat→Int→Int→Option R) (p:Nat→Bool) (len c:Nat) (k0:Int→Option R) (hlen:len≤1099511627775)
 (h1:∀(n lo hi:Nat),lo<hi→hi≤len→F (n+1) (lo:Int) (hi:Int)=if p ((lo+hi)/2) then F n (((lo+hi)/2+1:Nat):Int) (hi:Int) else F n (lo:Int) (((lo+hi)/2:Nat):Int))
 (h0:∀(n lo:Nat),lo≤len→F (n+1) (lo:Int) (lo:Int)=k0 (lo:Int)) (hp:∀j,j<c→p j=true) (hn:∀j,c≤j→j<len→p j=false):
 ∀(n lo hi:Nat),hi - lo<n→lo≤c→c≤hi→hi≤len→F n (lo:Int) (hi:Int)=k0 (c:Int):=by
 intro n;induction n with
 |zero=>intro lo hi h;omega
 |succ n ih=>
  intro lo hi hd hlo hhi hle;by_cases h:lo<hi
  ·rw[h1 n lo hi h hle]
   by_cases hm:(lo+hi)/2<c
   ·rw[hp _ hm]
    exact ih _ _ (by omega) (by omega) hhi hle
   ·rw[hn _ (by omega) (by omega)]
    exact ih _ _ (by omega) hlo (by omega) (by omega)
  ·have e1:lo=c:=by omega
   have e2:hi=c:=by omega
   subst e1;subst e2;exact h0 n _ hle
theorem yF {lo hi:Nat} (h1:lo≤1099511627775) (h2:hi≤1099511627775):(IntKind.i64.wrap (Int.fdiv (IntKind.u64.wrap (IntKind.i64.wrap ((lo:Int)+(hi:Int)))) (2^(min (Int.toNat (1:Int)) (IntKind.bits .u64)))))=(((lo+hi)/2:Nat):Int):=by
 rw[b9 (n:=(lo:Int)+hi) (by omega) (by omega)];have e1:IntKind.u64.wrap ((lo:Int)+(hi:Int))=(lo:Int)+hi:=by
  simp [IntKind.wrap,IntKind.bits,IntKind.signed];omega
 have e2:(2:Int)^(min (Int.toNat (1:Int)) (IntKind.bits .u64))=2:=by decide
 rw[e1,e2,Int.fdiv_eq_ediv_of_nonneg _ (by omega)];rw[b9 (by omega) (by omega)];omega
end Go.Eng
