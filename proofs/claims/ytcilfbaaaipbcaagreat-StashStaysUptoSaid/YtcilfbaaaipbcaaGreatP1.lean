/- A part of the proofs of the laws of this seat: the engine that reads the program's code, plain functions, or facts of the program's functions. Conditions: none. -/
import Derived.Test.YtcilfbaaaipbcaaGreatE4
import Derived.Lib.Bytealg
import Derived.Lib.IndexAny
import Derived.Lib.Join
set_option linter.unusedSectionVars false
set_option linter.unusedVariables false
set_option linter.unusedSimpArgs false
set_option linter.unnecessarySimpa false
namespace Go.Eng
open Go
def strings_Compare (a b:Str):Option Int:=some (Lib.compareBytes a b)
def stringslite_IndexByte (a:Str) (c:Int):Option Int:=some (Lib.indexByte a c.toNat.toUInt8)
end Go.Eng
set_option linter.unusedVariables false
set_option maxRecDepth 100000
namespace Go.Eng
open Go
noncomputable def gR {R:Type} (x1:Str) (kr:Option R) (k0:Option R):Nat→Int→Option R
 |0,_=>none
 |n+1,x2=>
  ah (decide (x2<(List.length x1:Int))) (
  ah (decide (0≤x2)) (aj x1[Int.toNat x2]? fun c3=>
  ah ((UInt8.toNat c3:Int)==(47:Int)) ((kr)) (
  ah (decide (0≤x2)) (aj x1[Int.toNat x2]? fun c4=>
  ah ((UInt8.toNat c4:Int)==(0:Int)) ((kr)) ((gR x1 kr k0 n (IntKind.i64.wrap (x2+(1:Int)))))) (none))) (none)) ((k0))
noncomputable def jy (w0:Str):Option (Bool):=
 gR w0 (some false) (
 ah (decide ((List.length w0:Int)≥(1:Int))) (
 ah (decide ((List.length w0:Int)≤(255:Int))) (
 ah (!(w0==([46]:Str))) (some (!(w0==([46,46]:Str)))) (some false)) (some false)) (some false)) bg (0:Int)
noncomputable def cI {R:Type} (x1:Str) (k0:(List Str)→Option R):Nat→Str→Int→(List Str)→Option R
 |0,_,_,_=>none
 |n+1,x2,x3,x4=>
  ah (decide (x3≤(List.length x1:Int))) (
  ah (decide (x3<(List.length x1:Int))) (
  ah (decide (0≤x3)) (aj x1[Int.toNat x3]? fun c5=>
  ah ((UInt8.toNat c5:Int) !=(47:Int)) (
  ah (decide (0≤(IntKind.i64.wrap (x3+(1:Int)))∧(IntKind.i64.wrap (x3+(1:Int)))≤(x1.length:Int))) (
  ah (decide (0≤x3∧x3≤(IntKind.i64.wrap (x3+(1:Int))))) (aQ (x2.length+((x1.take (Int.toNat (IntKind.i64.wrap (x3+(1:Int))))).drop (Int.toNat x3)).length) ((cI x1 k0 n (x2++((x1.take (Int.toNat (IntKind.i64.wrap (x3+(1:Int))))).drop (Int.toNat x3))) (IntKind.i64.wrap (x3+(1:Int))) x4))) (none)) (none)) (
  ah (!(x2==([] :Str))) (aQ (x4.length+[x2].length) ((cI x1 k0 n ([] :Str) (IntKind.i64.wrap (x3+(1:Int))) (x4++[x2])))) ((cI x1 k0 n ([] :Str) (IntKind.i64.wrap (x3+(1:Int))) x4)))) (none)) (
  ah (!(x2==([] :Str))) (aQ (x4.length+[x2].length) ((cI x1 k0 n ([] :Str) (IntKind.i64.wrap (x3+(1:Int))) (x4++[x2])))) ((cI x1 k0 n ([] :Str) (IntKind.i64.wrap (x3+(1:Int))) x4)))) ((k0 x4))
noncomputable def iF (w0:Str):Option ((List Str)):=
 cI w0 (fun z7=>some z7) bg ([] :Str) (0:Int) ([] :List Str)
noncomputable def fY {R:Type} (x1:List Str) (k0:Str→Option R):Nat→Str→Int→Option R
 |0,_,_=>none
 |n+1,x2,x3=>
  ah (decide (x3<(List.length x1:Int))) (aQ (x2.length+([47]:Str).length) (
  ah (decide (0≤x3)) (aj x1[Int.toNat x3]? fun e4=>aQ ((x2++([47]:Str)).length+e4.length) ((fY x1 k0 n ((x2++([47]:Str))++e4) (IntKind.i64.wrap (x3+(1:Int)))))) (none))) ((k0 x2))
noncomputable def nz (w0:(List Str)):Option (Str):=
 ah ((List.length w0:Int)==(0:Int)) (some ([47]:Str)) (fY w0 (fun z6=>some z6) bg ([] :Str) (0:Int))
noncomputable def eu {R:Type} (x3:List Str) (kr:Option R) (k0:Option R):Nat→Int→Option R
 |0,_=>none
 |n+1,x4=>
  ah (decide (x4<(List.length x3:Int))) (
  ah (decide (0≤x4)) (aj x3[Int.toNat x4]? fun e5=>aj (jy e5) fun y6=>
  ah (!y6) ((kr)) ((eu x3 kr k0 n (IntKind.i64.wrap (x4+(1:Int)))))) (none)) ((k0))
noncomputable def lV (w0:Str):Option ((List Str)×Bool):=
 aj (iF w0) fun y1=>eu y1 (some (([] :List Str),false)) (aj (nz y1) fun y11=>
 ah (!(y11==w0)) (some (([] :List Str),false)) (some (y1,true))) bg (0:Int)
noncomputable def fP {R:Type} (x3:List Str) (kr:Option R) (k0:Option R):Nat→Int→Option R
 |0,_=>none
 |n+1,x4=>
  ah (decide (x4<(List.length x3:Int))) (
  ah (decide (0≤x4)) (aj x3[Int.toNat x4]? fun e5=>
  ah (decide ((List.length e5:Int)>(255:Int))) ((kr)) ((fP x3 kr k0 n (IntKind.i64.wrap (x4+(1:Int)))))) (none)) ((k0))
noncomputable def iv (w0:Str):Option (Bool):=
 aj (iF w0) fun y1=>fP y1 (some true) (some (decide ((List.length w0:Int)>(4095:Int)))) bg (0:Int)
noncomputable def gm (w0:Str):Option (Pth):=
 aj (iF w0) fun y1=>
 ah (decide ((List.length w0:Int)>(0:Int))) (
 ah (decide (0≤(0:Int))) (aj w0[Int.toNat (0:Int)]? fun c2=>
 ah (decide ((List.length y1:Int)>(0:Int))) (
 ah (decide (0≤(IntKind.i64.wrap ((List.length w0:Int) - (1:Int))))) (aj w0[Int.toNat (IntKind.i64.wrap ((List.length w0:Int) - (1:Int)))]? fun c3=>some (⟨((UInt8.toNat c2:Int)==(47:Int)),y1,((UInt8.toNat c3:Int)==(47:Int))⟩:Pth)) (none)) (some (⟨((UInt8.toNat c2:Int)==(47:Int)),y1,false⟩:Pth))) (none)) (
 ah (decide ((List.length y1:Int)>(0:Int))) (
 ah (decide (0≤(IntKind.i64.wrap ((List.length w0:Int) - (1:Int))))) (aj w0[Int.toNat (IntKind.i64.wrap ((List.length w0:Int) - (1:Int)))]? fun c4=>some (⟨false,y1,((UInt8.toNat c4:Int)==(47:Int))⟩:Pth)) (none)) (some (⟨false,y1,false⟩:Pth)))
end Go.Eng
set_option linter.unusedVariables false
set_option maxRecDepth 100000
namespace Go.Eng
open Go
noncomputable def fX {R:Type} (x1:List Entry) (x2:List Entry) (kr:Option R) (k0:Option R):Nat→Int→Option R
 |0,_=>none
 |n+1,x3=>
  ah (decide (x3<(List.length x1:Int))) (
  ah (decide (0≤x3)) (aj x1[Int.toNat x3]? fun e4=>
  ah (decide (0≤x3)) (aj x2[Int.toNat x3]? fun e5=>
  ah (!((e4.name==e5.name)&&(e4.ino==e5.ino))) ((kr)) ((fX x1 x2 kr k0 n (IntKind.i64.wrap (x3+(1:Int)))))) (none)) (none)) ((k0))
noncomputable def nG (w0:(List Entry)) (w1:(List Entry)):Option (Bool):=
 ah ((List.length w0:Int) !=(List.length w1:Int)) (some false) (fX w0 w1 (some false) (some true) bg (0:Int))
noncomputable def eI {R:Type} (x1:List Entry) (kr:Option R) (k0:Option R):Nat→Int→Option R
 |0,_=>none
 |n+1,x2=>
  ah (decide (x2<(List.length x1:Int))) (
  ah (decide (0≤x2)) (aj x1[Int.toNat x2]? fun e3=>aj (jy e3.name) fun y4=>
  ah (!y4) ((kr)) (
  ah (decide (0≤x2)) (aj x1[Int.toNat x2]? fun e5=>
  ah (decide (e5.ino<(1:Int))) ((kr)) (
  ah (decide (x2>(0:Int))) (
  ah (decide (0≤(IntKind.i64.wrap (x2 - (1:Int))))) (aj x1[Int.toNat (IntKind.i64.wrap (x2 - (1:Int)))]? fun e6=>
  ah (decide (0≤x2)) (aj x1[Int.toNat x2]? fun e7=>
  ah (!Op.bytesLess e6.name e7.name) ((kr)) ((eI x1 kr k0 n (IntKind.i64.wrap (x2+(1:Int)))))) (none)) (none)) ((eI x1 kr k0 n (IntKind.i64.wrap (x2+(1:Int))))))) (none))) (none)) ((k0))
noncomputable def eZ (w0:(List Entry)):Option (Bool):=
 eI w0 (some false) (some true) bg (0:Int)
noncomputable def fW {R:Type} (x1:List Entry) (x2:Str) (kr:Int→Option R) (k0:Option R):Nat→Int→Option R
 |0,_=>none
 |n+1,x3=>
  ah (decide (x3<(List.length x1:Int))) (
  ah (decide (0≤x3)) (aj x1[Int.toNat x3]? fun e4=>
  ah (e4.name==x2) (
  ah (decide (0≤x3)) (aj x1[Int.toNat x3]? fun e5=>(kr e5.ino)) (none)) ((fW x1 x2 kr k0 n (IntKind.i64.wrap (x3+(1:Int)))))) (none)) ((k0))
noncomputable def jx (w0:(List Entry)) (w1:Str):Option (Int×Bool):=
 fW w0 w1 (fun z8=>some (z8,true)) (some ((0:Int),false)) bg (0:Int)
noncomputable def dy {R:Type} (x1:List Entry) (x2:Str) (k0:(List Entry)→Option R):Nat→Int→(List Entry)→Option R
 |0,_,_=>none
 |n+1,x3,x4=>
  ah (decide (x3<(List.length x1:Int))) (
  ah (decide (0≤x3)) (aj x1[Int.toNat x3]? fun e5=>
  ah (!(e5.name==x2)) (
  ah (decide (0≤x3)) (aj x1[Int.toNat x3]? fun e6=>aQ (x4.length+[e6].length) ((dy x1 x2 k0 n (IntKind.i64.wrap (x3+(1:Int))) (x4++[e6])))) (none)) ((dy x1 x2 k0 n (IntKind.i64.wrap (x3+(1:Int))) x4))) (none)) ((k0 x4))
noncomputable def ic (w0:(List Entry)) (w1:Str):Option ((List Entry)):=
 dy w0 w1 (fun z8=>some z8) bg (0:Int) ([] :List Entry)
noncomputable def eg {R:Type} (x2:Str) (x3:Int) (x4:List Entry) (k0:Bool→(List Entry)→Option R):Nat→Bool→Int→(List Entry)→Option R
 |0,_,_,_=>none
 |n+1,x5,x6,x7=>
  ah (decide (x6<(List.length x4:Int))) (
  ah (!x5) (
  ah (decide (0≤x6)) (aj x4[Int.toNat x6]? fun e8=>
  ah (!(Op.bytesLess e8.name x2||e8.name==x2)) (aQ (x7.length+[(⟨x2,x3⟩:Entry)].length) (
  ah (decide (0≤x6)) (aj x4[Int.toNat x6]? fun e9=>aQ ((x7++[(⟨x2,x3⟩:Entry)]).length+[e9].length) ((eg x2 x3 x4 k0 n true (IntKind.i64.wrap (x6+(1:Int))) ((x7++[(⟨x2,x3⟩:Entry)])++[e9])))) (none))) (
  ah (decide (0≤x6)) (aj x4[Int.toNat x6]? fun e10=>aQ (x7.length+[e10].length) ((eg x2 x3 x4 k0 n x5 (IntKind.i64.wrap (x6+(1:Int))) (x7++[e10])))) (none))) (none)) (
  ah (decide (0≤x6)) (aj x4[Int.toNat x6]? fun e11=>aQ (x7.length+[e11].length) ((eg x2 x3 x4 k0 n x5 (IntKind.i64.wrap (x6+(1:Int))) (x7++[e11])))) (none))) ((k0 x5 x7))
noncomputable def iA (w0:(List Entry)) (w1:Str) (w2:Int):Option ((List Entry)):=
 aj (ic w0 w1) fun y1=>eg w1 w2 y1 (fun z16 z17=>
 ah (!z16) (aQ (z17.length+[(⟨w1,w2⟩:Entry)].length) (some (z17++[(⟨w1,w2⟩:Entry)]))) (some z17)) bg false (0:Int) ([] :List Entry)
end Go.Eng
set_option linter.unusedVariables false
set_option maxRecDepth 100000
namespace Go.Eng
open Go
noncomputable def fj {R:Type} (x1:Int) (x3:Fs) (k0:(List ae)→Option R):Nat→Int→(List ae)→Option R
 |0,_,_=>none
 |n+1,x2,x5=>
  ah (decide (x2<(List.length x3.aa:Int))) (
  ah (decide (0≤x2)) (aj x3.aa[Int.toNat x2]? fun e6=>
  ah (e6.ino !=x1) (
  ah (decide (0≤x2)) (aj x3.aa[Int.toNat x2]? fun e7=>aQ (x5.length+[e7].length) ((fj x1 x3 k0 n (IntKind.i64.wrap (x2+(1:Int))) (x5++[e7])))) (none)) ((fj x1 x3 k0 n (IntKind.i64.wrap (x2+(1:Int))) x5))) (none)) ((k0 x5))
noncomputable def dj (w0:Fs) (w1:Int):Option (Fs):=
 fj w1 w0 (fun z11=>some (⟨w0.ar,w0.aw,w0.next,z11⟩:Fs)) bg (0:Int) ([] :List ae)
noncomputable def eY {R:Type} (x2:List ae) (x6:ae) (k0:Bool→(List ae)→Option R):Nat→Bool→Int→(List ae)→Option R
 |0,_,_,_=>none
 |n+1,x3,x4,x8=>
  ah (decide (x4<(List.length x2:Int))) (
  ah (!x3) (
  ah (decide (0≤x4)) (aj x2[Int.toNat x4]? fun e9=>
  ah (decide (e9.ino>x6.ino)) (aQ (x8.length+[x6].length) (
  ah (decide (0≤x4)) (aj x2[Int.toNat x4]? fun e10=>aQ ((x8++[x6]).length+[e10].length) ((eY x2 x6 k0 n true (IntKind.i64.wrap (x4+(1:Int))) ((x8++[x6])++[e10])))) (none))) (
  ah (decide (0≤x4)) (aj x2[Int.toNat x4]? fun e11=>aQ (x8.length+[e11].length) ((eY x2 x6 k0 n x3 (IntKind.i64.wrap (x4+(1:Int))) (x8++[e11])))) (none))) (none)) (
  ah (decide (0≤x4)) (aj x2[Int.toNat x4]? fun e12=>aQ (x8.length+[e12].length) ((eY x2 x6 k0 n x3 (IntKind.i64.wrap (x4+(1:Int))) (x8++[e12])))) (none))) ((k0 x3 x8))
noncomputable def b7 (w0:Fs) (w1:ae):Option (Fs):=
 aj (dj w0 w1.ino) fun y1=>eY y1.aa w1 (fun z18 z19=>
 ah (!z18) (aQ (z19.length+[w1].length) (some (⟨w0.ar,w0.aw,w0.next,(z19++[w1])⟩:Fs))) (some (⟨w0.ar,w0.aw,w0.next,z19⟩:Fs))) bg false (0:Int) ([] :List ae)
noncomputable def rn (w0:Int) (w1:Int):Option (Fs):=
 some (⟨w0,w1,(2:Int),[(⟨(1:Int),(2:Int),0, [],(1:Int),([] :List Entry)⟩:ae)]⟩:Fs)
noncomputable def fB {R:Type} (x7:ae) (kr:Option R) (k2:Option R):Nat→Int→Option R
 |0,_=>none
 |n+1,x5=>
  ah (decide (x5<(List.length x7.entries:Int))) (
  ah (decide (0≤x5)) (aj x7.entries[Int.toNat x5]? fun e8=>
  ah (decide ((List.length e8.name:Int)>(300:Int))) ((kr)) ((fB x7 kr k2 n (IntKind.i64.wrap (x5+(1:Int)))))) (none)) ((k2))
noncomputable def gU {R:Type} (x2:Fs) (kr:Option R) (k0:Option R):Nat→Int→Option R
 |0,_=>none
 |n+1,x1=>
  ah (decide (x1<(List.length x2.aa:Int))) (
  ah (decide (x1<(100:Int))) (
  ah (decide (0≤x1)) (aj x2.aa[Int.toNat x1]? fun e3=>
  ah (decide ((List.length e3.data:Int)>(5000:Int))) ((kr)) (
  ah (decide ((List.length e3.entries:Int)>(40:Int))) ((kr)) (fB e3 ((kr)) ((gU x2 kr k0 n (IntKind.i64.wrap (x1+(1:Int))))) bg (0:Int)))) (none)) ((k0))) ((k0))
noncomputable def jn (w0:Fs):Option (Bool):=
 gU w0 (some false) (some (decide ((List.length w0.aa:Int)≤(40:Int)))) bg (0:Int)
noncomputable def g_ {R:Type} (x1:Int) (x3:Fs) (kr:ae→Option R) (k0:Option R):Nat→Int→Option R
 |0,_=>none
 |n+1,x2=>
  ah (decide (x2<(List.length x3.aa:Int))) (
  ah (decide (0≤x2)) (aj x3.aa[Int.toNat x2]? fun e5=>
  ah (e5.ino==x1) (
  ah (decide (0≤x2)) (aj x3.aa[Int.toNat x2]? fun e6=>(kr e6)) (none)) ((g_ x1 x3 kr k0 n (IntKind.i64.wrap (x2+(1:Int)))))) (none)) ((k0))
noncomputable def bB (w0:Fs) (w1:Int):Option (ae×Bool):=
 g_ w1 w0 (fun z10=>some (z10,true)) (some ((⟨0,0,0, [],0,([] :List Entry)⟩:ae),false)) bg (0:Int)
noncomputable def ia {R:Type} (x2:Fs) (kr:Option R) (k0:Option R):Nat→Int→Option R
 |0,_=>none
 |n+1,x1=>
  ah (decide (x1<(List.length x2.aa:Int))) (
  ah (decide (0≤(IntKind.i64.wrap (x1 - (1:Int))))) (aj x2.aa[Int.toNat (IntKind.i64.wrap (x1 - (1:Int)))]? fun e3=>
  ah (decide (0≤x1)) (aj x2.aa[Int.toNat x1]? fun e4=>
  ah (decide (e3.ino≥e4.ino)) ((kr)) ((ia x2 kr k0 n (IntKind.i64.wrap (x1+(1:Int)))))) (none)) (none)) ((k0))
noncomputable def k6 (w0:Fs):Option (Bool):=
 ia w0 (some false) (some true) bg (1:Int)
noncomputable def oI (w0:ae) (w1:ae):Option (Bool):=
 ah (w0.ino==w1.ino) (
 ah (w0.kind==w1.kind) (
 ah (w0.aq==w1.aq) (
 ah (w0.data==w1.data) (
 ah (w0.parent==w1.parent) (aj (nG w0.entries w1.entries) fun y1=>some y1) (some false)) (some false)) (some false)) (some false)) (some false)
noncomputable def fU {R:Type} (x1:List ae) (x2:List ae) (kr:Option R) (k0:Option R):Nat→Int→Option R
 |0,_=>none
 |n+1,x3=>
  ah (decide (x3<(List.length x1:Int))) (
  ah (decide (0≤x3)) (aj x1[Int.toNat x3]? fun e4=>
  ah (decide (0≤x3)) (aj x2[Int.toNat x3]? fun e5=>aj (oI e4 e5) fun y6=>
  ah (!y6) ((kr)) ((fU x1 x2 kr k0 n (IntKind.i64.wrap (x3+(1:Int)))))) (none)) (none)) ((k0))
noncomputable def kT (w0:(List ae)) (w1:(List ae)):Option (Bool):=
 ah ((List.length w0:Int) !=(List.length w1:Int)) (some false) (fU w0 w1 (some false) (some true) bg (0:Int))
noncomputable def jv (w0:Fs) (w1:Fs):Option (Bool):=
 ah (w0.ar==w1.ar) (
 ah (w0.aw==w1.aw) (
 ah (w0.next==w1.next) (aj (kT w0.aa w1.aa) fun y1=>some y1) (some false)) (some false)) (some false)
end Go.Eng
set_option linter.unusedVariables false
set_option maxRecDepth 100000
namespace Go.Eng
open Go
noncomputable def eB {R:Type} (x3:Fs) (k0:Int→Option R):Nat→Int→Int→Option R
 |0,_,_=>none
 |n+1,x1,x2=>
  ah (decide (x2<(List.length x3.aa:Int))) (
  ah (decide (0≤x2)) (aj x3.aa[Int.toNat x2]? fun e4=>
  ah (e4.kind==(1:Int)) (
  ah (decide (0≤x2)) (aj x3.aa[Int.toNat x2]? fun e5=>(eB x3 k0 n (IntKind.i64.wrap (x1+(List.length e5.data:Int))) (IntKind.i64.wrap (x2+(1:Int))))) (none)) ((eB x3 k0 n x1 (IntKind.i64.wrap (x2+(1:Int)))))) (none)) ((k0 x1))
noncomputable def lQ (w0:Fs):Option (Int):=
 eB w0 (fun z7=>some z7) bg (0:Int) (0:Int)
noncomputable def eH (w0:Fs) (w1:Int) (w2:Int):Option (Bool):=
 ah (decide ((IntKind.i64.wrap ((List.length w0.aa:Int)+w1))>w0.ar)) (some false) (aj (lQ w0) fun y1=>some (decide ((IntKind.i64.wrap (y1+w2))≤w0.aw)))
end Go.Eng
set_option linter.unusedVariables false
set_option maxRecDepth 100000
namespace Go.Eng
open Go
noncomputable def fm {R:Type} (x2:Fs) (kr:Option R) (k0:Option R):Nat→Int→Option R
 |0,_=>none
 |n+1,x1=>
  ah (decide (x1<(List.length x2.aa:Int))) (
  ah (decide (0≤x1)) (aj x2.aa[Int.toNat x1]? fun e3=>
  ah (decide (e3.ino<(1:Int))) ((kr)) (
  ah (decide (0≤x1)) (aj x2.aa[Int.toNat x1]? fun e4=>
  ah (decide (e4.ino≥x2.next)) ((kr)) ((fm x2 kr k0 n (IntKind.i64.wrap (x1+(1:Int)))))) (none))) (none)) ((k0))
noncomputable def lS (w0:Fs):Option (Bool):=
 ah (decide (w0.ar<(1:Int))) (some false) (
 ah (decide (w0.ar>(1073741824:Int))) (some false) (
 ah (decide (w0.aw<(0:Int))) (some false) (
 ah (decide (w0.aw>(1073741824:Int))) (some false) (
 ah (decide (w0.next>(1099511627776:Int))) (some false) (fm w0 (some false) (aj (bB w0 (1:Int)) fun y7=>aj (k6 w0) fun y8=>
 ah y8 (
 ah y7.2 (some (y7.1.kind==(2:Int))) (some false)) (some false)) bg (0:Int))))))
noncomputable def aP {R:Type} (x8:ae) (kr:Option R) (k2:Option R):Nat→Int→Option R
 |0,_=>none
 |n+1,x6=>
  ah (decide (x6<(List.length x8.data:Int))) (
  ah (x8.kind==(3:Int)) (
  ah (decide (0≤x6)) (aj x8.data[Int.toNat x6]? fun c9=>
  ah ((UInt8.toNat c9:Int)==(0:Int)) ((kr)) ((aP x8 kr k2 n (IntKind.i64.wrap (x6+(1:Int)))))) (none)) ((k2))) ((k2))
noncomputable def aY {R:Type} (x2:Fs) (kr:Option R) (k0:Option R):Nat→Int→Option R
 |0,_=>none
 |n+1,x1=>
  ah (decide (x1<(List.length x2.aa:Int))) (
  ah (decide (0≤x1)) (aj x2.aa[Int.toNat x1]? fun e3=>
  ah (e3.kind !=(1:Int)) (
  ah (e3.kind !=(2:Int)) (
  ah (e3.kind !=(3:Int)) ((kr)) (
  ah (e3.kind !=(2:Int)) (
  ah (decide ((List.length e3.entries:Int)>(0:Int))) ((kr)) (
  ah (e3.parent !=(0:Int)) ((kr)) (
  ah (e3.kind==(2:Int)) (
  ah (!(e3.data==([] :Str))) ((kr)) (aj (eZ e3.entries) fun y4=>
  ah (!y4) ((kr)) (
  ah (e3.kind==(3:Int)) (
  ah (decide ((List.length e3.data:Int)<(1:Int))) ((kr)) (
  ah (decide ((List.length e3.data:Int)>(4095:Int))) ((kr)) (aP e3 ((kr)) ((aY x2 kr k0 n (IntKind.i64.wrap (x1+(1:Int))))) bg (0:Int)))) (aP e3 ((kr)) ((aY x2 kr k0 n (IntKind.i64.wrap (x1+(1:Int))))) bg (0:Int))))) (
  ah (e3.kind==(3:Int)) (
  ah (decide ((List.length e3.data:Int)<(1:Int))) ((kr)) (
  ah (decide ((List.length e3.data:Int)>(4095:Int))) ((kr)) (aP e3 ((kr)) ((aY x2 kr k0 n (IntKind.i64.wrap (x1+(1:Int))))) bg (0:Int)))) (aP e3 ((kr)) ((aY x2 kr k0 n (IntKind.i64.wrap (x1+(1:Int))))) bg (0:Int)))))) (
  ah (e3.kind==(2:Int)) (
  ah (!(e3.data==([] :Str))) ((kr)) (aj (eZ e3.entries) fun y13=>
  ah (!y13) ((kr)) (
  ah (e3.kind==(3:Int)) (
  ah (decide ((List.length e3.data:Int)<(1:Int))) ((kr)) (
  ah (decide ((List.length e3.data:Int)>(4095:Int))) ((kr)) (aP e3 ((kr)) ((aY x2 kr k0 n (IntKind.i64.wrap (x1+(1:Int))))) bg (0:Int)))) (aP e3 ((kr)) ((aY x2 kr k0 n (IntKind.i64.wrap (x1+(1:Int))))) bg (0:Int))))) (
  ah (e3.kind==(3:Int)) (
  ah (decide ((List.length e3.data:Int)<(1:Int))) ((kr)) (
  ah (decide ((List.length e3.data:Int)>(4095:Int))) ((kr)) (aP e3 ((kr)) ((aY x2 kr k0 n (IntKind.i64.wrap (x1+(1:Int))))) bg (0:Int)))) (aP e3 ((kr)) ((aY x2 kr k0 n (IntKind.i64.wrap (x1+(1:Int))))) bg (0:Int)))))) (
  ah (e3.kind !=(2:Int)) (
  ah (decide ((List.length e3.entries:Int)>(0:Int))) ((kr)) (
  ah (e3.parent !=(0:Int)) ((kr)) (
  ah (e3.kind==(2:Int)) (
  ah (!(e3.data==([] :Str))) ((kr)) (aj (eZ e3.entries) fun y14=>
  ah (!y14) ((kr)) (
  ah (e3.kind==(3:Int)) (
  ah (decide ((List.length e3.data:Int)<(1:Int))) ((kr)) (
  ah (decide ((List.length e3.data:Int)>(4095:Int))) ((kr)) (aP e3 ((kr)) ((aY x2 kr k0 n (IntKind.i64.wrap (x1+(1:Int))))) bg (0:Int)))) (aP e3 ((kr)) ((aY x2 kr k0 n (IntKind.i64.wrap (x1+(1:Int))))) bg (0:Int))))) (
  ah (e3.kind==(3:Int)) (
  ah (decide ((List.length e3.data:Int)<(1:Int))) ((kr)) (
  ah (decide ((List.length e3.data:Int)>(4095:Int))) ((kr)) (aP e3 ((kr)) ((aY x2 kr k0 n (IntKind.i64.wrap (x1+(1:Int))))) bg (0:Int)))) (aP e3 ((kr)) ((aY x2 kr k0 n (IntKind.i64.wrap (x1+(1:Int))))) bg (0:Int)))))) (
  ah (e3.kind==(2:Int)) (
  ah (!(e3.data==([] :Str))) ((kr)) (aj (eZ e3.entries) fun y15=>
  ah (!y15) ((kr)) (
  ah (e3.kind==(3:Int)) (
  ah (decide ((List.length e3.data:Int)<(1:Int))) ((kr)) (
  ah (decide ((List.length e3.data:Int)>(4095:Int))) ((kr)) (aP e3 ((kr)) ((aY x2 kr k0 n (IntKind.i64.wrap (x1+(1:Int))))) bg (0:Int)))) (aP e3 ((kr)) ((aY x2 kr k0 n (IntKind.i64.wrap (x1+(1:Int))))) bg (0:Int))))) (
  ah (e3.kind==(3:Int)) (
  ah (decide ((List.length e3.data:Int)<(1:Int))) ((kr)) (
  ah (decide ((List.length e3.data:Int)>(4095:Int))) ((kr)) (aP e3 ((kr)) ((aY x2 kr k0 n (IntKind.i64.wrap (x1+(1:Int))))) bg (0:Int)))) (aP e3 ((kr)) ((aY x2 kr k0 n (IntKind.i64.wrap (x1+(1:Int))))) bg (0:Int)))))) (
  ah (e3.kind !=(2:Int)) (
  ah (decide ((List.length e3.entries:Int)>(0:Int))) ((kr)) (
  ah (e3.parent !=(0:Int)) ((kr)) (
  ah (e3.kind==(2:Int)) (
  ah (!(e3.data==([] :Str))) ((kr)) (aj (eZ e3.entries) fun y16=>
  ah (!y16) ((kr)) (
  ah (e3.kind==(3:Int)) (
  ah (decide ((List.length e3.data:Int)<(1:Int))) ((kr)) (
  ah (decide ((List.length e3.data:Int)>(4095:Int))) ((kr)) (aP e3 ((kr)) ((aY x2 kr k0 n (IntKind.i64.wrap (x1+(1:Int))))) bg (0:Int)))) (aP e3 ((kr)) ((aY x2 kr k0 n (IntKind.i64.wrap (x1+(1:Int))))) bg (0:Int))))) (
  ah (e3.kind==(3:Int)) (
  ah (decide ((List.length e3.data:Int)<(1:Int))) ((kr)) (
  ah (decide ((List.length e3.data:Int)>(4095:Int))) ((kr)) (aP e3 ((kr)) ((aY x2 kr k0 n (IntKind.i64.wrap (x1+(1:Int))))) bg (0:Int)))) (aP e3 ((kr)) ((aY x2 kr k0 n (IntKind.i64.wrap (x1+(1:Int))))) bg (0:Int)))))) (
  ah (e3.kind==(2:Int)) (
  ah (!(e3.data==([] :Str))) ((kr)) (aj (eZ e3.entries) fun y17=>
  ah (!y17) ((kr)) (
  ah (e3.kind==(3:Int)) (
  ah (decide ((List.length e3.data:Int)<(1:Int))) ((kr)) (
  ah (decide ((List.length e3.data:Int)>(4095:Int))) ((kr)) (aP e3 ((kr)) ((aY x2 kr k0 n (IntKind.i64.wrap (x1+(1:Int))))) bg (0:Int)))) (aP e3 ((kr)) ((aY x2 kr k0 n (IntKind.i64.wrap (x1+(1:Int))))) bg (0:Int))))) (
  ah (e3.kind==(3:Int)) (
  ah (decide ((List.length e3.data:Int)<(1:Int))) ((kr)) (
  ah (decide ((List.length e3.data:Int)>(4095:Int))) ((kr)) (aP e3 ((kr)) ((aY x2 kr k0 n (IntKind.i64.wrap (x1+(1:Int))))) bg (0:Int)))) (aP e3 ((kr)) ((aY x2 kr k0 n (IntKind.i64.wrap (x1+(1:Int))))) bg (0:Int)))))) (none)) ((k0))
noncomputable def kx (w0:Fs):Option (Bool):=
 aY w0 (some false) (some true) bg (0:Int)
noncomputable def er {R:Type} (x3:Int) (x5:Fs) (kr:Option R) (k2:Option R):Nat→Int→Option R
 |0,_=>none
 |n+1,x4=>
  ah (decide (0≤x3)) (aj x5.aa[Int.toNat x3]? fun e6=>
  ah (decide (x4<(List.length e6.entries:Int))) (
  ah (decide (0≤x3)) (aj x5.aa[Int.toNat x3]? fun e7=>
  ah (decide (0≤x4)) (aj e7.entries[Int.toNat x4]? fun e8=>aj (bB x5 e8.ino) fun y9=>
  ah (!y9.2) ((kr)) ((er x3 x5 kr k2 n (IntKind.i64.wrap (x4+(1:Int)))))) (none)) (none)) ((k2))) (none)
noncomputable def fv {R:Type} (x2:Fs) (kr:Option R) (k0:Option R):Nat→Int→Option R
 |0,_=>none
 |n+1,x1=>
  ah (decide (x1<(List.length x2.aa:Int))) (er x1 x2 ((kr)) ((fv x2 kr k0 n (IntKind.i64.wrap (x1+(1:Int))))) bg (0:Int)) ((k0))
noncomputable def lT (w0:Fs):Option (Bool):=
 fv w0 (some false) (some true) bg (0:Int)
noncomputable def dL {R:Type} (x6:Int) (x9:Int) (x11:Fs) (k2:Int→Int→Option R):Nat→Int→Int→Int→Option R
 |0,_,_,_=>none
 |n+1,x7,x8,x10=>
  ah (decide (0≤x9)) (aj x11.aa[Int.toNat x9]? fun e12=>
  ah (decide (x10<(List.length e12.entries:Int))) (
  ah (decide (0≤x9)) (aj x11.aa[Int.toNat x9]? fun e13=>
  ah (decide (0≤x10)) (aj e13.entries[Int.toNat x10]? fun e14=>
  ah (e14.ino==x6) (
  ah (decide (0≤x9)) (aj x11.aa[Int.toNat x9]? fun e15=>(dL x6 x9 x11 k2 n (IntKind.i64.wrap (x7+(1:Int))) e15.ino (IntKind.i64.wrap (x10+(1:Int))))) (none)) ((dL x6 x9 x11 k2 n x7 x8 (IntKind.i64.wrap (x10+(1:Int)))))) (none)) (none)) ((k2 x7 x8))) (none)
noncomputable def fq {R:Type} (x1:Int) (x5:Fs) (k0:Int→Int→Option R):Nat→Int→Int→Int→Option R
 |0,_,_,_=>none
 |n+1,x2,x3,x4=>
  ah (decide (x4<(List.length x5.aa:Int))) (dL x1 x4 x5 (fun z21 z22=>(fq x1 x5 k0 n z21 z22 (IntKind.i64.wrap (x4+(1:Int))))) bg x2 x3 (0:Int)) ((k0 x2 x3))
noncomputable def lM (w0:Fs) (w1:Int):Option (Int×Int):=
 fq w1 w0 (fun z25 z26=>some (z25,z26)) bg (0:Int) (0:Int) (0:Int)
noncomputable def dp {R:Type} (x2:Fs) (kr:Option R) (k0:Option R):Nat→Int→Option R
 |0,_=>none
 |n+1,x1=>
  ah (decide (x1<(List.length x2.aa:Int))) (
  ah (decide (0≤x1)) (aj x2.aa[Int.toNat x1]? fun e3=>aj (lM x2 e3.ino) fun y4=>
  ah (e3.aq !=y4.1) ((kr)) (
  ah (e3.ino==(1:Int)) (
  ah (y4.1 !=(0:Int)) ((kr)) (
  ah (e3.parent !=(1:Int)) ((kr)) ((dp x2 kr k0 n (IntKind.i64.wrap (x1+(1:Int))))))) (
  ah (decide (y4.1<(1:Int))) ((kr)) (
  ah (e3.kind==(2:Int)) (
  ah (y4.1 !=(1:Int)) ((kr)) (
  ah (e3.parent !=y4.2) ((kr)) ((dp x2 kr k0 n (IntKind.i64.wrap (x1+(1:Int))))))) ((dp x2 kr k0 n (IntKind.i64.wrap (x1+(1:Int))))))))) (none)) ((k0))
noncomputable def ky (w0:Fs):Option (Bool):=
 dp w0 (some false) (some true) bg (0:Int)
noncomputable def dq {R:Type} (x12:Int) (x16:List Int) (x17:ae) (k4:Bool→Option R):Nat→Bool→Int→Option R
 |0,_,_=>none
 |n+1,x13,x14=>
  ah (decide (x14<(List.length x16:Int))) (
  ah x13 ((dq x12 x16 x17 k4 n true (IntKind.i64.wrap (x14+(1:Int))))) (
  ah (decide (0≤x14∧x14<(x16.length:Int))) (aj x16[(Int.toNat x14)]? fun e18=>
  ah (decide (0≤x12)) (aj x17.entries[Int.toNat x12]? fun e19=>(dq x12 x16 x17 k4 n (e18==e19.ino) (IntKind.i64.wrap (x14+(1:Int))))) (none)) (none))) ((k4 x13))
noncomputable def dK {R:Type} (x10:ae) (k2:(List Int)→Option R):Nat→Int→(List Int)→Option R
 |0,_,_=>none
 |n+1,x7,x9=>
  ah (decide (x7<(List.length x10.entries:Int))) (dq x7 x9 x10 (fun z26=>
  ah (!z26) (
  ah (decide (0≤x7)) (aj x10.entries[Int.toNat x7]? fun e27=>aQ (x9.length+[e27.ino].length) ((dK x10 k2 n (IntKind.i64.wrap (x7+(1:Int))) (x9++[e27.ino])))) (none)) ((dK x10 k2 n (IntKind.i64.wrap (x7+(1:Int))) x9))) bg false (0:Int)) ((k2 x9))
noncomputable def gq {R:Type} (x2:Fs) (k0:(List Int)→Option R):Nat→Int→(List Int)→Option R
 |0,_,_=>none
 |n+1,x1,x3=>
  ah (decide (x1<(List.length x3:Int))) (
  ah (decide (0≤x1∧x1<(x3.length:Int))) (aj x3[(Int.toNat x1)]? fun e4=>aj (bB x2 e4) fun y5=>dK y5.1 (fun z31=>(gq x2 k0 n (IntKind.i64.wrap (x1+(1:Int))) z31)) bg (0:Int) x3) (none)) ((k0 x3))
noncomputable def mb (w0:Fs):Option (Bool):=
 gq w0 (fun z34=>some ((List.length z34:Int)==(List.length w0.aa:Int))) bg (0:Int) [(1:Int)]
noncomputable def e_ (w0:Fs):Option (Int):=
 aj (lS w0) fun y1=>
 ah (!y1) (some (1:Int)) (aj (kx w0) fun y2=>
 ah (!y2) (some (2:Int)) (aj (lT w0) fun y3=>
 ah (!y3) (some (3:Int)) (aj (ky w0) fun y4=>
 ah (!y4) (some (4:Int)) (aj (mb w0) fun y5=>
 ah (!y5) (some (5:Int)) (aj (eH w0 (0:Int) (0:Int)) fun y6=>
 ah (!y6) (some (6:Int)) (some (0:Int)))))))
end Go.Eng
set_option linter.unusedVariables false
set_option maxRecDepth 100000
namespace Go.Eng
open Go
noncomputable def iB {R:Type} (x2:List Str) (x4:Fs) (kr:Int→Option R) (k0:ax→Option R):Nat→Int→ax→Option R
 |0,_,_=>none
 |n+1,x3,x6=>
  ah (decide (x3<(List.length x2:Int))) (
  ah (x6.ino==(0:Int)) ((kr (1:Int))) (aj (bB x4 x6.ino) fun y7=>
  ah (y7.1.kind !=(2:Int)) ((kr (3:Int))) (
  ah (decide (0≤x3)) (aj x2[Int.toNat x3]? fun e8=>aj (jx y7.1.entries e8) fun y9=>
  ah (decide (0≤x3)) (aj x2[Int.toNat x3]? fun e10=>(iB x2 x4 kr k0 n (IntKind.i64.wrap (x3+(1:Int))) (⟨y7.1.ino,e10,y9.1⟩:ax))) (none)) (none)))) ((k0 x6))
noncomputable def iO (w0:Fs) (w1:Str):Option (ax×Int):=
 aj (lV w1) fun y1=>
 ah (!y1.2) (some ((⟨0, [],0⟩:ax),(9:Int))) (iB y1.1 w0 (fun z15=>some ((⟨((⟨0, [],0⟩:ax).dir),((⟨0, [],0⟩:ax).name),((⟨0, [],0⟩:ax).ino)⟩:ax),z15)) (fun z16=>some (z16,(0:Int))) bg (0:Int) (⟨0, [],(1:Int)⟩:ax))
noncomputable def r4 (w0:Fs) (w1:Str):Option (ae×Int):=
 aj (iO w0 w1) fun y1=>
 ah (y1.2 !=(0:Int)) (some ((⟨0,0,0, [],0,([] :List Entry)⟩:ae),y1.2)) (
 ah (y1.1.ino==(0:Int)) (some ((⟨0,0,0, [],0,([] :List Entry)⟩:ae),(1:Int))) (aj (bB w0 y1.1.ino) fun y2=>some (y2.1,(0:Int))))
end Go.Eng
set_option linter.unusedVariables false
set_option maxRecDepth 100000
namespace Go.Eng
open Go
noncomputable def p_ (w0:Fs) (w1:Str):Option (Int×Int):=
 aj (r4 w0 w1) fun y1=>
 ah (y1.2 !=(0:Int)) (some ((0:Int),y1.2)) (
 ah (y1.1.kind !=(2:Int)) (some ((0:Int),(3:Int))) (some (y1.1.ino,(0:Int))))
noncomputable def bG:Nat→Fs→ax→(List Str)→Bool→Bool→Int→Option (ax×Int)
 |0=>fun _ _ _ _ _ _=>none
 |n+1=>fun w0 w1 w2 w3 w4 w5=>
  ah ((List.length w2:Int)==(0:Int)) (aj (bB w0 w1.ino) fun y1=>
  ah y1.2 (
  ah w4 (
  ah (y1.1.kind !=(2:Int)) (some ((⟨0, [],0⟩:ax),(3:Int))) (some (w1,(0:Int)))) (some (w1,(0:Int)))) (some (w1,(0:Int)))) (
  ah (w1.ino==(0:Int)) (some ((⟨0, [],0⟩:ax),(1:Int))) (aj (bB w0 w1.ino) fun y2=>
  ah (y2.1.kind !=(2:Int)) (some ((⟨0, [],0⟩:ax),(3:Int))) (
  ah (decide (0≤(0:Int))) (aj w2[Int.toNat (0:Int)]? fun e3=>
  ah (decide (0≤(1:Int)∧(1:Int)≤(w2.length:Int))) (
  ah (e3==([46]:Str)) (aj ((bG n) w0 (⟨0, [],y2.1.ino⟩:ax) (w2.drop (Int.toNat (1:Int))) w3 w4 w5) fun y4=>some (y4.1,y4.2)) (
  ah (e3==([46,46]:Str)) (aj ((bG n) w0 (⟨0, [],y2.1.parent⟩:ax) (w2.drop (Int.toNat (1:Int))) w3 w4 w5) fun y5=>some (y5.1,y5.2)) (aj (jx y2.1.entries e3) fun y6=>aj (bB w0 y6.1) fun y7=>
  ah (!y6.2) (aj ((bG n) w0 (⟨y2.1.ino,e3,y6.1⟩:ax) (w2.drop (Int.toNat (1:Int))) w3 w4 w5) fun y8=>some (y8.1,y8.2)) (
  ah (y7.1.kind !=(3:Int)) (aj ((bG n) w0 (⟨y2.1.ino,e3,y6.1⟩:ax) (w2.drop (Int.toNat (1:Int))) w3 w4 w5) fun y9=>some (y9.1,y9.2)) (
  ah ((List.length (w2.drop (Int.toNat (1:Int))):Int)==(0:Int)) (
  ah (!w3) (
  ah (!w4) (aj ((bG n) w0 (⟨y2.1.ino,e3,y6.1⟩:ax) (w2.drop (Int.toNat (1:Int))) w3 w4 w5) fun y10=>some (y10.1,y10.2)) (
  ah (w5==(40:Int)) (some ((⟨0, [],0⟩:ax),(6:Int))) (aj (iv y7.1.data) fun y11=>
  ah y11 (some ((⟨0, [],0⟩:ax),(7:Int))) (aj (gm y7.1.data) fun y12=>
  ah y12.abs (
  ah y12.gh (
  ah ((List.length (w2.drop (Int.toNat (1:Int))):Int)==(0:Int)) (aQ (([] :List Str).length+y12.names.length) (aQ (y12.names.length+(w2.drop (Int.toNat (1:Int))).length) (aj ((bG n) w0 (⟨0, [],(1:Int)⟩:ax) (y12.names++(w2.drop (Int.toNat (1:Int)))) w3 true (IntKind.i64.wrap (w5+(1:Int)))) fun y13=>some (y13.1,y13.2)))) (aQ (([] :List Str).length+y12.names.length) (aQ (y12.names.length+(w2.drop (Int.toNat (1:Int))).length) (aj ((bG n) w0 (⟨0, [],(1:Int)⟩:ax) (y12.names++(w2.drop (Int.toNat (1:Int)))) w3 w4 (IntKind.i64.wrap (w5+(1:Int)))) fun y14=>some (y14.1,y14.2))))) (aQ (([] :List Str).length+y12.names.length) (aQ (y12.names.length+(w2.drop (Int.toNat (1:Int))).length) (aj ((bG n) w0 (⟨0, [],(1:Int)⟩:ax) (y12.names++(w2.drop (Int.toNat (1:Int)))) w3 w4 (IntKind.i64.wrap (w5+(1:Int)))) fun y15=>some (y15.1,y15.2))))) (
  ah y12.gh (
  ah ((List.length (w2.drop (Int.toNat (1:Int))):Int)==(0:Int)) (aQ (([] :List Str).length+y12.names.length) (aQ (y12.names.length+(w2.drop (Int.toNat (1:Int))).length) (aj ((bG n) w0 (⟨0, [],y2.1.ino⟩:ax) (y12.names++(w2.drop (Int.toNat (1:Int)))) w3 true (IntKind.i64.wrap (w5+(1:Int)))) fun y16=>some (y16.1,y16.2)))) (aQ (([] :List Str).length+y12.names.length) (aQ (y12.names.length+(w2.drop (Int.toNat (1:Int))).length) (aj ((bG n) w0 (⟨0, [],y2.1.ino⟩:ax) (y12.names++(w2.drop (Int.toNat (1:Int)))) w3 w4 (IntKind.i64.wrap (w5+(1:Int)))) fun y17=>some (y17.1,y17.2))))) (aQ (([] :List Str).length+y12.names.length) (aQ (y12.names.length+(w2.drop (Int.toNat (1:Int))).length) (aj ((bG n) w0 (⟨0, [],y2.1.ino⟩:ax) (y12.names++(w2.drop (Int.toNat (1:Int)))) w3 w4 (IntKind.i64.wrap (w5+(1:Int)))) fun y18=>some (y18.1,y18.2))))))))) (
  ah (w5==(40:Int)) (some ((⟨0, [],0⟩:ax),(6:Int))) (aj (iv y7.1.data) fun y19=>
  ah y19 (some ((⟨0, [],0⟩:ax),(7:Int))) (aj (gm y7.1.data) fun y20=>
  ah y20.abs (
  ah y20.gh (
  ah ((List.length (w2.drop (Int.toNat (1:Int))):Int)==(0:Int)) (aQ (([] :List Str).length+y20.names.length) (aQ (y20.names.length+(w2.drop (Int.toNat (1:Int))).length) (aj ((bG n) w0 (⟨0, [],(1:Int)⟩:ax) (y20.names++(w2.drop (Int.toNat (1:Int)))) w3 true (IntKind.i64.wrap (w5+(1:Int)))) fun y21=>some (y21.1,y21.2)))) (aQ (([] :List Str).length+y20.names.length) (aQ (y20.names.length+(w2.drop (Int.toNat (1:Int))).length) (aj ((bG n) w0 (⟨0, [],(1:Int)⟩:ax) (y20.names++(w2.drop (Int.toNat (1:Int)))) w3 w4 (IntKind.i64.wrap (w5+(1:Int)))) fun y22=>some (y22.1,y22.2))))) (aQ (([] :List Str).length+y20.names.length) (aQ (y20.names.length+(w2.drop (Int.toNat (1:Int))).length) (aj ((bG n) w0 (⟨0, [],(1:Int)⟩:ax) (y20.names++(w2.drop (Int.toNat (1:Int)))) w3 w4 (IntKind.i64.wrap (w5+(1:Int)))) fun y23=>some (y23.1,y23.2))))) (
  ah y20.gh (
  ah ((List.length (w2.drop (Int.toNat (1:Int))):Int)==(0:Int)) (aQ (([] :List Str).length+y20.names.length) (aQ (y20.names.length+(w2.drop (Int.toNat (1:Int))).length) (aj ((bG n) w0 (⟨0, [],y2.1.ino⟩:ax) (y20.names++(w2.drop (Int.toNat (1:Int)))) w3 true (IntKind.i64.wrap (w5+(1:Int)))) fun y24=>some (y24.1,y24.2)))) (aQ (([] :List Str).length+y20.names.length) (aQ (y20.names.length+(w2.drop (Int.toNat (1:Int))).length) (aj ((bG n) w0 (⟨0, [],y2.1.ino⟩:ax) (y20.names++(w2.drop (Int.toNat (1:Int)))) w3 w4 (IntKind.i64.wrap (w5+(1:Int)))) fun y25=>some (y25.1,y25.2))))) (aQ (([] :List Str).length+y20.names.length) (aQ (y20.names.length+(w2.drop (Int.toNat (1:Int))).length) (aj ((bG n) w0 (⟨0, [],y2.1.ino⟩:ax) (y20.names++(w2.drop (Int.toNat (1:Int)))) w3 w4 (IntKind.i64.wrap (w5+(1:Int)))) fun y26=>some (y26.1,y26.2))))))))) (
  ah (w5==(40:Int)) (some ((⟨0, [],0⟩:ax),(6:Int))) (aj (iv y7.1.data) fun y27=>
  ah y27 (some ((⟨0, [],0⟩:ax),(7:Int))) (aj (gm y7.1.data) fun y28=>
  ah y28.abs (
  ah y28.gh (
  ah ((List.length (w2.drop (Int.toNat (1:Int))):Int)==(0:Int)) (aQ (([] :List Str).length+y28.names.length) (aQ (y28.names.length+(w2.drop (Int.toNat (1:Int))).length) (aj ((bG n) w0 (⟨0, [],(1:Int)⟩:ax) (y28.names++(w2.drop (Int.toNat (1:Int)))) w3 true (IntKind.i64.wrap (w5+(1:Int)))) fun y29=>some (y29.1,y29.2)))) (aQ (([] :List Str).length+y28.names.length) (aQ (y28.names.length+(w2.drop (Int.toNat (1:Int))).length) (aj ((bG n) w0 (⟨0, [],(1:Int)⟩:ax) (y28.names++(w2.drop (Int.toNat (1:Int)))) w3 w4 (IntKind.i64.wrap (w5+(1:Int)))) fun y30=>some (y30.1,y30.2))))) (aQ (([] :List Str).length+y28.names.length) (aQ (y28.names.length+(w2.drop (Int.toNat (1:Int))).length) (aj ((bG n) w0 (⟨0, [],(1:Int)⟩:ax) (y28.names++(w2.drop (Int.toNat (1:Int)))) w3 w4 (IntKind.i64.wrap (w5+(1:Int)))) fun y31=>some (y31.1,y31.2))))) (
  ah y28.gh (
  ah ((List.length (w2.drop (Int.toNat (1:Int))):Int)==(0:Int)) (aQ (([] :List Str).length+y28.names.length) (aQ (y28.names.length+(w2.drop (Int.toNat (1:Int))).length) (aj ((bG n) w0 (⟨0, [],y2.1.ino⟩:ax) (y28.names++(w2.drop (Int.toNat (1:Int)))) w3 true (IntKind.i64.wrap (w5+(1:Int)))) fun y32=>some (y32.1,y32.2)))) (aQ (([] :List Str).length+y28.names.length) (aQ (y28.names.length+(w2.drop (Int.toNat (1:Int))).length) (aj ((bG n) w0 (⟨0, [],y2.1.ino⟩:ax) (y28.names++(w2.drop (Int.toNat (1:Int)))) w3 w4 (IntKind.i64.wrap (w5+(1:Int)))) fun y33=>some (y33.1,y33.2))))) (aQ (([] :List Str).length+y28.names.length) (aQ (y28.names.length+(w2.drop (Int.toNat (1:Int))).length) (aj ((bG n) w0 (⟨0, [],y2.1.ino⟩:ax) (y28.names++(w2.drop (Int.toNat (1:Int)))) w3 w4 (IntKind.i64.wrap (w5+(1:Int)))) fun y34=>some (y34.1,y34.2))))))))))))) (none)) (none))))
noncomputable def qy (w0:Fs) (w1:ax) (w2:(List Str)) (w3:Bool) (w4:Bool) (w5:Int):Option (ax×Int):=bG bg w0 w1 w2 w3 w4 w5
noncomputable def pN (w0:Fs) (w1:Str) (w2:Str) (w3:Bool):Option (ax×Int):=
 ah (w2==([] :Str)) (some ((⟨0, [],0⟩:ax),(1:Int))) (aj (iv w2) fun y1=>
 ah y1 (some ((⟨0, [],0⟩:ax),(7:Int))) (aj (gm w2) fun y2=>
 ah (!y2.abs) (aj (p_ w0 w1) fun y3=>
 ah (y3.2 !=(0:Int)) (some ((⟨0, [],0⟩:ax),y3.2)) (aj (qy w0 (⟨0, [],y3.1⟩:ax) y2.names w3 y2.gh (0:Int)) fun y4=>some (y4.1,y4.2))) (aj (qy w0 (⟨0, [],(1:Int)⟩:ax) y2.names w3 y2.gh (0:Int)) fun y5=>some (y5.1,y5.2))))
end Go.Eng
set_option linter.unusedVariables false
set_option maxRecDepth 100000
namespace Go.Eng
open Go
noncomputable def dA (w0:Fs) (w1:ax) (w2:Int):Option (Fs):=
 aj (bB w0 w1.dir) fun y1=>aj (bB w0 w2) fun y2=>aj (iA y1.1.entries w1.name w2) fun y3=>aj (b7 w0 (⟨y1.1.ino,y1.1.kind,y1.1.aq,y1.1.data,y1.1.parent,y3⟩:ae)) fun y4=>aj (b7 y4 (⟨y2.1.ino,y2.1.kind,(IntKind.i64.wrap (y2.1.aq+(1:Int))),y2.1.data,y2.1.parent,y2.1.entries⟩:ae)) fun y5=>some y5
noncomputable def kp (w0:Fs) (w1:ax):Option (Fs):=
 aj (bB w0 w1.dir) fun y1=>aj (bB w0 w1.ino) fun y2=>aj (ic y1.1.entries w1.name) fun y3=>aj (b7 w0 (⟨y1.1.ino,y1.1.kind,y1.1.aq,y1.1.data,y1.1.parent,y3⟩:ae)) fun y4=>
 ah ((IntKind.i64.wrap (y2.1.aq - (1:Int)))==(0:Int)) (aj (dj y4 w1.ino) fun y5=>some y5) (aj (b7 y4 (⟨y2.1.ino,y2.1.kind,(IntKind.i64.wrap (y2.1.aq - (1:Int))),y2.1.data,y2.1.parent,y2.1.entries⟩:ae)) fun y6=>some y6)
end Go.Eng
set_option linter.unusedVariables false
set_option maxRecDepth 100000
namespace Go.Eng
open Go
noncomputable def fR {R:Type} (x4:ao) (x5:ao) (kr:Option R) (k0:Option R):Nat→Int→Option R
 |0,_=>none
 |n+1,x3=>
  ah (decide (x3<(List.length x4.al.kept:Int))) (
  ah (decide (0≤x3)) (aj x4.al.kept[Int.toNat x3]? fun e6=>
  ah (decide (0≤x3)) (aj x5.al.kept[Int.toNat x3]? fun e7=>
  ah (!((e6.slot==e7.slot)&&((e6.ino==e7.ino)&&((e6.content==e7.content)&&(e6.data==e7.data))))) ((kr)) ((fR x4 x5 kr k0 n (IntKind.i64.wrap (x3+(1:Int)))))) (none)) (none)) ((k0))
noncomputable def bo (w0:ao) (w1:ao):Option (Bool):=
 aj (jv w0.fs w1.fs) fun y1=>
 ah (!y1) (some false) (aj (kT w0.al.aI w1.al.aI) fun y2=>
 ah (!y2) (some false) (
 ah ((List.length w0.al.kept:Int) !=(List.length w1.al.kept:Int)) (some false) (fR w0 w1 (some false) (some true) bg (0:Int))))
noncomputable def cv (w0:ao):Option (Fs):=
 some (⟨0,0,0,w0.al.aI⟩:Fs)
noncomputable def gT {R:Type} (x2:ao) (kr:Option R) (k0:Option R):Nat→Int→Option R
 |0,_=>none
 |n+1,x1=>
  ah (decide (x1<(List.length x2.al.kept:Int))) (
  ah (decide (x1<(100:Int))) (
  ah (decide (0≤x1)) (aj x2.al.kept[Int.toNat x1]? fun e3=>
  ah (decide ((List.length e3.data:Int)>(5000:Int))) ((kr)) ((gT x2 kr k0 n (IntKind.i64.wrap (x1+(1:Int)))))) (none)) ((k0))) ((k0))
noncomputable def kN (w0:ao):Option (Bool):=
 gT w0 (some false) (aj (jn w0.fs) fun y6=>
 ah y6 (aj (cv w0) fun y7=>aj (jn y7) fun y8=>
 ah y8 (some (decide ((List.length w0.al.kept:Int)≤(40:Int)))) (some false)) (some false)) bg (0:Int)
noncomputable def cq {R:Type} (x4:ae) (kr:Option R) (k0:Option R):Nat→Int→Option R
 |0,_=>none
 |n+1,x2=>
  ah (decide (x2<(List.length x4.data:Int))) (
  ah (x4.kind==(3:Int)) (
  ah (decide (0≤x2)) (aj x4.data[Int.toNat x2]? fun c5=>
  ah ((UInt8.toNat c5:Int)==(0:Int)) ((kr)) ((cq x4 kr k0 n (IntKind.i64.wrap (x2+(1:Int)))))) (none)) ((k0))) ((k0))
noncomputable def cd {R:Type} (x11:ao) (x12:ae) (k2:Bool→Option R):Nat→Bool→Int→Option R
 |0,_,_=>none
 |n+1,x9,x10=>
  ah (decide (x10<(List.length x11.al.kept:Int))) (
  ah x9 ((cd x11 x12 k2 n true (IntKind.i64.wrap (x10+(1:Int))))) (
  ah (decide (0≤x10)) (aj x11.al.kept[Int.toNat x10]? fun e13=>
  ah (e13.ino==x12.ino) (
  ah (decide (0≤x10)) (aj x11.al.kept[Int.toNat x10]? fun e14=>(cd x11 x12 k2 n (!e14.content) (IntKind.i64.wrap (x10+(1:Int))))) (none)) ((cd x11 x12 k2 n false (IntKind.i64.wrap (x10+(1:Int)))))) (none))) ((k2 x9))
noncomputable def kq (w0:ao) (w1:ae):Option (Bool):=
 aj (bB w0.fs w1.ino) fun y1=>
 ah y1.2 (some false) (
 ah (decide (w1.ino<(1:Int))) (some false) (
 ah (decide (w1.ino≥w0.fs.next)) (some false) (
 ah (w1.aq !=(0:Int)) (some false) (
 ah (w1.parent !=(0:Int)) (some false) (
 ah ((List.length w1.entries:Int) !=(0:Int)) (some false) (
 ah (decide (w1.kind<(1:Int))) (some false) (
 ah (decide (w1.kind>(3:Int))) (some false) (
 ah (w1.kind==(2:Int)) (
 ah (!(w1.data==([] :Str))) (some false) (
 ah (w1.kind==(3:Int)) (
 ah (decide ((List.length w1.data:Int)<(1:Int))) (some false) (
 ah (decide ((List.length w1.data:Int)>(4095:Int))) (some false) (cq w1 (some false) (cd w0 w1 (fun z16=>some z16) bg false (0:Int)) bg (0:Int)))) (cq w1 (some false) (cd w0 w1 (fun z17=>some z17) bg false (0:Int)) bg (0:Int)))) (
 ah (w1.kind==(3:Int)) (
 ah (decide ((List.length w1.data:Int)<(1:Int))) (some false) (
 ah (decide ((List.length w1.data:Int)>(4095:Int))) (some false) (cq w1 (some false) (cd w0 w1 (fun z18=>some z18) bg false (0:Int)) bg (0:Int)))) (cq w1 (some false) (cd w0 w1 (fun z19=>some z19) bg false (0:Int)) bg (0:Int)))))))))))
noncomputable def fy {R:Type} (x5:ao) (kr:Option R) (k0:Option R):Nat→Int→Option R
 |0,_=>none
 |n+1,x4=>
  ah (decide (x4<(List.length x5.al.aI:Int))) (
  ah (decide (0≤x4)) (aj x5.al.aI[Int.toNat x4]? fun e6=>aj (kq x5 e6) fun y7=>
  ah (!y7) ((kr)) ((fy x5 kr k0 n (IntKind.i64.wrap (x4+(1:Int)))))) (none)) ((k0))
noncomputable def bD {R:Type} (x12:ao) (kr:Option R) (k2:Option R):Nat→Int→Int→Option R
 |0,_,_=>none
 |n+1,x10,x11=>
  ah (decide (x11<(List.length x12.al.kept:Int))) (
  ah (decide (0≤x11)) (aj x12.al.kept[Int.toNat x11]? fun e13=>aj (bB x12.fs e13.ino) fun y14=>aj (cv x12) fun y15=>aj (bB y15 e13.ino) fun y16=>
  ah (decide (e13.slot≤x10)) ((kr)) (
  ah (decide (e13.slot>(1073741824:Int))) ((kr)) (
  ah (!y14.2) (
  ah (!y16.2) ((kr)) (
  ah y16.2 (
  ah e13.content (
  ah (y16.1.kind !=(1:Int)) ((kr)) (
  ah (!e13.content) (
  ah (!(e13.data==([] :Str))) ((kr)) ((bD x12 kr k2 n e13.slot (IntKind.i64.wrap (x11+(1:Int)))))) ((bD x12 kr k2 n e13.slot (IntKind.i64.wrap (x11+(1:Int))))))) (
  ah (!e13.content) (
  ah (!(e13.data==([] :Str))) ((kr)) ((bD x12 kr k2 n e13.slot (IntKind.i64.wrap (x11+(1:Int)))))) ((bD x12 kr k2 n e13.slot (IntKind.i64.wrap (x11+(1:Int))))))) (
  ah e13.content (
  ah (y14.1.kind !=(1:Int)) ((kr)) (
  ah (!e13.content) (
  ah (!(e13.data==([] :Str))) ((kr)) ((bD x12 kr k2 n e13.slot (IntKind.i64.wrap (x11+(1:Int)))))) ((bD x12 kr k2 n e13.slot (IntKind.i64.wrap (x11+(1:Int))))))) (
  ah (!e13.content) (
  ah (!(e13.data==([] :Str))) ((kr)) ((bD x12 kr k2 n e13.slot (IntKind.i64.wrap (x11+(1:Int)))))) ((bD x12 kr k2 n e13.slot (IntKind.i64.wrap (x11+(1:Int))))))))) (
  ah y16.2 (
  ah e13.content (
  ah (y16.1.kind !=(1:Int)) ((kr)) (
  ah (!e13.content) (
  ah (!(e13.data==([] :Str))) ((kr)) ((bD x12 kr k2 n e13.slot (IntKind.i64.wrap (x11+(1:Int)))))) ((bD x12 kr k2 n e13.slot (IntKind.i64.wrap (x11+(1:Int))))))) (
  ah (!e13.content) (
  ah (!(e13.data==([] :Str))) ((kr)) ((bD x12 kr k2 n e13.slot (IntKind.i64.wrap (x11+(1:Int)))))) ((bD x12 kr k2 n e13.slot (IntKind.i64.wrap (x11+(1:Int))))))) (
  ah e13.content (
  ah (y14.1.kind !=(1:Int)) ((kr)) (
  ah (!e13.content) (
  ah (!(e13.data==([] :Str))) ((kr)) ((bD x12 kr k2 n e13.slot (IntKind.i64.wrap (x11+(1:Int)))))) ((bD x12 kr k2 n e13.slot (IntKind.i64.wrap (x11+(1:Int))))))) (
  ah (!e13.content) (
  ah (!(e13.data==([] :Str))) ((kr)) ((bD x12 kr k2 n e13.slot (IntKind.i64.wrap (x11+(1:Int)))))) ((bD x12 kr k2 n e13.slot (IntKind.i64.wrap (x11+(1:Int))))))))))) (none)) ((k2))
noncomputable def gJ (w0:ao):Option (Bool):=
 aj (e_ w0.fs) fun y1=>
 ah (y1 !=(0:Int)) (some false) (aj (cv w0) fun y2=>aj (k6 y2) fun y3=>
 ah (!y3) (some false) (fy w0 (some false) (bD w0 (some false) (some true) bg (0:Int) (0:Int)) bg (0:Int)))
noncomputable def jU (w0:ao):Option (Bool):=
 aj (kN w0) fun y1=>ah y1 (aj (gJ w0) fun y2=>some y2) (some false)
noncomputable def fS {R:Type} (x1:Int) (x3:ao) (kr:Kept→Option R) (k0:Option R):Nat→Int→Option R
 |0,_=>none
 |n+1,x2=>
  ah (decide (x2<(List.length x3.al.kept:Int))) (
  ah (decide (0≤x2)) (aj x3.al.kept[Int.toNat x2]? fun e5=>
  ah (e5.slot==x1) (
  ah (decide (0≤x2)) (aj x3.al.kept[Int.toNat x2]? fun e6=>(kr e6)) (none)) ((fS x1 x3 kr k0 n (IntKind.i64.wrap (x2+(1:Int)))))) (none)) ((k0))
noncomputable def ir (w0:ao) (w1:Int):Option (Kept×Bool):=
 fS w1 w0 (fun z10=>some (z10,true)) (some ((⟨0,0,false, []⟩:Kept),false)) bg (0:Int)
noncomputable def d_ {R:Type} (x3:ao) (x4:Kept) (k0:Bool→(List Kept)→Option R):Nat→Bool→Int→(List Kept)→Option R
 |0,_,_,_=>none
 |n+1,x1,x2,x6=>
  ah (decide (x2<(List.length x3.al.kept:Int))) (
  ah (!x1) (
  ah (decide (0≤x2)) (aj x3.al.kept[Int.toNat x2]? fun e7=>
  ah (decide (e7.slot>x4.slot)) (aQ (x6.length+[x4].length) (
  ah (decide (0≤x2)) (aj x3.al.kept[Int.toNat x2]? fun e8=>aQ ((x6++[x4]).length+[e8].length) ((d_ x3 x4 k0 n true (IntKind.i64.wrap (x2+(1:Int))) ((x6++[x4])++[e8])))) (none))) (
  ah (decide (0≤x2)) (aj x3.al.kept[Int.toNat x2]? fun e9=>aQ (x6.length+[e9].length) ((d_ x3 x4 k0 n x1 (IntKind.i64.wrap (x2+(1:Int))) (x6++[e9])))) (none))) (none)) (
  ah (decide (0≤x2)) (aj x3.al.kept[Int.toNat x2]? fun e10=>aQ (x6.length+[e10].length) ((d_ x3 x4 k0 n x1 (IntKind.i64.wrap (x2+(1:Int))) (x6++[e10])))) (none))) ((k0 x1 x6))
noncomputable def jD (w0:ao) (w1:Kept):Option (ao):=
 d_ w0 w1 (fun z16 z17=>
 ah (!z16) (aQ (z17.length+[w1].length) (some (⟨w0.fs,(⟨(z17++[w1]),w0.al.aI⟩:aU)⟩:ao))) (some (⟨w0.fs,(⟨z17,w0.al.aI⟩:aU)⟩:ao))) bg false (0:Int) ([] :List Kept)
noncomputable def lj (w0:ao) (w1:Int) (w2:ax):Option (ao×Int):=
 aj (ir w0 w1) fun y1=>
 ah y1.2 (some (w0,(13:Int))) (aj (bB w0.fs w2.ino) fun y2=>aj (kp w0.fs w2) fun y3=>
 ah (y2.1.aq==(1:Int)) (aj (cv (⟨y3,w0.al⟩:ao)) fun y4=>aj (b7 y4 (⟨y2.1.ino,y2.1.kind,(0:Int),y2.1.data,(0:Int),y2.1.entries⟩:ae)) fun y5=>aj (jD (⟨y3,(⟨w0.al.kept,y5.aa⟩:aU)⟩:ao) (⟨w1,w2.ino,false, []⟩:Kept)) fun y6=>some (y6,(0:Int))) (aj (jD (⟨y3,w0.al⟩:ao) (⟨w1,w2.ino,false, []⟩:Kept)) fun y7=>some (y7,(0:Int))))
noncomputable def dx {R:Type} (x1:Int) (x3:ao) (k0:(List Kept)→Option R):Nat→Int→(List Kept)→Option R
 |0,_,_=>none
 |n+1,x2,x5=>
  ah (decide (x2<(List.length x3.al.kept:Int))) (
  ah (decide (0≤x2)) (aj x3.al.kept[Int.toNat x2]? fun e6=>
  ah (e6.slot !=x1) (
  ah (decide (0≤x2)) (aj x3.al.kept[Int.toNat x2]? fun e7=>aQ (x5.length+[e7].length) ((dx x1 x3 k0 n (IntKind.i64.wrap (x2+(1:Int))) (x5++[e7])))) (none)) ((dx x1 x3 k0 n (IntKind.i64.wrap (x2+(1:Int))) x5))) (none)) ((k0 x5))
noncomputable def cu (w0:ao) (w1:Int):Option (ao):=
 dx w1 w0 (fun z11=>some (⟨w0.fs,(⟨z11,w0.al.aI⟩:aU)⟩:ao)) bg (0:Int) ([] :List Kept)
noncomputable def nw (w0:ao) (w1:Int) (w2:ax):Option (ao×Int):=
 aj (ir w0 w1) fun y1=>
 ah (!y1.2) (some (w0,(13:Int))) (
 ah y1.1.content (some (w0,(13:Int))) (aj (bB w0.fs y1.1.ino) fun y2=>aj (jy w2.name) fun y3=>
 ah (!y3) (some (w0,(9:Int))) (
 ah y2.2 (
 ah (y2.1.kind==(2:Int)) (some (w0,(9:Int))) (
 ah (!y2.2) (aj (cv w0) fun y4=>aj (bB y4 y1.1.ino) fun y5=>
 ah (y5.1.kind==(1:Int)) (aj (eH w0.fs (1:Int) (List.length y5.1.data:Int)) fun y6=>
 ah (!y6) (some (w0,(8:Int))) (
 ah (y5.1.kind==(2:Int)) (aj (b7 w0.fs (⟨y5.1.ino,y5.1.kind,y5.1.aq,y5.1.data,w2.dir,y5.1.entries⟩:ae)) fun y7=>aj (cv (⟨y7,w0.al⟩:ao)) fun y8=>aj (dj y8 y1.1.ino) fun y9=>aj (dA y7 w2 y1.1.ino) fun y10=>aj (cu (⟨y10,(⟨w0.al.kept,y9.aa⟩:aU)⟩:ao) w1) fun y11=>some (y11,(0:Int))) (aj (b7 w0.fs y5.1) fun y12=>aj (cv (⟨y12,w0.al⟩:ao)) fun y13=>aj (dj y13 y1.1.ino) fun y14=>aj (dA y12 w2 y1.1.ino) fun y15=>aj (cu (⟨y15,(⟨w0.al.kept,y14.aa⟩:aU)⟩:ao) w1) fun y16=>some (y16,(0:Int))))) (aj (eH w0.fs (1:Int) (0:Int)) fun y17=>
 ah (!y17) (some (w0,(8:Int))) (
 ah (y5.1.kind==(2:Int)) (aj (b7 w0.fs (⟨y5.1.ino,y5.1.kind,y5.1.aq,y5.1.data,w2.dir,y5.1.entries⟩:ae)) fun y18=>aj (cv (⟨y18,w0.al⟩:ao)) fun y19=>aj (dj y19 y1.1.ino) fun y20=>aj (dA y18 w2 y1.1.ino) fun y21=>aj (cu (⟨y21,(⟨w0.al.kept,y20.aa⟩:aU)⟩:ao) w1) fun y22=>some (y22,(0:Int))) (aj (b7 w0.fs y5.1) fun y23=>aj (cv (⟨y23,w0.al⟩:ao)) fun y24=>aj (dj y24 y1.1.ino) fun y25=>aj (dA y23 w2 y1.1.ino) fun y26=>aj (cu (⟨y26,(⟨w0.al.kept,y25.aa⟩:aU)⟩:ao) w1) fun y27=>some (y27,(0:Int)))))) (aj (dA w0.fs w2 y1.1.ino) fun y28=>aj (cu (⟨y28,w0.al⟩:ao) w1) fun y29=>some (y29,(0:Int))))) (
 ah (!y2.2) (aj (cv w0) fun y30=>aj (bB y30 y1.1.ino) fun y31=>
 ah (y31.1.kind==(1:Int)) (aj (eH w0.fs (1:Int) (List.length y31.1.data:Int)) fun y32=>
 ah (!y32) (some (w0,(8:Int))) (
 ah (y31.1.kind==(2:Int)) (aj (b7 w0.fs (⟨y31.1.ino,y31.1.kind,y31.1.aq,y31.1.data,w2.dir,y31.1.entries⟩:ae)) fun y33=>aj (cv (⟨y33,w0.al⟩:ao)) fun y34=>aj (dj y34 y1.1.ino) fun y35=>aj (dA y33 w2 y1.1.ino) fun y36=>aj (cu (⟨y36,(⟨w0.al.kept,y35.aa⟩:aU)⟩:ao) w1) fun y37=>some (y37,(0:Int))) (aj (b7 w0.fs y31.1) fun y38=>aj (cv (⟨y38,w0.al⟩:ao)) fun y39=>aj (dj y39 y1.1.ino) fun y40=>aj (dA y38 w2 y1.1.ino) fun y41=>aj (cu (⟨y41,(⟨w0.al.kept,y40.aa⟩:aU)⟩:ao) w1) fun y42=>some (y42,(0:Int))))) (aj (eH w0.fs (1:Int) (0:Int)) fun y43=>
 ah (!y43) (some (w0,(8:Int))) (
 ah (y31.1.kind==(2:Int)) (aj (b7 w0.fs (⟨y31.1.ino,y31.1.kind,y31.1.aq,y31.1.data,w2.dir,y31.1.entries⟩:ae)) fun y44=>aj (cv (⟨y44,w0.al⟩:ao)) fun y45=>aj (dj y45 y1.1.ino) fun y46=>aj (dA y44 w2 y1.1.ino) fun y47=>aj (cu (⟨y47,(⟨w0.al.kept,y46.aa⟩:aU)⟩:ao) w1) fun y48=>some (y48,(0:Int))) (aj (b7 w0.fs y31.1) fun y49=>aj (cv (⟨y49,w0.al⟩:ao)) fun y50=>aj (dj y50 y1.1.ino) fun y51=>aj (dA y49 w2 y1.1.ino) fun y52=>aj (cu (⟨y52,(⟨w0.al.kept,y51.aa⟩:aU)⟩:ao) w1) fun y53=>some (y53,(0:Int)))))) (aj (dA w0.fs w2 y1.1.ino) fun y54=>aj (cu (⟨y54,w0.al⟩:ao) w1) fun y55=>some (y55,(0:Int)))))))
noncomputable def iI (w0:ao) (w1:Int):Option (ao×Int):=
 aj (ir w0 w1) fun y1=>aj (bB w0.fs y1.1.ino) fun y2=>
 ah (!y1.2) (some (w0,(13:Int))) (
 ah (!y1.1.content) (some (w0,(13:Int))) (
 ah (!y2.2) (some (w0,(13:Int))) (aj (eH w0.fs (0:Int) (IntKind.i64.wrap ((List.length y1.1.data:Int) - (List.length y2.1.data:Int)))) fun y3=>
 ah (!y3) (some (w0,(8:Int))) (aj (b7 w0.fs (⟨y2.1.ino,y2.1.kind,y2.1.aq,y1.1.data,y2.1.parent,y2.1.entries⟩:ae)) fun y4=>aj (cu (⟨y4,w0.al⟩:ao) w1) fun y5=>some (y5,(0:Int))))))
noncomputable def iZ (w0:ao) (w1:Int) (w2:Int):Option (ao×Int):=
 aj (ir w0 w1) fun y1=>
 ah y1.2 (some (w0,(13:Int))) (aj (bB w0.fs w2) fun y2=>aj (jD w0 (⟨w1,w2,true,y2.1.data⟩:Kept)) fun y3=>some (y3,(0:Int)))
end Go.Eng
set_option linter.unusedVariables false
set_option maxRecDepth 100000
namespace Go.Eng
open Go
noncomputable def cn {R:Type} (x1:Str) (kr:Int→Option R) (k0:Option R):Nat→Int→Option R
 |0,_=>none
 |n+1,x2=>
  ah (decide (x2<(List.length x1:Int))) (
  ah (decide (0≤x2)) (aj x1[Int.toNat x2]? fun c3=>splitK (UInt8.toNat c3:Int) 256 0 (fun i4=>
  ah (Nat.beq i4 0||Nat.beq i4 47) ((kr x2)) ((cn x1 kr k0 n (IntKind.i64.wrap (x2+(1:Int))))))) (none)) ((k0))
noncomputable def cD {R:Type} (x13:Str) (kr:Int→Option R) (k9:Option R):Nat→Nat→Option R
 |0,_=>none
 |n+1,x14=>
  ah (Nat.blt x14 x13.length) (
  ah (((bz x13 x14).1:Int)==(65533:Int)) ((kr (x14:Int))) ((cD x13 kr k9 n (x14+(bz x13 x14).2)))) ((k9))
noncomputable def cV {R:Type} (x35:Str) (x36:Int) (x37:Int) (k3:Option R):Nat→Int→Option R
 |0,_=>none
 |n+1,x38=>
  ah (decide (x38<(List.length x35:Int))) (
  ah (decide (0≤(IntKind.i64.wrap (x37 - x38)))) (aj ([47,0]:Str)[Int.toNat (IntKind.i64.wrap (x37 - x38))]? fun c42=>
  ah (decide (0≤(IntKind.i64.wrap (x36 - x38)))) (aj x35[Int.toNat (IntKind.i64.wrap (x36 - x38))]? fun c43=>
  ah ((UInt8.toNat c42:Int) !=(UInt8.toNat c43:Int)) (none) ((cV x35 x36 x37 k3 n (IntKind.i64.wrap (x38+(1:Int)))))) (none)) (none)) ((k3))
noncomputable def bI {R:Type} (x25:Str) (x26:Int) (x27:Int) (kr:Int→Option R) (k1:Option R):Nat→Option R
 |0=>none
 |n+1=>
  ah (decide (x27<(2:Int))) (
  ah (decide (0≤x27)) (aj ([47,0]:Str)[Int.toNat x27]? fun c31=>
  ah (decide (0≤x26)) (aj x25[Int.toNat x26]? fun c32=>
  ah ((UInt8.toNat c31:Int) !=(UInt8.toNat c32:Int)) (
  ah (decide (0≤(IntKind.i64.wrap (x27+(1:Int)))∧(IntKind.i64.wrap (x27+(1:Int)))≤(([47,0]:Str).length:Int))) (
  ah (decide (0≤x26)) (aj x25[Int.toNat x26]? fun c33=>aj (stringslite_IndexByte (([47,0]:Str).drop (Int.toNat (IntKind.i64.wrap (x27+(1:Int))))) (UInt8.toNat c33:Int)) fun y34=>
  ah (decide (y34<(0:Int))) ((kr (-1:Int))) (cV x25 x26 (IntKind.i64.wrap (x27+(IntKind.i64.wrap (y34+(1:Int))))) ((kr (IntKind.i64.wrap ((IntKind.i64.wrap (x27+(IntKind.i64.wrap (y34+(1:Int))))) - x26)))) bg (1:Int))) (none)) (none)) (cV x25 x26 x27 ((kr (IntKind.i64.wrap (x27 - x26)))) bg (1:Int))) (none)) (none)) ((k1))
noncomputable def aG {R:Type} (x7:Str) (kr:Int→Option R) (k2:Option R):Nat→Nat→Option R
 |0,_=>none
 |n+1,x8=>
  ah (Nat.blt x8 x7.length) (
  ah (decide ((0:Int)≤((bz x7 x8).1:Int))) (
  ah (decide (((bz x7 x8).1:Int)<(128:Int))) (aj (stringslite_IndexByte ([47,0]:Str) (IntKind.u8.wrap (((bz x7 x8).1:Int)))) fun y9=>
  ah (decide (y9≥(0:Int))) ((kr (x8:Int))) ((aG x7 kr k2 n (x8+(bz x7 x8).2)))) (
  ah (((bz x7 x8).1:Int)==(65533:Int)) (cD ([47,0]:Str) (fun z24=>
  ah (decide (z24≥(0:Int))) ((kr (x8:Int))) ((aG x7 kr k2 n (x8+(bz x7 x8).2)))) ((aG x7 kr k2 n (x8+(bz x7 x8).2))) bg 0) (
  ah (decide ((0:Int)≤((bz x7 x8).1:Int))) (
  ah (decide (((bz x7 x8).1:Int)<(55296:Int))) (bI ((Utf8.encode ((bz x7 x8).1:Int)).data.toList) (IntKind.i64.wrap ((List.length ((Utf8.encode ((bz x7 x8).1:Int)).data.toList):Int) - (1:Int))) (IntKind.i64.wrap ((List.length ((Utf8.encode ((bz x7 x8).1:Int)).data.toList):Int) - (1:Int))) (fun z59=>
  ah (decide (z59≥(0:Int))) ((kr (x8:Int))) ((aG x7 kr k2 n (x8+(bz x7 x8).2)))) ((aG x7 kr k2 n (x8+(bz x7 x8).2))) bg) (
  ah (decide ((57343:Int)<((bz x7 x8).1:Int))) (
  ah (decide (((bz x7 x8).1:Int)≤(1114111:Int))) (bI ((Utf8.encode ((bz x7 x8).1:Int)).data.toList) (IntKind.i64.wrap ((List.length ((Utf8.encode ((bz x7 x8).1:Int)).data.toList):Int) - (1:Int))) (IntKind.i64.wrap ((List.length ((Utf8.encode ((bz x7 x8).1:Int)).data.toList):Int) - (1:Int))) (fun z60=>
  ah (decide (z60≥(0:Int))) ((kr (x8:Int))) ((aG x7 kr k2 n (x8+(bz x7 x8).2)))) ((aG x7 kr k2 n (x8+(bz x7 x8).2))) bg) ((aG x7 kr k2 n (x8+(bz x7 x8).2)))) ((aG x7 kr k2 n (x8+(bz x7 x8).2))))) (
  ah (decide ((57343:Int)<((bz x7 x8).1:Int))) (
  ah (decide (((bz x7 x8).1:Int)≤(1114111:Int))) (bI ((Utf8.encode ((bz x7 x8).1:Int)).data.toList) (IntKind.i64.wrap ((List.length ((Utf8.encode ((bz x7 x8).1:Int)).data.toList):Int) - (1:Int))) (IntKind.i64.wrap ((List.length ((Utf8.encode ((bz x7 x8).1:Int)).data.toList):Int) - (1:Int))) (fun z61=>
  ah (decide (z61≥(0:Int))) ((kr (x8:Int))) ((aG x7 kr k2 n (x8+(bz x7 x8).2)))) ((aG x7 kr k2 n (x8+(bz x7 x8).2))) bg) ((aG x7 kr k2 n (x8+(bz x7 x8).2)))) ((aG x7 kr k2 n (x8+(bz x7 x8).2))))))) (
  ah (((bz x7 x8).1:Int)==(65533:Int)) (cD ([47,0]:Str) (fun z62=>
  ah (decide (z62≥(0:Int))) ((kr (x8:Int))) ((aG x7 kr k2 n (x8+(bz x7 x8).2)))) ((aG x7 kr k2 n (x8+(bz x7 x8).2))) bg 0) (
  ah (decide ((0:Int)≤((bz x7 x8).1:Int))) (
  ah (decide (((bz x7 x8).1:Int)<(55296:Int))) (bI ((Utf8.encode ((bz x7 x8).1:Int)).data.toList) (IntKind.i64.wrap ((List.length ((Utf8.encode ((bz x7 x8).1:Int)).data.toList):Int) - (1:Int))) (IntKind.i64.wrap ((List.length ((Utf8.encode ((bz x7 x8).1:Int)).data.toList):Int) - (1:Int))) (fun z63=>
  ah (decide (z63≥(0:Int))) ((kr (x8:Int))) ((aG x7 kr k2 n (x8+(bz x7 x8).2)))) ((aG x7 kr k2 n (x8+(bz x7 x8).2))) bg) (
  ah (decide ((57343:Int)<((bz x7 x8).1:Int))) (
  ah (decide (((bz x7 x8).1:Int)≤(1114111:Int))) (bI ((Utf8.encode ((bz x7 x8).1:Int)).data.toList) (IntKind.i64.wrap ((List.length ((Utf8.encode ((bz x7 x8).1:Int)).data.toList):Int) - (1:Int))) (IntKind.i64.wrap ((List.length ((Utf8.encode ((bz x7 x8).1:Int)).data.toList):Int) - (1:Int))) (fun z64=>
  ah (decide (z64≥(0:Int))) ((kr (x8:Int))) ((aG x7 kr k2 n (x8+(bz x7 x8).2)))) ((aG x7 kr k2 n (x8+(bz x7 x8).2))) bg) ((aG x7 kr k2 n (x8+(bz x7 x8).2)))) ((aG x7 kr k2 n (x8+(bz x7 x8).2))))) (
  ah (decide ((57343:Int)<((bz x7 x8).1:Int))) (
  ah (decide (((bz x7 x8).1:Int)≤(1114111:Int))) (bI ((Utf8.encode ((bz x7 x8).1:Int)).data.toList) (IntKind.i64.wrap ((List.length ((Utf8.encode ((bz x7 x8).1:Int)).data.toList):Int) - (1:Int))) (IntKind.i64.wrap ((List.length ((Utf8.encode ((bz x7 x8).1:Int)).data.toList):Int) - (1:Int))) (fun z65=>
  ah (decide (z65≥(0:Int))) ((kr (x8:Int))) ((aG x7 kr k2 n (x8+(bz x7 x8).2)))) ((aG x7 kr k2 n (x8+(bz x7 x8).2))) bg) ((aG x7 kr k2 n (x8+(bz x7 x8).2)))) ((aG x7 kr k2 n (x8+(bz x7 x8).2))))))) ((k2))
noncomputable def fk (w0:Str):Option (Bool):=
 ah (decide ((List.length w0:Int)>(8:Int))) (cn w0 (fun z6=>some (decide (z6≥(0:Int)))) (some false) bg (0:Int)) (aG w0 (fun z67=>some (decide (z67≥(0:Int)))) (some false) bg 0)
noncomputable def lA (w0:Str):Option (Bool):=
 ah (!(w0==([] :Str))) (
 ah (decide ((List.length w0:Int)≤(255:Int))) (aj (fk w0) fun y1=>
 ah (!y1) (
 ah (!(w0==([46]:Str))) (some (!(w0==([46,46]:Str)))) (some false)) (some false)) (some false)) (some false)
end Go.Eng
set_option linter.unusedVariables false
set_option maxRecDepth 100000
namespace Go.Eng
open Go
noncomputable def iJ {R:Type} (x1:List Entry) (x2:List Entry) (x3:Int) (kr:Option R) (k0:Option R):Nat→Int→Option R
 |0,_=>none
 |n+1,x4=>
  ah (decide (x4<x3)) (
  ah (decide (0≤x4)) (aj x2[Int.toNat x4]? fun e5=>aj (lA e5.name) fun y6=>
  ah (!y6) ((kr)) (
  ah (decide (e5.ino≤(0:Int))) ((kr)) (
  ah (decide (x4>(0:Int))) (
  ah (decide (0≤(IntKind.i64.wrap (x4 - (1:Int))))) (aj x1[Int.toNat (IntKind.i64.wrap (x4 - (1:Int)))]? fun e7=>
  ah (!Op.bytesLess e7.name e5.name) ((kr)) ((iJ x1 x2 x3 kr k0 n (IntKind.i64.wrap (x4+(1:Int)))))) (none)) ((iJ x1 x2 x3 kr k0 n (IntKind.i64.wrap (x4+(1:Int)))))))) (none)) ((k0))
noncomputable def cf (w0:(List Entry)):Option (Bool):=
 iJ w0 w0 (List.length w0:Int) (some false) (some true) bg (0:Int)
noncomputable def ef {R:Type} (x1:List Entry) (x2:Str) (k0:Int→Option R):Nat→Int→Int→Option R
 |0,_,_=>none
 |n+1,x4,x5=>
  ah (decide (x4<x5)) (
  ah (decide ((1:Int)<0)) (none) (
  ah (decide (0≤(IntKind.i64.wrap (Int.fdiv (IntKind.u64.wrap (IntKind.i64.wrap (x4+x5))) (2^(min (Int.toNat (1:Int)) (IntKind.bits .u64))))))) (aj x1[Int.toNat (IntKind.i64.wrap (Int.fdiv (IntKind.u64.wrap (IntKind.i64.wrap (x4+x5))) (2^(min (Int.toNat (1:Int)) (IntKind.bits .u64)))))]? fun e6=>aj (strings_Compare e6.name x2) fun y7=>
  ah (decide (y7<(0:Int))) ((ef x1 x2 k0 n (IntKind.i64.wrap ((IntKind.i64.wrap (Int.fdiv (IntKind.u64.wrap (IntKind.i64.wrap (x4+x5))) (2^(min (Int.toNat (1:Int)) (IntKind.bits .u64)))))+(1:Int))) x5)) ((ef x1 x2 k0 n x4 (IntKind.i64.wrap (Int.fdiv (IntKind.u64.wrap (IntKind.i64.wrap (x4+x5))) (2^(min (Int.toNat (1:Int)) (IntKind.bits .u64)))))))) (none))) ((k0 x4))
noncomputable def nW (w0:(List Entry)) (w1:Str):Option (Int×Bool):=
 ef w0 w1 (fun z12=>
 ah (decide (z12<(List.length w0:Int))) (
 ah (decide (0≤z12)) (aj w0[Int.toNat z12]? fun e13=>aj (strings_Compare e13.name w1) fun y14=>some (z12,(y14==(0:Int)))) (none)) (some (z12,false))) bg (0:Int) (List.length w0:Int)
noncomputable def jJ (w0:(List Entry)) (w1:Str):Option ((List Entry)):=
 aj (nW w0 w1) fun y1=>
 ah (!y1.2) (za w0 (some ([] :List Entry)) (aQ (([] :List Entry).length+w0.length) (some (([] :List Entry)++w0)))) (
 ah (decide (0≤(IntKind.i64.wrap ((List.length w0:Int) - (1:Int)))∧(IntKind.i64.wrap ((List.length w0:Int) - (1:Int)))=(IntKind.i64.wrap ((List.length w0:Int) - (1:Int))))) (aQ (Int.toNat (IntKind.i64.wrap ((List.length w0:Int) - (1:Int)))) (
 ah (decide (0≤y1.1∧y1.1≤(w0.length:Int))) (
 ah (decide (0≤((min (w0.take (Int.toNat y1.1)).length (List.replicate (Int.toNat (IntKind.i64.wrap ((List.length w0:Int) - (1:Int)))) (⟨[],0⟩:Entry)).length:Nat):Int)∧((min (w0.take (Int.toNat y1.1)).length (List.replicate (Int.toNat (IntKind.i64.wrap ((List.length w0:Int) - (1:Int)))) (⟨[],0⟩:Entry)).length:Nat):Int)≤(((w0.take (Int.toNat y1.1)).take (List.replicate (Int.toNat (IntKind.i64.wrap ((List.length w0:Int) - (1:Int)))) (⟨[],0⟩:Entry)).length++(List.replicate (Int.toNat (IntKind.i64.wrap ((List.length w0:Int) - (1:Int)))) (⟨[],0⟩:Entry)).drop (w0.take (Int.toNat y1.1)).length).length:Int))) (
 ah (decide (0≤(IntKind.i64.wrap (y1.1+(1:Int)))∧(IntKind.i64.wrap (y1.1+(1:Int)))≤(w0.length:Int))) (
 ah (Nat.ble ((Int.toNat ((min (w0.take (Int.toNat y1.1)).length (List.replicate (Int.toNat (IntKind.i64.wrap ((List.length w0:Int) - (1:Int)))) (⟨[],0⟩:Entry)).length:Nat):Int))+(((w0.take (Int.toNat y1.1)).take (List.replicate (Int.toNat (IntKind.i64.wrap ((List.length w0:Int) - (1:Int)))) (⟨[],0⟩:Entry)).length++(List.replicate (Int.toNat (IntKind.i64.wrap ((List.length w0:Int) - (1:Int)))) (⟨[],0⟩:Entry)).drop (w0.take (Int.toNat y1.1)).length).length - (Int.toNat ((min (w0.take (Int.toNat y1.1)).length (List.replicate (Int.toNat (IntKind.i64.wrap ((List.length w0:Int) - (1:Int)))) (⟨[],0⟩:Entry)).length:Nat):Int)))) ((w0.take (Int.toNat y1.1)).take (List.replicate (Int.toNat (IntKind.i64.wrap ((List.length w0:Int) - (1:Int)))) (⟨[],0⟩:Entry)).length++(List.replicate (Int.toNat (IntKind.i64.wrap ((List.length w0:Int) - (1:Int)))) (⟨[],0⟩:Entry)).drop (w0.take (Int.toNat y1.1)).length).length) (some (((w0.take (Int.toNat y1.1)).take (List.replicate (Int.toNat (IntKind.i64.wrap ((List.length w0:Int) - (1:Int)))) (⟨[],0⟩:Entry)).length++(List.replicate (Int.toNat (IntKind.i64.wrap ((List.length w0:Int) - (1:Int)))) (⟨[],0⟩:Entry)).drop (w0.take (Int.toNat y1.1)).length).take (Int.toNat ((min (w0.take (Int.toNat y1.1)).length (List.replicate (Int.toNat (IntKind.i64.wrap ((List.length w0:Int) - (1:Int)))) (⟨[],0⟩:Entry)).length:Nat):Int))++((w0.drop (Int.toNat (IntKind.i64.wrap (y1.1+(1:Int))))).take (((w0.take (Int.toNat y1.1)).take (List.replicate (Int.toNat (IntKind.i64.wrap ((List.length w0:Int) - (1:Int)))) (⟨[],0⟩:Entry)).length++(List.replicate (Int.toNat (IntKind.i64.wrap ((List.length w0:Int) - (1:Int)))) (⟨[],0⟩:Entry)).drop (w0.take (Int.toNat y1.1)).length).length - (Int.toNat ((min (w0.take (Int.toNat y1.1)).length (List.replicate (Int.toNat (IntKind.i64.wrap ((List.length w0:Int) - (1:Int)))) (⟨[],0⟩:Entry)).length:Nat):Int)))++(((w0.take (Int.toNat y1.1)).take (List.replicate (Int.toNat (IntKind.i64.wrap ((List.length w0:Int) - (1:Int)))) (⟨[],0⟩:Entry)).length++(List.replicate (Int.toNat (IntKind.i64.wrap ((List.length w0:Int) - (1:Int)))) (⟨[],0⟩:Entry)).drop (w0.take (Int.toNat y1.1)).length).drop (Int.toNat ((min (w0.take (Int.toNat y1.1)).length (List.replicate (Int.toNat (IntKind.i64.wrap ((List.length w0:Int) - (1:Int)))) (⟨[],0⟩:Entry)).length:Nat):Int))).drop (min (w0.drop (Int.toNat (IntKind.i64.wrap (y1.1+(1:Int))))).length (((w0.take (Int.toNat y1.1)).take (List.replicate (Int.toNat (IntKind.i64.wrap ((List.length w0:Int) - (1:Int)))) (⟨[],0⟩:Entry)).length++(List.replicate (Int.toNat (IntKind.i64.wrap ((List.length w0:Int) - (1:Int)))) (⟨[],0⟩:Entry)).drop (w0.take (Int.toNat y1.1)).length).length - (Int.toNat ((min (w0.take (Int.toNat y1.1)).length (List.replicate (Int.toNat (IntKind.i64.wrap ((List.length w0:Int) - (1:Int)))) (⟨[],0⟩:Entry)).length:Nat):Int))))))) (none)) (none)) (none)) (none))) (none))
noncomputable def fF (w0:(List Entry)) (w1:Str) (w2:Int):Option ((List Entry)):=
 aj (nW w0 w1) fun y1=>za w0 (
 ah y1.2 (
 ah (decide (0≤y1.1)) (aj ([] :List Entry)[Int.toNat y1.1]? fun e2=>none) (none)) (
 ah (decide (0≤y1.1∧y1.1≤(([] :List Entry).length:Int))) (
 ah ((List.length [(⟨w1,w2⟩:Entry)]:Int)==(0:Int)) (some ([] :List Entry)) (
 ah (y1.1==(List.length ([] :List Entry):Int)) (aQ (([] :List Entry).length+[(⟨w1,w2⟩:Entry)].length) (some [(⟨w1,w2⟩:Entry)])) (none))) (none))) (aQ (([] :List Entry).length+w0.length) (
 ah y1.2 (
 ah (decide (0≤y1.1∧y1.1<((([] :List Entry)++w0).length:Int))) (aj (([] :List Entry)++w0)[(Int.toNat y1.1)]? fun e3=>some ((([] :List Entry)++w0).set (Int.toNat y1.1) (⟨e3.name,w2⟩:Entry))) (none)) (
 ah (decide (0≤y1.1∧y1.1≤((([] :List Entry)++w0).length:Int))) (
 ah ((List.length [(⟨w1,w2⟩:Entry)]:Int)==(0:Int)) (some (([] :List Entry)++w0)) (
 ah (y1.1==(List.length (([] :List Entry)++w0):Int)) (aQ ((([] :List Entry)++w0).length+[(⟨w1,w2⟩:Entry)].length) (some ((([] :List Entry)++w0)++[(⟨w1,w2⟩:Entry)]))) (yH (([] :List Entry)++w0).length fun cp4=>
 ah (decide ((IntKind.i64.wrap ((List.length (([] :List Entry)++w0):Int)+(List.length [(⟨w1,w2⟩:Entry)]:Int)))>(cp4:Int))) (
 ah (decide (0≤y1.1∧y1.1≤(cp4:Int))) (
 ah (decide (0≤(IntKind.i64.wrap ((IntKind.i64.wrap ((List.length (([] :List Entry)++w0):Int)+(List.length [(⟨w1,w2⟩:Entry)]:Int))) - y1.1)))) (aQ ((Int.toNat y1.1)+Int.toNat (IntKind.i64.wrap ((IntKind.i64.wrap ((List.length (([] :List Entry)++w0):Int)+(List.length [(⟨w1,w2⟩:Entry)]:Int))) - y1.1))) (
 ah (Nat.ble (0+(Int.toNat y1.1)) (([] :List Entry)++w0).length) (
 ah (Nat.blt (cp4 - 0) ((Int.toNat y1.1)+Int.toNat (IntKind.i64.wrap ((IntKind.i64.wrap ((List.length (([] :List Entry)++w0):Int)+(List.length [(⟨w1,w2⟩:Entry)]:Int))) - y1.1)))) (
 ah (decide (0≤y1.1∧y1.1≤((((([] :List Entry)++w0).drop 0).take (Int.toNat y1.1)++List.replicate (Int.toNat (IntKind.i64.wrap ((IntKind.i64.wrap ((List.length (([] :List Entry)++w0):Int)+(List.length [(⟨w1,w2⟩:Entry)]:Int))) - y1.1))) (⟨[],0⟩:Entry)).length:Int))) (
 ah (Nat.ble ((Int.toNat y1.1)+((((([] :List Entry)++w0).drop 0).take (Int.toNat y1.1)++List.replicate (Int.toNat (IntKind.i64.wrap ((IntKind.i64.wrap ((List.length (([] :List Entry)++w0):Int)+(List.length [(⟨w1,w2⟩:Entry)]:Int))) - y1.1))) (⟨[],0⟩:Entry)).length - (Int.toNat y1.1))) (((([] :List Entry)++w0).drop 0).take (Int.toNat y1.1)++List.replicate (Int.toNat (IntKind.i64.wrap ((IntKind.i64.wrap ((List.length (([] :List Entry)++w0):Int)+(List.length [(⟨w1,w2⟩:Entry)]:Int))) - y1.1))) (⟨[],0⟩:Entry)).length) (
 ah (decide (0≤(IntKind.i64.wrap (y1.1+(List.length [(⟨w1,w2⟩:Entry)]:Int)))∧(IntKind.i64.wrap (y1.1+(List.length [(⟨w1,w2⟩:Entry)]:Int)))≤(((((([] :List Entry)++w0).drop 0).take (Int.toNat y1.1)++List.replicate (Int.toNat (IntKind.i64.wrap ((IntKind.i64.wrap ((List.length (([] :List Entry)++w0):Int)+(List.length [(⟨w1,w2⟩:Entry)]:Int))) - y1.1))) (⟨[],0⟩:Entry)).take (Int.toNat y1.1)++([(⟨w1,w2⟩:Entry)].take ((((([] :List Entry)++w0).drop 0).take (Int.toNat y1.1)++List.replicate (Int.toNat (IntKind.i64.wrap ((IntKind.i64.wrap ((List.length (([] :List Entry)++w0):Int)+(List.length [(⟨w1,w2⟩:Entry)]:Int))) - y1.1))) (⟨[],0⟩:Entry)).length - (Int.toNat y1.1))++((((([] :List Entry)++w0).drop 0).take (Int.toNat y1.1)++List.replicate (Int.toNat (IntKind.i64.wrap ((IntKind.i64.wrap ((List.length (([] :List Entry)++w0):Int)+(List.length [(⟨w1,w2⟩:Entry)]:Int))) - y1.1))) (⟨[],0⟩:Entry)).drop (Int.toNat y1.1)).drop (min [(⟨w1,w2⟩:Entry)].length ((((([] :List Entry)++w0).drop 0).take (Int.toNat y1.1)++List.replicate (Int.toNat (IntKind.i64.wrap ((IntKind.i64.wrap ((List.length (([] :List Entry)++w0):Int)+(List.length [(⟨w1,w2⟩:Entry)]:Int))) - y1.1))) (⟨[],0⟩:Entry)).length - (Int.toNat y1.1))))).length:Int))) (
 ah (decide (0≤y1.1∧y1.1≤((([] :List Entry)++w0).length:Int))) (
 ah (Nat.ble ((Int.toNat y1.1)+(min ((([] :List Entry)++w0).length - (Int.toNat y1.1)) (((((([] :List Entry)++w0).drop 0).take (Int.toNat y1.1)++List.replicate (Int.toNat (IntKind.i64.wrap ((IntKind.i64.wrap ((List.length (([] :List Entry)++w0):Int)+(List.length [(⟨w1,w2⟩:Entry)]:Int))) - y1.1))) (⟨[],0⟩:Entry)).take (Int.toNat y1.1)++([(⟨w1,w2⟩:Entry)].take ((((([] :List Entry)++w0).drop 0).take (Int.toNat y1.1)++List.replicate (Int.toNat (IntKind.i64.wrap ((IntKind.i64.wrap ((List.length (([] :List Entry)++w0):Int)+(List.length [(⟨w1,w2⟩:Entry)]:Int))) - y1.1))) (⟨[],0⟩:Entry)).length - (Int.toNat y1.1))++((((([] :List Entry)++w0).drop 0).take (Int.toNat y1.1)++List.replicate (Int.toNat (IntKind.i64.wrap ((IntKind.i64.wrap ((List.length (([] :List Entry)++w0):Int)+(List.length [(⟨w1,w2⟩:Entry)]:Int))) - y1.1))) (⟨[],0⟩:Entry)).drop (Int.toNat y1.1)).drop (min [(⟨w1,w2⟩:Entry)].length ((((([] :List Entry)++w0).drop 0).take (Int.toNat y1.1)++List.replicate (Int.toNat (IntKind.i64.wrap ((IntKind.i64.wrap ((List.length (([] :List Entry)++w0):Int)+(List.length [(⟨w1,w2⟩:Entry)]:Int))) - y1.1))) (⟨[],0⟩:Entry)).length - (Int.toNat y1.1))))).length - (Int.toNat (IntKind.i64.wrap (y1.1+(List.length [(⟨w1,w2⟩:Entry)]:Int))))))) (([] :List Entry)++w0).length) (
 ah (Nat.ble (Int.toNat (IntKind.i64.wrap (y1.1+(List.length [(⟨w1,w2⟩:Entry)]:Int)))) ((((([] :List Entry)++w0).drop 0).take (Int.toNat y1.1)++List.replicate (Int.toNat (IntKind.i64.wrap ((IntKind.i64.wrap ((List.length (([] :List Entry)++w0):Int)+(List.length [(⟨w1,w2⟩:Entry)]:Int))) - y1.1))) (⟨[],0⟩:Entry)).take (Int.toNat y1.1)++([(⟨w1,w2⟩:Entry)].take ((((([] :List Entry)++w0).drop 0).take (Int.toNat y1.1)++List.replicate (Int.toNat (IntKind.i64.wrap ((IntKind.i64.wrap ((List.length (([] :List Entry)++w0):Int)+(List.length [(⟨w1,w2⟩:Entry)]:Int))) - y1.1))) (⟨[],0⟩:Entry)).length - (Int.toNat y1.1))++((((([] :List Entry)++w0).drop 0).take (Int.toNat y1.1)++List.replicate (Int.toNat (IntKind.i64.wrap ((IntKind.i64.wrap ((List.length (([] :List Entry)++w0):Int)+(List.length [(⟨w1,w2⟩:Entry)]:Int))) - y1.1))) (⟨[],0⟩:Entry)).drop (Int.toNat y1.1)).drop (min [(⟨w1,w2⟩:Entry)].length ((((([] :List Entry)++w0).drop 0).take (Int.toNat y1.1)++List.replicate (Int.toNat (IntKind.i64.wrap ((IntKind.i64.wrap ((List.length (([] :List Entry)++w0):Int)+(List.length [(⟨w1,w2⟩:Entry)]:Int))) - y1.1))) (⟨[],0⟩:Entry)).length - (Int.toNat y1.1))))).length) (
 ah (Nat.ble ((Int.toNat (IntKind.i64.wrap (y1.1+(List.length [(⟨w1,w2⟩:Entry)]:Int))))+(min ((([] :List Entry)++w0).length - (Int.toNat y1.1)) (((((([] :List Entry)++w0).drop 0).take (Int.toNat y1.1)++List.replicate (Int.toNat (IntKind.i64.wrap ((IntKind.i64.wrap ((List.length (([] :List Entry)++w0):Int)+(List.length [(⟨w1,w2⟩:Entry)]:Int))) - y1.1))) (⟨[],0⟩:Entry)).take (Int.toNat y1.1)++([(⟨w1,w2⟩:Entry)].take ((((([] :List Entry)++w0).drop 0).take (Int.toNat y1.1)++List.replicate (Int.toNat (IntKind.i64.wrap ((IntKind.i64.wrap ((List.length (([] :List Entry)++w0):Int)+(List.length [(⟨w1,w2⟩:Entry)]:Int))) - y1.1))) (⟨[],0⟩:Entry)).length - (Int.toNat y1.1))++((((([] :List Entry)++w0).drop 0).take (Int.toNat y1.1)++List.replicate (Int.toNat (IntKind.i64.wrap ((IntKind.i64.wrap ((List.length (([] :List Entry)++w0):Int)+(List.length [(⟨w1,w2⟩:Entry)]:Int))) - y1.1))) (⟨[],0⟩:Entry)).drop (Int.toNat y1.1)).drop (min [(⟨w1,w2⟩:Entry)].length ((((([] :List Entry)++w0).drop 0).take (Int.toNat y1.1)++List.replicate (Int.toNat (IntKind.i64.wrap ((IntKind.i64.wrap ((List.length (([] :List Entry)++w0):Int)+(List.length [(⟨w1,w2⟩:Entry)]:Int))) - y1.1))) (⟨[],0⟩:Entry)).length - (Int.toNat y1.1))))).length - (Int.toNat (IntKind.i64.wrap (y1.1+(List.length [(⟨w1,w2⟩:Entry)]:Int))))))) ((((([] :List Entry)++w0).drop 0).take (Int.toNat y1.1)++List.replicate (Int.toNat (IntKind.i64.wrap ((IntKind.i64.wrap ((List.length (([] :List Entry)++w0):Int)+(List.length [(⟨w1,w2⟩:Entry)]:Int))) - y1.1))) (⟨[],0⟩:Entry)).take (Int.toNat y1.1)++([(⟨w1,w2⟩:Entry)].take ((((([] :List Entry)++w0).drop 0).take (Int.toNat y1.1)++List.replicate (Int.toNat (IntKind.i64.wrap ((IntKind.i64.wrap ((List.length (([] :List Entry)++w0):Int)+(List.length [(⟨w1,w2⟩:Entry)]:Int))) - y1.1))) (⟨[],0⟩:Entry)).length - (Int.toNat y1.1))++((((([] :List Entry)++w0).drop 0).take (Int.toNat y1.1)++List.replicate (Int.toNat (IntKind.i64.wrap ((IntKind.i64.wrap ((List.length (([] :List Entry)++w0):Int)+(List.length [(⟨w1,w2⟩:Entry)]:Int))) - y1.1))) (⟨[],0⟩:Entry)).drop (Int.toNat y1.1)).drop (min [(⟨w1,w2⟩:Entry)].length ((((([] :List Entry)++w0).drop 0).take (Int.toNat y1.1)++List.replicate (Int.toNat (IntKind.i64.wrap ((IntKind.i64.wrap ((List.length (([] :List Entry)++w0):Int)+(List.length [(⟨w1,w2⟩:Entry)]:Int))) - y1.1))) (⟨[],0⟩:Entry)).length - (Int.toNat y1.1))))).length) (some (((((([] :List Entry)++w0).drop 0).take (Int.toNat y1.1)++List.replicate (Int.toNat (IntKind.i64.wrap ((IntKind.i64.wrap ((List.length (([] :List Entry)++w0):Int)+(List.length [(⟨w1,w2⟩:Entry)]:Int))) - y1.1))) (⟨[],0⟩:Entry)).take (Int.toNat y1.1)++([(⟨w1,w2⟩:Entry)].take ((((([] :List Entry)++w0).drop 0).take (Int.toNat y1.1)++List.replicate (Int.toNat (IntKind.i64.wrap ((IntKind.i64.wrap ((List.length (([] :List Entry)++w0):Int)+(List.length [(⟨w1,w2⟩:Entry)]:Int))) - y1.1))) (⟨[],0⟩:Entry)).length - (Int.toNat y1.1))++((((([] :List Entry)++w0).drop 0).take (Int.toNat y1.1)++List.replicate (Int.toNat (IntKind.i64.wrap ((IntKind.i64.wrap ((List.length (([] :List Entry)++w0):Int)+(List.length [(⟨w1,w2⟩:Entry)]:Int))) - y1.1))) (⟨[],0⟩:Entry)).drop (Int.toNat y1.1)).drop (min [(⟨w1,w2⟩:Entry)].length ((((([] :List Entry)++w0).drop 0).take (Int.toNat y1.1)++List.replicate (Int.toNat (IntKind.i64.wrap ((IntKind.i64.wrap ((List.length (([] :List Entry)++w0):Int)+(List.length [(⟨w1,w2⟩:Entry)]:Int))) - y1.1))) (⟨[],0⟩:Entry)).length - (Int.toNat y1.1))))).take (Int.toNat (IntKind.i64.wrap (y1.1+(List.length [(⟨w1,w2⟩:Entry)]:Int))))++((((([] :List Entry)++w0).drop (Int.toNat y1.1)).take (min ((([] :List Entry)++w0).length - (Int.toNat y1.1)) (((((([] :List Entry)++w0).drop 0).take (Int.toNat y1.1)++List.replicate (Int.toNat (IntKind.i64.wrap ((IntKind.i64.wrap ((List.length (([] :List Entry)++w0):Int)+(List.length [(⟨w1,w2⟩:Entry)]:Int))) - y1.1))) (⟨[],0⟩:Entry)).take (Int.toNat y1.1)++([(⟨w1,w2⟩:Entry)].take ((((([] :List Entry)++w0).drop 0).take (Int.toNat y1.1)++List.replicate (Int.toNat (IntKind.i64.wrap ((IntKind.i64.wrap ((List.length (([] :List Entry)++w0):Int)+(List.length [(⟨w1,w2⟩:Entry)]:Int))) - y1.1))) (⟨[],0⟩:Entry)).length - (Int.toNat y1.1))++((((([] :List Entry)++w0).drop 0).take (Int.toNat y1.1)++List.replicate (Int.toNat (IntKind.i64.wrap ((IntKind.i64.wrap ((List.length (([] :List Entry)++w0):Int)+(List.length [(⟨w1,w2⟩:Entry)]:Int))) - y1.1))) (⟨[],0⟩:Entry)).drop (Int.toNat y1.1)).drop (min [(⟨w1,w2⟩:Entry)].length ((((([] :List Entry)++w0).drop 0).take (Int.toNat y1.1)++List.replicate (Int.toNat (IntKind.i64.wrap ((IntKind.i64.wrap ((List.length (([] :List Entry)++w0):Int)+(List.length [(⟨w1,w2⟩:Entry)]:Int))) - y1.1))) (⟨[],0⟩:Entry)).length - (Int.toNat y1.1))))).length - (Int.toNat (IntKind.i64.wrap (y1.1+(List.length [(⟨w1,w2⟩:Entry)]:Int)))))))++((((([] :List Entry)++w0).drop 0).take (Int.toNat y1.1)++List.replicate (Int.toNat (IntKind.i64.wrap ((IntKind.i64.wrap ((List.length (([] :List Entry)++w0):Int)+(List.length [(⟨w1,w2⟩:Entry)]:Int))) - y1.1))) (⟨[],0⟩:Entry)).take (Int.toNat y1.1)++([(⟨w1,w2⟩:Entry)].take ((((([] :List Entry)++w0).drop 0).take (Int.toNat y1.1)++List.replicate (Int.toNat (IntKind.i64.wrap ((IntKind.i64.wrap ((List.length (([] :List Entry)++w0):Int)+(List.length [(⟨w1,w2⟩:Entry)]:Int))) - y1.1))) (⟨[],0⟩:Entry)).length - (Int.toNat y1.1))++((((([] :List Entry)++w0).drop 0).take (Int.toNat y1.1)++List.replicate (Int.toNat (IntKind.i64.wrap ((IntKind.i64.wrap ((List.length (([] :List Entry)++w0):Int)+(List.length [(⟨w1,w2⟩:Entry)]:Int))) - y1.1))) (⟨[],0⟩:Entry)).drop (Int.toNat y1.1)).drop (min [(⟨w1,w2⟩:Entry)].length ((((([] :List Entry)++w0).drop 0).take (Int.toNat y1.1)++List.replicate (Int.toNat (IntKind.i64.wrap ((IntKind.i64.wrap ((List.length (([] :List Entry)++w0):Int)+(List.length [(⟨w1,w2⟩:Entry)]:Int))) - y1.1))) (⟨[],0⟩:Entry)).length - (Int.toNat y1.1))))).drop ((Int.toNat (IntKind.i64.wrap (y1.1+(List.length [(⟨w1,w2⟩:Entry)]:Int))))+(min ((([] :List Entry)++w0).length - (Int.toNat y1.1)) (((((([] :List Entry)++w0).drop 0).take (Int.toNat y1.1)++List.replicate (Int.toNat (IntKind.i64.wrap ((IntKind.i64.wrap ((List.length (([] :List Entry)++w0):Int)+(List.length [(⟨w1,w2⟩:Entry)]:Int))) - y1.1))) (⟨[],0⟩:Entry)).take (Int.toNat y1.1)++([(⟨w1,w2⟩:Entry)].take ((((([] :List Entry)++w0).drop 0).take (Int.toNat y1.1)++List.replicate (Int.toNat (IntKind.i64.wrap ((IntKind.i64.wrap ((List.length (([] :List Entry)++w0):Int)+(List.length [(⟨w1,w2⟩:Entry)]:Int))) - y1.1))) (⟨[],0⟩:Entry)).length - (Int.toNat y1.1))++((((([] :List Entry)++w0).drop 0).take (Int.toNat y1.1)++List.replicate (Int.toNat (IntKind.i64.wrap ((IntKind.i64.wrap ((List.length (([] :List Entry)++w0):Int)+(List.length [(⟨w1,w2⟩:Entry)]:Int))) - y1.1))) (⟨[],0⟩:Entry)).drop (Int.toNat y1.1)).drop (min [(⟨w1,w2⟩:Entry)].length ((((([] :List Entry)++w0).drop 0).take (Int.toNat y1.1)++List.replicate (Int.toNat (IntKind.i64.wrap ((IntKind.i64.wrap ((List.length (([] :List Entry)++w0):Int)+(List.length [(⟨w1,w2⟩:Entry)]:Int))) - y1.1))) (⟨[],0⟩:Entry)).length - (Int.toNat y1.1))))).length - (Int.toNat (IntKind.i64.wrap (y1.1+(List.length [(⟨w1,w2⟩:Entry)]:Int)))))))))) (none)) (none)) (none)) (none)) (none)) (none)) (none)) (none)) (none))) (none)) (none)) (
 ah (decide (0≤(IntKind.i64.wrap ((List.length (([] :List Entry)++w0):Int)+(List.length [(⟨w1,w2⟩:Entry)]:Int)))∧(IntKind.i64.wrap ((List.length (([] :List Entry)++w0):Int)+(List.length [(⟨w1,w2⟩:Entry)]:Int)))≤(cp4:Int))) (
 ah (decide (0≤(IntKind.i64.wrap (y1.1+(List.length [(⟨w1,w2⟩:Entry)]:Int)))∧(IntKind.i64.wrap (y1.1+(List.length [(⟨w1,w2⟩:Entry)]:Int)))≤((Int.toNat (IntKind.i64.wrap ((List.length (([] :List Entry)++w0):Int)+(List.length [(⟨w1,w2⟩:Entry)]:Int)))):Int))) (
 ah (Nat.blt 0 [(⟨w1,w2⟩:Entry)].length) (
 ah (Nat.blt 0 (([] :List Entry)++w0).length) (
 ah (decide (0≤(IntKind.i64.wrap (y1.1+(List.length [(⟨w1,w2⟩:Entry)]:Int)))∧(IntKind.i64.wrap (y1.1+(List.length [(⟨w1,w2⟩:Entry)]:Int)))≤((Int.toNat (IntKind.i64.wrap ((List.length (([] :List Entry)++w0):Int)+(List.length [(⟨w1,w2⟩:Entry)]:Int)))):Int))) (
 ah (decide (0≤y1.1∧y1.1≤((Int.toNat (IntKind.i64.wrap ((List.length (([] :List Entry)++w0):Int)+(List.length [(⟨w1,w2⟩:Entry)]:Int)))):Int))) (
 ah (Nat.ble ((0+(Int.toNat y1.1))+(min ((Int.toNat (IntKind.i64.wrap ((List.length (([] :List Entry)++w0):Int)+(List.length [(⟨w1,w2⟩:Entry)]:Int)))) - (Int.toNat y1.1)) ((Int.toNat (IntKind.i64.wrap ((List.length (([] :List Entry)++w0):Int)+(List.length [(⟨w1,w2⟩:Entry)]:Int)))) - (Int.toNat (IntKind.i64.wrap (y1.1+(List.length [(⟨w1,w2⟩:Entry)]:Int))))))) (([] :List Entry)++w0).length) (
 ah (Nat.ble (0+(Int.toNat (IntKind.i64.wrap (y1.1+(List.length [(⟨w1,w2⟩:Entry)]:Int))))) (([] :List Entry)++w0).length) (
 ah (Nat.ble ((0+(Int.toNat (IntKind.i64.wrap (y1.1+(List.length [(⟨w1,w2⟩:Entry)]:Int)))))+(min ((Int.toNat (IntKind.i64.wrap ((List.length (([] :List Entry)++w0):Int)+(List.length [(⟨w1,w2⟩:Entry)]:Int)))) - (Int.toNat y1.1)) ((Int.toNat (IntKind.i64.wrap ((List.length (([] :List Entry)++w0):Int)+(List.length [(⟨w1,w2⟩:Entry)]:Int)))) - (Int.toNat (IntKind.i64.wrap (y1.1+(List.length [(⟨w1,w2⟩:Entry)]:Int))))))) (([] :List Entry)++w0).length) (
 ah (decide (0≤y1.1∧y1.1≤((Int.toNat (IntKind.i64.wrap ((List.length (([] :List Entry)++w0):Int)+(List.length [(⟨w1,w2⟩:Entry)]:Int)))):Int))) (
 ah (Nat.ble ((0+(Int.toNat y1.1))+((Int.toNat (IntKind.i64.wrap ((List.length (([] :List Entry)++w0):Int)+(List.length [(⟨w1,w2⟩:Entry)]:Int)))) - (Int.toNat y1.1))) ((([] :List Entry)++w0).take (0+(Int.toNat (IntKind.i64.wrap (y1.1+(List.length [(⟨w1,w2⟩:Entry)]:Int)))))++((((([] :List Entry)++w0).drop (0+(Int.toNat y1.1))).take (min ((Int.toNat (IntKind.i64.wrap ((List.length (([] :List Entry)++w0):Int)+(List.length [(⟨w1,w2⟩:Entry)]:Int)))) - (Int.toNat y1.1)) ((Int.toNat (IntKind.i64.wrap ((List.length (([] :List Entry)++w0):Int)+(List.length [(⟨w1,w2⟩:Entry)]:Int)))) - (Int.toNat (IntKind.i64.wrap (y1.1+(List.length [(⟨w1,w2⟩:Entry)]:Int)))))))++(([] :List Entry)++w0).drop ((0+(Int.toNat (IntKind.i64.wrap (y1.1+(List.length [(⟨w1,w2⟩:Entry)]:Int)))))+(min ((Int.toNat (IntKind.i64.wrap ((List.length (([] :List Entry)++w0):Int)+(List.length [(⟨w1,w2⟩:Entry)]:Int)))) - (Int.toNat y1.1)) ((Int.toNat (IntKind.i64.wrap ((List.length (([] :List Entry)++w0):Int)+(List.length [(⟨w1,w2⟩:Entry)]:Int)))) - (Int.toNat (IntKind.i64.wrap (y1.1+(List.length [(⟨w1,w2⟩:Entry)]:Int))))))))).length) (
 ah (Nat.ble (0+(Int.toNat (IntKind.i64.wrap ((List.length (([] :List Entry)++w0):Int)+(List.length [(⟨w1,w2⟩:Entry)]:Int))))) (((([] :List Entry)++w0).take (0+(Int.toNat (IntKind.i64.wrap (y1.1+(List.length [(⟨w1,w2⟩:Entry)]:Int)))))++((((([] :List Entry)++w0).drop (0+(Int.toNat y1.1))).take (min ((Int.toNat (IntKind.i64.wrap ((List.length (([] :List Entry)++w0):Int)+(List.length [(⟨w1,w2⟩:Entry)]:Int)))) - (Int.toNat y1.1)) ((Int.toNat (IntKind.i64.wrap ((List.length (([] :List Entry)++w0):Int)+(List.length [(⟨w1,w2⟩:Entry)]:Int)))) - (Int.toNat (IntKind.i64.wrap (y1.1+(List.length [(⟨w1,w2⟩:Entry)]:Int)))))))++(([] :List Entry)++w0).drop ((0+(Int.toNat (IntKind.i64.wrap (y1.1+(List.length [(⟨w1,w2⟩:Entry)]:Int)))))+(min ((Int.toNat (IntKind.i64.wrap ((List.length (([] :List Entry)++w0):Int)+(List.length [(⟨w1,w2⟩:Entry)]:Int)))) - (Int.toNat y1.1)) ((Int.toNat (IntKind.i64.wrap ((List.length (([] :List Entry)++w0):Int)+(List.length [(⟨w1,w2⟩:Entry)]:Int)))) - (Int.toNat (IntKind.i64.wrap (y1.1+(List.length [(⟨w1,w2⟩:Entry)]:Int))))))))).take (0+(Int.toNat y1.1))++([(⟨w1,w2⟩:Entry)].take ((Int.toNat (IntKind.i64.wrap ((List.length (([] :List Entry)++w0):Int)+(List.length [(⟨w1,w2⟩:Entry)]:Int)))) - (Int.toNat y1.1))++(((([] :List Entry)++w0).take (0+(Int.toNat (IntKind.i64.wrap (y1.1+(List.length [(⟨w1,w2⟩:Entry)]:Int)))))++((((([] :List Entry)++w0).drop (0+(Int.toNat y1.1))).take (min ((Int.toNat (IntKind.i64.wrap ((List.length (([] :List Entry)++w0):Int)+(List.length [(⟨w1,w2⟩:Entry)]:Int)))) - (Int.toNat y1.1)) ((Int.toNat (IntKind.i64.wrap ((List.length (([] :List Entry)++w0):Int)+(List.length [(⟨w1,w2⟩:Entry)]:Int)))) - (Int.toNat (IntKind.i64.wrap (y1.1+(List.length [(⟨w1,w2⟩:Entry)]:Int)))))))++(([] :List Entry)++w0).drop ((0+(Int.toNat (IntKind.i64.wrap (y1.1+(List.length [(⟨w1,w2⟩:Entry)]:Int)))))+(min ((Int.toNat (IntKind.i64.wrap ((List.length (([] :List Entry)++w0):Int)+(List.length [(⟨w1,w2⟩:Entry)]:Int)))) - (Int.toNat y1.1)) ((Int.toNat (IntKind.i64.wrap ((List.length (([] :List Entry)++w0):Int)+(List.length [(⟨w1,w2⟩:Entry)]:Int)))) - (Int.toNat (IntKind.i64.wrap (y1.1+(List.length [(⟨w1,w2⟩:Entry)]:Int))))))))).drop (0+(Int.toNat y1.1))).drop (min [(⟨w1,w2⟩:Entry)].length ((Int.toNat (IntKind.i64.wrap ((List.length (([] :List Entry)++w0):Int)+(List.length [(⟨w1,w2⟩:Entry)]:Int)))) - (Int.toNat y1.1))))).length) (some (((((([] :List Entry)++w0).take (0+(Int.toNat (IntKind.i64.wrap (y1.1+(List.length [(⟨w1,w2⟩:Entry)]:Int)))))++((((([] :List Entry)++w0).drop (0+(Int.toNat y1.1))).take (min ((Int.toNat (IntKind.i64.wrap ((List.length (([] :List Entry)++w0):Int)+(List.length [(⟨w1,w2⟩:Entry)]:Int)))) - (Int.toNat y1.1)) ((Int.toNat (IntKind.i64.wrap ((List.length (([] :List Entry)++w0):Int)+(List.length [(⟨w1,w2⟩:Entry)]:Int)))) - (Int.toNat (IntKind.i64.wrap (y1.1+(List.length [(⟨w1,w2⟩:Entry)]:Int)))))))++(([] :List Entry)++w0).drop ((0+(Int.toNat (IntKind.i64.wrap (y1.1+(List.length [(⟨w1,w2⟩:Entry)]:Int)))))+(min ((Int.toNat (IntKind.i64.wrap ((List.length (([] :List Entry)++w0):Int)+(List.length [(⟨w1,w2⟩:Entry)]:Int)))) - (Int.toNat y1.1)) ((Int.toNat (IntKind.i64.wrap ((List.length (([] :List Entry)++w0):Int)+(List.length [(⟨w1,w2⟩:Entry)]:Int)))) - (Int.toNat (IntKind.i64.wrap (y1.1+(List.length [(⟨w1,w2⟩:Entry)]:Int))))))))).take (0+(Int.toNat y1.1))++([(⟨w1,w2⟩:Entry)].take ((Int.toNat (IntKind.i64.wrap ((List.length (([] :List Entry)++w0):Int)+(List.length [(⟨w1,w2⟩:Entry)]:Int)))) - (Int.toNat y1.1))++(((([] :List Entry)++w0).take (0+(Int.toNat (IntKind.i64.wrap (y1.1+(List.length [(⟨w1,w2⟩:Entry)]:Int)))))++((((([] :List Entry)++w0).drop (0+(Int.toNat y1.1))).take (min ((Int.toNat (IntKind.i64.wrap ((List.length (([] :List Entry)++w0):Int)+(List.length [(⟨w1,w2⟩:Entry)]:Int)))) - (Int.toNat y1.1)) ((Int.toNat (IntKind.i64.wrap ((List.length (([] :List Entry)++w0):Int)+(List.length [(⟨w1,w2⟩:Entry)]:Int)))) - (Int.toNat (IntKind.i64.wrap (y1.1+(List.length [(⟨w1,w2⟩:Entry)]:Int)))))))++(([] :List Entry)++w0).drop ((0+(Int.toNat (IntKind.i64.wrap (y1.1+(List.length [(⟨w1,w2⟩:Entry)]:Int)))))+(min ((Int.toNat (IntKind.i64.wrap ((List.length (([] :List Entry)++w0):Int)+(List.length [(⟨w1,w2⟩:Entry)]:Int)))) - (Int.toNat y1.1)) ((Int.toNat (IntKind.i64.wrap ((List.length (([] :List Entry)++w0):Int)+(List.length [(⟨w1,w2⟩:Entry)]:Int)))) - (Int.toNat (IntKind.i64.wrap (y1.1+(List.length [(⟨w1,w2⟩:Entry)]:Int))))))))).drop (0+(Int.toNat y1.1))).drop (min [(⟨w1,w2⟩:Entry)].length ((Int.toNat (IntKind.i64.wrap ((List.length (([] :List Entry)++w0):Int)+(List.length [(⟨w1,w2⟩:Entry)]:Int)))) - (Int.toNat y1.1))))).drop 0).take (Int.toNat (IntKind.i64.wrap ((List.length (([] :List Entry)++w0):Int)+(List.length [(⟨w1,w2⟩:Entry)]:Int)))))) (none)) (none)) (none)) (
 ah (decide (0≤y1.1∧y1.1≤((Int.toNat (IntKind.i64.wrap ((List.length (([] :List Entry)++w0):Int)+(List.length [(⟨w1,w2⟩:Entry)]:Int)))):Int))) (
 ah (Nat.ble ((0+(Int.toNat y1.1))+((Int.toNat (IntKind.i64.wrap ((List.length (([] :List Entry)++w0):Int)+(List.length [(⟨w1,w2⟩:Entry)]:Int)))) - (Int.toNat y1.1))) ((([] :List Entry)++w0).take (0+(Int.toNat (IntKind.i64.wrap (y1.1+(List.length [(⟨w1,w2⟩:Entry)]:Int)))))++(((([] :List Entry)++w0).drop (0+(Int.toNat y1.1))).take (min ((Int.toNat (IntKind.i64.wrap ((List.length (([] :List Entry)++w0):Int)+(List.length [(⟨w1,w2⟩:Entry)]:Int)))) - (Int.toNat y1.1)) ((Int.toNat (IntKind.i64.wrap ((List.length (([] :List Entry)++w0):Int)+(List.length [(⟨w1,w2⟩:Entry)]:Int)))) - (Int.toNat (IntKind.i64.wrap (y1.1+(List.length [(⟨w1,w2⟩:Entry)]:Int)))))))).length) (
 ah (Nat.ble (0+(Int.toNat (IntKind.i64.wrap ((List.length (([] :List Entry)++w0):Int)+(List.length [(⟨w1,w2⟩:Entry)]:Int))))) (((([] :List Entry)++w0).take (0+(Int.toNat (IntKind.i64.wrap (y1.1+(List.length [(⟨w1,w2⟩:Entry)]:Int)))))++(((([] :List Entry)++w0).drop (0+(Int.toNat y1.1))).take (min ((Int.toNat (IntKind.i64.wrap ((List.length (([] :List Entry)++w0):Int)+(List.length [(⟨w1,w2⟩:Entry)]:Int)))) - (Int.toNat y1.1)) ((Int.toNat (IntKind.i64.wrap ((List.length (([] :List Entry)++w0):Int)+(List.length [(⟨w1,w2⟩:Entry)]:Int)))) - (Int.toNat (IntKind.i64.wrap (y1.1+(List.length [(⟨w1,w2⟩:Entry)]:Int)))))))).take (0+(Int.toNat y1.1))++([(⟨w1,w2⟩:Entry)].take ((Int.toNat (IntKind.i64.wrap ((List.length (([] :List Entry)++w0):Int)+(List.length [(⟨w1,w2⟩:Entry)]:Int)))) - (Int.toNat y1.1))++(((([] :List Entry)++w0).take (0+(Int.toNat (IntKind.i64.wrap (y1.1+(List.length [(⟨w1,w2⟩:Entry)]:Int)))))++(((([] :List Entry)++w0).drop (0+(Int.toNat y1.1))).take (min ((Int.toNat (IntKind.i64.wrap ((List.length (([] :List Entry)++w0):Int)+(List.length [(⟨w1,w2⟩:Entry)]:Int)))) - (Int.toNat y1.1)) ((Int.toNat (IntKind.i64.wrap ((List.length (([] :List Entry)++w0):Int)+(List.length [(⟨w1,w2⟩:Entry)]:Int)))) - (Int.toNat (IntKind.i64.wrap (y1.1+(List.length [(⟨w1,w2⟩:Entry)]:Int)))))))).drop (0+(Int.toNat y1.1))).drop (min [(⟨w1,w2⟩:Entry)].length ((Int.toNat (IntKind.i64.wrap ((List.length (([] :List Entry)++w0):Int)+(List.length [(⟨w1,w2⟩:Entry)]:Int)))) - (Int.toNat y1.1))))).length) (some (((((([] :List Entry)++w0).take (0+(Int.toNat (IntKind.i64.wrap (y1.1+(List.length [(⟨w1,w2⟩:Entry)]:Int)))))++(((([] :List Entry)++w0).drop (0+(Int.toNat y1.1))).take (min ((Int.toNat (IntKind.i64.wrap ((List.length (([] :List Entry)++w0):Int)+(List.length [(⟨w1,w2⟩:Entry)]:Int)))) - (Int.toNat y1.1)) ((Int.toNat (IntKind.i64.wrap ((List.length (([] :List Entry)++w0):Int)+(List.length [(⟨w1,w2⟩:Entry)]:Int)))) - (Int.toNat (IntKind.i64.wrap (y1.1+(List.length [(⟨w1,w2⟩:Entry)]:Int)))))))).take (0+(Int.toNat y1.1))++([(⟨w1,w2⟩:Entry)].take ((Int.toNat (IntKind.i64.wrap ((List.length (([] :List Entry)++w0):Int)+(List.length [(⟨w1,w2⟩:Entry)]:Int)))) - (Int.toNat y1.1))++(((([] :List Entry)++w0).take (0+(Int.toNat (IntKind.i64.wrap (y1.1+(List.length [(⟨w1,w2⟩:Entry)]:Int)))))++(((([] :List Entry)++w0).drop (0+(Int.toNat y1.1))).take (min ((Int.toNat (IntKind.i64.wrap ((List.length (([] :List Entry)++w0):Int)+(List.length [(⟨w1,w2⟩:Entry)]:Int)))) - (Int.toNat y1.1)) ((Int.toNat (IntKind.i64.wrap ((List.length (([] :List Entry)++w0):Int)+(List.length [(⟨w1,w2⟩:Entry)]:Int)))) - (Int.toNat (IntKind.i64.wrap (y1.1+(List.length [(⟨w1,w2⟩:Entry)]:Int)))))))).drop (0+(Int.toNat y1.1))).drop (min [(⟨w1,w2⟩:Entry)].length ((Int.toNat (IntKind.i64.wrap ((List.length (([] :List Entry)++w0):Int)+(List.length [(⟨w1,w2⟩:Entry)]:Int)))) - (Int.toNat y1.1))))).drop 0).take (Int.toNat (IntKind.i64.wrap ((List.length (([] :List Entry)++w0):Int)+(List.length [(⟨w1,w2⟩:Entry)]:Int)))))) (none)) (none)) (none))) (none)) (none)) (none)) (none)) (none)) (none)) (none)) (none))))) (none))))
end Go.Eng
set_option linter.unusedVariables false
set_option maxRecDepth 100000
namespace Go.Eng
open Go
noncomputable def cM {R:Type} (x1:List ae) (x2:Int) (k0:Int→Option R):Nat→Int→Int→Option R
 |0,_,_=>none
 |n+1,x4,x5=>
  ah (decide (x4<x5)) (
  ah (decide ((1:Int)<0)) (none) (
  ah (decide (0≤(IntKind.i64.wrap (Int.fdiv (IntKind.u64.wrap (IntKind.i64.wrap (x4+x5))) (2^(min (Int.toNat (1:Int)) (IntKind.bits .u64))))))) (aj x1[Int.toNat (IntKind.i64.wrap (Int.fdiv (IntKind.u64.wrap (IntKind.i64.wrap (x4+x5))) (2^(min (Int.toNat (1:Int)) (IntKind.bits .u64)))))]? fun e6=>
  ah (e6.ino !=e6.ino) (
  ah (x2 !=x2) ((cM x1 x2 k0 n x4 (IntKind.i64.wrap (Int.fdiv (IntKind.u64.wrap (IntKind.i64.wrap (x4+x5))) (2^(min (Int.toNat (1:Int)) (IntKind.bits .u64))))))) ((cM x1 x2 k0 n (IntKind.i64.wrap ((IntKind.i64.wrap (Int.fdiv (IntKind.u64.wrap (IntKind.i64.wrap (x4+x5))) (2^(min (Int.toNat (1:Int)) (IntKind.bits .u64)))))+(1:Int))) x5))) (
  ah (x2 !=x2) ((cM x1 x2 k0 n x4 (IntKind.i64.wrap (Int.fdiv (IntKind.u64.wrap (IntKind.i64.wrap (x4+x5))) (2^(min (Int.toNat (1:Int)) (IntKind.bits .u64))))))) (
  ah (decide (e6.ino<x2)) ((cM x1 x2 k0 n (IntKind.i64.wrap ((IntKind.i64.wrap (Int.fdiv (IntKind.u64.wrap (IntKind.i64.wrap (x4+x5))) (2^(min (Int.toNat (1:Int)) (IntKind.bits .u64)))))+(1:Int))) x5)) (
  ah (decide (e6.ino>x2)) ((cM x1 x2 k0 n x4 (IntKind.i64.wrap (Int.fdiv (IntKind.u64.wrap (IntKind.i64.wrap (x4+x5))) (2^(min (Int.toNat (1:Int)) (IntKind.bits .u64))))))) ((cM x1 x2 k0 n x4 (IntKind.i64.wrap (Int.fdiv (IntKind.u64.wrap (IntKind.i64.wrap (x4+x5))) (2^(min (Int.toNat (1:Int)) (IntKind.bits .u64))))))))))) (none))) ((k0 x4))
noncomputable def mM (w0:Fs) (w1:Int):Option (Int×Bool):=
 cM w0.aa w1 (fun z11=>
 ah (decide (z11<(List.length w0.aa:Int))) (
 ah (decide (0≤z11)) (aj w0.aa[Int.toNat z11]? fun e12=>
 ah (e12.ino !=e12.ino) (
 ah (w1 !=w1) (some (z11,true)) (some (z11,false))) (
 ah (w1 !=w1) (some (z11,false)) (
 ah (decide (e12.ino<w1)) (some (z11,false)) (
 ah (decide (e12.ino>w1)) (some (z11,false)) (some (z11,true)))))) (none)) (some (z11,false))) bg (0:Int) (List.length w0.aa:Int)
noncomputable def c_ (w0:Fs) (w1:Int):Option (ae×Bool):=
 aj (mM w0 w1) fun y1=>
 ah (!y1.2) (some ((⟨0,0,0, [],0,([] :List Entry)⟩:ae),false)) (
 ah (decide (0≤y1.1)) (aj w0.aa[Int.toNat y1.1]? fun e2=>some (e2,true)) (none))
noncomputable def bh (w0:Fs) (w1:ae):Option (Fs):=
 aj (mM w0 w1.ino) fun y1=>za w0.aa (
 ah y1.2 (
 ah (decide (0≤y1.1)) (aj ([] :List ae)[Int.toNat y1.1]? fun e2=>none) (none)) (
 ah (decide (0≤y1.1∧y1.1≤(([] :List ae).length:Int))) (
 ah ((List.length [w1]:Int)==(0:Int)) (some (⟨w0.ar,w0.aw,w0.next,([] :List ae)⟩:Fs)) (
 ah (y1.1==(List.length ([] :List ae):Int)) (aQ (([] :List ae).length+[w1].length) (some (⟨w0.ar,w0.aw,w0.next,[w1]⟩:Fs))) (none))) (none))) (aQ (([] :List ae).length+w0.aa.length) (
 ah y1.2 (
 ah (decide (0≤y1.1∧y1.1<((([] :List ae)++w0.aa).length:Int))) (aj (([] :List ae)++w0.aa)[(Int.toNat y1.1)]? fun e3=>some (⟨w0.ar,w0.aw,w0.next,((([] :List ae)++w0.aa).set (Int.toNat y1.1) w1)⟩:Fs)) (none)) (
 ah (decide (0≤y1.1∧y1.1≤((([] :List ae)++w0.aa).length:Int))) (
 ah ((List.length [w1]:Int)==(0:Int)) (some (⟨w0.ar,w0.aw,w0.next,(([] :List ae)++w0.aa)⟩:Fs)) (
 ah (y1.1==(List.length (([] :List ae)++w0.aa):Int)) (aQ ((([] :List ae)++w0.aa).length+[w1].length) (some (⟨w0.ar,w0.aw,w0.next,((([] :List ae)++w0.aa)++[w1])⟩:Fs))) (yH (([] :List ae)++w0.aa).length fun cp4=>
 ah (decide ((IntKind.i64.wrap ((List.length (([] :List ae)++w0.aa):Int)+(List.length [w1]:Int)))>(cp4:Int))) (
 ah (decide (0≤y1.1∧y1.1≤(cp4:Int))) (
 ah (decide (0≤(IntKind.i64.wrap ((IntKind.i64.wrap ((List.length (([] :List ae)++w0.aa):Int)+(List.length [w1]:Int))) - y1.1)))) (aQ ((Int.toNat y1.1)+Int.toNat (IntKind.i64.wrap ((IntKind.i64.wrap ((List.length (([] :List ae)++w0.aa):Int)+(List.length [w1]:Int))) - y1.1))) (
 ah (Nat.ble (0+(Int.toNat y1.1)) (([] :List ae)++w0.aa).length) (
 ah (Nat.blt (cp4 - 0) ((Int.toNat y1.1)+Int.toNat (IntKind.i64.wrap ((IntKind.i64.wrap ((List.length (([] :List ae)++w0.aa):Int)+(List.length [w1]:Int))) - y1.1)))) (
 ah (decide (0≤y1.1∧y1.1≤((((([] :List ae)++w0.aa).drop 0).take (Int.toNat y1.1)++List.replicate (Int.toNat (IntKind.i64.wrap ((IntKind.i64.wrap ((List.length (([] :List ae)++w0.aa):Int)+(List.length [w1]:Int))) - y1.1))) (⟨0,0,0, [],0,([] :List Entry)⟩:ae)).length:Int))) (
 ah (Nat.ble ((Int.toNat y1.1)+((((([] :List ae)++w0.aa).drop 0).take (Int.toNat y1.1)++List.replicate (Int.toNat (IntKind.i64.wrap ((IntKind.i64.wrap ((List.length (([] :List ae)++w0.aa):Int)+(List.length [w1]:Int))) - y1.1))) (⟨0,0,0, [],0,([] :List Entry)⟩:ae)).length - (Int.toNat y1.1))) (((([] :List ae)++w0.aa).drop 0).take (Int.toNat y1.1)++List.replicate (Int.toNat (IntKind.i64.wrap ((IntKind.i64.wrap ((List.length (([] :List ae)++w0.aa):Int)+(List.length [w1]:Int))) - y1.1))) (⟨0,0,0, [],0,([] :List Entry)⟩:ae)).length) (
 ah (decide (0≤(IntKind.i64.wrap (y1.1+(List.length [w1]:Int)))∧(IntKind.i64.wrap (y1.1+(List.length [w1]:Int)))≤(((((([] :List ae)++w0.aa).drop 0).take (Int.toNat y1.1)++List.replicate (Int.toNat (IntKind.i64.wrap ((IntKind.i64.wrap ((List.length (([] :List ae)++w0.aa):Int)+(List.length [w1]:Int))) - y1.1))) (⟨0,0,0, [],0,([] :List Entry)⟩:ae)).take (Int.toNat y1.1)++([w1].take ((((([] :List ae)++w0.aa).drop 0).take (Int.toNat y1.1)++List.replicate (Int.toNat (IntKind.i64.wrap ((IntKind.i64.wrap ((List.length (([] :List ae)++w0.aa):Int)+(List.length [w1]:Int))) - y1.1))) (⟨0,0,0, [],0,([] :List Entry)⟩:ae)).length - (Int.toNat y1.1))++((((([] :List ae)++w0.aa).drop 0).take (Int.toNat y1.1)++List.replicate (Int.toNat (IntKind.i64.wrap ((IntKind.i64.wrap ((List.length (([] :List ae)++w0.aa):Int)+(List.length [w1]:Int))) - y1.1))) (⟨0,0,0, [],0,([] :List Entry)⟩:ae)).drop (Int.toNat y1.1)).drop (min [w1].length ((((([] :List ae)++w0.aa).drop 0).take (Int.toNat y1.1)++List.replicate (Int.toNat (IntKind.i64.wrap ((IntKind.i64.wrap ((List.length (([] :List ae)++w0.aa):Int)+(List.length [w1]:Int))) - y1.1))) (⟨0,0,0, [],0,([] :List Entry)⟩:ae)).length - (Int.toNat y1.1))))).length:Int))) (
 ah (decide (0≤y1.1∧y1.1≤((([] :List ae)++w0.aa).length:Int))) (
 ah (Nat.ble ((Int.toNat y1.1)+(min ((([] :List ae)++w0.aa).length - (Int.toNat y1.1)) (((((([] :List ae)++w0.aa).drop 0).take (Int.toNat y1.1)++List.replicate (Int.toNat (IntKind.i64.wrap ((IntKind.i64.wrap ((List.length (([] :List ae)++w0.aa):Int)+(List.length [w1]:Int))) - y1.1))) (⟨0,0,0, [],0,([] :List Entry)⟩:ae)).take (Int.toNat y1.1)++([w1].take ((((([] :List ae)++w0.aa).drop 0).take (Int.toNat y1.1)++List.replicate (Int.toNat (IntKind.i64.wrap ((IntKind.i64.wrap ((List.length (([] :List ae)++w0.aa):Int)+(List.length [w1]:Int))) - y1.1))) (⟨0,0,0, [],0,([] :List Entry)⟩:ae)).length - (Int.toNat y1.1))++((((([] :List ae)++w0.aa).drop 0).take (Int.toNat y1.1)++List.replicate (Int.toNat (IntKind.i64.wrap ((IntKind.i64.wrap ((List.length (([] :List ae)++w0.aa):Int)+(List.length [w1]:Int))) - y1.1))) (⟨0,0,0, [],0,([] :List Entry)⟩:ae)).drop (Int.toNat y1.1)).drop (min [w1].length ((((([] :List ae)++w0.aa).drop 0).take (Int.toNat y1.1)++List.replicate (Int.toNat (IntKind.i64.wrap ((IntKind.i64.wrap ((List.length (([] :List ae)++w0.aa):Int)+(List.length [w1]:Int))) - y1.1))) (⟨0,0,0, [],0,([] :List Entry)⟩:ae)).length - (Int.toNat y1.1))))).length - (Int.toNat (IntKind.i64.wrap (y1.1+(List.length [w1]:Int))))))) (([] :List ae)++w0.aa).length) (
 ah (Nat.ble (Int.toNat (IntKind.i64.wrap (y1.1+(List.length [w1]:Int)))) ((((([] :List ae)++w0.aa).drop 0).take (Int.toNat y1.1)++List.replicate (Int.toNat (IntKind.i64.wrap ((IntKind.i64.wrap ((List.length (([] :List ae)++w0.aa):Int)+(List.length [w1]:Int))) - y1.1))) (⟨0,0,0, [],0,([] :List Entry)⟩:ae)).take (Int.toNat y1.1)++([w1].take ((((([] :List ae)++w0.aa).drop 0).take (Int.toNat y1.1)++List.replicate (Int.toNat (IntKind.i64.wrap ((IntKind.i64.wrap ((List.length (([] :List ae)++w0.aa):Int)+(List.length [w1]:Int))) - y1.1))) (⟨0,0,0, [],0,([] :List Entry)⟩:ae)).length - (Int.toNat y1.1))++((((([] :List ae)++w0.aa).drop 0).take (Int.toNat y1.1)++List.replicate (Int.toNat (IntKind.i64.wrap ((IntKind.i64.wrap ((List.length (([] :List ae)++w0.aa):Int)+(List.length [w1]:Int))) - y1.1))) (⟨0,0,0, [],0,([] :List Entry)⟩:ae)).drop (Int.toNat y1.1)).drop (min [w1].length ((((([] :List ae)++w0.aa).drop 0).take (Int.toNat y1.1)++List.replicate (Int.toNat (IntKind.i64.wrap ((IntKind.i64.wrap ((List.length (([] :List ae)++w0.aa):Int)+(List.length [w1]:Int))) - y1.1))) (⟨0,0,0, [],0,([] :List Entry)⟩:ae)).length - (Int.toNat y1.1))))).length) (
 ah (Nat.ble ((Int.toNat (IntKind.i64.wrap (y1.1+(List.length [w1]:Int))))+(min ((([] :List ae)++w0.aa).length - (Int.toNat y1.1)) (((((([] :List ae)++w0.aa).drop 0).take (Int.toNat y1.1)++List.replicate (Int.toNat (IntKind.i64.wrap ((IntKind.i64.wrap ((List.length (([] :List ae)++w0.aa):Int)+(List.length [w1]:Int))) - y1.1))) (⟨0,0,0, [],0,([] :List Entry)⟩:ae)).take (Int.toNat y1.1)++([w1].take ((((([] :List ae)++w0.aa).drop 0).take (Int.toNat y1.1)++List.replicate (Int.toNat (IntKind.i64.wrap ((IntKind.i64.wrap ((List.length (([] :List ae)++w0.aa):Int)+(List.length [w1]:Int))) - y1.1))) (⟨0,0,0, [],0,([] :List Entry)⟩:ae)).length - (Int.toNat y1.1))++((((([] :List ae)++w0.aa).drop 0).take (Int.toNat y1.1)++List.replicate (Int.toNat (IntKind.i64.wrap ((IntKind.i64.wrap ((List.length (([] :List ae)++w0.aa):Int)+(List.length [w1]:Int))) - y1.1))) (⟨0,0,0, [],0,([] :List Entry)⟩:ae)).drop (Int.toNat y1.1)).drop (min [w1].length ((((([] :List ae)++w0.aa).drop 0).take (Int.toNat y1.1)++List.replicate (Int.toNat (IntKind.i64.wrap ((IntKind.i64.wrap ((List.length (([] :List ae)++w0.aa):Int)+(List.length [w1]:Int))) - y1.1))) (⟨0,0,0, [],0,([] :List Entry)⟩:ae)).length - (Int.toNat y1.1))))).length - (Int.toNat (IntKind.i64.wrap (y1.1+(List.length [w1]:Int))))))) ((((([] :List ae)++w0.aa).drop 0).take (Int.toNat y1.1)++List.replicate (Int.toNat (IntKind.i64.wrap ((IntKind.i64.wrap ((List.length (([] :List ae)++w0.aa):Int)+(List.length [w1]:Int))) - y1.1))) (⟨0,0,0, [],0,([] :List Entry)⟩:ae)).take (Int.toNat y1.1)++([w1].take ((((([] :List ae)++w0.aa).drop 0).take (Int.toNat y1.1)++List.replicate (Int.toNat (IntKind.i64.wrap ((IntKind.i64.wrap ((List.length (([] :List ae)++w0.aa):Int)+(List.length [w1]:Int))) - y1.1))) (⟨0,0,0, [],0,([] :List Entry)⟩:ae)).length - (Int.toNat y1.1))++((((([] :List ae)++w0.aa).drop 0).take (Int.toNat y1.1)++List.replicate (Int.toNat (IntKind.i64.wrap ((IntKind.i64.wrap ((List.length (([] :List ae)++w0.aa):Int)+(List.length [w1]:Int))) - y1.1))) (⟨0,0,0, [],0,([] :List Entry)⟩:ae)).drop (Int.toNat y1.1)).drop (min [w1].length ((((([] :List ae)++w0.aa).drop 0).take (Int.toNat y1.1)++List.replicate (Int.toNat (IntKind.i64.wrap ((IntKind.i64.wrap ((List.length (([] :List ae)++w0.aa):Int)+(List.length [w1]:Int))) - y1.1))) (⟨0,0,0, [],0,([] :List Entry)⟩:ae)).length - (Int.toNat y1.1))))).length) (some (⟨w0.ar,w0.aw,w0.next,(((((([] :List ae)++w0.aa).drop 0).take (Int.toNat y1.1)++List.replicate (Int.toNat (IntKind.i64.wrap ((IntKind.i64.wrap ((List.length (([] :List ae)++w0.aa):Int)+(List.length [w1]:Int))) - y1.1))) (⟨0,0,0, [],0,([] :List Entry)⟩:ae)).take (Int.toNat y1.1)++([w1].take ((((([] :List ae)++w0.aa).drop 0).take (Int.toNat y1.1)++List.replicate (Int.toNat (IntKind.i64.wrap ((IntKind.i64.wrap ((List.length (([] :List ae)++w0.aa):Int)+(List.length [w1]:Int))) - y1.1))) (⟨0,0,0, [],0,([] :List Entry)⟩:ae)).length - (Int.toNat y1.1))++((((([] :List ae)++w0.aa).drop 0).take (Int.toNat y1.1)++List.replicate (Int.toNat (IntKind.i64.wrap ((IntKind.i64.wrap ((List.length (([] :List ae)++w0.aa):Int)+(List.length [w1]:Int))) - y1.1))) (⟨0,0,0, [],0,([] :List Entry)⟩:ae)).drop (Int.toNat y1.1)).drop (min [w1].length ((((([] :List ae)++w0.aa).drop 0).take (Int.toNat y1.1)++List.replicate (Int.toNat (IntKind.i64.wrap ((IntKind.i64.wrap ((List.length (([] :List ae)++w0.aa):Int)+(List.length [w1]:Int))) - y1.1))) (⟨0,0,0, [],0,([] :List Entry)⟩:ae)).length - (Int.toNat y1.1))))).take (Int.toNat (IntKind.i64.wrap (y1.1+(List.length [w1]:Int))))++((((([] :List ae)++w0.aa).drop (Int.toNat y1.1)).take (min ((([] :List ae)++w0.aa).length - (Int.toNat y1.1)) (((((([] :List ae)++w0.aa).drop 0).take (Int.toNat y1.1)++List.replicate (Int.toNat (IntKind.i64.wrap ((IntKind.i64.wrap ((List.length (([] :List ae)++w0.aa):Int)+(List.length [w1]:Int))) - y1.1))) (⟨0,0,0, [],0,([] :List Entry)⟩:ae)).take (Int.toNat y1.1)++([w1].take ((((([] :List ae)++w0.aa).drop 0).take (Int.toNat y1.1)++List.replicate (Int.toNat (IntKind.i64.wrap ((IntKind.i64.wrap ((List.length (([] :List ae)++w0.aa):Int)+(List.length [w1]:Int))) - y1.1))) (⟨0,0,0, [],0,([] :List Entry)⟩:ae)).length - (Int.toNat y1.1))++((((([] :List ae)++w0.aa).drop 0).take (Int.toNat y1.1)++List.replicate (Int.toNat (IntKind.i64.wrap ((IntKind.i64.wrap ((List.length (([] :List ae)++w0.aa):Int)+(List.length [w1]:Int))) - y1.1))) (⟨0,0,0, [],0,([] :List Entry)⟩:ae)).drop (Int.toNat y1.1)).drop (min [w1].length ((((([] :List ae)++w0.aa).drop 0).take (Int.toNat y1.1)++List.replicate (Int.toNat (IntKind.i64.wrap ((IntKind.i64.wrap ((List.length (([] :List ae)++w0.aa):Int)+(List.length [w1]:Int))) - y1.1))) (⟨0,0,0, [],0,([] :List Entry)⟩:ae)).length - (Int.toNat y1.1))))).length - (Int.toNat (IntKind.i64.wrap (y1.1+(List.length [w1]:Int)))))))++((((([] :List ae)++w0.aa).drop 0).take (Int.toNat y1.1)++List.replicate (Int.toNat (IntKind.i64.wrap ((IntKind.i64.wrap ((List.length (([] :List ae)++w0.aa):Int)+(List.length [w1]:Int))) - y1.1))) (⟨0,0,0, [],0,([] :List Entry)⟩:ae)).take (Int.toNat y1.1)++([w1].take ((((([] :List ae)++w0.aa).drop 0).take (Int.toNat y1.1)++List.replicate (Int.toNat (IntKind.i64.wrap ((IntKind.i64.wrap ((List.length (([] :List ae)++w0.aa):Int)+(List.length [w1]:Int))) - y1.1))) (⟨0,0,0, [],0,([] :List Entry)⟩:ae)).length - (Int.toNat y1.1))++((((([] :List ae)++w0.aa).drop 0).take (Int.toNat y1.1)++List.replicate (Int.toNat (IntKind.i64.wrap ((IntKind.i64.wrap ((List.length (([] :List ae)++w0.aa):Int)+(List.length [w1]:Int))) - y1.1))) (⟨0,0,0, [],0,([] :List Entry)⟩:ae)).drop (Int.toNat y1.1)).drop (min [w1].length ((((([] :List ae)++w0.aa).drop 0).take (Int.toNat y1.1)++List.replicate (Int.toNat (IntKind.i64.wrap ((IntKind.i64.wrap ((List.length (([] :List ae)++w0.aa):Int)+(List.length [w1]:Int))) - y1.1))) (⟨0,0,0, [],0,([] :List Entry)⟩:ae)).length - (Int.toNat y1.1))))).drop ((Int.toNat (IntKind.i64.wrap (y1.1+(List.length [w1]:Int))))+(min ((([] :List ae)++w0.aa).length - (Int.toNat y1.1)) (((((([] :List ae)++w0.aa).drop 0).take (Int.toNat y1.1)++List.replicate (Int.toNat (IntKind.i64.wrap ((IntKind.i64.wrap ((List.length (([] :List ae)++w0.aa):Int)+(List.length [w1]:Int))) - y1.1))) (⟨0,0,0, [],0,([] :List Entry)⟩:ae)).take (Int.toNat y1.1)++([w1].take ((((([] :List ae)++w0.aa).drop 0).take (Int.toNat y1.1)++List.replicate (Int.toNat (IntKind.i64.wrap ((IntKind.i64.wrap ((List.length (([] :List ae)++w0.aa):Int)+(List.length [w1]:Int))) - y1.1))) (⟨0,0,0, [],0,([] :List Entry)⟩:ae)).length - (Int.toNat y1.1))++((((([] :List ae)++w0.aa).drop 0).take (Int.toNat y1.1)++List.replicate (Int.toNat (IntKind.i64.wrap ((IntKind.i64.wrap ((List.length (([] :List ae)++w0.aa):Int)+(List.length [w1]:Int))) - y1.1))) (⟨0,0,0, [],0,([] :List Entry)⟩:ae)).drop (Int.toNat y1.1)).drop (min [w1].length ((((([] :List ae)++w0.aa).drop 0).take (Int.toNat y1.1)++List.replicate (Int.toNat (IntKind.i64.wrap ((IntKind.i64.wrap ((List.length (([] :List ae)++w0.aa):Int)+(List.length [w1]:Int))) - y1.1))) (⟨0,0,0, [],0,([] :List Entry)⟩:ae)).length - (Int.toNat y1.1))))).length - (Int.toNat (IntKind.i64.wrap (y1.1+(List.length [w1]:Int)))))))))⟩:Fs)) (none)) (none)) (none)) (none)) (none)) (none)) (none)) (none)) (none))) (none)) (none)) (
 ah (decide (0≤(IntKind.i64.wrap ((List.length (([] :List ae)++w0.aa):Int)+(List.length [w1]:Int)))∧(IntKind.i64.wrap ((List.length (([] :List ae)++w0.aa):Int)+(List.length [w1]:Int)))≤(cp4:Int))) (
 ah (decide (0≤(IntKind.i64.wrap (y1.1+(List.length [w1]:Int)))∧(IntKind.i64.wrap (y1.1+(List.length [w1]:Int)))≤((Int.toNat (IntKind.i64.wrap ((List.length (([] :List ae)++w0.aa):Int)+(List.length [w1]:Int)))):Int))) (
 ah (Nat.blt 0 [w1].length) (
 ah (Nat.blt 0 (([] :List ae)++w0.aa).length) (
 ah (decide (0≤(IntKind.i64.wrap (y1.1+(List.length [w1]:Int)))∧(IntKind.i64.wrap (y1.1+(List.length [w1]:Int)))≤((Int.toNat (IntKind.i64.wrap ((List.length (([] :List ae)++w0.aa):Int)+(List.length [w1]:Int)))):Int))) (
 ah (decide (0≤y1.1∧y1.1≤((Int.toNat (IntKind.i64.wrap ((List.length (([] :List ae)++w0.aa):Int)+(List.length [w1]:Int)))):Int))) (
 ah (Nat.ble ((0+(Int.toNat y1.1))+(min ((Int.toNat (IntKind.i64.wrap ((List.length (([] :List ae)++w0.aa):Int)+(List.length [w1]:Int)))) - (Int.toNat y1.1)) ((Int.toNat (IntKind.i64.wrap ((List.length (([] :List ae)++w0.aa):Int)+(List.length [w1]:Int)))) - (Int.toNat (IntKind.i64.wrap (y1.1+(List.length [w1]:Int))))))) (([] :List ae)++w0.aa).length) (
 ah (Nat.ble (0+(Int.toNat (IntKind.i64.wrap (y1.1+(List.length [w1]:Int))))) (([] :List ae)++w0.aa).length) (
 ah (Nat.ble ((0+(Int.toNat (IntKind.i64.wrap (y1.1+(List.length [w1]:Int)))))+(min ((Int.toNat (IntKind.i64.wrap ((List.length (([] :List ae)++w0.aa):Int)+(List.length [w1]:Int)))) - (Int.toNat y1.1)) ((Int.toNat (IntKind.i64.wrap ((List.length (([] :List ae)++w0.aa):Int)+(List.length [w1]:Int)))) - (Int.toNat (IntKind.i64.wrap (y1.1+(List.length [w1]:Int))))))) (([] :List ae)++w0.aa).length) (
 ah (decide (0≤y1.1∧y1.1≤((Int.toNat (IntKind.i64.wrap ((List.length (([] :List ae)++w0.aa):Int)+(List.length [w1]:Int)))):Int))) (
 ah (Nat.ble ((0+(Int.toNat y1.1))+((Int.toNat (IntKind.i64.wrap ((List.length (([] :List ae)++w0.aa):Int)+(List.length [w1]:Int)))) - (Int.toNat y1.1))) ((([] :List ae)++w0.aa).take (0+(Int.toNat (IntKind.i64.wrap (y1.1+(List.length [w1]:Int)))))++((((([] :List ae)++w0.aa).drop (0+(Int.toNat y1.1))).take (min ((Int.toNat (IntKind.i64.wrap ((List.length (([] :List ae)++w0.aa):Int)+(List.length [w1]:Int)))) - (Int.toNat y1.1)) ((Int.toNat (IntKind.i64.wrap ((List.length (([] :List ae)++w0.aa):Int)+(List.length [w1]:Int)))) - (Int.toNat (IntKind.i64.wrap (y1.1+(List.length [w1]:Int)))))))++(([] :List ae)++w0.aa).drop ((0+(Int.toNat (IntKind.i64.wrap (y1.1+(List.length [w1]:Int)))))+(min ((Int.toNat (IntKind.i64.wrap ((List.length (([] :List ae)++w0.aa):Int)+(List.length [w1]:Int)))) - (Int.toNat y1.1)) ((Int.toNat (IntKind.i64.wrap ((List.length (([] :List ae)++w0.aa):Int)+(List.length [w1]:Int)))) - (Int.toNat (IntKind.i64.wrap (y1.1+(List.length [w1]:Int))))))))).length) (
 ah (Nat.ble (0+(Int.toNat (IntKind.i64.wrap ((List.length (([] :List ae)++w0.aa):Int)+(List.length [w1]:Int))))) (((([] :List ae)++w0.aa).take (0+(Int.toNat (IntKind.i64.wrap (y1.1+(List.length [w1]:Int)))))++((((([] :List ae)++w0.aa).drop (0+(Int.toNat y1.1))).take (min ((Int.toNat (IntKind.i64.wrap ((List.length (([] :List ae)++w0.aa):Int)+(List.length [w1]:Int)))) - (Int.toNat y1.1)) ((Int.toNat (IntKind.i64.wrap ((List.length (([] :List ae)++w0.aa):Int)+(List.length [w1]:Int)))) - (Int.toNat (IntKind.i64.wrap (y1.1+(List.length [w1]:Int)))))))++(([] :List ae)++w0.aa).drop ((0+(Int.toNat (IntKind.i64.wrap (y1.1+(List.length [w1]:Int)))))+(min ((Int.toNat (IntKind.i64.wrap ((List.length (([] :List ae)++w0.aa):Int)+(List.length [w1]:Int)))) - (Int.toNat y1.1)) ((Int.toNat (IntKind.i64.wrap ((List.length (([] :List ae)++w0.aa):Int)+(List.length [w1]:Int)))) - (Int.toNat (IntKind.i64.wrap (y1.1+(List.length [w1]:Int))))))))).take (0+(Int.toNat y1.1))++([w1].take ((Int.toNat (IntKind.i64.wrap ((List.length (([] :List ae)++w0.aa):Int)+(List.length [w1]:Int)))) - (Int.toNat y1.1))++(((([] :List ae)++w0.aa).take (0+(Int.toNat (IntKind.i64.wrap (y1.1+(List.length [w1]:Int)))))++((((([] :List ae)++w0.aa).drop (0+(Int.toNat y1.1))).take (min ((Int.toNat (IntKind.i64.wrap ((List.length (([] :List ae)++w0.aa):Int)+(List.length [w1]:Int)))) - (Int.toNat y1.1)) ((Int.toNat (IntKind.i64.wrap ((List.length (([] :List ae)++w0.aa):Int)+(List.length [w1]:Int)))) - (Int.toNat (IntKind.i64.wrap (y1.1+(List.length [w1]:Int)))))))++(([] :List ae)++w0.aa).drop ((0+(Int.toNat (IntKind.i64.wrap (y1.1+(List.length [w1]:Int)))))+(min ((Int.toNat (IntKind.i64.wrap ((List.length (([] :List ae)++w0.aa):Int)+(List.length [w1]:Int)))) - (Int.toNat y1.1)) ((Int.toNat (IntKind.i64.wrap ((List.length (([] :List ae)++w0.aa):Int)+(List.length [w1]:Int)))) - (Int.toNat (IntKind.i64.wrap (y1.1+(List.length [w1]:Int))))))))).drop (0+(Int.toNat y1.1))).drop (min [w1].length ((Int.toNat (IntKind.i64.wrap ((List.length (([] :List ae)++w0.aa):Int)+(List.length [w1]:Int)))) - (Int.toNat y1.1))))).length) (some (⟨w0.ar,w0.aw,w0.next,(((((([] :List ae)++w0.aa).take (0+(Int.toNat (IntKind.i64.wrap (y1.1+(List.length [w1]:Int)))))++((((([] :List ae)++w0.aa).drop (0+(Int.toNat y1.1))).take (min ((Int.toNat (IntKind.i64.wrap ((List.length (([] :List ae)++w0.aa):Int)+(List.length [w1]:Int)))) - (Int.toNat y1.1)) ((Int.toNat (IntKind.i64.wrap ((List.length (([] :List ae)++w0.aa):Int)+(List.length [w1]:Int)))) - (Int.toNat (IntKind.i64.wrap (y1.1+(List.length [w1]:Int)))))))++(([] :List ae)++w0.aa).drop ((0+(Int.toNat (IntKind.i64.wrap (y1.1+(List.length [w1]:Int)))))+(min ((Int.toNat (IntKind.i64.wrap ((List.length (([] :List ae)++w0.aa):Int)+(List.length [w1]:Int)))) - (Int.toNat y1.1)) ((Int.toNat (IntKind.i64.wrap ((List.length (([] :List ae)++w0.aa):Int)+(List.length [w1]:Int)))) - (Int.toNat (IntKind.i64.wrap (y1.1+(List.length [w1]:Int))))))))).take (0+(Int.toNat y1.1))++([w1].take ((Int.toNat (IntKind.i64.wrap ((List.length (([] :List ae)++w0.aa):Int)+(List.length [w1]:Int)))) - (Int.toNat y1.1))++(((([] :List ae)++w0.aa).take (0+(Int.toNat (IntKind.i64.wrap (y1.1+(List.length [w1]:Int)))))++((((([] :List ae)++w0.aa).drop (0+(Int.toNat y1.1))).take (min ((Int.toNat (IntKind.i64.wrap ((List.length (([] :List ae)++w0.aa):Int)+(List.length [w1]:Int)))) - (Int.toNat y1.1)) ((Int.toNat (IntKind.i64.wrap ((List.length (([] :List ae)++w0.aa):Int)+(List.length [w1]:Int)))) - (Int.toNat (IntKind.i64.wrap (y1.1+(List.length [w1]:Int)))))))++(([] :List ae)++w0.aa).drop ((0+(Int.toNat (IntKind.i64.wrap (y1.1+(List.length [w1]:Int)))))+(min ((Int.toNat (IntKind.i64.wrap ((List.length (([] :List ae)++w0.aa):Int)+(List.length [w1]:Int)))) - (Int.toNat y1.1)) ((Int.toNat (IntKind.i64.wrap ((List.length (([] :List ae)++w0.aa):Int)+(List.length [w1]:Int)))) - (Int.toNat (IntKind.i64.wrap (y1.1+(List.length [w1]:Int))))))))).drop (0+(Int.toNat y1.1))).drop (min [w1].length ((Int.toNat (IntKind.i64.wrap ((List.length (([] :List ae)++w0.aa):Int)+(List.length [w1]:Int)))) - (Int.toNat y1.1))))).drop 0).take (Int.toNat (IntKind.i64.wrap ((List.length (([] :List ae)++w0.aa):Int)+(List.length [w1]:Int)))))⟩:Fs)) (none)) (none)) (none)) (
 ah (decide (0≤y1.1∧y1.1≤((Int.toNat (IntKind.i64.wrap ((List.length (([] :List ae)++w0.aa):Int)+(List.length [w1]:Int)))):Int))) (
 ah (Nat.ble ((0+(Int.toNat y1.1))+((Int.toNat (IntKind.i64.wrap ((List.length (([] :List ae)++w0.aa):Int)+(List.length [w1]:Int)))) - (Int.toNat y1.1))) ((([] :List ae)++w0.aa).take (0+(Int.toNat (IntKind.i64.wrap (y1.1+(List.length [w1]:Int)))))++(((([] :List ae)++w0.aa).drop (0+(Int.toNat y1.1))).take (min ((Int.toNat (IntKind.i64.wrap ((List.length (([] :List ae)++w0.aa):Int)+(List.length [w1]:Int)))) - (Int.toNat y1.1)) ((Int.toNat (IntKind.i64.wrap ((List.length (([] :List ae)++w0.aa):Int)+(List.length [w1]:Int)))) - (Int.toNat (IntKind.i64.wrap (y1.1+(List.length [w1]:Int)))))))).length) (
 ah (Nat.ble (0+(Int.toNat (IntKind.i64.wrap ((List.length (([] :List ae)++w0.aa):Int)+(List.length [w1]:Int))))) (((([] :List ae)++w0.aa).take (0+(Int.toNat (IntKind.i64.wrap (y1.1+(List.length [w1]:Int)))))++(((([] :List ae)++w0.aa).drop (0+(Int.toNat y1.1))).take (min ((Int.toNat (IntKind.i64.wrap ((List.length (([] :List ae)++w0.aa):Int)+(List.length [w1]:Int)))) - (Int.toNat y1.1)) ((Int.toNat (IntKind.i64.wrap ((List.length (([] :List ae)++w0.aa):Int)+(List.length [w1]:Int)))) - (Int.toNat (IntKind.i64.wrap (y1.1+(List.length [w1]:Int)))))))).take (0+(Int.toNat y1.1))++([w1].take ((Int.toNat (IntKind.i64.wrap ((List.length (([] :List ae)++w0.aa):Int)+(List.length [w1]:Int)))) - (Int.toNat y1.1))++(((([] :List ae)++w0.aa).take (0+(Int.toNat (IntKind.i64.wrap (y1.1+(List.length [w1]:Int)))))++(((([] :List ae)++w0.aa).drop (0+(Int.toNat y1.1))).take (min ((Int.toNat (IntKind.i64.wrap ((List.length (([] :List ae)++w0.aa):Int)+(List.length [w1]:Int)))) - (Int.toNat y1.1)) ((Int.toNat (IntKind.i64.wrap ((List.length (([] :List ae)++w0.aa):Int)+(List.length [w1]:Int)))) - (Int.toNat (IntKind.i64.wrap (y1.1+(List.length [w1]:Int)))))))).drop (0+(Int.toNat y1.1))).drop (min [w1].length ((Int.toNat (IntKind.i64.wrap ((List.length (([] :List ae)++w0.aa):Int)+(List.length [w1]:Int)))) - (Int.toNat y1.1))))).length) (some (⟨w0.ar,w0.aw,w0.next,(((((([] :List ae)++w0.aa).take (0+(Int.toNat (IntKind.i64.wrap (y1.1+(List.length [w1]:Int)))))++(((([] :List ae)++w0.aa).drop (0+(Int.toNat y1.1))).take (min ((Int.toNat (IntKind.i64.wrap ((List.length (([] :List ae)++w0.aa):Int)+(List.length [w1]:Int)))) - (Int.toNat y1.1)) ((Int.toNat (IntKind.i64.wrap ((List.length (([] :List ae)++w0.aa):Int)+(List.length [w1]:Int)))) - (Int.toNat (IntKind.i64.wrap (y1.1+(List.length [w1]:Int)))))))).take (0+(Int.toNat y1.1))++([w1].take ((Int.toNat (IntKind.i64.wrap ((List.length (([] :List ae)++w0.aa):Int)+(List.length [w1]:Int)))) - (Int.toNat y1.1))++(((([] :List ae)++w0.aa).take (0+(Int.toNat (IntKind.i64.wrap (y1.1+(List.length [w1]:Int)))))++(((([] :List ae)++w0.aa).drop (0+(Int.toNat y1.1))).take (min ((Int.toNat (IntKind.i64.wrap ((List.length (([] :List ae)++w0.aa):Int)+(List.length [w1]:Int)))) - (Int.toNat y1.1)) ((Int.toNat (IntKind.i64.wrap ((List.length (([] :List ae)++w0.aa):Int)+(List.length [w1]:Int)))) - (Int.toNat (IntKind.i64.wrap (y1.1+(List.length [w1]:Int)))))))).drop (0+(Int.toNat y1.1))).drop (min [w1].length ((Int.toNat (IntKind.i64.wrap ((List.length (([] :List ae)++w0.aa):Int)+(List.length [w1]:Int)))) - (Int.toNat y1.1))))).drop 0).take (Int.toNat (IntKind.i64.wrap ((List.length (([] :List ae)++w0.aa):Int)+(List.length [w1]:Int)))))⟩:Fs)) (none)) (none)) (none))) (none)) (none)) (none)) (none)) (none)) (none)) (none)) (none))))) (none))))
noncomputable def lr (w0:Fs):Option (Fs×Int):=
 za w0.aa (some ((⟨w0.ar,w0.aw,(IntKind.i64.wrap (w0.next+(1:Int))),([] :List ae)⟩:Fs),w0.next)) (aQ (([] :List ae).length+w0.aa.length) (some ((⟨w0.ar,w0.aw,(IntKind.i64.wrap (w0.next+(1:Int))),(([] :List ae)++w0.aa)⟩:Fs),w0.next)))
noncomputable def np (w0:Fs) (w1:Int):Option (Fs):=
 aj (mM w0 w1) fun y1=>za w0.aa (
 ah y1.2 (
 ah (decide ((List.length ([] :List ae):Int)=(IntKind.i64.wrap (y1.1+(1:Int))))) (
 ah (decide (0≤(IntKind.i64.wrap (y1.1+(1:Int)))∧(IntKind.i64.wrap (y1.1+(1:Int)))≤(([] :List ae).length:Int))) (
 ah (decide (0≤y1.1∧y1.1≤(IntKind.i64.wrap (y1.1+(1:Int))))) (
 ah (y1.1==(IntKind.i64.wrap (y1.1+(1:Int)))) (some (⟨w0.ar,w0.aw,w0.next,([] :List ae)⟩:Fs)) (
 ah (decide (0≤y1.1∧y1.1≤(([] :List ae).length:Int))) (
 ah (decide (0≤(IntKind.i64.wrap (y1.1+(1:Int)))∧(IntKind.i64.wrap (y1.1+(1:Int)))≤(([] :List ae).length:Int))) (none) (none)) (none))) (none)) (none)) (none)) (some (⟨w0.ar,w0.aw,w0.next,([] :List ae)⟩:Fs))) (aQ (([] :List ae).length+w0.aa.length) (
 ah y1.2 (
 ah (decide (0≤(List.length (([] :List ae)++w0.aa):Int)∧(List.length (([] :List ae)++w0.aa):Int)≤((([] :List ae)++w0.aa).length:Int))) (
 ah (decide (0≤(IntKind.i64.wrap (y1.1+(1:Int)))∧(IntKind.i64.wrap (y1.1+(1:Int)))≤(List.length (([] :List ae)++w0.aa):Int))) (
 ah (decide (0≤y1.1∧y1.1≤(IntKind.i64.wrap (y1.1+(1:Int))))) (
 ah (y1.1==(IntKind.i64.wrap (y1.1+(1:Int)))) (some (⟨w0.ar,w0.aw,w0.next,(([] :List ae)++w0.aa)⟩:Fs)) (
 ah (decide (0≤y1.1∧y1.1≤((([] :List ae)++w0.aa).length:Int))) (
 ah (decide (0≤(IntKind.i64.wrap (y1.1+(1:Int)))∧(IntKind.i64.wrap (y1.1+(1:Int)))≤((([] :List ae)++w0.aa).length:Int))) (
 ah (Nat.ble ((Int.toNat (IntKind.i64.wrap (y1.1+(1:Int))))+((([] :List ae)++w0.aa).length - (Int.toNat (IntKind.i64.wrap (y1.1+(1:Int)))))) (([] :List ae)++w0.aa).length) (
 ah (Nat.ble (0+(Int.toNat y1.1)+(((([] :List ae)++w0.aa).drop (Int.toNat (IntKind.i64.wrap (y1.1+(1:Int))))).take ((([] :List ae)++w0.aa).length - (Int.toNat (IntKind.i64.wrap (y1.1+(1:Int)))))).length) (([] :List ae)++w0.aa).length) (
 ah (decide (0≤(List.length (([] :List ae)++w0.aa):Int)∧(List.length (([] :List ae)++w0.aa):Int)≤((max ((Int.toNat y1.1)+(((([] :List ae)++w0.aa).drop (Int.toNat (IntKind.i64.wrap (y1.1+(1:Int))))).take ((([] :List ae)++w0.aa).length - (Int.toNat (IntKind.i64.wrap (y1.1+(1:Int)))))).length) (((([] :List ae)++w0.aa).take (0+(Int.toNat y1.1))++((((([] :List ae)++w0.aa).drop (Int.toNat (IntKind.i64.wrap (y1.1+(1:Int))))).take ((([] :List ae)++w0.aa).length - (Int.toNat (IntKind.i64.wrap (y1.1+(1:Int))))))++(([] :List ae)++w0.aa).drop (0+(Int.toNat y1.1)+(((([] :List ae)++w0.aa).drop (Int.toNat (IntKind.i64.wrap (y1.1+(1:Int))))).take ((([] :List ae)++w0.aa).length - (Int.toNat (IntKind.i64.wrap (y1.1+(1:Int)))))).length))).length - 0):Nat):Int))) (
 ah (decide (0≤(((Int.toNat y1.1)+(((([] :List ae)++w0.aa).drop (Int.toNat (IntKind.i64.wrap (y1.1+(1:Int))))).take ((([] :List ae)++w0.aa).length - (Int.toNat (IntKind.i64.wrap (y1.1+(1:Int)))))).length):Int)∧(((Int.toNat y1.1)+(((([] :List ae)++w0.aa).drop (Int.toNat (IntKind.i64.wrap (y1.1+(1:Int))))).take ((([] :List ae)++w0.aa).length - (Int.toNat (IntKind.i64.wrap (y1.1+(1:Int)))))).length):Int)≤(List.length (([] :List ae)++w0.aa):Int))) (
 ah (Nat.ble ((0+(Int.toNat (((Int.toNat y1.1)+(((([] :List ae)++w0.aa).drop (Int.toNat (IntKind.i64.wrap (y1.1+(1:Int))))).take ((([] :List ae)++w0.aa).length - (Int.toNat (IntKind.i64.wrap (y1.1+(1:Int)))))).length):Int)))+((Int.toNat (List.length (([] :List ae)++w0.aa):Int)) - (Int.toNat (((Int.toNat y1.1)+(((([] :List ae)++w0.aa).drop (Int.toNat (IntKind.i64.wrap (y1.1+(1:Int))))).take ((([] :List ae)++w0.aa).length - (Int.toNat (IntKind.i64.wrap (y1.1+(1:Int)))))).length):Int)))) ((([] :List ae)++w0.aa).take (0+(Int.toNat y1.1))++((((([] :List ae)++w0.aa).drop (Int.toNat (IntKind.i64.wrap (y1.1+(1:Int))))).take ((([] :List ae)++w0.aa).length - (Int.toNat (IntKind.i64.wrap (y1.1+(1:Int))))))++(([] :List ae)++w0.aa).drop (0+(Int.toNat y1.1)+(((([] :List ae)++w0.aa).drop (Int.toNat (IntKind.i64.wrap (y1.1+(1:Int))))).take ((([] :List ae)++w0.aa).length - (Int.toNat (IntKind.i64.wrap (y1.1+(1:Int)))))).length))).length) (
 ah (Nat.ble (0+((Int.toNat y1.1)+(((([] :List ae)++w0.aa).drop (Int.toNat (IntKind.i64.wrap (y1.1+(1:Int))))).take ((([] :List ae)++w0.aa).length - (Int.toNat (IntKind.i64.wrap (y1.1+(1:Int)))))).length)) (((([] :List ae)++w0.aa).take (0+(Int.toNat y1.1))++((((([] :List ae)++w0.aa).drop (Int.toNat (IntKind.i64.wrap (y1.1+(1:Int))))).take ((([] :List ae)++w0.aa).length - (Int.toNat (IntKind.i64.wrap (y1.1+(1:Int))))))++(([] :List ae)++w0.aa).drop (0+(Int.toNat y1.1)+(((([] :List ae)++w0.aa).drop (Int.toNat (IntKind.i64.wrap (y1.1+(1:Int))))).take ((([] :List ae)++w0.aa).length - (Int.toNat (IntKind.i64.wrap (y1.1+(1:Int)))))).length))).take (0+(Int.toNat (((Int.toNat y1.1)+(((([] :List ae)++w0.aa).drop (Int.toNat (IntKind.i64.wrap (y1.1+(1:Int))))).take ((([] :List ae)++w0.aa).length - (Int.toNat (IntKind.i64.wrap (y1.1+(1:Int)))))).length):Int)))++(List.replicate ((Int.toNat (List.length (([] :List ae)++w0.aa):Int)) - (Int.toNat (((Int.toNat y1.1)+(((([] :List ae)++w0.aa).drop (Int.toNat (IntKind.i64.wrap (y1.1+(1:Int))))).take ((([] :List ae)++w0.aa).length - (Int.toNat (IntKind.i64.wrap (y1.1+(1:Int)))))).length):Int))) (⟨0,0,0, [],0,([] :List Entry)⟩:ae)++((([] :List ae)++w0.aa).take (0+(Int.toNat y1.1))++((((([] :List ae)++w0.aa).drop (Int.toNat (IntKind.i64.wrap (y1.1+(1:Int))))).take ((([] :List ae)++w0.aa).length - (Int.toNat (IntKind.i64.wrap (y1.1+(1:Int))))))++(([] :List ae)++w0.aa).drop (0+(Int.toNat y1.1)+(((([] :List ae)++w0.aa).drop (Int.toNat (IntKind.i64.wrap (y1.1+(1:Int))))).take ((([] :List ae)++w0.aa).length - (Int.toNat (IntKind.i64.wrap (y1.1+(1:Int)))))).length))).drop ((0+(Int.toNat (((Int.toNat y1.1)+(((([] :List ae)++w0.aa).drop (Int.toNat (IntKind.i64.wrap (y1.1+(1:Int))))).take ((([] :List ae)++w0.aa).length - (Int.toNat (IntKind.i64.wrap (y1.1+(1:Int)))))).length):Int)))+((Int.toNat (List.length (([] :List ae)++w0.aa):Int)) - (Int.toNat (((Int.toNat y1.1)+(((([] :List ae)++w0.aa).drop (Int.toNat (IntKind.i64.wrap (y1.1+(1:Int))))).take ((([] :List ae)++w0.aa).length - (Int.toNat (IntKind.i64.wrap (y1.1+(1:Int)))))).length):Int)))))).length) (some (⟨w0.ar,w0.aw,w0.next,(((((([] :List ae)++w0.aa).take (0+(Int.toNat y1.1))++((((([] :List ae)++w0.aa).drop (Int.toNat (IntKind.i64.wrap (y1.1+(1:Int))))).take ((([] :List ae)++w0.aa).length - (Int.toNat (IntKind.i64.wrap (y1.1+(1:Int))))))++(([] :List ae)++w0.aa).drop (0+(Int.toNat y1.1)+(((([] :List ae)++w0.aa).drop (Int.toNat (IntKind.i64.wrap (y1.1+(1:Int))))).take ((([] :List ae)++w0.aa).length - (Int.toNat (IntKind.i64.wrap (y1.1+(1:Int)))))).length))).take (0+(Int.toNat (((Int.toNat y1.1)+(((([] :List ae)++w0.aa).drop (Int.toNat (IntKind.i64.wrap (y1.1+(1:Int))))).take ((([] :List ae)++w0.aa).length - (Int.toNat (IntKind.i64.wrap (y1.1+(1:Int)))))).length):Int)))++(List.replicate ((Int.toNat (List.length (([] :List ae)++w0.aa):Int)) - (Int.toNat (((Int.toNat y1.1)+(((([] :List ae)++w0.aa).drop (Int.toNat (IntKind.i64.wrap (y1.1+(1:Int))))).take ((([] :List ae)++w0.aa).length - (Int.toNat (IntKind.i64.wrap (y1.1+(1:Int)))))).length):Int))) (⟨0,0,0, [],0,([] :List Entry)⟩:ae)++((([] :List ae)++w0.aa).take (0+(Int.toNat y1.1))++((((([] :List ae)++w0.aa).drop (Int.toNat (IntKind.i64.wrap (y1.1+(1:Int))))).take ((([] :List ae)++w0.aa).length - (Int.toNat (IntKind.i64.wrap (y1.1+(1:Int))))))++(([] :List ae)++w0.aa).drop (0+(Int.toNat y1.1)+(((([] :List ae)++w0.aa).drop (Int.toNat (IntKind.i64.wrap (y1.1+(1:Int))))).take ((([] :List ae)++w0.aa).length - (Int.toNat (IntKind.i64.wrap (y1.1+(1:Int)))))).length))).drop ((0+(Int.toNat (((Int.toNat y1.1)+(((([] :List ae)++w0.aa).drop (Int.toNat (IntKind.i64.wrap (y1.1+(1:Int))))).take ((([] :List ae)++w0.aa).length - (Int.toNat (IntKind.i64.wrap (y1.1+(1:Int)))))).length):Int)))+((Int.toNat (List.length (([] :List ae)++w0.aa):Int)) - (Int.toNat (((Int.toNat y1.1)+(((([] :List ae)++w0.aa).drop (Int.toNat (IntKind.i64.wrap (y1.1+(1:Int))))).take ((([] :List ae)++w0.aa).length - (Int.toNat (IntKind.i64.wrap (y1.1+(1:Int)))))).length):Int)))))).drop 0).take ((Int.toNat y1.1)+(((([] :List ae)++w0.aa).drop (Int.toNat (IntKind.i64.wrap (y1.1+(1:Int))))).take ((([] :List ae)++w0.aa).length - (Int.toNat (IntKind.i64.wrap (y1.1+(1:Int)))))).length))⟩:Fs)) (none)) (none)) (none)) (none)) (none)) (none)) (none)) (none))) (none)) (none)) (none)) (some (⟨w0.ar,w0.aw,w0.next,(([] :List ae)++w0.aa)⟩:Fs))))
noncomputable def dR {R:Type} (x1:List Entry) (x2:List Entry) (x3:Int) (kr:Option R) (k0:Option R):Nat→Int→Option R
 |0,_=>none
 |n+1,x4=>
  ah (decide (x4<x3)) (
  ah (decide (0≤x4)) (aj x1[Int.toNat x4]? fun e6=>
  ah (decide (0≤x4)) (aj x2[Int.toNat x4]? fun e7=>
  ah (!((e6.name==e7.name)&&(e6.ino==e7.ino))) ((kr)) ((dR x1 x2 x3 kr k0 n (IntKind.i64.wrap (x4+(1:Int)))))) (none)) (none)) ((k0))
noncomputable def lW (w0:ae) (w1:ae):Option (Bool):=
 ah (w0.ino==w1.ino) (
 ah (w0.kind==w1.kind) (
 ah (w0.aq==w1.aq) (
 ah (w0.data==w1.data) (
 ah (w0.parent==w1.parent) (
 ah ((List.length w0.entries:Int) !=(List.length w1.entries:Int)) (some false) (dR w0.entries w1.entries (List.length w0.entries:Int) (some false) (some true) bg (0:Int))) (some false)) (some false)) (some false)) (some false)) (some false)
noncomputable def eo {R:Type} (x1:List ae) (x2:List ae) (x3:Int) (kr:Option R) (k0:Option R):Nat→Int→Option R
 |0,_=>none
 |n+1,x4=>
  ah (decide (x4<x3)) (
  ah (decide (0≤x4)) (aj x2[Int.toNat x4]? fun e6=>
  ah (decide (0≤x4)) (aj x1[Int.toNat x4]? fun e7=>aj (lW e6 e7) fun y8=>
  ah (!y8) ((kr)) ((eo x1 x2 x3 kr k0 n (IntKind.i64.wrap (x4+(1:Int)))))) (none)) (none)) ((k0))
noncomputable def kV (w0:Fs) (w1:Fs):Option (Bool):=
 ah (w0.ar==w1.ar) (
 ah (w0.aw==w1.aw) (
 ah (w0.next==w1.next) (
 ah ((List.length w0.aa:Int) !=(List.length w1.aa:Int)) (some false) (eo w1.aa w0.aa (List.length w0.aa:Int) (some false) (some true) bg (0:Int))) (some false)) (some false)) (some false)
end Go.Eng
set_option linter.unusedVariables false
set_option maxRecDepth 100000
namespace Go.Eng
open Go
end Go.Eng
set_option linter.unusedVariables false
set_option maxRecDepth 100000
namespace Go.Eng
open Go
noncomputable def bP (w0:(List ae)):Option ((List ae)):=
 za w0 (some ([] :List ae)) (aQ (([] :List ae).length+w0.length) (some (([] :List ae)++w0)))
noncomputable def dP (w0:(List Kept)):Option ((List Kept)):=
 za w0 (some ([] :List Kept)) (aQ (([] :List Kept).length+w0.length) (some (([] :List Kept)++w0)))
end Go.Eng
set_option linter.unusedVariables false
set_option maxRecDepth 100000
namespace Go.Eng
open Go
end Go.Eng
set_option linter.unusedVariables false
set_option maxRecDepth 100000
namespace Go.Eng
open Go
noncomputable def bO (w0:Fs) (w1:ax) (w2:Int):Option (Fs):=
 aj (c_ w0 w1.dir) fun y1=>aj (fF y1.1.entries w1.name w2) fun y2=>aj (bh w0 (⟨y1.1.ino,y1.1.kind,y1.1.aq,y1.1.data,y1.1.parent,y2⟩:ae)) fun y3=>aj (c_ y3 w2) fun y4=>aj (bh y3 (⟨y4.1.ino,y4.1.kind,(IntKind.i64.wrap (y4.1.aq+(1:Int))),y4.1.data,y4.1.parent,y4.1.entries⟩:ae)) fun y5=>some y5
noncomputable def lU (w0:Fs) (w1:ax):Option (Fs):=
 aj (c_ w0 w1.dir) fun y1=>aj (jJ y1.1.entries w1.name) fun y2=>aj (bh w0 (⟨y1.1.ino,y1.1.kind,y1.1.aq,y1.1.data,y1.1.parent,y2⟩:ae)) fun y3=>aj (c_ y3 w1.ino) fun y4=>
 ah ((IntKind.i64.wrap (y4.1.aq - (1:Int)))==(0:Int)) (aj (np y3 y4.1.ino) fun y5=>some y5) (aj (bh y3 (⟨y4.1.ino,y4.1.kind,(IntKind.i64.wrap (y4.1.aq - (1:Int))),y4.1.data,y4.1.parent,y4.1.entries⟩:ae)) fun y6=>some y6)
end Go.Eng
set_option linter.unusedVariables false
set_option maxRecDepth 100000
namespace Go.Eng
open Go
noncomputable def n0 (w0:Fs):Option (Int):=
 some (List.length w0.aa:Int)
noncomputable def fa {R:Type} (x2:Int) (x4:Fs) (k0:Int→Option R):Nat→Int→Int→Option R
 |0,_,_=>none
 |n+1,x1,x3=>
  ah (decide (x3<x2)) (
  ah (decide (0≤x3)) (aj x4.aa[Int.toNat x3]? fun e5=>
  ah (e5.kind==(1:Int)) (
  ah (decide (0≤x3)) (aj x4.aa[Int.toNat x3]? fun e6=>(fa x2 x4 k0 n (IntKind.i64.wrap (x1+(List.length e6.data:Int))) (IntKind.i64.wrap (x3+(1:Int))))) (none)) ((fa x2 x4 k0 n x1 (IntKind.i64.wrap (x3+(1:Int)))))) (none)) ((k0 x1))
noncomputable def m7 (w0:Fs):Option (Int):=
 fa (List.length w0.aa:Int) w0 (fun z8=>some z8) bg (0:Int) (0:Int)
noncomputable def fx (w0:Fs) (w1:Int) (w2:Int):Option (Bool):=
 aj (n0 w0) fun y1=>
 ah (decide ((IntKind.i64.wrap (y1+w1))≤w0.ar)) (aj (m7 w0) fun y2=>some (decide ((IntKind.i64.wrap (y2+w2))≤w0.aw))) (some false)
end Go.Eng
set_option linter.unusedVariables false
set_option maxRecDepth 100000
namespace Go.Eng
open Go
noncomputable def jz {R:Type} (x2:List ae) (x3:Int) (x5:Fs) (kr:Option R) (k0:Option R):Nat→Int→Int→Option R
 |0,_,_=>none
 |n+1,x1,x4=>
  ah (decide (x4<x3)) (
  ah (decide (0≤x4)) (aj x2[Int.toNat x4]? fun e6=>
  ah (decide (e6.ino≤x1)) ((kr)) (
  ah (decide (e6.ino≥x5.next)) ((kr)) ((jz x2 x3 x5 kr k0 n e6.ino (IntKind.i64.wrap (x4+(1:Int))))))) (none)) ((k0))
noncomputable def jK (w0:Fs):Option (Bool):=
 ah (decide (w0.ar<(1:Int))) (some false) (
 ah (decide (w0.ar>(1073741824:Int))) (some false) (
 ah (decide (w0.aw<(0:Int))) (some false) (
 ah (decide (w0.aw>(1073741824:Int))) (some false) (
 ah (decide (w0.next>(1099511627776:Int))) (some false) (jz w0.aa (List.length w0.aa:Int) w0 (some false) (
 ah (decide ((List.length w0.aa:Int)>(0:Int))) (
 ah (decide (0≤(0:Int))) (aj w0.aa[Int.toNat (0:Int)]? fun e9=>
 ah (e9.ino==(1:Int)) (
 ah (decide (0≤(0:Int))) (aj w0.aa[Int.toNat (0:Int)]? fun e10=>some (e10.kind==(2:Int))) (none)) (some false)) (none)) (some false)) bg (0:Int) (0:Int))))))
noncomputable def bL {R:Type} (x1:List ae) (x2:Int) (kr:Option R) (k0:Option R):Nat→Int→Option R
 |0,_=>none
 |n+1,x3=>
  ah (decide (x3<x2)) (
  ah (decide (0≤x3)) (aj x1[Int.toNat x3]? fun e4=>
  ah ((List.length e4.entries:Int)==(0:Int)) (
  ah (e4.kind==(1:Int)) (
  ah (e4.parent==(0:Int)) ((bL x1 x2 kr k0 n (IntKind.i64.wrap (x3+(1:Int))))) (
  ah (e4.kind==(3:Int)) (
  ah (e4.parent==(0:Int)) (
  ah (!(e4.data==([] :Str))) (
  ah (decide ((List.length e4.data:Int)≤(4095:Int))) (
  ah (([0]:Str)==e4.data) (
  ah (e4.kind==(2:Int)) (
  ah (e4.data==([] :Str)) (aj (cf e4.entries) fun y5=>
  ah y5 ((bL x1 x2 kr k0 n (IntKind.i64.wrap (x3+(1:Int))))) ((kr))) ((kr))) ((kr))) (aj (stringslite_IndexByte e4.data (0:Int)) fun y6=>
  ah (!(decide (y6≥(0:Int)))) ((bL x1 x2 kr k0 n (IntKind.i64.wrap (x3+(1:Int))))) (
  ah (e4.kind==(2:Int)) (
  ah (e4.data==([] :Str)) (aj (cf e4.entries) fun y7=>
  ah y7 ((bL x1 x2 kr k0 n (IntKind.i64.wrap (x3+(1:Int))))) ((kr))) ((kr))) ((kr))))) (
  ah (e4.kind==(2:Int)) (
  ah (e4.data==([] :Str)) (aj (cf e4.entries) fun y8=>
  ah y8 ((bL x1 x2 kr k0 n (IntKind.i64.wrap (x3+(1:Int))))) ((kr))) ((kr))) ((kr)))) (
  ah (e4.kind==(2:Int)) (
  ah (e4.data==([] :Str)) (aj (cf e4.entries) fun y9=>
  ah y9 ((bL x1 x2 kr k0 n (IntKind.i64.wrap (x3+(1:Int))))) ((kr))) ((kr))) ((kr)))) (
  ah (e4.kind==(2:Int)) (
  ah (e4.data==([] :Str)) (aj (cf e4.entries) fun y10=>
  ah y10 ((bL x1 x2 kr k0 n (IntKind.i64.wrap (x3+(1:Int))))) ((kr))) ((kr))) ((kr)))) (
  ah (e4.kind==(2:Int)) (
  ah (e4.data==([] :Str)) (aj (cf e4.entries) fun y11=>
  ah y11 ((bL x1 x2 kr k0 n (IntKind.i64.wrap (x3+(1:Int))))) ((kr))) ((kr))) ((kr))))) (
  ah (e4.kind==(3:Int)) (
  ah (e4.parent==(0:Int)) (
  ah (!(e4.data==([] :Str))) (
  ah (decide ((List.length e4.data:Int)≤(4095:Int))) (
  ah (([0]:Str)==e4.data) (
  ah (e4.kind==(2:Int)) (
  ah (e4.data==([] :Str)) (aj (cf e4.entries) fun y12=>
  ah y12 ((bL x1 x2 kr k0 n (IntKind.i64.wrap (x3+(1:Int))))) ((kr))) ((kr))) ((kr))) (aj (stringslite_IndexByte e4.data (0:Int)) fun y13=>
  ah (!(decide (y13≥(0:Int)))) ((bL x1 x2 kr k0 n (IntKind.i64.wrap (x3+(1:Int))))) (
  ah (e4.kind==(2:Int)) (
  ah (e4.data==([] :Str)) (aj (cf e4.entries) fun y14=>
  ah y14 ((bL x1 x2 kr k0 n (IntKind.i64.wrap (x3+(1:Int))))) ((kr))) ((kr))) ((kr))))) (
  ah (e4.kind==(2:Int)) (
  ah (e4.data==([] :Str)) (aj (cf e4.entries) fun y15=>
  ah y15 ((bL x1 x2 kr k0 n (IntKind.i64.wrap (x3+(1:Int))))) ((kr))) ((kr))) ((kr)))) (
  ah (e4.kind==(2:Int)) (
  ah (e4.data==([] :Str)) (aj (cf e4.entries) fun y16=>
  ah y16 ((bL x1 x2 kr k0 n (IntKind.i64.wrap (x3+(1:Int))))) ((kr))) ((kr))) ((kr)))) (
  ah (e4.kind==(2:Int)) (
  ah (e4.data==([] :Str)) (aj (cf e4.entries) fun y17=>
  ah y17 ((bL x1 x2 kr k0 n (IntKind.i64.wrap (x3+(1:Int))))) ((kr))) ((kr))) ((kr)))) (
  ah (e4.kind==(2:Int)) (
  ah (e4.data==([] :Str)) (aj (cf e4.entries) fun y18=>
  ah y18 ((bL x1 x2 kr k0 n (IntKind.i64.wrap (x3+(1:Int))))) ((kr))) ((kr))) ((kr))))) (
  ah (e4.kind==(1:Int)) (
  ah (e4.kind==(3:Int)) (
  ah (e4.kind==(2:Int)) (
  ah (e4.data==([] :Str)) (aj (cf e4.entries) fun y19=>
  ah y19 ((bL x1 x2 kr k0 n (IntKind.i64.wrap (x3+(1:Int))))) ((kr))) ((kr))) ((kr))) (
  ah (e4.kind==(2:Int)) (
  ah (e4.data==([] :Str)) (aj (cf e4.entries) fun y20=>
  ah y20 ((bL x1 x2 kr k0 n (IntKind.i64.wrap (x3+(1:Int))))) ((kr))) ((kr))) ((kr)))) (
  ah (e4.kind==(3:Int)) (
  ah (e4.kind==(2:Int)) (
  ah (e4.data==([] :Str)) (aj (cf e4.entries) fun y21=>
  ah y21 ((bL x1 x2 kr k0 n (IntKind.i64.wrap (x3+(1:Int))))) ((kr))) ((kr))) ((kr))) (
  ah (e4.kind==(2:Int)) (
  ah (e4.data==([] :Str)) (aj (cf e4.entries) fun y22=>
  ah y22 ((bL x1 x2 kr k0 n (IntKind.i64.wrap (x3+(1:Int))))) ((kr))) ((kr))) ((kr)))))) (none)) ((k0))
noncomputable def l6 (w0:Fs):Option (Bool):=
 bL w0.aa (List.length w0.aa:Int) (some false) (some true) bg (0:Int)
noncomputable def iH {R:Type} (x1:List ae) (x2:Int) (k0:(List (Int×ae×Nat))→Nat→Option R):Nat→Int→(List (Int×ae×Nat))→Nat→Option R
 |0,_,_,_=>none
 |n+1,x3,x5,x6=>
  ah (decide (x3<x2)) (
  ah (decide (0≤x3)) (aj x1[Int.toNat x3]? fun e7=>(iH x1 x2 k0 n (IntKind.i64.wrap (x3+(1:Int))) (kW (κ:= .int) (τ:= .aL) e7.ino e7 x6 x5) (qX (κ:= .int) (τ:= .aL) e7.ino x6 x5))) (none)) ((k0 x5 x6))
noncomputable def iT {R:Type} (x22:List Entry) (x23:Int) (x25:List (Int×ae×Nat)) (kr:Option R) (k2:Option R):Nat→Int→Option R
 |0,_=>none
 |n+1,x24=>
  ah (decide (x24<x23)) (
  ah (decide (0≤x24)) (aj x22[Int.toNat x24]? fun e27=>fu (κ:= .int) (τ:= .aL) e27.ino x25 (fun e28 b29=>(iT x22 x23 x25 kr k2 n (IntKind.i64.wrap (x24+(1:Int))))) ((kr))) (none)) ((k2))
noncomputable def kZ {R:Type} (x13:List ae) (x14:Int) (x16:List (Int×ae×Nat)) (kr:Option R) (k0:Option R):Nat→Int→Option R
 |0,_=>none
 |n+1,x15=>
  ah (decide (x15<x14)) (
  ah (decide (0≤x15)) (aj x13[Int.toNat x15]? fun e18=>iT e18.entries (List.length e18.entries:Int) x16 ((kr)) ((kZ x13 x14 x16 kr k0 n (IntKind.i64.wrap (x15+(1:Int))))) bg (0:Int)) (none)) ((k0))
noncomputable def lY (w0:Fs):Option (Bool):=
 iH w0.aa (List.length w0.aa:Int) (fun z11 z12=>kZ w0.aa (List.length w0.aa:Int) z11 (some false) (some true) bg (0:Int)) bg (0:Int) ([] :List (Int×ae×Nat)) 0
noncomputable def gI {R:Type} (x13:List Entry) (x14:Int) (x21:ae) (k2:(List (Int×Int×Nat))→Nat→(List (Int×Int×Nat))→Nat→Option R):Nat→Int→(List (Int×Int×Nat))→Nat→(List (Int×Int×Nat))→Nat→Option R
 |0,_,_,_,_,_=>none
 |n+1,x15,x17,x18,x19,x20=>
  ah (decide (x15<x14)) (
  ah (decide (0≤x15)) (aj x13[Int.toNat x15]? fun e22=>fu (κ:= .int) (τ:= .int) e22.ino x17 (fun e23 b24=>(gI x13 x14 x21 k2 n (IntKind.i64.wrap (x15+(1:Int))) (kW (κ:= .int) (τ:= .int) e22.ino (IntKind.i64.wrap (e23+(1:Int))) x18 x17) (qX (κ:= .int) (τ:= .int) e22.ino x18 x17) (kW (κ:= .int) (τ:= .int) e22.ino x21.ino x20 x19) (qX (κ:= .int) (τ:= .int) e22.ino x20 x19))) ((gI x13 x14 x21 k2 n (IntKind.i64.wrap (x15+(1:Int))) (kW (κ:= .int) (τ:= .int) e22.ino (IntKind.i64.wrap (0+(1:Int))) x18 x17) (qX (κ:= .int) (τ:= .int) e22.ino x18 x17) (kW (κ:= .int) (τ:= .int) e22.ino x21.ino x20 x19) (qX (κ:= .int) (τ:= .int) e22.ino x20 x19)))) (none)) ((k2 x17 x18 x19 x20))
noncomputable def kQ {R:Type} (x1:List ae) (x2:Int) (k0:(List (Int×Int×Nat))→Nat→(List (Int×Int×Nat))→Nat→Option R):Nat→Int→(List (Int×Int×Nat))→Nat→(List (Int×Int×Nat))→Nat→Option R
 |0,_,_,_,_,_=>none
 |n+1,x3,x5,x6,x7,x8=>
  ah (decide (x3<x2)) (
  ah (decide (0≤x3)) (aj x1[Int.toNat x3]? fun e9=>gI e9.entries (List.length e9.entries:Int) e9 (fun z33 z34 z35 z36=>(kQ x1 x2 k0 n (IntKind.i64.wrap (x3+(1:Int))) z33 z34 z35 z36)) bg (0:Int) x5 x6 x7 x8) (none)) ((k0 x5 x6 x7 x8))
noncomputable def cL {R:Type} (x46:List ae) (x47:Int) (x49:List (Int×Int×Nat)) (x51:List (Int×Int×Nat)) (kr:Option R) (k4:Option R):Nat→Int→Option R
 |0,_=>none
 |n+1,x48=>
  ah (decide (x48<x47)) (
  ah (decide (0≤x48)) (aj x46[Int.toNat x48]? fun e53=>
  ah (e53.ino==(1:Int)) (
  ah (e53.aq !=(0:Int)) ((kr)) (fu (κ:= .int) (τ:= .int) e53.ino x49 (fun e54 b55=>
  ah (e54 !=(0:Int)) ((kr)) (
  ah (e53.parent !=(1:Int)) ((kr)) ((cL x46 x47 x49 x51 kr k4 n (IntKind.i64.wrap (x48+(1:Int))))))) (
  ah (0 !=(0:Int)) ((kr)) (
  ah (e53.parent !=(1:Int)) ((kr)) ((cL x46 x47 x49 x51 kr k4 n (IntKind.i64.wrap (x48+(1:Int))))))))) (fu (κ:= .int) (τ:= .int) e53.ino x49 (fun e56 b57=>
  ah (e53.aq !=e56) ((kr)) (
  ah (decide (e53.aq<(1:Int))) ((kr)) (
  ah (e53.kind==(2:Int)) (
  ah (e53.aq !=(1:Int)) ((kr)) (fu (κ:= .int) (τ:= .int) e53.ino x51 (fun e58 b59=>
  ah (e53.parent !=e58) ((kr)) ((cL x46 x47 x49 x51 kr k4 n (IntKind.i64.wrap (x48+(1:Int)))))) (
  ah (e53.parent !=0) ((kr)) ((cL x46 x47 x49 x51 kr k4 n (IntKind.i64.wrap (x48+(1:Int)))))))) ((cL x46 x47 x49 x51 kr k4 n (IntKind.i64.wrap (x48+(1:Int)))))))) (
  ah (e53.aq !=0) ((kr)) (
  ah (decide (e53.aq<(1:Int))) ((kr)) (
  ah (e53.kind==(2:Int)) (
  ah (e53.aq !=(1:Int)) ((kr)) (fu (κ:= .int) (τ:= .int) e53.ino x51 (fun e60 b61=>
  ah (e53.parent !=e60) ((kr)) ((cL x46 x47 x49 x51 kr k4 n (IntKind.i64.wrap (x48+(1:Int)))))) (
  ah (e53.parent !=0) ((kr)) ((cL x46 x47 x49 x51 kr k4 n (IntKind.i64.wrap (x48+(1:Int)))))))) ((cL x46 x47 x49 x51 kr k4 n (IntKind.i64.wrap (x48+(1:Int)))))))))) (none)) ((k4))
noncomputable def lX (w0:Fs):Option (Bool):=
 kQ w0.aa (List.length w0.aa:Int) (fun z42 z43 z44 z45=>cL w0.aa (List.length w0.aa:Int) z42 z44 (some false) (some true) bg (0:Int)) bg (0:Int) ([] :List (Int×Int×Nat)) 0 ([] :List (Int×Int×Nat)) 0
noncomputable def k_ {R:Type} (x1:List ae) (x2:Int) (k0:(List (Int×ae×Nat))→Nat→Option R):Nat→Int→(List (Int×ae×Nat))→Nat→Option R
 |0,_,_,_=>none
 |n+1,x3,x5,x6=>
  ah (decide (x3<x2)) (
  ah (decide (0≤x3)) (aj x1[Int.toNat x3]? fun e7=>(k_ x1 x2 k0 n (IntKind.i64.wrap (x3+(1:Int))) (kW (κ:= .int) (τ:= .aL) e7.ino e7 x6 x5) (qX (κ:= .int) (τ:= .aL) e7.ino x6 x5))) (none)) ((k0 x5 x6))
noncomputable def gQ {R:Type} (x16:List Entry) (x17:Int) (k2:(List (Int×Bool×Nat))→Nat→(List Int)→Option R):Nat→Int→(List (Int×Bool×Nat))→Nat→(List Int)→Option R
 |0,_,_,_,_=>none
 |n+1,x18,x22,x23,x24=>
  ah (decide (x18<x17)) (
  ah (decide (0≤x18)) (aj x16[Int.toNat x18]? fun e25=>fu (κ:= .int) (τ:= .bool) e25.ino x22 (fun e26 b27=>
  ah (!e26) (aQ (x24.length+[e25.ino].length) ((gQ x16 x17 k2 n (IntKind.i64.wrap (x18+(1:Int))) (kW (κ:= .int) (τ:= .bool) e25.ino true x23 x22) (qX (κ:= .int) (τ:= .bool) e25.ino x23 x22) (x24++[e25.ino])))) ((gQ x16 x17 k2 n (IntKind.i64.wrap (x18+(1:Int))) x22 x23 x24))) (aQ (x24.length+[e25.ino].length) ((gQ x16 x17 k2 n (IntKind.i64.wrap (x18+(1:Int))) (kW (κ:= .int) (τ:= .bool) e25.ino true x23 x22) (qX (κ:= .int) (τ:= .bool) e25.ino x23 x22) (x24++[e25.ino]))))) (none)) ((k2 x22 x23 x24))
noncomputable def oQ (w0:Fs):Option (Bool):=
 k_ w0.aa (List.length w0.aa:Int) (fun z11 z12=>
 ah (decide ((List.length [(1:Int)]:Int)>(0:Int))) (
 ah (decide (0≤(0:Int)∧(0:Int)<([(1:Int)].length:Int))) (aj [(1:Int)][(Int.toNat (0:Int))]? fun e13=>fu (κ:= .int) (τ:= .aL) e13 z11 (fun e14 b15=>gQ e14.entries (List.length e14.entries:Int) (fun z34 z35 z36=>
 ah (decide (0≤(1:Int)∧(1:Int)≤(z36.length:Int))) (
 ah (decide (((z36.length - (Int.toNat (1:Int)):Nat):Int)>(0:Int))) (
 ah (decide (0≤(0:Int)∧(0:Int)<((z36.length - (Int.toNat (1:Int)):Nat):Int))) (aj z36[((Int.toNat (1:Int))+Int.toNat (0:Int))]? fun e37=>fu (κ:= .int) (τ:= .aL) e37 z11 (fun e38 b39=>none) (none)) (none)) (some ((List.length z34:Int)==(List.length w0.aa:Int)))) (none)) bg (0:Int) ([((1:Int),true,0)]:List (Int×Bool×Nat)) 1 [(1:Int)]) (gQ ([] :List Entry) (List.length ([] :List Entry):Int) (fun z40 z41 z42=>
 ah (decide (0≤(1:Int)∧(1:Int)≤(z42.length:Int))) (
 ah (decide (((z42.length - (Int.toNat (1:Int)):Nat):Int)>(0:Int))) (
 ah (decide (0≤(0:Int)∧(0:Int)<((z42.length - (Int.toNat (1:Int)):Nat):Int))) (aj z42[((Int.toNat (1:Int))+Int.toNat (0:Int))]? fun e43=>fu (κ:= .int) (τ:= .aL) e43 z11 (fun e44 b45=>none) (none)) (none)) (some ((List.length z40:Int)==(List.length w0.aa:Int)))) (none)) bg (0:Int) ([((1:Int),true,0)]:List (Int×Bool×Nat)) 1 [(1:Int)])) (none)) (some ((List.length ([((1:Int),true,0)]:List (Int×Bool×Nat)):Int)==(List.length w0.aa:Int)))) bg (0:Int) ([] :List (Int×ae×Nat)) 0
noncomputable def pU (w0:Fs):Option (Bool):=
 aj (fx w0 (0:Int) (0:Int)) fun y1=>some y1
noncomputable def oB (w0:Fs):Option (Int):=
 aj (jK w0) fun y1=>
 ah (!y1) (some (1:Int)) (aj (l6 w0) fun y2=>
 ah (!y2) (some (2:Int)) (aj (lY w0) fun y3=>
 ah (!y3) (some (3:Int)) (aj (lX w0) fun y4=>
 ah (!y4) (some (4:Int)) (aj (oQ w0) fun y5=>
 ah (!y5) (some (5:Int)) (aj (pU w0) fun y6=>
 ah (!y6) (some (6:Int)) (some (0:Int)))))))
noncomputable def oD (w0:Fs):Option (Bool):=
 aj (oB w0) fun y1=>some (y1==(0:Int))
end Go.Eng
