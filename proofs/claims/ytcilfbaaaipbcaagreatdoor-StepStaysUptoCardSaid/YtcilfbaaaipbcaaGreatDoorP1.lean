/- A part of the proofs of the laws of this seat: the engine that reads the program's code, plain functions, or facts of the program's functions. Conditions: none. -/
import Derived.Test.YtcilfbaaaipbcaaGreatDoorE4
import Derived.Lib.Bytealg
import Derived.Lib.IndexAny
import Derived.Lib.Join
set_option linter.unusedSectionVars false
set_option linter.unusedVariables false
set_option linter.unusedSimpArgs false
set_option linter.unnecessarySimpa false
set_option maxRecDepth 100000
namespace Go.Eng
open Go
abbrev sh {α β:Type} (x:α) (f:α→β):β:=f x
def strings_Compare (a b:Str):Option Int:=some (Lib.compareBytes a b)
def stringslite_IndexByte (a:Str) (c:Int):Option Int:=some (Lib.indexByte a c.toNat.toUInt8)
noncomputable def strings_Join (l:List Str) (sep:Str):Option Str:=open Classical in if (Lib.join l sep).length+l.length≤67108864 then some (Lib.join l sep) else none
theorem Jj {w:World} {bk of:Nat}:∀(l:List Str),(∀i,(hi:i<l.length)→∃b:ByteArray,w.cell? ⟨bk,of+i,none⟩=some (.string b)∧b.data.toList=l[i])→
 ∃xs:List ByteArray,xs.length=l.length∧(∀(j:Nat) x,xs[j]? =some x→w.cell? ⟨bk,of+j,none⟩=some (.string x))∧xs.map (·.data.toList)=l:=by
 intro l h;refine⟨(List.range l.length).pmap (fun i hi=>Classical.choose (h i hi)) (fun i hi=>by simpa using hi),by simp,fun j x hx=> ?_, ?_⟩
 ·have hj:j<l.length:=by
   have:=(List.getElem?_eq_some_iff.1 hx).1;simpa using this
  have:=(Classical.choose_spec (h j hj)).1;simp [List.getElem?_pmap,hj] at hx;rw[←hx];exact this
 ·apply List.ext_getElem
  ·simp
  ·intro i h1 h2
   simp only[List.getElem_map,List.getElem_pmap,List.getElem_range];exact(Classical.choose_spec (h i h2)).2
noncomputable def iw {R:Type} (x1:Str) (kr:Option R) (k0:Option R):Nat→Int→Option R
 |0,_=>none
 |n+1,x2=>
  ae (decide (x2<(List.length x1:Int))) (
  ae (decide (0≤x2)) (aj x1[Int.toNat x2]? fun c3=>
  ae ((UInt8.toNat c3:Int)==(47:Int)) ((kr)) (
  ae (decide (0≤x2)) (aj x1[Int.toNat x2]? fun c4=>
  ae ((UInt8.toNat c4:Int)==(0:Int)) ((kr)) ((iw x1 kr k0 n (IntKind.i64.wrap (x2+(1:Int)))))) (none))) (none)) ((k0))
noncomputable def j5 (w0:Str):Option (Bool):=
 iw w0 (some false) (
 ae (decide ((List.length w0:Int)≥(1:Int))) (
 ae (decide ((List.length w0:Int)≤(255:Int))) (
 ae (!(w0==([46]:Str))) (some (!(w0==([46,46]:Str)))) (some false)) (some false)) (some false)) bw (0:Int)
noncomputable def cT {R:Type} (x1:Str) (k0:(List Str)→Option R):Nat→Str→Int→(List Str)→Option R
 |0,_,_,_=>none
 |n+1,x2,x3,x4=>
  ae (decide (x3≤(List.length x1:Int))) (
  ae (decide (x3<(List.length x1:Int))) (
  ae (decide (0≤x3)) (aj x1[Int.toNat x3]? fun c5=>
  ae ((UInt8.toNat c5:Int) !=(47:Int)) (
  ae (decide (0≤(IntKind.i64.wrap (x3+(1:Int)))∧(IntKind.i64.wrap (x3+(1:Int)))≤(x1.length:Int))) (
  ae (decide (0≤x3∧x3≤(IntKind.i64.wrap (x3+(1:Int))))) (aT (x2.length+((x1.take (Int.toNat (IntKind.i64.wrap (x3+(1:Int))))).drop (Int.toNat x3)).length) ((cT x1 k0 n (x2++((x1.take (Int.toNat (IntKind.i64.wrap (x3+(1:Int))))).drop (Int.toNat x3))) (IntKind.i64.wrap (x3+(1:Int))) x4))) (none)) (none)) (
  ae (!(x2==([] :Str))) (aT (x4.length+[x2].length) ((cT x1 k0 n ([] :Str) (IntKind.i64.wrap (x3+(1:Int))) (x4++[x2])))) ((cT x1 k0 n ([] :Str) (IntKind.i64.wrap (x3+(1:Int))) x4)))) (none)) (
  ae (!(x2==([] :Str))) (aT (x4.length+[x2].length) ((cT x1 k0 n ([] :Str) (IntKind.i64.wrap (x3+(1:Int))) (x4++[x2])))) ((cT x1 k0 n ([] :Str) (IntKind.i64.wrap (x3+(1:Int))) x4)))) ((k0 x4))
noncomputable def gh (w0:Str):Option ((List Str)):=
 cT w0 (fun z7=>some z7) bw ([] :Str) (0:Int) ([] :List Str)
noncomputable def gI {R:Type} (x1:List Str) (k0:Str→Option R):Nat→Str→Int→Option R
 |0,_,_=>none
 |n+1,x2,x3=>
  ae (decide (x3<(List.length x1:Int))) (aT (x2.length+([47]:Str).length) (
  ae (decide (0≤x3)) (aj x1[Int.toNat x3]? fun e4=>aT ((x2++([47]:Str)).length+e4.length) ((gI x1 k0 n ((x2++([47]:Str))++e4) (IntKind.i64.wrap (x3+(1:Int)))))) (none))) ((k0 x2))
noncomputable def oQ (w0:(List Str)):Option (Str):=
 ae ((List.length w0:Int)==(0:Int)) (some ([47]:Str)) (gI w0 (fun z6=>some z6) bw ([] :Str) (0:Int))
noncomputable def eX {R:Type} (x3:List Str) (kr:Option R) (k0:Option R):Nat→Int→Option R
 |0,_=>none
 |n+1,x4=>
  ae (decide (x4<(List.length x3:Int))) (
  ae (decide (0≤x4)) (aj x3[Int.toNat x4]? fun e5=>aj (j5 e5) fun y6=>
  ae (!y6) ((kr)) ((eX x3 kr k0 n (IntKind.i64.wrap (x4+(1:Int)))))) (none)) ((k0))
noncomputable def kN (w0:Str):Option ((List Str)×Bool):=
 aj (gh w0) fun y1=>eX y1 (some (([] :List Str),false)) (aj (oQ y1) fun y11=>
 ae (!(y11==w0)) (some (([] :List Str),false)) (some (y1,true))) bw (0:Int)
noncomputable def gN {R:Type} (x3:List Str) (kr:Option R) (k0:Option R):Nat→Int→Option R
 |0,_=>none
 |n+1,x4=>
  ae (decide (x4<(List.length x3:Int))) (
  ae (decide (0≤x4)) (aj x3[Int.toNat x4]? fun e5=>
  ae (decide ((List.length e5:Int)>(255:Int))) ((kr)) ((gN x3 kr k0 n (IntKind.i64.wrap (x4+(1:Int)))))) (none)) ((k0))
noncomputable def ja (w0:Str):Option (Bool):=
 aj (gh w0) fun y1=>gN y1 (some true) (some (decide ((List.length w0:Int)>(4095:Int)))) bw (0:Int)
noncomputable def ij (w0:Str):Option (Pth):=
 aj (gh w0) fun y1=>
 ae (decide ((List.length w0:Int)>(0:Int))) (
 ae (decide (0≤(0:Int))) (aj w0[Int.toNat (0:Int)]? fun c2=>
 ae (decide ((List.length y1:Int)>(0:Int))) (
 ae (decide (0≤(IntKind.i64.wrap ((List.length w0:Int) - (1:Int))))) (aj w0[Int.toNat (IntKind.i64.wrap ((List.length w0:Int) - (1:Int)))]? fun c3=>some (⟨((UInt8.toNat c2:Int)==(47:Int)),y1,((UInt8.toNat c3:Int)==(47:Int))⟩:Pth)) (none)) (some (⟨((UInt8.toNat c2:Int)==(47:Int)),y1,false⟩:Pth))) (none)) (
 ae (decide ((List.length y1:Int)>(0:Int))) (
 ae (decide (0≤(IntKind.i64.wrap ((List.length w0:Int) - (1:Int))))) (aj w0[Int.toNat (IntKind.i64.wrap ((List.length w0:Int) - (1:Int)))]? fun c4=>some (⟨false,y1,((UInt8.toNat c4:Int)==(47:Int))⟩:Pth)) (none)) (some (⟨false,y1,false⟩:Pth)))
noncomputable def fP {R:Type} (x3:List Str) (x4:List Str) (kr:Option R) (k0:Option R):Nat→Int→Option R
 |0,_=>none
 |n+1,x5=>
  ae (decide (x5<(List.length x4:Int))) (
  ae (decide (0≤x5)) (aj x3[Int.toNat x5]? fun e6=>
  ae (decide (0≤x5)) (aj x4[Int.toNat x5]? fun e7=>
  ae (!(e6==e7)) ((kr)) ((fP x3 x4 kr k0 n (IntKind.i64.wrap (x5+(1:Int)))))) (none)) (none)) ((k0))
noncomputable def bh (w0:Str) (w1:Str):Option (Bool):=
 aj (gh w0) fun y1=>aj (gh w1) fun y2=>
 ae (decide ((List.length y2:Int)>(List.length y1:Int))) (some false) (fP y1 y2 (some false) (some true) bw (0:Int))
noncomputable def gG {R:Type} (x1:List Entry) (x2:List Entry) (kr:Option R) (k0:Option R):Nat→Int→Option R
 |0,_=>none
 |n+1,x3=>
  ae (decide (x3<(List.length x1:Int))) (
  ae (decide (0≤x3)) (aj x1[Int.toNat x3]? fun e4=>
  ae (decide (0≤x3)) (aj x2[Int.toNat x3]? fun e5=>
  ae (!((e4.name==e5.name)&&(e4.ino==e5.ino))) ((kr)) ((gG x1 x2 kr k0 n (IntKind.i64.wrap (x3+(1:Int)))))) (none)) (none)) ((k0))
noncomputable def oO (w0:(List Entry)) (w1:(List Entry)):Option (Bool):=
 ae ((List.length w0:Int) !=(List.length w1:Int)) (some false) (gG w0 w1 (some false) (some true) bw (0:Int))
noncomputable def e_ {R:Type} (x1:List Entry) (kr:Option R) (k0:Option R):Nat→Int→Option R
 |0,_=>none
 |n+1,x2=>
  ae (decide (x2<(List.length x1:Int))) (
  ae (decide (0≤x2)) (aj x1[Int.toNat x2]? fun e3=>aj (j5 e3.name) fun y4=>
  ae (!y4) ((kr)) (
  ae (decide (0≤x2)) (aj x1[Int.toNat x2]? fun e5=>
  ae (decide (e5.ino<(1:Int))) ((kr)) (
  ae (decide (x2>(0:Int))) (
  ae (decide (0≤(IntKind.i64.wrap (x2 - (1:Int))))) (aj x1[Int.toNat (IntKind.i64.wrap (x2 - (1:Int)))]? fun e6=>
  ae (decide (0≤x2)) (aj x1[Int.toNat x2]? fun e7=>
  ae (!Op.bytesLess e6.name e7.name) ((kr)) ((e_ x1 kr k0 n (IntKind.i64.wrap (x2+(1:Int)))))) (none)) (none)) ((e_ x1 kr k0 n (IntKind.i64.wrap (x2+(1:Int))))))) (none))) (none)) ((k0))
noncomputable def fo (w0:(List Entry)):Option (Bool):=
 e_ w0 (some false) (some true) bw (0:Int)
noncomputable def gJ {R:Type} (x1:List Entry) (x2:Str) (kr:Int→Option R) (k0:Option R):Nat→Int→Option R
 |0,_=>none
 |n+1,x3=>
  ae (decide (x3<(List.length x1:Int))) (
  ae (decide (0≤x3)) (aj x1[Int.toNat x3]? fun e4=>
  ae (e4.name==x2) (
  ae (decide (0≤x3)) (aj x1[Int.toNat x3]? fun e5=>(kr e5.ino)) (none)) ((gJ x1 x2 kr k0 n (IntKind.i64.wrap (x3+(1:Int)))))) (none)) ((k0))
noncomputable def km (w0:(List Entry)) (w1:Str):Option (Int×Bool):=
 gJ w0 w1 (fun z8=>some (z8,true)) (some ((0:Int),false)) bw (0:Int)
noncomputable def dO {R:Type} (x1:List Entry) (x2:Str) (k0:(List Entry)→Option R):Nat→Int→(List Entry)→Option R
 |0,_,_=>none
 |n+1,x3,x4=>
  ae (decide (x3<(List.length x1:Int))) (
  ae (decide (0≤x3)) (aj x1[Int.toNat x3]? fun e5=>
  ae (!(e5.name==x2)) (
  ae (decide (0≤x3)) (aj x1[Int.toNat x3]? fun e6=>aT (x4.length+[e6].length) ((dO x1 x2 k0 n (IntKind.i64.wrap (x3+(1:Int))) (x4++[e6])))) (none)) ((dO x1 x2 k0 n (IntKind.i64.wrap (x3+(1:Int))) x4))) (none)) ((k0 x4))
noncomputable def eI (w0:(List Entry)) (w1:Str):Option ((List Entry)):=
 dO w0 w1 (fun z8=>some z8) bw (0:Int) ([] :List Entry)
noncomputable def eG {R:Type} (x2:Str) (x3:Int) (x4:List Entry) (k0:Bool→(List Entry)→Option R):Nat→Bool→Int→(List Entry)→Option R
 |0,_,_,_=>none
 |n+1,x5,x6,x7=>
  ae (decide (x6<(List.length x4:Int))) (
  ae (!x5) (
  ae (decide (0≤x6)) (aj x4[Int.toNat x6]? fun e8=>
  ae (!(Op.bytesLess e8.name x2||e8.name==x2)) (aT (x7.length+[(⟨x2,x3⟩:Entry)].length) (
  ae (decide (0≤x6)) (aj x4[Int.toNat x6]? fun e9=>aT ((x7++[(⟨x2,x3⟩:Entry)]).length+[e9].length) ((eG x2 x3 x4 k0 n true (IntKind.i64.wrap (x6+(1:Int))) ((x7++[(⟨x2,x3⟩:Entry)])++[e9])))) (none))) (
  ae (decide (0≤x6)) (aj x4[Int.toNat x6]? fun e10=>aT (x7.length+[e10].length) ((eG x2 x3 x4 k0 n x5 (IntKind.i64.wrap (x6+(1:Int))) (x7++[e10])))) (none))) (none)) (
  ae (decide (0≤x6)) (aj x4[Int.toNat x6]? fun e11=>aT (x7.length+[e11].length) ((eG x2 x3 x4 k0 n x5 (IntKind.i64.wrap (x6+(1:Int))) (x7++[e11])))) (none))) ((k0 x5 x7))
noncomputable def fE (w0:(List Entry)) (w1:Str) (w2:Int):Option ((List Entry)):=
 aj (eI w0 w1) fun y1=>eG w1 w2 y1 (fun z16 z17=>
 ae (!z16) (aT (z17.length+[(⟨w1,w2⟩:Entry)].length) (some (z17++[(⟨w1,w2⟩:Entry)]))) (some z17)) bw false (0:Int) ([] :List Entry)
noncomputable def fI {R:Type} (x1:Int) (x3:Fs) (k0:(List al)→Option R):Nat→Int→(List al)→Option R
 |0,_,_=>none
 |n+1,x2,x5=>
  ae (decide (x2<(List.length x3.aa:Int))) (
  ae (decide (0≤x2)) (aj x3.aa[Int.toNat x2]? fun e6=>
  ae (e6.ino !=x1) (
  ae (decide (0≤x2)) (aj x3.aa[Int.toNat x2]? fun e7=>aT (x5.length+[e7].length) ((fI x1 x3 k0 n (IntKind.i64.wrap (x2+(1:Int))) (x5++[e7])))) (none)) ((fI x1 x3 k0 n (IntKind.i64.wrap (x2+(1:Int))) x5))) (none)) ((k0 x5))
noncomputable def dB (w0:Fs) (w1:Int):Option (Fs):=
 fI w1 w0 (fun z11=>some (⟨w0.aA,w0.aH,w0.next,z11⟩:Fs)) bw (0:Int) ([] :List al)
noncomputable def fw {R:Type} (x2:List al) (x6:al) (k0:Bool→(List al)→Option R):Nat→Bool→Int→(List al)→Option R
 |0,_,_,_=>none
 |n+1,x3,x4,x8=>
  ae (decide (x4<(List.length x2:Int))) (
  ae (!x3) (
  ae (decide (0≤x4)) (aj x2[Int.toNat x4]? fun e9=>
  ae (decide (e9.ino>x6.ino)) (aT (x8.length+[x6].length) (
  ae (decide (0≤x4)) (aj x2[Int.toNat x4]? fun e10=>aT ((x8++[x6]).length+[e10].length) ((fw x2 x6 k0 n true (IntKind.i64.wrap (x4+(1:Int))) ((x8++[x6])++[e10])))) (none))) (
  ae (decide (0≤x4)) (aj x2[Int.toNat x4]? fun e11=>aT (x8.length+[e11].length) ((fw x2 x6 k0 n x3 (IntKind.i64.wrap (x4+(1:Int))) (x8++[e11])))) (none))) (none)) (
  ae (decide (0≤x4)) (aj x2[Int.toNat x4]? fun e12=>aT (x8.length+[e12].length) ((fw x2 x6 k0 n x3 (IntKind.i64.wrap (x4+(1:Int))) (x8++[e12])))) (none))) ((k0 x3 x8))
noncomputable def bG (w0:Fs) (w1:al):Option (Fs):=
 aj (dB w0 w1.ino) fun y1=>fw y1.aa w1 (fun z18 z19=>
 ae (!z18) (aT (z19.length+[w1].length) (some (⟨w0.aA,w0.aH,w0.next,(z19++[w1])⟩:Fs))) (some (⟨w0.aA,w0.aH,w0.next,z19⟩:Fs))) bw false (0:Int) ([] :List al)
noncomputable def uD (w0:Int) (w1:Int):Option (Fs):=
 some (⟨w0,w1,(2:Int),[(⟨(1:Int),(2:Int),0, [],(1:Int),([] :List Entry)⟩:al)]⟩:Fs)
noncomputable def gj {R:Type} (x7:al) (kr:Option R) (k2:Option R):Nat→Int→Option R
 |0,_=>none
 |n+1,x5=>
  ae (decide (x5<(List.length x7.entries:Int))) (
  ae (decide (0≤x5)) (aj x7.entries[Int.toNat x5]? fun e8=>
  ae (decide ((List.length e8.name:Int)>(300:Int))) ((kr)) ((gj x7 kr k2 n (IntKind.i64.wrap (x5+(1:Int)))))) (none)) ((k2))
noncomputable def iy {R:Type} (x2:Fs) (kr:Option R) (k0:Option R):Nat→Int→Option R
 |0,_=>none
 |n+1,x1=>
  ae (decide (x1<(List.length x2.aa:Int))) (
  ae (decide (x1<(100:Int))) (
  ae (decide (0≤x1)) (aj x2.aa[Int.toNat x1]? fun e3=>
  ae (decide ((List.length e3.data:Int)>(5000:Int))) ((kr)) (
  ae (decide ((List.length e3.entries:Int)>(40:Int))) ((kr)) (gj e3 ((kr)) ((iy x2 kr k0 n (IntKind.i64.wrap (x1+(1:Int))))) bw (0:Int)))) (none)) ((k0))) ((k0))
noncomputable def kj (w0:Fs):Option (Bool):=
 iy w0 (some false) (some (decide ((List.length w0.aa:Int)≤(40:Int)))) bw (0:Int)
noncomputable def iB {R:Type} (x1:Int) (x3:Fs) (kr:al→Option R) (k0:Option R):Nat→Int→Option R
 |0,_=>none
 |n+1,x2=>
  ae (decide (x2<(List.length x3.aa:Int))) (
  ae (decide (0≤x2)) (aj x3.aa[Int.toNat x2]? fun e5=>
  ae (e5.ino==x1) (
  ae (decide (0≤x2)) (aj x3.aa[Int.toNat x2]? fun e6=>(kr e6)) (none)) ((iB x1 x3 kr k0 n (IntKind.i64.wrap (x2+(1:Int)))))) (none)) ((k0))
noncomputable def bH (w0:Fs) (w1:Int):Option (al×Bool):=
 iB w1 w0 (fun z10=>some (z10,true)) (some ((⟨0,0,0, [],0,([] :List Entry)⟩:al),false)) bw (0:Int)
noncomputable def iK {R:Type} (x2:Fs) (kr:Option R) (k0:Option R):Nat→Int→Option R
 |0,_=>none
 |n+1,x1=>
  ae (decide (x1<(List.length x2.aa:Int))) (
  ae (decide (0≤(IntKind.i64.wrap (x1 - (1:Int))))) (aj x2.aa[Int.toNat (IntKind.i64.wrap (x1 - (1:Int)))]? fun e3=>
  ae (decide (0≤x1)) (aj x2.aa[Int.toNat x1]? fun e4=>
  ae (decide (e3.ino≥e4.ino)) ((kr)) ((iK x2 kr k0 n (IntKind.i64.wrap (x1+(1:Int)))))) (none)) (none)) ((k0))
noncomputable def mf (w0:Fs):Option (Bool):=
 iK w0 (some false) (some true) bw (1:Int)
noncomputable def qZ (w0:al) (w1:al):Option (Bool):=
 ae (w0.ino==w1.ino) (
 ae (w0.kind==w1.kind) (
 ae (w0.aI==w1.aI) (
 ae (w0.data==w1.data) (
 ae (w0.parent==w1.parent) (aj (oO w0.entries w1.entries) fun y1=>some y1) (some false)) (some false)) (some false)) (some false)) (some false)
noncomputable def gE {R:Type} (x1:List al) (x2:List al) (kr:Option R) (k0:Option R):Nat→Int→Option R
 |0,_=>none
 |n+1,x3=>
  ae (decide (x3<(List.length x1:Int))) (
  ae (decide (0≤x3)) (aj x1[Int.toNat x3]? fun e4=>
  ae (decide (0≤x3)) (aj x2[Int.toNat x3]? fun e5=>aj (qZ e4 e5) fun y6=>
  ae (!y6) ((kr)) ((gE x1 x2 kr k0 n (IntKind.i64.wrap (x3+(1:Int)))))) (none)) (none)) ((k0))
noncomputable def mB (w0:(List al)) (w1:(List al)):Option (Bool):=
 ae ((List.length w0:Int) !=(List.length w1:Int)) (some false) (gE w0 w1 (some false) (some true) bw (0:Int))
noncomputable def j4 (w0:Fs) (w1:Fs):Option (Bool):=
 ae (w0.aA==w1.aA) (
 ae (w0.aH==w1.aH) (
 ae (w0.next==w1.next) (aj (mB w0.aa w1.aa) fun y1=>some y1) (some false)) (some false)) (some false)
noncomputable def eZ {R:Type} (x3:Fs) (k0:Int→Option R):Nat→Int→Int→Option R
 |0,_,_=>none
 |n+1,x1,x2=>
  ae (decide (x2<(List.length x3.aa:Int))) (
  ae (decide (0≤x2)) (aj x3.aa[Int.toNat x2]? fun e4=>
  ae (e4.kind==(1:Int)) (
  ae (decide (0≤x2)) (aj x3.aa[Int.toNat x2]? fun e5=>(eZ x3 k0 n (IntKind.i64.wrap (x1+(List.length e5.data:Int))) (IntKind.i64.wrap (x2+(1:Int))))) (none)) ((eZ x3 k0 n x1 (IntKind.i64.wrap (x2+(1:Int)))))) (none)) ((k0 x1))
noncomputable def mJ (w0:Fs):Option (Int):=
 eZ w0 (fun z7=>some z7) bw (0:Int) (0:Int)
noncomputable def eu (w0:Fs) (w1:Int) (w2:Int):Option (Bool):=
 ae (decide ((IntKind.i64.wrap ((List.length w0.aa:Int)+w1))>w0.aA)) (some false) (aj (mJ w0) fun y1=>some (decide ((IntKind.i64.wrap (y1+w2))≤w0.aH)))
noncomputable def fU {R:Type} (x2:Fs) (kr:Option R) (k0:Option R):Nat→Int→Option R
 |0,_=>none
 |n+1,x1=>
  ae (decide (x1<(List.length x2.aa:Int))) (
  ae (decide (0≤x1)) (aj x2.aa[Int.toNat x1]? fun e3=>
  ae (decide (e3.ino<(1:Int))) ((kr)) (
  ae (decide (0≤x1)) (aj x2.aa[Int.toNat x1]? fun e4=>
  ae (decide (e4.ino≥x2.next)) ((kr)) ((fU x2 kr k0 n (IntKind.i64.wrap (x1+(1:Int)))))) (none))) (none)) ((k0))
noncomputable def nc (w0:Fs):Option (Bool):=
 ae (decide (w0.aA<(1:Int))) (some false) (
 ae (decide (w0.aA>(1073741824:Int))) (some false) (
 ae (decide (w0.aH<(0:Int))) (some false) (
 ae (decide (w0.aH>(1073741824:Int))) (some false) (
 ae (decide (w0.next>(1099511627776:Int))) (some false) (fU w0 (some false) (aj (bH w0 (1:Int)) fun y7=>aj (mf w0) fun y8=>
 ae y8 (
 ae y7.2 (some (y7.1.kind==(2:Int))) (some false)) (some false)) bw (0:Int))))))
noncomputable def aU {R:Type} (x8:al) (kr:Option R) (k2:Option R):Nat→Int→Option R
 |0,_=>none
 |n+1,x6=>
  ae (decide (x6<(List.length x8.data:Int))) (
  ae (x8.kind==(3:Int)) (
  ae (decide (0≤x6)) (aj x8.data[Int.toNat x6]? fun c9=>
  ae ((UInt8.toNat c9:Int)==(0:Int)) ((kr)) ((aU x8 kr k2 n (IntKind.i64.wrap (x6+(1:Int)))))) (none)) ((k2))) ((k2))
noncomputable def bl {R:Type} (x2:Fs) (kr:Option R) (k0:Option R):Nat→Int→Option R
 |0,_=>none
 |n+1,x1=>
  ae (decide (x1<(List.length x2.aa:Int))) (
  ae (decide (0≤x1)) (aj x2.aa[Int.toNat x1]? fun e3=>
  ae (e3.kind !=(1:Int)) (
  ae (e3.kind !=(2:Int)) (
  ae (e3.kind !=(3:Int)) ((kr)) (
  ae (e3.kind !=(2:Int)) (
  ae (decide ((List.length e3.entries:Int)>(0:Int))) ((kr)) (
  ae (e3.parent !=(0:Int)) ((kr)) (
  ae (e3.kind==(2:Int)) (
  ae (!(e3.data==([] :Str))) ((kr)) (aj (fo e3.entries) fun y4=>
  ae (!y4) ((kr)) (
  ae (e3.kind==(3:Int)) (
  ae (decide ((List.length e3.data:Int)<(1:Int))) ((kr)) (
  ae (decide ((List.length e3.data:Int)>(4095:Int))) ((kr)) (aU e3 ((kr)) ((bl x2 kr k0 n (IntKind.i64.wrap (x1+(1:Int))))) bw (0:Int)))) (aU e3 ((kr)) ((bl x2 kr k0 n (IntKind.i64.wrap (x1+(1:Int))))) bw (0:Int))))) (
  ae (e3.kind==(3:Int)) (
  ae (decide ((List.length e3.data:Int)<(1:Int))) ((kr)) (
  ae (decide ((List.length e3.data:Int)>(4095:Int))) ((kr)) (aU e3 ((kr)) ((bl x2 kr k0 n (IntKind.i64.wrap (x1+(1:Int))))) bw (0:Int)))) (aU e3 ((kr)) ((bl x2 kr k0 n (IntKind.i64.wrap (x1+(1:Int))))) bw (0:Int)))))) (
  ae (e3.kind==(2:Int)) (
  ae (!(e3.data==([] :Str))) ((kr)) (aj (fo e3.entries) fun y13=>
  ae (!y13) ((kr)) (
  ae (e3.kind==(3:Int)) (
  ae (decide ((List.length e3.data:Int)<(1:Int))) ((kr)) (
  ae (decide ((List.length e3.data:Int)>(4095:Int))) ((kr)) (aU e3 ((kr)) ((bl x2 kr k0 n (IntKind.i64.wrap (x1+(1:Int))))) bw (0:Int)))) (aU e3 ((kr)) ((bl x2 kr k0 n (IntKind.i64.wrap (x1+(1:Int))))) bw (0:Int))))) (
  ae (e3.kind==(3:Int)) (
  ae (decide ((List.length e3.data:Int)<(1:Int))) ((kr)) (
  ae (decide ((List.length e3.data:Int)>(4095:Int))) ((kr)) (aU e3 ((kr)) ((bl x2 kr k0 n (IntKind.i64.wrap (x1+(1:Int))))) bw (0:Int)))) (aU e3 ((kr)) ((bl x2 kr k0 n (IntKind.i64.wrap (x1+(1:Int))))) bw (0:Int)))))) (
  ae (e3.kind !=(2:Int)) (
  ae (decide ((List.length e3.entries:Int)>(0:Int))) ((kr)) (
  ae (e3.parent !=(0:Int)) ((kr)) (
  ae (e3.kind==(2:Int)) (
  ae (!(e3.data==([] :Str))) ((kr)) (aj (fo e3.entries) fun y14=>
  ae (!y14) ((kr)) (
  ae (e3.kind==(3:Int)) (
  ae (decide ((List.length e3.data:Int)<(1:Int))) ((kr)) (
  ae (decide ((List.length e3.data:Int)>(4095:Int))) ((kr)) (aU e3 ((kr)) ((bl x2 kr k0 n (IntKind.i64.wrap (x1+(1:Int))))) bw (0:Int)))) (aU e3 ((kr)) ((bl x2 kr k0 n (IntKind.i64.wrap (x1+(1:Int))))) bw (0:Int))))) (
  ae (e3.kind==(3:Int)) (
  ae (decide ((List.length e3.data:Int)<(1:Int))) ((kr)) (
  ae (decide ((List.length e3.data:Int)>(4095:Int))) ((kr)) (aU e3 ((kr)) ((bl x2 kr k0 n (IntKind.i64.wrap (x1+(1:Int))))) bw (0:Int)))) (aU e3 ((kr)) ((bl x2 kr k0 n (IntKind.i64.wrap (x1+(1:Int))))) bw (0:Int)))))) (
  ae (e3.kind==(2:Int)) (
  ae (!(e3.data==([] :Str))) ((kr)) (aj (fo e3.entries) fun y15=>
  ae (!y15) ((kr)) (
  ae (e3.kind==(3:Int)) (
  ae (decide ((List.length e3.data:Int)<(1:Int))) ((kr)) (
  ae (decide ((List.length e3.data:Int)>(4095:Int))) ((kr)) (aU e3 ((kr)) ((bl x2 kr k0 n (IntKind.i64.wrap (x1+(1:Int))))) bw (0:Int)))) (aU e3 ((kr)) ((bl x2 kr k0 n (IntKind.i64.wrap (x1+(1:Int))))) bw (0:Int))))) (
  ae (e3.kind==(3:Int)) (
  ae (decide ((List.length e3.data:Int)<(1:Int))) ((kr)) (
  ae (decide ((List.length e3.data:Int)>(4095:Int))) ((kr)) (aU e3 ((kr)) ((bl x2 kr k0 n (IntKind.i64.wrap (x1+(1:Int))))) bw (0:Int)))) (aU e3 ((kr)) ((bl x2 kr k0 n (IntKind.i64.wrap (x1+(1:Int))))) bw (0:Int)))))) (
  ae (e3.kind !=(2:Int)) (
  ae (decide ((List.length e3.entries:Int)>(0:Int))) ((kr)) (
  ae (e3.parent !=(0:Int)) ((kr)) (
  ae (e3.kind==(2:Int)) (
  ae (!(e3.data==([] :Str))) ((kr)) (aj (fo e3.entries) fun y16=>
  ae (!y16) ((kr)) (
  ae (e3.kind==(3:Int)) (
  ae (decide ((List.length e3.data:Int)<(1:Int))) ((kr)) (
  ae (decide ((List.length e3.data:Int)>(4095:Int))) ((kr)) (aU e3 ((kr)) ((bl x2 kr k0 n (IntKind.i64.wrap (x1+(1:Int))))) bw (0:Int)))) (aU e3 ((kr)) ((bl x2 kr k0 n (IntKind.i64.wrap (x1+(1:Int))))) bw (0:Int))))) (
  ae (e3.kind==(3:Int)) (
  ae (decide ((List.length e3.data:Int)<(1:Int))) ((kr)) (
  ae (decide ((List.length e3.data:Int)>(4095:Int))) ((kr)) (aU e3 ((kr)) ((bl x2 kr k0 n (IntKind.i64.wrap (x1+(1:Int))))) bw (0:Int)))) (aU e3 ((kr)) ((bl x2 kr k0 n (IntKind.i64.wrap (x1+(1:Int))))) bw (0:Int)))))) (
  ae (e3.kind==(2:Int)) (
  ae (!(e3.data==([] :Str))) ((kr)) (aj (fo e3.entries) fun y17=>
  ae (!y17) ((kr)) (
  ae (e3.kind==(3:Int)) (
  ae (decide ((List.length e3.data:Int)<(1:Int))) ((kr)) (
  ae (decide ((List.length e3.data:Int)>(4095:Int))) ((kr)) (aU e3 ((kr)) ((bl x2 kr k0 n (IntKind.i64.wrap (x1+(1:Int))))) bw (0:Int)))) (aU e3 ((kr)) ((bl x2 kr k0 n (IntKind.i64.wrap (x1+(1:Int))))) bw (0:Int))))) (
  ae (e3.kind==(3:Int)) (
  ae (decide ((List.length e3.data:Int)<(1:Int))) ((kr)) (
  ae (decide ((List.length e3.data:Int)>(4095:Int))) ((kr)) (aU e3 ((kr)) ((bl x2 kr k0 n (IntKind.i64.wrap (x1+(1:Int))))) bw (0:Int)))) (aU e3 ((kr)) ((bl x2 kr k0 n (IntKind.i64.wrap (x1+(1:Int))))) bw (0:Int)))))) (none)) ((k0))
noncomputable def lQ (w0:Fs):Option (Bool):=
 bl w0 (some false) (some true) bw (0:Int)
noncomputable def eY {R:Type} (x3:Int) (x5:Fs) (kr:Option R) (k2:Option R):Nat→Int→Option R
 |0,_=>none
 |n+1,x4=>
  ae (decide (0≤x3)) (aj x5.aa[Int.toNat x3]? fun e6=>
  ae (decide (x4<(List.length e6.entries:Int))) (
  ae (decide (0≤x3)) (aj x5.aa[Int.toNat x3]? fun e7=>
  ae (decide (0≤x4)) (aj e7.entries[Int.toNat x4]? fun e8=>aj (bH x5 e8.ino) fun y9=>
  ae (!y9.2) ((kr)) ((eY x3 x5 kr k2 n (IntKind.i64.wrap (x4+(1:Int)))))) (none)) (none)) ((k2))) (none)
noncomputable def fQ {R:Type} (x2:Fs) (kr:Option R) (k0:Option R):Nat→Int→Option R
 |0,_=>none
 |n+1,x1=>
  ae (decide (x1<(List.length x2.aa:Int))) (eY x1 x2 ((kr)) ((fQ x2 kr k0 n (IntKind.i64.wrap (x1+(1:Int))))) bw (0:Int)) ((k0))
noncomputable def nb (w0:Fs):Option (Bool):=
 fQ w0 (some false) (some true) bw (0:Int)
noncomputable def ei {R:Type} (x6:Int) (x9:Int) (x11:Fs) (k2:Int→Int→Option R):Nat→Int→Int→Int→Option R
 |0,_,_,_=>none
 |n+1,x7,x8,x10=>
  ae (decide (0≤x9)) (aj x11.aa[Int.toNat x9]? fun e12=>
  ae (decide (x10<(List.length e12.entries:Int))) (
  ae (decide (0≤x9)) (aj x11.aa[Int.toNat x9]? fun e13=>
  ae (decide (0≤x10)) (aj e13.entries[Int.toNat x10]? fun e14=>
  ae (e14.ino==x6) (
  ae (decide (0≤x9)) (aj x11.aa[Int.toNat x9]? fun e15=>(ei x6 x9 x11 k2 n (IntKind.i64.wrap (x7+(1:Int))) e15.ino (IntKind.i64.wrap (x10+(1:Int))))) (none)) ((ei x6 x9 x11 k2 n x7 x8 (IntKind.i64.wrap (x10+(1:Int)))))) (none)) (none)) ((k2 x7 x8))) (none)
noncomputable def fS {R:Type} (x1:Int) (x5:Fs) (k0:Int→Int→Option R):Nat→Int→Int→Int→Option R
 |0,_,_,_=>none
 |n+1,x2,x3,x4=>
  ae (decide (x4<(List.length x5.aa:Int))) (ei x1 x4 x5 (fun z21 z22=>(fS x1 x5 k0 n z21 z22 (IntKind.i64.wrap (x4+(1:Int))))) bw x2 x3 (0:Int)) ((k0 x2 x3))
noncomputable def mK (w0:Fs) (w1:Int):Option (Int×Int):=
 fS w1 w0 (fun z25 z26=>some (z25,z26)) bw (0:Int) (0:Int) (0:Int)
noncomputable def dJ {R:Type} (x2:Fs) (kr:Option R) (k0:Option R):Nat→Int→Option R
 |0,_=>none
 |n+1,x1=>
  ae (decide (x1<(List.length x2.aa:Int))) (
  ae (decide (0≤x1)) (aj x2.aa[Int.toNat x1]? fun e3=>aj (mK x2 e3.ino) fun y4=>
  ae (e3.aI !=y4.1) ((kr)) (
  ae (e3.ino==(1:Int)) (
  ae (y4.1 !=(0:Int)) ((kr)) (
  ae (e3.parent !=(1:Int)) ((kr)) ((dJ x2 kr k0 n (IntKind.i64.wrap (x1+(1:Int))))))) (
  ae (decide (y4.1<(1:Int))) ((kr)) (
  ae (e3.kind==(2:Int)) (
  ae (y4.1 !=(1:Int)) ((kr)) (
  ae (e3.parent !=y4.2) ((kr)) ((dJ x2 kr k0 n (IntKind.i64.wrap (x1+(1:Int))))))) ((dJ x2 kr k0 n (IntKind.i64.wrap (x1+(1:Int))))))))) (none)) ((k0))
noncomputable def lK (w0:Fs):Option (Bool):=
 dJ w0 (some false) (some true) bw (0:Int)
noncomputable def dH {R:Type} (x12:Int) (x16:List Int) (x17:al) (k4:Bool→Option R):Nat→Bool→Int→Option R
 |0,_,_=>none
 |n+1,x13,x14=>
  ae (decide (x14<(List.length x16:Int))) (
  ae x13 ((dH x12 x16 x17 k4 n true (IntKind.i64.wrap (x14+(1:Int))))) (
  ae (decide (0≤x14∧x14<(x16.length:Int))) (aj x16[(Int.toNat x14)]? fun e18=>
  ae (decide (0≤x12)) (aj x17.entries[Int.toNat x12]? fun e19=>(dH x12 x16 x17 k4 n (e18==e19.ino) (IntKind.i64.wrap (x14+(1:Int))))) (none)) (none))) ((k4 x13))
noncomputable def ef {R:Type} (x10:al) (k2:(List Int)→Option R):Nat→Int→(List Int)→Option R
 |0,_,_=>none
 |n+1,x7,x9=>
  ae (decide (x7<(List.length x10.entries:Int))) (dH x7 x9 x10 (fun z26=>
  ae (!z26) (
  ae (decide (0≤x7)) (aj x10.entries[Int.toNat x7]? fun e27=>aT (x9.length+[e27.ino].length) ((ef x10 k2 n (IntKind.i64.wrap (x7+(1:Int))) (x9++[e27.ino])))) (none)) ((ef x10 k2 n (IntKind.i64.wrap (x7+(1:Int))) x9))) bw false (0:Int)) ((k2 x9))
noncomputable def hC {R:Type} (x2:Fs) (k0:(List Int)→Option R):Nat→Int→(List Int)→Option R
 |0,_,_=>none
 |n+1,x1,x3=>
  ae (decide (x1<(List.length x3:Int))) (
  ae (decide (0≤x1∧x1<(x3.length:Int))) (aj x3[(Int.toNat x1)]? fun e4=>aj (bH x2 e4) fun y5=>ef y5.1 (fun z31=>(hC x2 k0 n (IntKind.i64.wrap (x1+(1:Int))) z31)) bw (0:Int) x3) (none)) ((k0 x3))
noncomputable def mX (w0:Fs):Option (Bool):=
 hC w0 (fun z34=>some ((List.length z34:Int)==(List.length w0.aa:Int))) bw (0:Int) [(1:Int)]
noncomputable def gW (w0:Fs):Option (Int):=
 aj (nc w0) fun y1=>
 ae (!y1) (some (1:Int)) (aj (lQ w0) fun y2=>
 ae (!y2) (some (2:Int)) (aj (nb w0) fun y3=>
 ae (!y3) (some (3:Int)) (aj (lK w0) fun y4=>
 ae (!y4) (some (4:Int)) (aj (mX w0) fun y5=>
 ae (!y5) (some (5:Int)) (aj (eu w0 (0:Int) (0:Int)) fun y6=>
 ae (!y6) (some (6:Int)) (some (0:Int)))))))
noncomputable def iE {R:Type} (x1:List Opn) (kr:Option R) (k0:Option R):Nat→Int→Option R
 |0,_=>none
 |n+1,x2=>
  ae (decide (x2<(List.length x1:Int))) (
  ae (decide (x2<(200:Int))) (
  ae (decide (0≤x2)) (aj x1[Int.toNat x2]? fun e3=>
  ae (decide ((List.length e3.a:Int)>(1000:Int))) ((kr)) (
  ae (decide (0≤x2)) (aj x1[Int.toNat x2]? fun e4=>
  ae (decide ((List.length e4.b:Int)>(1000:Int))) ((kr)) (
  ae (decide (0≤x2)) (aj x1[Int.toNat x2]? fun e5=>
  ae (decide ((List.length e5.data:Int)>(5000:Int))) ((kr)) ((iE x1 kr k0 n (IntKind.i64.wrap (x2+(1:Int)))))) (none))) (none))) (none)) ((k0))) ((k0))
noncomputable def nU (w0:(List Opn)):Option (Bool):=
 iE w0 (some false) (some (decide ((List.length w0:Int)≤(100:Int)))) bw (0:Int)
noncomputable def dv (w0:Str):Option (Bool):=
 aj (kN w0) fun y1=>ae y1.2 (some (decide ((List.length y1.1:Int)>(0:Int)))) (some false)
noncomputable def iT (w0:Int):Option (Bool):=
 ae (w0==(3:Int)) (some true) (ae (w0==(7:Int)) (some true) (ae (w0==(9:Int)) (some true) (some (w0==(10:Int)))))
noncomputable def fj {R:Type} (x1:Str) (kr:Option R) (k0:Option R):Nat→Int→Option R
 |0,_=>none
 |n+1,x2=>
  ae (decide (x2<(List.length x1:Int))) (
  ae (decide (0≤x2)) (aj x1[Int.toNat x2]? fun c3=>
  ae ((UInt8.toNat c3:Int)==(0:Int)) ((kr)) ((fj x1 kr k0 n (IntKind.i64.wrap (x2+(1:Int)))))) (none)) ((k0))
noncomputable def cP (w0:Str):Option (Bool):=
 fj w0 (some false) (
 ae (decide ((List.length w0:Int)≥(1:Int))) (some (decide ((List.length w0:Int)≤(4095:Int)))) (some false)) bw (0:Int)
noncomputable def jh (w0:Opn):Option (Bool):=
 ae (decide (w0.kind<(1:Int))) (some false) (
 ae (decide (w0.kind>(10:Int))) (some false) (aj (dv w0.a) fun y1=>
 ae (!y1) (some false) (aj (iT w0.kind) fun y2=>
 ae y2 (
 ae (decide (w0.slot<(1:Int))) (some false) (
 ae (decide (w0.slot>(1073741824:Int))) (some false) (
 ae (w0.kind==(2:Int)) (aj (dv w0.b) fun y3=>
 ae (!y3) (some false) (
 ae (w0.kind==(4:Int)) (aj (cP w0.data) fun y4=>
 ae (!y4) (some false) (
 ae (w0.kind !=(6:Int)) (some true) (aj (bh w0.a w0.b) fun y5=>
 ae (!y5) (aj (bh w0.b w0.a) fun y6=>some (!y6)) (some false)))) (
 ae (!(w0.data==([] :Str))) (some false) (
 ae (w0.kind !=(6:Int)) (some true) (aj (bh w0.a w0.b) fun y7=>
 ae (!y7) (aj (bh w0.b w0.a) fun y8=>some (!y8)) (some false)))))) (
 ae (w0.kind==(3:Int)) (aj (dv w0.b) fun y9=>
 ae (!y9) (some false) (
 ae (w0.kind==(4:Int)) (aj (cP w0.data) fun y10=>
 ae (!y10) (some false) (
 ae (w0.kind !=(6:Int)) (some true) (aj (bh w0.a w0.b) fun y11=>
 ae (!y11) (aj (bh w0.b w0.a) fun y12=>some (!y12)) (some false)))) (
 ae (!(w0.data==([] :Str))) (some false) (
 ae (w0.kind !=(6:Int)) (some true) (aj (bh w0.a w0.b) fun y13=>
 ae (!y13) (aj (bh w0.b w0.a) fun y14=>some (!y14)) (some false)))))) (
 ae (w0.kind==(5:Int)) (aj (dv w0.b) fun y15=>
 ae (!y15) (some false) (
 ae (w0.kind==(4:Int)) (aj (cP w0.data) fun y16=>
 ae (!y16) (some false) (
 ae (w0.kind !=(6:Int)) (some true) (aj (bh w0.a w0.b) fun y17=>
 ae (!y17) (aj (bh w0.b w0.a) fun y18=>some (!y18)) (some false)))) (
 ae (!(w0.data==([] :Str))) (some false) (
 ae (w0.kind !=(6:Int)) (some true) (aj (bh w0.a w0.b) fun y19=>
 ae (!y19) (aj (bh w0.b w0.a) fun y20=>some (!y20)) (some false)))))) (
 ae (w0.kind==(6:Int)) (aj (dv w0.b) fun y21=>
 ae (!y21) (some false) (
 ae (w0.kind==(4:Int)) (aj (cP w0.data) fun y22=>
 ae (!y22) (some false) (
 ae (w0.kind !=(6:Int)) (some true) (aj (bh w0.a w0.b) fun y23=>
 ae (!y23) (aj (bh w0.b w0.a) fun y24=>some (!y24)) (some false)))) (
 ae (!(w0.data==([] :Str))) (some false) (
 ae (w0.kind !=(6:Int)) (some true) (aj (bh w0.a w0.b) fun y25=>
 ae (!y25) (aj (bh w0.b w0.a) fun y26=>some (!y26)) (some false)))))) (
 ae (!(w0.b==([] :Str))) (some false) (
 ae (w0.kind==(4:Int)) (aj (cP w0.data) fun y27=>
 ae (!y27) (some false) (
 ae (w0.kind !=(6:Int)) (some true) (aj (bh w0.a w0.b) fun y28=>
 ae (!y28) (aj (bh w0.b w0.a) fun y29=>some (!y29)) (some false)))) (
 ae (!(w0.data==([] :Str))) (some false) (
 ae (w0.kind !=(6:Int)) (some true) (aj (bh w0.a w0.b) fun y30=>
 ae (!y30) (aj (bh w0.b w0.a) fun y31=>some (!y31)) (some false)))))))))))) (
 ae (w0.slot !=(0:Int)) (some false) (
 ae (w0.kind==(2:Int)) (aj (dv w0.b) fun y32=>
 ae (!y32) (some false) (
 ae (w0.kind==(4:Int)) (aj (cP w0.data) fun y33=>
 ae (!y33) (some false) (
 ae (w0.kind !=(6:Int)) (some true) (aj (bh w0.a w0.b) fun y34=>
 ae (!y34) (aj (bh w0.b w0.a) fun y35=>some (!y35)) (some false)))) (
 ae (!(w0.data==([] :Str))) (some false) (
 ae (w0.kind !=(6:Int)) (some true) (aj (bh w0.a w0.b) fun y36=>
 ae (!y36) (aj (bh w0.b w0.a) fun y37=>some (!y37)) (some false)))))) (
 ae (w0.kind==(3:Int)) (aj (dv w0.b) fun y38=>
 ae (!y38) (some false) (
 ae (w0.kind==(4:Int)) (aj (cP w0.data) fun y39=>
 ae (!y39) (some false) (
 ae (w0.kind !=(6:Int)) (some true) (aj (bh w0.a w0.b) fun y40=>
 ae (!y40) (aj (bh w0.b w0.a) fun y41=>some (!y41)) (some false)))) (
 ae (!(w0.data==([] :Str))) (some false) (
 ae (w0.kind !=(6:Int)) (some true) (aj (bh w0.a w0.b) fun y42=>
 ae (!y42) (aj (bh w0.b w0.a) fun y43=>some (!y43)) (some false)))))) (
 ae (w0.kind==(5:Int)) (aj (dv w0.b) fun y44=>
 ae (!y44) (some false) (
 ae (w0.kind==(4:Int)) (aj (cP w0.data) fun y45=>
 ae (!y45) (some false) (
 ae (w0.kind !=(6:Int)) (some true) (aj (bh w0.a w0.b) fun y46=>
 ae (!y46) (aj (bh w0.b w0.a) fun y47=>some (!y47)) (some false)))) (
 ae (!(w0.data==([] :Str))) (some false) (
 ae (w0.kind !=(6:Int)) (some true) (aj (bh w0.a w0.b) fun y48=>
 ae (!y48) (aj (bh w0.b w0.a) fun y49=>some (!y49)) (some false)))))) (
 ae (w0.kind==(6:Int)) (aj (dv w0.b) fun y50=>
 ae (!y50) (some false) (
 ae (w0.kind==(4:Int)) (aj (cP w0.data) fun y51=>
 ae (!y51) (some false) (
 ae (w0.kind !=(6:Int)) (some true) (aj (bh w0.a w0.b) fun y52=>
 ae (!y52) (aj (bh w0.b w0.a) fun y53=>some (!y53)) (some false)))) (
 ae (!(w0.data==([] :Str))) (some false) (
 ae (w0.kind !=(6:Int)) (some true) (aj (bh w0.a w0.b) fun y54=>
 ae (!y54) (aj (bh w0.b w0.a) fun y55=>some (!y55)) (some false)))))) (
 ae (!(w0.b==([] :Str))) (some false) (
 ae (w0.kind==(4:Int)) (aj (cP w0.data) fun y56=>
 ae (!y56) (some false) (
 ae (w0.kind !=(6:Int)) (some true) (aj (bh w0.a w0.b) fun y57=>
 ae (!y57) (aj (bh w0.b w0.a) fun y58=>some (!y58)) (some false)))) (
 ae (!(w0.data==([] :Str))) (some false) (
 ae (w0.kind !=(6:Int)) (some true) (aj (bh w0.a w0.b) fun y59=>
 ae (!y59) (aj (bh w0.b w0.a) fun y60=>some (!y60)) (some false))))))))))))))
noncomputable def fG {R:Type} (x1:List Opn) (kr:Option R) (k0:Option R):Nat→Int→Int→Option R
 |0,_,_=>none
 |n+1,x2,x3=>
  ae (decide (x3<(List.length x1:Int))) (
  ae (decide (0≤x3)) (aj x1[Int.toNat x3]? fun e4=>aj (jh e4) fun y5=>
  ae (!y5) ((kr)) (
  ae (decide (0≤x3)) (aj x1[Int.toNat x3]? fun e6=>
  ae (decide (e6.kind<(6:Int))) ((kr)) (
  ae (decide (0≤x3)) (aj x1[Int.toNat x3]? fun e7=>
  ae (e7.kind==(7:Int)) ((kr)) (
  ae (decide (0≤x3)) (aj x1[Int.toNat x3]? fun e8=>aj (iT e8.kind) fun y9=>
  ae y9 (
  ae (decide (0≤x3)) (aj x1[Int.toNat x3]? fun e10=>
  ae (decide (e10.slot≥x2)) ((kr)) (
  ae (decide (0≤x3)) (aj x1[Int.toNat x3]? fun e11=>(fG x1 kr k0 n e11.slot (IntKind.i64.wrap (x3+(1:Int))))) (none))) (none)) ((fG x1 kr k0 n x2 (IntKind.i64.wrap (x3+(1:Int)))))) (none))) (none))) (none))) (none)) ((k0))
noncomputable def oL (w0:(List Opn)):Option (Bool):=
 fG w0 (some false) (some true) bw (2147483648:Int) (0:Int)
noncomputable def jm {R:Type} (x2:List Str) (x4:Fs) (kr:Int→Option R) (k0:ar→Option R):Nat→Int→ar→Option R
 |0,_,_=>none
 |n+1,x3,x6=>
  ae (decide (x3<(List.length x2:Int))) (
  ae (x6.ino==(0:Int)) ((kr (1:Int))) (aj (bH x4 x6.ino) fun y7=>
  ae (y7.1.kind !=(2:Int)) ((kr (3:Int))) (
  ae (decide (0≤x3)) (aj x2[Int.toNat x3]? fun e8=>aj (km y7.1.entries e8) fun y9=>
  ae (decide (0≤x3)) (aj x2[Int.toNat x3]? fun e10=>(jm x2 x4 kr k0 n (IntKind.i64.wrap (x3+(1:Int))) (⟨y7.1.ino,e10,y9.1⟩:ar))) (none)) (none)))) ((k0 x6))
noncomputable def qt (w0:Fs) (w1:Str):Option (ar×Int):=
 aj (kN w1) fun y1=>
 ae (!y1.2) (some ((⟨0, [],0⟩:ar),(9:Int))) (jm y1.1 w0 (fun z15=>some ((⟨((⟨0, [],0⟩:ar).dir),((⟨0, [],0⟩:ar).name),((⟨0, [],0⟩:ar).ino)⟩:ar),z15)) (fun z16=>some (z16,(0:Int))) bw (0:Int) (⟨0, [],(1:Int)⟩:ar))
noncomputable def uy (w0:Fs) (w1:Str):Option (al×Int):=
 aj (qt w0 w1) fun y1=>
 ae (y1.2 !=(0:Int)) (some ((⟨0,0,0, [],0,([] :List Entry)⟩:al),y1.2)) (
 ae (y1.1.ino==(0:Int)) (some ((⟨0,0,0, [],0,([] :List Entry)⟩:al),(1:Int))) (aj (bH w0 y1.1.ino) fun y2=>some (y2.1,(0:Int))))
noncomputable def r9 (w0:Fs) (w1:Str):Option (Int×Int):=
 aj (uy w0 w1) fun y1=>
 ae (y1.2 !=(0:Int)) (some ((0:Int),y1.2)) (
 ae (y1.1.kind !=(2:Int)) (some ((0:Int),(3:Int))) (some (y1.1.ino,(0:Int))))
noncomputable def bI:Nat→Fs→ar→(List Str)→Bool→Bool→Int→Option (ar×Int)
 |0=>fun _ _ _ _ _ _=>none
 |n+1=>fun w0 w1 w2 w3 w4 w5=>
  ae ((List.length w2:Int)==(0:Int)) (aj (bH w0 w1.ino) fun y1=>
  ae y1.2 (
  ae w4 (
  ae (y1.1.kind !=(2:Int)) (some ((⟨0, [],0⟩:ar),(3:Int))) (some (w1,(0:Int)))) (some (w1,(0:Int)))) (some (w1,(0:Int)))) (
  ae (w1.ino==(0:Int)) (some ((⟨0, [],0⟩:ar),(1:Int))) (aj (bH w0 w1.ino) fun y2=>
  ae (y2.1.kind !=(2:Int)) (some ((⟨0, [],0⟩:ar),(3:Int))) (
  ae (decide (0≤(0:Int))) (aj w2[Int.toNat (0:Int)]? fun e3=>
  ae (decide (0≤(1:Int)∧(1:Int)≤(w2.length:Int))) (
  ae (e3==([46]:Str)) (aj ((bI n) w0 (⟨0, [],y2.1.ino⟩:ar) (w2.drop (Int.toNat (1:Int))) w3 w4 w5) fun y4=>some (y4.1,y4.2)) (
  ae (e3==([46,46]:Str)) (aj ((bI n) w0 (⟨0, [],y2.1.parent⟩:ar) (w2.drop (Int.toNat (1:Int))) w3 w4 w5) fun y5=>some (y5.1,y5.2)) (aj (km y2.1.entries e3) fun y6=>aj (bH w0 y6.1) fun y7=>
  ae (!y6.2) (aj ((bI n) w0 (⟨y2.1.ino,e3,y6.1⟩:ar) (w2.drop (Int.toNat (1:Int))) w3 w4 w5) fun y8=>some (y8.1,y8.2)) (
  ae (y7.1.kind !=(3:Int)) (aj ((bI n) w0 (⟨y2.1.ino,e3,y6.1⟩:ar) (w2.drop (Int.toNat (1:Int))) w3 w4 w5) fun y9=>some (y9.1,y9.2)) (
  ae ((List.length (w2.drop (Int.toNat (1:Int))):Int)==(0:Int)) (
  ae (!w3) (
  ae (!w4) (aj ((bI n) w0 (⟨y2.1.ino,e3,y6.1⟩:ar) (w2.drop (Int.toNat (1:Int))) w3 w4 w5) fun y10=>some (y10.1,y10.2)) (
  ae (w5==(40:Int)) (some ((⟨0, [],0⟩:ar),(6:Int))) (aj (ja y7.1.data) fun y11=>
  ae y11 (some ((⟨0, [],0⟩:ar),(7:Int))) (aj (ij y7.1.data) fun y12=>
  ae y12.abs (
  ae y12.gU (
  ae ((List.length (w2.drop (Int.toNat (1:Int))):Int)==(0:Int)) (aT (([] :List Str).length+y12.names.length) (aT (y12.names.length+(w2.drop (Int.toNat (1:Int))).length) (aj ((bI n) w0 (⟨0, [],(1:Int)⟩:ar) (y12.names++(w2.drop (Int.toNat (1:Int)))) w3 true (IntKind.i64.wrap (w5+(1:Int)))) fun y13=>some (y13.1,y13.2)))) (aT (([] :List Str).length+y12.names.length) (aT (y12.names.length+(w2.drop (Int.toNat (1:Int))).length) (aj ((bI n) w0 (⟨0, [],(1:Int)⟩:ar) (y12.names++(w2.drop (Int.toNat (1:Int)))) w3 w4 (IntKind.i64.wrap (w5+(1:Int)))) fun y14=>some (y14.1,y14.2))))) (aT (([] :List Str).length+y12.names.length) (aT (y12.names.length+(w2.drop (Int.toNat (1:Int))).length) (aj ((bI n) w0 (⟨0, [],(1:Int)⟩:ar) (y12.names++(w2.drop (Int.toNat (1:Int)))) w3 w4 (IntKind.i64.wrap (w5+(1:Int)))) fun y15=>some (y15.1,y15.2))))) (
  ae y12.gU (
  ae ((List.length (w2.drop (Int.toNat (1:Int))):Int)==(0:Int)) (aT (([] :List Str).length+y12.names.length) (aT (y12.names.length+(w2.drop (Int.toNat (1:Int))).length) (aj ((bI n) w0 (⟨0, [],y2.1.ino⟩:ar) (y12.names++(w2.drop (Int.toNat (1:Int)))) w3 true (IntKind.i64.wrap (w5+(1:Int)))) fun y16=>some (y16.1,y16.2)))) (aT (([] :List Str).length+y12.names.length) (aT (y12.names.length+(w2.drop (Int.toNat (1:Int))).length) (aj ((bI n) w0 (⟨0, [],y2.1.ino⟩:ar) (y12.names++(w2.drop (Int.toNat (1:Int)))) w3 w4 (IntKind.i64.wrap (w5+(1:Int)))) fun y17=>some (y17.1,y17.2))))) (aT (([] :List Str).length+y12.names.length) (aT (y12.names.length+(w2.drop (Int.toNat (1:Int))).length) (aj ((bI n) w0 (⟨0, [],y2.1.ino⟩:ar) (y12.names++(w2.drop (Int.toNat (1:Int)))) w3 w4 (IntKind.i64.wrap (w5+(1:Int)))) fun y18=>some (y18.1,y18.2))))))))) (
  ae (w5==(40:Int)) (some ((⟨0, [],0⟩:ar),(6:Int))) (aj (ja y7.1.data) fun y19=>
  ae y19 (some ((⟨0, [],0⟩:ar),(7:Int))) (aj (ij y7.1.data) fun y20=>
  ae y20.abs (
  ae y20.gU (
  ae ((List.length (w2.drop (Int.toNat (1:Int))):Int)==(0:Int)) (aT (([] :List Str).length+y20.names.length) (aT (y20.names.length+(w2.drop (Int.toNat (1:Int))).length) (aj ((bI n) w0 (⟨0, [],(1:Int)⟩:ar) (y20.names++(w2.drop (Int.toNat (1:Int)))) w3 true (IntKind.i64.wrap (w5+(1:Int)))) fun y21=>some (y21.1,y21.2)))) (aT (([] :List Str).length+y20.names.length) (aT (y20.names.length+(w2.drop (Int.toNat (1:Int))).length) (aj ((bI n) w0 (⟨0, [],(1:Int)⟩:ar) (y20.names++(w2.drop (Int.toNat (1:Int)))) w3 w4 (IntKind.i64.wrap (w5+(1:Int)))) fun y22=>some (y22.1,y22.2))))) (aT (([] :List Str).length+y20.names.length) (aT (y20.names.length+(w2.drop (Int.toNat (1:Int))).length) (aj ((bI n) w0 (⟨0, [],(1:Int)⟩:ar) (y20.names++(w2.drop (Int.toNat (1:Int)))) w3 w4 (IntKind.i64.wrap (w5+(1:Int)))) fun y23=>some (y23.1,y23.2))))) (
  ae y20.gU (
  ae ((List.length (w2.drop (Int.toNat (1:Int))):Int)==(0:Int)) (aT (([] :List Str).length+y20.names.length) (aT (y20.names.length+(w2.drop (Int.toNat (1:Int))).length) (aj ((bI n) w0 (⟨0, [],y2.1.ino⟩:ar) (y20.names++(w2.drop (Int.toNat (1:Int)))) w3 true (IntKind.i64.wrap (w5+(1:Int)))) fun y24=>some (y24.1,y24.2)))) (aT (([] :List Str).length+y20.names.length) (aT (y20.names.length+(w2.drop (Int.toNat (1:Int))).length) (aj ((bI n) w0 (⟨0, [],y2.1.ino⟩:ar) (y20.names++(w2.drop (Int.toNat (1:Int)))) w3 w4 (IntKind.i64.wrap (w5+(1:Int)))) fun y25=>some (y25.1,y25.2))))) (aT (([] :List Str).length+y20.names.length) (aT (y20.names.length+(w2.drop (Int.toNat (1:Int))).length) (aj ((bI n) w0 (⟨0, [],y2.1.ino⟩:ar) (y20.names++(w2.drop (Int.toNat (1:Int)))) w3 w4 (IntKind.i64.wrap (w5+(1:Int)))) fun y26=>some (y26.1,y26.2))))))))) (
  ae (w5==(40:Int)) (some ((⟨0, [],0⟩:ar),(6:Int))) (aj (ja y7.1.data) fun y27=>
  ae y27 (some ((⟨0, [],0⟩:ar),(7:Int))) (aj (ij y7.1.data) fun y28=>
  ae y28.abs (
  ae y28.gU (
  ae ((List.length (w2.drop (Int.toNat (1:Int))):Int)==(0:Int)) (aT (([] :List Str).length+y28.names.length) (aT (y28.names.length+(w2.drop (Int.toNat (1:Int))).length) (aj ((bI n) w0 (⟨0, [],(1:Int)⟩:ar) (y28.names++(w2.drop (Int.toNat (1:Int)))) w3 true (IntKind.i64.wrap (w5+(1:Int)))) fun y29=>some (y29.1,y29.2)))) (aT (([] :List Str).length+y28.names.length) (aT (y28.names.length+(w2.drop (Int.toNat (1:Int))).length) (aj ((bI n) w0 (⟨0, [],(1:Int)⟩:ar) (y28.names++(w2.drop (Int.toNat (1:Int)))) w3 w4 (IntKind.i64.wrap (w5+(1:Int)))) fun y30=>some (y30.1,y30.2))))) (aT (([] :List Str).length+y28.names.length) (aT (y28.names.length+(w2.drop (Int.toNat (1:Int))).length) (aj ((bI n) w0 (⟨0, [],(1:Int)⟩:ar) (y28.names++(w2.drop (Int.toNat (1:Int)))) w3 w4 (IntKind.i64.wrap (w5+(1:Int)))) fun y31=>some (y31.1,y31.2))))) (
  ae y28.gU (
  ae ((List.length (w2.drop (Int.toNat (1:Int))):Int)==(0:Int)) (aT (([] :List Str).length+y28.names.length) (aT (y28.names.length+(w2.drop (Int.toNat (1:Int))).length) (aj ((bI n) w0 (⟨0, [],y2.1.ino⟩:ar) (y28.names++(w2.drop (Int.toNat (1:Int)))) w3 true (IntKind.i64.wrap (w5+(1:Int)))) fun y32=>some (y32.1,y32.2)))) (aT (([] :List Str).length+y28.names.length) (aT (y28.names.length+(w2.drop (Int.toNat (1:Int))).length) (aj ((bI n) w0 (⟨0, [],y2.1.ino⟩:ar) (y28.names++(w2.drop (Int.toNat (1:Int)))) w3 w4 (IntKind.i64.wrap (w5+(1:Int)))) fun y33=>some (y33.1,y33.2))))) (aT (([] :List Str).length+y28.names.length) (aT (y28.names.length+(w2.drop (Int.toNat (1:Int))).length) (aj ((bI n) w0 (⟨0, [],y2.1.ino⟩:ar) (y28.names++(w2.drop (Int.toNat (1:Int)))) w3 w4 (IntKind.i64.wrap (w5+(1:Int)))) fun y34=>some (y34.1,y34.2))))))))))))) (none)) (none))))
noncomputable def tl (w0:Fs) (w1:ar) (w2:(List Str)) (w3:Bool) (w4:Bool) (w5:Int):Option (ar×Int):=bI bw w0 w1 w2 w3 w4 w5
noncomputable def sf (w0:Fs) (w1:Str) (w2:Str) (w3:Bool):Option (ar×Int):=
 ae (w2==([] :Str)) (some ((⟨0, [],0⟩:ar),(1:Int))) (aj (ja w2) fun y1=>
 ae y1 (some ((⟨0, [],0⟩:ar),(7:Int))) (aj (ij w2) fun y2=>
 ae (!y2.abs) (aj (r9 w0 w1) fun y3=>
 ae (y3.2 !=(0:Int)) (some ((⟨0, [],0⟩:ar),y3.2)) (aj (tl w0 (⟨0, [],y3.1⟩:ar) y2.names w3 y2.gU (0:Int)) fun y4=>some (y4.1,y4.2))) (aj (tl w0 (⟨0, [],(1:Int)⟩:ar) y2.names w3 y2.gU (0:Int)) fun y5=>some (y5.1,y5.2))))
noncomputable def dp (w0:Fs) (w1:ar) (w2:Int):Option (Fs):=
 aj (bH w0 w1.dir) fun y1=>aj (bH w0 w2) fun y2=>aj (fE y1.1.entries w1.name w2) fun y3=>aj (bG w0 (⟨y1.1.ino,y1.1.kind,y1.1.aI,y1.1.data,y1.1.parent,y3⟩:al)) fun y4=>aj (bG y4 (⟨y2.1.ino,y2.1.kind,(IntKind.i64.wrap (y2.1.aI+(1:Int))),y2.1.data,y2.1.parent,y2.1.entries⟩:al)) fun y5=>some y5
noncomputable def eF (w0:Fs) (w1:ar):Option (Fs):=
 aj (bH w0 w1.dir) fun y1=>aj (bH w0 w1.ino) fun y2=>aj (eI y1.1.entries w1.name) fun y3=>aj (bG w0 (⟨y1.1.ino,y1.1.kind,y1.1.aI,y1.1.data,y1.1.parent,y3⟩:al)) fun y4=>
 ae ((IntKind.i64.wrap (y2.1.aI - (1:Int)))==(0:Int)) (aj (dB y4 w1.ino) fun y5=>some y5) (aj (bG y4 (⟨y2.1.ino,y2.1.kind,(IntKind.i64.wrap (y2.1.aI - (1:Int))),y2.1.data,y2.1.parent,y2.1.entries⟩:al)) fun y6=>some y6)
noncomputable def gH {R:Type} (x4:ao) (x5:ao) (kr:Option R) (k0:Option R):Nat→Int→Option R
 |0,_=>none
 |n+1,x3=>
  ae (decide (x3<(List.length x4.aq.kept:Int))) (
  ae (decide (0≤x3)) (aj x4.aq.kept[Int.toNat x3]? fun e6=>
  ae (decide (0≤x3)) (aj x5.aq.kept[Int.toNat x3]? fun e7=>
  ae (!((e6.slot==e7.slot)&&((e6.ino==e7.ino)&&((e6.content==e7.content)&&(e6.data==e7.data))))) ((kr)) ((gH x4 x5 kr k0 n (IntKind.i64.wrap (x3+(1:Int)))))) (none)) (none)) ((k0))
noncomputable def ep (w0:ao) (w1:ao):Option (Bool):=
 aj (j4 w0.fs w1.fs) fun y1=>
 ae (!y1) (some false) (aj (mB w0.aq.aV w1.aq.aV) fun y2=>
 ae (!y2) (some false) (
 ae ((List.length w0.aq.kept:Int) !=(List.length w1.aq.kept:Int)) (some false) (gH w0 w1 (some false) (some true) bw (0:Int))))
noncomputable def cH (w0:ao):Option (Fs):=
 some (⟨0,0,0,w0.aq.aV⟩:Fs)
noncomputable def iC {R:Type} (x2:ao) (kr:Option R) (k0:Option R):Nat→Int→Option R
 |0,_=>none
 |n+1,x1=>
  ae (decide (x1<(List.length x2.aq.kept:Int))) (
  ae (decide (x1<(100:Int))) (
  ae (decide (0≤x1)) (aj x2.aq.kept[Int.toNat x1]? fun e3=>
  ae (decide ((List.length e3.data:Int)>(5000:Int))) ((kr)) ((iC x2 kr k0 n (IntKind.i64.wrap (x1+(1:Int)))))) (none)) ((k0))) ((k0))
noncomputable def qM (w0:ao):Option (Bool):=
 iC w0 (some false) (aj (kj w0.fs) fun y6=>
 ae y6 (aj (cH w0) fun y7=>aj (kj y7) fun y8=>
 ae y8 (some (decide ((List.length w0.aq.kept:Int)≤(40:Int)))) (some false)) (some false)) bw (0:Int)
noncomputable def cA {R:Type} (x4:al) (kr:Option R) (k0:Option R):Nat→Int→Option R
 |0,_=>none
 |n+1,x2=>
  ae (decide (x2<(List.length x4.data:Int))) (
  ae (x4.kind==(3:Int)) (
  ae (decide (0≤x2)) (aj x4.data[Int.toNat x2]? fun c5=>
  ae ((UInt8.toNat c5:Int)==(0:Int)) ((kr)) ((cA x4 kr k0 n (IntKind.i64.wrap (x2+(1:Int)))))) (none)) ((k0))) ((k0))
noncomputable def ct {R:Type} (x11:ao) (x12:al) (k2:Bool→Option R):Nat→Bool→Int→Option R
 |0,_,_=>none
 |n+1,x9,x10=>
  ae (decide (x10<(List.length x11.aq.kept:Int))) (
  ae x9 ((ct x11 x12 k2 n true (IntKind.i64.wrap (x10+(1:Int))))) (
  ae (decide (0≤x10)) (aj x11.aq.kept[Int.toNat x10]? fun e13=>
  ae (e13.ino==x12.ino) (
  ae (decide (0≤x10)) (aj x11.aq.kept[Int.toNat x10]? fun e14=>(ct x11 x12 k2 n (!e14.content) (IntKind.i64.wrap (x10+(1:Int))))) (none)) ((ct x11 x12 k2 n false (IntKind.i64.wrap (x10+(1:Int)))))) (none))) ((k2 x9))
noncomputable def lM (w0:ao) (w1:al):Option (Bool):=
 aj (bH w0.fs w1.ino) fun y1=>
 ae y1.2 (some false) (
 ae (decide (w1.ino<(1:Int))) (some false) (
 ae (decide (w1.ino≥w0.fs.next)) (some false) (
 ae (w1.aI !=(0:Int)) (some false) (
 ae (w1.parent !=(0:Int)) (some false) (
 ae ((List.length w1.entries:Int) !=(0:Int)) (some false) (
 ae (decide (w1.kind<(1:Int))) (some false) (
 ae (decide (w1.kind>(3:Int))) (some false) (
 ae (w1.kind==(2:Int)) (
 ae (!(w1.data==([] :Str))) (some false) (
 ae (w1.kind==(3:Int)) (
 ae (decide ((List.length w1.data:Int)<(1:Int))) (some false) (
 ae (decide ((List.length w1.data:Int)>(4095:Int))) (some false) (cA w1 (some false) (ct w0 w1 (fun z16=>some z16) bw false (0:Int)) bw (0:Int)))) (cA w1 (some false) (ct w0 w1 (fun z17=>some z17) bw false (0:Int)) bw (0:Int)))) (
 ae (w1.kind==(3:Int)) (
 ae (decide ((List.length w1.data:Int)<(1:Int))) (some false) (
 ae (decide ((List.length w1.data:Int)>(4095:Int))) (some false) (cA w1 (some false) (ct w0 w1 (fun z18=>some z18) bw false (0:Int)) bw (0:Int)))) (cA w1 (some false) (ct w0 w1 (fun z19=>some z19) bw false (0:Int)) bw (0:Int)))))))))))
noncomputable def fV {R:Type} (x5:ao) (kr:Option R) (k0:Option R):Nat→Int→Option R
 |0,_=>none
 |n+1,x4=>
  ae (decide (x4<(List.length x5.aq.aV:Int))) (
  ae (decide (0≤x4)) (aj x5.aq.aV[Int.toNat x4]? fun e6=>aj (lM x5 e6) fun y7=>
  ae (!y7) ((kr)) ((fV x5 kr k0 n (IntKind.i64.wrap (x4+(1:Int)))))) (none)) ((k0))
noncomputable def bD {R:Type} (x12:ao) (kr:Option R) (k2:Option R):Nat→Int→Int→Option R
 |0,_,_=>none
 |n+1,x10,x11=>
  ae (decide (x11<(List.length x12.aq.kept:Int))) (
  ae (decide (0≤x11)) (aj x12.aq.kept[Int.toNat x11]? fun e13=>aj (bH x12.fs e13.ino) fun y14=>aj (cH x12) fun y15=>aj (bH y15 e13.ino) fun y16=>
  ae (decide (e13.slot≤x10)) ((kr)) (
  ae (decide (e13.slot>(1073741824:Int))) ((kr)) (
  ae (!y14.2) (
  ae (!y16.2) ((kr)) (
  ae y16.2 (
  ae e13.content (
  ae (y16.1.kind !=(1:Int)) ((kr)) (
  ae (!e13.content) (
  ae (!(e13.data==([] :Str))) ((kr)) ((bD x12 kr k2 n e13.slot (IntKind.i64.wrap (x11+(1:Int)))))) ((bD x12 kr k2 n e13.slot (IntKind.i64.wrap (x11+(1:Int))))))) (
  ae (!e13.content) (
  ae (!(e13.data==([] :Str))) ((kr)) ((bD x12 kr k2 n e13.slot (IntKind.i64.wrap (x11+(1:Int)))))) ((bD x12 kr k2 n e13.slot (IntKind.i64.wrap (x11+(1:Int))))))) (
  ae e13.content (
  ae (y14.1.kind !=(1:Int)) ((kr)) (
  ae (!e13.content) (
  ae (!(e13.data==([] :Str))) ((kr)) ((bD x12 kr k2 n e13.slot (IntKind.i64.wrap (x11+(1:Int)))))) ((bD x12 kr k2 n e13.slot (IntKind.i64.wrap (x11+(1:Int))))))) (
  ae (!e13.content) (
  ae (!(e13.data==([] :Str))) ((kr)) ((bD x12 kr k2 n e13.slot (IntKind.i64.wrap (x11+(1:Int)))))) ((bD x12 kr k2 n e13.slot (IntKind.i64.wrap (x11+(1:Int))))))))) (
  ae y16.2 (
  ae e13.content (
  ae (y16.1.kind !=(1:Int)) ((kr)) (
  ae (!e13.content) (
  ae (!(e13.data==([] :Str))) ((kr)) ((bD x12 kr k2 n e13.slot (IntKind.i64.wrap (x11+(1:Int)))))) ((bD x12 kr k2 n e13.slot (IntKind.i64.wrap (x11+(1:Int))))))) (
  ae (!e13.content) (
  ae (!(e13.data==([] :Str))) ((kr)) ((bD x12 kr k2 n e13.slot (IntKind.i64.wrap (x11+(1:Int)))))) ((bD x12 kr k2 n e13.slot (IntKind.i64.wrap (x11+(1:Int))))))) (
  ae e13.content (
  ae (y14.1.kind !=(1:Int)) ((kr)) (
  ae (!e13.content) (
  ae (!(e13.data==([] :Str))) ((kr)) ((bD x12 kr k2 n e13.slot (IntKind.i64.wrap (x11+(1:Int)))))) ((bD x12 kr k2 n e13.slot (IntKind.i64.wrap (x11+(1:Int))))))) (
  ae (!e13.content) (
  ae (!(e13.data==([] :Str))) ((kr)) ((bD x12 kr k2 n e13.slot (IntKind.i64.wrap (x11+(1:Int)))))) ((bD x12 kr k2 n e13.slot (IntKind.i64.wrap (x11+(1:Int))))))))))) (none)) ((k2))
noncomputable def im (w0:ao):Option (Bool):=
 aj (gW w0.fs) fun y1=>
 ae (y1 !=(0:Int)) (some false) (aj (cH w0) fun y2=>aj (mf y2) fun y3=>
 ae (!y3) (some false) (fV w0 (some false) (bD w0 (some false) (some true) bw (0:Int) (0:Int)) bw (0:Int)))
noncomputable def sP (w0:ao):Option (Bool):=
 aj (qM w0) fun y1=>ae y1 (aj (im w0) fun y2=>some y2) (some false)
noncomputable def gR {R:Type} (x1:Int) (x3:ao) (kr:Kept→Option R) (k0:Option R):Nat→Int→Option R
 |0,_=>none
 |n+1,x2=>
  ae (decide (x2<(List.length x3.aq.kept:Int))) (
  ae (decide (0≤x2)) (aj x3.aq.kept[Int.toNat x2]? fun e5=>
  ae (e5.slot==x1) (
  ae (decide (0≤x2)) (aj x3.aq.kept[Int.toNat x2]? fun e6=>(kr e6)) (none)) ((gR x1 x3 kr k0 n (IntKind.i64.wrap (x2+(1:Int)))))) (none)) ((k0))
noncomputable def gk (w0:ao) (w1:Int):Option (Kept×Bool):=
 gR w1 w0 (fun z10=>some (z10,true)) (some ((⟨0,0,false, []⟩:Kept),false)) bw (0:Int)
noncomputable def eK {R:Type} (x3:ao) (x4:Kept) (k0:Bool→(List Kept)→Option R):Nat→Bool→Int→(List Kept)→Option R
 |0,_,_,_=>none
 |n+1,x1,x2,x6=>
  ae (decide (x2<(List.length x3.aq.kept:Int))) (
  ae (!x1) (
  ae (decide (0≤x2)) (aj x3.aq.kept[Int.toNat x2]? fun e7=>
  ae (decide (e7.slot>x4.slot)) (aT (x6.length+[x4].length) (
  ae (decide (0≤x2)) (aj x3.aq.kept[Int.toNat x2]? fun e8=>aT ((x6++[x4]).length+[e8].length) ((eK x3 x4 k0 n true (IntKind.i64.wrap (x2+(1:Int))) ((x6++[x4])++[e8])))) (none))) (
  ae (decide (0≤x2)) (aj x3.aq.kept[Int.toNat x2]? fun e9=>aT (x6.length+[e9].length) ((eK x3 x4 k0 n x1 (IntKind.i64.wrap (x2+(1:Int))) (x6++[e9])))) (none))) (none)) (
  ae (decide (0≤x2)) (aj x3.aq.kept[Int.toNat x2]? fun e10=>aT (x6.length+[e10].length) ((eK x3 x4 k0 n x1 (IntKind.i64.wrap (x2+(1:Int))) (x6++[e10])))) (none))) ((k0 x1 x6))
noncomputable def kb (w0:ao) (w1:Kept):Option (ao):=
 eK w0 w1 (fun z16 z17=>
 ae (!z16) (aT (z17.length+[w1].length) (some (⟨w0.fs,(⟨(z17++[w1]),w0.aq.aV⟩:cm)⟩:ao))) (some (⟨w0.fs,(⟨z17,w0.aq.aV⟩:cm)⟩:ao))) bw false (0:Int) ([] :List Kept)
noncomputable def h_ (w0:ao) (w1:Int) (w2:ar):Option (ao×Int):=
 aj (gk w0 w1) fun y1=>
 ae y1.2 (some (w0,(13:Int))) (aj (bH w0.fs w2.ino) fun y2=>aj (eF w0.fs w2) fun y3=>
 ae (y2.1.aI==(1:Int)) (aj (cH (⟨y3,w0.aq⟩:ao)) fun y4=>aj (bG y4 (⟨y2.1.ino,y2.1.kind,(0:Int),y2.1.data,(0:Int),y2.1.entries⟩:al)) fun y5=>aj (kb (⟨y3,(⟨w0.aq.kept,y5.aa⟩:cm)⟩:ao) (⟨w1,w2.ino,false, []⟩:Kept)) fun y6=>some (y6,(0:Int))) (aj (kb (⟨y3,w0.aq⟩:ao) (⟨w1,w2.ino,false, []⟩:Kept)) fun y7=>some (y7,(0:Int))))
noncomputable def dS {R:Type} (x1:Int) (x3:ao) (k0:(List Kept)→Option R):Nat→Int→(List Kept)→Option R
 |0,_,_=>none
 |n+1,x2,x5=>
  ae (decide (x2<(List.length x3.aq.kept:Int))) (
  ae (decide (0≤x2)) (aj x3.aq.kept[Int.toNat x2]? fun e6=>
  ae (e6.slot !=x1) (
  ae (decide (0≤x2)) (aj x3.aq.kept[Int.toNat x2]? fun e7=>aT (x5.length+[e7].length) ((dS x1 x3 k0 n (IntKind.i64.wrap (x2+(1:Int))) (x5++[e7])))) (none)) ((dS x1 x3 k0 n (IntKind.i64.wrap (x2+(1:Int))) x5))) (none)) ((k0 x5))
noncomputable def cE (w0:ao) (w1:Int):Option (ao):=
 dS w1 w0 (fun z11=>some (⟨w0.fs,(⟨z11,w0.aq.aV⟩:cm)⟩:ao)) bw (0:Int) ([] :List Kept)
noncomputable def mj (w0:ao) (w1:Int) (w2:ar):Option (ao×Int):=
 aj (gk w0 w1) fun y1=>
 ae (!y1.2) (some (w0,(13:Int))) (
 ae y1.1.content (some (w0,(13:Int))) (aj (bH w0.fs y1.1.ino) fun y2=>aj (j5 w2.name) fun y3=>
 ae (!y3) (some (w0,(9:Int))) (
 ae y2.2 (
 ae (y2.1.kind==(2:Int)) (some (w0,(9:Int))) (
 ae (!y2.2) (aj (cH w0) fun y4=>aj (bH y4 y1.1.ino) fun y5=>
 ae (y5.1.kind==(1:Int)) (aj (eu w0.fs (1:Int) (List.length y5.1.data:Int)) fun y6=>
 ae (!y6) (some (w0,(8:Int))) (
 ae (y5.1.kind==(2:Int)) (aj (bG w0.fs (⟨y5.1.ino,y5.1.kind,y5.1.aI,y5.1.data,w2.dir,y5.1.entries⟩:al)) fun y7=>aj (cH (⟨y7,w0.aq⟩:ao)) fun y8=>aj (dB y8 y1.1.ino) fun y9=>aj (dp y7 w2 y1.1.ino) fun y10=>aj (cE (⟨y10,(⟨w0.aq.kept,y9.aa⟩:cm)⟩:ao) w1) fun y11=>some (y11,(0:Int))) (aj (bG w0.fs y5.1) fun y12=>aj (cH (⟨y12,w0.aq⟩:ao)) fun y13=>aj (dB y13 y1.1.ino) fun y14=>aj (dp y12 w2 y1.1.ino) fun y15=>aj (cE (⟨y15,(⟨w0.aq.kept,y14.aa⟩:cm)⟩:ao) w1) fun y16=>some (y16,(0:Int))))) (aj (eu w0.fs (1:Int) (0:Int)) fun y17=>
 ae (!y17) (some (w0,(8:Int))) (
 ae (y5.1.kind==(2:Int)) (aj (bG w0.fs (⟨y5.1.ino,y5.1.kind,y5.1.aI,y5.1.data,w2.dir,y5.1.entries⟩:al)) fun y18=>aj (cH (⟨y18,w0.aq⟩:ao)) fun y19=>aj (dB y19 y1.1.ino) fun y20=>aj (dp y18 w2 y1.1.ino) fun y21=>aj (cE (⟨y21,(⟨w0.aq.kept,y20.aa⟩:cm)⟩:ao) w1) fun y22=>some (y22,(0:Int))) (aj (bG w0.fs y5.1) fun y23=>aj (cH (⟨y23,w0.aq⟩:ao)) fun y24=>aj (dB y24 y1.1.ino) fun y25=>aj (dp y23 w2 y1.1.ino) fun y26=>aj (cE (⟨y26,(⟨w0.aq.kept,y25.aa⟩:cm)⟩:ao) w1) fun y27=>some (y27,(0:Int)))))) (aj (dp w0.fs w2 y1.1.ino) fun y28=>aj (cE (⟨y28,w0.aq⟩:ao) w1) fun y29=>some (y29,(0:Int))))) (
 ae (!y2.2) (aj (cH w0) fun y30=>aj (bH y30 y1.1.ino) fun y31=>
 ae (y31.1.kind==(1:Int)) (aj (eu w0.fs (1:Int) (List.length y31.1.data:Int)) fun y32=>
 ae (!y32) (some (w0,(8:Int))) (
 ae (y31.1.kind==(2:Int)) (aj (bG w0.fs (⟨y31.1.ino,y31.1.kind,y31.1.aI,y31.1.data,w2.dir,y31.1.entries⟩:al)) fun y33=>aj (cH (⟨y33,w0.aq⟩:ao)) fun y34=>aj (dB y34 y1.1.ino) fun y35=>aj (dp y33 w2 y1.1.ino) fun y36=>aj (cE (⟨y36,(⟨w0.aq.kept,y35.aa⟩:cm)⟩:ao) w1) fun y37=>some (y37,(0:Int))) (aj (bG w0.fs y31.1) fun y38=>aj (cH (⟨y38,w0.aq⟩:ao)) fun y39=>aj (dB y39 y1.1.ino) fun y40=>aj (dp y38 w2 y1.1.ino) fun y41=>aj (cE (⟨y41,(⟨w0.aq.kept,y40.aa⟩:cm)⟩:ao) w1) fun y42=>some (y42,(0:Int))))) (aj (eu w0.fs (1:Int) (0:Int)) fun y43=>
 ae (!y43) (some (w0,(8:Int))) (
 ae (y31.1.kind==(2:Int)) (aj (bG w0.fs (⟨y31.1.ino,y31.1.kind,y31.1.aI,y31.1.data,w2.dir,y31.1.entries⟩:al)) fun y44=>aj (cH (⟨y44,w0.aq⟩:ao)) fun y45=>aj (dB y45 y1.1.ino) fun y46=>aj (dp y44 w2 y1.1.ino) fun y47=>aj (cE (⟨y47,(⟨w0.aq.kept,y46.aa⟩:cm)⟩:ao) w1) fun y48=>some (y48,(0:Int))) (aj (bG w0.fs y31.1) fun y49=>aj (cH (⟨y49,w0.aq⟩:ao)) fun y50=>aj (dB y50 y1.1.ino) fun y51=>aj (dp y49 w2 y1.1.ino) fun y52=>aj (cE (⟨y52,(⟨w0.aq.kept,y51.aa⟩:cm)⟩:ao) w1) fun y53=>some (y53,(0:Int)))))) (aj (dp w0.fs w2 y1.1.ino) fun y54=>aj (cE (⟨y54,w0.aq⟩:ao) w1) fun y55=>some (y55,(0:Int)))))))
noncomputable def hZ (w0:ao) (w1:Int):Option (ao×Int):=
 aj (gk w0 w1) fun y1=>aj (bH w0.fs y1.1.ino) fun y2=>
 ae (!y1.2) (some (w0,(13:Int))) (
 ae (!y1.1.content) (some (w0,(13:Int))) (
 ae (!y2.2) (some (w0,(13:Int))) (aj (eu w0.fs (0:Int) (IntKind.i64.wrap ((List.length y1.1.data:Int) - (List.length y2.1.data:Int)))) fun y3=>
 ae (!y3) (some (w0,(8:Int))) (aj (bG w0.fs (⟨y2.1.ino,y2.1.kind,y2.1.aI,y1.1.data,y2.1.parent,y2.1.entries⟩:al)) fun y4=>aj (cE (⟨y4,w0.aq⟩:ao) w1) fun y5=>some (y5,(0:Int))))))
noncomputable def jK (w0:ao) (w1:Int) (w2:Int):Option (ao×Int):=
 aj (gk w0 w1) fun y1=>
 ae y1.2 (some (w0,(13:Int))) (aj (bH w0.fs w2) fun y2=>aj (kb w0 (⟨w1,w2,true,y2.1.data⟩:Kept)) fun y3=>some (y3,(0:Int)))
noncomputable def jV (w0:Fs) (w1:ar) (w2:Int) (w3:Str):Option (Fs×Int):=
 aj (j5 w1.name) fun y1=>
 ae (!y1) (some (w0,(9:Int))) (
 ae (w2==(1:Int)) (aj (eu w0 (1:Int) (List.length w3:Int)) fun y2=>
 ae (!y2) (some (w0,(8:Int))) (aj (bH w0 w1.dir) fun y3=>aj (fE y3.1.entries w1.name w0.next) fun y4=>
 ae (w2==(2:Int)) (aj (bG w0 (⟨y3.1.ino,y3.1.kind,y3.1.aI,y3.1.data,y3.1.parent,y4⟩:al)) fun y5=>aj (bG y5 (⟨w0.next,w2,(1:Int),w3,w1.dir,([] :List Entry)⟩:al)) fun y6=>some ((⟨y6.aA,y6.aH,(IntKind.i64.wrap (y6.next+(1:Int))),y6.aa⟩:Fs),(0:Int))) (aj (bG w0 (⟨y3.1.ino,y3.1.kind,y3.1.aI,y3.1.data,y3.1.parent,y4⟩:al)) fun y7=>aj (bG y7 (⟨w0.next,w2,(1:Int),w3,0,([] :List Entry)⟩:al)) fun y8=>some ((⟨y8.aA,y8.aH,(IntKind.i64.wrap (y8.next+(1:Int))),y8.aa⟩:Fs),(0:Int))))) (aj (eu w0 (1:Int) (0:Int)) fun y9=>
 ae (!y9) (some (w0,(8:Int))) (aj (bH w0 w1.dir) fun y10=>aj (fE y10.1.entries w1.name w0.next) fun y11=>
 ae (w2==(2:Int)) (aj (bG w0 (⟨y10.1.ino,y10.1.kind,y10.1.aI,y10.1.data,y10.1.parent,y11⟩:al)) fun y12=>aj (bG y12 (⟨w0.next,w2,(1:Int),w3,w1.dir,([] :List Entry)⟩:al)) fun y13=>some ((⟨y13.aA,y13.aH,(IntKind.i64.wrap (y13.next+(1:Int))),y13.aa⟩:Fs),(0:Int))) (aj (bG w0 (⟨y10.1.ino,y10.1.kind,y10.1.aI,y10.1.data,y10.1.parent,y11⟩:al)) fun y14=>aj (bG y14 (⟨w0.next,w2,(1:Int),w3,0,([] :List Entry)⟩:al)) fun y15=>some ((⟨y15.aA,y15.aH,(IntKind.i64.wrap (y15.next+(1:Int))),y15.aa⟩:Fs),(0:Int))))))
noncomputable def tV (w0:Fs) (w1:Str) (w2:Str) (w3:Int) (w4:Str) (w5:Int):Option (Fs×Int):=
 aj (sf w0 w1 w2 false) fun y1=>
 ae (y1.2 !=(0:Int)) (some (w0,y1.2)) (
 ae (y1.1.ino !=(0:Int)) (some (w0,(2:Int))) (
 ae (w5 !=(0:Int)) (aj (ij w2) fun y2=>
 ae y2.gU (some (w0,w5)) (aj (jV w0 y1.1 w3 w4) fun y3=>some (y3.1,y3.2))) (aj (jV w0 y1.1 w3 w4) fun y4=>some (y4.1,y4.2))))
noncomputable def nT (w0:Fs) (w1:Int) (w2:Str):Option (Fs×Int):=
 aj (bH w0 w1) fun y1=>aj (eu w0 (0:Int) (IntKind.i64.wrap ((List.length w2:Int) - (List.length y1.1.data:Int)))) fun y2=>
 ae (!y2) (some (w0,(8:Int))) (aj (bG w0 (⟨y1.1.ino,y1.1.kind,y1.1.aI,w2,y1.1.parent,y1.1.entries⟩:al)) fun y3=>some (y3,(0:Int)))
noncomputable def oC (w0:Fs) (w1:ar) (w2:ar):Option (Fs):=
 ae (w2.ino !=(0:Int)) (aj (eF w0 w2) fun y1=>aj (bH y1 w1.dir) fun y2=>aj (eI y2.1.entries w1.name) fun y3=>aj (bG y1 (⟨y2.1.ino,y2.1.kind,y2.1.aI,y2.1.data,y2.1.parent,y3⟩:al)) fun y4=>aj (bH y4 w2.dir) fun y5=>aj (fE y5.1.entries w2.name w1.ino) fun y6=>aj (bG y4 (⟨y5.1.ino,y5.1.kind,y5.1.aI,y5.1.data,y5.1.parent,y6⟩:al)) fun y7=>aj (bH y7 w1.ino) fun y8=>
 ae (y8.1.kind==(2:Int)) (aj (bG y7 (⟨y8.1.ino,y8.1.kind,y8.1.aI,y8.1.data,w2.dir,y8.1.entries⟩:al)) fun y9=>some y9) (some y7)) (aj (bH w0 w1.dir) fun y10=>aj (eI y10.1.entries w1.name) fun y11=>aj (bG w0 (⟨y10.1.ino,y10.1.kind,y10.1.aI,y10.1.data,y10.1.parent,y11⟩:al)) fun y12=>aj (bH y12 w2.dir) fun y13=>aj (fE y13.1.entries w2.name w1.ino) fun y14=>aj (bG y12 (⟨y13.1.ino,y13.1.kind,y13.1.aI,y13.1.data,y13.1.parent,y14⟩:al)) fun y15=>aj (bH y15 w1.ino) fun y16=>
 ae (y16.1.kind==(2:Int)) (aj (bG y15 (⟨y16.1.ino,y16.1.kind,y16.1.aI,y16.1.data,w2.dir,y16.1.entries⟩:al)) fun y17=>some y17) (some y15))
noncomputable def dN (w0:Fs) (w1:Str) (w2:Int):Option (ar×al×Int):=
 aj (qt w0 w1) fun y1=>aj (bH w0 y1.1.ino) fun y2=>
 ae (y1.2==(0:Int)) (
 ae (w2==(1:Int)) (
 ae (!y2.2) (some (y1.1,y2.1,(1:Int))) (
 ae (y1.2==(0:Int)) (
 ae (w2==(0:Int)) (
 ae y2.2 (some (y1.1,y2.1,(2:Int))) (some (y1.1,y2.1,y1.2))) (some (y1.1,y2.1,y1.2))) (some (y1.1,y2.1,y1.2)))) (
 ae (y1.2==(0:Int)) (
 ae (w2==(0:Int)) (
 ae y2.2 (some (y1.1,y2.1,(2:Int))) (some (y1.1,y2.1,y1.2))) (some (y1.1,y2.1,y1.2))) (some (y1.1,y2.1,y1.2)))) (
 ae (y1.2==(0:Int)) (
 ae (w2==(0:Int)) (
 ae y2.2 (some (y1.1,y2.1,(2:Int))) (some (y1.1,y2.1,y1.2))) (some (y1.1,y2.1,y1.2))) (some (y1.1,y2.1,y1.2)))
noncomputable def j7 (w0:ao) (w1:Str) (w2:Int) (w3:Str):Option (ao×Int):=
 aj (dN w0.fs w1 (0:Int)) fun y1=>
 ae (y1.2.2 !=(0:Int)) (some (w0,y1.2.2)) (aj (jV w0.fs y1.1 w2 w3) fun y2=>some ((⟨y2.1,w0.aq⟩:ao),y2.2))
noncomputable def ko (w0:Fs) (w1:Str):Option (al×Int):=
 aj (dN w0 w1 (1:Int)) fun y1=>
 ae (y1.2.2==(0:Int)) (
 ae (y1.2.1.kind==(2:Int)) (some (y1.2.1,(4:Int))) (
 ae (y1.2.2==(0:Int)) (
 ae (y1.2.1.kind==(3:Int)) (some (y1.2.1,(9:Int))) (some (y1.2.1,y1.2.2))) (some (y1.2.1,y1.2.2)))) (
 ae (y1.2.2==(0:Int)) (
 ae (y1.2.1.kind==(3:Int)) (some (y1.2.1,(9:Int))) (some (y1.2.1,y1.2.2))) (some (y1.2.1,y1.2.2)))
noncomputable def kC (w0:ao) (w1:Opn):Option (ao×Int):=
 aj (ko w0.fs w1.a) fun y1=>
 ae (y1.2 !=(0:Int)) (some (w0,y1.2)) (aj (ko w0.fs w1.b) fun y2=>
 ae (y2.2 !=(0:Int)) (some (w0,y2.2)) (
 ae (y1.1.ino==y2.1.ino) (some (w0,(9:Int))) (aj (jK w0 w1.slot y2.1.ino) fun y3=>
 ae (y3.2 !=(0:Int)) (some (w0,y3.2)) (aj (nT y3.1.fs y2.1.ino y1.1.data) fun y4=>
 ae (y4.2 !=(0:Int)) (some (w0,y4.2)) (some ((⟨y4.1,y3.1.aq⟩:ao),(0:Int)))))))
noncomputable def dE {R:Type} (x18:ao) (x21:al) (kr:Option R) (k1:Option R):Nat→Int→Option R
 |0,_=>none
 |n+1,x17=>
  ae (decide (x17<(List.length x18.aq.kept:Int))) (
  ae (decide (0≤x17)) (aj x18.aq.kept[Int.toNat x17]? fun e22=>
  ae (e22.ino==x21.ino) (
  ae (x21.aI==(1:Int)) ((kr)) ((dE x18 x21 kr k1 n (IntKind.i64.wrap (x17+(1:Int)))))) ((dE x18 x21 kr k1 n (IntKind.i64.wrap (x17+(1:Int)))))) (none)) ((k1))
noncomputable def pU (w0:ao) (w1:Opn):Option (ao×Int):=
 aj (jh w1) fun y1=>
 ae (!y1) (some (w0,(12:Int))) (
 ae (w1.kind==(1:Int)) (aj (j7 w0 w1.a (2:Int) ([] :Str)) fun y2=>some (y2.1,y2.2)) (
 ae (w1.kind==(2:Int)) (aj (ko w0.fs w1.a) fun y3=>
 ae (y3.2 !=(0:Int)) (some (w0,y3.2)) (aj (j7 w0 w1.b (1:Int) y3.1.data) fun y4=>some (y4.1,y4.2))) (
 ae (w1.kind==(3:Int)) (aj (kC w0 w1) fun y5=>some (y5.1,y5.2)) (
 ae (w1.kind==(4:Int)) (aj (j7 w0 w1.a (3:Int) w1.data) fun y6=>some (y6.1,y6.2)) (
 ae (w1.kind==(5:Int)) (aj (dN w0.fs w1.a (1:Int)) fun y7=>
 ae (y7.2.2==(0:Int)) (
 ae (y7.2.1.kind==(2:Int)) (some (w0,(11:Int))) (
 ae (y7.2.2 !=(0:Int)) (some (w0,y7.2.2)) (aj (dN w0.fs w1.b (0:Int)) fun y8=>
 ae (y8.2.2 !=(0:Int)) (some (w0,y8.2.2)) (aj (dp w0.fs y8.1 y7.2.1.ino) fun y9=>some ((⟨y9,w0.aq⟩:ao),(0:Int)))))) (
 ae (y7.2.2 !=(0:Int)) (some (w0,y7.2.2)) (aj (dN w0.fs w1.b (0:Int)) fun y10=>
 ae (y10.2.2 !=(0:Int)) (some (w0,y10.2.2)) (aj (dp w0.fs y10.1 y7.2.1.ino) fun y11=>some ((⟨y11,w0.aq⟩:ao),(0:Int)))))) (
 ae (w1.kind==(6:Int)) (aj (dN w0.fs w1.a (1:Int)) fun y12=>
 ae (y12.2.2 !=(0:Int)) (some (w0,y12.2.2)) (aj (dN w0.fs w1.b (0:Int)) fun y13=>
 ae (y13.2.2 !=(0:Int)) (some (w0,y13.2.2)) (aj (oC w0.fs y12.1 y13.1) fun y14=>some ((⟨y14,w0.aq⟩:ao),(0:Int))))) (
 ae (w1.kind==(7:Int)) (
 ae (w1.kind==(7:Int)) (aj (dN w0.fs w1.a (1:Int)) fun y15=>
 ae (y15.2.2==(0:Int)) (
 ae (decide ((List.length y15.2.1.entries:Int)>(0:Int))) (some (w0,(5:Int))) (
 ae (y15.2.2 !=(0:Int)) (some (w0,y15.2.2)) (
 ae (w1.kind==(7:Int)) (aj (h_ w0 w1.slot y15.1) fun y16=>some (y16.1,y16.2)) (dE w0 y15.2.1 (some (w0,(13:Int))) (aj (eF w0.fs y15.1) fun y28=>some ((⟨y28,w0.aq⟩:ao),(0:Int))) bw (0:Int))))) (
 ae (y15.2.2 !=(0:Int)) (some (w0,y15.2.2)) (
 ae (w1.kind==(7:Int)) (aj (h_ w0 w1.slot y15.1) fun y29=>some (y29.1,y29.2)) (dE w0 y15.2.1 (some (w0,(13:Int))) (aj (eF w0.fs y15.1) fun y30=>some ((⟨y30,w0.aq⟩:ao),(0:Int))) bw (0:Int))))) (
 ae (w1.kind==(9:Int)) (aj (dN w0.fs w1.a (0:Int)) fun y31=>
 ae (y31.2.2 !=(0:Int)) (some (w0,y31.2.2)) (aj (mj w0 w1.slot y31.1) fun y32=>some (y32.1,y32.2))) (aj (dN w0.fs w1.a (1:Int)) fun y33=>
 ae (y33.2.2 !=(0:Int)) (some (w0,y33.2.2)) (aj (gk w0 w1.slot) fun y34=>
 ae (!y34.2) (some (w0,(13:Int))) (
 ae (!y34.1.content) (some (w0,(13:Int))) (
 ae (y34.1.ino !=y33.2.1.ino) (some (w0,(13:Int))) (aj (hZ w0 w1.slot) fun y35=>some (y35.1,y35.2)))))))) (
 ae (w1.kind==(8:Int)) (aj (dN w0.fs w1.a (1:Int)) fun y36=>
 ae (y36.2.2==(0:Int)) (
 ae (decide ((List.length y36.2.1.entries:Int)>(0:Int))) (some (w0,(5:Int))) (
 ae (y36.2.2 !=(0:Int)) (some (w0,y36.2.2)) (
 ae (w1.kind==(7:Int)) (aj (h_ w0 w1.slot y36.1) fun y37=>some (y37.1,y37.2)) (dE w0 y36.2.1 (some (w0,(13:Int))) (aj (eF w0.fs y36.1) fun y38=>some ((⟨y38,w0.aq⟩:ao),(0:Int))) bw (0:Int))))) (
 ae (y36.2.2 !=(0:Int)) (some (w0,y36.2.2)) (
 ae (w1.kind==(7:Int)) (aj (h_ w0 w1.slot y36.1) fun y39=>some (y39.1,y39.2)) (dE w0 y36.2.1 (some (w0,(13:Int))) (aj (eF w0.fs y36.1) fun y40=>some ((⟨y40,w0.aq⟩:ao),(0:Int))) bw (0:Int))))) (
 ae (w1.kind==(9:Int)) (aj (dN w0.fs w1.a (0:Int)) fun y41=>
 ae (y41.2.2 !=(0:Int)) (some (w0,y41.2.2)) (aj (mj w0 w1.slot y41.1) fun y42=>some (y42.1,y42.2))) (aj (dN w0.fs w1.a (1:Int)) fun y43=>
 ae (y43.2.2 !=(0:Int)) (some (w0,y43.2.2)) (aj (gk w0 w1.slot) fun y44=>
 ae (!y44.2) (some (w0,(13:Int))) (
 ae (!y44.1.content) (some (w0,(13:Int))) (
 ae (y44.1.ino !=y43.2.1.ino) (some (w0,(13:Int))) (aj (hZ w0 w1.slot) fun y45=>some (y45.1,y45.2)))))))))))))))
noncomputable def nr (w0:Opn):Option (Opn×Bool):=
 ae (w0.kind==(1:Int)) (
 ae (w0.kind==(1:Int)) (some ((⟨(8:Int),0,w0.a, [], []⟩:Opn),true)) (
 ae (w0.kind==(2:Int)) (
 ae (w0.kind==(2:Int)) (some ((⟨(8:Int),0,w0.b, [], []⟩:Opn),true)) (
 ae (w0.kind==(3:Int)) (some ((⟨(10:Int),w0.slot,w0.b, [], []⟩:Opn),true)) (
 ae (w0.kind==(6:Int)) (some ((⟨(6:Int),0,w0.b,w0.a, []⟩:Opn),true)) (
 ae (w0.kind==(7:Int)) (some ((⟨(9:Int),w0.slot,w0.a, [], []⟩:Opn),true)) (some ((⟨0,0, [], [], []⟩:Opn),false)))))) (
 ae (w0.kind==(5:Int)) (some ((⟨(8:Int),0,w0.b, [], []⟩:Opn),true)) (
 ae (w0.kind==(3:Int)) (some ((⟨(10:Int),w0.slot,w0.b, [], []⟩:Opn),true)) (
 ae (w0.kind==(6:Int)) (some ((⟨(6:Int),0,w0.b,w0.a, []⟩:Opn),true)) (
 ae (w0.kind==(7:Int)) (some ((⟨(9:Int),w0.slot,w0.a, [], []⟩:Opn),true)) (some ((⟨0,0, [], [], []⟩:Opn),false)))))))) (
 ae (w0.kind==(4:Int)) (some ((⟨(8:Int),0,w0.a, [], []⟩:Opn),true)) (
 ae (w0.kind==(2:Int)) (
 ae (w0.kind==(2:Int)) (some ((⟨(8:Int),0,w0.b, [], []⟩:Opn),true)) (
 ae (w0.kind==(3:Int)) (some ((⟨(10:Int),w0.slot,w0.b, [], []⟩:Opn),true)) (
 ae (w0.kind==(6:Int)) (some ((⟨(6:Int),0,w0.b,w0.a, []⟩:Opn),true)) (
 ae (w0.kind==(7:Int)) (some ((⟨(9:Int),w0.slot,w0.a, [], []⟩:Opn),true)) (some ((⟨0,0, [], [], []⟩:Opn),false)))))) (
 ae (w0.kind==(5:Int)) (some ((⟨(8:Int),0,w0.b, [], []⟩:Opn),true)) (
 ae (w0.kind==(3:Int)) (some ((⟨(10:Int),w0.slot,w0.b, [], []⟩:Opn),true)) (
 ae (w0.kind==(6:Int)) (some ((⟨(6:Int),0,w0.b,w0.a, []⟩:Opn),true)) (
 ae (w0.kind==(7:Int)) (some ((⟨(9:Int),w0.slot,w0.a, [], []⟩:Opn),true)) (some ((⟨0,0, [], [], []⟩:Opn),false))))))))
noncomputable def cz {R:Type} (x1:Str) (kr:Int→Option R) (k0:Option R):Nat→Int→Option R
 |0,_=>none
 |n+1,x2=>
  ae (decide (x2<(List.length x1:Int))) (
  ae (decide (0≤x2)) (aj x1[Int.toNat x2]? fun c3=>splitK (UInt8.toNat c3:Int) 256 0 (fun i4=>
  ae (Nat.beq i4 0||Nat.beq i4 47) ((kr x2)) ((cz x1 kr k0 n (IntKind.i64.wrap (x2+(1:Int))))))) (none)) ((k0))
noncomputable def cK {R:Type} (x13:Str) (kr:Int→Option R) (k9:Option R):Nat→Nat→Option R
 |0,_=>none
 |n+1,x14=>
  ae (Nat.blt x14 x13.length) (
  ae (((bA x13 x14).1:Int)==(65533:Int)) ((kr (x14:Int))) ((cK x13 kr k9 n (x14+(bA x13 x14).2)))) ((k9))
noncomputable def di {R:Type} (x35:Str) (x36:Int) (x37:Int) (k3:Option R):Nat→Int→Option R
 |0,_=>none
 |n+1,x38=>
  ae (decide (x38<(List.length x35:Int))) (
  ae (decide (0≤(IntKind.i64.wrap (x37 - x38)))) (aj ([47,0]:Str)[Int.toNat (IntKind.i64.wrap (x37 - x38))]? fun c42=>
  ae (decide (0≤(IntKind.i64.wrap (x36 - x38)))) (aj x35[Int.toNat (IntKind.i64.wrap (x36 - x38))]? fun c43=>
  ae ((UInt8.toNat c42:Int) !=(UInt8.toNat c43:Int)) (none) ((di x35 x36 x37 k3 n (IntKind.i64.wrap (x38+(1:Int)))))) (none)) (none)) ((k3))
noncomputable def bJ {R:Type} (x25:Str) (x26:Int) (x27:Int) (kr:Int→Option R) (k1:Option R):Nat→Option R
 |0=>none
 |n+1=>
  ae (decide (x27<(2:Int))) (
  ae (decide (0≤x27)) (aj ([47,0]:Str)[Int.toNat x27]? fun c31=>
  ae (decide (0≤x26)) (aj x25[Int.toNat x26]? fun c32=>
  ae ((UInt8.toNat c31:Int) !=(UInt8.toNat c32:Int)) (
  ae (decide (0≤(IntKind.i64.wrap (x27+(1:Int)))∧(IntKind.i64.wrap (x27+(1:Int)))≤(([47,0]:Str).length:Int))) (
  ae (decide (0≤x26)) (aj x25[Int.toNat x26]? fun c33=>aj (stringslite_IndexByte (([47,0]:Str).drop (Int.toNat (IntKind.i64.wrap (x27+(1:Int))))) (UInt8.toNat c33:Int)) fun y34=>
  ae (decide (y34<(0:Int))) ((kr (-1:Int))) (di x25 x26 (IntKind.i64.wrap (x27+(IntKind.i64.wrap (y34+(1:Int))))) ((kr (IntKind.i64.wrap ((IntKind.i64.wrap (x27+(IntKind.i64.wrap (y34+(1:Int))))) - x26)))) bw (1:Int))) (none)) (none)) (di x25 x26 x27 ((kr (IntKind.i64.wrap (x27 - x26)))) bw (1:Int))) (none)) (none)) ((k1))
noncomputable def aJ {R:Type} (x7:Str) (kr:Int→Option R) (k2:Option R):Nat→Nat→Option R
 |0,_=>none
 |n+1,x8=>
  ae (Nat.blt x8 x7.length) (
  ae (decide ((0:Int)≤((bA x7 x8).1:Int))) (
  ae (decide (((bA x7 x8).1:Int)<(128:Int))) (aj (stringslite_IndexByte ([47,0]:Str) (IntKind.u8.wrap (((bA x7 x8).1:Int)))) fun y9=>
  ae (decide (y9≥(0:Int))) ((kr (x8:Int))) ((aJ x7 kr k2 n (x8+(bA x7 x8).2)))) (
  ae (((bA x7 x8).1:Int)==(65533:Int)) (cK ([47,0]:Str) (fun z24=>
  ae (decide (z24≥(0:Int))) ((kr (x8:Int))) ((aJ x7 kr k2 n (x8+(bA x7 x8).2)))) ((aJ x7 kr k2 n (x8+(bA x7 x8).2))) bw 0) (
  ae (decide ((0:Int)≤((bA x7 x8).1:Int))) (
  ae (decide (((bA x7 x8).1:Int)<(55296:Int))) (bJ ((Utf8.encode ((bA x7 x8).1:Int)).data.toList) (IntKind.i64.wrap ((List.length ((Utf8.encode ((bA x7 x8).1:Int)).data.toList):Int) - (1:Int))) (IntKind.i64.wrap ((List.length ((Utf8.encode ((bA x7 x8).1:Int)).data.toList):Int) - (1:Int))) (fun z59=>
  ae (decide (z59≥(0:Int))) ((kr (x8:Int))) ((aJ x7 kr k2 n (x8+(bA x7 x8).2)))) ((aJ x7 kr k2 n (x8+(bA x7 x8).2))) bw) (
  ae (decide ((57343:Int)<((bA x7 x8).1:Int))) (
  ae (decide (((bA x7 x8).1:Int)≤(1114111:Int))) (bJ ((Utf8.encode ((bA x7 x8).1:Int)).data.toList) (IntKind.i64.wrap ((List.length ((Utf8.encode ((bA x7 x8).1:Int)).data.toList):Int) - (1:Int))) (IntKind.i64.wrap ((List.length ((Utf8.encode ((bA x7 x8).1:Int)).data.toList):Int) - (1:Int))) (fun z60=>
  ae (decide (z60≥(0:Int))) ((kr (x8:Int))) ((aJ x7 kr k2 n (x8+(bA x7 x8).2)))) ((aJ x7 kr k2 n (x8+(bA x7 x8).2))) bw) ((aJ x7 kr k2 n (x8+(bA x7 x8).2)))) ((aJ x7 kr k2 n (x8+(bA x7 x8).2))))) (
  ae (decide ((57343:Int)<((bA x7 x8).1:Int))) (
  ae (decide (((bA x7 x8).1:Int)≤(1114111:Int))) (bJ ((Utf8.encode ((bA x7 x8).1:Int)).data.toList) (IntKind.i64.wrap ((List.length ((Utf8.encode ((bA x7 x8).1:Int)).data.toList):Int) - (1:Int))) (IntKind.i64.wrap ((List.length ((Utf8.encode ((bA x7 x8).1:Int)).data.toList):Int) - (1:Int))) (fun z61=>
  ae (decide (z61≥(0:Int))) ((kr (x8:Int))) ((aJ x7 kr k2 n (x8+(bA x7 x8).2)))) ((aJ x7 kr k2 n (x8+(bA x7 x8).2))) bw) ((aJ x7 kr k2 n (x8+(bA x7 x8).2)))) ((aJ x7 kr k2 n (x8+(bA x7 x8).2))))))) (
  ae (((bA x7 x8).1:Int)==(65533:Int)) (cK ([47,0]:Str) (fun z62=>
  ae (decide (z62≥(0:Int))) ((kr (x8:Int))) ((aJ x7 kr k2 n (x8+(bA x7 x8).2)))) ((aJ x7 kr k2 n (x8+(bA x7 x8).2))) bw 0) (
  ae (decide ((0:Int)≤((bA x7 x8).1:Int))) (
  ae (decide (((bA x7 x8).1:Int)<(55296:Int))) (bJ ((Utf8.encode ((bA x7 x8).1:Int)).data.toList) (IntKind.i64.wrap ((List.length ((Utf8.encode ((bA x7 x8).1:Int)).data.toList):Int) - (1:Int))) (IntKind.i64.wrap ((List.length ((Utf8.encode ((bA x7 x8).1:Int)).data.toList):Int) - (1:Int))) (fun z63=>
  ae (decide (z63≥(0:Int))) ((kr (x8:Int))) ((aJ x7 kr k2 n (x8+(bA x7 x8).2)))) ((aJ x7 kr k2 n (x8+(bA x7 x8).2))) bw) (
  ae (decide ((57343:Int)<((bA x7 x8).1:Int))) (
  ae (decide (((bA x7 x8).1:Int)≤(1114111:Int))) (bJ ((Utf8.encode ((bA x7 x8).1:Int)).data.toList) (IntKind.i64.wrap ((List.length ((Utf8.encode ((bA x7 x8).1:Int)).data.toList):Int) - (1:Int))) (IntKind.i64.wrap ((List.length ((Utf8.encode ((bA x7 x8).1:Int)).data.toList):Int) - (1:Int))) (fun z64=>
  ae (decide (z64≥(0:Int))) ((kr (x8:Int))) ((aJ x7 kr k2 n (x8+(bA x7 x8).2)))) ((aJ x7 kr k2 n (x8+(bA x7 x8).2))) bw) ((aJ x7 kr k2 n (x8+(bA x7 x8).2)))) ((aJ x7 kr k2 n (x8+(bA x7 x8).2))))) (
  ae (decide ((57343:Int)<((bA x7 x8).1:Int))) (
  ae (decide (((bA x7 x8).1:Int)≤(1114111:Int))) (bJ ((Utf8.encode ((bA x7 x8).1:Int)).data.toList) (IntKind.i64.wrap ((List.length ((Utf8.encode ((bA x7 x8).1:Int)).data.toList):Int) - (1:Int))) (IntKind.i64.wrap ((List.length ((Utf8.encode ((bA x7 x8).1:Int)).data.toList):Int) - (1:Int))) (fun z65=>
  ae (decide (z65≥(0:Int))) ((kr (x8:Int))) ((aJ x7 kr k2 n (x8+(bA x7 x8).2)))) ((aJ x7 kr k2 n (x8+(bA x7 x8).2))) bw) ((aJ x7 kr k2 n (x8+(bA x7 x8).2)))) ((aJ x7 kr k2 n (x8+(bA x7 x8).2))))))) ((k2))
noncomputable def fL (w0:Str):Option (Bool):=
 ae (decide ((List.length w0:Int)>(8:Int))) (cz w0 (fun z6=>some (decide (z6≥(0:Int)))) (some false) bw (0:Int)) (aJ w0 (fun z67=>some (decide (z67≥(0:Int)))) (some false) bw 0)
noncomputable def mu (w0:Str):Option (Bool):=
 ae (!(w0==([] :Str))) (
 ae (decide ((List.length w0:Int)≤(255:Int))) (aj (fL w0) fun y1=>
 ae (!y1) (
 ae (!(w0==([46]:Str))) (some (!(w0==([46,46]:Str)))) (some false)) (some false)) (some false)) (some false)
noncomputable def lW (w0:(List Str)):Option (Str):=
 ae ((List.length w0:Int)==(0:Int)) (some ([47]:Str)) (aj (strings_Join w0 ([47]:Str)) fun y1=>aT (([47]:Str).length+y1.length) (some (([47]:Str)++y1)))
noncomputable def bB {R:Type} (k2:Str→(List Str)→Option R):Nat→Str→(List Str)→Option R
 |0,_,_=>none
 |n+1,x2,x3=>
  ae (([47]:Str)==x2) (
  ae (decide (0≤(0:Int)∧(0:Int)≤(x2.length:Int))) (
  ae (!((x2.take (Int.toNat (0:Int)))==([] :Str))) (aT (x3.length+[(x2.take (Int.toNat (0:Int)))].length) (
  ae (decide (0≤(1:Int)∧(1:Int)≤(x2.length:Int))) ((bB k2 n (x2.drop (Int.toNat (1:Int))) (x3++[(x2.take (Int.toNat (0:Int)))]))) (none))) (
  ae (decide (0≤(1:Int)∧(1:Int)≤(x2.length:Int))) ((bB k2 n (x2.drop (Int.toNat (1:Int))) x3)) (none))) (none)) (aj (stringslite_IndexByte x2 (47:Int)) fun y4=>
  ae (decide (y4<(0:Int))) ((k2 x2 x3)) (
  ae (decide (0≤(IntKind.i64.wrap (y4+(0:Int)))∧(IntKind.i64.wrap (y4+(0:Int)))≤(x2.length:Int))) (
  ae (!((x2.take (Int.toNat (IntKind.i64.wrap (y4+(0:Int)))))==([] :Str))) (aT (x3.length+[(x2.take (Int.toNat (IntKind.i64.wrap (y4+(0:Int)))))].length) (
  ae (decide (0≤(IntKind.i64.wrap (y4+(1:Int)))∧(IntKind.i64.wrap (y4+(1:Int)))≤(x2.length:Int))) ((bB k2 n (x2.drop (Int.toNat (IntKind.i64.wrap (y4+(1:Int))))) (x3++[(x2.take (Int.toNat (IntKind.i64.wrap (y4+(0:Int)))))]))) (none))) (
  ae (decide (0≤(IntKind.i64.wrap (y4+(1:Int)))∧(IntKind.i64.wrap (y4+(1:Int)))≤(x2.length:Int))) ((bB k2 n (x2.drop (Int.toNat (IntKind.i64.wrap (y4+(1:Int))))) x3)) (none))) (none)))
noncomputable def cJ {R:Type} (x11:Int) (x14:List Str) (kr:Int→Option R) (k0:Option R):Nat→Int→Option R
 |0,_=>none
 |n+1,x12=>
  ae (decide (x12<x11)) (
  ae (decide (0≤x12∧x12<(x14.length:Int))) (aj x14[(Int.toNat x12)]? fun e15=>aj (mu e15) fun y16=>
  ae (!y16) ((kr x12)) ((cJ x11 x14 kr k0 n (IntKind.i64.wrap (x12+(1:Int)))))) (none)) ((k0))
noncomputable def l6 (w0:Str):Option ((List Str)×Bool):=
 bB (fun z8 z9=>
 ae (!(z8==([] :Str))) (aT (z9.length+[z8].length) (aj (lW (z9++[z8])) fun y10=>
 ae (!(y10==w0)) (some (([] :List Str),false)) (cJ (List.length (z9++[z8]):Int) (z9++[z8]) (fun z22=>
 ae (decide (z22≥(0:Int))) (some (([] :List Str),false)) (some ((z9++[z8]),true))) (some ((z9++[z8]),true)) bw (0:Int)))) (aj (lW z9) fun y23=>
 ae (!(y23==w0)) (some (([] :List Str),false)) (cJ (List.length z9:Int) z9 (fun z24=>
 ae (decide (z24≥(0:Int))) (some (([] :List Str),false)) (some (z9,true))) (some (z9,true)) bw (0:Int)))) bw w0 ([] :List Str)
noncomputable def aw (w0:Str) (w1:Str):Option (Bool):=
 ae (w0==w1) (some true) (
 ae (w1==([47]:Str)) (some true) (aT (w1.length+([47]:Str).length) (
 ae (decide ((List.length w0:Int)≥(List.length (w1++([47]:Str)):Int))) (
 ae (decide (0≤(List.length (w1++([47]:Str)):Int)∧(List.length (w1++([47]:Str)):Int)≤(w0.length:Int))) (some ((w0.take (Int.toNat (List.length (w1++([47]:Str)):Int)))==(w1++([47]:Str)))) (none)) (some false))))
noncomputable def eH {R:Type} (x1:List Entry) (x2:Str) (k0:Int→Option R):Nat→Int→Int→Option R
 |0,_,_=>none
 |n+1,x4,x5=>
  ae (decide (x4<x5)) (
  ae (decide ((1:Int)<0)) (none) (
  ae (decide (0≤(IntKind.i64.wrap (Int.fdiv (IntKind.u64.wrap (IntKind.i64.wrap (x4+x5))) (2^(min (Int.toNat (1:Int)) (IntKind.bits .u64))))))) (aj x1[Int.toNat (IntKind.i64.wrap (Int.fdiv (IntKind.u64.wrap (IntKind.i64.wrap (x4+x5))) (2^(min (Int.toNat (1:Int)) (IntKind.bits .u64)))))]? fun e6=>aj (strings_Compare e6.name x2) fun y7=>
  ae (decide (y7<(0:Int))) ((eH x1 x2 k0 n (IntKind.i64.wrap ((IntKind.i64.wrap (Int.fdiv (IntKind.u64.wrap (IntKind.i64.wrap (x4+x5))) (2^(min (Int.toNat (1:Int)) (IntKind.bits .u64)))))+(1:Int))) x5)) ((eH x1 x2 k0 n x4 (IntKind.i64.wrap (Int.fdiv (IntKind.u64.wrap (IntKind.i64.wrap (x4+x5))) (2^(min (Int.toNat (1:Int)) (IntKind.bits .u64)))))))) (none))) ((k0 x4))
noncomputable def nZ (w0:(List Entry)) (w1:Str):Option (Int×Bool):=
 eH w0 w1 (fun z12=>
 ae (decide (z12<(List.length w0:Int))) (
 ae (decide (0≤z12)) (aj w0[Int.toNat z12]? fun e13=>aj (strings_Compare e13.name w1) fun y14=>some (z12,(y14==(0:Int)))) (none)) (some (z12,false))) bw (0:Int) (List.length w0:Int)
noncomputable def my (w0:(List Entry)) (w1:Str):Option (Int×Bool):=
 aj (nZ w0 w1) fun y1=>
 ae (!y1.2) (some ((0:Int),false)) (
 ae (decide (0≤y1.1)) (aj w0[Int.toNat y1.1]? fun e2=>some (e2.ino,true)) (none))
noncomputable def fH (w0:(List Entry)) (w1:Str):Option ((List Entry)):=
 aj (nZ w0 w1) fun y1=>
 ae (!y1.2) (Bz w0 (some ([] :List Entry)) (aT (([] :List Entry).length+w0.length) (some (([] :List Entry)++w0)))) (sh (IntKind.i64.wrap ((List.length w0:Int) - (1:Int))) fun s3=>
 ae (decide (0≤s3∧s3=s3)) (aT (Int.toNat s3) (
 ae (decide (0≤y1.1∧y1.1≤(w0.length:Int))) (sh (List.replicate (Int.toNat s3) (⟨[],0⟩:Entry)) fun s0=>sh ((w0.take (Int.toNat y1.1)).take s0.length++s0.drop (w0.take (Int.toNat y1.1)).length) fun s1=>sh ((min (w0.take (Int.toNat y1.1)).length s0.length:Nat):Int) fun s2=>
 ae (decide (0≤s2∧s2≤(s1.length:Int))) (sh (IntKind.i64.wrap (y1.1+(1:Int))) fun s4=>
 ae (decide (0≤s4∧s4≤(w0.length:Int))) (
 ae (Nat.ble ((Int.toNat s2)+(s1.length - (Int.toNat s2))) s1.length) (some (s1.take (Int.toNat s2)++((w0.drop (Int.toNat s4)).take (s1.length - (Int.toNat s2))++(s1.drop (Int.toNat s2)).drop (min (w0.drop (Int.toNat s4)).length (s1.length - (Int.toNat s2)))))) (none)) (none)) (none)) (none))) (none))
noncomputable def eo (w0:(List Entry)) (w1:Str) (w2:Int):Option ((List Entry)):=
 aj (nZ w0 w1) fun y1=>sh (List.length [(⟨w1,w2⟩:Entry)]:Int) fun s11=>Bz w0 (
 ae y1.2 (
 ae (decide (0≤y1.1)) (aj ([] :List Entry)[Int.toNat y1.1]? fun e2=>none) (none)) (
 ae (decide (0≤y1.1∧y1.1≤(([] :List Entry).length:Int))) (
 ae (s11==(0:Int)) (some ([] :List Entry)) (
 ae (y1.1==(List.length ([] :List Entry):Int)) (aT (([] :List Entry).length+[(⟨w1,w2⟩:Entry)].length) (some [(⟨w1,w2⟩:Entry)])) (none))) (none))) (aT (([] :List Entry).length+w0.length) (sh ((([] :List Entry)++w0).length:Int) fun s15=>
 ae y1.2 (
 ae (decide (0≤y1.1∧y1.1<s15)) (aj (([] :List Entry)++w0)[(Int.toNat y1.1)]? fun e3=>some ((([] :List Entry)++w0).set (Int.toNat y1.1) (⟨e3.name,w2⟩:Entry))) (none)) (
 ae (decide (0≤y1.1∧y1.1≤s15)) (
 ae (s11==(0:Int)) (some (([] :List Entry)++w0)) (
 ae (y1.1==(List.length (([] :List Entry)++w0):Int)) (aT ((([] :List Entry)++w0).length+[(⟨w1,w2⟩:Entry)].length) (some ((([] :List Entry)++w0)++[(⟨w1,w2⟩:Entry)]))) (BX (([] :List Entry)++w0).length fun cp4=>sh (IntKind.i64.wrap ((List.length (([] :List Entry)++w0):Int)+s11)) fun s0=>sh (IntKind.i64.wrap (y1.1+s11)) fun s7=>sh (Int.toNat s7) fun s2=>
 ae (decide (s0>(cp4:Int))) (
 ae (decide (0≤y1.1∧y1.1≤(cp4:Int))) (sh (IntKind.i64.wrap (s0 - y1.1)) fun s14=>
 ae (decide (0≤s14)) (aT ((Int.toNat y1.1)+Int.toNat s14) (
 ae (Nat.ble (0+(Int.toNat y1.1)) (([] :List Entry)++w0).length) (
 ae (Nat.blt (cp4 - 0) ((Int.toNat y1.1)+Int.toNat s14)) (sh (((([] :List Entry)++w0).drop 0).take (Int.toNat y1.1)++List.replicate (Int.toNat s14) (⟨[],0⟩:Entry)) fun s4=>
 ae (decide (0≤y1.1∧y1.1≤(s4.length:Int))) (sh (s4.length - (Int.toNat y1.1)) fun s17=>
 ae (Nat.ble ((Int.toNat y1.1)+s17) s4.length) (sh (s4.take (Int.toNat y1.1)++([(⟨w1,w2⟩:Entry)].take s17++(s4.drop (Int.toNat y1.1)).drop (min [(⟨w1,w2⟩:Entry)].length s17))) fun s1=>
 ae (decide (0≤s7∧s7≤(s1.length:Int))) (
 ae (decide (0≤y1.1∧y1.1≤s15)) (sh (min ((([] :List Entry)++w0).length - (Int.toNat y1.1)) (s1.length - s2)) fun s8=>
 ae (Nat.ble ((Int.toNat y1.1)+s8) (([] :List Entry)++w0).length) (
 ae (Nat.ble s2 s1.length) (
 ae (Nat.ble (s2+s8) s1.length) (some (s1.take s2++((((([] :List Entry)++w0).drop (Int.toNat y1.1)).take s8)++s1.drop (s2+s8)))) (none)) (none)) (none)) (none)) (none)) (none)) (none)) (none)) (none))) (none)) (none)) (
 ae (decide (0≤s0∧s0≤(cp4:Int))) (sh (decide (0≤s7∧s7≤((Int.toNat s0):Int))) fun s18=>
 ae s18 (
 ae (Nat.blt 0 [(⟨w1,w2⟩:Entry)].length) (
 ae (Nat.blt 0 (([] :List Entry)++w0).length) (
 ae s18 (sh (decide (0≤y1.1∧y1.1≤((Int.toNat s0):Int))) fun s12=>
 ae s12 (sh ((Int.toNat s0) - (Int.toNat y1.1)) fun s6=>sh (min s6 ((Int.toNat s0) - s2)) fun s13=>
 ae (Nat.ble ((0+(Int.toNat y1.1))+s13) (([] :List Entry)++w0).length) (
 ae (Nat.ble (0+s2) (([] :List Entry)++w0).length) (sh (((([] :List Entry)++w0).drop (0+(Int.toNat y1.1))).take s13) fun s16=>
 ae (Nat.ble ((0+s2)+s13) (([] :List Entry)++w0).length) (
 ae s12 (sh ((([] :List Entry)++w0).take (0+s2)++(s16++(([] :List Entry)++w0).drop ((0+s2)+s13))) fun s3=>
 ae (Nat.ble ((0+(Int.toNat y1.1))+s6) s3.length) (sh (s3.take (0+(Int.toNat y1.1))++([(⟨w1,w2⟩:Entry)].take s6++(s3.drop (0+(Int.toNat y1.1))).drop (min [(⟨w1,w2⟩:Entry)].length s6))) fun s9=>
 ae (Nat.ble (0+(Int.toNat s0)) s9.length) (some ((s9.drop 0).take (Int.toNat s0))) (none)) (none)) (none)) (
 ae s12 (sh ((([] :List Entry)++w0).take (0+s2)++s16) fun s5=>
 ae (Nat.ble ((0+(Int.toNat y1.1))+s6) s5.length) (sh (s5.take (0+(Int.toNat y1.1))++([(⟨w1,w2⟩:Entry)].take s6++(s5.drop (0+(Int.toNat y1.1))).drop (min [(⟨w1,w2⟩:Entry)].length s6))) fun s10=>
 ae (Nat.ble (0+(Int.toNat s0)) s10.length) (some ((s10.drop 0).take (Int.toNat s0))) (none)) (none)) (none))) (none)) (none)) (none)) (none)) (none)) (none)) (none)) (none))))) (none))))
noncomputable def qe (w0:Fs):Option (Int):=
 some (List.length w0.aa:Int)
noncomputable def fy {R:Type} (x2:Int) (x4:Fs) (k0:Int→Option R):Nat→Int→Int→Option R
 |0,_,_=>none
 |n+1,x1,x3=>
  ae (decide (x3<x2)) (
  ae (decide (0≤x3)) (aj x4.aa[Int.toNat x3]? fun e5=>
  ae (e5.kind==(1:Int)) (
  ae (decide (0≤x3)) (aj x4.aa[Int.toNat x3]? fun e6=>(fy x2 x4 k0 n (IntKind.i64.wrap (x1+(List.length e6.data:Int))) (IntKind.i64.wrap (x3+(1:Int))))) (none)) ((fy x2 x4 k0 n x1 (IntKind.i64.wrap (x3+(1:Int)))))) (none)) ((k0 x1))
noncomputable def oU (w0:Fs):Option (Int):=
 fy (List.length w0.aa:Int) w0 (fun z8=>some z8) bw (0:Int) (0:Int)
noncomputable def fN (w0:Fs) (w1:Int) (w2:Int):Option (Bool):=
 aj (qe w0) fun y1=>
 ae (decide ((IntKind.i64.wrap (y1+w1))≤w0.aA)) (aj (oU w0) fun y2=>some (decide ((IntKind.i64.wrap (y2+w2))≤w0.aH))) (some false)
noncomputable def cY {R:Type} (x1:List al) (x2:Int) (k0:Int→Option R):Nat→Int→Int→Option R
 |0,_,_=>none
 |n+1,x4,x5=>
  ae (decide (x4<x5)) (
  ae (decide ((1:Int)<0)) (none) (
  ae (decide (0≤(IntKind.i64.wrap (Int.fdiv (IntKind.u64.wrap (IntKind.i64.wrap (x4+x5))) (2^(min (Int.toNat (1:Int)) (IntKind.bits .u64))))))) (aj x1[Int.toNat (IntKind.i64.wrap (Int.fdiv (IntKind.u64.wrap (IntKind.i64.wrap (x4+x5))) (2^(min (Int.toNat (1:Int)) (IntKind.bits .u64)))))]? fun e6=>
  ae (e6.ino !=e6.ino) (
  ae (x2 !=x2) ((cY x1 x2 k0 n x4 (IntKind.i64.wrap (Int.fdiv (IntKind.u64.wrap (IntKind.i64.wrap (x4+x5))) (2^(min (Int.toNat (1:Int)) (IntKind.bits .u64))))))) ((cY x1 x2 k0 n (IntKind.i64.wrap ((IntKind.i64.wrap (Int.fdiv (IntKind.u64.wrap (IntKind.i64.wrap (x4+x5))) (2^(min (Int.toNat (1:Int)) (IntKind.bits .u64)))))+(1:Int))) x5))) (
  ae (x2 !=x2) ((cY x1 x2 k0 n x4 (IntKind.i64.wrap (Int.fdiv (IntKind.u64.wrap (IntKind.i64.wrap (x4+x5))) (2^(min (Int.toNat (1:Int)) (IntKind.bits .u64))))))) (
  ae (decide (e6.ino<x2)) ((cY x1 x2 k0 n (IntKind.i64.wrap ((IntKind.i64.wrap (Int.fdiv (IntKind.u64.wrap (IntKind.i64.wrap (x4+x5))) (2^(min (Int.toNat (1:Int)) (IntKind.bits .u64)))))+(1:Int))) x5)) (
  ae (decide (e6.ino>x2)) ((cY x1 x2 k0 n x4 (IntKind.i64.wrap (Int.fdiv (IntKind.u64.wrap (IntKind.i64.wrap (x4+x5))) (2^(min (Int.toNat (1:Int)) (IntKind.bits .u64))))))) ((cY x1 x2 k0 n x4 (IntKind.i64.wrap (Int.fdiv (IntKind.u64.wrap (IntKind.i64.wrap (x4+x5))) (2^(min (Int.toNat (1:Int)) (IntKind.bits .u64))))))))))) (none))) ((k0 x4))
noncomputable def nM (w0:Fs) (w1:Int):Option (Int×Bool):=
 cY w0.aa w1 (fun z11=>
 ae (decide (z11<(List.length w0.aa:Int))) (
 ae (decide (0≤z11)) (aj w0.aa[Int.toNat z11]? fun e12=>
 ae (e12.ino !=e12.ino) (
 ae (w1 !=w1) (some (z11,true)) (some (z11,false))) (
 ae (w1 !=w1) (some (z11,false)) (
 ae (decide (e12.ino<w1)) (some (z11,false)) (
 ae (decide (e12.ino>w1)) (some (z11,false)) (some (z11,true)))))) (none)) (some (z11,false))) bw (0:Int) (List.length w0.aa:Int)
noncomputable def cf (w0:Fs) (w1:Int):Option (al×Bool):=
 aj (nM w0 w1) fun y1=>
 ae (!y1.2) (some ((⟨0,0,0, [],0,([] :List Entry)⟩:al),false)) (
 ae (decide (0≤y1.1)) (aj w0.aa[Int.toNat y1.1]? fun e2=>some (e2,true)) (none))
noncomputable def a_ (w0:Fs) (w1:al):Option (Fs):=
 aj (nM w0 w1.ino) fun y1=>Bz w0.aa (
 ae y1.2 (
 ae (decide (0≤y1.1)) (aj ([] :List al)[Int.toNat y1.1]? fun e2=>none) (none)) (
 ae (decide (0≤y1.1∧y1.1≤(([] :List al).length:Int))) (
 ae ((List.length [w1]:Int)==(0:Int)) (some (⟨w0.aA,w0.aH,w0.next,([] :List al)⟩:Fs)) (
 ae (y1.1==(List.length ([] :List al):Int)) (aT (([] :List al).length+[w1].length) (some (⟨w0.aA,w0.aH,w0.next,[w1]⟩:Fs))) (none))) (none))) (aT (([] :List al).length+w0.aa.length) (sh (([] :List al)++w0.aa) fun s3=>
 ae y1.2 (
 ae (decide (0≤y1.1∧y1.1<(s3.length:Int))) (aj s3[(Int.toNat y1.1)]? fun e3=>some (⟨w0.aA,w0.aH,w0.next,(s3.set (Int.toNat y1.1) w1)⟩:Fs)) (none)) (sh (decide (0≤y1.1∧y1.1≤(s3.length:Int))) fun s17=>
 ae s17 (
 ae ((List.length [w1]:Int)==(0:Int)) (some (⟨w0.aA,w0.aH,w0.next,s3⟩:Fs)) (
 ae (y1.1==(List.length s3:Int)) (aT (s3.length+[w1].length) (some (⟨w0.aA,w0.aH,w0.next,(s3++[w1])⟩:Fs))) (BX s3.length fun cp4=>sh (IntKind.i64.wrap ((List.length s3:Int)+(List.length [w1]:Int))) fun s1=>sh (IntKind.i64.wrap (y1.1+(List.length [w1]:Int))) fun s8=>sh (Int.toNat s8) fun s2=>
 ae (decide (s1>(cp4:Int))) (
 ae (decide (0≤y1.1∧y1.1≤(cp4:Int))) (sh (IntKind.i64.wrap (s1 - y1.1)) fun s14=>
 ae (decide (0≤s14)) (aT ((Int.toNat y1.1)+Int.toNat s14) (
 ae (Nat.ble (0+(Int.toNat y1.1)) s3.length) (
 ae (Nat.blt (cp4 - 0) ((Int.toNat y1.1)+Int.toNat s14)) (sh ((s3.drop 0).take (Int.toNat y1.1)++List.replicate (Int.toNat s14) (⟨0,0,0, [],0,([] :List Entry)⟩:al)) fun s0=>
 ae (decide (0≤y1.1∧y1.1≤(s0.length:Int))) (sh (s0.length - (Int.toNat y1.1)) fun s15=>
 ae (Nat.ble ((Int.toNat y1.1)+s15) s0.length) (sh (s0.take (Int.toNat y1.1)++([w1].take s15++(s0.drop (Int.toNat y1.1)).drop (min [w1].length s15))) fun s4=>
 ae (decide (0≤s8∧s8≤(s4.length:Int))) (
 ae s17 (sh (min (s3.length - (Int.toNat y1.1)) (s4.length - s2)) fun s10=>
 ae (Nat.ble ((Int.toNat y1.1)+s10) s3.length) (
 ae (Nat.ble s2 s4.length) (
 ae (Nat.ble (s2+s10) s4.length) (some (⟨w0.aA,w0.aH,w0.next,(s4.take s2++(((s3.drop (Int.toNat y1.1)).take s10)++s4.drop (s2+s10)))⟩:Fs)) (none)) (none)) (none)) (none)) (none)) (none)) (none)) (none)) (none))) (none)) (none)) (
 ae (decide (0≤s1∧s1≤(cp4:Int))) (sh (decide (0≤s8∧s8≤((Int.toNat s1):Int))) fun s16=>
 ae s16 (
 ae (Nat.blt 0 [w1].length) (
 ae (Nat.blt 0 s3.length) (
 ae s16 (sh (decide (0≤y1.1∧y1.1≤((Int.toNat s1):Int))) fun s13=>
 ae s13 (sh ((Int.toNat s1) - (Int.toNat y1.1)) fun s7=>sh (min s7 ((Int.toNat s1) - s2)) fun s5=>
 ae (Nat.ble ((0+(Int.toNat y1.1))+s5) s3.length) (
 ae (Nat.ble (0+s2) s3.length) (
 ae (Nat.ble ((0+s2)+s5) s3.length) (
 ae s13 (sh (s3.take (0+s2)++(((s3.drop (0+(Int.toNat y1.1))).take s5)++s3.drop ((0+s2)+s5))) fun s6=>
 ae (Nat.ble ((0+(Int.toNat y1.1))+s7) s6.length) (sh (s6.take (0+(Int.toNat y1.1))++([w1].take s7++(s6.drop (0+(Int.toNat y1.1))).drop (min [w1].length s7))) fun s11=>
 ae (Nat.ble (0+(Int.toNat s1)) s11.length) (some (⟨w0.aA,w0.aH,w0.next,((s11.drop 0).take (Int.toNat s1))⟩:Fs)) (none)) (none)) (none)) (
 ae s13 (sh (s3.take (0+s2)++((s3.drop (0+(Int.toNat y1.1))).take s5)) fun s9=>
 ae (Nat.ble ((0+(Int.toNat y1.1))+s7) s9.length) (sh (s9.take (0+(Int.toNat y1.1))++([w1].take s7++(s9.drop (0+(Int.toNat y1.1))).drop (min [w1].length s7))) fun s12=>
 ae (Nat.ble (0+(Int.toNat s1)) s12.length) (some (⟨w0.aA,w0.aH,w0.next,((s12.drop 0).take (Int.toNat s1))⟩:Fs)) (none)) (none)) (none))) (none)) (none)) (none)) (none)) (none)) (none)) (none)) (none))))) (none))))
noncomputable def kc (w0:Fs):Option (Fs×Int):=
 Bz w0.aa (some ((⟨w0.aA,w0.aH,(IntKind.i64.wrap (w0.next+(1:Int))),([] :List al)⟩:Fs),w0.next)) (aT (([] :List al).length+w0.aa.length) (some ((⟨w0.aA,w0.aH,(IntKind.i64.wrap (w0.next+(1:Int))),(([] :List al)++w0.aa)⟩:Fs),w0.next)))
noncomputable def o4 (w0:Fs) (w1:Int):Option (Fs):=
 aj (nM w0 w1) fun y1=>sh (IntKind.i64.wrap (y1.1+(1:Int))) fun s3=>sh (⟨w0.aA,w0.aH,w0.next,([] :List al)⟩:Fs) fun s7=>Bz w0.aa (
 ae y1.2 (
 ae (decide ((List.length ([] :List al):Int)=s3)) (sh (decide (0≤s3∧s3≤(([] :List al).length:Int))) fun s8=>
 ae s8 (
 ae (decide (0≤y1.1∧y1.1≤s3)) (
 ae (y1.1==s3) (some s7) (
 ae (decide (0≤y1.1∧y1.1≤(([] :List al).length:Int))) (
 ae s8 (none) (none)) (none))) (none)) (none)) (none)) (some s7)) (aT (([] :List al).length+w0.aa.length) (sh (([] :List al)++w0.aa) fun s1=>sh (⟨w0.aA,w0.aH,w0.next,s1⟩:Fs) fun s9=>
 ae y1.2 (
 ae (decide (0≤(List.length s1:Int)∧(List.length s1:Int)≤(s1.length:Int))) (
 ae (decide (0≤s3∧s3≤(List.length s1:Int))) (
 ae (decide (0≤y1.1∧y1.1≤s3)) (
 ae (y1.1==s3) (some s9) (
 ae (decide (0≤y1.1∧y1.1≤(s1.length:Int))) (
 ae (decide (0≤s3∧s3≤(s1.length:Int))) (
 ae (Nat.ble ((Int.toNat s3)+(s1.length - (Int.toNat s3))) s1.length) (sh ((s1.drop (Int.toNat s3)).take (s1.length - (Int.toNat s3))) fun s0=>
 ae (Nat.ble (0+(Int.toNat y1.1)+s0.length) s1.length) (sh ((Int.toNat y1.1)+s0.length) fun s4=>sh (s1.take (0+(Int.toNat y1.1))++(s0++s1.drop (0+(Int.toNat y1.1)+s0.length))) fun s5=>
 ae (decide (0≤(List.length s1:Int)∧(List.length s1:Int)≤((max s4 (s5.length - 0):Nat):Int))) (
 ae (decide (0≤(s4:Int)∧(s4:Int)≤(List.length s1:Int))) (sh ((Int.toNat (List.length s1:Int)) - (Int.toNat (s4:Int))) fun s6=>
 ae (Nat.ble ((0+(Int.toNat (s4:Int)))+s6) s5.length) (sh (s5.take (0+(Int.toNat (s4:Int)))++(List.replicate s6 (⟨0,0,0, [],0,([] :List Entry)⟩:al)++s5.drop ((0+(Int.toNat (s4:Int)))+s6))) fun s2=>
 ae (Nat.ble (0+s4) s2.length) (some (⟨w0.aA,w0.aH,w0.next,((s2.drop 0).take s4)⟩:Fs)) (none)) (none)) (none)) (none)) (none)) (none)) (none)) (none))) (none)) (none)) (none)) (some s9)))
noncomputable def jj {R:Type} (x2:List Str) (x3:Int) (x5:Fs) (kr:Int→Option R) (k0:ar→Option R):Nat→Int→ar→Option R
 |0,_,_=>none
 |n+1,x4,x7=>
  ae (decide (x4<x3)) (
  ae (decide (0≤x4)) (aj x2[Int.toNat x4]? fun e8=>aj (cf x5 x7.ino) fun y9=>
  ae (!y9.2) ((kr (1:Int))) (
  ae (y9.1.kind !=(2:Int)) ((kr (3:Int))) (aj (my y9.1.entries e8) fun y10=>(jj x2 x3 x5 kr k0 n (IntKind.i64.wrap (x4+(1:Int))) (⟨y9.1.ino,e8,y10.1⟩:ar))))) (none)) ((k0 x7))
noncomputable def pz (w0:Fs) (w1:Str):Option (ar×Int):=
 aj (l6 w1) fun y1=>
 ae (!y1.2) (some ((⟨0, [],0⟩:ar),(9:Int))) (jj y1.1 (List.length y1.1:Int) w0 (fun z15=>some ((⟨((⟨0, [],0⟩:ar).dir),((⟨0, [],0⟩:ar).name),((⟨0, [],0⟩:ar).ino)⟩:ar),z15)) (fun z16=>some (z16,(0:Int))) bw (0:Int) (⟨0, [],(1:Int)⟩:ar))
noncomputable def dt (w0:(List al)):Option ((List al)):=
 Bz w0 (some ([] :List al)) (aT (([] :List al).length+w0.length) (some (([] :List al)++w0)))
noncomputable def fu (w0:(List Kept)):Option ((List Kept)):=
 Bz w0 (some ([] :List Kept)) (aT (([] :List Kept).length+w0.length) (some (([] :List Kept)++w0)))
noncomputable def me (w0:Fs) (w1:ar) (w2:Int) (w3:Str):Option (Fs×Int):=
 ae (w2==(1:Int)) (aj (mu w1.name) fun y1=>
 ae (!y1) (some (w0,(9:Int))) (aj (fN w0 (1:Int) (List.length w3:Int)) fun y2=>
 ae (!y2) (some (w0,(8:Int))) (aj (cf w0 w1.dir) fun y3=>aj (kc w0) fun y4=>
 ae (w2==(2:Int)) (aj (eo y3.1.entries w1.name y4.2) fun y5=>aj (a_ y4.1 (⟨y3.1.ino,y3.1.kind,y3.1.aI,y3.1.data,y3.1.parent,y5⟩:al)) fun y6=>aj (a_ y6 (⟨y4.2,w2,(1:Int),w3,w1.dir,([] :List Entry)⟩:al)) fun y7=>some (y7,(0:Int))) (aj (eo y3.1.entries w1.name y4.2) fun y8=>aj (a_ y4.1 (⟨y3.1.ino,y3.1.kind,y3.1.aI,y3.1.data,y3.1.parent,y8⟩:al)) fun y9=>aj (a_ y9 (⟨y4.2,w2,(1:Int),w3,0,([] :List Entry)⟩:al)) fun y10=>some (y10,(0:Int)))))) (aj (mu w1.name) fun y11=>
 ae (!y11) (some (w0,(9:Int))) (aj (fN w0 (1:Int) (0:Int)) fun y12=>
 ae (!y12) (some (w0,(8:Int))) (aj (cf w0 w1.dir) fun y13=>aj (kc w0) fun y14=>
 ae (w2==(2:Int)) (aj (eo y13.1.entries w1.name y14.2) fun y15=>aj (a_ y14.1 (⟨y13.1.ino,y13.1.kind,y13.1.aI,y13.1.data,y13.1.parent,y15⟩:al)) fun y16=>aj (a_ y16 (⟨y14.2,w2,(1:Int),w3,w1.dir,([] :List Entry)⟩:al)) fun y17=>some (y17,(0:Int))) (aj (eo y13.1.entries w1.name y14.2) fun y18=>aj (a_ y14.1 (⟨y13.1.ino,y13.1.kind,y13.1.aI,y13.1.data,y13.1.parent,y18⟩:al)) fun y19=>aj (a_ y19 (⟨y14.2,w2,(1:Int),w3,0,([] :List Entry)⟩:al)) fun y20=>some (y20,(0:Int))))))
noncomputable def qw (w0:Fs) (w1:Int) (w2:Str):Option (Fs×Int):=
 aj (cf w0 w1) fun y1=>aj (fN w0 (0:Int) (IntKind.i64.wrap ((List.length w2:Int) - (List.length y1.1.data:Int)))) fun y2=>
 ae (!y2) (some (w0,(8:Int))) (aj (a_ w0 (⟨y1.1.ino,y1.1.kind,y1.1.aI,w2,y1.1.parent,y1.1.entries⟩:al)) fun y3=>some (y3,(0:Int)))
noncomputable def bN (w0:Fs) (w1:ar) (w2:Int):Option (Fs):=
 aj (cf w0 w1.dir) fun y1=>aj (eo y1.1.entries w1.name w2) fun y2=>aj (a_ w0 (⟨y1.1.ino,y1.1.kind,y1.1.aI,y1.1.data,y1.1.parent,y2⟩:al)) fun y3=>aj (cf y3 w2) fun y4=>aj (a_ y3 (⟨y4.1.ino,y4.1.kind,(IntKind.i64.wrap (y4.1.aI+(1:Int))),y4.1.data,y4.1.parent,y4.1.entries⟩:al)) fun y5=>some y5
noncomputable def gf (w0:Fs) (w1:ar):Option (Fs):=
 aj (cf w0 w1.dir) fun y1=>aj (fH y1.1.entries w1.name) fun y2=>aj (a_ w0 (⟨y1.1.ino,y1.1.kind,y1.1.aI,y1.1.data,y1.1.parent,y2⟩:al)) fun y3=>aj (cf y3 w1.ino) fun y4=>
 ae ((IntKind.i64.wrap (y4.1.aI - (1:Int)))==(0:Int)) (aj (o4 y3 y4.1.ino) fun y5=>some y5) (aj (a_ y3 (⟨y4.1.ino,y4.1.kind,(IntKind.i64.wrap (y4.1.aI - (1:Int))),y4.1.data,y4.1.parent,y4.1.entries⟩:al)) fun y6=>some y6)
noncomputable def qD (w0:Fs) (w1:ar) (w2:ar):Option (Fs):=
 ae (w2.ino !=(0:Int)) (aj (gf w0 w2) fun y1=>aj (cf y1 w1.dir) fun y2=>aj (fH y2.1.entries w1.name) fun y3=>aj (a_ y1 (⟨y2.1.ino,y2.1.kind,y2.1.aI,y2.1.data,y2.1.parent,y3⟩:al)) fun y4=>aj (cf y4 w2.dir) fun y5=>aj (eo y5.1.entries w2.name w1.ino) fun y6=>aj (a_ y4 (⟨y5.1.ino,y5.1.kind,y5.1.aI,y5.1.data,y5.1.parent,y6⟩:al)) fun y7=>aj (cf y7 w1.ino) fun y8=>
 ae (y8.1.kind==(2:Int)) (aj (a_ y7 (⟨y8.1.ino,y8.1.kind,y8.1.aI,y8.1.data,w2.dir,y8.1.entries⟩:al)) fun y9=>some y9) (aj (a_ y7 y8.1) fun y10=>some y10)) (aj (cf w0 w1.dir) fun y11=>aj (fH y11.1.entries w1.name) fun y12=>aj (a_ w0 (⟨y11.1.ino,y11.1.kind,y11.1.aI,y11.1.data,y11.1.parent,y12⟩:al)) fun y13=>aj (cf y13 w2.dir) fun y14=>aj (eo y14.1.entries w2.name w1.ino) fun y15=>aj (a_ y13 (⟨y14.1.ino,y14.1.kind,y14.1.aI,y14.1.data,y14.1.parent,y15⟩:al)) fun y16=>aj (cf y16 w1.ino) fun y17=>
 ae (y17.1.kind==(2:Int)) (aj (a_ y16 (⟨y17.1.ino,y17.1.kind,y17.1.aI,y17.1.data,w2.dir,y17.1.entries⟩:al)) fun y18=>some y18) (aj (a_ y16 y17.1) fun y19=>some y19))
noncomputable def jC (w0:Str):Option (Bool):=
 aj (l6 w0) fun y1=>ae y1.2 (some (decide ((List.length y1.1:Int)>(0:Int)))) (some false)
noncomputable def cS (w0:Str):Option (Bool):=
 ae (!(w0==([] :Str))) (
 ae (decide ((List.length w0:Int)≤(4095:Int))) (
 ae (([0]:Str)==w0) (some false) (aj (stringslite_IndexByte w0 (0:Int)) fun y1=>some (!(decide (y1≥(0:Int)))))) (some false)) (some false)
noncomputable def A8 (w0:Opn):Option (Bool):=
 ae (decide (w0.kind<(1:Int))) (some false) (
 ae (decide (w0.kind>(10:Int))) (some false) (aj (jC w0.a) fun y1=>
 ae (!y1) (some false) (
 ae (decide (0≤w0.kind)) (aj nq[Int.toNat w0.kind]? fun e2=>
 ae e2.1 (
 ae (decide (w0.slot<(1:Int))) (some false) (
 ae (decide (w0.slot>(1073741824:Int))) (some false) (
 ae (!e2.1) (
 ae (w0.slot !=(0:Int)) (some false) (
 ae e2.2.1 (aj (jC w0.b) fun y3=>
 ae (!y3) (some false) (
 ae (!e2.2.1) (
 ae (!(w0.b==([] :Str))) (some false) (
 ae e2.2.2 (aj (cS w0.data) fun y4=>
 ae (!y4) (some false) (
 ae (!e2.2.2) (
 ae (!(w0.data==([] :Str))) (some false) (
 ae (w0.kind !=(6:Int)) (some true) (aj (aw w0.a w0.b) fun y5=>
 ae (!y5) (aj (aw w0.b w0.a) fun y6=>some (!y6)) (some false)))) (
 ae (w0.kind !=(6:Int)) (some true) (aj (aw w0.a w0.b) fun y7=>
 ae (!y7) (aj (aw w0.b w0.a) fun y8=>some (!y8)) (some false))))) (
 ae (!e2.2.2) (
 ae (!(w0.data==([] :Str))) (some false) (
 ae (w0.kind !=(6:Int)) (some true) (aj (aw w0.a w0.b) fun y9=>
 ae (!y9) (aj (aw w0.b w0.a) fun y10=>some (!y10)) (some false)))) (
 ae (w0.kind !=(6:Int)) (some true) (aj (aw w0.a w0.b) fun y11=>
 ae (!y11) (aj (aw w0.b w0.a) fun y12=>some (!y12)) (some false)))))) (
 ae e2.2.2 (aj (cS w0.data) fun y13=>
 ae (!y13) (some false) (
 ae (!e2.2.2) (
 ae (!(w0.data==([] :Str))) (some false) (
 ae (w0.kind !=(6:Int)) (some true) (aj (aw w0.a w0.b) fun y14=>
 ae (!y14) (aj (aw w0.b w0.a) fun y15=>some (!y15)) (some false)))) (
 ae (w0.kind !=(6:Int)) (some true) (aj (aw w0.a w0.b) fun y16=>
 ae (!y16) (aj (aw w0.b w0.a) fun y17=>some (!y17)) (some false))))) (
 ae (!e2.2.2) (
 ae (!(w0.data==([] :Str))) (some false) (
 ae (w0.kind !=(6:Int)) (some true) (aj (aw w0.a w0.b) fun y18=>
 ae (!y18) (aj (aw w0.b w0.a) fun y19=>some (!y19)) (some false)))) (
 ae (w0.kind !=(6:Int)) (some true) (aj (aw w0.a w0.b) fun y20=>
 ae (!y20) (aj (aw w0.b w0.a) fun y21=>some (!y21)) (some false))))))) (
 ae (!e2.2.1) (
 ae (!(w0.b==([] :Str))) (some false) (
 ae e2.2.2 (aj (cS w0.data) fun y22=>
 ae (!y22) (some false) (
 ae (!e2.2.2) (
 ae (!(w0.data==([] :Str))) (some false) (
 ae (w0.kind !=(6:Int)) (some true) (aj (aw w0.a w0.b) fun y23=>
 ae (!y23) (aj (aw w0.b w0.a) fun y24=>some (!y24)) (some false)))) (
 ae (w0.kind !=(6:Int)) (some true) (aj (aw w0.a w0.b) fun y25=>
 ae (!y25) (aj (aw w0.b w0.a) fun y26=>some (!y26)) (some false))))) (
 ae (!e2.2.2) (
 ae (!(w0.data==([] :Str))) (some false) (
 ae (w0.kind !=(6:Int)) (some true) (aj (aw w0.a w0.b) fun y27=>
 ae (!y27) (aj (aw w0.b w0.a) fun y28=>some (!y28)) (some false)))) (
 ae (w0.kind !=(6:Int)) (some true) (aj (aw w0.a w0.b) fun y29=>
 ae (!y29) (aj (aw w0.b w0.a) fun y30=>some (!y30)) (some false)))))) (
 ae e2.2.2 (aj (cS w0.data) fun y31=>
 ae (!y31) (some false) (
 ae (!e2.2.2) (
 ae (!(w0.data==([] :Str))) (some false) (
 ae (w0.kind !=(6:Int)) (some true) (aj (aw w0.a w0.b) fun y32=>
 ae (!y32) (aj (aw w0.b w0.a) fun y33=>some (!y33)) (some false)))) (
 ae (w0.kind !=(6:Int)) (some true) (aj (aw w0.a w0.b) fun y34=>
 ae (!y34) (aj (aw w0.b w0.a) fun y35=>some (!y35)) (some false))))) (
 ae (!e2.2.2) (
 ae (!(w0.data==([] :Str))) (some false) (
 ae (w0.kind !=(6:Int)) (some true) (aj (aw w0.a w0.b) fun y36=>
 ae (!y36) (aj (aw w0.b w0.a) fun y37=>some (!y37)) (some false)))) (
 ae (w0.kind !=(6:Int)) (some true) (aj (aw w0.a w0.b) fun y38=>
 ae (!y38) (aj (aw w0.b w0.a) fun y39=>some (!y39)) (some false)))))))) (
 ae e2.2.1 (aj (jC w0.b) fun y40=>
 ae (!y40) (some false) (
 ae (!e2.2.1) (
 ae (!(w0.b==([] :Str))) (some false) (
 ae e2.2.2 (aj (cS w0.data) fun y41=>
 ae (!y41) (some false) (
 ae (!e2.2.2) (
 ae (!(w0.data==([] :Str))) (some false) (
 ae (w0.kind !=(6:Int)) (some true) (aj (aw w0.a w0.b) fun y42=>
 ae (!y42) (aj (aw w0.b w0.a) fun y43=>some (!y43)) (some false)))) (
 ae (w0.kind !=(6:Int)) (some true) (aj (aw w0.a w0.b) fun y44=>
 ae (!y44) (aj (aw w0.b w0.a) fun y45=>some (!y45)) (some false))))) (
 ae (!e2.2.2) (
 ae (!(w0.data==([] :Str))) (some false) (
 ae (w0.kind !=(6:Int)) (some true) (aj (aw w0.a w0.b) fun y46=>
 ae (!y46) (aj (aw w0.b w0.a) fun y47=>some (!y47)) (some false)))) (
 ae (w0.kind !=(6:Int)) (some true) (aj (aw w0.a w0.b) fun y48=>
 ae (!y48) (aj (aw w0.b w0.a) fun y49=>some (!y49)) (some false)))))) (
 ae e2.2.2 (aj (cS w0.data) fun y50=>
 ae (!y50) (some false) (
 ae (!e2.2.2) (
 ae (!(w0.data==([] :Str))) (some false) (
 ae (w0.kind !=(6:Int)) (some true) (aj (aw w0.a w0.b) fun y51=>
 ae (!y51) (aj (aw w0.b w0.a) fun y52=>some (!y52)) (some false)))) (
 ae (w0.kind !=(6:Int)) (some true) (aj (aw w0.a w0.b) fun y53=>
 ae (!y53) (aj (aw w0.b w0.a) fun y54=>some (!y54)) (some false))))) (
 ae (!e2.2.2) (
 ae (!(w0.data==([] :Str))) (some false) (
 ae (w0.kind !=(6:Int)) (some true) (aj (aw w0.a w0.b) fun y55=>
 ae (!y55) (aj (aw w0.b w0.a) fun y56=>some (!y56)) (some false)))) (
 ae (w0.kind !=(6:Int)) (some true) (aj (aw w0.a w0.b) fun y57=>
 ae (!y57) (aj (aw w0.b w0.a) fun y58=>some (!y58)) (some false))))))) (
 ae (!e2.2.1) (
 ae (!(w0.b==([] :Str))) (some false) (
 ae e2.2.2 (aj (cS w0.data) fun y59=>
 ae (!y59) (some false) (
 ae (!e2.2.2) (
 ae (!(w0.data==([] :Str))) (some false) (
 ae (w0.kind !=(6:Int)) (some true) (aj (aw w0.a w0.b) fun y60=>
 ae (!y60) (aj (aw w0.b w0.a) fun y61=>some (!y61)) (some false)))) (
 ae (w0.kind !=(6:Int)) (some true) (aj (aw w0.a w0.b) fun y62=>
 ae (!y62) (aj (aw w0.b w0.a) fun y63=>some (!y63)) (some false))))) (
 ae (!e2.2.2) (
 ae (!(w0.data==([] :Str))) (some false) (
 ae (w0.kind !=(6:Int)) (some true) (aj (aw w0.a w0.b) fun y64=>
 ae (!y64) (aj (aw w0.b w0.a) fun y65=>some (!y65)) (some false)))) (
 ae (w0.kind !=(6:Int)) (some true) (aj (aw w0.a w0.b) fun y66=>
 ae (!y66) (aj (aw w0.b w0.a) fun y67=>some (!y67)) (some false)))))) (
 ae e2.2.2 (aj (cS w0.data) fun y68=>
 ae (!y68) (some false) (
 ae (!e2.2.2) (
 ae (!(w0.data==([] :Str))) (some false) (
 ae (w0.kind !=(6:Int)) (some true) (aj (aw w0.a w0.b) fun y69=>
 ae (!y69) (aj (aw w0.b w0.a) fun y70=>some (!y70)) (some false)))) (
 ae (w0.kind !=(6:Int)) (some true) (aj (aw w0.a w0.b) fun y71=>
 ae (!y71) (aj (aw w0.b w0.a) fun y72=>some (!y72)) (some false))))) (
 ae (!e2.2.2) (
 ae (!(w0.data==([] :Str))) (some false) (
 ae (w0.kind !=(6:Int)) (some true) (aj (aw w0.a w0.b) fun y73=>
 ae (!y73) (aj (aw w0.b w0.a) fun y74=>some (!y74)) (some false)))) (
 ae (w0.kind !=(6:Int)) (some true) (aj (aw w0.a w0.b) fun y75=>
 ae (!y75) (aj (aw w0.b w0.a) fun y76=>some (!y76)) (some false)))))))))) (
 ae (!e2.1) (
 ae (w0.slot !=(0:Int)) (some false) (
 ae e2.2.1 (aj (jC w0.b) fun y77=>
 ae (!y77) (some false) (
 ae (!e2.2.1) (
 ae (!(w0.b==([] :Str))) (some false) (
 ae e2.2.2 (aj (cS w0.data) fun y78=>
 ae (!y78) (some false) (
 ae (!e2.2.2) (
 ae (!(w0.data==([] :Str))) (some false) (
 ae (w0.kind !=(6:Int)) (some true) (aj (aw w0.a w0.b) fun y79=>
 ae (!y79) (aj (aw w0.b w0.a) fun y80=>some (!y80)) (some false)))) (
 ae (w0.kind !=(6:Int)) (some true) (aj (aw w0.a w0.b) fun y81=>
 ae (!y81) (aj (aw w0.b w0.a) fun y82=>some (!y82)) (some false))))) (
 ae (!e2.2.2) (
 ae (!(w0.data==([] :Str))) (some false) (
 ae (w0.kind !=(6:Int)) (some true) (aj (aw w0.a w0.b) fun y83=>
 ae (!y83) (aj (aw w0.b w0.a) fun y84=>some (!y84)) (some false)))) (
 ae (w0.kind !=(6:Int)) (some true) (aj (aw w0.a w0.b) fun y85=>
 ae (!y85) (aj (aw w0.b w0.a) fun y86=>some (!y86)) (some false)))))) (
 ae e2.2.2 (aj (cS w0.data) fun y87=>
 ae (!y87) (some false) (
 ae (!e2.2.2) (
 ae (!(w0.data==([] :Str))) (some false) (
 ae (w0.kind !=(6:Int)) (some true) (aj (aw w0.a w0.b) fun y88=>
 ae (!y88) (aj (aw w0.b w0.a) fun y89=>some (!y89)) (some false)))) (
 ae (w0.kind !=(6:Int)) (some true) (aj (aw w0.a w0.b) fun y90=>
 ae (!y90) (aj (aw w0.b w0.a) fun y91=>some (!y91)) (some false))))) (
 ae (!e2.2.2) (
 ae (!(w0.data==([] :Str))) (some false) (
 ae (w0.kind !=(6:Int)) (some true) (aj (aw w0.a w0.b) fun y92=>
 ae (!y92) (aj (aw w0.b w0.a) fun y93=>some (!y93)) (some false)))) (
 ae (w0.kind !=(6:Int)) (some true) (aj (aw w0.a w0.b) fun y94=>
 ae (!y94) (aj (aw w0.b w0.a) fun y95=>some (!y95)) (some false))))))) (
 ae (!e2.2.1) (
 ae (!(w0.b==([] :Str))) (some false) (
 ae e2.2.2 (aj (cS w0.data) fun y96=>
 ae (!y96) (some false) (
 ae (!e2.2.2) (
 ae (!(w0.data==([] :Str))) (some false) (
 ae (w0.kind !=(6:Int)) (some true) (aj (aw w0.a w0.b) fun y97=>
 ae (!y97) (aj (aw w0.b w0.a) fun y98=>some (!y98)) (some false)))) (
 ae (w0.kind !=(6:Int)) (some true) (aj (aw w0.a w0.b) fun y99=>
 ae (!y99) (aj (aw w0.b w0.a) fun y100=>some (!y100)) (some false))))) (
 ae (!e2.2.2) (
 ae (!(w0.data==([] :Str))) (some false) (
 ae (w0.kind !=(6:Int)) (some true) (aj (aw w0.a w0.b) fun y101=>
 ae (!y101) (aj (aw w0.b w0.a) fun y102=>some (!y102)) (some false)))) (
 ae (w0.kind !=(6:Int)) (some true) (aj (aw w0.a w0.b) fun y103=>
 ae (!y103) (aj (aw w0.b w0.a) fun y104=>some (!y104)) (some false)))))) (
 ae e2.2.2 (aj (cS w0.data) fun y105=>
 ae (!y105) (some false) (
 ae (!e2.2.2) (
 ae (!(w0.data==([] :Str))) (some false) (
 ae (w0.kind !=(6:Int)) (some true) (aj (aw w0.a w0.b) fun y106=>
 ae (!y106) (aj (aw w0.b w0.a) fun y107=>some (!y107)) (some false)))) (
 ae (w0.kind !=(6:Int)) (some true) (aj (aw w0.a w0.b) fun y108=>
 ae (!y108) (aj (aw w0.b w0.a) fun y109=>some (!y109)) (some false))))) (
 ae (!e2.2.2) (
 ae (!(w0.data==([] :Str))) (some false) (
 ae (w0.kind !=(6:Int)) (some true) (aj (aw w0.a w0.b) fun y110=>
 ae (!y110) (aj (aw w0.b w0.a) fun y111=>some (!y111)) (some false)))) (
 ae (w0.kind !=(6:Int)) (some true) (aj (aw w0.a w0.b) fun y112=>
 ae (!y112) (aj (aw w0.b w0.a) fun y113=>some (!y113)) (some false)))))))) (
 ae e2.2.1 (aj (jC w0.b) fun y114=>
 ae (!y114) (some false) (
 ae (!e2.2.1) (
 ae (!(w0.b==([] :Str))) (some false) (
 ae e2.2.2 (aj (cS w0.data) fun y115=>
 ae (!y115) (some false) (
 ae (!e2.2.2) (
 ae (!(w0.data==([] :Str))) (some false) (
 ae (w0.kind !=(6:Int)) (some true) (aj (aw w0.a w0.b) fun y116=>
 ae (!y116) (aj (aw w0.b w0.a) fun y117=>some (!y117)) (some false)))) (
 ae (w0.kind !=(6:Int)) (some true) (aj (aw w0.a w0.b) fun y118=>
 ae (!y118) (aj (aw w0.b w0.a) fun y119=>some (!y119)) (some false))))) (
 ae (!e2.2.2) (
 ae (!(w0.data==([] :Str))) (some false) (
 ae (w0.kind !=(6:Int)) (some true) (aj (aw w0.a w0.b) fun y120=>
 ae (!y120) (aj (aw w0.b w0.a) fun y121=>some (!y121)) (some false)))) (
 ae (w0.kind !=(6:Int)) (some true) (aj (aw w0.a w0.b) fun y122=>
 ae (!y122) (aj (aw w0.b w0.a) fun y123=>some (!y123)) (some false)))))) (
 ae e2.2.2 (aj (cS w0.data) fun y124=>
 ae (!y124) (some false) (
 ae (!e2.2.2) (
 ae (!(w0.data==([] :Str))) (some false) (
 ae (w0.kind !=(6:Int)) (some true) (aj (aw w0.a w0.b) fun y125=>
 ae (!y125) (aj (aw w0.b w0.a) fun y126=>some (!y126)) (some false)))) (
 ae (w0.kind !=(6:Int)) (some true) (aj (aw w0.a w0.b) fun y127=>
 ae (!y127) (aj (aw w0.b w0.a) fun y128=>some (!y128)) (some false))))) (
 ae (!e2.2.2) (
 ae (!(w0.data==([] :Str))) (some false) (
 ae (w0.kind !=(6:Int)) (some true) (aj (aw w0.a w0.b) fun y129=>
 ae (!y129) (aj (aw w0.b w0.a) fun y130=>some (!y130)) (some false)))) (
 ae (w0.kind !=(6:Int)) (some true) (aj (aw w0.a w0.b) fun y131=>
 ae (!y131) (aj (aw w0.b w0.a) fun y132=>some (!y132)) (some false))))))) (
 ae (!e2.2.1) (
 ae (!(w0.b==([] :Str))) (some false) (
 ae e2.2.2 (aj (cS w0.data) fun y133=>
 ae (!y133) (some false) (
 ae (!e2.2.2) (
 ae (!(w0.data==([] :Str))) (some false) (
 ae (w0.kind !=(6:Int)) (some true) (aj (aw w0.a w0.b) fun y134=>
 ae (!y134) (aj (aw w0.b w0.a) fun y135=>some (!y135)) (some false)))) (
 ae (w0.kind !=(6:Int)) (some true) (aj (aw w0.a w0.b) fun y136=>
 ae (!y136) (aj (aw w0.b w0.a) fun y137=>some (!y137)) (some false))))) (
 ae (!e2.2.2) (
 ae (!(w0.data==([] :Str))) (some false) (
 ae (w0.kind !=(6:Int)) (some true) (aj (aw w0.a w0.b) fun y138=>
 ae (!y138) (aj (aw w0.b w0.a) fun y139=>some (!y139)) (some false)))) (
 ae (w0.kind !=(6:Int)) (some true) (aj (aw w0.a w0.b) fun y140=>
 ae (!y140) (aj (aw w0.b w0.a) fun y141=>some (!y141)) (some false)))))) (
 ae e2.2.2 (aj (cS w0.data) fun y142=>
 ae (!y142) (some false) (
 ae (!e2.2.2) (
 ae (!(w0.data==([] :Str))) (some false) (
 ae (w0.kind !=(6:Int)) (some true) (aj (aw w0.a w0.b) fun y143=>
 ae (!y143) (aj (aw w0.b w0.a) fun y144=>some (!y144)) (some false)))) (
 ae (w0.kind !=(6:Int)) (some true) (aj (aw w0.a w0.b) fun y145=>
 ae (!y145) (aj (aw w0.b w0.a) fun y146=>some (!y146)) (some false))))) (
 ae (!e2.2.2) (
 ae (!(w0.data==([] :Str))) (some false) (
 ae (w0.kind !=(6:Int)) (some true) (aj (aw w0.a w0.b) fun y147=>
 ae (!y147) (aj (aw w0.b w0.a) fun y148=>some (!y148)) (some false)))) (
 ae (w0.kind !=(6:Int)) (some true) (aj (aw w0.a w0.b) fun y149=>
 ae (!y149) (aj (aw w0.b w0.a) fun y150=>some (!y150)) (some false))))))))) (none))))
noncomputable def b8 {R:Type} (x1:List Kept) (x2:Int) (k0:Int→Option R):Nat→Int→Int→Option R
 |0,_,_=>none
 |n+1,x4,x5=>
  ae (decide (x4<x5)) (
  ae (decide ((1:Int)<0)) (none) (
  ae (decide (0≤(IntKind.i64.wrap (Int.fdiv (IntKind.u64.wrap (IntKind.i64.wrap (x4+x5))) (2^(min (Int.toNat (1:Int)) (IntKind.bits .u64))))))) (aj x1[Int.toNat (IntKind.i64.wrap (Int.fdiv (IntKind.u64.wrap (IntKind.i64.wrap (x4+x5))) (2^(min (Int.toNat (1:Int)) (IntKind.bits .u64)))))]? fun e6=>
  ae (e6.slot !=e6.slot) (
  ae (x2 !=x2) ((b8 x1 x2 k0 n x4 (IntKind.i64.wrap (Int.fdiv (IntKind.u64.wrap (IntKind.i64.wrap (x4+x5))) (2^(min (Int.toNat (1:Int)) (IntKind.bits .u64))))))) ((b8 x1 x2 k0 n (IntKind.i64.wrap ((IntKind.i64.wrap (Int.fdiv (IntKind.u64.wrap (IntKind.i64.wrap (x4+x5))) (2^(min (Int.toNat (1:Int)) (IntKind.bits .u64)))))+(1:Int))) x5))) (
  ae (x2 !=x2) ((b8 x1 x2 k0 n x4 (IntKind.i64.wrap (Int.fdiv (IntKind.u64.wrap (IntKind.i64.wrap (x4+x5))) (2^(min (Int.toNat (1:Int)) (IntKind.bits .u64))))))) (
  ae (decide (e6.slot<x2)) ((b8 x1 x2 k0 n (IntKind.i64.wrap ((IntKind.i64.wrap (Int.fdiv (IntKind.u64.wrap (IntKind.i64.wrap (x4+x5))) (2^(min (Int.toNat (1:Int)) (IntKind.bits .u64)))))+(1:Int))) x5)) (
  ae (decide (e6.slot>x2)) ((b8 x1 x2 k0 n x4 (IntKind.i64.wrap (Int.fdiv (IntKind.u64.wrap (IntKind.i64.wrap (x4+x5))) (2^(min (Int.toNat (1:Int)) (IntKind.bits .u64))))))) ((b8 x1 x2 k0 n x4 (IntKind.i64.wrap (Int.fdiv (IntKind.u64.wrap (IntKind.i64.wrap (x4+x5))) (2^(min (Int.toNat (1:Int)) (IntKind.bits .u64))))))))))) (none))) ((k0 x4))
noncomputable def iL (w0:(List Kept)) (w1:Int):Option (Int×Bool):=
 b8 w0 w1 (fun z11=>
 ae (decide (z11<(List.length w0:Int))) (
 ae (decide (0≤z11)) (aj w0[Int.toNat z11]? fun e12=>
 ae (e12.slot !=e12.slot) (
 ae (w1 !=w1) (some (z11,true)) (some (z11,false))) (
 ae (w1 !=w1) (some (z11,false)) (
 ae (decide (e12.slot<w1)) (some (z11,false)) (
 ae (decide (e12.slot>w1)) (some (z11,false)) (some (z11,true)))))) (none)) (some (z11,false))) bw (0:Int) (List.length w0:Int)
noncomputable def gZ (w0:ao) (w1:Int):Option (Kept×Bool):=
 aj (iL w0.aq.kept w1) fun y1=>
 ae (!y1.2) (some ((⟨0,0,false, []⟩:Kept),false)) (
 ae (decide (0≤y1.1)) (aj w0.aq.kept[Int.toNat y1.1]? fun e2=>some (e2,true)) (none))
noncomputable def bX {R:Type} (x1:List al) (x2:Int) (k0:Int→Option R):Nat→Int→Int→Option R
 |0,_,_=>none
 |n+1,x4,x5=>
  ae (decide (x4<x5)) (
  ae (decide ((1:Int)<0)) (none) (
  ae (decide (0≤(IntKind.i64.wrap (Int.fdiv (IntKind.u64.wrap (IntKind.i64.wrap (x4+x5))) (2^(min (Int.toNat (1:Int)) (IntKind.bits .u64))))))) (aj x1[Int.toNat (IntKind.i64.wrap (Int.fdiv (IntKind.u64.wrap (IntKind.i64.wrap (x4+x5))) (2^(min (Int.toNat (1:Int)) (IntKind.bits .u64)))))]? fun e6=>
  ae (e6.ino !=e6.ino) (
  ae (x2 !=x2) ((bX x1 x2 k0 n x4 (IntKind.i64.wrap (Int.fdiv (IntKind.u64.wrap (IntKind.i64.wrap (x4+x5))) (2^(min (Int.toNat (1:Int)) (IntKind.bits .u64))))))) ((bX x1 x2 k0 n (IntKind.i64.wrap ((IntKind.i64.wrap (Int.fdiv (IntKind.u64.wrap (IntKind.i64.wrap (x4+x5))) (2^(min (Int.toNat (1:Int)) (IntKind.bits .u64)))))+(1:Int))) x5))) (
  ae (x2 !=x2) ((bX x1 x2 k0 n x4 (IntKind.i64.wrap (Int.fdiv (IntKind.u64.wrap (IntKind.i64.wrap (x4+x5))) (2^(min (Int.toNat (1:Int)) (IntKind.bits .u64))))))) (
  ae (decide (e6.ino<x2)) ((bX x1 x2 k0 n (IntKind.i64.wrap ((IntKind.i64.wrap (Int.fdiv (IntKind.u64.wrap (IntKind.i64.wrap (x4+x5))) (2^(min (Int.toNat (1:Int)) (IntKind.bits .u64)))))+(1:Int))) x5)) (
  ae (decide (e6.ino>x2)) ((bX x1 x2 k0 n x4 (IntKind.i64.wrap (Int.fdiv (IntKind.u64.wrap (IntKind.i64.wrap (x4+x5))) (2^(min (Int.toNat (1:Int)) (IntKind.bits .u64))))))) ((bX x1 x2 k0 n x4 (IntKind.i64.wrap (Int.fdiv (IntKind.u64.wrap (IntKind.i64.wrap (x4+x5))) (2^(min (Int.toNat (1:Int)) (IntKind.bits .u64))))))))))) (none))) ((k0 x4))
noncomputable def ik (w0:(List al)) (w1:Int):Option (Int×Bool):=
 bX w0 w1 (fun z11=>
 ae (decide (z11<(List.length w0:Int))) (
 ae (decide (0≤z11)) (aj w0[Int.toNat z11]? fun e12=>
 ae (e12.ino !=e12.ino) (
 ae (w1 !=w1) (some (z11,true)) (some (z11,false))) (
 ae (w1 !=w1) (some (z11,false)) (
 ae (decide (e12.ino<w1)) (some (z11,false)) (
 ae (decide (e12.ino>w1)) (some (z11,false)) (some (z11,true)))))) (none)) (some (z11,false))) bw (0:Int) (List.length w0:Int)
noncomputable def eP (w0:ao) (w1:Kept):Option (ao):=
 aj (iL w0.aq.kept w1.slot) fun y1=>aj (fu w0.aq.kept) fun y2=>sh (decide (0≤y1.1∧y1.1≤(y2.length:Int))) fun s16=>
 ae s16 (
 ae ((List.length [w1]:Int)==(0:Int)) (some (⟨w0.fs,(⟨y2,w0.aq.aV⟩:cm)⟩:ao)) (
 ae (y1.1==(List.length y2:Int)) (aT (y2.length+[w1].length) (some (⟨w0.fs,(⟨(y2++[w1]),w0.aq.aV⟩:cm)⟩:ao))) (BX y2.length fun cp3=>sh (IntKind.i64.wrap ((List.length y2:Int)+(List.length [w1]:Int))) fun s1=>sh (IntKind.i64.wrap (y1.1+(List.length [w1]:Int))) fun s7=>sh (Int.toNat s7) fun s2=>
 ae (decide (s1>(cp3:Int))) (
 ae (decide (0≤y1.1∧y1.1≤(cp3:Int))) (sh (IntKind.i64.wrap (s1 - y1.1)) fun s13=>
 ae (decide (0≤s13)) (aT ((Int.toNat y1.1)+Int.toNat s13) (
 ae (Nat.ble (0+(Int.toNat y1.1)) y2.length) (
 ae (Nat.blt (cp3 - 0) ((Int.toNat y1.1)+Int.toNat s13)) (sh ((y2.drop 0).take (Int.toNat y1.1)++List.replicate (Int.toNat s13) (⟨0,0,false, []⟩:Kept)) fun s4=>
 ae (decide (0≤y1.1∧y1.1≤(s4.length:Int))) (sh (s4.length - (Int.toNat y1.1)) fun s14=>
 ae (Nat.ble ((Int.toNat y1.1)+s14) s4.length) (sh (s4.take (Int.toNat y1.1)++([w1].take s14++(s4.drop (Int.toNat y1.1)).drop (min [w1].length s14))) fun s0=>
 ae (decide (0≤s7∧s7≤(s0.length:Int))) (
 ae s16 (sh (min (y2.length - (Int.toNat y1.1)) (s0.length - s2)) fun s9=>
 ae (Nat.ble ((Int.toNat y1.1)+s9) y2.length) (
 ae (Nat.ble s2 s0.length) (
 ae (Nat.ble (s2+s9) s0.length) (some (⟨w0.fs,(⟨(s0.take s2++(((y2.drop (Int.toNat y1.1)).take s9)++s0.drop (s2+s9))),w0.aq.aV⟩:cm)⟩:ao)) (none)) (none)) (none)) (none)) (none)) (none)) (none)) (none)) (none))) (none)) (none)) (
 ae (decide (0≤s1∧s1≤(cp3:Int))) (sh (decide (0≤s7∧s7≤((Int.toNat s1):Int))) fun s15=>
 ae s15 (
 ae (Nat.blt 0 [w1].length) (
 ae (Nat.blt 0 y2.length) (
 ae s15 (sh (decide (0≤y1.1∧y1.1≤((Int.toNat s1):Int))) fun s12=>
 ae s12 (sh ((Int.toNat s1) - (Int.toNat y1.1)) fun s6=>sh (min s6 ((Int.toNat s1) - s2)) fun s3=>
 ae (Nat.ble ((0+(Int.toNat y1.1))+s3) y2.length) (
 ae (Nat.ble (0+s2) y2.length) (
 ae (Nat.ble ((0+s2)+s3) y2.length) (
 ae s12 (sh (y2.take (0+s2)++(((y2.drop (0+(Int.toNat y1.1))).take s3)++y2.drop ((0+s2)+s3))) fun s5=>
 ae (Nat.ble ((0+(Int.toNat y1.1))+s6) s5.length) (sh (s5.take (0+(Int.toNat y1.1))++([w1].take s6++(s5.drop (0+(Int.toNat y1.1))).drop (min [w1].length s6))) fun s10=>
 ae (Nat.ble (0+(Int.toNat s1)) s10.length) (some (⟨w0.fs,(⟨((s10.drop 0).take (Int.toNat s1)),w0.aq.aV⟩:cm)⟩:ao)) (none)) (none)) (none)) (
 ae s12 (sh (y2.take (0+s2)++((y2.drop (0+(Int.toNat y1.1))).take s3)) fun s8=>
 ae (Nat.ble ((0+(Int.toNat y1.1))+s6) s8.length) (sh (s8.take (0+(Int.toNat y1.1))++([w1].take s6++(s8.drop (0+(Int.toNat y1.1))).drop (min [w1].length s6))) fun s11=>
 ae (Nat.ble (0+(Int.toNat s1)) s11.length) (some (⟨w0.fs,(⟨((s11.drop 0).take (Int.toNat s1)),w0.aq.aV⟩:cm)⟩:ao)) (none)) (none)) (none))) (none)) (none)) (none)) (none)) (none)) (none)) (none)) (none))))) (none)
noncomputable def mn (w0:ao) (w1:Int) (w2:ar):Option (ao×Int):=
 aj (gZ w0 w1) fun y1=>
 ae y1.2 (some (w0,(13:Int))) (aj (cf w0.fs w2.ino) fun y2=>aj (gf w0.fs w2) fun y3=>aj (cf y3 w2.ino) fun y4=>sh (⟨w1,w2.ino,false, []⟩:Kept) fun s10=>
 ae (!y4.2) (aj (ik w0.aq.aV y2.1.ino) fun y5=>aj (dt w0.aq.aV) fun y6=>sh (decide (0≤y5.1∧y5.1≤(y6.length:Int))) fun s19=>
 ae s19 (sh (⟨y2.1.ino,y2.1.kind,(0:Int),y2.1.data,(0:Int),y2.1.entries⟩:al) fun s4=>sh (List.length [s4]:Int) fun s0=>
 ae (s0==(0:Int)) (aj (eP (⟨y3,(⟨w0.aq.kept,y6⟩:cm)⟩:ao) s10) fun y7=>some (y7,(0:Int))) (
 ae (y5.1==(List.length y6:Int)) (aT (y6.length+[s4].length) (aj (eP (⟨y3,(⟨w0.aq.kept,(y6++[s4])⟩:cm)⟩:ao) s10) fun y8=>some (y8,(0:Int)))) (BX y6.length fun cp9=>sh (IntKind.i64.wrap ((List.length y6:Int)+s0)) fun s3=>sh (IntKind.i64.wrap (y5.1+s0)) fun s11=>sh (Int.toNat s11) fun s5=>
 ae (decide (s3>(cp9:Int))) (
 ae (decide (0≤y5.1∧y5.1≤(cp9:Int))) (sh (IntKind.i64.wrap (s3 - y5.1)) fun s16=>
 ae (decide (0≤s16)) (aT ((Int.toNat y5.1)+Int.toNat s16) (
 ae (Nat.ble (0+(Int.toNat y5.1)) y6.length) (
 ae (Nat.blt (cp9 - 0) ((Int.toNat y5.1)+Int.toNat s16)) (sh ((y6.drop 0).take (Int.toNat y5.1)++List.replicate (Int.toNat s16) (⟨0,0,0, [],0,([] :List Entry)⟩:al)) fun s6=>
 ae (decide (0≤y5.1∧y5.1≤(s6.length:Int))) (sh (s6.length - (Int.toNat y5.1)) fun s17=>
 ae (Nat.ble ((Int.toNat y5.1)+s17) s6.length) (sh (s6.take (Int.toNat y5.1)++([s4].take s17++(s6.drop (Int.toNat y5.1)).drop (min [s4].length s17))) fun s1=>
 ae (decide (0≤s11∧s11≤(s1.length:Int))) (
 ae s19 (sh (min (y6.length - (Int.toNat y5.1)) (s1.length - s5)) fun s12=>
 ae (Nat.ble ((Int.toNat y5.1)+s12) y6.length) (
 ae (Nat.ble s5 s1.length) (
 ae (Nat.ble (s5+s12) s1.length) (aj (eP (⟨y3,(⟨w0.aq.kept,(s1.take s5++(((y6.drop (Int.toNat y5.1)).take s12)++s1.drop (s5+s12)))⟩:cm)⟩:ao) s10) fun y10=>some (y10,(0:Int))) (none)) (none)) (none)) (none)) (none)) (none)) (none)) (none)) (none))) (none)) (none)) (
 ae (decide (0≤s3∧s3≤(cp9:Int))) (sh (decide (0≤s11∧s11≤((Int.toNat s3):Int))) fun s18=>
 ae s18 (
 ae (Nat.blt 0 [s4].length) (
 ae (Nat.blt 0 y6.length) (
 ae s18 (sh (decide (0≤y5.1∧y5.1≤((Int.toNat s3):Int))) fun s15=>
 ae s15 (sh ((Int.toNat s3) - (Int.toNat y5.1)) fun s8=>sh (min s8 ((Int.toNat s3) - s5)) fun s2=>
 ae (Nat.ble ((0+(Int.toNat y5.1))+s2) y6.length) (
 ae (Nat.ble (0+s5) y6.length) (
 ae (Nat.ble ((0+s5)+s2) y6.length) (
 ae s15 (sh (y6.take (0+s5)++(((y6.drop (0+(Int.toNat y5.1))).take s2)++y6.drop ((0+s5)+s2))) fun s7=>
 ae (Nat.ble ((0+(Int.toNat y5.1))+s8) s7.length) (sh (s7.take (0+(Int.toNat y5.1))++([s4].take s8++(s7.drop (0+(Int.toNat y5.1))).drop (min [s4].length s8))) fun s13=>
 ae (Nat.ble (0+(Int.toNat s3)) s13.length) (aj (eP (⟨y3,(⟨w0.aq.kept,((s13.drop 0).take (Int.toNat s3))⟩:cm)⟩:ao) s10) fun y11=>some (y11,(0:Int))) (none)) (none)) (none)) (
 ae s15 (sh (y6.take (0+s5)++((y6.drop (0+(Int.toNat y5.1))).take s2)) fun s9=>
 ae (Nat.ble ((0+(Int.toNat y5.1))+s8) s9.length) (sh (s9.take (0+(Int.toNat y5.1))++([s4].take s8++(s9.drop (0+(Int.toNat y5.1))).drop (min [s4].length s8))) fun s14=>
 ae (Nat.ble (0+(Int.toNat s3)) s14.length) (aj (eP (⟨y3,(⟨w0.aq.kept,((s14.drop 0).take (Int.toNat s3))⟩:cm)⟩:ao) s10) fun y12=>some (y12,(0:Int))) (none)) (none)) (none))) (none)) (none)) (none)) (none)) (none)) (none)) (none)) (none))))) (none)) (aj (eP (⟨y3,w0.aq⟩:ao) s10) fun y13=>some (y13,(0:Int))))
noncomputable def mi (w0:ao) (w1:Int):Option (al×Bool):=
 aj (cf w0.fs w1) fun y1=>
 ae y1.2 (some (y1.1,true)) (aj (ik w0.aq.aV w1) fun y2=>
 ae (!y2.2) (some ((⟨0,0,0, [],0,([] :List Entry)⟩:al),false)) (
 ae (decide (0≤y2.1)) (aj w0.aq.aV[Int.toNat y2.1]? fun e3=>some (e3,true)) (none)))
noncomputable def dz {R:Type} (x2:Int) (x5:Int) (x7:List Kept) (kr:Int→Option R) (k0:Option R):Nat→Int→Option R
 |0,_=>none
 |n+1,x3=>
  ae (decide (x3<x2)) (
  ae (decide (0≤x3∧x3<(x7.length:Int))) (aj x7[(Int.toNat x3)]? fun e8=>
  ae (e8.slot==x5) ((kr x3)) ((dz x2 x5 x7 kr k0 n (IntKind.i64.wrap (x3+(1:Int)))))) (none)) ((k0))
noncomputable def de {R:Type} (x22:Int) (k0:Int→(List Kept)→Option R):Nat→Int→Int→(List Kept)→Option R
 |0,_,_,_=>none
 |n+1,x19,x20,x24=>
  ae (decide (x20<(List.length x24:Int))) (
  ae (decide (0≤x20∧x20<(x24.length:Int))) (aj x24[(Int.toNat x20)]? fun e25=>
  ae (!(e25.slot==x22)) (
  ae (decide (0≤x19∧x19<(x24.length:Int))) (aj x24[(Int.toNat x19)]? fun e26=>(de x22 k0 n (IntKind.i64.wrap (x19+(1:Int))) (IntKind.i64.wrap (x20+(1:Int))) (x24.set (Int.toNat x19) e25))) (none)) ((de x22 k0 n x19 (IntKind.i64.wrap (x20+(1:Int))) x24))) (none)) ((k0 x19 x24))
noncomputable def aY (w0:ao) (w1:Int):Option (ao):=
 aj (fu w0.aq.kept) fun y1=>dz (List.length y1:Int) w1 y1 (fun z18=>
 ae (z18==(-1:Int)) (some (⟨w0.fs,(⟨y1,w0.aq.aV⟩:cm)⟩:ao)) (de w1 (fun z31 z32=>
 ae (decide (0≤z31∧z31≤(z32.length:Int))) (
 ae (Nat.ble ((Int.toNat z31)+(z32.length - (Int.toNat z31))) z32.length) (
 ae (decide (0≤z31∧z31≤((z32.take (Int.toNat z31)++(List.replicate (z32.length - (Int.toNat z31)) (⟨0,0,false, []⟩:Kept)++z32.drop ((Int.toNat z31)+(z32.length - (Int.toNat z31))))).length:Int))) (
 ae (Nat.ble (0+(Int.toNat z31)) (z32.take (Int.toNat z31)++(List.replicate (z32.length - (Int.toNat z31)) (⟨0,0,false, []⟩:Kept)++z32.drop ((Int.toNat z31)+(z32.length - (Int.toNat z31))))).length) (some (⟨w0.fs,(⟨(((z32.take (Int.toNat z31)++(List.replicate (z32.length - (Int.toNat z31)) (⟨0,0,false, []⟩:Kept)++z32.drop ((Int.toNat z31)+(z32.length - (Int.toNat z31))))).drop 0).take (Int.toNat z31)),w0.aq.aV⟩:cm)⟩:ao)) (none)) (none)) (none)) (none)) bw z18 (IntKind.i64.wrap (z18+(1:Int))) y1)) (some (⟨w0.fs,(⟨y1,w0.aq.aV⟩:cm)⟩:ao)) bw (0:Int)
noncomputable def bK {R:Type} (x7:Int) (x14:al) (x15:List al) (kr:Int→Option R) (k0:Option R):Nat→Int→Option R
 |0,_=>none
 |n+1,x8=>
  ae (decide (x8<x7)) (
  ae (decide (0≤x8∧x8<(x15.length:Int))) (aj x15[(Int.toNat x8)]? fun e16=>
  ae (e16.ino==x14.ino) ((kr x8)) ((bK x7 x14 x15 kr k0 n (IntKind.i64.wrap (x8+(1:Int)))))) (none)) ((k0))
noncomputable def bR {R:Type} (x43:al) (k0:Int→(List al)→Option R):Nat→Int→Int→(List al)→Option R
 |0,_,_,_=>none
 |n+1,x36,x37,x44=>
  ae (decide (x37<(List.length x44:Int))) (
  ae (decide (0≤x37∧x37<(x44.length:Int))) (aj x44[(Int.toNat x37)]? fun e45=>
  ae (!(e45.ino==x43.ino)) (
  ae (decide (0≤x36∧x36<(x44.length:Int))) (aj x44[(Int.toNat x36)]? fun e46=>(bR x43 k0 n (IntKind.i64.wrap (x36+(1:Int))) (IntKind.i64.wrap (x37+(1:Int))) (x44.set (Int.toNat x36) e45))) (none)) ((bR x43 k0 n x36 (IntKind.i64.wrap (x37+(1:Int))) x44))) (none)) ((k0 x36 x44))
noncomputable def o3 (w0:ao) (w1:Int) (w2:ar):Option (ao×Int):=
 aj (gZ w0 w1) fun y1=>aj (cf w0.fs y1.1.ino) fun y2=>
 ae (!y1.2) (some (w0,(13:Int))) (
 ae y1.1.content (some (w0,(13:Int))) (aj (mu w2.name) fun y3=>
 ae (!y3) (some (w0,(9:Int))) (sh (⟨0,0,0, [],0,([] :List Entry)⟩:al) fun s2=>sh (dt w0.aq.aV) fun s13=>
 ae y2.2 (
 ae (y2.1.kind==(2:Int)) (some (w0,(9:Int))) (
 ae (!y2.2) (aj (mi w0 y1.1.ino) fun y4=>sh (⟨y4.1.ino,y4.1.kind,y4.1.aI,y4.1.data,w2.dir,y4.1.entries⟩:al) fun s4=>sh (⟨(s4.ino),(s4.kind),(s4.aI),(s4.data),(s4.parent),(s4.entries)⟩:al) fun s1=>sh (a_ w0.fs (⟨(s1.ino),(s1.kind),(s1.aI),(s1.data),(s1.parent),(s1.entries)⟩:al)) fun s14=>
 ae (y4.1.kind==(1:Int)) (aj (fN w0.fs (1:Int) (List.length y4.1.data:Int)) fun y5=>
 ae (!y5) (some (w0,(8:Int))) (
 ae (y4.1.kind==(2:Int)) (aj s13 fun y6=>bK (List.length y6:Int) s4 y6 (fun z32=>
 ae (z32==(-1:Int)) (aj (a_ w0.fs s1) fun y33=>aj (bN y33 w2 y1.1.ino) fun y34=>aj (aY (⟨y34,(⟨w0.aq.kept,y6⟩:cm)⟩:ao) w1) fun y35=>some (y35,(0:Int))) (bR s1 (fun z55 z56=>
 ae (decide (0≤z55∧z55≤(z56.length:Int))) (sh (z56.length - (Int.toNat z55)) fun s20=>
 ae (Nat.ble ((Int.toNat z55)+s20) z56.length) (sh (z56.take (Int.toNat z55)++(List.replicate s20 s2++z56.drop ((Int.toNat z55)+s20))) fun s9=>
 ae (decide (0≤z55∧z55≤(s9.length:Int))) (aj s14 fun y57=>aj (bN y57 w2 y1.1.ino) fun y58=>
 ae (Nat.ble (0+(Int.toNat z55)) s9.length) (aj (aY (⟨y58,(⟨w0.aq.kept,((s9.drop 0).take (Int.toNat z55))⟩:cm)⟩:ao) w1) fun y59=>some (y59,(0:Int))) (none)) (none)) (none)) (none)) bw z32 (IntKind.i64.wrap (z32+(1:Int))) y6)) (aj (a_ w0.fs s1) fun y60=>aj (bN y60 w2 y1.1.ino) fun y61=>aj (aY (⟨y61,(⟨w0.aq.kept,y6⟩:cm)⟩:ao) w1) fun y62=>some (y62,(0:Int))) bw (0:Int)) (aj s13 fun y63=>bK (List.length y63:Int) y4.1 y63 (fun z64=>
 ae (z64==(-1:Int)) (aj (a_ w0.fs y4.1) fun y65=>aj (bN y65 w2 y1.1.ino) fun y66=>aj (aY (⟨y66,(⟨w0.aq.kept,y63⟩:cm)⟩:ao) w1) fun y67=>some (y67,(0:Int))) (bR y4.1 (fun z68 z69=>
 ae (decide (0≤z68∧z68≤(z69.length:Int))) (sh (z69.length - (Int.toNat z68)) fun s21=>
 ae (Nat.ble ((Int.toNat z68)+s21) z69.length) (sh (z69.take (Int.toNat z68)++(List.replicate s21 s2++z69.drop ((Int.toNat z68)+s21))) fun s10=>
 ae (decide (0≤z68∧z68≤(s10.length:Int))) (aj (a_ w0.fs y4.1) fun y70=>aj (bN y70 w2 y1.1.ino) fun y71=>
 ae (Nat.ble (0+(Int.toNat z68)) s10.length) (aj (aY (⟨y71,(⟨w0.aq.kept,((s10.drop 0).take (Int.toNat z68))⟩:cm)⟩:ao) w1) fun y72=>some (y72,(0:Int))) (none)) (none)) (none)) (none)) bw z64 (IntKind.i64.wrap (z64+(1:Int))) y63)) (aj (a_ w0.fs y4.1) fun y73=>aj (bN y73 w2 y1.1.ino) fun y74=>aj (aY (⟨y74,(⟨w0.aq.kept,y63⟩:cm)⟩:ao) w1) fun y75=>some (y75,(0:Int))) bw (0:Int)))) (aj (fN w0.fs (1:Int) (0:Int)) fun y76=>
 ae (!y76) (some (w0,(8:Int))) (
 ae (y4.1.kind==(2:Int)) (aj s13 fun y77=>bK (List.length y77:Int) s4 y77 (fun z78=>
 ae (z78==(-1:Int)) (aj (a_ w0.fs s1) fun y79=>aj (bN y79 w2 y1.1.ino) fun y80=>aj (aY (⟨y80,(⟨w0.aq.kept,y77⟩:cm)⟩:ao) w1) fun y81=>some (y81,(0:Int))) (bR s1 (fun z82 z83=>
 ae (decide (0≤z82∧z82≤(z83.length:Int))) (sh (z83.length - (Int.toNat z82)) fun s22=>
 ae (Nat.ble ((Int.toNat z82)+s22) z83.length) (sh (z83.take (Int.toNat z82)++(List.replicate s22 s2++z83.drop ((Int.toNat z82)+s22))) fun s11=>
 ae (decide (0≤z82∧z82≤(s11.length:Int))) (aj s14 fun y84=>aj (bN y84 w2 y1.1.ino) fun y85=>
 ae (Nat.ble (0+(Int.toNat z82)) s11.length) (aj (aY (⟨y85,(⟨w0.aq.kept,((s11.drop 0).take (Int.toNat z82))⟩:cm)⟩:ao) w1) fun y86=>some (y86,(0:Int))) (none)) (none)) (none)) (none)) bw z78 (IntKind.i64.wrap (z78+(1:Int))) y77)) (aj (a_ w0.fs s1) fun y87=>aj (bN y87 w2 y1.1.ino) fun y88=>aj (aY (⟨y88,(⟨w0.aq.kept,y77⟩:cm)⟩:ao) w1) fun y89=>some (y89,(0:Int))) bw (0:Int)) (aj s13 fun y90=>bK (List.length y90:Int) y4.1 y90 (fun z91=>
 ae (z91==(-1:Int)) (aj (a_ w0.fs y4.1) fun y92=>aj (bN y92 w2 y1.1.ino) fun y93=>aj (aY (⟨y93,(⟨w0.aq.kept,y90⟩:cm)⟩:ao) w1) fun y94=>some (y94,(0:Int))) (bR y4.1 (fun z95 z96=>
 ae (decide (0≤z95∧z95≤(z96.length:Int))) (sh (z96.length - (Int.toNat z95)) fun s23=>
 ae (Nat.ble ((Int.toNat z95)+s23) z96.length) (sh (z96.take (Int.toNat z95)++(List.replicate s23 s2++z96.drop ((Int.toNat z95)+s23))) fun s12=>
 ae (decide (0≤z95∧z95≤(s12.length:Int))) (aj (a_ w0.fs y4.1) fun y97=>aj (bN y97 w2 y1.1.ino) fun y98=>
 ae (Nat.ble (0+(Int.toNat z95)) s12.length) (aj (aY (⟨y98,(⟨w0.aq.kept,((s12.drop 0).take (Int.toNat z95))⟩:cm)⟩:ao) w1) fun y99=>some (y99,(0:Int))) (none)) (none)) (none)) (none)) bw z91 (IntKind.i64.wrap (z91+(1:Int))) y90)) (aj (a_ w0.fs y4.1) fun y100=>aj (bN y100 w2 y1.1.ino) fun y101=>aj (aY (⟨y101,(⟨w0.aq.kept,y90⟩:cm)⟩:ao) w1) fun y102=>some (y102,(0:Int))) bw (0:Int))))) (aj (bN w0.fs w2 y1.1.ino) fun y103=>aj (aY (⟨y103,w0.aq⟩:ao) w1) fun y104=>some (y104,(0:Int))))) (
 ae (!y2.2) (aj (mi w0 y1.1.ino) fun y105=>sh (⟨y105.1.ino,y105.1.kind,y105.1.aI,y105.1.data,w2.dir,y105.1.entries⟩:al) fun s3=>sh (⟨(s3.ino),(s3.kind),(s3.aI),(s3.data),(s3.parent),(s3.entries)⟩:al) fun s0=>sh (a_ w0.fs (⟨(s0.ino),(s0.kind),(s0.aI),(s0.data),(s0.parent),(s0.entries)⟩:al)) fun s15=>
 ae (y105.1.kind==(1:Int)) (aj (fN w0.fs (1:Int) (List.length y105.1.data:Int)) fun y106=>
 ae (!y106) (some (w0,(8:Int))) (
 ae (y105.1.kind==(2:Int)) (aj s13 fun y107=>bK (List.length y107:Int) s3 y107 (fun z108=>
 ae (z108==(-1:Int)) (aj (a_ w0.fs s0) fun y109=>aj (bN y109 w2 y1.1.ino) fun y110=>aj (aY (⟨y110,(⟨w0.aq.kept,y107⟩:cm)⟩:ao) w1) fun y111=>some (y111,(0:Int))) (bR s0 (fun z112 z113=>
 ae (decide (0≤z112∧z112≤(z113.length:Int))) (sh (z113.length - (Int.toNat z112)) fun s16=>
 ae (Nat.ble ((Int.toNat z112)+s16) z113.length) (sh (z113.take (Int.toNat z112)++(List.replicate s16 s2++z113.drop ((Int.toNat z112)+s16))) fun s5=>
 ae (decide (0≤z112∧z112≤(s5.length:Int))) (aj s15 fun y114=>aj (bN y114 w2 y1.1.ino) fun y115=>
 ae (Nat.ble (0+(Int.toNat z112)) s5.length) (aj (aY (⟨y115,(⟨w0.aq.kept,((s5.drop 0).take (Int.toNat z112))⟩:cm)⟩:ao) w1) fun y116=>some (y116,(0:Int))) (none)) (none)) (none)) (none)) bw z108 (IntKind.i64.wrap (z108+(1:Int))) y107)) (aj (a_ w0.fs s0) fun y117=>aj (bN y117 w2 y1.1.ino) fun y118=>aj (aY (⟨y118,(⟨w0.aq.kept,y107⟩:cm)⟩:ao) w1) fun y119=>some (y119,(0:Int))) bw (0:Int)) (aj s13 fun y120=>bK (List.length y120:Int) y105.1 y120 (fun z121=>
 ae (z121==(-1:Int)) (aj (a_ w0.fs y105.1) fun y122=>aj (bN y122 w2 y1.1.ino) fun y123=>aj (aY (⟨y123,(⟨w0.aq.kept,y120⟩:cm)⟩:ao) w1) fun y124=>some (y124,(0:Int))) (bR y105.1 (fun z125 z126=>
 ae (decide (0≤z125∧z125≤(z126.length:Int))) (sh (z126.length - (Int.toNat z125)) fun s17=>
 ae (Nat.ble ((Int.toNat z125)+s17) z126.length) (sh (z126.take (Int.toNat z125)++(List.replicate s17 s2++z126.drop ((Int.toNat z125)+s17))) fun s6=>
 ae (decide (0≤z125∧z125≤(s6.length:Int))) (aj (a_ w0.fs y105.1) fun y127=>aj (bN y127 w2 y1.1.ino) fun y128=>
 ae (Nat.ble (0+(Int.toNat z125)) s6.length) (aj (aY (⟨y128,(⟨w0.aq.kept,((s6.drop 0).take (Int.toNat z125))⟩:cm)⟩:ao) w1) fun y129=>some (y129,(0:Int))) (none)) (none)) (none)) (none)) bw z121 (IntKind.i64.wrap (z121+(1:Int))) y120)) (aj (a_ w0.fs y105.1) fun y130=>aj (bN y130 w2 y1.1.ino) fun y131=>aj (aY (⟨y131,(⟨w0.aq.kept,y120⟩:cm)⟩:ao) w1) fun y132=>some (y132,(0:Int))) bw (0:Int)))) (aj (fN w0.fs (1:Int) (0:Int)) fun y133=>
 ae (!y133) (some (w0,(8:Int))) (
 ae (y105.1.kind==(2:Int)) (aj s13 fun y134=>bK (List.length y134:Int) s3 y134 (fun z135=>
 ae (z135==(-1:Int)) (aj (a_ w0.fs s0) fun y136=>aj (bN y136 w2 y1.1.ino) fun y137=>aj (aY (⟨y137,(⟨w0.aq.kept,y134⟩:cm)⟩:ao) w1) fun y138=>some (y138,(0:Int))) (bR s0 (fun z139 z140=>
 ae (decide (0≤z139∧z139≤(z140.length:Int))) (sh (z140.length - (Int.toNat z139)) fun s18=>
 ae (Nat.ble ((Int.toNat z139)+s18) z140.length) (sh (z140.take (Int.toNat z139)++(List.replicate s18 s2++z140.drop ((Int.toNat z139)+s18))) fun s7=>
 ae (decide (0≤z139∧z139≤(s7.length:Int))) (aj s15 fun y141=>aj (bN y141 w2 y1.1.ino) fun y142=>
 ae (Nat.ble (0+(Int.toNat z139)) s7.length) (aj (aY (⟨y142,(⟨w0.aq.kept,((s7.drop 0).take (Int.toNat z139))⟩:cm)⟩:ao) w1) fun y143=>some (y143,(0:Int))) (none)) (none)) (none)) (none)) bw z135 (IntKind.i64.wrap (z135+(1:Int))) y134)) (aj (a_ w0.fs s0) fun y144=>aj (bN y144 w2 y1.1.ino) fun y145=>aj (aY (⟨y145,(⟨w0.aq.kept,y134⟩:cm)⟩:ao) w1) fun y146=>some (y146,(0:Int))) bw (0:Int)) (aj s13 fun y147=>bK (List.length y147:Int) y105.1 y147 (fun z148=>
 ae (z148==(-1:Int)) (aj (a_ w0.fs y105.1) fun y149=>aj (bN y149 w2 y1.1.ino) fun y150=>aj (aY (⟨y150,(⟨w0.aq.kept,y147⟩:cm)⟩:ao) w1) fun y151=>some (y151,(0:Int))) (bR y105.1 (fun z152 z153=>
 ae (decide (0≤z152∧z152≤(z153.length:Int))) (sh (z153.length - (Int.toNat z152)) fun s19=>
 ae (Nat.ble ((Int.toNat z152)+s19) z153.length) (sh (z153.take (Int.toNat z152)++(List.replicate s19 s2++z153.drop ((Int.toNat z152)+s19))) fun s8=>
 ae (decide (0≤z152∧z152≤(s8.length:Int))) (aj (a_ w0.fs y105.1) fun y154=>aj (bN y154 w2 y1.1.ino) fun y155=>
 ae (Nat.ble (0+(Int.toNat z152)) s8.length) (aj (aY (⟨y155,(⟨w0.aq.kept,((s8.drop 0).take (Int.toNat z152))⟩:cm)⟩:ao) w1) fun y156=>some (y156,(0:Int))) (none)) (none)) (none)) (none)) bw z148 (IntKind.i64.wrap (z148+(1:Int))) y147)) (aj (a_ w0.fs y105.1) fun y157=>aj (bN y157 w2 y1.1.ino) fun y158=>aj (aY (⟨y158,(⟨w0.aq.kept,y147⟩:cm)⟩:ao) w1) fun y159=>some (y159,(0:Int))) bw (0:Int))))) (aj (bN w0.fs w2 y1.1.ino) fun y160=>aj (aY (⟨y160,w0.aq⟩:ao) w1) fun y161=>some (y161,(0:Int)))))))
noncomputable def jA (w0:ao) (w1:Int):Option (ao×Int):=
 aj (gZ w0 w1) fun y1=>aj (cf w0.fs y1.1.ino) fun y2=>
 ae (!y1.2) (some (w0,(13:Int))) (
 ae (!y1.1.content) (some (w0,(13:Int))) (
 ae (!y2.2) (some (w0,(13:Int))) (aj (fN w0.fs (0:Int) (IntKind.i64.wrap ((List.length y1.1.data:Int) - (List.length y2.1.data:Int)))) fun y3=>
 ae (!y3) (some (w0,(8:Int))) (aj (a_ w0.fs (⟨y2.1.ino,y2.1.kind,y2.1.aI,y1.1.data,y2.1.parent,y2.1.entries⟩:al)) fun y4=>aj (aY (⟨y4,w0.aq⟩:ao) w1) fun y5=>some (y5,(0:Int))))))
noncomputable def jt (w0:ao) (w1:Int) (w2:Int):Option (ao×Int):=
 aj (gZ w0 w1) fun y1=>
 ae y1.2 (some (w0,(13:Int))) (aj (cf w0.fs w2) fun y2=>aj (eP w0 (⟨w1,w2,true,y2.1.data⟩:Kept)) fun y3=>some (y3,(0:Int)))
noncomputable def j3 (w0:Fs) (w1:Str):Option (ar×Int):=
 aj (pz w0 w1) fun y1=>ae (y1.2 !=(0:Int)) (some (y1.1,y1.2)) (ae (y1.1.ino !=(0:Int)) (some (y1.1,(2:Int))) (some (y1.1,(0:Int))))
noncomputable def lU (w0:ao) (w1:Str) (w2:Int) (w3:Str):Option (ao×Int):=
 aj (j3 w0.fs w1) fun y1=>
 ae (y1.2 !=(0:Int)) (some (w0,y1.2)) (aj (me w0.fs y1.1 w2 w3) fun y2=>some ((⟨y2.1,w0.aq⟩:ao),y2.2))
noncomputable def kJ (w0:ao) (w1:Opn):Option (ao×Int):=
 aj (lU w0 w1.a (2:Int) ([] :Str)) fun y1=>some (y1.1,y1.2)
noncomputable def gi (w0:Fs) (w1:Str):Option (ar×al×Int):=
 aj (pz w0 w1) fun y1=>aj (cf w0 y1.1.ino) fun y2=>
 ae (y1.2 !=(0:Int)) (some (y1.1,y2.1,y1.2)) (
 ae (!y2.2) (some (y1.1,y2.1,(1:Int))) (some (y1.1,y2.1,(0:Int))))
noncomputable def lS (w0:Fs) (w1:Str):Option (al×Int):=
 aj (gi w0 w1) fun y1=>
 ae (y1.2.2 !=(0:Int)) (some (y1.2.1,y1.2.2)) (
 ae (y1.2.1.kind==(2:Int)) (some (y1.2.1,(4:Int))) (
 ae (y1.2.1.kind !=(1:Int)) (some (y1.2.1,(9:Int))) (some (y1.2.1,(0:Int)))))
noncomputable def mQ (w0:ao) (w1:Opn):Option (ao×Int):=
 aj (lS w0.fs w1.a) fun y1=>ae (y1.2 !=(0:Int)) (some (w0,y1.2)) (aj (lU w0 w1.b (1:Int) y1.1.data) fun y2=>some (y2.1,y2.2))
noncomputable def lL (w0:ao) (w1:Opn):Option (ao×Int):=
 aj (lS w0.fs w1.a) fun y1=>
 ae (y1.2 !=(0:Int)) (some (w0,y1.2)) (aj (lS w0.fs w1.b) fun y2=>
 ae (y2.2 !=(0:Int)) (some (w0,y2.2)) (
 ae (y1.1.ino==y2.1.ino) (some (w0,(9:Int))) (aj (jt w0 w1.slot y2.1.ino) fun y3=>
 ae (y3.2 !=(0:Int)) (some (w0,y3.2)) (aj (qw y3.1.fs y2.1.ino y1.1.data) fun y4=>
 ae (y4.2 !=(0:Int)) (some (w0,y4.2)) (some ((⟨y4.1,y3.1.aq⟩:ao),(0:Int)))))))
noncomputable def kI (w0:ao) (w1:Opn):Option (ao×Int):=
 aj (lU w0 w1.a (3:Int) w1.data) fun y1=>some (y1.1,y1.2)
noncomputable def nf (w0:ao) (w1:Opn):Option (ao×Int):=
 aj (gi w0.fs w1.a) fun y1=>
 ae (y1.2.2 !=(0:Int)) (some (w0,y1.2.2)) (
 ae (y1.2.1.kind==(2:Int)) (some (w0,(11:Int))) (aj (j3 w0.fs w1.b) fun y2=>
 ae (y2.2==(0:Int)) (aj (bN w0.fs y2.1 y1.2.1.ino) fun y3=>some ((⟨y3,w0.aq⟩:ao),y2.2)) (some (w0,y2.2))))
noncomputable def oi (w0:ao) (w1:Opn):Option (ao×Int):=
 aj (gi w0.fs w1.a) fun y1=>
 ae (y1.2.2 !=(0:Int)) (some (w0,y1.2.2)) (aj (j3 w0.fs w1.b) fun y2=>
 ae (y2.2==(0:Int)) (aj (qD w0.fs y1.1 y2.1) fun y3=>some ((⟨y3,w0.aq⟩:ao),y2.2)) (some (w0,y2.2)))
noncomputable def kH (w0:ao) (w1:Opn):Option (ao×Int):=
 aj (gi w0.fs w1.a) fun y1=>
 ae (y1.2.2 !=(0:Int)) (some (w0,y1.2.2)) (
 ae (decide ((List.length y1.2.1.entries:Int)>(0:Int))) (some (w0,(5:Int))) (aj (mn w0 w1.slot y1.1) fun y2=>some (y2.1,y2.2)))
noncomputable def db {R:Type} (x2:List Kept) (x3:Int) (x8:al) (kr:Int→Option R) (k0:Option R):Nat→Int→Option R
 |0,_=>none
 |n+1,x4=>
  ae (decide (x4<x3)) (
  ae (decide (0≤x4)) (aj x2[Int.toNat x4]? fun e9=>
  ae (e9.ino==x8.ino) ((kr x4)) ((db x2 x3 x8 kr k0 n (IntKind.i64.wrap (x4+(1:Int)))))) (none)) ((k0))
noncomputable def na (w0:ao) (w1:ar):Option (ao×Int):=
 aj (cf w0.fs w1.ino) fun y1=>db w0.aq.kept (List.length w0.aq.kept:Int) y1.1 (fun z19=>
 ae (decide (z19≥(0:Int))) (
 ae (y1.1.aI==(1:Int)) (some (w0,(13:Int))) (aj (gf w0.fs w1) fun y20=>some ((⟨y20,w0.aq⟩:ao),(0:Int)))) (aj (gf w0.fs w1) fun y21=>some ((⟨y21,w0.aq⟩:ao),(0:Int)))) (aj (gf w0.fs w1) fun y22=>some ((⟨y22,w0.aq⟩:ao),(0:Int))) bw (0:Int)
noncomputable def kE (w0:ao) (w1:Opn):Option (ao×Int):=
 aj (gi w0.fs w1.a) fun y1=>
 ae (y1.2.2 !=(0:Int)) (some (w0,y1.2.2)) (
 ae (decide ((List.length y1.2.1.entries:Int)>(0:Int))) (some (w0,(5:Int))) (aj (na w0 y1.1) fun y2=>some (y2.1,y2.2)))
noncomputable def ky (w0:ao) (w1:Opn):Option (ao×Int):=
 aj (j3 w0.fs w1.a) fun y1=>ae (y1.2 !=(0:Int)) (some (w0,y1.2)) (aj (o3 w0 w1.slot y1.1) fun y2=>some (y2.1,y2.2))
noncomputable def kD (w0:ao) (w1:Opn):Option (ao×Int):=
 aj (gi w0.fs w1.a) fun y1=>aj (gZ w0 w1.slot) fun y2=>
 ae (y1.2.2 !=(0:Int)) (some (w0,y1.2.2)) (
 ae (!y2.2) (some (w0,(13:Int))) (
 ae (!y2.1.content) (some (w0,(13:Int))) (
 ae (y2.1.ino !=y1.2.1.ino) (some (w0,(13:Int))) (aj (jA w0 w1.slot) fun y3=>some (y3.1,y3.2)))))
noncomputable def gm (w0:ao) (w1:Opn):Option (ao×Int):=
 aj (A8 w1) fun y1=>
 ae (!y1) (some (w0,(12:Int))) (
 ae ((1:Int)==w1.kind) (aj (kJ w0 w1) fun y2=>some (y2.1,y2.2)) (
 ae ((2:Int)==w1.kind) (aj (mQ w0 w1) fun y3=>some (y3.1,y3.2)) (
 ae ((3:Int)==w1.kind) (aj (lL w0 w1) fun y4=>some (y4.1,y4.2)) (
 ae ((4:Int)==w1.kind) (aj (kI w0 w1) fun y5=>some (y5.1,y5.2)) (
 ae ((5:Int)==w1.kind) (aj (nf w0 w1) fun y6=>some (y6.1,y6.2)) (
 ae ((6:Int)==w1.kind) (aj (oi w0 w1) fun y7=>some (y7.1,y7.2)) (
 ae ((7:Int)==w1.kind) (aj (kH w0 w1) fun y8=>some (y8.1,y8.2)) (
 ae ((8:Int)==w1.kind) (aj (kE w0 w1) fun y9=>some (y9.1,y9.2)) (
 ae ((9:Int)==w1.kind) (aj (ky w0 w1) fun y10=>some (y10.1,y10.2)) (
 ae ((10:Int)==w1.kind) (aj (kD w0 w1) fun y11=>some (y11.1,y11.2)) (none)))))))))))
noncomputable def fp (w0:Opn):Option (Opn×Bool):=
 ae (w0.kind==(1:Int)) (
 ae (w0.kind==(1:Int)) (some ((⟨(8:Int),0,w0.a, [], []⟩:Opn),true)) (
 ae (w0.kind==(2:Int)) (
 ae (w0.kind==(2:Int)) (some ((⟨(8:Int),0,w0.b, [], []⟩:Opn),true)) (
 ae (w0.kind==(3:Int)) (some ((⟨(10:Int),w0.slot,w0.b, [], []⟩:Opn),true)) (
 ae (w0.kind==(6:Int)) (some ((⟨(6:Int),0,w0.b,w0.a, []⟩:Opn),true)) (
 ae (w0.kind==(7:Int)) (some ((⟨(9:Int),w0.slot,w0.a, [], []⟩:Opn),true)) (some ((⟨0,0, [], [], []⟩:Opn),false)))))) (
 ae (w0.kind==(5:Int)) (some ((⟨(8:Int),0,w0.b, [], []⟩:Opn),true)) (
 ae (w0.kind==(3:Int)) (some ((⟨(10:Int),w0.slot,w0.b, [], []⟩:Opn),true)) (
 ae (w0.kind==(6:Int)) (some ((⟨(6:Int),0,w0.b,w0.a, []⟩:Opn),true)) (
 ae (w0.kind==(7:Int)) (some ((⟨(9:Int),w0.slot,w0.a, [], []⟩:Opn),true)) (some ((⟨0,0, [], [], []⟩:Opn),false)))))))) (
 ae (w0.kind==(4:Int)) (some ((⟨(8:Int),0,w0.a, [], []⟩:Opn),true)) (
 ae (w0.kind==(2:Int)) (
 ae (w0.kind==(2:Int)) (some ((⟨(8:Int),0,w0.b, [], []⟩:Opn),true)) (
 ae (w0.kind==(3:Int)) (some ((⟨(10:Int),w0.slot,w0.b, [], []⟩:Opn),true)) (
 ae (w0.kind==(6:Int)) (some ((⟨(6:Int),0,w0.b,w0.a, []⟩:Opn),true)) (
 ae (w0.kind==(7:Int)) (some ((⟨(9:Int),w0.slot,w0.a, [], []⟩:Opn),true)) (some ((⟨0,0, [], [], []⟩:Opn),false)))))) (
 ae (w0.kind==(5:Int)) (some ((⟨(8:Int),0,w0.b, [], []⟩:Opn),true)) (
 ae (w0.kind==(3:Int)) (some ((⟨(10:Int),w0.slot,w0.b, [], []⟩:Opn),true)) (
 ae (w0.kind==(6:Int)) (some ((⟨(6:Int),0,w0.b,w0.a, []⟩:Opn),true)) (
 ae (w0.kind==(7:Int)) (some ((⟨(9:Int),w0.slot,w0.a, [], []⟩:Opn),true)) (some ((⟨0,0, [], [], []⟩:Opn),false))))))))
noncomputable def mO:Option (ao):=
 aj (uD (4:Int) (9:Int)) fun y1=>aj (bG (⟨y1.aA,y1.aH,(9:Int),y1.aa⟩:Fs) (⟨(1:Int),(2:Int),0, [],(1:Int),[(⟨([97]:Str),(4:Int)⟩:Entry),(⟨([100]:Str),(3:Int)⟩:Entry)]⟩:al)) fun y2=>aj (bG y2 (⟨(3:Int),(2:Int),(1:Int), [],(1:Int),([] :List Entry)⟩:al)) fun y3=>aj (bG y3 (⟨(4:Int),(1:Int),(1:Int),([122]:Str),0,([] :List Entry)⟩:al)) fun y4=>some (⟨y4,(⟨([] :List Kept),([] :List al)⟩:cm)⟩:ao)
noncomputable def cC:Option (Bool):=
 aj (mO) fun y1=>aj (gm y1 (⟨(7:Int),(1:Int),([47,97]:Str), [], []⟩:Opn)) fun y2=>aj (gm y2.1 (⟨(9:Int),(1:Int),([47,97]:Str), [], []⟩:Opn)) fun y3=>aj (gm y1 (⟨(2:Int),0,([47,97]:Str),([47,100,47,98]:Str), []⟩:Opn)) fun y4=>aj (gm y4.1 (⟨(1:Int),0,([47,101]:Str), [], []⟩:Opn)) fun y5=>aj (gm y1 (⟨(1:Int),0,([47]:Str), [], []⟩:Opn)) fun y6=>aj (gm y4.1 (⟨(3:Int),(5:Int),([47,97]:Str),([47,100,47,98]:Str), []⟩:Opn)) fun y7=>aj (gm y4.1 (⟨(7:Int),(5:Int),([47,100]:Str), [], []⟩:Opn)) fun y8=>aj (fp (⟨(6:Int),0,([47,97]:Str),([47,98]:Str), []⟩:Opn)) fun y9=>aj (fp y9.1) fun y10=>aj (fp (⟨(8:Int),0,([47,97]:Str), [], []⟩:Opn)) fun y11=>
 ae (y2.2==(0:Int)) (
 ae (y3.2==(0:Int)) (aj (ep y3.1 y1) fun y12=>
 ae y12 (
 ae (y4.2==(0:Int)) (
 ae ((List.length y4.1.fs.aa:Int)==(4:Int)) (
 ae (y5.2==(8:Int)) (
 ae (y6.2==(12:Int)) (
 ae (y7.2==(0:Int)) (
 ae ((List.length y7.1.aq.kept:Int)==(1:Int)) (
 ae (y8.2==(5:Int)) (
 ae ((y9.1.kind==(6:Int))&&((y9.1.slot==0)&&((y9.1.a==([47,98]:Str))&&((y9.1.b==([47,97]:Str))&&(y9.1.data== []))))) (
 ae y9.2 (
 ae y10.2 (some (!y11.2)) (some false)) (some false)) (some false)) (some false)) (some false)) (some false)) (some false)) (some false)) (some false)) (some false)) (some false)) (some false)) (some false)
noncomputable def jf (w0:ao) (w1:(List Opn)):Option (Bool):=
 aj (sP w0) fun y1=>ae y1 (ae (decide (w0.fs.next<(549755813888:Int))) (aj (nU w1) fun y2=>some y2) (some false)) (some false)
noncomputable def ma (w0:ao) (w1:Opn):Option (Bool):=
 aj (cC) fun y1=>
 ae (!y1) (aj (cC) fun y2=>some y2) (aj (jf w0 [w1]) fun y3=>
 ae (!y3) (aj (cC) fun y4=>some y4) (aj (gm w0 w1) fun y5=>aj (pU w0 w1) fun y6=>aj (ep y5.1 y6.1) fun y7=>
 ae y7 (some (y5.2==y6.2)) (some false)))
noncomputable def jb (w0:Opn):Option (Bool):=
 aj (cC) fun y1=>
 ae (!y1) (aj (cC) fun y2=>some y2) (aj (nU [w0]) fun y3=>
 ae (!y3) (aj (cC) fun y4=>some y4) (aj (fp w0) fun y5=>aj (nr w0) fun y6=>
 ae (!((y5.1.kind==y6.1.kind)&&((y5.1.slot==y6.1.slot)&&((y5.1.a==y6.1.a)&&((y5.1.b==y6.1.b)&&(y5.1.data==y6.1.data)))))) (some false) (
 ae (!(y5.2==y6.2)) (some false) (
 ae (!y5.2) (some true) (aj (jh w0) fun y7=>
 ae (!y7) (some true) (aj (jh y5.1) fun y8=>
 ae y8 (aj (oL [y5.1]) fun y9=>some y9) (some false)))))))
noncomputable def ju (w0:ao) (w1:Opn):Option (Bool):=
 aj (cC) fun y1=>
 ae (!y1) (aj (cC) fun y2=>some y2) (aj (jf w0 [w1]) fun y3=>
 ae (!y3) (aj (cC) fun y4=>some y4) (aj (gm w0 w1) fun y5=>aj (fp w1) fun y6=>
 ae (y5.2 !=(0:Int)) (
 ae (y5.2==(0:Int)) (some true) (aj (ep y5.1 w0) fun y7=>some y7)) (
 ae (!y6.2) (
 ae (y5.2==(0:Int)) (some true) (aj (ep y5.1 w0) fun y8=>some y8)) (aj (gm y5.1 y6.1) fun y9=>
 ae (y9.2 !=(0:Int)) (some false) (aj (im y5.1) fun y10=>
 ae (!y10) (some false) (aj (ep (⟨(⟨y9.1.fs.aA,y9.1.fs.aH,w0.fs.next,y9.1.fs.aa⟩:Fs),y9.1.aq⟩:ao) w0) fun y11=>some y11))))))
noncomputable def du {R:Type} (x6:List Opn) (kr:Option R) (k0:Option R):Nat→Int→ao→Option R
 |0,_,_=>none
 |n+1,x7,x8=>
  ae (decide (x7<(List.length x6:Int))) (
  ae (decide (0≤x7)) (aj x6[Int.toNat x7]? fun e9=>aj (gm x8 e9) fun y10=>aj (im y10.1) fun y11=>
  ae (!y11) ((kr)) (
  ae (y10.2 !=(0:Int)) (aj (ep y10.1 x8) fun y12=>
  ae (!y12) ((kr)) (aj (gW y10.1.fs) fun y13=>
  ae (y13 !=(0:Int)) ((kr)) ((du x6 kr k0 n (IntKind.i64.wrap (x7+(1:Int))) y10.1)))) (aj (gW y10.1.fs) fun y14=>
  ae (y14 !=(0:Int)) ((kr)) ((du x6 kr k0 n (IntKind.i64.wrap (x7+(1:Int))) y10.1))))) (none)) ((k0))
noncomputable def k_ (w0:ao) (w1:(List Opn)):Option (Bool):=
 aj (cC) fun y1=>
 ae (!y1) (aj (cC) fun y2=>some y2) (aj (jf w0 w1) fun y3=>
 ae (!y3) (aj (cC) fun y4=>some y4) (
 ae (decide ((List.length w1:Int)>(20:Int))) (aj (cC) fun y5=>some y5) (du w1 (some false) (some true) bw (0:Int) w0)))
noncomputable def lB (w0:ao) (w1:Opn):Option (Bool):=
 aj (cC) fun y1=>
 ae (!y1) (aj (cC) fun y2=>some y2) (aj (jf w0 [w1]) fun y3=>
 ae (!y3) (aj (cC) fun y4=>some y4) (aT (([] :List al).length+w0.fs.aa.length) (aT (([] :List Kept).length+w0.aq.kept.length) (aT (([] :List al).length+w0.aq.aV.length) (aj (gm (⟨(⟨w0.fs.aA,w0.fs.aH,w0.fs.next,(([] :List al)++w0.fs.aa)⟩:Fs),(⟨(([] :List Kept)++w0.aq.kept),(([] :List al)++w0.aq.aV)⟩:cm)⟩:ao) w1) fun y5=>aj (pU w0 w1) fun y6=>aj (ep (⟨(⟨w0.fs.aA,w0.fs.aH,w0.fs.next,(([] :List al)++w0.fs.aa)⟩:Fs),(⟨(([] :List Kept)++w0.aq.kept),(([] :List al)++w0.aq.aV)⟩:cm)⟩:ao) w0) fun y7=>
 ae y7 (aj (ep y5.1 y6.1) fun y8=>
 ae y8 (some (y5.2==y6.2)) (some false)) (some false))))))
end Go.Eng
namespace Go.Eng
open Go
@[simp] theorem ay {α:Type} (x y:Option α):ae true x y=x:=rfl
@[simp] theorem ax {α:Type} (x y:Option α):ae false x y=y:=rfl
@[simp] theorem ah {α β:Type} (a:α) (f:α→Option β):aj (some a) f=f a:=rfl
theorem aZ {α:Type} (b:Bool) (x y:Option α):ae b x y=if b then x else y:=by cases b<;>rfl
theorem bV {α:Type} {n:Nat} {x:Option α} (h:n≤LIM):aT n x=x:=by
 unfold aT;rw[Nat.ble_eq_true_of_le h]
theorem cd {n:Int} (h1: -9223372036854775808≤n) (h2:n<9223372036854775808):IntKind.i64.wrap n=n:=by
 simp [IntKind.wrap,IntKind.bits,IntKind.signed];omega
theorem bc {k:Nat} (h:k<4611686018427387904):IntKind.i64.wrap ((k:Int)+1)=((k+1:Nat):Int):=by
 rw[cd (by omega) (by omega)];rfl
theorem wq {α:Type} {l:List α} {k:Nat} (h:k<l.length):∃x,l[k]? =some x∧l.drop k=x::l.drop (k+1):=
 ⟨l[k],by simp,List.drop_eq_getElem_cons h⟩
theorem dec_lt {k n:Nat} (h:k<n):decide ((k:Int)<(n:Int))=true:=by simp;omega
theorem bW {k n:Nat} (h:n≤k):decide ((k:Int)<(n:Int))=false:=by simp;omega
theorem bP (k:Nat):decide (0≤(k:Int))=true:=by simp
theorem F3 {k n:Nat} (h:k<n):decide (0≤(k:Int)∧(k:Int)<(n:Int))=true:=by simp;omega
theorem toNat_cast (k:Nat):Int.toNat (k:Int)=k:=Int.toNat_natCast k
theorem iu {n:Nat} (h:n≤1099511627775):n<bw:=Nat.lt_of_lt_of_le (by omega) sU
end Go.Eng
namespace Go.Eng
def dL {α S R:Type} (G:Nat→α→S→(S→Option R)→Option R) (E:S→Option R):Nat→List α→S→Option R
 |_, [],s=>E s
 |k,x::r,s=>G k x s (dL G E (k+1) r)
theorem Ib {α S R:Type} {l:List α} (F:Nat→Int→S→Option R) (G:Nat→α→S→(S→Option R)→Option R) (E:S→Option R) (hl:l.length≤1099511627775)
 (h1:∀(n k:Nat) (x:α) (s:S),k<l.length→l[k]? =some x→F (n+1) (k:Int) s=G k x s (F n ((k+1:Nat):Int))) (h0:∀(n:Nat) (s:S),F (n+1) (l.length:Int) s=E s):
 ∀(n k:Nat) (s:S),k≤l.length→l.length - k<n→F n (k:Int) s=dL G E k (l.drop k) s:=by
 intro n;induction n with
 |zero=>intro k s _ h;omega
 |succ n ih=>
  intro k s hk hn;by_cases h:k<l.length
  ·obtain⟨x,hx,hd⟩:=wq h
   rw[h1 n k x s h hx,hd];simp only[dL];congr 1;funext s';exact ih (k+1) s' (by omega) (by omega)
  ·have:k=l.length:=by omega
   subst this;rw[h0,List.drop_length];rfl
theorem bU {α S R:Type} {l:List α} (F:Nat→Int→S→Option R) (G:Nat→α→S→(S→Option R)→Option R) (E:S→Option R) (hl:l.length≤1099511627775)
 (h1:∀(n k:Nat) (x:α) (s:S),k<l.length→l[k]? =some x→F (n+1) (k:Int) s=G k x s (F n ((k+1:Nat):Int))) (h0:∀(n:Nat) (s:S),F (n+1) (l.length:Int) s=E s) (s:S):F bw (0:Int) s=dL G E 0 l s:=
 Ib F G E hl h1 h0 bw 0 s (Nat.zero_le _) (iu (by omega))
end Go.Eng
namespace Go.Eng
theorem jn {α S R:Type} {l:List α} (F:Nat→Int→S→Option R) (Inv:Nat→S→Prop) (P:Option R→Prop) (hl:l.length≤1099511627775)
 (h1:∀(n k:Nat) (x:α) (s:S),k<l.length→l[k]? =some x→Inv k s→(∀s',Inv (k+1) s'→P (F n ((k+1:Nat):Int) s'))→P (F (n+1) (k:Int) s))
 (h0:∀(n:Nat) (s:S),Inv l.length s→P (F (n+1) (l.length:Int) s)) (s:S) (hi:Inv 0 s):P (F bw (0:Int) s):=by
 have key:∀(n k:Nat) (s:S),Inv k s→k≤l.length→l.length - k<n→P (F n (k:Int) s):=by
  intro n;induction n with
  |zero=>intro k s _ _ h;omega
  |succ n ih=>
   intro k s hs hk hn;by_cases h:k<l.length
   ·exact h1 n k l[k] s h (by simp [h]) hs fun s' hs'=>ih (k+1) s' hs' (by omega) (by omega)
   ·have:k=l.length:=by omega
    subst this;exact h0 n s hs
 exact key bw 0 s hi (Nat.zero_le _) (iu (by omega))
end Go.Eng
namespace Go.Eng
theorem aL {α:Type} {b:Bool} {x y:Option α} (h:b=true):ae b x y=x:=by subst h;rfl
theorem aW {α:Type} {b:Bool} {x y:Option α} (h:b=false):ae b x y=y:=by subst h;rfl
theorem Ge {a b:Nat} (h:b<a):Nat.ble a b=false:=by
 cases e:Nat.ble a b with
 |false=>rfl
 |true=>exact absurd (Nat.le_of_ble_eq_true e) (by omega)
end Go.Eng
