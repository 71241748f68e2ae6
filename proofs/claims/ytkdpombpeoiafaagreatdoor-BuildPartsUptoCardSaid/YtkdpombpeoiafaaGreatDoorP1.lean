/- A part of the proofs of the laws of this seat: the engine that reads the program's code, plain functions, or facts of the program's functions. Conditions: none. -/
import Derived.Test.YtkdpombpeoiafaaGreatDoorE4
import Derived.Lib.Bytealg
import Derived.Lib.IndexAny
import Derived.Lib.Join
set_option linter.unusedSectionVars false
set_option linter.unusedVariables false
set_option linter.unusedSimpArgs false
set_option linter.unnecessarySimpa false
namespace Go.Eng
open Go
def strings_Compare (a b:Str):Option Int:=some (Lib.compareBytes a b)
def stringslite_IndexByte (a:Str) (c:Int):Option Int:=some (Lib.indexByte a c.toNat.toUInt8)
noncomputable def strings_Join (l:List Str) (sep:Str):Option Str:=open Classical in if (Lib.join l sep).length+l.length≤67108864 then some (Lib.join l sep) else none
theorem EX {w:World} {bk of:Nat}:∀(l:List Str),(∀i,(hi:i<l.length)→∃b:ByteArray,w.cell? ⟨bk,of+i,none⟩=some (.string b)∧b.data.toList=l[i])→
 ∃xs:List ByteArray,xs.length=l.length∧(∀(j:Nat) x,xs[j]? =some x→w.cell? ⟨bk,of+j,none⟩=some (.string x))∧xs.map (·.data.toList)=l:=by
 intro l h;refine⟨(List.range l.length).pmap (fun i hi=>Classical.choose (h i hi)) (fun i hi=>by simpa using hi),by simp,fun j x hx=> ?_, ?_⟩
 ·have hj:j<l.length:=by
   have:=(List.getElem?_eq_some_iff.1 hx).1;simpa using this
  have:=(Classical.choose_spec (h j hj)).1;simp [List.getElem?_pmap,hj] at hx;rw[←hx];exact this
 ·apply List.ext_getElem
  ·simp
  ·intro i h1 h2
   simp only[List.getElem_map,List.getElem_pmap,List.getElem_range];exact(Classical.choose_spec (h i h2)).2
end Go.Eng
set_option linter.unusedVariables false
set_option maxRecDepth 100000
namespace Go.Eng
open Go
noncomputable def bW {R:Type} (x1:Str) (kr:Int→Option R) (k0:Option R):Nat→Int→Option R
 |0,_=>none
 |n+1,x2=>
  ae (decide (x2<(List.length x1:Int))) (
  ae (decide (0≤x2)) (ai x1[Int.toNat x2]? fun c3=>splitK (UInt8.toNat c3:Int) 256 0 (fun i4=>
  ae (Nat.beq i4 0||Nat.beq i4 47) ((kr x2)) ((bW x1 kr k0 n (IntKind.i64.wrap (x2+(1:Int))))))) (none)) ((k0))
noncomputable def cg {R:Type} (x13:Str) (kr:Int→Option R) (k9:Option R):Nat→Nat→Option R
 |0,_=>none
 |n+1,x14=>
  ae (Nat.blt x14 x13.length) (
  ae (((a_ x13 x14).1:Int)==(65533:Int)) ((kr (x14:Int))) ((cg x13 kr k9 n (x14+(a_ x13 x14).2)))) ((k9))
noncomputable def cG {R:Type} (x35:Str) (x36:Int) (x37:Int) (k3:Option R):Nat→Int→Option R
 |0,_=>none
 |n+1,x38=>
  ae (decide (x38<(List.length x35:Int))) (
  ae (decide (0≤(IntKind.i64.wrap (x37 - x38)))) (ai ([47,0]:Str)[Int.toNat (IntKind.i64.wrap (x37 - x38))]? fun c42=>
  ae (decide (0≤(IntKind.i64.wrap (x36 - x38)))) (ai x35[Int.toNat (IntKind.i64.wrap (x36 - x38))]? fun c43=>
  ae ((UInt8.toNat c42:Int) !=(UInt8.toNat c43:Int)) (none) ((cG x35 x36 x37 k3 n (IntKind.i64.wrap (x38+(1:Int)))))) (none)) (none)) ((k3))
noncomputable def bm {R:Type} (x25:Str) (x26:Int) (x27:Int) (kr:Int→Option R) (k1:Option R):Nat→Option R
 |0=>none
 |n+1=>
  ae (decide (x27<(2:Int))) (
  ae (decide (0≤x27)) (ai ([47,0]:Str)[Int.toNat x27]? fun c31=>
  ae (decide (0≤x26)) (ai x25[Int.toNat x26]? fun c32=>
  ae ((UInt8.toNat c31:Int) !=(UInt8.toNat c32:Int)) (
  ae (decide (0≤(IntKind.i64.wrap (x27+(1:Int)))∧(IntKind.i64.wrap (x27+(1:Int)))≤(([47,0]:Str).length:Int))) (
  ae (decide (0≤x26)) (ai x25[Int.toNat x26]? fun c33=>ai (stringslite_IndexByte (([47,0]:Str).drop (Int.toNat (IntKind.i64.wrap (x27+(1:Int))))) (UInt8.toNat c33:Int)) fun y34=>
  ae (decide (y34<(0:Int))) ((kr (-1:Int))) (cG x25 x26 (IntKind.i64.wrap (x27+(IntKind.i64.wrap (y34+(1:Int))))) ((kr (IntKind.i64.wrap ((IntKind.i64.wrap (x27+(IntKind.i64.wrap (y34+(1:Int))))) - x26)))) bo (1:Int))) (none)) (none)) (cG x25 x26 x27 ((kr (IntKind.i64.wrap (x27 - x26)))) bo (1:Int))) (none)) (none)) ((k1))
noncomputable def aC {R:Type} (x7:Str) (kr:Int→Option R) (k2:Option R):Nat→Nat→Option R
 |0,_=>none
 |n+1,x8=>
  ae (Nat.blt x8 x7.length) (
  ae (decide ((0:Int)≤((a_ x7 x8).1:Int))) (
  ae (decide (((a_ x7 x8).1:Int)<(128:Int))) (ai (stringslite_IndexByte ([47,0]:Str) (IntKind.u8.wrap (((a_ x7 x8).1:Int)))) fun y9=>
  ae (decide (y9≥(0:Int))) ((kr (x8:Int))) ((aC x7 kr k2 n (x8+(a_ x7 x8).2)))) (
  ae (((a_ x7 x8).1:Int)==(65533:Int)) (cg ([47,0]:Str) (fun z24=>
  ae (decide (z24≥(0:Int))) ((kr (x8:Int))) ((aC x7 kr k2 n (x8+(a_ x7 x8).2)))) ((aC x7 kr k2 n (x8+(a_ x7 x8).2))) bo 0) (
  ae (decide ((0:Int)≤((a_ x7 x8).1:Int))) (
  ae (decide (((a_ x7 x8).1:Int)<(55296:Int))) (bm ((Utf8.encode ((a_ x7 x8).1:Int)).data.toList) (IntKind.i64.wrap ((List.length ((Utf8.encode ((a_ x7 x8).1:Int)).data.toList):Int) - (1:Int))) (IntKind.i64.wrap ((List.length ((Utf8.encode ((a_ x7 x8).1:Int)).data.toList):Int) - (1:Int))) (fun z59=>
  ae (decide (z59≥(0:Int))) ((kr (x8:Int))) ((aC x7 kr k2 n (x8+(a_ x7 x8).2)))) ((aC x7 kr k2 n (x8+(a_ x7 x8).2))) bo) (
  ae (decide ((57343:Int)<((a_ x7 x8).1:Int))) (
  ae (decide (((a_ x7 x8).1:Int)≤(1114111:Int))) (bm ((Utf8.encode ((a_ x7 x8).1:Int)).data.toList) (IntKind.i64.wrap ((List.length ((Utf8.encode ((a_ x7 x8).1:Int)).data.toList):Int) - (1:Int))) (IntKind.i64.wrap ((List.length ((Utf8.encode ((a_ x7 x8).1:Int)).data.toList):Int) - (1:Int))) (fun z60=>
  ae (decide (z60≥(0:Int))) ((kr (x8:Int))) ((aC x7 kr k2 n (x8+(a_ x7 x8).2)))) ((aC x7 kr k2 n (x8+(a_ x7 x8).2))) bo) ((aC x7 kr k2 n (x8+(a_ x7 x8).2)))) ((aC x7 kr k2 n (x8+(a_ x7 x8).2))))) (
  ae (decide ((57343:Int)<((a_ x7 x8).1:Int))) (
  ae (decide (((a_ x7 x8).1:Int)≤(1114111:Int))) (bm ((Utf8.encode ((a_ x7 x8).1:Int)).data.toList) (IntKind.i64.wrap ((List.length ((Utf8.encode ((a_ x7 x8).1:Int)).data.toList):Int) - (1:Int))) (IntKind.i64.wrap ((List.length ((Utf8.encode ((a_ x7 x8).1:Int)).data.toList):Int) - (1:Int))) (fun z61=>
  ae (decide (z61≥(0:Int))) ((kr (x8:Int))) ((aC x7 kr k2 n (x8+(a_ x7 x8).2)))) ((aC x7 kr k2 n (x8+(a_ x7 x8).2))) bo) ((aC x7 kr k2 n (x8+(a_ x7 x8).2)))) ((aC x7 kr k2 n (x8+(a_ x7 x8).2))))))) (
  ae (((a_ x7 x8).1:Int)==(65533:Int)) (cg ([47,0]:Str) (fun z62=>
  ae (decide (z62≥(0:Int))) ((kr (x8:Int))) ((aC x7 kr k2 n (x8+(a_ x7 x8).2)))) ((aC x7 kr k2 n (x8+(a_ x7 x8).2))) bo 0) (
  ae (decide ((0:Int)≤((a_ x7 x8).1:Int))) (
  ae (decide (((a_ x7 x8).1:Int)<(55296:Int))) (bm ((Utf8.encode ((a_ x7 x8).1:Int)).data.toList) (IntKind.i64.wrap ((List.length ((Utf8.encode ((a_ x7 x8).1:Int)).data.toList):Int) - (1:Int))) (IntKind.i64.wrap ((List.length ((Utf8.encode ((a_ x7 x8).1:Int)).data.toList):Int) - (1:Int))) (fun z63=>
  ae (decide (z63≥(0:Int))) ((kr (x8:Int))) ((aC x7 kr k2 n (x8+(a_ x7 x8).2)))) ((aC x7 kr k2 n (x8+(a_ x7 x8).2))) bo) (
  ae (decide ((57343:Int)<((a_ x7 x8).1:Int))) (
  ae (decide (((a_ x7 x8).1:Int)≤(1114111:Int))) (bm ((Utf8.encode ((a_ x7 x8).1:Int)).data.toList) (IntKind.i64.wrap ((List.length ((Utf8.encode ((a_ x7 x8).1:Int)).data.toList):Int) - (1:Int))) (IntKind.i64.wrap ((List.length ((Utf8.encode ((a_ x7 x8).1:Int)).data.toList):Int) - (1:Int))) (fun z64=>
  ae (decide (z64≥(0:Int))) ((kr (x8:Int))) ((aC x7 kr k2 n (x8+(a_ x7 x8).2)))) ((aC x7 kr k2 n (x8+(a_ x7 x8).2))) bo) ((aC x7 kr k2 n (x8+(a_ x7 x8).2)))) ((aC x7 kr k2 n (x8+(a_ x7 x8).2))))) (
  ae (decide ((57343:Int)<((a_ x7 x8).1:Int))) (
  ae (decide (((a_ x7 x8).1:Int)≤(1114111:Int))) (bm ((Utf8.encode ((a_ x7 x8).1:Int)).data.toList) (IntKind.i64.wrap ((List.length ((Utf8.encode ((a_ x7 x8).1:Int)).data.toList):Int) - (1:Int))) (IntKind.i64.wrap ((List.length ((Utf8.encode ((a_ x7 x8).1:Int)).data.toList):Int) - (1:Int))) (fun z65=>
  ae (decide (z65≥(0:Int))) ((kr (x8:Int))) ((aC x7 kr k2 n (x8+(a_ x7 x8).2)))) ((aC x7 kr k2 n (x8+(a_ x7 x8).2))) bo) ((aC x7 kr k2 n (x8+(a_ x7 x8).2)))) ((aC x7 kr k2 n (x8+(a_ x7 x8).2))))))) ((k2))
noncomputable def eM (w0:Str):Option (Bool):=
 ae (decide ((List.length w0:Int)>(8:Int))) (bW w0 (fun z6=>some (decide (z6≥(0:Int)))) (some false) bo (0:Int)) (aC w0 (fun z67=>some (decide (z67≥(0:Int)))) (some false) bo 0)
noncomputable def gZ (w0:Str):Option (Bool):=
 ae (!(w0==([] :Str))) (
 ae (decide ((List.length w0:Int)≤(255:Int))) (ai (eM w0) fun y1=>
 ae (!y1) (
 ae (!(w0==([46]:Str))) (some (!(w0==([46,46]:Str)))) (some false)) (some false)) (some false)) (some false)
noncomputable def jT (w0:(List Str)):Option (Str):=
 ae ((List.length w0:Int)==(0:Int)) (some ([47]:Str)) (ai (strings_Join w0 ([47]:Str)) fun y1=>aQ (([47]:Str).length+y1.length) (some (([47]:Str)++y1)))
noncomputable def bc {R:Type} (k2:Str→(List Str)→Option R):Nat→Str→(List Str)→Option R
 |0,_,_=>none
 |n+1,x2,x3=>
  ae (([47]:Str)==x2) (
  ae (decide (0≤(0:Int)∧(0:Int)≤(x2.length:Int))) (
  ae (!((x2.take (Int.toNat (0:Int)))==([] :Str))) (aQ (x3.length+[(x2.take (Int.toNat (0:Int)))].length) (
  ae (decide (0≤(1:Int)∧(1:Int)≤(x2.length:Int))) ((bc k2 n (x2.drop (Int.toNat (1:Int))) (x3++[(x2.take (Int.toNat (0:Int)))]))) (none))) (
  ae (decide (0≤(1:Int)∧(1:Int)≤(x2.length:Int))) ((bc k2 n (x2.drop (Int.toNat (1:Int))) x3)) (none))) (none)) (ai (stringslite_IndexByte x2 (47:Int)) fun y4=>
  ae (decide (y4<(0:Int))) ((k2 x2 x3)) (
  ae (decide (0≤(IntKind.i64.wrap (y4+(0:Int)))∧(IntKind.i64.wrap (y4+(0:Int)))≤(x2.length:Int))) (
  ae (!((x2.take (Int.toNat (IntKind.i64.wrap (y4+(0:Int)))))==([] :Str))) (aQ (x3.length+[(x2.take (Int.toNat (IntKind.i64.wrap (y4+(0:Int)))))].length) (
  ae (decide (0≤(IntKind.i64.wrap (y4+(1:Int)))∧(IntKind.i64.wrap (y4+(1:Int)))≤(x2.length:Int))) ((bc k2 n (x2.drop (Int.toNat (IntKind.i64.wrap (y4+(1:Int))))) (x3++[(x2.take (Int.toNat (IntKind.i64.wrap (y4+(0:Int)))))]))) (none))) (
  ae (decide (0≤(IntKind.i64.wrap (y4+(1:Int)))∧(IntKind.i64.wrap (y4+(1:Int)))≤(x2.length:Int))) ((bc k2 n (x2.drop (Int.toNat (IntKind.i64.wrap (y4+(1:Int))))) x3)) (none))) (none)))
noncomputable def cd {R:Type} (x11:Int) (x14:List Str) (kr:Int→Option R) (k0:Option R):Nat→Int→Option R
 |0,_=>none
 |n+1,x12=>
  ae (decide (x12<x11)) (
  ae (decide (0≤x12∧x12<(x14.length:Int))) (ai x14[(Int.toNat x12)]? fun e15=>ai (gZ e15) fun y16=>
  ae (!y16) ((kr x12)) ((cd x11 x14 kr k0 n (IntKind.i64.wrap (x12+(1:Int)))))) (none)) ((k0))
noncomputable def mu (w0:Str):Option ((List Str)×Bool):=
 bc (fun z8 z9=>
 ae (!(z8==([] :Str))) (aQ (z9.length+[z8].length) (ai (jT (z9++[z8])) fun y10=>
 ae (!(y10==w0)) (some (([] :List Str),false)) (cd (List.length (z9++[z8]):Int) (z9++[z8]) (fun z22=>
 ae (decide (z22≥(0:Int))) (some (([] :List Str),false)) (some ((z9++[z8]),true))) (some ((z9++[z8]),true)) bo (0:Int)))) (ai (jT z9) fun y23=>
 ae (!(y23==w0)) (some (([] :List Str),false)) (cd (List.length z9:Int) z9 (fun z24=>
 ae (decide (z24≥(0:Int))) (some (([] :List Str),false)) (some (z9,true))) (some (z9,true)) bo (0:Int)))) bo w0 ([] :List Str)
noncomputable def br {R:Type} (kr:Option R) (k2:Str→Option R):Nat→Str→Option R
 |0,_=>none
 |n+1,x2=>
  ae (([47]:Str)==x2) (
  ae (decide (0≤(0:Int)∧(0:Int)≤(x2.length:Int))) (
  ae (!((x2.take (Int.toNat (0:Int)))==([] :Str))) (
  ae (decide ((List.length (x2.take (Int.toNat (0:Int))):Int)>(255:Int))) ((kr)) (
  ae (decide (0≤(1:Int)∧(1:Int)≤(x2.length:Int))) ((br kr k2 n (x2.drop (Int.toNat (1:Int))))) (none))) (
  ae (decide (0≤(1:Int)∧(1:Int)≤(x2.length:Int))) ((br kr k2 n (x2.drop (Int.toNat (1:Int))))) (none))) (none)) (ai (stringslite_IndexByte x2 (47:Int)) fun y3=>
  ae (decide (y3<(0:Int))) ((k2 x2)) (
  ae (decide (0≤(IntKind.i64.wrap (y3+(0:Int)))∧(IntKind.i64.wrap (y3+(0:Int)))≤(x2.length:Int))) (
  ae (!((x2.take (Int.toNat (IntKind.i64.wrap (y3+(0:Int)))))==([] :Str))) (
  ae (decide ((List.length (x2.take (Int.toNat (IntKind.i64.wrap (y3+(0:Int))))):Int)>(255:Int))) ((kr)) (
  ae (decide (0≤(IntKind.i64.wrap (y3+(1:Int)))∧(IntKind.i64.wrap (y3+(1:Int)))≤(x2.length:Int))) ((br kr k2 n (x2.drop (Int.toNat (IntKind.i64.wrap (y3+(1:Int))))))) (none))) (
  ae (decide (0≤(IntKind.i64.wrap (y3+(1:Int)))∧(IntKind.i64.wrap (y3+(1:Int)))≤(x2.length:Int))) ((br kr k2 n (x2.drop (Int.toNat (IntKind.i64.wrap (y3+(1:Int))))))) (none))) (none)))
noncomputable def gK (w0:Str):Option (Bool):=
 br (some true) (fun z9=>
 ae (!(z9==([] :Str))) (
 ae (decide ((List.length z9:Int)>(255:Int))) (some true) (some (decide ((List.length w0:Int)>(4095:Int))))) (some (decide ((List.length w0:Int)>(4095:Int))))) bo w0
noncomputable def bh {R:Type} (k2:Str→(List Str)→Option R):Nat→Str→(List Str)→Option R
 |0,_,_=>none
 |n+1,x3,x4=>
  ae (([47]:Str)==x3) (
  ae (decide (0≤(0:Int)∧(0:Int)≤(x3.length:Int))) (
  ae (!((x3.take (Int.toNat (0:Int)))==([] :Str))) (aQ (x4.length+[(x3.take (Int.toNat (0:Int)))].length) (
  ae (decide (0≤(1:Int)∧(1:Int)≤(x3.length:Int))) ((bh k2 n (x3.drop (Int.toNat (1:Int))) (x4++[(x3.take (Int.toNat (0:Int)))]))) (none))) (
  ae (decide (0≤(1:Int)∧(1:Int)≤(x3.length:Int))) ((bh k2 n (x3.drop (Int.toNat (1:Int))) x4)) (none))) (none)) (ai (stringslite_IndexByte x3 (47:Int)) fun y5=>
  ae (decide (y5<(0:Int))) ((k2 x3 x4)) (
  ae (decide (0≤(IntKind.i64.wrap (y5+(0:Int)))∧(IntKind.i64.wrap (y5+(0:Int)))≤(x3.length:Int))) (
  ae (!((x3.take (Int.toNat (IntKind.i64.wrap (y5+(0:Int)))))==([] :Str))) (aQ (x4.length+[(x3.take (Int.toNat (IntKind.i64.wrap (y5+(0:Int)))))].length) (
  ae (decide (0≤(IntKind.i64.wrap (y5+(1:Int)))∧(IntKind.i64.wrap (y5+(1:Int)))≤(x3.length:Int))) ((bh k2 n (x3.drop (Int.toNat (IntKind.i64.wrap (y5+(1:Int))))) (x4++[(x3.take (Int.toNat (IntKind.i64.wrap (y5+(0:Int)))))]))) (none))) (
  ae (decide (0≤(IntKind.i64.wrap (y5+(1:Int)))∧(IntKind.i64.wrap (y5+(1:Int)))≤(x3.length:Int))) ((bh k2 n (x3.drop (Int.toNat (IntKind.i64.wrap (y5+(1:Int))))) x4)) (none))) (none)))
noncomputable def eo (w0:Str):Option (Pth):=
 bh (fun z10 z11=>
 ae (!(z10==([] :Str))) (aQ (z11.length+[z10].length) (
 ae (decide ((List.length w0:Int)≥(1:Int))) (
 ae (decide (0≤(1:Int)∧(1:Int)≤(w0.length:Int))) (
 ae (decide ((List.length (z11++[z10]):Int)>(0:Int))) (
 ae (decide ((List.length w0:Int)≥(1:Int))) (
 ae (decide (0≤(IntKind.i64.wrap ((List.length w0:Int) - (1:Int)))∧(IntKind.i64.wrap ((List.length w0:Int) - (1:Int)))≤(w0.length:Int))) (some (⟨((w0.take (Int.toNat (1:Int)))==([47]:Str)),(z11++[z10]),((w0.drop (Int.toNat (IntKind.i64.wrap ((List.length w0:Int) - (1:Int)))))==([47]:Str))⟩:Pth)) (none)) (some (⟨((w0.take (Int.toNat (1:Int)))==([47]:Str)),(z11++[z10]),false⟩:Pth))) (some (⟨((w0.take (Int.toNat (1:Int)))==([47]:Str)),(z11++[z10]),false⟩:Pth))) (none)) (
 ae (decide ((List.length (z11++[z10]):Int)>(0:Int))) (
 ae (decide ((List.length w0:Int)≥(1:Int))) (
 ae (decide (0≤(IntKind.i64.wrap ((List.length w0:Int) - (1:Int)))∧(IntKind.i64.wrap ((List.length w0:Int) - (1:Int)))≤(w0.length:Int))) (some (⟨false,(z11++[z10]),((w0.drop (Int.toNat (IntKind.i64.wrap ((List.length w0:Int) - (1:Int)))))==([47]:Str))⟩:Pth)) (none)) (some (⟨false,(z11++[z10]),false⟩:Pth))) (some (⟨false,(z11++[z10]),false⟩:Pth))))) (
 ae (decide ((List.length w0:Int)≥(1:Int))) (
 ae (decide (0≤(1:Int)∧(1:Int)≤(w0.length:Int))) (
 ae (decide ((List.length z11:Int)>(0:Int))) (
 ae (decide ((List.length w0:Int)≥(1:Int))) (
 ae (decide (0≤(IntKind.i64.wrap ((List.length w0:Int) - (1:Int)))∧(IntKind.i64.wrap ((List.length w0:Int) - (1:Int)))≤(w0.length:Int))) (some (⟨((w0.take (Int.toNat (1:Int)))==([47]:Str)),z11,((w0.drop (Int.toNat (IntKind.i64.wrap ((List.length w0:Int) - (1:Int)))))==([47]:Str))⟩:Pth)) (none)) (some (⟨((w0.take (Int.toNat (1:Int)))==([47]:Str)),z11,false⟩:Pth))) (some (⟨((w0.take (Int.toNat (1:Int)))==([47]:Str)),z11,false⟩:Pth))) (none)) (
 ae (decide ((List.length z11:Int)>(0:Int))) (
 ae (decide ((List.length w0:Int)≥(1:Int))) (
 ae (decide (0≤(IntKind.i64.wrap ((List.length w0:Int) - (1:Int)))∧(IntKind.i64.wrap ((List.length w0:Int) - (1:Int)))≤(w0.length:Int))) (some (⟨false,z11,((w0.drop (Int.toNat (IntKind.i64.wrap ((List.length w0:Int) - (1:Int)))))==([47]:Str))⟩:Pth)) (none)) (some (⟨false,z11,false⟩:Pth))) (some (⟨false,z11,false⟩:Pth))))) bo w0 ([] :List Str)
end Go.Eng
set_option linter.unusedVariables false
set_option maxRecDepth 100000
namespace Go.Eng
open Go
noncomputable def dM {R:Type} (x1:List Entry) (x2:Str) (k0:Int→Option R):Nat→Int→Int→Option R
 |0,_,_=>none
 |n+1,x4,x5=>
  ae (decide (x4<x5)) (
  ae (decide ((1:Int)<0)) (none) (
  ae (decide (0≤(IntKind.i64.wrap (Int.fdiv (IntKind.u64.wrap (IntKind.i64.wrap (x4+x5))) (2^(min (Int.toNat (1:Int)) (IntKind.bits .u64))))))) (ai x1[Int.toNat (IntKind.i64.wrap (Int.fdiv (IntKind.u64.wrap (IntKind.i64.wrap (x4+x5))) (2^(min (Int.toNat (1:Int)) (IntKind.bits .u64)))))]? fun e6=>ai (strings_Compare e6.name x2) fun y7=>
  ae (decide (y7<(0:Int))) ((dM x1 x2 k0 n (IntKind.i64.wrap ((IntKind.i64.wrap (Int.fdiv (IntKind.u64.wrap (IntKind.i64.wrap (x4+x5))) (2^(min (Int.toNat (1:Int)) (IntKind.bits .u64)))))+(1:Int))) x5)) ((dM x1 x2 k0 n x4 (IntKind.i64.wrap (Int.fdiv (IntKind.u64.wrap (IntKind.i64.wrap (x4+x5))) (2^(min (Int.toNat (1:Int)) (IntKind.bits .u64)))))))) (none))) ((k0 x4))
noncomputable def lK (w0:(List Entry)) (w1:Str):Option (Int×Bool):=
 dM w0 w1 (fun z12=>
 ae (decide (z12<(List.length w0:Int))) (
 ae (decide (0≤z12)) (ai w0[Int.toNat z12]? fun e13=>ai (strings_Compare e13.name w1) fun y14=>some (z12,(y14==(0:Int)))) (none)) (some (z12,false))) bo (0:Int) (List.length w0:Int)
noncomputable def iy (w0:(List Entry)) (w1:Str):Option (Int×Bool):=
 ai (lK w0 w1) fun y1=>
 ae (!y1.2) (some ((0:Int),false)) (
 ae (decide (0≤y1.1)) (ai w0[Int.toNat y1.1]? fun e2=>some (e2.ino,true)) (none))
noncomputable def eG (w0:(List Entry)) (w1:Str):Option ((List Entry)):=
 ai (lK w0 w1) fun y1=>
 ae (!y1.2) (BM w0 (some ([] :List Entry)) (aQ (([] :List Entry).length+w0.length) (some (([] :List Entry)++w0)))) (
 ae (decide (0≤(IntKind.i64.wrap ((List.length w0:Int) - (1:Int)))∧(IntKind.i64.wrap ((List.length w0:Int) - (1:Int)))=(IntKind.i64.wrap ((List.length w0:Int) - (1:Int))))) (aQ (Int.toNat (IntKind.i64.wrap ((List.length w0:Int) - (1:Int)))) (
 ae (decide (0≤y1.1∧y1.1≤(w0.length:Int))) (
 ae (decide (0≤((min (w0.take (Int.toNat y1.1)).length (List.replicate (Int.toNat (IntKind.i64.wrap ((List.length w0:Int) - (1:Int)))) (⟨[],0⟩:Entry)).length:Nat):Int)∧((min (w0.take (Int.toNat y1.1)).length (List.replicate (Int.toNat (IntKind.i64.wrap ((List.length w0:Int) - (1:Int)))) (⟨[],0⟩:Entry)).length:Nat):Int)≤(((w0.take (Int.toNat y1.1)).take (List.replicate (Int.toNat (IntKind.i64.wrap ((List.length w0:Int) - (1:Int)))) (⟨[],0⟩:Entry)).length++(List.replicate (Int.toNat (IntKind.i64.wrap ((List.length w0:Int) - (1:Int)))) (⟨[],0⟩:Entry)).drop (w0.take (Int.toNat y1.1)).length).length:Int))) (
 ae (decide (0≤(IntKind.i64.wrap (y1.1+(1:Int)))∧(IntKind.i64.wrap (y1.1+(1:Int)))≤(w0.length:Int))) (
 ae (Nat.ble ((Int.toNat ((min (w0.take (Int.toNat y1.1)).length (List.replicate (Int.toNat (IntKind.i64.wrap ((List.length w0:Int) - (1:Int)))) (⟨[],0⟩:Entry)).length:Nat):Int))+(((w0.take (Int.toNat y1.1)).take (List.replicate (Int.toNat (IntKind.i64.wrap ((List.length w0:Int) - (1:Int)))) (⟨[],0⟩:Entry)).length++(List.replicate (Int.toNat (IntKind.i64.wrap ((List.length w0:Int) - (1:Int)))) (⟨[],0⟩:Entry)).drop (w0.take (Int.toNat y1.1)).length).length - (Int.toNat ((min (w0.take (Int.toNat y1.1)).length (List.replicate (Int.toNat (IntKind.i64.wrap ((List.length w0:Int) - (1:Int)))) (⟨[],0⟩:Entry)).length:Nat):Int)))) ((w0.take (Int.toNat y1.1)).take (List.replicate (Int.toNat (IntKind.i64.wrap ((List.length w0:Int) - (1:Int)))) (⟨[],0⟩:Entry)).length++(List.replicate (Int.toNat (IntKind.i64.wrap ((List.length w0:Int) - (1:Int)))) (⟨[],0⟩:Entry)).drop (w0.take (Int.toNat y1.1)).length).length) (some (((w0.take (Int.toNat y1.1)).take (List.replicate (Int.toNat (IntKind.i64.wrap ((List.length w0:Int) - (1:Int)))) (⟨[],0⟩:Entry)).length++(List.replicate (Int.toNat (IntKind.i64.wrap ((List.length w0:Int) - (1:Int)))) (⟨[],0⟩:Entry)).drop (w0.take (Int.toNat y1.1)).length).take (Int.toNat ((min (w0.take (Int.toNat y1.1)).length (List.replicate (Int.toNat (IntKind.i64.wrap ((List.length w0:Int) - (1:Int)))) (⟨[],0⟩:Entry)).length:Nat):Int))++((w0.drop (Int.toNat (IntKind.i64.wrap (y1.1+(1:Int))))).take (((w0.take (Int.toNat y1.1)).take (List.replicate (Int.toNat (IntKind.i64.wrap ((List.length w0:Int) - (1:Int)))) (⟨[],0⟩:Entry)).length++(List.replicate (Int.toNat (IntKind.i64.wrap ((List.length w0:Int) - (1:Int)))) (⟨[],0⟩:Entry)).drop (w0.take (Int.toNat y1.1)).length).length - (Int.toNat ((min (w0.take (Int.toNat y1.1)).length (List.replicate (Int.toNat (IntKind.i64.wrap ((List.length w0:Int) - (1:Int)))) (⟨[],0⟩:Entry)).length:Nat):Int)))++(((w0.take (Int.toNat y1.1)).take (List.replicate (Int.toNat (IntKind.i64.wrap ((List.length w0:Int) - (1:Int)))) (⟨[],0⟩:Entry)).length++(List.replicate (Int.toNat (IntKind.i64.wrap ((List.length w0:Int) - (1:Int)))) (⟨[],0⟩:Entry)).drop (w0.take (Int.toNat y1.1)).length).drop (Int.toNat ((min (w0.take (Int.toNat y1.1)).length (List.replicate (Int.toNat (IntKind.i64.wrap ((List.length w0:Int) - (1:Int)))) (⟨[],0⟩:Entry)).length:Nat):Int))).drop (min (w0.drop (Int.toNat (IntKind.i64.wrap (y1.1+(1:Int))))).length (((w0.take (Int.toNat y1.1)).take (List.replicate (Int.toNat (IntKind.i64.wrap ((List.length w0:Int) - (1:Int)))) (⟨[],0⟩:Entry)).length++(List.replicate (Int.toNat (IntKind.i64.wrap ((List.length w0:Int) - (1:Int)))) (⟨[],0⟩:Entry)).drop (w0.take (Int.toNat y1.1)).length).length - (Int.toNat ((min (w0.take (Int.toNat y1.1)).length (List.replicate (Int.toNat (IntKind.i64.wrap ((List.length w0:Int) - (1:Int)))) (⟨[],0⟩:Entry)).length:Nat):Int))))))) (none)) (none)) (none)) (none))) (none))
noncomputable def dE (w0:(List Entry)) (w1:Str) (w2:Int):Option ((List Entry)):=
 ai (lK w0 w1) fun y1=>BM w0 (
 ae y1.2 (
 ae (decide (0≤y1.1)) (ai ([] :List Entry)[Int.toNat y1.1]? fun e2=>none) (none)) (
 ae (decide (0≤y1.1∧y1.1≤(([] :List Entry).length:Int))) (
 ae ((List.length [(⟨w1,w2⟩:Entry)]:Int)==(0:Int)) (some ([] :List Entry)) (
 ae (y1.1==(List.length ([] :List Entry):Int)) (aQ (([] :List Entry).length+[(⟨w1,w2⟩:Entry)].length) (some [(⟨w1,w2⟩:Entry)])) (none))) (none))) (aQ (([] :List Entry).length+w0.length) (
 ae y1.2 (
 ae (decide (0≤y1.1∧y1.1<((([] :List Entry)++w0).length:Int))) (ai (([] :List Entry)++w0)[(Int.toNat y1.1)]? fun e3=>some ((([] :List Entry)++w0).set (Int.toNat y1.1) (⟨e3.name,w2⟩:Entry))) (none)) (
 ae (decide (0≤y1.1∧y1.1≤((([] :List Entry)++w0).length:Int))) (
 ae ((List.length [(⟨w1,w2⟩:Entry)]:Int)==(0:Int)) (some (([] :List Entry)++w0)) (
 ae (y1.1==(List.length (([] :List Entry)++w0):Int)) (aQ ((([] :List Entry)++w0).length+[(⟨w1,w2⟩:Entry)].length) (some ((([] :List Entry)++w0)++[(⟨w1,w2⟩:Entry)]))) (Ag (([] :List Entry)++w0).length fun cp4=>
 ae (decide ((IntKind.i64.wrap ((List.length (([] :List Entry)++w0):Int)+(List.length [(⟨w1,w2⟩:Entry)]:Int)))>(cp4:Int))) (
 ae (decide (0≤y1.1∧y1.1≤(cp4:Int))) (
 ae (decide (0≤(IntKind.i64.wrap ((IntKind.i64.wrap ((List.length (([] :List Entry)++w0):Int)+(List.length [(⟨w1,w2⟩:Entry)]:Int))) - y1.1)))) (aQ ((Int.toNat y1.1)+Int.toNat (IntKind.i64.wrap ((IntKind.i64.wrap ((List.length (([] :List Entry)++w0):Int)+(List.length [(⟨w1,w2⟩:Entry)]:Int))) - y1.1))) (
 ae (Nat.ble (0+(Int.toNat y1.1)) (([] :List Entry)++w0).length) (
 ae (Nat.blt (cp4 - 0) ((Int.toNat y1.1)+Int.toNat (IntKind.i64.wrap ((IntKind.i64.wrap ((List.length (([] :List Entry)++w0):Int)+(List.length [(⟨w1,w2⟩:Entry)]:Int))) - y1.1)))) (
 ae (decide (0≤y1.1∧y1.1≤((((([] :List Entry)++w0).drop 0).take (Int.toNat y1.1)++List.replicate (Int.toNat (IntKind.i64.wrap ((IntKind.i64.wrap ((List.length (([] :List Entry)++w0):Int)+(List.length [(⟨w1,w2⟩:Entry)]:Int))) - y1.1))) (⟨[],0⟩:Entry)).length:Int))) (
 ae (Nat.ble ((Int.toNat y1.1)+((((([] :List Entry)++w0).drop 0).take (Int.toNat y1.1)++List.replicate (Int.toNat (IntKind.i64.wrap ((IntKind.i64.wrap ((List.length (([] :List Entry)++w0):Int)+(List.length [(⟨w1,w2⟩:Entry)]:Int))) - y1.1))) (⟨[],0⟩:Entry)).length - (Int.toNat y1.1))) (((([] :List Entry)++w0).drop 0).take (Int.toNat y1.1)++List.replicate (Int.toNat (IntKind.i64.wrap ((IntKind.i64.wrap ((List.length (([] :List Entry)++w0):Int)+(List.length [(⟨w1,w2⟩:Entry)]:Int))) - y1.1))) (⟨[],0⟩:Entry)).length) (
 ae (decide (0≤(IntKind.i64.wrap (y1.1+(List.length [(⟨w1,w2⟩:Entry)]:Int)))∧(IntKind.i64.wrap (y1.1+(List.length [(⟨w1,w2⟩:Entry)]:Int)))≤(((((([] :List Entry)++w0).drop 0).take (Int.toNat y1.1)++List.replicate (Int.toNat (IntKind.i64.wrap ((IntKind.i64.wrap ((List.length (([] :List Entry)++w0):Int)+(List.length [(⟨w1,w2⟩:Entry)]:Int))) - y1.1))) (⟨[],0⟩:Entry)).take (Int.toNat y1.1)++([(⟨w1,w2⟩:Entry)].take ((((([] :List Entry)++w0).drop 0).take (Int.toNat y1.1)++List.replicate (Int.toNat (IntKind.i64.wrap ((IntKind.i64.wrap ((List.length (([] :List Entry)++w0):Int)+(List.length [(⟨w1,w2⟩:Entry)]:Int))) - y1.1))) (⟨[],0⟩:Entry)).length - (Int.toNat y1.1))++((((([] :List Entry)++w0).drop 0).take (Int.toNat y1.1)++List.replicate (Int.toNat (IntKind.i64.wrap ((IntKind.i64.wrap ((List.length (([] :List Entry)++w0):Int)+(List.length [(⟨w1,w2⟩:Entry)]:Int))) - y1.1))) (⟨[],0⟩:Entry)).drop (Int.toNat y1.1)).drop (min [(⟨w1,w2⟩:Entry)].length ((((([] :List Entry)++w0).drop 0).take (Int.toNat y1.1)++List.replicate (Int.toNat (IntKind.i64.wrap ((IntKind.i64.wrap ((List.length (([] :List Entry)++w0):Int)+(List.length [(⟨w1,w2⟩:Entry)]:Int))) - y1.1))) (⟨[],0⟩:Entry)).length - (Int.toNat y1.1))))).length:Int))) (
 ae (decide (0≤y1.1∧y1.1≤((([] :List Entry)++w0).length:Int))) (
 ae (Nat.ble ((Int.toNat y1.1)+(min ((([] :List Entry)++w0).length - (Int.toNat y1.1)) (((((([] :List Entry)++w0).drop 0).take (Int.toNat y1.1)++List.replicate (Int.toNat (IntKind.i64.wrap ((IntKind.i64.wrap ((List.length (([] :List Entry)++w0):Int)+(List.length [(⟨w1,w2⟩:Entry)]:Int))) - y1.1))) (⟨[],0⟩:Entry)).take (Int.toNat y1.1)++([(⟨w1,w2⟩:Entry)].take ((((([] :List Entry)++w0).drop 0).take (Int.toNat y1.1)++List.replicate (Int.toNat (IntKind.i64.wrap ((IntKind.i64.wrap ((List.length (([] :List Entry)++w0):Int)+(List.length [(⟨w1,w2⟩:Entry)]:Int))) - y1.1))) (⟨[],0⟩:Entry)).length - (Int.toNat y1.1))++((((([] :List Entry)++w0).drop 0).take (Int.toNat y1.1)++List.replicate (Int.toNat (IntKind.i64.wrap ((IntKind.i64.wrap ((List.length (([] :List Entry)++w0):Int)+(List.length [(⟨w1,w2⟩:Entry)]:Int))) - y1.1))) (⟨[],0⟩:Entry)).drop (Int.toNat y1.1)).drop (min [(⟨w1,w2⟩:Entry)].length ((((([] :List Entry)++w0).drop 0).take (Int.toNat y1.1)++List.replicate (Int.toNat (IntKind.i64.wrap ((IntKind.i64.wrap ((List.length (([] :List Entry)++w0):Int)+(List.length [(⟨w1,w2⟩:Entry)]:Int))) - y1.1))) (⟨[],0⟩:Entry)).length - (Int.toNat y1.1))))).length - (Int.toNat (IntKind.i64.wrap (y1.1+(List.length [(⟨w1,w2⟩:Entry)]:Int))))))) (([] :List Entry)++w0).length) (
 ae (Nat.ble (Int.toNat (IntKind.i64.wrap (y1.1+(List.length [(⟨w1,w2⟩:Entry)]:Int)))) ((((([] :List Entry)++w0).drop 0).take (Int.toNat y1.1)++List.replicate (Int.toNat (IntKind.i64.wrap ((IntKind.i64.wrap ((List.length (([] :List Entry)++w0):Int)+(List.length [(⟨w1,w2⟩:Entry)]:Int))) - y1.1))) (⟨[],0⟩:Entry)).take (Int.toNat y1.1)++([(⟨w1,w2⟩:Entry)].take ((((([] :List Entry)++w0).drop 0).take (Int.toNat y1.1)++List.replicate (Int.toNat (IntKind.i64.wrap ((IntKind.i64.wrap ((List.length (([] :List Entry)++w0):Int)+(List.length [(⟨w1,w2⟩:Entry)]:Int))) - y1.1))) (⟨[],0⟩:Entry)).length - (Int.toNat y1.1))++((((([] :List Entry)++w0).drop 0).take (Int.toNat y1.1)++List.replicate (Int.toNat (IntKind.i64.wrap ((IntKind.i64.wrap ((List.length (([] :List Entry)++w0):Int)+(List.length [(⟨w1,w2⟩:Entry)]:Int))) - y1.1))) (⟨[],0⟩:Entry)).drop (Int.toNat y1.1)).drop (min [(⟨w1,w2⟩:Entry)].length ((((([] :List Entry)++w0).drop 0).take (Int.toNat y1.1)++List.replicate (Int.toNat (IntKind.i64.wrap ((IntKind.i64.wrap ((List.length (([] :List Entry)++w0):Int)+(List.length [(⟨w1,w2⟩:Entry)]:Int))) - y1.1))) (⟨[],0⟩:Entry)).length - (Int.toNat y1.1))))).length) (
 ae (Nat.ble ((Int.toNat (IntKind.i64.wrap (y1.1+(List.length [(⟨w1,w2⟩:Entry)]:Int))))+(min ((([] :List Entry)++w0).length - (Int.toNat y1.1)) (((((([] :List Entry)++w0).drop 0).take (Int.toNat y1.1)++List.replicate (Int.toNat (IntKind.i64.wrap ((IntKind.i64.wrap ((List.length (([] :List Entry)++w0):Int)+(List.length [(⟨w1,w2⟩:Entry)]:Int))) - y1.1))) (⟨[],0⟩:Entry)).take (Int.toNat y1.1)++([(⟨w1,w2⟩:Entry)].take ((((([] :List Entry)++w0).drop 0).take (Int.toNat y1.1)++List.replicate (Int.toNat (IntKind.i64.wrap ((IntKind.i64.wrap ((List.length (([] :List Entry)++w0):Int)+(List.length [(⟨w1,w2⟩:Entry)]:Int))) - y1.1))) (⟨[],0⟩:Entry)).length - (Int.toNat y1.1))++((((([] :List Entry)++w0).drop 0).take (Int.toNat y1.1)++List.replicate (Int.toNat (IntKind.i64.wrap ((IntKind.i64.wrap ((List.length (([] :List Entry)++w0):Int)+(List.length [(⟨w1,w2⟩:Entry)]:Int))) - y1.1))) (⟨[],0⟩:Entry)).drop (Int.toNat y1.1)).drop (min [(⟨w1,w2⟩:Entry)].length ((((([] :List Entry)++w0).drop 0).take (Int.toNat y1.1)++List.replicate (Int.toNat (IntKind.i64.wrap ((IntKind.i64.wrap ((List.length (([] :List Entry)++w0):Int)+(List.length [(⟨w1,w2⟩:Entry)]:Int))) - y1.1))) (⟨[],0⟩:Entry)).length - (Int.toNat y1.1))))).length - (Int.toNat (IntKind.i64.wrap (y1.1+(List.length [(⟨w1,w2⟩:Entry)]:Int))))))) ((((([] :List Entry)++w0).drop 0).take (Int.toNat y1.1)++List.replicate (Int.toNat (IntKind.i64.wrap ((IntKind.i64.wrap ((List.length (([] :List Entry)++w0):Int)+(List.length [(⟨w1,w2⟩:Entry)]:Int))) - y1.1))) (⟨[],0⟩:Entry)).take (Int.toNat y1.1)++([(⟨w1,w2⟩:Entry)].take ((((([] :List Entry)++w0).drop 0).take (Int.toNat y1.1)++List.replicate (Int.toNat (IntKind.i64.wrap ((IntKind.i64.wrap ((List.length (([] :List Entry)++w0):Int)+(List.length [(⟨w1,w2⟩:Entry)]:Int))) - y1.1))) (⟨[],0⟩:Entry)).length - (Int.toNat y1.1))++((((([] :List Entry)++w0).drop 0).take (Int.toNat y1.1)++List.replicate (Int.toNat (IntKind.i64.wrap ((IntKind.i64.wrap ((List.length (([] :List Entry)++w0):Int)+(List.length [(⟨w1,w2⟩:Entry)]:Int))) - y1.1))) (⟨[],0⟩:Entry)).drop (Int.toNat y1.1)).drop (min [(⟨w1,w2⟩:Entry)].length ((((([] :List Entry)++w0).drop 0).take (Int.toNat y1.1)++List.replicate (Int.toNat (IntKind.i64.wrap ((IntKind.i64.wrap ((List.length (([] :List Entry)++w0):Int)+(List.length [(⟨w1,w2⟩:Entry)]:Int))) - y1.1))) (⟨[],0⟩:Entry)).length - (Int.toNat y1.1))))).length) (some (((((([] :List Entry)++w0).drop 0).take (Int.toNat y1.1)++List.replicate (Int.toNat (IntKind.i64.wrap ((IntKind.i64.wrap ((List.length (([] :List Entry)++w0):Int)+(List.length [(⟨w1,w2⟩:Entry)]:Int))) - y1.1))) (⟨[],0⟩:Entry)).take (Int.toNat y1.1)++([(⟨w1,w2⟩:Entry)].take ((((([] :List Entry)++w0).drop 0).take (Int.toNat y1.1)++List.replicate (Int.toNat (IntKind.i64.wrap ((IntKind.i64.wrap ((List.length (([] :List Entry)++w0):Int)+(List.length [(⟨w1,w2⟩:Entry)]:Int))) - y1.1))) (⟨[],0⟩:Entry)).length - (Int.toNat y1.1))++((((([] :List Entry)++w0).drop 0).take (Int.toNat y1.1)++List.replicate (Int.toNat (IntKind.i64.wrap ((IntKind.i64.wrap ((List.length (([] :List Entry)++w0):Int)+(List.length [(⟨w1,w2⟩:Entry)]:Int))) - y1.1))) (⟨[],0⟩:Entry)).drop (Int.toNat y1.1)).drop (min [(⟨w1,w2⟩:Entry)].length ((((([] :List Entry)++w0).drop 0).take (Int.toNat y1.1)++List.replicate (Int.toNat (IntKind.i64.wrap ((IntKind.i64.wrap ((List.length (([] :List Entry)++w0):Int)+(List.length [(⟨w1,w2⟩:Entry)]:Int))) - y1.1))) (⟨[],0⟩:Entry)).length - (Int.toNat y1.1))))).take (Int.toNat (IntKind.i64.wrap (y1.1+(List.length [(⟨w1,w2⟩:Entry)]:Int))))++((((([] :List Entry)++w0).drop (Int.toNat y1.1)).take (min ((([] :List Entry)++w0).length - (Int.toNat y1.1)) (((((([] :List Entry)++w0).drop 0).take (Int.toNat y1.1)++List.replicate (Int.toNat (IntKind.i64.wrap ((IntKind.i64.wrap ((List.length (([] :List Entry)++w0):Int)+(List.length [(⟨w1,w2⟩:Entry)]:Int))) - y1.1))) (⟨[],0⟩:Entry)).take (Int.toNat y1.1)++([(⟨w1,w2⟩:Entry)].take ((((([] :List Entry)++w0).drop 0).take (Int.toNat y1.1)++List.replicate (Int.toNat (IntKind.i64.wrap ((IntKind.i64.wrap ((List.length (([] :List Entry)++w0):Int)+(List.length [(⟨w1,w2⟩:Entry)]:Int))) - y1.1))) (⟨[],0⟩:Entry)).length - (Int.toNat y1.1))++((((([] :List Entry)++w0).drop 0).take (Int.toNat y1.1)++List.replicate (Int.toNat (IntKind.i64.wrap ((IntKind.i64.wrap ((List.length (([] :List Entry)++w0):Int)+(List.length [(⟨w1,w2⟩:Entry)]:Int))) - y1.1))) (⟨[],0⟩:Entry)).drop (Int.toNat y1.1)).drop (min [(⟨w1,w2⟩:Entry)].length ((((([] :List Entry)++w0).drop 0).take (Int.toNat y1.1)++List.replicate (Int.toNat (IntKind.i64.wrap ((IntKind.i64.wrap ((List.length (([] :List Entry)++w0):Int)+(List.length [(⟨w1,w2⟩:Entry)]:Int))) - y1.1))) (⟨[],0⟩:Entry)).length - (Int.toNat y1.1))))).length - (Int.toNat (IntKind.i64.wrap (y1.1+(List.length [(⟨w1,w2⟩:Entry)]:Int)))))))++((((([] :List Entry)++w0).drop 0).take (Int.toNat y1.1)++List.replicate (Int.toNat (IntKind.i64.wrap ((IntKind.i64.wrap ((List.length (([] :List Entry)++w0):Int)+(List.length [(⟨w1,w2⟩:Entry)]:Int))) - y1.1))) (⟨[],0⟩:Entry)).take (Int.toNat y1.1)++([(⟨w1,w2⟩:Entry)].take ((((([] :List Entry)++w0).drop 0).take (Int.toNat y1.1)++List.replicate (Int.toNat (IntKind.i64.wrap ((IntKind.i64.wrap ((List.length (([] :List Entry)++w0):Int)+(List.length [(⟨w1,w2⟩:Entry)]:Int))) - y1.1))) (⟨[],0⟩:Entry)).length - (Int.toNat y1.1))++((((([] :List Entry)++w0).drop 0).take (Int.toNat y1.1)++List.replicate (Int.toNat (IntKind.i64.wrap ((IntKind.i64.wrap ((List.length (([] :List Entry)++w0):Int)+(List.length [(⟨w1,w2⟩:Entry)]:Int))) - y1.1))) (⟨[],0⟩:Entry)).drop (Int.toNat y1.1)).drop (min [(⟨w1,w2⟩:Entry)].length ((((([] :List Entry)++w0).drop 0).take (Int.toNat y1.1)++List.replicate (Int.toNat (IntKind.i64.wrap ((IntKind.i64.wrap ((List.length (([] :List Entry)++w0):Int)+(List.length [(⟨w1,w2⟩:Entry)]:Int))) - y1.1))) (⟨[],0⟩:Entry)).length - (Int.toNat y1.1))))).drop ((Int.toNat (IntKind.i64.wrap (y1.1+(List.length [(⟨w1,w2⟩:Entry)]:Int))))+(min ((([] :List Entry)++w0).length - (Int.toNat y1.1)) (((((([] :List Entry)++w0).drop 0).take (Int.toNat y1.1)++List.replicate (Int.toNat (IntKind.i64.wrap ((IntKind.i64.wrap ((List.length (([] :List Entry)++w0):Int)+(List.length [(⟨w1,w2⟩:Entry)]:Int))) - y1.1))) (⟨[],0⟩:Entry)).take (Int.toNat y1.1)++([(⟨w1,w2⟩:Entry)].take ((((([] :List Entry)++w0).drop 0).take (Int.toNat y1.1)++List.replicate (Int.toNat (IntKind.i64.wrap ((IntKind.i64.wrap ((List.length (([] :List Entry)++w0):Int)+(List.length [(⟨w1,w2⟩:Entry)]:Int))) - y1.1))) (⟨[],0⟩:Entry)).length - (Int.toNat y1.1))++((((([] :List Entry)++w0).drop 0).take (Int.toNat y1.1)++List.replicate (Int.toNat (IntKind.i64.wrap ((IntKind.i64.wrap ((List.length (([] :List Entry)++w0):Int)+(List.length [(⟨w1,w2⟩:Entry)]:Int))) - y1.1))) (⟨[],0⟩:Entry)).drop (Int.toNat y1.1)).drop (min [(⟨w1,w2⟩:Entry)].length ((((([] :List Entry)++w0).drop 0).take (Int.toNat y1.1)++List.replicate (Int.toNat (IntKind.i64.wrap ((IntKind.i64.wrap ((List.length (([] :List Entry)++w0):Int)+(List.length [(⟨w1,w2⟩:Entry)]:Int))) - y1.1))) (⟨[],0⟩:Entry)).length - (Int.toNat y1.1))))).length - (Int.toNat (IntKind.i64.wrap (y1.1+(List.length [(⟨w1,w2⟩:Entry)]:Int)))))))))) (none)) (none)) (none)) (none)) (none)) (none)) (none)) (none)) (none))) (none)) (none)) (
 ae (decide (0≤(IntKind.i64.wrap ((List.length (([] :List Entry)++w0):Int)+(List.length [(⟨w1,w2⟩:Entry)]:Int)))∧(IntKind.i64.wrap ((List.length (([] :List Entry)++w0):Int)+(List.length [(⟨w1,w2⟩:Entry)]:Int)))≤(cp4:Int))) (
 ae (decide (0≤(IntKind.i64.wrap (y1.1+(List.length [(⟨w1,w2⟩:Entry)]:Int)))∧(IntKind.i64.wrap (y1.1+(List.length [(⟨w1,w2⟩:Entry)]:Int)))≤((Int.toNat (IntKind.i64.wrap ((List.length (([] :List Entry)++w0):Int)+(List.length [(⟨w1,w2⟩:Entry)]:Int)))):Int))) (
 ae (Nat.blt 0 [(⟨w1,w2⟩:Entry)].length) (
 ae (Nat.blt 0 (([] :List Entry)++w0).length) (
 ae (decide (0≤(IntKind.i64.wrap (y1.1+(List.length [(⟨w1,w2⟩:Entry)]:Int)))∧(IntKind.i64.wrap (y1.1+(List.length [(⟨w1,w2⟩:Entry)]:Int)))≤((Int.toNat (IntKind.i64.wrap ((List.length (([] :List Entry)++w0):Int)+(List.length [(⟨w1,w2⟩:Entry)]:Int)))):Int))) (
 ae (decide (0≤y1.1∧y1.1≤((Int.toNat (IntKind.i64.wrap ((List.length (([] :List Entry)++w0):Int)+(List.length [(⟨w1,w2⟩:Entry)]:Int)))):Int))) (
 ae (Nat.ble ((0+(Int.toNat y1.1))+(min ((Int.toNat (IntKind.i64.wrap ((List.length (([] :List Entry)++w0):Int)+(List.length [(⟨w1,w2⟩:Entry)]:Int)))) - (Int.toNat y1.1)) ((Int.toNat (IntKind.i64.wrap ((List.length (([] :List Entry)++w0):Int)+(List.length [(⟨w1,w2⟩:Entry)]:Int)))) - (Int.toNat (IntKind.i64.wrap (y1.1+(List.length [(⟨w1,w2⟩:Entry)]:Int))))))) (([] :List Entry)++w0).length) (
 ae (Nat.ble (0+(Int.toNat (IntKind.i64.wrap (y1.1+(List.length [(⟨w1,w2⟩:Entry)]:Int))))) (([] :List Entry)++w0).length) (
 ae (Nat.ble ((0+(Int.toNat (IntKind.i64.wrap (y1.1+(List.length [(⟨w1,w2⟩:Entry)]:Int)))))+(min ((Int.toNat (IntKind.i64.wrap ((List.length (([] :List Entry)++w0):Int)+(List.length [(⟨w1,w2⟩:Entry)]:Int)))) - (Int.toNat y1.1)) ((Int.toNat (IntKind.i64.wrap ((List.length (([] :List Entry)++w0):Int)+(List.length [(⟨w1,w2⟩:Entry)]:Int)))) - (Int.toNat (IntKind.i64.wrap (y1.1+(List.length [(⟨w1,w2⟩:Entry)]:Int))))))) (([] :List Entry)++w0).length) (
 ae (decide (0≤y1.1∧y1.1≤((Int.toNat (IntKind.i64.wrap ((List.length (([] :List Entry)++w0):Int)+(List.length [(⟨w1,w2⟩:Entry)]:Int)))):Int))) (
 ae (Nat.ble ((0+(Int.toNat y1.1))+((Int.toNat (IntKind.i64.wrap ((List.length (([] :List Entry)++w0):Int)+(List.length [(⟨w1,w2⟩:Entry)]:Int)))) - (Int.toNat y1.1))) ((([] :List Entry)++w0).take (0+(Int.toNat (IntKind.i64.wrap (y1.1+(List.length [(⟨w1,w2⟩:Entry)]:Int)))))++((((([] :List Entry)++w0).drop (0+(Int.toNat y1.1))).take (min ((Int.toNat (IntKind.i64.wrap ((List.length (([] :List Entry)++w0):Int)+(List.length [(⟨w1,w2⟩:Entry)]:Int)))) - (Int.toNat y1.1)) ((Int.toNat (IntKind.i64.wrap ((List.length (([] :List Entry)++w0):Int)+(List.length [(⟨w1,w2⟩:Entry)]:Int)))) - (Int.toNat (IntKind.i64.wrap (y1.1+(List.length [(⟨w1,w2⟩:Entry)]:Int)))))))++(([] :List Entry)++w0).drop ((0+(Int.toNat (IntKind.i64.wrap (y1.1+(List.length [(⟨w1,w2⟩:Entry)]:Int)))))+(min ((Int.toNat (IntKind.i64.wrap ((List.length (([] :List Entry)++w0):Int)+(List.length [(⟨w1,w2⟩:Entry)]:Int)))) - (Int.toNat y1.1)) ((Int.toNat (IntKind.i64.wrap ((List.length (([] :List Entry)++w0):Int)+(List.length [(⟨w1,w2⟩:Entry)]:Int)))) - (Int.toNat (IntKind.i64.wrap (y1.1+(List.length [(⟨w1,w2⟩:Entry)]:Int))))))))).length) (
 ae (Nat.ble (0+(Int.toNat (IntKind.i64.wrap ((List.length (([] :List Entry)++w0):Int)+(List.length [(⟨w1,w2⟩:Entry)]:Int))))) (((([] :List Entry)++w0).take (0+(Int.toNat (IntKind.i64.wrap (y1.1+(List.length [(⟨w1,w2⟩:Entry)]:Int)))))++((((([] :List Entry)++w0).drop (0+(Int.toNat y1.1))).take (min ((Int.toNat (IntKind.i64.wrap ((List.length (([] :List Entry)++w0):Int)+(List.length [(⟨w1,w2⟩:Entry)]:Int)))) - (Int.toNat y1.1)) ((Int.toNat (IntKind.i64.wrap ((List.length (([] :List Entry)++w0):Int)+(List.length [(⟨w1,w2⟩:Entry)]:Int)))) - (Int.toNat (IntKind.i64.wrap (y1.1+(List.length [(⟨w1,w2⟩:Entry)]:Int)))))))++(([] :List Entry)++w0).drop ((0+(Int.toNat (IntKind.i64.wrap (y1.1+(List.length [(⟨w1,w2⟩:Entry)]:Int)))))+(min ((Int.toNat (IntKind.i64.wrap ((List.length (([] :List Entry)++w0):Int)+(List.length [(⟨w1,w2⟩:Entry)]:Int)))) - (Int.toNat y1.1)) ((Int.toNat (IntKind.i64.wrap ((List.length (([] :List Entry)++w0):Int)+(List.length [(⟨w1,w2⟩:Entry)]:Int)))) - (Int.toNat (IntKind.i64.wrap (y1.1+(List.length [(⟨w1,w2⟩:Entry)]:Int))))))))).take (0+(Int.toNat y1.1))++([(⟨w1,w2⟩:Entry)].take ((Int.toNat (IntKind.i64.wrap ((List.length (([] :List Entry)++w0):Int)+(List.length [(⟨w1,w2⟩:Entry)]:Int)))) - (Int.toNat y1.1))++(((([] :List Entry)++w0).take (0+(Int.toNat (IntKind.i64.wrap (y1.1+(List.length [(⟨w1,w2⟩:Entry)]:Int)))))++((((([] :List Entry)++w0).drop (0+(Int.toNat y1.1))).take (min ((Int.toNat (IntKind.i64.wrap ((List.length (([] :List Entry)++w0):Int)+(List.length [(⟨w1,w2⟩:Entry)]:Int)))) - (Int.toNat y1.1)) ((Int.toNat (IntKind.i64.wrap ((List.length (([] :List Entry)++w0):Int)+(List.length [(⟨w1,w2⟩:Entry)]:Int)))) - (Int.toNat (IntKind.i64.wrap (y1.1+(List.length [(⟨w1,w2⟩:Entry)]:Int)))))))++(([] :List Entry)++w0).drop ((0+(Int.toNat (IntKind.i64.wrap (y1.1+(List.length [(⟨w1,w2⟩:Entry)]:Int)))))+(min ((Int.toNat (IntKind.i64.wrap ((List.length (([] :List Entry)++w0):Int)+(List.length [(⟨w1,w2⟩:Entry)]:Int)))) - (Int.toNat y1.1)) ((Int.toNat (IntKind.i64.wrap ((List.length (([] :List Entry)++w0):Int)+(List.length [(⟨w1,w2⟩:Entry)]:Int)))) - (Int.toNat (IntKind.i64.wrap (y1.1+(List.length [(⟨w1,w2⟩:Entry)]:Int))))))))).drop (0+(Int.toNat y1.1))).drop (min [(⟨w1,w2⟩:Entry)].length ((Int.toNat (IntKind.i64.wrap ((List.length (([] :List Entry)++w0):Int)+(List.length [(⟨w1,w2⟩:Entry)]:Int)))) - (Int.toNat y1.1))))).length) (some (((((([] :List Entry)++w0).take (0+(Int.toNat (IntKind.i64.wrap (y1.1+(List.length [(⟨w1,w2⟩:Entry)]:Int)))))++((((([] :List Entry)++w0).drop (0+(Int.toNat y1.1))).take (min ((Int.toNat (IntKind.i64.wrap ((List.length (([] :List Entry)++w0):Int)+(List.length [(⟨w1,w2⟩:Entry)]:Int)))) - (Int.toNat y1.1)) ((Int.toNat (IntKind.i64.wrap ((List.length (([] :List Entry)++w0):Int)+(List.length [(⟨w1,w2⟩:Entry)]:Int)))) - (Int.toNat (IntKind.i64.wrap (y1.1+(List.length [(⟨w1,w2⟩:Entry)]:Int)))))))++(([] :List Entry)++w0).drop ((0+(Int.toNat (IntKind.i64.wrap (y1.1+(List.length [(⟨w1,w2⟩:Entry)]:Int)))))+(min ((Int.toNat (IntKind.i64.wrap ((List.length (([] :List Entry)++w0):Int)+(List.length [(⟨w1,w2⟩:Entry)]:Int)))) - (Int.toNat y1.1)) ((Int.toNat (IntKind.i64.wrap ((List.length (([] :List Entry)++w0):Int)+(List.length [(⟨w1,w2⟩:Entry)]:Int)))) - (Int.toNat (IntKind.i64.wrap (y1.1+(List.length [(⟨w1,w2⟩:Entry)]:Int))))))))).take (0+(Int.toNat y1.1))++([(⟨w1,w2⟩:Entry)].take ((Int.toNat (IntKind.i64.wrap ((List.length (([] :List Entry)++w0):Int)+(List.length [(⟨w1,w2⟩:Entry)]:Int)))) - (Int.toNat y1.1))++(((([] :List Entry)++w0).take (0+(Int.toNat (IntKind.i64.wrap (y1.1+(List.length [(⟨w1,w2⟩:Entry)]:Int)))))++((((([] :List Entry)++w0).drop (0+(Int.toNat y1.1))).take (min ((Int.toNat (IntKind.i64.wrap ((List.length (([] :List Entry)++w0):Int)+(List.length [(⟨w1,w2⟩:Entry)]:Int)))) - (Int.toNat y1.1)) ((Int.toNat (IntKind.i64.wrap ((List.length (([] :List Entry)++w0):Int)+(List.length [(⟨w1,w2⟩:Entry)]:Int)))) - (Int.toNat (IntKind.i64.wrap (y1.1+(List.length [(⟨w1,w2⟩:Entry)]:Int)))))))++(([] :List Entry)++w0).drop ((0+(Int.toNat (IntKind.i64.wrap (y1.1+(List.length [(⟨w1,w2⟩:Entry)]:Int)))))+(min ((Int.toNat (IntKind.i64.wrap ((List.length (([] :List Entry)++w0):Int)+(List.length [(⟨w1,w2⟩:Entry)]:Int)))) - (Int.toNat y1.1)) ((Int.toNat (IntKind.i64.wrap ((List.length (([] :List Entry)++w0):Int)+(List.length [(⟨w1,w2⟩:Entry)]:Int)))) - (Int.toNat (IntKind.i64.wrap (y1.1+(List.length [(⟨w1,w2⟩:Entry)]:Int))))))))).drop (0+(Int.toNat y1.1))).drop (min [(⟨w1,w2⟩:Entry)].length ((Int.toNat (IntKind.i64.wrap ((List.length (([] :List Entry)++w0):Int)+(List.length [(⟨w1,w2⟩:Entry)]:Int)))) - (Int.toNat y1.1))))).drop 0).take (Int.toNat (IntKind.i64.wrap ((List.length (([] :List Entry)++w0):Int)+(List.length [(⟨w1,w2⟩:Entry)]:Int)))))) (none)) (none)) (none)) (
 ae (decide (0≤y1.1∧y1.1≤((Int.toNat (IntKind.i64.wrap ((List.length (([] :List Entry)++w0):Int)+(List.length [(⟨w1,w2⟩:Entry)]:Int)))):Int))) (
 ae (Nat.ble ((0+(Int.toNat y1.1))+((Int.toNat (IntKind.i64.wrap ((List.length (([] :List Entry)++w0):Int)+(List.length [(⟨w1,w2⟩:Entry)]:Int)))) - (Int.toNat y1.1))) ((([] :List Entry)++w0).take (0+(Int.toNat (IntKind.i64.wrap (y1.1+(List.length [(⟨w1,w2⟩:Entry)]:Int)))))++(((([] :List Entry)++w0).drop (0+(Int.toNat y1.1))).take (min ((Int.toNat (IntKind.i64.wrap ((List.length (([] :List Entry)++w0):Int)+(List.length [(⟨w1,w2⟩:Entry)]:Int)))) - (Int.toNat y1.1)) ((Int.toNat (IntKind.i64.wrap ((List.length (([] :List Entry)++w0):Int)+(List.length [(⟨w1,w2⟩:Entry)]:Int)))) - (Int.toNat (IntKind.i64.wrap (y1.1+(List.length [(⟨w1,w2⟩:Entry)]:Int)))))))).length) (
 ae (Nat.ble (0+(Int.toNat (IntKind.i64.wrap ((List.length (([] :List Entry)++w0):Int)+(List.length [(⟨w1,w2⟩:Entry)]:Int))))) (((([] :List Entry)++w0).take (0+(Int.toNat (IntKind.i64.wrap (y1.1+(List.length [(⟨w1,w2⟩:Entry)]:Int)))))++(((([] :List Entry)++w0).drop (0+(Int.toNat y1.1))).take (min ((Int.toNat (IntKind.i64.wrap ((List.length (([] :List Entry)++w0):Int)+(List.length [(⟨w1,w2⟩:Entry)]:Int)))) - (Int.toNat y1.1)) ((Int.toNat (IntKind.i64.wrap ((List.length (([] :List Entry)++w0):Int)+(List.length [(⟨w1,w2⟩:Entry)]:Int)))) - (Int.toNat (IntKind.i64.wrap (y1.1+(List.length [(⟨w1,w2⟩:Entry)]:Int)))))))).take (0+(Int.toNat y1.1))++([(⟨w1,w2⟩:Entry)].take ((Int.toNat (IntKind.i64.wrap ((List.length (([] :List Entry)++w0):Int)+(List.length [(⟨w1,w2⟩:Entry)]:Int)))) - (Int.toNat y1.1))++(((([] :List Entry)++w0).take (0+(Int.toNat (IntKind.i64.wrap (y1.1+(List.length [(⟨w1,w2⟩:Entry)]:Int)))))++(((([] :List Entry)++w0).drop (0+(Int.toNat y1.1))).take (min ((Int.toNat (IntKind.i64.wrap ((List.length (([] :List Entry)++w0):Int)+(List.length [(⟨w1,w2⟩:Entry)]:Int)))) - (Int.toNat y1.1)) ((Int.toNat (IntKind.i64.wrap ((List.length (([] :List Entry)++w0):Int)+(List.length [(⟨w1,w2⟩:Entry)]:Int)))) - (Int.toNat (IntKind.i64.wrap (y1.1+(List.length [(⟨w1,w2⟩:Entry)]:Int)))))))).drop (0+(Int.toNat y1.1))).drop (min [(⟨w1,w2⟩:Entry)].length ((Int.toNat (IntKind.i64.wrap ((List.length (([] :List Entry)++w0):Int)+(List.length [(⟨w1,w2⟩:Entry)]:Int)))) - (Int.toNat y1.1))))).length) (some (((((([] :List Entry)++w0).take (0+(Int.toNat (IntKind.i64.wrap (y1.1+(List.length [(⟨w1,w2⟩:Entry)]:Int)))))++(((([] :List Entry)++w0).drop (0+(Int.toNat y1.1))).take (min ((Int.toNat (IntKind.i64.wrap ((List.length (([] :List Entry)++w0):Int)+(List.length [(⟨w1,w2⟩:Entry)]:Int)))) - (Int.toNat y1.1)) ((Int.toNat (IntKind.i64.wrap ((List.length (([] :List Entry)++w0):Int)+(List.length [(⟨w1,w2⟩:Entry)]:Int)))) - (Int.toNat (IntKind.i64.wrap (y1.1+(List.length [(⟨w1,w2⟩:Entry)]:Int)))))))).take (0+(Int.toNat y1.1))++([(⟨w1,w2⟩:Entry)].take ((Int.toNat (IntKind.i64.wrap ((List.length (([] :List Entry)++w0):Int)+(List.length [(⟨w1,w2⟩:Entry)]:Int)))) - (Int.toNat y1.1))++(((([] :List Entry)++w0).take (0+(Int.toNat (IntKind.i64.wrap (y1.1+(List.length [(⟨w1,w2⟩:Entry)]:Int)))))++(((([] :List Entry)++w0).drop (0+(Int.toNat y1.1))).take (min ((Int.toNat (IntKind.i64.wrap ((List.length (([] :List Entry)++w0):Int)+(List.length [(⟨w1,w2⟩:Entry)]:Int)))) - (Int.toNat y1.1)) ((Int.toNat (IntKind.i64.wrap ((List.length (([] :List Entry)++w0):Int)+(List.length [(⟨w1,w2⟩:Entry)]:Int)))) - (Int.toNat (IntKind.i64.wrap (y1.1+(List.length [(⟨w1,w2⟩:Entry)]:Int)))))))).drop (0+(Int.toNat y1.1))).drop (min [(⟨w1,w2⟩:Entry)].length ((Int.toNat (IntKind.i64.wrap ((List.length (([] :List Entry)++w0):Int)+(List.length [(⟨w1,w2⟩:Entry)]:Int)))) - (Int.toNat y1.1))))).drop 0).take (Int.toNat (IntKind.i64.wrap ((List.length (([] :List Entry)++w0):Int)+(List.length [(⟨w1,w2⟩:Entry)]:Int)))))) (none)) (none)) (none))) (none)) (none)) (none)) (none)) (none)) (none)) (none)) (none))))) (none))))
end Go.Eng
set_option linter.unusedVariables false
set_option maxRecDepth 100000
namespace Go.Eng
open Go
noncomputable def nh (w0:Fs):Option (Int):=
 some (List.length w0.aa:Int)
noncomputable def eJ {R:Type} (x2:Int) (x4:Fs) (k0:Int→Option R):Nat→Int→Int→Option R
 |0,_,_=>none
 |n+1,x1,x3=>
  ae (decide (x3<x2)) (
  ae (decide (0≤x3)) (ai x4.aa[Int.toNat x3]? fun e5=>
  ae (e5.kind==(1:Int)) (
  ae (decide (0≤x3)) (ai x4.aa[Int.toNat x3]? fun e6=>(eJ x2 x4 k0 n (IntKind.i64.wrap (x1+(List.length e6.data:Int))) (IntKind.i64.wrap (x3+(1:Int))))) (none)) ((eJ x2 x4 k0 n x1 (IntKind.i64.wrap (x3+(1:Int)))))) (none)) ((k0 x1))
noncomputable def mG (w0:Fs):Option (Int):=
 eJ (List.length w0.aa:Int) w0 (fun z8=>some z8) bo (0:Int) (0:Int)
noncomputable def jR (w0:Fs) (w1:Int) (w2:Int):Option (Bool):=
 ai (nh w0) fun y1=>
 ae (decide ((IntKind.i64.wrap (y1+w1))≤w0.ak)) (ai (mG w0) fun y2=>some (decide ((IntKind.i64.wrap (y2+w2))≤w0.aw))) (some false)
end Go.Eng
set_option linter.unusedVariables false
set_option maxRecDepth 100000
namespace Go.Eng
open Go
noncomputable def cv {R:Type} (x1:List ah) (x2:Int) (k0:Int→Option R):Nat→Int→Int→Option R
 |0,_,_=>none
 |n+1,x4,x5=>
  ae (decide (x4<x5)) (
  ae (decide ((1:Int)<0)) (none) (
  ae (decide (0≤(IntKind.i64.wrap (Int.fdiv (IntKind.u64.wrap (IntKind.i64.wrap (x4+x5))) (2^(min (Int.toNat (1:Int)) (IntKind.bits .u64))))))) (ai x1[Int.toNat (IntKind.i64.wrap (Int.fdiv (IntKind.u64.wrap (IntKind.i64.wrap (x4+x5))) (2^(min (Int.toNat (1:Int)) (IntKind.bits .u64)))))]? fun e6=>
  ae (e6.ino !=e6.ino) (
  ae (x2 !=x2) ((cv x1 x2 k0 n x4 (IntKind.i64.wrap (Int.fdiv (IntKind.u64.wrap (IntKind.i64.wrap (x4+x5))) (2^(min (Int.toNat (1:Int)) (IntKind.bits .u64))))))) ((cv x1 x2 k0 n (IntKind.i64.wrap ((IntKind.i64.wrap (Int.fdiv (IntKind.u64.wrap (IntKind.i64.wrap (x4+x5))) (2^(min (Int.toNat (1:Int)) (IntKind.bits .u64)))))+(1:Int))) x5))) (
  ae (x2 !=x2) ((cv x1 x2 k0 n x4 (IntKind.i64.wrap (Int.fdiv (IntKind.u64.wrap (IntKind.i64.wrap (x4+x5))) (2^(min (Int.toNat (1:Int)) (IntKind.bits .u64))))))) (
  ae (decide (e6.ino<x2)) ((cv x1 x2 k0 n (IntKind.i64.wrap ((IntKind.i64.wrap (Int.fdiv (IntKind.u64.wrap (IntKind.i64.wrap (x4+x5))) (2^(min (Int.toNat (1:Int)) (IntKind.bits .u64)))))+(1:Int))) x5)) (
  ae (decide (e6.ino>x2)) ((cv x1 x2 k0 n x4 (IntKind.i64.wrap (Int.fdiv (IntKind.u64.wrap (IntKind.i64.wrap (x4+x5))) (2^(min (Int.toNat (1:Int)) (IntKind.bits .u64))))))) ((cv x1 x2 k0 n x4 (IntKind.i64.wrap (Int.fdiv (IntKind.u64.wrap (IntKind.i64.wrap (x4+x5))) (2^(min (Int.toNat (1:Int)) (IntKind.bits .u64))))))))))) (none))) ((k0 x4))
noncomputable def lM (w0:Fs) (w1:Int):Option (Int×Bool):=
 cv w0.aa w1 (fun z11=>
 ae (decide (z11<(List.length w0.aa:Int))) (
 ae (decide (0≤z11)) (ai w0.aa[Int.toNat z11]? fun e12=>
 ae (e12.ino !=e12.ino) (
 ae (w1 !=w1) (some (z11,true)) (some (z11,false))) (
 ae (w1 !=w1) (some (z11,false)) (
 ae (decide (e12.ino<w1)) (some (z11,false)) (
 ae (decide (e12.ino>w1)) (some (z11,false)) (some (z11,true)))))) (none)) (some (z11,false))) bo (0:Int) (List.length w0.aa:Int)
noncomputable def bz (w0:Fs) (w1:Int):Option (ah×Bool):=
 ai (lM w0 w1) fun y1=>
 ae (!y1.2) (some ((⟨0,0,0, [],0,([] :List Entry)⟩:ah),false)) (
 ae (decide (0≤y1.1)) (ai w0.aa[Int.toNat y1.1]? fun e2=>some (e2,true)) (none))
noncomputable def bG (w0:Fs) (w1:ah):Option (Fs):=
 ai (lM w0 w1.ino) fun y1=>BM w0.aa (
 ae y1.2 (
 ae (decide (0≤y1.1)) (ai ([] :List ah)[Int.toNat y1.1]? fun e2=>none) (none)) (
 ae (decide (0≤y1.1∧y1.1≤(([] :List ah).length:Int))) (
 ae ((List.length [w1]:Int)==(0:Int)) (some (⟨w0.ak,w0.aw,w0.next,([] :List ah)⟩:Fs)) (
 ae (y1.1==(List.length ([] :List ah):Int)) (aQ (([] :List ah).length+[w1].length) (some (⟨w0.ak,w0.aw,w0.next,[w1]⟩:Fs))) (none))) (none))) (aQ (([] :List ah).length+w0.aa.length) (
 ae y1.2 (
 ae (decide (0≤y1.1∧y1.1<((([] :List ah)++w0.aa).length:Int))) (ai (([] :List ah)++w0.aa)[(Int.toNat y1.1)]? fun e3=>some (⟨w0.ak,w0.aw,w0.next,((([] :List ah)++w0.aa).set (Int.toNat y1.1) w1)⟩:Fs)) (none)) (
 ae (decide (0≤y1.1∧y1.1≤((([] :List ah)++w0.aa).length:Int))) (
 ae ((List.length [w1]:Int)==(0:Int)) (some (⟨w0.ak,w0.aw,w0.next,(([] :List ah)++w0.aa)⟩:Fs)) (
 ae (y1.1==(List.length (([] :List ah)++w0.aa):Int)) (aQ ((([] :List ah)++w0.aa).length+[w1].length) (some (⟨w0.ak,w0.aw,w0.next,((([] :List ah)++w0.aa)++[w1])⟩:Fs))) (Ag (([] :List ah)++w0.aa).length fun cp4=>
 ae (decide ((IntKind.i64.wrap ((List.length (([] :List ah)++w0.aa):Int)+(List.length [w1]:Int)))>(cp4:Int))) (
 ae (decide (0≤y1.1∧y1.1≤(cp4:Int))) (
 ae (decide (0≤(IntKind.i64.wrap ((IntKind.i64.wrap ((List.length (([] :List ah)++w0.aa):Int)+(List.length [w1]:Int))) - y1.1)))) (aQ ((Int.toNat y1.1)+Int.toNat (IntKind.i64.wrap ((IntKind.i64.wrap ((List.length (([] :List ah)++w0.aa):Int)+(List.length [w1]:Int))) - y1.1))) (
 ae (Nat.ble (0+(Int.toNat y1.1)) (([] :List ah)++w0.aa).length) (
 ae (Nat.blt (cp4 - 0) ((Int.toNat y1.1)+Int.toNat (IntKind.i64.wrap ((IntKind.i64.wrap ((List.length (([] :List ah)++w0.aa):Int)+(List.length [w1]:Int))) - y1.1)))) (
 ae (decide (0≤y1.1∧y1.1≤((((([] :List ah)++w0.aa).drop 0).take (Int.toNat y1.1)++List.replicate (Int.toNat (IntKind.i64.wrap ((IntKind.i64.wrap ((List.length (([] :List ah)++w0.aa):Int)+(List.length [w1]:Int))) - y1.1))) (⟨0,0,0, [],0,([] :List Entry)⟩:ah)).length:Int))) (
 ae (Nat.ble ((Int.toNat y1.1)+((((([] :List ah)++w0.aa).drop 0).take (Int.toNat y1.1)++List.replicate (Int.toNat (IntKind.i64.wrap ((IntKind.i64.wrap ((List.length (([] :List ah)++w0.aa):Int)+(List.length [w1]:Int))) - y1.1))) (⟨0,0,0, [],0,([] :List Entry)⟩:ah)).length - (Int.toNat y1.1))) (((([] :List ah)++w0.aa).drop 0).take (Int.toNat y1.1)++List.replicate (Int.toNat (IntKind.i64.wrap ((IntKind.i64.wrap ((List.length (([] :List ah)++w0.aa):Int)+(List.length [w1]:Int))) - y1.1))) (⟨0,0,0, [],0,([] :List Entry)⟩:ah)).length) (
 ae (decide (0≤(IntKind.i64.wrap (y1.1+(List.length [w1]:Int)))∧(IntKind.i64.wrap (y1.1+(List.length [w1]:Int)))≤(((((([] :List ah)++w0.aa).drop 0).take (Int.toNat y1.1)++List.replicate (Int.toNat (IntKind.i64.wrap ((IntKind.i64.wrap ((List.length (([] :List ah)++w0.aa):Int)+(List.length [w1]:Int))) - y1.1))) (⟨0,0,0, [],0,([] :List Entry)⟩:ah)).take (Int.toNat y1.1)++([w1].take ((((([] :List ah)++w0.aa).drop 0).take (Int.toNat y1.1)++List.replicate (Int.toNat (IntKind.i64.wrap ((IntKind.i64.wrap ((List.length (([] :List ah)++w0.aa):Int)+(List.length [w1]:Int))) - y1.1))) (⟨0,0,0, [],0,([] :List Entry)⟩:ah)).length - (Int.toNat y1.1))++((((([] :List ah)++w0.aa).drop 0).take (Int.toNat y1.1)++List.replicate (Int.toNat (IntKind.i64.wrap ((IntKind.i64.wrap ((List.length (([] :List ah)++w0.aa):Int)+(List.length [w1]:Int))) - y1.1))) (⟨0,0,0, [],0,([] :List Entry)⟩:ah)).drop (Int.toNat y1.1)).drop (min [w1].length ((((([] :List ah)++w0.aa).drop 0).take (Int.toNat y1.1)++List.replicate (Int.toNat (IntKind.i64.wrap ((IntKind.i64.wrap ((List.length (([] :List ah)++w0.aa):Int)+(List.length [w1]:Int))) - y1.1))) (⟨0,0,0, [],0,([] :List Entry)⟩:ah)).length - (Int.toNat y1.1))))).length:Int))) (
 ae (decide (0≤y1.1∧y1.1≤((([] :List ah)++w0.aa).length:Int))) (
 ae (Nat.ble ((Int.toNat y1.1)+(min ((([] :List ah)++w0.aa).length - (Int.toNat y1.1)) (((((([] :List ah)++w0.aa).drop 0).take (Int.toNat y1.1)++List.replicate (Int.toNat (IntKind.i64.wrap ((IntKind.i64.wrap ((List.length (([] :List ah)++w0.aa):Int)+(List.length [w1]:Int))) - y1.1))) (⟨0,0,0, [],0,([] :List Entry)⟩:ah)).take (Int.toNat y1.1)++([w1].take ((((([] :List ah)++w0.aa).drop 0).take (Int.toNat y1.1)++List.replicate (Int.toNat (IntKind.i64.wrap ((IntKind.i64.wrap ((List.length (([] :List ah)++w0.aa):Int)+(List.length [w1]:Int))) - y1.1))) (⟨0,0,0, [],0,([] :List Entry)⟩:ah)).length - (Int.toNat y1.1))++((((([] :List ah)++w0.aa).drop 0).take (Int.toNat y1.1)++List.replicate (Int.toNat (IntKind.i64.wrap ((IntKind.i64.wrap ((List.length (([] :List ah)++w0.aa):Int)+(List.length [w1]:Int))) - y1.1))) (⟨0,0,0, [],0,([] :List Entry)⟩:ah)).drop (Int.toNat y1.1)).drop (min [w1].length ((((([] :List ah)++w0.aa).drop 0).take (Int.toNat y1.1)++List.replicate (Int.toNat (IntKind.i64.wrap ((IntKind.i64.wrap ((List.length (([] :List ah)++w0.aa):Int)+(List.length [w1]:Int))) - y1.1))) (⟨0,0,0, [],0,([] :List Entry)⟩:ah)).length - (Int.toNat y1.1))))).length - (Int.toNat (IntKind.i64.wrap (y1.1+(List.length [w1]:Int))))))) (([] :List ah)++w0.aa).length) (
 ae (Nat.ble (Int.toNat (IntKind.i64.wrap (y1.1+(List.length [w1]:Int)))) ((((([] :List ah)++w0.aa).drop 0).take (Int.toNat y1.1)++List.replicate (Int.toNat (IntKind.i64.wrap ((IntKind.i64.wrap ((List.length (([] :List ah)++w0.aa):Int)+(List.length [w1]:Int))) - y1.1))) (⟨0,0,0, [],0,([] :List Entry)⟩:ah)).take (Int.toNat y1.1)++([w1].take ((((([] :List ah)++w0.aa).drop 0).take (Int.toNat y1.1)++List.replicate (Int.toNat (IntKind.i64.wrap ((IntKind.i64.wrap ((List.length (([] :List ah)++w0.aa):Int)+(List.length [w1]:Int))) - y1.1))) (⟨0,0,0, [],0,([] :List Entry)⟩:ah)).length - (Int.toNat y1.1))++((((([] :List ah)++w0.aa).drop 0).take (Int.toNat y1.1)++List.replicate (Int.toNat (IntKind.i64.wrap ((IntKind.i64.wrap ((List.length (([] :List ah)++w0.aa):Int)+(List.length [w1]:Int))) - y1.1))) (⟨0,0,0, [],0,([] :List Entry)⟩:ah)).drop (Int.toNat y1.1)).drop (min [w1].length ((((([] :List ah)++w0.aa).drop 0).take (Int.toNat y1.1)++List.replicate (Int.toNat (IntKind.i64.wrap ((IntKind.i64.wrap ((List.length (([] :List ah)++w0.aa):Int)+(List.length [w1]:Int))) - y1.1))) (⟨0,0,0, [],0,([] :List Entry)⟩:ah)).length - (Int.toNat y1.1))))).length) (
 ae (Nat.ble ((Int.toNat (IntKind.i64.wrap (y1.1+(List.length [w1]:Int))))+(min ((([] :List ah)++w0.aa).length - (Int.toNat y1.1)) (((((([] :List ah)++w0.aa).drop 0).take (Int.toNat y1.1)++List.replicate (Int.toNat (IntKind.i64.wrap ((IntKind.i64.wrap ((List.length (([] :List ah)++w0.aa):Int)+(List.length [w1]:Int))) - y1.1))) (⟨0,0,0, [],0,([] :List Entry)⟩:ah)).take (Int.toNat y1.1)++([w1].take ((((([] :List ah)++w0.aa).drop 0).take (Int.toNat y1.1)++List.replicate (Int.toNat (IntKind.i64.wrap ((IntKind.i64.wrap ((List.length (([] :List ah)++w0.aa):Int)+(List.length [w1]:Int))) - y1.1))) (⟨0,0,0, [],0,([] :List Entry)⟩:ah)).length - (Int.toNat y1.1))++((((([] :List ah)++w0.aa).drop 0).take (Int.toNat y1.1)++List.replicate (Int.toNat (IntKind.i64.wrap ((IntKind.i64.wrap ((List.length (([] :List ah)++w0.aa):Int)+(List.length [w1]:Int))) - y1.1))) (⟨0,0,0, [],0,([] :List Entry)⟩:ah)).drop (Int.toNat y1.1)).drop (min [w1].length ((((([] :List ah)++w0.aa).drop 0).take (Int.toNat y1.1)++List.replicate (Int.toNat (IntKind.i64.wrap ((IntKind.i64.wrap ((List.length (([] :List ah)++w0.aa):Int)+(List.length [w1]:Int))) - y1.1))) (⟨0,0,0, [],0,([] :List Entry)⟩:ah)).length - (Int.toNat y1.1))))).length - (Int.toNat (IntKind.i64.wrap (y1.1+(List.length [w1]:Int))))))) ((((([] :List ah)++w0.aa).drop 0).take (Int.toNat y1.1)++List.replicate (Int.toNat (IntKind.i64.wrap ((IntKind.i64.wrap ((List.length (([] :List ah)++w0.aa):Int)+(List.length [w1]:Int))) - y1.1))) (⟨0,0,0, [],0,([] :List Entry)⟩:ah)).take (Int.toNat y1.1)++([w1].take ((((([] :List ah)++w0.aa).drop 0).take (Int.toNat y1.1)++List.replicate (Int.toNat (IntKind.i64.wrap ((IntKind.i64.wrap ((List.length (([] :List ah)++w0.aa):Int)+(List.length [w1]:Int))) - y1.1))) (⟨0,0,0, [],0,([] :List Entry)⟩:ah)).length - (Int.toNat y1.1))++((((([] :List ah)++w0.aa).drop 0).take (Int.toNat y1.1)++List.replicate (Int.toNat (IntKind.i64.wrap ((IntKind.i64.wrap ((List.length (([] :List ah)++w0.aa):Int)+(List.length [w1]:Int))) - y1.1))) (⟨0,0,0, [],0,([] :List Entry)⟩:ah)).drop (Int.toNat y1.1)).drop (min [w1].length ((((([] :List ah)++w0.aa).drop 0).take (Int.toNat y1.1)++List.replicate (Int.toNat (IntKind.i64.wrap ((IntKind.i64.wrap ((List.length (([] :List ah)++w0.aa):Int)+(List.length [w1]:Int))) - y1.1))) (⟨0,0,0, [],0,([] :List Entry)⟩:ah)).length - (Int.toNat y1.1))))).length) (some (⟨w0.ak,w0.aw,w0.next,(((((([] :List ah)++w0.aa).drop 0).take (Int.toNat y1.1)++List.replicate (Int.toNat (IntKind.i64.wrap ((IntKind.i64.wrap ((List.length (([] :List ah)++w0.aa):Int)+(List.length [w1]:Int))) - y1.1))) (⟨0,0,0, [],0,([] :List Entry)⟩:ah)).take (Int.toNat y1.1)++([w1].take ((((([] :List ah)++w0.aa).drop 0).take (Int.toNat y1.1)++List.replicate (Int.toNat (IntKind.i64.wrap ((IntKind.i64.wrap ((List.length (([] :List ah)++w0.aa):Int)+(List.length [w1]:Int))) - y1.1))) (⟨0,0,0, [],0,([] :List Entry)⟩:ah)).length - (Int.toNat y1.1))++((((([] :List ah)++w0.aa).drop 0).take (Int.toNat y1.1)++List.replicate (Int.toNat (IntKind.i64.wrap ((IntKind.i64.wrap ((List.length (([] :List ah)++w0.aa):Int)+(List.length [w1]:Int))) - y1.1))) (⟨0,0,0, [],0,([] :List Entry)⟩:ah)).drop (Int.toNat y1.1)).drop (min [w1].length ((((([] :List ah)++w0.aa).drop 0).take (Int.toNat y1.1)++List.replicate (Int.toNat (IntKind.i64.wrap ((IntKind.i64.wrap ((List.length (([] :List ah)++w0.aa):Int)+(List.length [w1]:Int))) - y1.1))) (⟨0,0,0, [],0,([] :List Entry)⟩:ah)).length - (Int.toNat y1.1))))).take (Int.toNat (IntKind.i64.wrap (y1.1+(List.length [w1]:Int))))++((((([] :List ah)++w0.aa).drop (Int.toNat y1.1)).take (min ((([] :List ah)++w0.aa).length - (Int.toNat y1.1)) (((((([] :List ah)++w0.aa).drop 0).take (Int.toNat y1.1)++List.replicate (Int.toNat (IntKind.i64.wrap ((IntKind.i64.wrap ((List.length (([] :List ah)++w0.aa):Int)+(List.length [w1]:Int))) - y1.1))) (⟨0,0,0, [],0,([] :List Entry)⟩:ah)).take (Int.toNat y1.1)++([w1].take ((((([] :List ah)++w0.aa).drop 0).take (Int.toNat y1.1)++List.replicate (Int.toNat (IntKind.i64.wrap ((IntKind.i64.wrap ((List.length (([] :List ah)++w0.aa):Int)+(List.length [w1]:Int))) - y1.1))) (⟨0,0,0, [],0,([] :List Entry)⟩:ah)).length - (Int.toNat y1.1))++((((([] :List ah)++w0.aa).drop 0).take (Int.toNat y1.1)++List.replicate (Int.toNat (IntKind.i64.wrap ((IntKind.i64.wrap ((List.length (([] :List ah)++w0.aa):Int)+(List.length [w1]:Int))) - y1.1))) (⟨0,0,0, [],0,([] :List Entry)⟩:ah)).drop (Int.toNat y1.1)).drop (min [w1].length ((((([] :List ah)++w0.aa).drop 0).take (Int.toNat y1.1)++List.replicate (Int.toNat (IntKind.i64.wrap ((IntKind.i64.wrap ((List.length (([] :List ah)++w0.aa):Int)+(List.length [w1]:Int))) - y1.1))) (⟨0,0,0, [],0,([] :List Entry)⟩:ah)).length - (Int.toNat y1.1))))).length - (Int.toNat (IntKind.i64.wrap (y1.1+(List.length [w1]:Int)))))))++((((([] :List ah)++w0.aa).drop 0).take (Int.toNat y1.1)++List.replicate (Int.toNat (IntKind.i64.wrap ((IntKind.i64.wrap ((List.length (([] :List ah)++w0.aa):Int)+(List.length [w1]:Int))) - y1.1))) (⟨0,0,0, [],0,([] :List Entry)⟩:ah)).take (Int.toNat y1.1)++([w1].take ((((([] :List ah)++w0.aa).drop 0).take (Int.toNat y1.1)++List.replicate (Int.toNat (IntKind.i64.wrap ((IntKind.i64.wrap ((List.length (([] :List ah)++w0.aa):Int)+(List.length [w1]:Int))) - y1.1))) (⟨0,0,0, [],0,([] :List Entry)⟩:ah)).length - (Int.toNat y1.1))++((((([] :List ah)++w0.aa).drop 0).take (Int.toNat y1.1)++List.replicate (Int.toNat (IntKind.i64.wrap ((IntKind.i64.wrap ((List.length (([] :List ah)++w0.aa):Int)+(List.length [w1]:Int))) - y1.1))) (⟨0,0,0, [],0,([] :List Entry)⟩:ah)).drop (Int.toNat y1.1)).drop (min [w1].length ((((([] :List ah)++w0.aa).drop 0).take (Int.toNat y1.1)++List.replicate (Int.toNat (IntKind.i64.wrap ((IntKind.i64.wrap ((List.length (([] :List ah)++w0.aa):Int)+(List.length [w1]:Int))) - y1.1))) (⟨0,0,0, [],0,([] :List Entry)⟩:ah)).length - (Int.toNat y1.1))))).drop ((Int.toNat (IntKind.i64.wrap (y1.1+(List.length [w1]:Int))))+(min ((([] :List ah)++w0.aa).length - (Int.toNat y1.1)) (((((([] :List ah)++w0.aa).drop 0).take (Int.toNat y1.1)++List.replicate (Int.toNat (IntKind.i64.wrap ((IntKind.i64.wrap ((List.length (([] :List ah)++w0.aa):Int)+(List.length [w1]:Int))) - y1.1))) (⟨0,0,0, [],0,([] :List Entry)⟩:ah)).take (Int.toNat y1.1)++([w1].take ((((([] :List ah)++w0.aa).drop 0).take (Int.toNat y1.1)++List.replicate (Int.toNat (IntKind.i64.wrap ((IntKind.i64.wrap ((List.length (([] :List ah)++w0.aa):Int)+(List.length [w1]:Int))) - y1.1))) (⟨0,0,0, [],0,([] :List Entry)⟩:ah)).length - (Int.toNat y1.1))++((((([] :List ah)++w0.aa).drop 0).take (Int.toNat y1.1)++List.replicate (Int.toNat (IntKind.i64.wrap ((IntKind.i64.wrap ((List.length (([] :List ah)++w0.aa):Int)+(List.length [w1]:Int))) - y1.1))) (⟨0,0,0, [],0,([] :List Entry)⟩:ah)).drop (Int.toNat y1.1)).drop (min [w1].length ((((([] :List ah)++w0.aa).drop 0).take (Int.toNat y1.1)++List.replicate (Int.toNat (IntKind.i64.wrap ((IntKind.i64.wrap ((List.length (([] :List ah)++w0.aa):Int)+(List.length [w1]:Int))) - y1.1))) (⟨0,0,0, [],0,([] :List Entry)⟩:ah)).length - (Int.toNat y1.1))))).length - (Int.toNat (IntKind.i64.wrap (y1.1+(List.length [w1]:Int)))))))))⟩:Fs)) (none)) (none)) (none)) (none)) (none)) (none)) (none)) (none)) (none))) (none)) (none)) (
 ae (decide (0≤(IntKind.i64.wrap ((List.length (([] :List ah)++w0.aa):Int)+(List.length [w1]:Int)))∧(IntKind.i64.wrap ((List.length (([] :List ah)++w0.aa):Int)+(List.length [w1]:Int)))≤(cp4:Int))) (
 ae (decide (0≤(IntKind.i64.wrap (y1.1+(List.length [w1]:Int)))∧(IntKind.i64.wrap (y1.1+(List.length [w1]:Int)))≤((Int.toNat (IntKind.i64.wrap ((List.length (([] :List ah)++w0.aa):Int)+(List.length [w1]:Int)))):Int))) (
 ae (Nat.blt 0 [w1].length) (
 ae (Nat.blt 0 (([] :List ah)++w0.aa).length) (
 ae (decide (0≤(IntKind.i64.wrap (y1.1+(List.length [w1]:Int)))∧(IntKind.i64.wrap (y1.1+(List.length [w1]:Int)))≤((Int.toNat (IntKind.i64.wrap ((List.length (([] :List ah)++w0.aa):Int)+(List.length [w1]:Int)))):Int))) (
 ae (decide (0≤y1.1∧y1.1≤((Int.toNat (IntKind.i64.wrap ((List.length (([] :List ah)++w0.aa):Int)+(List.length [w1]:Int)))):Int))) (
 ae (Nat.ble ((0+(Int.toNat y1.1))+(min ((Int.toNat (IntKind.i64.wrap ((List.length (([] :List ah)++w0.aa):Int)+(List.length [w1]:Int)))) - (Int.toNat y1.1)) ((Int.toNat (IntKind.i64.wrap ((List.length (([] :List ah)++w0.aa):Int)+(List.length [w1]:Int)))) - (Int.toNat (IntKind.i64.wrap (y1.1+(List.length [w1]:Int))))))) (([] :List ah)++w0.aa).length) (
 ae (Nat.ble (0+(Int.toNat (IntKind.i64.wrap (y1.1+(List.length [w1]:Int))))) (([] :List ah)++w0.aa).length) (
 ae (Nat.ble ((0+(Int.toNat (IntKind.i64.wrap (y1.1+(List.length [w1]:Int)))))+(min ((Int.toNat (IntKind.i64.wrap ((List.length (([] :List ah)++w0.aa):Int)+(List.length [w1]:Int)))) - (Int.toNat y1.1)) ((Int.toNat (IntKind.i64.wrap ((List.length (([] :List ah)++w0.aa):Int)+(List.length [w1]:Int)))) - (Int.toNat (IntKind.i64.wrap (y1.1+(List.length [w1]:Int))))))) (([] :List ah)++w0.aa).length) (
 ae (decide (0≤y1.1∧y1.1≤((Int.toNat (IntKind.i64.wrap ((List.length (([] :List ah)++w0.aa):Int)+(List.length [w1]:Int)))):Int))) (
 ae (Nat.ble ((0+(Int.toNat y1.1))+((Int.toNat (IntKind.i64.wrap ((List.length (([] :List ah)++w0.aa):Int)+(List.length [w1]:Int)))) - (Int.toNat y1.1))) ((([] :List ah)++w0.aa).take (0+(Int.toNat (IntKind.i64.wrap (y1.1+(List.length [w1]:Int)))))++((((([] :List ah)++w0.aa).drop (0+(Int.toNat y1.1))).take (min ((Int.toNat (IntKind.i64.wrap ((List.length (([] :List ah)++w0.aa):Int)+(List.length [w1]:Int)))) - (Int.toNat y1.1)) ((Int.toNat (IntKind.i64.wrap ((List.length (([] :List ah)++w0.aa):Int)+(List.length [w1]:Int)))) - (Int.toNat (IntKind.i64.wrap (y1.1+(List.length [w1]:Int)))))))++(([] :List ah)++w0.aa).drop ((0+(Int.toNat (IntKind.i64.wrap (y1.1+(List.length [w1]:Int)))))+(min ((Int.toNat (IntKind.i64.wrap ((List.length (([] :List ah)++w0.aa):Int)+(List.length [w1]:Int)))) - (Int.toNat y1.1)) ((Int.toNat (IntKind.i64.wrap ((List.length (([] :List ah)++w0.aa):Int)+(List.length [w1]:Int)))) - (Int.toNat (IntKind.i64.wrap (y1.1+(List.length [w1]:Int))))))))).length) (
 ae (Nat.ble (0+(Int.toNat (IntKind.i64.wrap ((List.length (([] :List ah)++w0.aa):Int)+(List.length [w1]:Int))))) (((([] :List ah)++w0.aa).take (0+(Int.toNat (IntKind.i64.wrap (y1.1+(List.length [w1]:Int)))))++((((([] :List ah)++w0.aa).drop (0+(Int.toNat y1.1))).take (min ((Int.toNat (IntKind.i64.wrap ((List.length (([] :List ah)++w0.aa):Int)+(List.length [w1]:Int)))) - (Int.toNat y1.1)) ((Int.toNat (IntKind.i64.wrap ((List.length (([] :List ah)++w0.aa):Int)+(List.length [w1]:Int)))) - (Int.toNat (IntKind.i64.wrap (y1.1+(List.length [w1]:Int)))))))++(([] :List ah)++w0.aa).drop ((0+(Int.toNat (IntKind.i64.wrap (y1.1+(List.length [w1]:Int)))))+(min ((Int.toNat (IntKind.i64.wrap ((List.length (([] :List ah)++w0.aa):Int)+(List.length [w1]:Int)))) - (Int.toNat y1.1)) ((Int.toNat (IntKind.i64.wrap ((List.length (([] :List ah)++w0.aa):Int)+(List.length [w1]:Int)))) - (Int.toNat (IntKind.i64.wrap (y1.1+(List.length [w1]:Int))))))))).take (0+(Int.toNat y1.1))++([w1].take ((Int.toNat (IntKind.i64.wrap ((List.length (([] :List ah)++w0.aa):Int)+(List.length [w1]:Int)))) - (Int.toNat y1.1))++(((([] :List ah)++w0.aa).take (0+(Int.toNat (IntKind.i64.wrap (y1.1+(List.length [w1]:Int)))))++((((([] :List ah)++w0.aa).drop (0+(Int.toNat y1.1))).take (min ((Int.toNat (IntKind.i64.wrap ((List.length (([] :List ah)++w0.aa):Int)+(List.length [w1]:Int)))) - (Int.toNat y1.1)) ((Int.toNat (IntKind.i64.wrap ((List.length (([] :List ah)++w0.aa):Int)+(List.length [w1]:Int)))) - (Int.toNat (IntKind.i64.wrap (y1.1+(List.length [w1]:Int)))))))++(([] :List ah)++w0.aa).drop ((0+(Int.toNat (IntKind.i64.wrap (y1.1+(List.length [w1]:Int)))))+(min ((Int.toNat (IntKind.i64.wrap ((List.length (([] :List ah)++w0.aa):Int)+(List.length [w1]:Int)))) - (Int.toNat y1.1)) ((Int.toNat (IntKind.i64.wrap ((List.length (([] :List ah)++w0.aa):Int)+(List.length [w1]:Int)))) - (Int.toNat (IntKind.i64.wrap (y1.1+(List.length [w1]:Int))))))))).drop (0+(Int.toNat y1.1))).drop (min [w1].length ((Int.toNat (IntKind.i64.wrap ((List.length (([] :List ah)++w0.aa):Int)+(List.length [w1]:Int)))) - (Int.toNat y1.1))))).length) (some (⟨w0.ak,w0.aw,w0.next,(((((([] :List ah)++w0.aa).take (0+(Int.toNat (IntKind.i64.wrap (y1.1+(List.length [w1]:Int)))))++((((([] :List ah)++w0.aa).drop (0+(Int.toNat y1.1))).take (min ((Int.toNat (IntKind.i64.wrap ((List.length (([] :List ah)++w0.aa):Int)+(List.length [w1]:Int)))) - (Int.toNat y1.1)) ((Int.toNat (IntKind.i64.wrap ((List.length (([] :List ah)++w0.aa):Int)+(List.length [w1]:Int)))) - (Int.toNat (IntKind.i64.wrap (y1.1+(List.length [w1]:Int)))))))++(([] :List ah)++w0.aa).drop ((0+(Int.toNat (IntKind.i64.wrap (y1.1+(List.length [w1]:Int)))))+(min ((Int.toNat (IntKind.i64.wrap ((List.length (([] :List ah)++w0.aa):Int)+(List.length [w1]:Int)))) - (Int.toNat y1.1)) ((Int.toNat (IntKind.i64.wrap ((List.length (([] :List ah)++w0.aa):Int)+(List.length [w1]:Int)))) - (Int.toNat (IntKind.i64.wrap (y1.1+(List.length [w1]:Int))))))))).take (0+(Int.toNat y1.1))++([w1].take ((Int.toNat (IntKind.i64.wrap ((List.length (([] :List ah)++w0.aa):Int)+(List.length [w1]:Int)))) - (Int.toNat y1.1))++(((([] :List ah)++w0.aa).take (0+(Int.toNat (IntKind.i64.wrap (y1.1+(List.length [w1]:Int)))))++((((([] :List ah)++w0.aa).drop (0+(Int.toNat y1.1))).take (min ((Int.toNat (IntKind.i64.wrap ((List.length (([] :List ah)++w0.aa):Int)+(List.length [w1]:Int)))) - (Int.toNat y1.1)) ((Int.toNat (IntKind.i64.wrap ((List.length (([] :List ah)++w0.aa):Int)+(List.length [w1]:Int)))) - (Int.toNat (IntKind.i64.wrap (y1.1+(List.length [w1]:Int)))))))++(([] :List ah)++w0.aa).drop ((0+(Int.toNat (IntKind.i64.wrap (y1.1+(List.length [w1]:Int)))))+(min ((Int.toNat (IntKind.i64.wrap ((List.length (([] :List ah)++w0.aa):Int)+(List.length [w1]:Int)))) - (Int.toNat y1.1)) ((Int.toNat (IntKind.i64.wrap ((List.length (([] :List ah)++w0.aa):Int)+(List.length [w1]:Int)))) - (Int.toNat (IntKind.i64.wrap (y1.1+(List.length [w1]:Int))))))))).drop (0+(Int.toNat y1.1))).drop (min [w1].length ((Int.toNat (IntKind.i64.wrap ((List.length (([] :List ah)++w0.aa):Int)+(List.length [w1]:Int)))) - (Int.toNat y1.1))))).drop 0).take (Int.toNat (IntKind.i64.wrap ((List.length (([] :List ah)++w0.aa):Int)+(List.length [w1]:Int)))))⟩:Fs)) (none)) (none)) (none)) (
 ae (decide (0≤y1.1∧y1.1≤((Int.toNat (IntKind.i64.wrap ((List.length (([] :List ah)++w0.aa):Int)+(List.length [w1]:Int)))):Int))) (
 ae (Nat.ble ((0+(Int.toNat y1.1))+((Int.toNat (IntKind.i64.wrap ((List.length (([] :List ah)++w0.aa):Int)+(List.length [w1]:Int)))) - (Int.toNat y1.1))) ((([] :List ah)++w0.aa).take (0+(Int.toNat (IntKind.i64.wrap (y1.1+(List.length [w1]:Int)))))++(((([] :List ah)++w0.aa).drop (0+(Int.toNat y1.1))).take (min ((Int.toNat (IntKind.i64.wrap ((List.length (([] :List ah)++w0.aa):Int)+(List.length [w1]:Int)))) - (Int.toNat y1.1)) ((Int.toNat (IntKind.i64.wrap ((List.length (([] :List ah)++w0.aa):Int)+(List.length [w1]:Int)))) - (Int.toNat (IntKind.i64.wrap (y1.1+(List.length [w1]:Int)))))))).length) (
 ae (Nat.ble (0+(Int.toNat (IntKind.i64.wrap ((List.length (([] :List ah)++w0.aa):Int)+(List.length [w1]:Int))))) (((([] :List ah)++w0.aa).take (0+(Int.toNat (IntKind.i64.wrap (y1.1+(List.length [w1]:Int)))))++(((([] :List ah)++w0.aa).drop (0+(Int.toNat y1.1))).take (min ((Int.toNat (IntKind.i64.wrap ((List.length (([] :List ah)++w0.aa):Int)+(List.length [w1]:Int)))) - (Int.toNat y1.1)) ((Int.toNat (IntKind.i64.wrap ((List.length (([] :List ah)++w0.aa):Int)+(List.length [w1]:Int)))) - (Int.toNat (IntKind.i64.wrap (y1.1+(List.length [w1]:Int)))))))).take (0+(Int.toNat y1.1))++([w1].take ((Int.toNat (IntKind.i64.wrap ((List.length (([] :List ah)++w0.aa):Int)+(List.length [w1]:Int)))) - (Int.toNat y1.1))++(((([] :List ah)++w0.aa).take (0+(Int.toNat (IntKind.i64.wrap (y1.1+(List.length [w1]:Int)))))++(((([] :List ah)++w0.aa).drop (0+(Int.toNat y1.1))).take (min ((Int.toNat (IntKind.i64.wrap ((List.length (([] :List ah)++w0.aa):Int)+(List.length [w1]:Int)))) - (Int.toNat y1.1)) ((Int.toNat (IntKind.i64.wrap ((List.length (([] :List ah)++w0.aa):Int)+(List.length [w1]:Int)))) - (Int.toNat (IntKind.i64.wrap (y1.1+(List.length [w1]:Int)))))))).drop (0+(Int.toNat y1.1))).drop (min [w1].length ((Int.toNat (IntKind.i64.wrap ((List.length (([] :List ah)++w0.aa):Int)+(List.length [w1]:Int)))) - (Int.toNat y1.1))))).length) (some (⟨w0.ak,w0.aw,w0.next,(((((([] :List ah)++w0.aa).take (0+(Int.toNat (IntKind.i64.wrap (y1.1+(List.length [w1]:Int)))))++(((([] :List ah)++w0.aa).drop (0+(Int.toNat y1.1))).take (min ((Int.toNat (IntKind.i64.wrap ((List.length (([] :List ah)++w0.aa):Int)+(List.length [w1]:Int)))) - (Int.toNat y1.1)) ((Int.toNat (IntKind.i64.wrap ((List.length (([] :List ah)++w0.aa):Int)+(List.length [w1]:Int)))) - (Int.toNat (IntKind.i64.wrap (y1.1+(List.length [w1]:Int)))))))).take (0+(Int.toNat y1.1))++([w1].take ((Int.toNat (IntKind.i64.wrap ((List.length (([] :List ah)++w0.aa):Int)+(List.length [w1]:Int)))) - (Int.toNat y1.1))++(((([] :List ah)++w0.aa).take (0+(Int.toNat (IntKind.i64.wrap (y1.1+(List.length [w1]:Int)))))++(((([] :List ah)++w0.aa).drop (0+(Int.toNat y1.1))).take (min ((Int.toNat (IntKind.i64.wrap ((List.length (([] :List ah)++w0.aa):Int)+(List.length [w1]:Int)))) - (Int.toNat y1.1)) ((Int.toNat (IntKind.i64.wrap ((List.length (([] :List ah)++w0.aa):Int)+(List.length [w1]:Int)))) - (Int.toNat (IntKind.i64.wrap (y1.1+(List.length [w1]:Int)))))))).drop (0+(Int.toNat y1.1))).drop (min [w1].length ((Int.toNat (IntKind.i64.wrap ((List.length (([] :List ah)++w0.aa):Int)+(List.length [w1]:Int)))) - (Int.toNat y1.1))))).drop 0).take (Int.toNat (IntKind.i64.wrap ((List.length (([] :List ah)++w0.aa):Int)+(List.length [w1]:Int)))))⟩:Fs)) (none)) (none)) (none))) (none)) (none)) (none)) (none)) (none)) (none)) (none)) (none))))) (none))))
noncomputable def iE (w0:Fs):Option (Fs×Int):=
 BM w0.aa (some ((⟨w0.ak,w0.aw,(IntKind.i64.wrap (w0.next+(1:Int))),([] :List ah)⟩:Fs),w0.next)) (aQ (([] :List ah).length+w0.aa.length) (some ((⟨w0.ak,w0.aw,(IntKind.i64.wrap (w0.next+(1:Int))),(([] :List ah)++w0.aa)⟩:Fs),w0.next)))
noncomputable def my (w0:Fs) (w1:Int):Option (Fs):=
 ai (lM w0 w1) fun y1=>BM w0.aa (
 ae y1.2 (
 ae (decide ((List.length ([] :List ah):Int)=(IntKind.i64.wrap (y1.1+(1:Int))))) (
 ae (decide (0≤(IntKind.i64.wrap (y1.1+(1:Int)))∧(IntKind.i64.wrap (y1.1+(1:Int)))≤(([] :List ah).length:Int))) (
 ae (decide (0≤y1.1∧y1.1≤(IntKind.i64.wrap (y1.1+(1:Int))))) (
 ae (y1.1==(IntKind.i64.wrap (y1.1+(1:Int)))) (some (⟨w0.ak,w0.aw,w0.next,([] :List ah)⟩:Fs)) (
 ae (decide (0≤y1.1∧y1.1≤(([] :List ah).length:Int))) (
 ae (decide (0≤(IntKind.i64.wrap (y1.1+(1:Int)))∧(IntKind.i64.wrap (y1.1+(1:Int)))≤(([] :List ah).length:Int))) (none) (none)) (none))) (none)) (none)) (none)) (some (⟨w0.ak,w0.aw,w0.next,([] :List ah)⟩:Fs))) (aQ (([] :List ah).length+w0.aa.length) (
 ae y1.2 (
 ae (decide (0≤(List.length (([] :List ah)++w0.aa):Int)∧(List.length (([] :List ah)++w0.aa):Int)≤((([] :List ah)++w0.aa).length:Int))) (
 ae (decide (0≤(IntKind.i64.wrap (y1.1+(1:Int)))∧(IntKind.i64.wrap (y1.1+(1:Int)))≤(List.length (([] :List ah)++w0.aa):Int))) (
 ae (decide (0≤y1.1∧y1.1≤(IntKind.i64.wrap (y1.1+(1:Int))))) (
 ae (y1.1==(IntKind.i64.wrap (y1.1+(1:Int)))) (some (⟨w0.ak,w0.aw,w0.next,(([] :List ah)++w0.aa)⟩:Fs)) (
 ae (decide (0≤y1.1∧y1.1≤((([] :List ah)++w0.aa).length:Int))) (
 ae (decide (0≤(IntKind.i64.wrap (y1.1+(1:Int)))∧(IntKind.i64.wrap (y1.1+(1:Int)))≤((([] :List ah)++w0.aa).length:Int))) (
 ae (Nat.ble ((Int.toNat (IntKind.i64.wrap (y1.1+(1:Int))))+((([] :List ah)++w0.aa).length - (Int.toNat (IntKind.i64.wrap (y1.1+(1:Int)))))) (([] :List ah)++w0.aa).length) (
 ae (Nat.ble (0+(Int.toNat y1.1)+(((([] :List ah)++w0.aa).drop (Int.toNat (IntKind.i64.wrap (y1.1+(1:Int))))).take ((([] :List ah)++w0.aa).length - (Int.toNat (IntKind.i64.wrap (y1.1+(1:Int)))))).length) (([] :List ah)++w0.aa).length) (
 ae (decide (0≤(List.length (([] :List ah)++w0.aa):Int)∧(List.length (([] :List ah)++w0.aa):Int)≤((max ((Int.toNat y1.1)+(((([] :List ah)++w0.aa).drop (Int.toNat (IntKind.i64.wrap (y1.1+(1:Int))))).take ((([] :List ah)++w0.aa).length - (Int.toNat (IntKind.i64.wrap (y1.1+(1:Int)))))).length) (((([] :List ah)++w0.aa).take (0+(Int.toNat y1.1))++((((([] :List ah)++w0.aa).drop (Int.toNat (IntKind.i64.wrap (y1.1+(1:Int))))).take ((([] :List ah)++w0.aa).length - (Int.toNat (IntKind.i64.wrap (y1.1+(1:Int))))))++(([] :List ah)++w0.aa).drop (0+(Int.toNat y1.1)+(((([] :List ah)++w0.aa).drop (Int.toNat (IntKind.i64.wrap (y1.1+(1:Int))))).take ((([] :List ah)++w0.aa).length - (Int.toNat (IntKind.i64.wrap (y1.1+(1:Int)))))).length))).length - 0):Nat):Int))) (
 ae (decide (0≤(((Int.toNat y1.1)+(((([] :List ah)++w0.aa).drop (Int.toNat (IntKind.i64.wrap (y1.1+(1:Int))))).take ((([] :List ah)++w0.aa).length - (Int.toNat (IntKind.i64.wrap (y1.1+(1:Int)))))).length):Int)∧(((Int.toNat y1.1)+(((([] :List ah)++w0.aa).drop (Int.toNat (IntKind.i64.wrap (y1.1+(1:Int))))).take ((([] :List ah)++w0.aa).length - (Int.toNat (IntKind.i64.wrap (y1.1+(1:Int)))))).length):Int)≤(List.length (([] :List ah)++w0.aa):Int))) (
 ae (Nat.ble ((0+(Int.toNat (((Int.toNat y1.1)+(((([] :List ah)++w0.aa).drop (Int.toNat (IntKind.i64.wrap (y1.1+(1:Int))))).take ((([] :List ah)++w0.aa).length - (Int.toNat (IntKind.i64.wrap (y1.1+(1:Int)))))).length):Int)))+((Int.toNat (List.length (([] :List ah)++w0.aa):Int)) - (Int.toNat (((Int.toNat y1.1)+(((([] :List ah)++w0.aa).drop (Int.toNat (IntKind.i64.wrap (y1.1+(1:Int))))).take ((([] :List ah)++w0.aa).length - (Int.toNat (IntKind.i64.wrap (y1.1+(1:Int)))))).length):Int)))) ((([] :List ah)++w0.aa).take (0+(Int.toNat y1.1))++((((([] :List ah)++w0.aa).drop (Int.toNat (IntKind.i64.wrap (y1.1+(1:Int))))).take ((([] :List ah)++w0.aa).length - (Int.toNat (IntKind.i64.wrap (y1.1+(1:Int))))))++(([] :List ah)++w0.aa).drop (0+(Int.toNat y1.1)+(((([] :List ah)++w0.aa).drop (Int.toNat (IntKind.i64.wrap (y1.1+(1:Int))))).take ((([] :List ah)++w0.aa).length - (Int.toNat (IntKind.i64.wrap (y1.1+(1:Int)))))).length))).length) (
 ae (Nat.ble (0+((Int.toNat y1.1)+(((([] :List ah)++w0.aa).drop (Int.toNat (IntKind.i64.wrap (y1.1+(1:Int))))).take ((([] :List ah)++w0.aa).length - (Int.toNat (IntKind.i64.wrap (y1.1+(1:Int)))))).length)) (((([] :List ah)++w0.aa).take (0+(Int.toNat y1.1))++((((([] :List ah)++w0.aa).drop (Int.toNat (IntKind.i64.wrap (y1.1+(1:Int))))).take ((([] :List ah)++w0.aa).length - (Int.toNat (IntKind.i64.wrap (y1.1+(1:Int))))))++(([] :List ah)++w0.aa).drop (0+(Int.toNat y1.1)+(((([] :List ah)++w0.aa).drop (Int.toNat (IntKind.i64.wrap (y1.1+(1:Int))))).take ((([] :List ah)++w0.aa).length - (Int.toNat (IntKind.i64.wrap (y1.1+(1:Int)))))).length))).take (0+(Int.toNat (((Int.toNat y1.1)+(((([] :List ah)++w0.aa).drop (Int.toNat (IntKind.i64.wrap (y1.1+(1:Int))))).take ((([] :List ah)++w0.aa).length - (Int.toNat (IntKind.i64.wrap (y1.1+(1:Int)))))).length):Int)))++(List.replicate ((Int.toNat (List.length (([] :List ah)++w0.aa):Int)) - (Int.toNat (((Int.toNat y1.1)+(((([] :List ah)++w0.aa).drop (Int.toNat (IntKind.i64.wrap (y1.1+(1:Int))))).take ((([] :List ah)++w0.aa).length - (Int.toNat (IntKind.i64.wrap (y1.1+(1:Int)))))).length):Int))) (⟨0,0,0, [],0,([] :List Entry)⟩:ah)++((([] :List ah)++w0.aa).take (0+(Int.toNat y1.1))++((((([] :List ah)++w0.aa).drop (Int.toNat (IntKind.i64.wrap (y1.1+(1:Int))))).take ((([] :List ah)++w0.aa).length - (Int.toNat (IntKind.i64.wrap (y1.1+(1:Int))))))++(([] :List ah)++w0.aa).drop (0+(Int.toNat y1.1)+(((([] :List ah)++w0.aa).drop (Int.toNat (IntKind.i64.wrap (y1.1+(1:Int))))).take ((([] :List ah)++w0.aa).length - (Int.toNat (IntKind.i64.wrap (y1.1+(1:Int)))))).length))).drop ((0+(Int.toNat (((Int.toNat y1.1)+(((([] :List ah)++w0.aa).drop (Int.toNat (IntKind.i64.wrap (y1.1+(1:Int))))).take ((([] :List ah)++w0.aa).length - (Int.toNat (IntKind.i64.wrap (y1.1+(1:Int)))))).length):Int)))+((Int.toNat (List.length (([] :List ah)++w0.aa):Int)) - (Int.toNat (((Int.toNat y1.1)+(((([] :List ah)++w0.aa).drop (Int.toNat (IntKind.i64.wrap (y1.1+(1:Int))))).take ((([] :List ah)++w0.aa).length - (Int.toNat (IntKind.i64.wrap (y1.1+(1:Int)))))).length):Int)))))).length) (some (⟨w0.ak,w0.aw,w0.next,(((((([] :List ah)++w0.aa).take (0+(Int.toNat y1.1))++((((([] :List ah)++w0.aa).drop (Int.toNat (IntKind.i64.wrap (y1.1+(1:Int))))).take ((([] :List ah)++w0.aa).length - (Int.toNat (IntKind.i64.wrap (y1.1+(1:Int))))))++(([] :List ah)++w0.aa).drop (0+(Int.toNat y1.1)+(((([] :List ah)++w0.aa).drop (Int.toNat (IntKind.i64.wrap (y1.1+(1:Int))))).take ((([] :List ah)++w0.aa).length - (Int.toNat (IntKind.i64.wrap (y1.1+(1:Int)))))).length))).take (0+(Int.toNat (((Int.toNat y1.1)+(((([] :List ah)++w0.aa).drop (Int.toNat (IntKind.i64.wrap (y1.1+(1:Int))))).take ((([] :List ah)++w0.aa).length - (Int.toNat (IntKind.i64.wrap (y1.1+(1:Int)))))).length):Int)))++(List.replicate ((Int.toNat (List.length (([] :List ah)++w0.aa):Int)) - (Int.toNat (((Int.toNat y1.1)+(((([] :List ah)++w0.aa).drop (Int.toNat (IntKind.i64.wrap (y1.1+(1:Int))))).take ((([] :List ah)++w0.aa).length - (Int.toNat (IntKind.i64.wrap (y1.1+(1:Int)))))).length):Int))) (⟨0,0,0, [],0,([] :List Entry)⟩:ah)++((([] :List ah)++w0.aa).take (0+(Int.toNat y1.1))++((((([] :List ah)++w0.aa).drop (Int.toNat (IntKind.i64.wrap (y1.1+(1:Int))))).take ((([] :List ah)++w0.aa).length - (Int.toNat (IntKind.i64.wrap (y1.1+(1:Int))))))++(([] :List ah)++w0.aa).drop (0+(Int.toNat y1.1)+(((([] :List ah)++w0.aa).drop (Int.toNat (IntKind.i64.wrap (y1.1+(1:Int))))).take ((([] :List ah)++w0.aa).length - (Int.toNat (IntKind.i64.wrap (y1.1+(1:Int)))))).length))).drop ((0+(Int.toNat (((Int.toNat y1.1)+(((([] :List ah)++w0.aa).drop (Int.toNat (IntKind.i64.wrap (y1.1+(1:Int))))).take ((([] :List ah)++w0.aa).length - (Int.toNat (IntKind.i64.wrap (y1.1+(1:Int)))))).length):Int)))+((Int.toNat (List.length (([] :List ah)++w0.aa):Int)) - (Int.toNat (((Int.toNat y1.1)+(((([] :List ah)++w0.aa).drop (Int.toNat (IntKind.i64.wrap (y1.1+(1:Int))))).take ((([] :List ah)++w0.aa).length - (Int.toNat (IntKind.i64.wrap (y1.1+(1:Int)))))).length):Int)))))).drop 0).take ((Int.toNat y1.1)+(((([] :List ah)++w0.aa).drop (Int.toNat (IntKind.i64.wrap (y1.1+(1:Int))))).take ((([] :List ah)++w0.aa).length - (Int.toNat (IntKind.i64.wrap (y1.1+(1:Int)))))).length))⟩:Fs)) (none)) (none)) (none)) (none)) (none)) (none)) (none)) (none))) (none)) (none)) (none)) (some (⟨w0.ak,w0.aw,w0.next,(([] :List ah)++w0.aa)⟩:Fs))))
noncomputable def qQ (w0:Int) (w1:Int):Option (Fs×Int):=
 ae (decide (w0<(1:Int))) (some ((⟨0,0,0,([] :List ah)⟩:Fs),(9:Int))) (
 ae (decide (w0>(1073741824:Int))) (some ((⟨0,0,0,([] :List ah)⟩:Fs),(9:Int))) (
 ae (decide (w1<(0:Int))) (some ((⟨0,0,0,([] :List ah)⟩:Fs),(9:Int))) (
 ae (decide (w1>(1073741824:Int))) (some ((⟨0,0,0,([] :List ah)⟩:Fs),(9:Int))) (some ((⟨w0,w1,(2:Int),[(⟨(1:Int),(2:Int),0, [],(1:Int),([] :List Entry)⟩:ah)]⟩:Fs),(0:Int))))))
end Go.Eng
set_option linter.unusedVariables false
set_option maxRecDepth 100000
namespace Go.Eng
open Go
noncomputable def gH {R:Type} (x2:List Str) (x3:Int) (x5:Fs) (kr:Int→Option R) (k0:aj→Option R):Nat→Int→aj→Option R
 |0,_,_=>none
 |n+1,x4,x7=>
  ae (decide (x4<x3)) (
  ae (decide (0≤x4)) (ai x2[Int.toNat x4]? fun e8=>ai (bz x5 x7.ino) fun y9=>
  ae (!y9.2) ((kr (1:Int))) (
  ae (y9.1.kind !=(2:Int)) ((kr (3:Int))) (ai (iy y9.1.entries e8) fun y10=>(gH x2 x3 x5 kr k0 n (IntKind.i64.wrap (x4+(1:Int))) (⟨y9.1.ino,e8,y10.1⟩:aj))))) (none)) ((k0 x7))
noncomputable def qb (w0:Fs) (w1:Str):Option (aj×Int):=
 ai (mu w1) fun y1=>
 ae (!y1.2) (some ((⟨0, [],0⟩:aj),(9:Int))) (gH y1.1 (List.length y1.1:Int) w0 (fun z15=>some ((⟨((⟨0, [],0⟩:aj).dir),((⟨0, [],0⟩:aj).name),((⟨0, [],0⟩:aj).ino)⟩:aj),z15)) (fun z16=>some (z16,(0:Int))) bo (0:Int) (⟨0, [],(1:Int)⟩:aj))
noncomputable def n3 (w0:Fs) (w1:Str):Option (ah×Int):=
 ai (qb w0 w1) fun y1=>
 ae (y1.2 !=(0:Int)) (some ((⟨0,0,0, [],0,([] :List Entry)⟩:ah),y1.2)) (ai (bz w0 y1.1.ino) fun y2=>
 ae (!y2.2) (some ((⟨0,0,0, [],0,([] :List Entry)⟩:ah),(1:Int))) (some (y2.1,(0:Int))))
end Go.Eng
set_option linter.unusedVariables false
set_option maxRecDepth 100000
namespace Go.Eng
open Go
noncomputable def cL {R:Type} (x3:List (List Str)) (x4:Int) (k0:Int→Option R):Nat→Int→Int→Option R
 |0,_,_=>none
 |n+1,x2,x5=>
  ae (decide (x5<x4)) (
  ae (decide (0≤x5)) (ai x3[Int.toNat x5]? fun e6=>
  ae (decide ((IntKind.i64.wrap (x2+(List.length e6:Int)))<(0:Int))) (none) ((cL x3 x4 k0 n (IntKind.i64.wrap (x2+(List.length e6:Int))) (IntKind.i64.wrap (x5+(1:Int)))))) (none)) ((k0 x2))
noncomputable def bY {R:Type} (x10:Nat) (x12:List (List Str)) (x13:Int) (k2:Nat→(List Str)→Option R):Nat→Nat→Int→(List Str)→Option R
 |0,_,_,_=>none
 |n+1,x11,x14,x15=>
  ae (decide (x14<x13)) (
  ae (decide (0≤x14)) (ai x12[Int.toNat x14]? fun e16=>
  ae (Nat.ble (x10+x11+e16.length) x15.length) ((bY x10 x12 x13 k2 n (x11+e16.length) (IntKind.i64.wrap (x14+(1:Int))) (x15.take (x10+x11)++(e16++x15.drop (x10+x11+e16.length))))) (none)) (none)) ((k2 x11 x15))
noncomputable def bg (w0:(List (List Str))):Option ((List Str)):=
 cL w0 (List.length w0:Int) (fun z9=>
 ae (decide (z9<(0:Int))) (none) (
 ae (decide ((IntKind.i64.wrap (z9 - (IntKind.i64.wrap ((0:Int) - (List.length ([] :List Str):Int)))))>(0:Int))) (
 ae (decide (0<(IntKind.i64.wrap (z9 - (IntKind.i64.wrap ((0:Int) - (List.length ([] :List Str):Int))))))) (aQ (([] :List Str).length+Int.toNat (IntKind.i64.wrap (z9 - (IntKind.i64.wrap ((0:Int) - (List.length ([] :List Str):Int)))))) (
 ae (decide (0≤(List.length ([] :List Str):Int)∧(List.length ([] :List Str):Int)≤((([] :List Str)++List.replicate (Int.toNat (IntKind.i64.wrap (z9 - (IntKind.i64.wrap ((0:Int) - (List.length ([] :List Str):Int)))))) []).length:Int))) (bY 0 w0 (List.length w0:Int) (fun z20 z21=>
 ae (Nat.ble (0+z20) z21.length) (some ((z21.drop 0).take z20)) (none)) bo (Int.toNat (List.length ([] :List Str):Int)) (0:Int) (([] :List Str)++List.replicate (Int.toNat (IntKind.i64.wrap (z9 - (IntKind.i64.wrap ((0:Int) - (List.length ([] :List Str):Int)))))) [])) (none))) (none)) (bY 0 w0 (List.length w0:Int) (fun z22 z23=>
 ae (Nat.ble (0+z22) z23.length) (some ((z23.drop 0).take z22)) (none)) bo 0 (0:Int) ([] :List Str)))) bo (0:Int) (0:Int)
end Go.Eng
set_option linter.unusedVariables false
set_option maxRecDepth 100000
namespace Go.Eng
open Go
noncomputable def ou (w0:Fs) (w1:Str):Option (Int×Int):=
 ai (n3 w0 w1) fun y1=>
 ae (y1.2 !=(0:Int)) (some ((0:Int),y1.2)) (
 ae (y1.1.kind !=(2:Int)) (some ((0:Int),(3:Int))) (some (y1.1.ino,(0:Int))))
noncomputable def aJ {R:Type} (x5:Int) (x6:Int) (x7:Int) (x8:List ah) (x9:Bool) (kr:Int→Option R) (k0:Bool→(List Str)→Int→Str→Int→Int→Option R):Nat→Bool→(List Str)→Int→Str→Int→Int→Option R
 |0,_,_,_,_,_,_=>none
 |n+1,x10,x11,x12,x13,x14,x15=>
  ae (decide ((List.length x11:Int)>(0:Int))) (
  ae (decide (0≤(0:Int))) (ai x11[Int.toNat (0:Int)]? fun e17=>
  ae (decide (0≤(1:Int)∧(1:Int)≤(x11.length:Int))) (ai (bz (⟨x5,x6,x7,x8⟩:Fs) x14) fun y18=>
  ae (!y18.2) ((kr (1:Int))) (
  ae (y18.1.kind !=(2:Int)) ((kr (3:Int))) (
  ae (e17==([46]:Str)) ((aJ x5 x6 x7 x8 x9 kr k0 n x10 (x11.drop (Int.toNat (1:Int))) 0 [] y18.1.ino x15)) (
  ae (e17==([46,46]:Str)) ((aJ x5 x6 x7 x8 x9 kr k0 n x10 (x11.drop (Int.toNat (1:Int))) 0 [] y18.1.parent x15)) (ai (iy y18.1.entries e17) fun y19=>ai (bz (⟨x5,x6,x7,x8⟩:Fs) y19.1) fun y20=>
  ae (y20.1.kind==(3:Int)) (
  ae (decide ((List.length (x11.drop (Int.toNat (1:Int))):Int)>(0:Int))) (
  ae (decide ((IntKind.i64.wrap (x15+(1:Int)))>(40:Int))) ((kr (6:Int))) (ai (gK y20.1.data) fun y21=>
  ae y21 ((kr (7:Int))) (ai (eo y20.1.data) fun y22=>
  ae x10 (ai (bg [y22.names,(x11.drop (Int.toNat (1:Int)))]) fun y23=>
  ae y22.abs ((aJ x5 x6 x7 x8 x9 kr k0 n true y23 0 [] (1:Int) (IntKind.i64.wrap (x15+(1:Int))))) ((aJ x5 x6 x7 x8 x9 kr k0 n true y23 0 [] y18.1.ino (IntKind.i64.wrap (x15+(1:Int)))))) (
  ae y22.bM (ai (bg [y22.names,(x11.drop (Int.toNat (1:Int)))]) fun y24=>
  ae y22.abs ((aJ x5 x6 x7 x8 x9 kr k0 n ((List.length (x11.drop (Int.toNat (1:Int))):Int)==(0:Int)) y24 0 [] (1:Int) (IntKind.i64.wrap (x15+(1:Int))))) ((aJ x5 x6 x7 x8 x9 kr k0 n ((List.length (x11.drop (Int.toNat (1:Int))):Int)==(0:Int)) y24 0 [] y18.1.ino (IntKind.i64.wrap (x15+(1:Int)))))) (ai (bg [y22.names,(x11.drop (Int.toNat (1:Int)))]) fun y25=>
  ae y22.abs ((aJ x5 x6 x7 x8 x9 kr k0 n false y25 0 [] (1:Int) (IntKind.i64.wrap (x15+(1:Int))))) ((aJ x5 x6 x7 x8 x9 kr k0 n false y25 0 [] y18.1.ino (IntKind.i64.wrap (x15+(1:Int)))))))))) (
  ae x9 (
  ae (decide ((IntKind.i64.wrap (x15+(1:Int)))>(40:Int))) ((kr (6:Int))) (ai (gK y20.1.data) fun y26=>
  ae y26 ((kr (7:Int))) (ai (eo y20.1.data) fun y27=>
  ae x10 (ai (bg [y27.names,(x11.drop (Int.toNat (1:Int)))]) fun y28=>
  ae y27.abs ((aJ x5 x6 x7 x8 x9 kr k0 n true y28 0 [] (1:Int) (IntKind.i64.wrap (x15+(1:Int))))) ((aJ x5 x6 x7 x8 x9 kr k0 n true y28 0 [] y18.1.ino (IntKind.i64.wrap (x15+(1:Int)))))) (
  ae y27.bM (ai (bg [y27.names,(x11.drop (Int.toNat (1:Int)))]) fun y29=>
  ae y27.abs ((aJ x5 x6 x7 x8 x9 kr k0 n ((List.length (x11.drop (Int.toNat (1:Int))):Int)==(0:Int)) y29 0 [] (1:Int) (IntKind.i64.wrap (x15+(1:Int))))) ((aJ x5 x6 x7 x8 x9 kr k0 n ((List.length (x11.drop (Int.toNat (1:Int))):Int)==(0:Int)) y29 0 [] y18.1.ino (IntKind.i64.wrap (x15+(1:Int)))))) (ai (bg [y27.names,(x11.drop (Int.toNat (1:Int)))]) fun y30=>
  ae y27.abs ((aJ x5 x6 x7 x8 x9 kr k0 n false y30 0 [] (1:Int) (IntKind.i64.wrap (x15+(1:Int))))) ((aJ x5 x6 x7 x8 x9 kr k0 n false y30 0 [] y18.1.ino (IntKind.i64.wrap (x15+(1:Int)))))))))) (
  ae x10 (
  ae (decide ((IntKind.i64.wrap (x15+(1:Int)))>(40:Int))) ((kr (6:Int))) (ai (gK y20.1.data) fun y31=>
  ae y31 ((kr (7:Int))) (ai (eo y20.1.data) fun y32=>
  ae x10 (ai (bg [y32.names,(x11.drop (Int.toNat (1:Int)))]) fun y33=>
  ae y32.abs ((aJ x5 x6 x7 x8 x9 kr k0 n true y33 0 [] (1:Int) (IntKind.i64.wrap (x15+(1:Int))))) ((aJ x5 x6 x7 x8 x9 kr k0 n true y33 0 [] y18.1.ino (IntKind.i64.wrap (x15+(1:Int)))))) (
  ae y32.bM (ai (bg [y32.names,(x11.drop (Int.toNat (1:Int)))]) fun y34=>
  ae y32.abs ((aJ x5 x6 x7 x8 x9 kr k0 n ((List.length (x11.drop (Int.toNat (1:Int))):Int)==(0:Int)) y34 0 [] (1:Int) (IntKind.i64.wrap (x15+(1:Int))))) ((aJ x5 x6 x7 x8 x9 kr k0 n ((List.length (x11.drop (Int.toNat (1:Int))):Int)==(0:Int)) y34 0 [] y18.1.ino (IntKind.i64.wrap (x15+(1:Int)))))) (ai (bg [y32.names,(x11.drop (Int.toNat (1:Int)))]) fun y35=>
  ae y32.abs ((aJ x5 x6 x7 x8 x9 kr k0 n false y35 0 [] (1:Int) (IntKind.i64.wrap (x15+(1:Int))))) ((aJ x5 x6 x7 x8 x9 kr k0 n false y35 0 [] y18.1.ino (IntKind.i64.wrap (x15+(1:Int)))))))))) ((aJ x5 x6 x7 x8 x9 kr k0 n x10 (x11.drop (Int.toNat (1:Int))) y18.1.ino e17 y19.1 x15))))) ((aJ x5 x6 x7 x8 x9 kr k0 n x10 (x11.drop (Int.toNat (1:Int))) y18.1.ino e17 y19.1 x15))))))) (none)) (none)) ((k0 x10 x11 x12 x13 x14 x15))
noncomputable def eS (w0:Fs) (w1:Str) (w2:Str) (w3:Bool):Option (aj×Int):=
 ae (w2==([] :Str)) (some ((⟨0, [],0⟩:aj),(1:Int))) (ai (gK w2) fun y1=>
 ae y1 (some ((⟨0, [],0⟩:aj),(7:Int))) (ai (eo w2) fun y2=>
 ae (!y2.abs) (ai (ou w0 w1) fun y3=>
 ae (y3.2 !=(0:Int)) (
 ae (y3.2 !=(0:Int)) (some ((⟨0, [],0⟩:aj),y3.2)) (none)) (aJ w0.ak w0.aw w0.next w0.aa w3 (fun z52=>some ((⟨((⟨0, [],0⟩:aj).dir),((⟨0, [],0⟩:aj).name),((⟨0, [],0⟩:aj).ino)⟩:aj),z52)) (fun z53 z54 z55 z56 z57 z58=>ai (bz w0 z57) fun y59=>
 ae y59.2 (
 ae z53 (
 ae (y59.1.kind !=(2:Int)) (some ((⟨0, [],0⟩:aj),(3:Int))) (some ((⟨z55,z56,z57⟩:aj),(0:Int)))) (some ((⟨z55,z56,z57⟩:aj),(0:Int)))) (some ((⟨z55,z56,z57⟩:aj),(0:Int)))) bo y2.bM y2.names 0 [] y3.1 0)) (aJ w0.ak w0.aw w0.next w0.aa w3 (fun z60=>some ((⟨((⟨0, [],0⟩:aj).dir),((⟨0, [],0⟩:aj).name),((⟨0, [],0⟩:aj).ino)⟩:aj),z60)) (fun z61 z62 z63 z64 z65 z66=>ai (bz w0 z65) fun y67=>
 ae y67.2 (
 ae z61 (
 ae (y67.1.kind !=(2:Int)) (some ((⟨0, [],0⟩:aj),(3:Int))) (some ((⟨z63,z64,z65⟩:aj),(0:Int)))) (some ((⟨z63,z64,z65⟩:aj),(0:Int)))) (some ((⟨z63,z64,z65⟩:aj),(0:Int)))) bo y2.bM y2.names 0 [] (1:Int) 0)))
end Go.Eng
set_option linter.unusedVariables false
set_option maxRecDepth 100000
namespace Go.Eng
open Go
noncomputable def gB (w0:Fs) (w1:aj) (w2:Int) (w3:Str):Option (Fs×Int):=
 ae (w2==(1:Int)) (ai (gZ w1.name) fun y1=>
 ae (!y1) (some (w0,(9:Int))) (ai (jR w0 (1:Int) (List.length w3:Int)) fun y2=>
 ae (!y2) (some (w0,(8:Int))) (ai (bz w0 w1.dir) fun y3=>ai (iE w0) fun y4=>
 ae (w2==(2:Int)) (ai (dE y3.1.entries w1.name y4.2) fun y5=>ai (bG y4.1 (⟨y3.1.ino,y3.1.kind,y3.1.aL,y3.1.data,y3.1.parent,y5⟩:ah)) fun y6=>ai (bG y6 (⟨y4.2,w2,(1:Int),w3,w1.dir,([] :List Entry)⟩:ah)) fun y7=>some (y7,(0:Int))) (ai (dE y3.1.entries w1.name y4.2) fun y8=>ai (bG y4.1 (⟨y3.1.ino,y3.1.kind,y3.1.aL,y3.1.data,y3.1.parent,y8⟩:ah)) fun y9=>ai (bG y9 (⟨y4.2,w2,(1:Int),w3,0,([] :List Entry)⟩:ah)) fun y10=>some (y10,(0:Int)))))) (ai (gZ w1.name) fun y11=>
 ae (!y11) (some (w0,(9:Int))) (ai (jR w0 (1:Int) (0:Int)) fun y12=>
 ae (!y12) (some (w0,(8:Int))) (ai (bz w0 w1.dir) fun y13=>ai (iE w0) fun y14=>
 ae (w2==(2:Int)) (ai (dE y13.1.entries w1.name y14.2) fun y15=>ai (bG y14.1 (⟨y13.1.ino,y13.1.kind,y13.1.aL,y13.1.data,y13.1.parent,y15⟩:ah)) fun y16=>ai (bG y16 (⟨y14.2,w2,(1:Int),w3,w1.dir,([] :List Entry)⟩:ah)) fun y17=>some (y17,(0:Int))) (ai (dE y13.1.entries w1.name y14.2) fun y18=>ai (bG y14.1 (⟨y13.1.ino,y13.1.kind,y13.1.aL,y13.1.data,y13.1.parent,y18⟩:ah)) fun y19=>ai (bG y19 (⟨y14.2,w2,(1:Int),w3,0,([] :List Entry)⟩:ah)) fun y20=>some (y20,(0:Int))))))
noncomputable def jL (w0:Fs) (w1:Str) (w2:Str):Option (Fs×Int):=
 ai (eS w0 w1 w2 false) fun y1=>
 ae (y1.2 !=(0:Int)) (some (w0,y1.2)) (
 ae (y1.1.ino !=(0:Int)) (some (w0,(2:Int))) (ai (gB w0 y1.1 (2:Int) ([] :Str)) fun y2=>some (y2.1,y2.2)))
noncomputable def iS (w0:Fs) (w1:Str) (w2:Str) (w3:Str):Option (Fs×Int):=
 ai (eS w0 w1 w2 false) fun y1=>
 ae (y1.2 !=(0:Int)) (some (w0,y1.2)) (
 ae (y1.1.ino !=(0:Int)) (some (w0,(2:Int))) (ai (eo w2) fun y2=>
 ae y2.bM (some (w0,(4:Int))) (ai (gB w0 y1.1 (1:Int) w3) fun y3=>some (y3.1,y3.2))))
noncomputable def gW (w0:Fs) (w1:Str) (w2:Str) (w3:Str):Option (Fs×Int):=
 ae (w2==([] :Str)) (some (w0,(1:Int))) (
 ae (decide ((List.length w2:Int)>(4095:Int))) (some (w0,(7:Int))) (
 ae (([0]:Str)==w2) (some (w0,(9:Int))) (ai (stringslite_IndexByte w2 (0:Int)) fun y1=>
 ae (decide (y1≥(0:Int))) (some (w0,(9:Int))) (ai (eS w0 w1 w3 false) fun y2=>
 ae (y2.2 !=(0:Int)) (some (w0,y2.2)) (
 ae (y2.1.ino !=(0:Int)) (some (w0,(2:Int))) (ai (eo w3) fun y3=>
 ae y3.bM (some (w0,(1:Int))) (ai (gB w0 y2.1 (3:Int) w2) fun y4=>some (y4.1,y4.2))))))))
end Go.Eng
set_option linter.unusedVariables false
set_option maxRecDepth 100000
namespace Go.Eng
open Go
noncomputable def nY (w0:Fs) (w1:Str) (w2:Str) (w3:Bool):Option (ah×Int):=
 ai (eS w0 w1 w2 w3) fun y1=>
 ae (y1.2 !=(0:Int)) (some ((⟨0,0,0, [],0,([] :List Entry)⟩:ah),y1.2)) (ai (bz w0 y1.1.ino) fun y2=>
 ae (!y2.2) (some ((⟨0,0,0, [],0,([] :List Entry)⟩:ah),(1:Int))) (some (y2.1,(0:Int))))
noncomputable def oi (w0:Fs) (w1:Str) (w2:Str):Option (ah×Int):=
 ai (nY w0 w1 w2 true) fun y1=>
 ae (y1.2 !=(0:Int)) (some ((⟨0,0,0, [],0,([] :List Entry)⟩:ah),y1.2)) (
 ae (y1.1.kind==(2:Int)) (some ((⟨0,0,0, [],0,([] :List Entry)⟩:ah),(4:Int))) (some (y1.1,(0:Int))))
noncomputable def pX (w0:Fs) (w1:Int) (w2:Str):Option (Fs×Int):=
 ai (bz w0 w1) fun y1=>ai (jR w0 (0:Int) (IntKind.i64.wrap ((List.length w2:Int) - (List.length y1.1.data:Int)))) fun y2=>
 ae (!y2) (some (w0,(8:Int))) (ai (bG w0 (⟨y1.1.ino,y1.1.kind,y1.1.aL,w2,y1.1.parent,y1.1.entries⟩:ah)) fun y3=>some (y3,(0:Int)))
noncomputable def mf (w0:Fs) (w1:Str) (w2:Str) (w3:Str):Option (Fs×Int):=
 ai (oi w0 w1 w2) fun y1=>ae (y1.2 !=(0:Int)) (some (w0,y1.2)) (ai (pX w0 y1.1.ino w3) fun y2=>some (y2.1,y2.2))
end Go.Eng
set_option linter.unusedVariables false
set_option maxRecDepth 100000
namespace Go.Eng
open Go
noncomputable def oc (w0:Fs) (w1:aj) (w2:Int):Option (Fs):=
 ai (bz w0 w1.dir) fun y1=>ai (dE y1.1.entries w1.name w2) fun y2=>ai (bG w0 (⟨y1.1.ino,y1.1.kind,y1.1.aL,y1.1.data,y1.1.parent,y2⟩:ah)) fun y3=>ai (bz y3 w2) fun y4=>ai (bG y3 (⟨y4.1.ino,y4.1.kind,(IntKind.i64.wrap (y4.1.aL+(1:Int))),y4.1.data,y4.1.parent,y4.1.entries⟩:ah)) fun y5=>some y5
noncomputable def iA (w0:Fs) (w1:Str) (w2:Str):Option (aj×ah×Int):=
 ai (eS w0 w1 w2 false) fun y1=>
 ae (y1.2 !=(0:Int)) (some (y1.1,(⟨0,0,0, [],0,([] :List Entry)⟩:ah),y1.2)) (ai (bz w0 y1.1.ino) fun y2=>
 ae (!y2.2) (some (y1.1,y2.1,(1:Int))) (some (y1.1,y2.1,(0:Int))))
noncomputable def og (w0:Fs) (w1:Str) (w2:Str) (w3:Str):Option (Fs×Int):=
 ai (iA w0 w1 w2) fun y1=>
 ae (y1.2.2 !=(0:Int)) (some (w0,y1.2.2)) (
 ae (y1.2.1.kind==(2:Int)) (some (w0,(11:Int))) (ai (eS w0 w1 w3 false) fun y2=>
 ae (y2.2 !=(0:Int)) (some (w0,y2.2)) (
 ae (y2.1.ino !=(0:Int)) (some (w0,(2:Int))) (ai (eo w3) fun y3=>
 ae y3.bM (some (w0,(1:Int))) (ai (gZ y2.1.name) fun y4=>
 ae (!y4) (some (w0,(9:Int))) (ai (oc w0 y2.1 y1.2.1.ino) fun y5=>some (y5,(0:Int))))))))
noncomputable def gI (w0:Fs) (w1:aj):Option (Fs):=
 ai (bz w0 w1.dir) fun y1=>ai (eG y1.1.entries w1.name) fun y2=>ai (bG w0 (⟨y1.1.ino,y1.1.kind,y1.1.aL,y1.1.data,y1.1.parent,y2⟩:ah)) fun y3=>ai (bz y3 w1.ino) fun y4=>
 ae ((IntKind.i64.wrap (y4.1.aL - (1:Int)))==(0:Int)) (ai (my y3 y4.1.ino) fun y5=>some y5) (ai (bG y3 (⟨y4.1.ino,y4.1.kind,(IntKind.i64.wrap (y4.1.aL - (1:Int))),y4.1.data,y4.1.parent,y4.1.entries⟩:ah)) fun y6=>some y6)
noncomputable def kG (w0:Fs) (w1:Str) (w2:Str):Option (Fs×Int):=
 ai (iA w0 w1 w2) fun y1=>
 ae (y1.2.2 !=(0:Int)) (some (w0,y1.2.2)) (
 ae (y1.2.1.kind==(2:Int)) (some (w0,(4:Int))) (ai (gI w0 y1.1) fun y2=>some (y2,(0:Int))))
noncomputable def mV (w0:Fs) (w1:Str) (w2:Str):Option (Fs×Int):=
 ai (iA w0 w1 w2) fun y1=>
 ae (y1.2.2 !=(0:Int)) (some (w0,y1.2.2)) (
 ae (y1.2.1.kind !=(2:Int)) (some (w0,(3:Int))) (
 ae (y1.2.1.ino==(1:Int)) (some (w0,(10:Int))) (
 ae (y1.1.name==([] :Str)) (some (w0,(9:Int))) (
 ae (decide ((List.length y1.2.1.entries:Int)>(0:Int))) (some (w0,(5:Int))) (ai (gI w0 y1.1) fun y2=>some (y2,(0:Int)))))))
end Go.Eng
set_option linter.unusedVariables false
set_option maxRecDepth 100000
namespace Go.Eng
open Go
noncomputable def eU {R:Type} (x2:Int) (x3:Bool) (x4:Int) (x6:Fs) (k0:Bool→Option R):Nat→Int→Int→Option R
 |0,_,_=>none
 |n+1,x1,x5=>
  ae (decide (x5<x4)) (ai (bz x6 x1) fun y7=>
  ae (x1==x2) ((k0 true)) (
  ae (x1==(1:Int)) ((k0 x3)) ((eU x2 x3 x4 x6 k0 n y7.1.parent (IntKind.i64.wrap (x5+(1:Int))))))) ((k0 x3))
noncomputable def kF (w0:Fs) (w1:Int) (w2:Int):Option (Bool):=
 eU w2 false (List.length w0.aa:Int) w0 (fun z9=>some z9) bo w1 (0:Int)
noncomputable def ir (w0:Fs) (w1:aj) (w2:aj):Option (Fs):=
 ae (w2.ino !=(0:Int)) (ai (gI w0 w2) fun y1=>ai (bz y1 w1.dir) fun y2=>ai (eG y2.1.entries w1.name) fun y3=>ai (bG y1 (⟨y2.1.ino,y2.1.kind,y2.1.aL,y2.1.data,y2.1.parent,y3⟩:ah)) fun y4=>ai (bz y4 w2.dir) fun y5=>ai (dE y5.1.entries w2.name w1.ino) fun y6=>ai (bG y4 (⟨y5.1.ino,y5.1.kind,y5.1.aL,y5.1.data,y5.1.parent,y6⟩:ah)) fun y7=>ai (bz y7 w1.ino) fun y8=>
 ae (y8.1.kind==(2:Int)) (ai (bG y7 (⟨y8.1.ino,y8.1.kind,y8.1.aL,y8.1.data,w2.dir,y8.1.entries⟩:ah)) fun y9=>some y9) (ai (bG y7 y8.1) fun y10=>some y10)) (ai (bz w0 w1.dir) fun y11=>ai (eG y11.1.entries w1.name) fun y12=>ai (bG w0 (⟨y11.1.ino,y11.1.kind,y11.1.aL,y11.1.data,y11.1.parent,y12⟩:ah)) fun y13=>ai (bz y13 w2.dir) fun y14=>ai (dE y14.1.entries w2.name w1.ino) fun y15=>ai (bG y13 (⟨y14.1.ino,y14.1.kind,y14.1.aL,y14.1.data,y14.1.parent,y15⟩:ah)) fun y16=>ai (bz y16 w1.ino) fun y17=>
 ae (y17.1.kind==(2:Int)) (ai (bG y16 (⟨y17.1.ino,y17.1.kind,y17.1.aL,y17.1.data,w2.dir,y17.1.entries⟩:ah)) fun y18=>some y18) (ai (bG y16 y17.1) fun y19=>some y19))
noncomputable def lY (w0:ah) (w1:ah):Option (Int):=
 ae (w0.kind==(2:Int)) (
 ae (w1.kind !=(2:Int)) (some (3:Int)) (
 ae (w0.kind !=(2:Int)) (
 ae (w1.kind==(2:Int)) (some (4:Int)) (
 ae (decide ((List.length w1.entries:Int)>(0:Int))) (some (5:Int)) (some (0:Int)))) (
 ae (decide ((List.length w1.entries:Int)>(0:Int))) (some (5:Int)) (some (0:Int))))) (
 ae (w0.kind !=(2:Int)) (
 ae (w1.kind==(2:Int)) (some (4:Int)) (
 ae (decide ((List.length w1.entries:Int)>(0:Int))) (some (5:Int)) (some (0:Int)))) (
 ae (decide ((List.length w1.entries:Int)>(0:Int))) (some (5:Int)) (some (0:Int))))
noncomputable def j4 (w0:ah) (w1:Str) (w2:Str):Option (Int):=
 ae (w0.kind !=(2:Int)) (ai (eo w2) fun y1=>
 ae y1.bM (some (3:Int)) (ai (gZ w1) fun y2=>
 ae (!y2) (some (9:Int)) (some (0:Int)))) (ai (gZ w1) fun y3=>
 ae (!y3) (some (9:Int)) (some (0:Int)))
noncomputable def kL (w0:Fs) (w1:Str) (w2:Str) (w3:Str):Option (Fs×Int):=
 ai (eS w0 w1 w2 false) fun y1=>ai (bz w0 y1.1.ino) fun y2=>
 ae (y1.2 !=(0:Int)) (some (w0,y1.2)) (
 ae (!y2.2) (some (w0,(1:Int))) (
 ae (y1.1.name==([] :Str)) (some (w0,(10:Int))) (ai (eS w0 w1 w3 false) fun y3=>ai (bz w0 y3.1.ino) fun y4=>
 ae (y3.2 !=(0:Int)) (some (w0,y3.2)) (
 ae (y3.1.name==([] :Str)) (some (w0,(10:Int))) (
 ae (y1.1.ino==y3.1.ino) (some (w0,(0:Int))) (
 ae (y2.1.kind==(2:Int)) (ai (kF w0 y3.1.dir y1.1.ino) fun y5=>
 ae y5 (some (w0,(9:Int))) (
 ae y4.2 (ai (lY y2.1 y4.1) fun y6=>
 ae (y6 !=(0:Int)) (some (w0,y6)) (ai (ir w0 y1.1 y3.1) fun y7=>some (y7,(0:Int)))) (ai (j4 y2.1 y3.1.name w3) fun y8=>
 ae (y8 !=(0:Int)) (some (w0,y8)) (ai (ir w0 y1.1 y3.1) fun y9=>some (y9,(0:Int)))))) (
 ae y4.2 (ai (lY y2.1 y4.1) fun y10=>
 ae (y10 !=(0:Int)) (some (w0,y10)) (ai (ir w0 y1.1 y3.1) fun y11=>some (y11,(0:Int)))) (ai (j4 y2.1 y3.1.name w3) fun y12=>
 ae (y12 !=(0:Int)) (some (w0,y12)) (ai (ir w0 y1.1 y3.1) fun y13=>some (y13,(0:Int)))))))))))
end Go.Eng
set_option linter.unusedVariables false
set_option maxRecDepth 100000
namespace Go.Eng
open Go
noncomputable def jX (w0:Fs) (w1:Str) (w2:bZ):Option (Fs×Int):=
 ai (jL w0 w1 w2.a) fun y1=>some (y1.1,y1.2)
noncomputable def km (w0:Fs) (w1:Str) (w2:bZ):Option (Fs×Int):=
 ai (iS w0 w1 w2.a w2.data) fun y1=>some (y1.1,y1.2)
noncomputable def ks (w0:Fs) (w1:Str) (w2:bZ):Option (Fs×Int):=
 ai (mf w0 w1 w2.a w2.data) fun y1=>some (y1.1,y1.2)
noncomputable def j5 (w0:Fs) (w1:Str) (w2:bZ):Option (Fs×Int):=
 ai (gW w0 w1 w2.data w2.a) fun y1=>some (y1.1,y1.2)
noncomputable def kp (w0:Fs) (w1:Str) (w2:bZ):Option (Fs×Int):=
 ai (og w0 w1 w2.a w2.b) fun y1=>some (y1.1,y1.2)
noncomputable def j6 (w0:Fs) (w1:Str) (w2:bZ):Option (Fs×Int):=
 ai (kG w0 w1 w2.a) fun y1=>some (y1.1,y1.2)
noncomputable def kA (w0:Fs) (w1:Str) (w2:bZ):Option (Fs×Int):=
 ai (mV w0 w1 w2.a) fun y1=>some (y1.1,y1.2)
noncomputable def j1 (w0:Fs) (w1:Str) (w2:bZ):Option (Fs×Int):=
 ai (kL w0 w1 w2.a w2.b) fun y1=>some (y1.1,y1.2)
noncomputable def nf (w0:Fs) (w1:Str) (w2:bZ):Option (Fs×Int):=
 ae ((1:Int)==w2.op) (ai (jX w0 w1 w2) fun y1=>some (y1.1,y1.2)) (
 ae ((2:Int)==w2.op) (ai (km w0 w1 w2) fun y2=>some (y2.1,y2.2)) (
 ae ((3:Int)==w2.op) (ai (ks w0 w1 w2) fun y3=>some (y3.1,y3.2)) (
 ae ((4:Int)==w2.op) (ai (j5 w0 w1 w2) fun y4=>some (y4.1,y4.2)) (
 ae ((5:Int)==w2.op) (ai (kp w0 w1 w2) fun y5=>some (y5.1,y5.2)) (
 ae ((6:Int)==w2.op) (ai (j6 w0 w1 w2) fun y6=>some (y6.1,y6.2)) (
 ae ((7:Int)==w2.op) (ai (kA w0 w1 w2) fun y7=>some (y7.1,y7.2)) (
 ae ((8:Int)==w2.op) (ai (j1 w0 w1 w2) fun y8=>some (y8.1,y8.2)) (some (w0,(9:Int))))))))))
noncomputable def fW {R:Type} (x1:Str) (x2:List bZ) (x3:Int) (k0:Fs→(List Int)→Option R):Nat→Int→Fs→(List Int)→Option R
 |0,_,_,_=>none
 |n+1,x4,x5,x7=>
  ae (decide (x4<x3)) (
  ae (decide (0≤x4)) (ai x2[Int.toNat x4]? fun e8=>ai (nf x5 x1 e8) fun y9=>aQ (x7.length+[y9.2].length) ((fW x1 x2 x3 k0 n (IntKind.i64.wrap (x4+(1:Int))) y9.1 (x7++[y9.2])))) (none)) ((k0 x5 x7))
noncomputable def gQ (w0:Fs) (w1:Str) (w2:(List bZ)):Option (Fs×(List Int)):=
 fW w1 w2 (List.length w2:Int) (fun z13 z14=>some (z13,z14)) bo (0:Int) w0 ([] :List Int)
noncomputable def im (w0:Int) (w1:Int) (w2:(List bZ)):Option (Fs×Int):=
 ai (qQ w0 w1) fun y1=>
 ae (y1.2 !=(0:Int)) (some ((⟨0,0,0,([] :List ah)⟩:Fs),y1.2)) (ai (gQ y1.1 ([47]:Str) w2) fun y2=>some (y2.1,(0:Int)))
end Go.Eng
set_option linter.unusedVariables false
set_option maxRecDepth 100000
namespace Go.Eng
open Go
noncomputable def fQ {R:Type} (x1:Str) (kr:Option R) (k0:Option R):Nat→Int→Option R
 |0,_=>none
 |n+1,x2=>
  ae (decide (x2<(List.length x1:Int))) (
  ae (decide (0≤x2)) (ai x1[Int.toNat x2]? fun c3=>
  ae ((UInt8.toNat c3:Int)==(47:Int)) ((kr)) (
  ae (decide (0≤x2)) (ai x1[Int.toNat x2]? fun c4=>
  ae ((UInt8.toNat c4:Int)==(0:Int)) ((kr)) ((fQ x1 kr k0 n (IntKind.i64.wrap (x2+(1:Int)))))) (none))) (none)) ((k0))
noncomputable def eQ (w0:Str):Option (Bool):=
 fQ w0 (some false) (
 ae (decide ((List.length w0:Int)≥(1:Int))) (
 ae (decide ((List.length w0:Int)≤(255:Int))) (
 ae (!(w0==([46]:Str))) (some (!(w0==([46,46]:Str)))) (some false)) (some false)) (some false)) bo (0:Int)
noncomputable def ct {R:Type} (x1:Str) (k0:(List Str)→Option R):Nat→Str→Int→(List Str)→Option R
 |0,_,_,_=>none
 |n+1,x2,x3,x4=>
  ae (decide (x3≤(List.length x1:Int))) (
  ae (decide (x3<(List.length x1:Int))) (
  ae (decide (0≤x3)) (ai x1[Int.toNat x3]? fun c5=>
  ae ((UInt8.toNat c5:Int) !=(47:Int)) (
  ae (decide (0≤(IntKind.i64.wrap (x3+(1:Int)))∧(IntKind.i64.wrap (x3+(1:Int)))≤(x1.length:Int))) (
  ae (decide (0≤x3∧x3≤(IntKind.i64.wrap (x3+(1:Int))))) (aQ (x2.length+((x1.take (Int.toNat (IntKind.i64.wrap (x3+(1:Int))))).drop (Int.toNat x3)).length) ((ct x1 k0 n (x2++((x1.take (Int.toNat (IntKind.i64.wrap (x3+(1:Int))))).drop (Int.toNat x3))) (IntKind.i64.wrap (x3+(1:Int))) x4))) (none)) (none)) (
  ae (!(x2==([] :Str))) (aQ (x4.length+[x2].length) ((ct x1 k0 n ([] :Str) (IntKind.i64.wrap (x3+(1:Int))) (x4++[x2])))) ((ct x1 k0 n ([] :Str) (IntKind.i64.wrap (x3+(1:Int))) x4)))) (none)) (
  ae (!(x2==([] :Str))) (aQ (x4.length+[x2].length) ((ct x1 k0 n ([] :Str) (IntKind.i64.wrap (x3+(1:Int))) (x4++[x2])))) ((ct x1 k0 n ([] :Str) (IntKind.i64.wrap (x3+(1:Int))) x4)))) ((k0 x4))
noncomputable def gO (w0:Str):Option ((List Str)):=
 ct w0 (fun z7=>some z7) bo ([] :Str) (0:Int) ([] :List Str)
noncomputable def fp {R:Type} (x1:List Str) (k0:Str→Option R):Nat→Str→Int→Option R
 |0,_,_=>none
 |n+1,x2,x3=>
  ae (decide (x3<(List.length x1:Int))) (aQ (x2.length+([47]:Str).length) (
  ae (decide (0≤x3)) (ai x1[Int.toNat x3]? fun e4=>aQ ((x2++([47]:Str)).length+e4.length) ((fp x1 k0 n ((x2++([47]:Str))++e4) (IntKind.i64.wrap (x3+(1:Int)))))) (none))) ((k0 x2))
noncomputable def mQ (w0:(List Str)):Option (Str):=
 ae ((List.length w0:Int)==(0:Int)) (some ([47]:Str)) (fp w0 (fun z6=>some z6) bo ([] :Str) (0:Int))
noncomputable def dP {R:Type} (x3:List Str) (kr:Option R) (k0:Option R):Nat→Int→Option R
 |0,_=>none
 |n+1,x4=>
  ae (decide (x4<(List.length x3:Int))) (
  ae (decide (0≤x4)) (ai x3[Int.toNat x4]? fun e5=>ai (eQ e5) fun y6=>
  ae (!y6) ((kr)) ((dP x3 kr k0 n (IntKind.i64.wrap (x4+(1:Int)))))) (none)) ((k0))
noncomputable def kQ (w0:Str):Option ((List Str)×Bool):=
 ai (gO w0) fun y1=>dP y1 (some (([] :List Str),false)) (ai (mQ y1) fun y11=>
 ae (!(y11==w0)) (some (([] :List Str),false)) (some (y1,true))) bo (0:Int)
noncomputable def eE {R:Type} (x3:List Str) (kr:Option R) (k0:Option R):Nat→Int→Option R
 |0,_=>none
 |n+1,x4=>
  ae (decide (x4<(List.length x3:Int))) (
  ae (decide (0≤x4)) (ai x3[Int.toNat x4]? fun e5=>
  ae (decide ((List.length e5:Int)>(255:Int))) ((kr)) ((eE x3 kr k0 n (IntKind.i64.wrap (x4+(1:Int)))))) (none)) ((k0))
noncomputable def fC (w0:Str):Option (Bool):=
 ai (gO w0) fun y1=>eE y1 (some true) (some (decide ((List.length w0:Int)>(4095:Int)))) bo (0:Int)
noncomputable def dD (w0:Str):Option (Pth):=
 ai (gO w0) fun y1=>
 ae (decide ((List.length w0:Int)>(0:Int))) (
 ae (decide (0≤(0:Int))) (ai w0[Int.toNat (0:Int)]? fun c2=>
 ae (decide ((List.length y1:Int)>(0:Int))) (
 ae (decide (0≤(IntKind.i64.wrap ((List.length w0:Int) - (1:Int))))) (ai w0[Int.toNat (IntKind.i64.wrap ((List.length w0:Int) - (1:Int)))]? fun c3=>some (⟨((UInt8.toNat c2:Int)==(47:Int)),y1,((UInt8.toNat c3:Int)==(47:Int))⟩:Pth)) (none)) (some (⟨((UInt8.toNat c2:Int)==(47:Int)),y1,false⟩:Pth))) (none)) (
 ae (decide ((List.length y1:Int)>(0:Int))) (
 ae (decide (0≤(IntKind.i64.wrap ((List.length w0:Int) - (1:Int))))) (ai w0[Int.toNat (IntKind.i64.wrap ((List.length w0:Int) - (1:Int)))]? fun c4=>some (⟨false,y1,((UInt8.toNat c4:Int)==(47:Int))⟩:Pth)) (none)) (some (⟨false,y1,false⟩:Pth)))
end Go.Eng
set_option linter.unusedVariables false
set_option maxRecDepth 100000
namespace Go.Eng
open Go
noncomputable def fq {R:Type} (x1:List Entry) (x2:List Entry) (kr:Option R) (k0:Option R):Nat→Int→Option R
 |0,_=>none
 |n+1,x3=>
  ae (decide (x3<(List.length x1:Int))) (
  ae (decide (0≤x3)) (ai x1[Int.toNat x3]? fun e4=>
  ae (decide (0≤x3)) (ai x2[Int.toNat x3]? fun e5=>
  ae (!((e4.name==e5.name)&&(e4.ino==e5.ino))) ((kr)) ((fq x1 x2 kr k0 n (IntKind.i64.wrap (x3+(1:Int)))))) (none)) (none)) ((k0))
noncomputable def mP (w0:(List Entry)) (w1:(List Entry)):Option (Bool):=
 ae ((List.length w0:Int) !=(List.length w1:Int)) (some false) (fq w0 w1 (some false) (some true) bo (0:Int))
noncomputable def dR {R:Type} (x1:List Entry) (kr:Option R) (k0:Option R):Nat→Int→Option R
 |0,_=>none
 |n+1,x2=>
  ae (decide (x2<(List.length x1:Int))) (
  ae (decide (0≤x2)) (ai x1[Int.toNat x2]? fun e3=>ai (eQ e3.name) fun y4=>
  ae (!y4) ((kr)) (
  ae (decide (0≤x2)) (ai x1[Int.toNat x2]? fun e5=>
  ae (decide (e5.ino<(1:Int))) ((kr)) (
  ae (decide (x2>(0:Int))) (
  ae (decide (0≤(IntKind.i64.wrap (x2 - (1:Int))))) (ai x1[Int.toNat (IntKind.i64.wrap (x2 - (1:Int)))]? fun e6=>
  ae (decide (0≤x2)) (ai x1[Int.toNat x2]? fun e7=>
  ae (!Op.bytesLess e6.name e7.name) ((kr)) ((dR x1 kr k0 n (IntKind.i64.wrap (x2+(1:Int)))))) (none)) (none)) ((dR x1 kr k0 n (IntKind.i64.wrap (x2+(1:Int))))))) (none))) (none)) ((k0))
noncomputable def ep (w0:(List Entry)):Option (Bool):=
 dR w0 (some false) (some true) bo (0:Int)
noncomputable def fv {R:Type} (x1:List Entry) (x2:Str) (kr:Int→Option R) (k0:Option R):Nat→Int→Option R
 |0,_=>none
 |n+1,x3=>
  ae (decide (x3<(List.length x1:Int))) (
  ae (decide (0≤x3)) (ai x1[Int.toNat x3]? fun e4=>
  ae (e4.name==x2) (
  ae (decide (0≤x3)) (ai x1[Int.toNat x3]? fun e5=>(kr e5.ino)) (none)) ((fv x1 x2 kr k0 n (IntKind.i64.wrap (x3+(1:Int)))))) (none)) ((k0))
noncomputable def ix (w0:(List Entry)) (w1:Str):Option (Int×Bool):=
 fv w0 w1 (fun z8=>some (z8,true)) (some ((0:Int),false)) bo (0:Int)
noncomputable def di {R:Type} (x1:List Entry) (x2:Str) (k0:(List Entry)→Option R):Nat→Int→(List Entry)→Option R
 |0,_,_=>none
 |n+1,x3,x4=>
  ae (decide (x3<(List.length x1:Int))) (
  ae (decide (0≤x3)) (ai x1[Int.toNat x3]? fun e5=>
  ae (!(e5.name==x2)) (
  ae (decide (0≤x3)) (ai x1[Int.toNat x3]? fun e6=>aQ (x4.length+[e6].length) ((di x1 x2 k0 n (IntKind.i64.wrap (x3+(1:Int))) (x4++[e6])))) (none)) ((di x1 x2 k0 n (IntKind.i64.wrap (x3+(1:Int))) x4))) (none)) ((k0 x4))
noncomputable def dH (w0:(List Entry)) (w1:Str):Option ((List Entry)):=
 di w0 w1 (fun z8=>some z8) bo (0:Int) ([] :List Entry)
noncomputable def dK {R:Type} (x2:Str) (x3:Int) (x4:List Entry) (k0:Bool→(List Entry)→Option R):Nat→Bool→Int→(List Entry)→Option R
 |0,_,_,_=>none
 |n+1,x5,x6,x7=>
  ae (decide (x6<(List.length x4:Int))) (
  ae (!x5) (
  ae (decide (0≤x6)) (ai x4[Int.toNat x6]? fun e8=>
  ae (!(Op.bytesLess e8.name x2||e8.name==x2)) (aQ (x7.length+[(⟨x2,x3⟩:Entry)].length) (
  ae (decide (0≤x6)) (ai x4[Int.toNat x6]? fun e9=>aQ ((x7++[(⟨x2,x3⟩:Entry)]).length+[e9].length) ((dK x2 x3 x4 k0 n true (IntKind.i64.wrap (x6+(1:Int))) ((x7++[(⟨x2,x3⟩:Entry)])++[e9])))) (none))) (
  ae (decide (0≤x6)) (ai x4[Int.toNat x6]? fun e10=>aQ (x7.length+[e10].length) ((dK x2 x3 x4 k0 n x5 (IntKind.i64.wrap (x6+(1:Int))) (x7++[e10])))) (none))) (none)) (
  ae (decide (0≤x6)) (ai x4[Int.toNat x6]? fun e11=>aQ (x7.length+[e11].length) ((dK x2 x3 x4 k0 n x5 (IntKind.i64.wrap (x6+(1:Int))) (x7++[e11])))) (none))) ((k0 x5 x7))
noncomputable def eF (w0:(List Entry)) (w1:Str) (w2:Int):Option ((List Entry)):=
 ai (dH w0 w1) fun y1=>dK w1 w2 y1 (fun z16 z17=>
 ae (!z16) (aQ (z17.length+[(⟨w1,w2⟩:Entry)].length) (some (z17++[(⟨w1,w2⟩:Entry)]))) (some z17)) bo false (0:Int) ([] :List Entry)
end Go.Eng
set_option linter.unusedVariables false
set_option maxRecDepth 100000
namespace Go.Eng
open Go
noncomputable def eC {R:Type} (x1:Int) (x3:Fs) (k0:(List ah)→Option R):Nat→Int→(List ah)→Option R
 |0,_,_=>none
 |n+1,x2,x5=>
  ae (decide (x2<(List.length x3.aa:Int))) (
  ae (decide (0≤x2)) (ai x3.aa[Int.toNat x2]? fun e6=>
  ae (e6.ino !=x1) (
  ae (decide (0≤x2)) (ai x3.aa[Int.toNat x2]? fun e7=>aQ (x5.length+[e7].length) ((eC x1 x3 k0 n (IntKind.i64.wrap (x2+(1:Int))) (x5++[e7])))) (none)) ((eC x1 x3 k0 n (IntKind.i64.wrap (x2+(1:Int))) x5))) (none)) ((k0 x5))
noncomputable def kq (w0:Fs) (w1:Int):Option (Fs):=
 eC w1 w0 (fun z11=>some (⟨w0.ak,w0.aw,w0.next,z11⟩:Fs)) bo (0:Int) ([] :List ah)
noncomputable def eu {R:Type} (x2:List ah) (x6:ah) (k0:Bool→(List ah)→Option R):Nat→Bool→Int→(List ah)→Option R
 |0,_,_,_=>none
 |n+1,x3,x4,x8=>
  ae (decide (x4<(List.length x2:Int))) (
  ae (!x3) (
  ae (decide (0≤x4)) (ai x2[Int.toNat x4]? fun e9=>
  ae (decide (e9.ino>x6.ino)) (aQ (x8.length+[x6].length) (
  ae (decide (0≤x4)) (ai x2[Int.toNat x4]? fun e10=>aQ ((x8++[x6]).length+[e10].length) ((eu x2 x6 k0 n true (IntKind.i64.wrap (x4+(1:Int))) ((x8++[x6])++[e10])))) (none))) (
  ae (decide (0≤x4)) (ai x2[Int.toNat x4]? fun e11=>aQ (x8.length+[e11].length) ((eu x2 x6 k0 n x3 (IntKind.i64.wrap (x4+(1:Int))) (x8++[e11])))) (none))) (none)) (
  ae (decide (0≤x4)) (ai x2[Int.toNat x4]? fun e12=>aQ (x8.length+[e12].length) ((eu x2 x6 k0 n x3 (IntKind.i64.wrap (x4+(1:Int))) (x8++[e12])))) (none))) ((k0 x3 x8))
noncomputable def bN (w0:Fs) (w1:ah):Option (Fs):=
 ai (kq w0 w1.ino) fun y1=>eu y1.aa w1 (fun z18 z19=>
 ae (!z18) (aQ (z19.length+[w1].length) (some (⟨w0.ak,w0.aw,w0.next,(z19++[w1])⟩:Fs))) (some (⟨w0.ak,w0.aw,w0.next,z19⟩:Fs))) bo false (0:Int) ([] :List ah)
noncomputable def iF (w0:Int) (w1:Int):Option (Fs):=
 some (⟨w0,w1,(2:Int),[(⟨(1:Int),(2:Int),0, [],(1:Int),([] :List Entry)⟩:ah)]⟩:Fs)
noncomputable def fY {R:Type} (x1:Int) (x3:Fs) (kr:ah→Option R) (k0:Option R):Nat→Int→Option R
 |0,_=>none
 |n+1,x2=>
  ae (decide (x2<(List.length x3.aa:Int))) (
  ae (decide (0≤x2)) (ai x3.aa[Int.toNat x2]? fun e5=>
  ae (e5.ino==x1) (
  ae (decide (0≤x2)) (ai x3.aa[Int.toNat x2]? fun e6=>(kr e6)) (none)) ((fY x1 x3 kr k0 n (IntKind.i64.wrap (x2+(1:Int)))))) (none)) ((k0))
noncomputable def bu (w0:Fs) (w1:Int):Option (ah×Bool):=
 fY w1 w0 (fun z10=>some (z10,true)) (some ((⟨0,0,0, [],0,([] :List Entry)⟩:ah),false)) bo (0:Int)
noncomputable def gp {R:Type} (x2:Fs) (kr:Option R) (k0:Option R):Nat→Int→Option R
 |0,_=>none
 |n+1,x1=>
  ae (decide (x1<(List.length x2.aa:Int))) (
  ae (decide (0≤(IntKind.i64.wrap (x1 - (1:Int))))) (ai x2.aa[Int.toNat (IntKind.i64.wrap (x1 - (1:Int)))]? fun e3=>
  ae (decide (0≤x1)) (ai x2.aa[Int.toNat x1]? fun e4=>
  ae (decide (e3.ino≥e4.ino)) ((kr)) ((gp x2 kr k0 n (IntKind.i64.wrap (x1+(1:Int)))))) (none)) (none)) ((k0))
noncomputable def mb (w0:Fs):Option (Bool):=
 gp w0 (some false) (some true) bo (1:Int)
noncomputable def oa (w0:ah) (w1:ah):Option (Bool):=
 ae (w0.ino==w1.ino) (
 ae (w0.kind==w1.kind) (
 ae (w0.aL==w1.aL) (
 ae (w0.data==w1.data) (
 ae (w0.parent==w1.parent) (ai (mP w0.entries w1.entries) fun y1=>some y1) (some false)) (some false)) (some false)) (some false)) (some false)
noncomputable def ft {R:Type} (x1:List ah) (x2:List ah) (kr:Option R) (k0:Option R):Nat→Int→Option R
 |0,_=>none
 |n+1,x3=>
  ae (decide (x3<(List.length x1:Int))) (
  ae (decide (0≤x3)) (ai x1[Int.toNat x3]? fun e4=>
  ae (decide (0≤x3)) (ai x2[Int.toNat x3]? fun e5=>ai (oa e4 e5) fun y6=>
  ae (!y6) ((kr)) ((ft x1 x2 kr k0 n (IntKind.i64.wrap (x3+(1:Int)))))) (none)) (none)) ((k0))
noncomputable def mh (w0:(List ah)) (w1:(List ah)):Option (Bool):=
 ae ((List.length w0:Int) !=(List.length w1:Int)) (some false) (ft w0 w1 (some false) (some true) bo (0:Int))
noncomputable def cr (w0:Fs) (w1:Fs):Option (Bool):=
 ae (w0.ak==w1.ak) (
 ae (w0.aw==w1.aw) (
 ae (w0.next==w1.next) (ai (mh w0.aa w1.aa) fun y1=>some y1) (some false)) (some false)) (some false)
end Go.Eng
set_option linter.unusedVariables false
set_option maxRecDepth 100000
namespace Go.Eng
open Go
noncomputable def dW {R:Type} (x3:Fs) (k0:Int→Option R):Nat→Int→Int→Option R
 |0,_,_=>none
 |n+1,x1,x2=>
  ae (decide (x2<(List.length x3.aa:Int))) (
  ae (decide (0≤x2)) (ai x3.aa[Int.toNat x2]? fun e4=>
  ae (e4.kind==(1:Int)) (
  ae (decide (0≤x2)) (ai x3.aa[Int.toNat x2]? fun e5=>(dW x3 k0 n (IntKind.i64.wrap (x1+(List.length e5.data:Int))) (IntKind.i64.wrap (x2+(1:Int))))) (none)) ((dW x3 k0 n x1 (IntKind.i64.wrap (x2+(1:Int)))))) (none)) ((k0 x1))
noncomputable def k5 (w0:Fs):Option (Int):=
 dW w0 (fun z7=>some z7) bo (0:Int) (0:Int)
noncomputable def gD (w0:Fs) (w1:Int) (w2:Int):Option (Bool):=
 ae (decide ((IntKind.i64.wrap ((List.length w0.aa:Int)+w1))>w0.ak)) (some false) (ai (k5 w0) fun y1=>some (decide ((IntKind.i64.wrap (y1+w2))≤w0.aw)))
end Go.Eng
set_option linter.unusedVariables false
set_option maxRecDepth 100000
namespace Go.Eng
open Go
noncomputable def eT {R:Type} (x2:Fs) (kr:Option R) (k0:Option R):Nat→Int→Option R
 |0,_=>none
 |n+1,x1=>
  ae (decide (x1<(List.length x2.aa:Int))) (
  ae (decide (0≤x1)) (ai x2.aa[Int.toNat x1]? fun e3=>
  ae (decide (e3.ino<(1:Int))) ((kr)) (
  ae (decide (0≤x1)) (ai x2.aa[Int.toNat x1]? fun e4=>
  ae (decide (e4.ino≥x2.next)) ((kr)) ((eT x2 kr k0 n (IntKind.i64.wrap (x1+(1:Int)))))) (none))) (none)) ((k0))
noncomputable def kK (w0:Fs):Option (Bool):=
 ae (decide (w0.ak<(1:Int))) (some false) (
 ae (decide (w0.ak>(1073741824:Int))) (some false) (
 ae (decide (w0.aw<(0:Int))) (some false) (
 ae (decide (w0.aw>(1073741824:Int))) (some false) (
 ae (decide (w0.next>(1099511627776:Int))) (some false) (eT w0 (some false) (ai (bu w0 (1:Int)) fun y7=>ai (mb w0) fun y8=>
 ae y8 (
 ae y7.2 (some (y7.1.kind==(2:Int))) (some false)) (some false)) bo (0:Int))))))
noncomputable def aM {R:Type} (x8:ah) (kr:Option R) (k2:Option R):Nat→Int→Option R
 |0,_=>none
 |n+1,x6=>
  ae (decide (x6<(List.length x8.data:Int))) (
  ae (x8.kind==(3:Int)) (
  ae (decide (0≤x6)) (ai x8.data[Int.toNat x6]? fun c9=>
  ae ((UInt8.toNat c9:Int)==(0:Int)) ((kr)) ((aM x8 kr k2 n (IntKind.i64.wrap (x6+(1:Int)))))) (none)) ((k2))) ((k2))
noncomputable def aS {R:Type} (x2:Fs) (kr:Option R) (k0:Option R):Nat→Int→Option R
 |0,_=>none
 |n+1,x1=>
  ae (decide (x1<(List.length x2.aa:Int))) (
  ae (decide (0≤x1)) (ai x2.aa[Int.toNat x1]? fun e3=>
  ae (e3.kind !=(1:Int)) (
  ae (e3.kind !=(2:Int)) (
  ae (e3.kind !=(3:Int)) ((kr)) (
  ae (e3.kind !=(2:Int)) (
  ae (decide ((List.length e3.entries:Int)>(0:Int))) ((kr)) (
  ae (e3.parent !=(0:Int)) ((kr)) (
  ae (e3.kind==(2:Int)) (
  ae (!(e3.data==([] :Str))) ((kr)) (ai (ep e3.entries) fun y4=>
  ae (!y4) ((kr)) (
  ae (e3.kind==(3:Int)) (
  ae (decide ((List.length e3.data:Int)<(1:Int))) ((kr)) (
  ae (decide ((List.length e3.data:Int)>(4095:Int))) ((kr)) (aM e3 ((kr)) ((aS x2 kr k0 n (IntKind.i64.wrap (x1+(1:Int))))) bo (0:Int)))) (aM e3 ((kr)) ((aS x2 kr k0 n (IntKind.i64.wrap (x1+(1:Int))))) bo (0:Int))))) (
  ae (e3.kind==(3:Int)) (
  ae (decide ((List.length e3.data:Int)<(1:Int))) ((kr)) (
  ae (decide ((List.length e3.data:Int)>(4095:Int))) ((kr)) (aM e3 ((kr)) ((aS x2 kr k0 n (IntKind.i64.wrap (x1+(1:Int))))) bo (0:Int)))) (aM e3 ((kr)) ((aS x2 kr k0 n (IntKind.i64.wrap (x1+(1:Int))))) bo (0:Int)))))) (
  ae (e3.kind==(2:Int)) (
  ae (!(e3.data==([] :Str))) ((kr)) (ai (ep e3.entries) fun y13=>
  ae (!y13) ((kr)) (
  ae (e3.kind==(3:Int)) (
  ae (decide ((List.length e3.data:Int)<(1:Int))) ((kr)) (
  ae (decide ((List.length e3.data:Int)>(4095:Int))) ((kr)) (aM e3 ((kr)) ((aS x2 kr k0 n (IntKind.i64.wrap (x1+(1:Int))))) bo (0:Int)))) (aM e3 ((kr)) ((aS x2 kr k0 n (IntKind.i64.wrap (x1+(1:Int))))) bo (0:Int))))) (
  ae (e3.kind==(3:Int)) (
  ae (decide ((List.length e3.data:Int)<(1:Int))) ((kr)) (
  ae (decide ((List.length e3.data:Int)>(4095:Int))) ((kr)) (aM e3 ((kr)) ((aS x2 kr k0 n (IntKind.i64.wrap (x1+(1:Int))))) bo (0:Int)))) (aM e3 ((kr)) ((aS x2 kr k0 n (IntKind.i64.wrap (x1+(1:Int))))) bo (0:Int)))))) (
  ae (e3.kind !=(2:Int)) (
  ae (decide ((List.length e3.entries:Int)>(0:Int))) ((kr)) (
  ae (e3.parent !=(0:Int)) ((kr)) (
  ae (e3.kind==(2:Int)) (
  ae (!(e3.data==([] :Str))) ((kr)) (ai (ep e3.entries) fun y14=>
  ae (!y14) ((kr)) (
  ae (e3.kind==(3:Int)) (
  ae (decide ((List.length e3.data:Int)<(1:Int))) ((kr)) (
  ae (decide ((List.length e3.data:Int)>(4095:Int))) ((kr)) (aM e3 ((kr)) ((aS x2 kr k0 n (IntKind.i64.wrap (x1+(1:Int))))) bo (0:Int)))) (aM e3 ((kr)) ((aS x2 kr k0 n (IntKind.i64.wrap (x1+(1:Int))))) bo (0:Int))))) (
  ae (e3.kind==(3:Int)) (
  ae (decide ((List.length e3.data:Int)<(1:Int))) ((kr)) (
  ae (decide ((List.length e3.data:Int)>(4095:Int))) ((kr)) (aM e3 ((kr)) ((aS x2 kr k0 n (IntKind.i64.wrap (x1+(1:Int))))) bo (0:Int)))) (aM e3 ((kr)) ((aS x2 kr k0 n (IntKind.i64.wrap (x1+(1:Int))))) bo (0:Int)))))) (
  ae (e3.kind==(2:Int)) (
  ae (!(e3.data==([] :Str))) ((kr)) (ai (ep e3.entries) fun y15=>
  ae (!y15) ((kr)) (
  ae (e3.kind==(3:Int)) (
  ae (decide ((List.length e3.data:Int)<(1:Int))) ((kr)) (
  ae (decide ((List.length e3.data:Int)>(4095:Int))) ((kr)) (aM e3 ((kr)) ((aS x2 kr k0 n (IntKind.i64.wrap (x1+(1:Int))))) bo (0:Int)))) (aM e3 ((kr)) ((aS x2 kr k0 n (IntKind.i64.wrap (x1+(1:Int))))) bo (0:Int))))) (
  ae (e3.kind==(3:Int)) (
  ae (decide ((List.length e3.data:Int)<(1:Int))) ((kr)) (
  ae (decide ((List.length e3.data:Int)>(4095:Int))) ((kr)) (aM e3 ((kr)) ((aS x2 kr k0 n (IntKind.i64.wrap (x1+(1:Int))))) bo (0:Int)))) (aM e3 ((kr)) ((aS x2 kr k0 n (IntKind.i64.wrap (x1+(1:Int))))) bo (0:Int)))))) (
  ae (e3.kind !=(2:Int)) (
  ae (decide ((List.length e3.entries:Int)>(0:Int))) ((kr)) (
  ae (e3.parent !=(0:Int)) ((kr)) (
  ae (e3.kind==(2:Int)) (
  ae (!(e3.data==([] :Str))) ((kr)) (ai (ep e3.entries) fun y16=>
  ae (!y16) ((kr)) (
  ae (e3.kind==(3:Int)) (
  ae (decide ((List.length e3.data:Int)<(1:Int))) ((kr)) (
  ae (decide ((List.length e3.data:Int)>(4095:Int))) ((kr)) (aM e3 ((kr)) ((aS x2 kr k0 n (IntKind.i64.wrap (x1+(1:Int))))) bo (0:Int)))) (aM e3 ((kr)) ((aS x2 kr k0 n (IntKind.i64.wrap (x1+(1:Int))))) bo (0:Int))))) (
  ae (e3.kind==(3:Int)) (
  ae (decide ((List.length e3.data:Int)<(1:Int))) ((kr)) (
  ae (decide ((List.length e3.data:Int)>(4095:Int))) ((kr)) (aM e3 ((kr)) ((aS x2 kr k0 n (IntKind.i64.wrap (x1+(1:Int))))) bo (0:Int)))) (aM e3 ((kr)) ((aS x2 kr k0 n (IntKind.i64.wrap (x1+(1:Int))))) bo (0:Int)))))) (
  ae (e3.kind==(2:Int)) (
  ae (!(e3.data==([] :Str))) ((kr)) (ai (ep e3.entries) fun y17=>
  ae (!y17) ((kr)) (
  ae (e3.kind==(3:Int)) (
  ae (decide ((List.length e3.data:Int)<(1:Int))) ((kr)) (
  ae (decide ((List.length e3.data:Int)>(4095:Int))) ((kr)) (aM e3 ((kr)) ((aS x2 kr k0 n (IntKind.i64.wrap (x1+(1:Int))))) bo (0:Int)))) (aM e3 ((kr)) ((aS x2 kr k0 n (IntKind.i64.wrap (x1+(1:Int))))) bo (0:Int))))) (
  ae (e3.kind==(3:Int)) (
  ae (decide ((List.length e3.data:Int)<(1:Int))) ((kr)) (
  ae (decide ((List.length e3.data:Int)>(4095:Int))) ((kr)) (aM e3 ((kr)) ((aS x2 kr k0 n (IntKind.i64.wrap (x1+(1:Int))))) bo (0:Int)))) (aM e3 ((kr)) ((aS x2 kr k0 n (IntKind.i64.wrap (x1+(1:Int))))) bo (0:Int)))))) (none)) ((k0))
noncomputable def jK (w0:Fs):Option (Bool):=
 aS w0 (some false) (some true) bo (0:Int)
noncomputable def dQ {R:Type} (x3:Int) (x5:Fs) (kr:Option R) (k2:Option R):Nat→Int→Option R
 |0,_=>none
 |n+1,x4=>
  ae (decide (0≤x3)) (ai x5.aa[Int.toNat x3]? fun e6=>
  ae (decide (x4<(List.length e6.entries:Int))) (
  ae (decide (0≤x3)) (ai x5.aa[Int.toNat x3]? fun e7=>
  ae (decide (0≤x4)) (ai e7.entries[Int.toNat x4]? fun e8=>ai (bu x5 e8.ino) fun y9=>
  ae (!y9.2) ((kr)) ((dQ x3 x5 kr k2 n (IntKind.i64.wrap (x4+(1:Int)))))) (none)) (none)) ((k2))) (none)
noncomputable def eW {R:Type} (x2:Fs) (kr:Option R) (k0:Option R):Nat→Int→Option R
 |0,_=>none
 |n+1,x1=>
  ae (decide (x1<(List.length x2.aa:Int))) (dQ x1 x2 ((kr)) ((eW x2 kr k0 n (IntKind.i64.wrap (x1+(1:Int))))) bo (0:Int)) ((k0))
noncomputable def kJ (w0:Fs):Option (Bool):=
 eW w0 (some false) (some true) bo (0:Int)
noncomputable def dv {R:Type} (x6:Int) (x9:Int) (x11:Fs) (k2:Int→Int→Option R):Nat→Int→Int→Int→Option R
 |0,_,_,_=>none
 |n+1,x7,x8,x10=>
  ae (decide (0≤x9)) (ai x11.aa[Int.toNat x9]? fun e12=>
  ae (decide (x10<(List.length e12.entries:Int))) (
  ae (decide (0≤x9)) (ai x11.aa[Int.toNat x9]? fun e13=>
  ae (decide (0≤x10)) (ai e13.entries[Int.toNat x10]? fun e14=>
  ae (e14.ino==x6) (
  ae (decide (0≤x9)) (ai x11.aa[Int.toNat x9]? fun e15=>(dv x6 x9 x11 k2 n (IntKind.i64.wrap (x7+(1:Int))) e15.ino (IntKind.i64.wrap (x10+(1:Int))))) (none)) ((dv x6 x9 x11 k2 n x7 x8 (IntKind.i64.wrap (x10+(1:Int)))))) (none)) (none)) ((k2 x7 x8))) (none)
noncomputable def e_ {R:Type} (x1:Int) (x5:Fs) (k0:Int→Int→Option R):Nat→Int→Int→Int→Option R
 |0,_,_,_=>none
 |n+1,x2,x3,x4=>
  ae (decide (x4<(List.length x5.aa:Int))) (dv x1 x4 x5 (fun z21 z22=>(e_ x1 x5 k0 n z21 z22 (IntKind.i64.wrap (x4+(1:Int))))) bo x2 x3 (0:Int)) ((k0 x2 x3))
noncomputable def kZ (w0:Fs) (w1:Int):Option (Int×Int):=
 e_ w1 w0 (fun z25 z26=>some (z25,z26)) bo (0:Int) (0:Int) (0:Int)
noncomputable def cZ {R:Type} (x2:Fs) (kr:Option R) (k0:Option R):Nat→Int→Option R
 |0,_=>none
 |n+1,x1=>
  ae (decide (x1<(List.length x2.aa:Int))) (
  ae (decide (0≤x1)) (ai x2.aa[Int.toNat x1]? fun e3=>ai (kZ x2 e3.ino) fun y4=>
  ae (e3.aL !=y4.1) ((kr)) (
  ae (e3.ino==(1:Int)) (
  ae (y4.1 !=(0:Int)) ((kr)) (
  ae (e3.parent !=(1:Int)) ((kr)) ((cZ x2 kr k0 n (IntKind.i64.wrap (x1+(1:Int))))))) (
  ae (decide (y4.1<(1:Int))) ((kr)) (
  ae (e3.kind==(2:Int)) (
  ae (y4.1 !=(1:Int)) ((kr)) (
  ae (e3.parent !=y4.2) ((kr)) ((cZ x2 kr k0 n (IntKind.i64.wrap (x1+(1:Int))))))) ((cZ x2 kr k0 n (IntKind.i64.wrap (x1+(1:Int))))))))) (none)) ((k0))
noncomputable def jH (w0:Fs):Option (Bool):=
 cZ w0 (some false) (some true) bo (0:Int)
noncomputable def c_ {R:Type} (x12:Int) (x16:List Int) (x17:ah) (k4:Bool→Option R):Nat→Bool→Int→Option R
 |0,_,_=>none
 |n+1,x13,x14=>
  ae (decide (x14<(List.length x16:Int))) (
  ae x13 ((c_ x12 x16 x17 k4 n true (IntKind.i64.wrap (x14+(1:Int))))) (
  ae (decide (0≤x14∧x14<(x16.length:Int))) (ai x16[(Int.toNat x14)]? fun e18=>
  ae (decide (0≤x12)) (ai x17.entries[Int.toNat x12]? fun e19=>(c_ x12 x16 x17 k4 n (e18==e19.ino) (IntKind.i64.wrap (x14+(1:Int))))) (none)) (none))) ((k4 x13))
noncomputable def dx {R:Type} (x10:ah) (k2:(List Int)→Option R):Nat→Int→(List Int)→Option R
 |0,_,_=>none
 |n+1,x7,x9=>
  ae (decide (x7<(List.length x10.entries:Int))) (c_ x7 x9 x10 (fun z26=>
  ae (!z26) (
  ae (decide (0≤x7)) (ai x10.entries[Int.toNat x7]? fun e27=>aQ (x9.length+[e27.ino].length) ((dx x10 k2 n (IntKind.i64.wrap (x7+(1:Int))) (x9++[e27.ino])))) (none)) ((dx x10 k2 n (IntKind.i64.wrap (x7+(1:Int))) x9))) bo false (0:Int)) ((k2 x9))
noncomputable def fM {R:Type} (x2:Fs) (k0:(List Int)→Option R):Nat→Int→(List Int)→Option R
 |0,_,_=>none
 |n+1,x1,x3=>
  ae (decide (x1<(List.length x3:Int))) (
  ae (decide (0≤x1∧x1<(x3.length:Int))) (ai x3[(Int.toNat x1)]? fun e4=>ai (bu x2 e4) fun y5=>dx y5.1 (fun z31=>(fM x2 k0 n (IntKind.i64.wrap (x1+(1:Int))) z31)) bo (0:Int) x3) (none)) ((k0 x3))
noncomputable def kD (w0:Fs):Option (Bool):=
 fM w0 (fun z34=>some ((List.length z34:Int)==(List.length w0.aa:Int))) bo (0:Int) [(1:Int)]
noncomputable def je (w0:Fs):Option (Int):=
 ai (kK w0) fun y1=>
 ae (!y1) (some (1:Int)) (ai (jK w0) fun y2=>
 ae (!y2) (some (2:Int)) (ai (kJ w0) fun y3=>
 ae (!y3) (some (3:Int)) (ai (jH w0) fun y4=>
 ae (!y4) (some (4:Int)) (ai (kD w0) fun y5=>
 ae (!y5) (some (5:Int)) (ai (gD w0 (0:Int) (0:Int)) fun y6=>
 ae (!y6) (some (6:Int)) (some (0:Int)))))))
end Go.Eng
set_option linter.unusedVariables false
set_option maxRecDepth 100000
namespace Go.Eng
open Go
noncomputable def gR {R:Type} (x2:List Str) (x4:Fs) (kr:Int→Option R) (k0:aj→Option R):Nat→Int→aj→Option R
 |0,_,_=>none
 |n+1,x3,x6=>
  ae (decide (x3<(List.length x2:Int))) (
  ae (x6.ino==(0:Int)) ((kr (1:Int))) (ai (bu x4 x6.ino) fun y7=>
  ae (y7.1.kind !=(2:Int)) ((kr (3:Int))) (
  ae (decide (0≤x3)) (ai x2[Int.toNat x3]? fun e8=>ai (ix y7.1.entries e8) fun y9=>
  ae (decide (0≤x3)) (ai x2[Int.toNat x3]? fun e10=>(gR x2 x4 kr k0 n (IntKind.i64.wrap (x3+(1:Int))) (⟨y7.1.ino,e10,y9.1⟩:aj))) (none)) (none)))) ((k0 x6))
noncomputable def pF (w0:Fs) (w1:Str):Option (aj×Int):=
 ai (kQ w1) fun y1=>
 ae (!y1.2) (some ((⟨0, [],0⟩:aj),(9:Int))) (gR y1.1 w0 (fun z15=>some ((⟨((⟨0, [],0⟩:aj).dir),((⟨0, [],0⟩:aj).name),((⟨0, [],0⟩:aj).ino)⟩:aj),z15)) (fun z16=>some (z16,(0:Int))) bo (0:Int) (⟨0, [],(1:Int)⟩:aj))
noncomputable def n7 (w0:Fs) (w1:Str):Option (ah×Int):=
 ai (pF w0 w1) fun y1=>
 ae (y1.2 !=(0:Int)) (some ((⟨0,0,0, [],0,([] :List Entry)⟩:ah),y1.2)) (
 ae (y1.1.ino==(0:Int)) (some ((⟨0,0,0, [],0,([] :List Entry)⟩:ah),(1:Int))) (ai (bu w0 y1.1.ino) fun y2=>some (y2.1,(0:Int))))
end Go.Eng
set_option linter.unusedVariables false
set_option maxRecDepth 100000
namespace Go.Eng
open Go
noncomputable def mq (w0:Fs) (w1:Str):Option (Int×Int):=
 ai (n7 w0 w1) fun y1=>
 ae (y1.2 !=(0:Int)) (some ((0:Int),y1.2)) (
 ae (y1.1.kind !=(2:Int)) (some ((0:Int),(3:Int))) (some (y1.1.ino,(0:Int))))
noncomputable def bl:Nat→Fs→aj→(List Str)→Bool→Bool→Int→Option (aj×Int)
 |0=>fun _ _ _ _ _ _=>none
 |n+1=>fun w0 w1 w2 w3 w4 w5=>
  ae ((List.length w2:Int)==(0:Int)) (ai (bu w0 w1.ino) fun y1=>
  ae y1.2 (
  ae w4 (
  ae (y1.1.kind !=(2:Int)) (some ((⟨0, [],0⟩:aj),(3:Int))) (some (w1,(0:Int)))) (some (w1,(0:Int)))) (some (w1,(0:Int)))) (
  ae (w1.ino==(0:Int)) (some ((⟨0, [],0⟩:aj),(1:Int))) (ai (bu w0 w1.ino) fun y2=>
  ae (y2.1.kind !=(2:Int)) (some ((⟨0, [],0⟩:aj),(3:Int))) (
  ae (decide (0≤(0:Int))) (ai w2[Int.toNat (0:Int)]? fun e3=>
  ae (decide (0≤(1:Int)∧(1:Int)≤(w2.length:Int))) (
  ae (e3==([46]:Str)) (ai ((bl n) w0 (⟨0, [],y2.1.ino⟩:aj) (w2.drop (Int.toNat (1:Int))) w3 w4 w5) fun y4=>some (y4.1,y4.2)) (
  ae (e3==([46,46]:Str)) (ai ((bl n) w0 (⟨0, [],y2.1.parent⟩:aj) (w2.drop (Int.toNat (1:Int))) w3 w4 w5) fun y5=>some (y5.1,y5.2)) (ai (ix y2.1.entries e3) fun y6=>ai (bu w0 y6.1) fun y7=>
  ae (!y6.2) (ai ((bl n) w0 (⟨y2.1.ino,e3,y6.1⟩:aj) (w2.drop (Int.toNat (1:Int))) w3 w4 w5) fun y8=>some (y8.1,y8.2)) (
  ae (y7.1.kind !=(3:Int)) (ai ((bl n) w0 (⟨y2.1.ino,e3,y6.1⟩:aj) (w2.drop (Int.toNat (1:Int))) w3 w4 w5) fun y9=>some (y9.1,y9.2)) (
  ae ((List.length (w2.drop (Int.toNat (1:Int))):Int)==(0:Int)) (
  ae (!w3) (
  ae (!w4) (ai ((bl n) w0 (⟨y2.1.ino,e3,y6.1⟩:aj) (w2.drop (Int.toNat (1:Int))) w3 w4 w5) fun y10=>some (y10.1,y10.2)) (
  ae (w5==(40:Int)) (some ((⟨0, [],0⟩:aj),(6:Int))) (ai (fC y7.1.data) fun y11=>
  ae y11 (some ((⟨0, [],0⟩:aj),(7:Int))) (ai (dD y7.1.data) fun y12=>
  ae y12.abs (
  ae y12.bM (
  ae ((List.length (w2.drop (Int.toNat (1:Int))):Int)==(0:Int)) (aQ (([] :List Str).length+y12.names.length) (aQ (y12.names.length+(w2.drop (Int.toNat (1:Int))).length) (ai ((bl n) w0 (⟨0, [],(1:Int)⟩:aj) (y12.names++(w2.drop (Int.toNat (1:Int)))) w3 true (IntKind.i64.wrap (w5+(1:Int)))) fun y13=>some (y13.1,y13.2)))) (aQ (([] :List Str).length+y12.names.length) (aQ (y12.names.length+(w2.drop (Int.toNat (1:Int))).length) (ai ((bl n) w0 (⟨0, [],(1:Int)⟩:aj) (y12.names++(w2.drop (Int.toNat (1:Int)))) w3 w4 (IntKind.i64.wrap (w5+(1:Int)))) fun y14=>some (y14.1,y14.2))))) (aQ (([] :List Str).length+y12.names.length) (aQ (y12.names.length+(w2.drop (Int.toNat (1:Int))).length) (ai ((bl n) w0 (⟨0, [],(1:Int)⟩:aj) (y12.names++(w2.drop (Int.toNat (1:Int)))) w3 w4 (IntKind.i64.wrap (w5+(1:Int)))) fun y15=>some (y15.1,y15.2))))) (
  ae y12.bM (
  ae ((List.length (w2.drop (Int.toNat (1:Int))):Int)==(0:Int)) (aQ (([] :List Str).length+y12.names.length) (aQ (y12.names.length+(w2.drop (Int.toNat (1:Int))).length) (ai ((bl n) w0 (⟨0, [],y2.1.ino⟩:aj) (y12.names++(w2.drop (Int.toNat (1:Int)))) w3 true (IntKind.i64.wrap (w5+(1:Int)))) fun y16=>some (y16.1,y16.2)))) (aQ (([] :List Str).length+y12.names.length) (aQ (y12.names.length+(w2.drop (Int.toNat (1:Int))).length) (ai ((bl n) w0 (⟨0, [],y2.1.ino⟩:aj) (y12.names++(w2.drop (Int.toNat (1:Int)))) w3 w4 (IntKind.i64.wrap (w5+(1:Int)))) fun y17=>some (y17.1,y17.2))))) (aQ (([] :List Str).length+y12.names.length) (aQ (y12.names.length+(w2.drop (Int.toNat (1:Int))).length) (ai ((bl n) w0 (⟨0, [],y2.1.ino⟩:aj) (y12.names++(w2.drop (Int.toNat (1:Int)))) w3 w4 (IntKind.i64.wrap (w5+(1:Int)))) fun y18=>some (y18.1,y18.2))))))))) (
  ae (w5==(40:Int)) (some ((⟨0, [],0⟩:aj),(6:Int))) (ai (fC y7.1.data) fun y19=>
  ae y19 (some ((⟨0, [],0⟩:aj),(7:Int))) (ai (dD y7.1.data) fun y20=>
  ae y20.abs (
  ae y20.bM (
  ae ((List.length (w2.drop (Int.toNat (1:Int))):Int)==(0:Int)) (aQ (([] :List Str).length+y20.names.length) (aQ (y20.names.length+(w2.drop (Int.toNat (1:Int))).length) (ai ((bl n) w0 (⟨0, [],(1:Int)⟩:aj) (y20.names++(w2.drop (Int.toNat (1:Int)))) w3 true (IntKind.i64.wrap (w5+(1:Int)))) fun y21=>some (y21.1,y21.2)))) (aQ (([] :List Str).length+y20.names.length) (aQ (y20.names.length+(w2.drop (Int.toNat (1:Int))).length) (ai ((bl n) w0 (⟨0, [],(1:Int)⟩:aj) (y20.names++(w2.drop (Int.toNat (1:Int)))) w3 w4 (IntKind.i64.wrap (w5+(1:Int)))) fun y22=>some (y22.1,y22.2))))) (aQ (([] :List Str).length+y20.names.length) (aQ (y20.names.length+(w2.drop (Int.toNat (1:Int))).length) (ai ((bl n) w0 (⟨0, [],(1:Int)⟩:aj) (y20.names++(w2.drop (Int.toNat (1:Int)))) w3 w4 (IntKind.i64.wrap (w5+(1:Int)))) fun y23=>some (y23.1,y23.2))))) (
  ae y20.bM (
  ae ((List.length (w2.drop (Int.toNat (1:Int))):Int)==(0:Int)) (aQ (([] :List Str).length+y20.names.length) (aQ (y20.names.length+(w2.drop (Int.toNat (1:Int))).length) (ai ((bl n) w0 (⟨0, [],y2.1.ino⟩:aj) (y20.names++(w2.drop (Int.toNat (1:Int)))) w3 true (IntKind.i64.wrap (w5+(1:Int)))) fun y24=>some (y24.1,y24.2)))) (aQ (([] :List Str).length+y20.names.length) (aQ (y20.names.length+(w2.drop (Int.toNat (1:Int))).length) (ai ((bl n) w0 (⟨0, [],y2.1.ino⟩:aj) (y20.names++(w2.drop (Int.toNat (1:Int)))) w3 w4 (IntKind.i64.wrap (w5+(1:Int)))) fun y25=>some (y25.1,y25.2))))) (aQ (([] :List Str).length+y20.names.length) (aQ (y20.names.length+(w2.drop (Int.toNat (1:Int))).length) (ai ((bl n) w0 (⟨0, [],y2.1.ino⟩:aj) (y20.names++(w2.drop (Int.toNat (1:Int)))) w3 w4 (IntKind.i64.wrap (w5+(1:Int)))) fun y26=>some (y26.1,y26.2))))))))) (
  ae (w5==(40:Int)) (some ((⟨0, [],0⟩:aj),(6:Int))) (ai (fC y7.1.data) fun y27=>
  ae y27 (some ((⟨0, [],0⟩:aj),(7:Int))) (ai (dD y7.1.data) fun y28=>
  ae y28.abs (
  ae y28.bM (
  ae ((List.length (w2.drop (Int.toNat (1:Int))):Int)==(0:Int)) (aQ (([] :List Str).length+y28.names.length) (aQ (y28.names.length+(w2.drop (Int.toNat (1:Int))).length) (ai ((bl n) w0 (⟨0, [],(1:Int)⟩:aj) (y28.names++(w2.drop (Int.toNat (1:Int)))) w3 true (IntKind.i64.wrap (w5+(1:Int)))) fun y29=>some (y29.1,y29.2)))) (aQ (([] :List Str).length+y28.names.length) (aQ (y28.names.length+(w2.drop (Int.toNat (1:Int))).length) (ai ((bl n) w0 (⟨0, [],(1:Int)⟩:aj) (y28.names++(w2.drop (Int.toNat (1:Int)))) w3 w4 (IntKind.i64.wrap (w5+(1:Int)))) fun y30=>some (y30.1,y30.2))))) (aQ (([] :List Str).length+y28.names.length) (aQ (y28.names.length+(w2.drop (Int.toNat (1:Int))).length) (ai ((bl n) w0 (⟨0, [],(1:Int)⟩:aj) (y28.names++(w2.drop (Int.toNat (1:Int)))) w3 w4 (IntKind.i64.wrap (w5+(1:Int)))) fun y31=>some (y31.1,y31.2))))) (
  ae y28.bM (
  ae ((List.length (w2.drop (Int.toNat (1:Int))):Int)==(0:Int)) (aQ (([] :List Str).length+y28.names.length) (aQ (y28.names.length+(w2.drop (Int.toNat (1:Int))).length) (ai ((bl n) w0 (⟨0, [],y2.1.ino⟩:aj) (y28.names++(w2.drop (Int.toNat (1:Int)))) w3 true (IntKind.i64.wrap (w5+(1:Int)))) fun y32=>some (y32.1,y32.2)))) (aQ (([] :List Str).length+y28.names.length) (aQ (y28.names.length+(w2.drop (Int.toNat (1:Int))).length) (ai ((bl n) w0 (⟨0, [],y2.1.ino⟩:aj) (y28.names++(w2.drop (Int.toNat (1:Int)))) w3 w4 (IntKind.i64.wrap (w5+(1:Int)))) fun y33=>some (y33.1,y33.2))))) (aQ (([] :List Str).length+y28.names.length) (aQ (y28.names.length+(w2.drop (Int.toNat (1:Int))).length) (ai ((bl n) w0 (⟨0, [],y2.1.ino⟩:aj) (y28.names++(w2.drop (Int.toNat (1:Int)))) w3 w4 (IntKind.i64.wrap (w5+(1:Int)))) fun y34=>some (y34.1,y34.2))))))))))))) (none)) (none))))
noncomputable def nL (w0:Fs) (w1:aj) (w2:(List Str)) (w3:Bool) (w4:Bool) (w5:Int):Option (aj×Int):=bl bo w0 w1 w2 w3 w4 w5
noncomputable def dY (w0:Fs) (w1:Str) (w2:Str) (w3:Bool):Option (aj×Int):=
 ae (w2==([] :Str)) (some ((⟨0, [],0⟩:aj),(1:Int))) (ai (fC w2) fun y1=>
 ae y1 (some ((⟨0, [],0⟩:aj),(7:Int))) (ai (dD w2) fun y2=>
 ae (!y2.abs) (ai (mq w0 w1) fun y3=>
 ae (y3.2 !=(0:Int)) (some ((⟨0, [],0⟩:aj),y3.2)) (ai (nL w0 (⟨0, [],y3.1⟩:aj) y2.names w3 y2.bM (0:Int)) fun y4=>some (y4.1,y4.2))) (ai (nL w0 (⟨0, [],(1:Int)⟩:aj) y2.names w3 y2.bM (0:Int)) fun y5=>some (y5.1,y5.2))))
end Go.Eng
set_option linter.unusedVariables false
set_option maxRecDepth 100000
namespace Go.Eng
open Go
noncomputable def jW (w0:Fs) (w1:aj) (w2:Int) (w3:Str):Option (Fs×Int):=
 ai (eQ w1.name) fun y1=>
 ae (!y1) (some (w0,(9:Int))) (
 ae (w2==(1:Int)) (ai (gD w0 (1:Int) (List.length w3:Int)) fun y2=>
 ae (!y2) (some (w0,(8:Int))) (ai (bu w0 w1.dir) fun y3=>ai (eF y3.1.entries w1.name w0.next) fun y4=>
 ae (w2==(2:Int)) (ai (bN w0 (⟨y3.1.ino,y3.1.kind,y3.1.aL,y3.1.data,y3.1.parent,y4⟩:ah)) fun y5=>ai (bN y5 (⟨w0.next,w2,(1:Int),w3,w1.dir,([] :List Entry)⟩:ah)) fun y6=>some ((⟨y6.ak,y6.aw,(IntKind.i64.wrap (y6.next+(1:Int))),y6.aa⟩:Fs),(0:Int))) (ai (bN w0 (⟨y3.1.ino,y3.1.kind,y3.1.aL,y3.1.data,y3.1.parent,y4⟩:ah)) fun y7=>ai (bN y7 (⟨w0.next,w2,(1:Int),w3,0,([] :List Entry)⟩:ah)) fun y8=>some ((⟨y8.ak,y8.aw,(IntKind.i64.wrap (y8.next+(1:Int))),y8.aa⟩:Fs),(0:Int))))) (ai (gD w0 (1:Int) (0:Int)) fun y9=>
 ae (!y9) (some (w0,(8:Int))) (ai (bu w0 w1.dir) fun y10=>ai (eF y10.1.entries w1.name w0.next) fun y11=>
 ae (w2==(2:Int)) (ai (bN w0 (⟨y10.1.ino,y10.1.kind,y10.1.aL,y10.1.data,y10.1.parent,y11⟩:ah)) fun y12=>ai (bN y12 (⟨w0.next,w2,(1:Int),w3,w1.dir,([] :List Entry)⟩:ah)) fun y13=>some ((⟨y13.ak,y13.aw,(IntKind.i64.wrap (y13.next+(1:Int))),y13.aa⟩:Fs),(0:Int))) (ai (bN w0 (⟨y10.1.ino,y10.1.kind,y10.1.aL,y10.1.data,y10.1.parent,y11⟩:ah)) fun y14=>ai (bN y14 (⟨w0.next,w2,(1:Int),w3,0,([] :List Entry)⟩:ah)) fun y15=>some ((⟨y15.ak,y15.aw,(IntKind.i64.wrap (y15.next+(1:Int))),y15.aa⟩:Fs),(0:Int))))))
noncomputable def iB (w0:Fs) (w1:Str) (w2:Str) (w3:Int) (w4:Str) (w5:Int):Option (Fs×Int):=
 ai (dY w0 w1 w2 false) fun y1=>
 ae (y1.2 !=(0:Int)) (some (w0,y1.2)) (
 ae (y1.1.ino !=(0:Int)) (some (w0,(2:Int))) (
 ae (w5 !=(0:Int)) (ai (dD w2) fun y2=>
 ae y2.bM (some (w0,w5)) (ai (jW w0 y1.1 w3 w4) fun y3=>some (y3.1,y3.2))) (ai (jW w0 y1.1 w3 w4) fun y4=>some (y4.1,y4.2))))
noncomputable def kE (w0:Fs) (w1:Str) (w2:Str):Option (Fs×Int):=
 ai (iB w0 w1 w2 (2:Int) ([] :Str) (0:Int)) fun y1=>some (y1.1,y1.2)
noncomputable def jI (w0:Fs) (w1:Str) (w2:Str) (w3:Str):Option (Fs×Int):=
 ai (iB w0 w1 w2 (1:Int) w3 (4:Int)) fun y1=>some (y1.1,y1.2)
noncomputable def dj {R:Type} (x2:Str) (kr:Option R) (k0:Option R):Nat→Int→Option R
 |0,_=>none
 |n+1,x4=>
  ae (decide (x4<(List.length x2:Int))) (
  ae (decide (0≤x4)) (ai x2[Int.toNat x4]? fun c7=>
  ae ((UInt8.toNat c7:Int)==(0:Int)) ((kr)) ((dj x2 kr k0 n (IntKind.i64.wrap (x4+(1:Int)))))) (none)) ((k0))
noncomputable def iT (w0:Fs) (w1:Str) (w2:Str) (w3:Str):Option (Fs×Int):=
 ae (w2==([] :Str)) (some (w0,(1:Int))) (
 ae (decide ((List.length w2:Int)>(4095:Int))) (some (w0,(7:Int))) (dj w2 (some (w0,(9:Int))) (ai (iB w0 w1 w3 (3:Int) w2 (1:Int)) fun y15=>some (y15.1,y15.2)) bo (0:Int)))
end Go.Eng
set_option linter.unusedVariables false
set_option maxRecDepth 100000
namespace Go.Eng
open Go
noncomputable def mL (w0:Fs) (w1:aj) (w2:Int):Option (Fs):=
 ai (bu w0 w1.dir) fun y1=>ai (bu w0 w2) fun y2=>ai (eF y1.1.entries w1.name w2) fun y3=>ai (bN w0 (⟨y1.1.ino,y1.1.kind,y1.1.aL,y1.1.data,y1.1.parent,y3⟩:ah)) fun y4=>ai (bN y4 (⟨y2.1.ino,y2.1.kind,(IntKind.i64.wrap (y2.1.aL+(1:Int))),y2.1.data,y2.1.parent,y2.1.entries⟩:ah)) fun y5=>some y5
noncomputable def mU (w0:Fs) (w1:Str) (w2:Str) (w3:Str):Option (Fs×Int):=
 ai (dY w0 w1 w2 false) fun y1=>
 ae (y1.2 !=(0:Int)) (some (w0,y1.2)) (
 ae (y1.1.ino==(0:Int)) (some (w0,(1:Int))) (ai (bu w0 y1.1.ino) fun y2=>
 ae (y2.1.kind==(2:Int)) (some (w0,(11:Int))) (ai (dY w0 w1 w3 false) fun y3=>
 ae (y3.2 !=(0:Int)) (some (w0,y3.2)) (
 ae (y3.1.ino !=(0:Int)) (some (w0,(2:Int))) (ai (dD w3) fun y4=>
 ae y4.bM (some (w0,(1:Int))) (ai (eQ y3.1.name) fun y5=>
 ae (!y5) (some (w0,(9:Int))) (ai (mL w0 y3.1 y2.1.ino) fun y6=>some (y6,(0:Int)))))))))
noncomputable def fU (w0:Fs) (w1:aj):Option (Fs):=
 ai (bu w0 w1.dir) fun y1=>ai (bu w0 w1.ino) fun y2=>ai (dH y1.1.entries w1.name) fun y3=>ai (bN w0 (⟨y1.1.ino,y1.1.kind,y1.1.aL,y1.1.data,y1.1.parent,y3⟩:ah)) fun y4=>
 ae ((IntKind.i64.wrap (y2.1.aL - (1:Int)))==(0:Int)) (ai (kq y4 w1.ino) fun y5=>some y5) (ai (bN y4 (⟨y2.1.ino,y2.1.kind,(IntKind.i64.wrap (y2.1.aL - (1:Int))),y2.1.data,y2.1.parent,y2.1.entries⟩:ah)) fun y6=>some y6)
noncomputable def jJ (w0:Fs) (w1:Str) (w2:Str):Option (Fs×Int):=
 ai (dY w0 w1 w2 false) fun y1=>
 ae (y1.2 !=(0:Int)) (some (w0,y1.2)) (
 ae (y1.1.ino==(0:Int)) (some (w0,(1:Int))) (ai (bu w0 y1.1.ino) fun y2=>
 ae (y2.1.kind==(2:Int)) (some (w0,(4:Int))) (ai (fU w0 y1.1) fun y3=>some (y3,(0:Int)))))
noncomputable def kY (w0:Fs) (w1:Str) (w2:Str):Option (Fs×Int):=
 ai (dY w0 w1 w2 false) fun y1=>
 ae (y1.2 !=(0:Int)) (some (w0,y1.2)) (
 ae (y1.1.ino==(0:Int)) (some (w0,(1:Int))) (ai (bu w0 y1.1.ino) fun y2=>
 ae (y2.1.kind !=(2:Int)) (some (w0,(3:Int))) (
 ae (y2.1.ino==(1:Int)) (some (w0,(10:Int))) (
 ae (y1.1.name==([] :Str)) (some (w0,(9:Int))) (
 ae (decide ((List.length y2.1.entries:Int)>(0:Int))) (some (w0,(5:Int))) (ai (fU w0 y1.1) fun y3=>some (y3,(0:Int))))))))
end Go.Eng
set_option linter.unusedVariables false
set_option maxRecDepth 100000
namespace Go.Eng
open Go
noncomputable def ko (w0:Fs) (w1:Str) (w2:Str) (w3:Bool):Option (ah×Int):=
 ai (dY w0 w1 w2 w3) fun y1=>
 ae (y1.2 !=(0:Int)) (some ((⟨0,0,0, [],0,([] :List Entry)⟩:ah),y1.2)) (ai (bu w0 y1.1.ino) fun y2=>
 ae (!y2.2) (some ((⟨0,0,0, [],0,([] :List Entry)⟩:ah),(1:Int))) (some (y2.1,(0:Int))))
noncomputable def mX (w0:Fs) (w1:Str) (w2:Str):Option (Str×Int):=
 ai (ko w0 w1 w2 true) fun y1=>
 ae (y1.2 !=(0:Int)) (some (([] :Str),y1.2)) (
 ae (y1.1.kind==(2:Int)) (some (([] :Str),(4:Int))) (some (y1.1.data,(0:Int))))
noncomputable def n6 (w0:Fs) (w1:Int) (w2:Str):Option (Fs×Int):=
 ai (bu w0 w1) fun y1=>ai (gD w0 (0:Int) (IntKind.i64.wrap ((List.length w2:Int) - (List.length y1.1.data:Int)))) fun y2=>
 ae (!y2) (some (w0,(8:Int))) (ai (bN w0 (⟨y1.1.ino,y1.1.kind,y1.1.aL,w2,y1.1.parent,y1.1.entries⟩:ah)) fun y3=>some (y3,(0:Int)))
noncomputable def kH (w0:Fs) (w1:Str) (w2:Str) (w3:Str):Option (Fs×Int):=
 ai (mX w0 w1 w2) fun y1=>
 ae (y1.2 !=(0:Int)) (some (w0,y1.2)) (ai (ko w0 w1 w2 true) fun y2=>ai (n6 w0 y2.1.ino w3) fun y3=>some (y3.1,y3.2))
end Go.Eng
set_option linter.unusedVariables false
set_option maxRecDepth 100000
namespace Go.Eng
open Go
noncomputable def eg {R:Type} (x2:Int) (x4:Fs) (kr:Option R) (k0:Option R):Nat→Int→Int→Option R
 |0,_,_=>none
 |n+1,x1,x3=>
  ae (decide (x3≤(List.length x4.aa:Int))) (
  ae (x1==x2) ((kr)) (ai (bu x4 x1) fun y5=>(eg x2 x4 kr k0 n y5.1.parent (IntKind.i64.wrap (x3+(1:Int)))))) ((k0))
noncomputable def jB (w0:Fs) (w1:Int) (w2:Int):Option (Bool):=
 eg w2 w0 (some true) (some false) bo w1 (0:Int)
noncomputable def cI (w0:Fs) (w1:aj) (w2:aj):Option (Fs):=
 ae (w2.ino !=(0:Int)) (ai (fU w0 w2) fun y1=>ai (bu y1 w1.dir) fun y2=>ai (dH y2.1.entries w1.name) fun y3=>ai (bN y1 (⟨y2.1.ino,y2.1.kind,y2.1.aL,y2.1.data,y2.1.parent,y3⟩:ah)) fun y4=>ai (bu y4 w2.dir) fun y5=>ai (eF y5.1.entries w2.name w1.ino) fun y6=>ai (bN y4 (⟨y5.1.ino,y5.1.kind,y5.1.aL,y5.1.data,y5.1.parent,y6⟩:ah)) fun y7=>ai (bu y7 w1.ino) fun y8=>
 ae (y8.1.kind==(2:Int)) (ai (bN y7 (⟨y8.1.ino,y8.1.kind,y8.1.aL,y8.1.data,w2.dir,y8.1.entries⟩:ah)) fun y9=>some y9) (some y7)) (ai (bu w0 w1.dir) fun y10=>ai (dH y10.1.entries w1.name) fun y11=>ai (bN w0 (⟨y10.1.ino,y10.1.kind,y10.1.aL,y10.1.data,y10.1.parent,y11⟩:ah)) fun y12=>ai (bu y12 w2.dir) fun y13=>ai (eF y13.1.entries w2.name w1.ino) fun y14=>ai (bN y12 (⟨y13.1.ino,y13.1.kind,y13.1.aL,y13.1.data,y13.1.parent,y14⟩:ah)) fun y15=>ai (bu y15 w1.ino) fun y16=>
 ae (y16.1.kind==(2:Int)) (ai (bN y15 (⟨y16.1.ino,y16.1.kind,y16.1.aL,y16.1.data,w2.dir,y16.1.entries⟩:ah)) fun y17=>some y17) (some y15))
noncomputable def jN (w0:Fs) (w1:Str) (w2:Str) (w3:Str):Option (Fs×Int):=
 ai (dY w0 w1 w2 false) fun y1=>
 ae (y1.2 !=(0:Int)) (some (w0,y1.2)) (
 ae (y1.1.ino==(0:Int)) (some (w0,(1:Int))) (
 ae (y1.1.name==([] :Str)) (some (w0,(10:Int))) (ai (dY w0 w1 w3 false) fun y2=>
 ae (y2.2 !=(0:Int)) (some (w0,y2.2)) (
 ae (y2.1.name==([] :Str)) (some (w0,(10:Int))) (
 ae (y1.1.ino==y2.1.ino) (some (w0,(0:Int))) (ai (bu w0 y1.1.ino) fun y3=>
 ae (y3.1.kind==(2:Int)) (ai (jB w0 y2.1.dir y1.1.ino) fun y4=>
 ae y4 (some (w0,(9:Int))) (
 ae (y2.1.ino==(0:Int)) (ai (dD w3) fun y5=>
 ae y5.bM (
 ae (y3.1.kind !=(2:Int)) (some (w0,(3:Int))) (ai (eQ y2.1.name) fun y6=>
 ae (!y6) (some (w0,(9:Int))) (ai (cI w0 y1.1 y2.1) fun y7=>some (y7,(0:Int))))) (ai (eQ y2.1.name) fun y8=>
 ae (!y8) (some (w0,(9:Int))) (ai (cI w0 y1.1 y2.1) fun y9=>some (y9,(0:Int))))) (ai (bu w0 y2.1.ino) fun y10=>
 ae (y3.1.kind==(2:Int)) (
 ae (y10.1.kind !=(2:Int)) (some (w0,(3:Int))) (
 ae (y10.1.kind==(2:Int)) (
 ae (y3.1.kind !=(2:Int)) (some (w0,(4:Int))) (
 ae (decide ((List.length y10.1.entries:Int)>(0:Int))) (some (w0,(5:Int))) (ai (cI w0 y1.1 y2.1) fun y11=>some (y11,(0:Int))))) (
 ae (decide ((List.length y10.1.entries:Int)>(0:Int))) (some (w0,(5:Int))) (ai (cI w0 y1.1 y2.1) fun y12=>some (y12,(0:Int)))))) (
 ae (y10.1.kind==(2:Int)) (
 ae (y3.1.kind !=(2:Int)) (some (w0,(4:Int))) (
 ae (decide ((List.length y10.1.entries:Int)>(0:Int))) (some (w0,(5:Int))) (ai (cI w0 y1.1 y2.1) fun y13=>some (y13,(0:Int))))) (
 ae (decide ((List.length y10.1.entries:Int)>(0:Int))) (some (w0,(5:Int))) (ai (cI w0 y1.1 y2.1) fun y14=>some (y14,(0:Int)))))))) (
 ae (y2.1.ino==(0:Int)) (ai (dD w3) fun y15=>
 ae y15.bM (
 ae (y3.1.kind !=(2:Int)) (some (w0,(3:Int))) (ai (eQ y2.1.name) fun y16=>
 ae (!y16) (some (w0,(9:Int))) (ai (cI w0 y1.1 y2.1) fun y17=>some (y17,(0:Int))))) (ai (eQ y2.1.name) fun y18=>
 ae (!y18) (some (w0,(9:Int))) (ai (cI w0 y1.1 y2.1) fun y19=>some (y19,(0:Int))))) (ai (bu w0 y2.1.ino) fun y20=>
 ae (y3.1.kind==(2:Int)) (
 ae (y20.1.kind !=(2:Int)) (some (w0,(3:Int))) (
 ae (y20.1.kind==(2:Int)) (
 ae (y3.1.kind !=(2:Int)) (some (w0,(4:Int))) (
 ae (decide ((List.length y20.1.entries:Int)>(0:Int))) (some (w0,(5:Int))) (ai (cI w0 y1.1 y2.1) fun y21=>some (y21,(0:Int))))) (
 ae (decide ((List.length y20.1.entries:Int)>(0:Int))) (some (w0,(5:Int))) (ai (cI w0 y1.1 y2.1) fun y22=>some (y22,(0:Int)))))) (
 ae (y20.1.kind==(2:Int)) (
 ae (y3.1.kind !=(2:Int)) (some (w0,(4:Int))) (
 ae (decide ((List.length y20.1.entries:Int)>(0:Int))) (some (w0,(5:Int))) (ai (cI w0 y1.1 y2.1) fun y23=>some (y23,(0:Int))))) (
 ae (decide ((List.length y20.1.entries:Int)>(0:Int))) (some (w0,(5:Int))) (ai (cI w0 y1.1 y2.1) fun y24=>some (y24,(0:Int)))))))))))))
end Go.Eng
set_option linter.unusedVariables false
set_option maxRecDepth 100000
namespace Go.Eng
open Go
noncomputable def fO {R:Type} (x1:List bZ) (kr:Option R) (k0:Option R):Nat→Int→Option R
 |0,_=>none
 |n+1,x2=>
  ae (decide (x2<(List.length x1:Int))) (
  ae (decide (x2<(100:Int))) (
  ae (decide (0≤x2)) (ai x1[Int.toNat x2]? fun e3=>
  ae (decide ((List.length e3.a:Int)>(300:Int))) ((kr)) (
  ae (decide (0≤x2)) (ai x1[Int.toNat x2]? fun e4=>
  ae (decide ((List.length e4.b:Int)>(300:Int))) ((kr)) (
  ae (decide (0≤x2)) (ai x1[Int.toNat x2]? fun e5=>
  ae (decide ((List.length e5.data:Int)>(300:Int))) ((kr)) ((fO x1 kr k0 n (IntKind.i64.wrap (x2+(1:Int)))))) (none))) (none))) (none)) ((k0))) ((k0))
noncomputable def jP (w0:(List bZ)):Option (Bool):=
 fO w0 (some false) (some (decide ((List.length w0:Int)≤(25:Int)))) bo (0:Int)
noncomputable def pA (w0:Fs) (w1:Str) (w2:bZ):Option (Fs×Int):=
 ae (w2.op==(1:Int)) (ai (kE w0 w1 w2.a) fun y1=>some (y1.1,y1.2)) (
 ae (w2.op==(2:Int)) (ai (jI w0 w1 w2.a w2.data) fun y2=>some (y2.1,y2.2)) (
 ae (w2.op==(3:Int)) (ai (kH w0 w1 w2.a w2.data) fun y3=>some (y3.1,y3.2)) (
 ae (w2.op==(4:Int)) (ai (iT w0 w1 w2.data w2.a) fun y4=>some (y4.1,y4.2)) (
 ae (w2.op==(5:Int)) (ai (mU w0 w1 w2.a w2.b) fun y5=>some (y5.1,y5.2)) (
 ae (w2.op==(6:Int)) (ai (jJ w0 w1 w2.a) fun y6=>some (y6.1,y6.2)) (
 ae (w2.op==(7:Int)) (ai (kY w0 w1 w2.a) fun y7=>some (y7.1,y7.2)) (
 ae (w2.op==(8:Int)) (ai (jN w0 w1 w2.a w2.b) fun y8=>some (y8.1,y8.2)) (some (w0,(9:Int))))))))))
noncomputable def fX {R:Type} (x1:Str) (x2:List bZ) (k0:Fs→(List Int)→Option R):Nat→Int→Fs→(List Int)→Option R
 |0,_,_,_=>none
 |n+1,x3,x4,x6=>
  ae (decide (x3<(List.length x2:Int))) (
  ae (decide (0≤x3)) (ai x2[Int.toNat x3]? fun e7=>ai (pA x4 x1 e7) fun y8=>aQ (x6.length+[y8.2].length) ((fX x1 x2 k0 n (IntKind.i64.wrap (x3+(1:Int))) y8.1 (x6++[y8.2])))) (none)) ((k0 x4 x6))
noncomputable def q4 (w0:Fs) (w1:Str) (w2:(List bZ)):Option (Fs×(List Int)):=
 fX w1 w2 (fun z12 z13=>some (z12,z13)) bo (0:Int) w0 ([] :List Int)
end Go.Eng
set_option linter.unusedVariables false
set_option maxRecDepth 100000
namespace Go.Eng
open Go
noncomputable def cJ:Option (Bool):=
 ai (iF (9:Int) (9:Int)) fun y1=>ai (gQ y1 ([47]:Str) [(⟨(1:Int),([97]:Str), [], []⟩:bZ),(⟨(2:Int),([97,47,102]:Str), [],([120]:Str)⟩:bZ),(⟨(6:Int),([97]:Str), [], []⟩:bZ),(⟨(9:Int), [], [], []⟩:bZ)]) fun y2=>ai (im (0:Int) (0:Int) ([] :List bZ)) fun y3=>
 ae ((List.length y2.2:Int)==(4:Int)) (
 ae (decide (0≤(0:Int))) (ai y2.2[Int.toNat (0:Int)]? fun e4=>
 ae (e4==(0:Int)) (
 ae (decide (0≤(1:Int))) (ai y2.2[Int.toNat (1:Int)]? fun e5=>
 ae (e5==(0:Int)) (
 ae (decide (0≤(2:Int))) (ai y2.2[Int.toNat (2:Int)]? fun e6=>
 ae (e6==(4:Int)) (
 ae (decide (0≤(3:Int))) (ai y2.2[Int.toNat (3:Int)]? fun e7=>
 ae (e7==(9:Int)) (
 ae ((List.length y2.1.aa:Int)==(3:Int)) (
 ae (y3.2==(9:Int)) (ai (cr y3.1 (⟨0,0,0,([] :List ah)⟩:Fs)) fun y8=>some y8) (some false)) (some false)) (some false)) (none)) (some false)) (none)) (some false)) (none)) (some false)) (none)) (some false)
noncomputable def cB {R:Type} (x11:List Int) (x12:List Int) (kr:Option R) (k0:Option R):Nat→Int→Option R
 |0,_=>none
 |n+1,x13=>
  ae (decide (x13<(List.length x11:Int))) (
  ae (decide (0≤x13)) (ai x11[Int.toNat x13]? fun e14=>
  ae (decide (0≤x13)) (ai x12[Int.toNat x13]? fun e15=>
  ae (e14 !=e15) ((kr)) ((cB x11 x12 kr k0 n (IntKind.i64.wrap (x13+(1:Int)))))) (none)) (none)) ((k0))
noncomputable def jm (w0:Int) (w1:Int) (w2:(List bZ)):Option (Bool):=
 ai (cJ) fun y1=>
 ae (!y1) (ai (cJ) fun y2=>some y2) (ai (jP w2) fun y3=>
 ae (!y3) (ai (cJ) fun y4=>some y4) (ai (iF (IntKind.i64.wrap ((1:Int)+(IntKind.i64.wrap (w0)))) (IntKind.i64.wrap (w1))) fun y5=>ai (gQ y5 ([47]:Str) w2) fun y6=>ai (q4 y5 ([47]:Str) w2) fun y7=>ai (im (IntKind.i64.wrap ((1:Int)+(IntKind.i64.wrap (w0)))) (IntKind.i64.wrap (w1)) w2) fun y8=>
 ae ((List.length y6.2:Int) !=(List.length y7.2:Int)) (some false) (
 ae (y8.2 !=(0:Int)) (some false) (ai (cr y6.1 y7.1) fun y9=>
 ae (!y9) (some false) (ai (cr y8.1 y7.1) fun y10=>
 ae (!y10) (some false) (cB y6.2 y7.2 (some false) (some true) bo (0:Int)))))))
noncomputable def iH (w0:Int) (w1:Int):Option (Bool):=
 ai (cJ) fun y1=>
 ae (!y1) (some false) (ai (im w0 w1 ([] :List bZ)) fun y2=>
 ae (decide (w0<(1:Int))) (
 ae (y2.2==(9:Int)) (ai (cr y2.1 (⟨0,0,0,([] :List ah)⟩:Fs)) fun y3=>some y3) (some false)) (
 ae (decide (w0>(1073741824:Int))) (
 ae (y2.2==(9:Int)) (ai (cr y2.1 (⟨0,0,0,([] :List ah)⟩:Fs)) fun y4=>some y4) (some false)) (
 ae (decide (w1<(0:Int))) (
 ae (y2.2==(9:Int)) (ai (cr y2.1 (⟨0,0,0,([] :List ah)⟩:Fs)) fun y5=>some y5) (some false)) (
 ae (decide (w1>(1073741824:Int))) (
 ae (y2.2==(9:Int)) (ai (cr y2.1 (⟨0,0,0,([] :List ah)⟩:Fs)) fun y6=>some y6) (some false)) (
 ae (y2.2==(0:Int)) (ai (iF w0 w1) fun y7=>ai (cr y2.1 y7) fun y8=>some y8) (some false))))))
noncomputable def cC {R:Type} (x6:List bZ) (kr:Option R) (k0:Option R):Nat→Int→Fs→Option R
 |0,_,_=>none
 |n+1,x7,x8=>
  ae (decide (x7<(List.length x6:Int))) (
  ae (decide (0≤x7)) (ai x6[Int.toNat x7]? fun e9=>ai (nf x8 ([47]:Str) e9) fun y10=>ai (je y10.1) fun y11=>
  ae (y11 !=(0:Int)) ((kr)) (
  ae (y10.2 !=(0:Int)) (ai (cr x8 y10.1) fun y12=>
  ae (!y12) ((kr)) ((cC x6 kr k0 n (IntKind.i64.wrap (x7+(1:Int))) y10.1))) ((cC x6 kr k0 n (IntKind.i64.wrap (x7+(1:Int))) y10.1)))) (none)) ((k0))
noncomputable def iP (w0:Int) (w1:Int) (w2:(List bZ)):Option (Bool):=
 ai (cJ) fun y1=>
 ae (!y1) (ai (cJ) fun y2=>some y2) (ai (jP w2) fun y3=>
 ae (!y3) (ai (cJ) fun y4=>some y4) (ai (iF (IntKind.i64.wrap ((1:Int)+(IntKind.i64.wrap (w0)))) (IntKind.i64.wrap (w1))) fun y5=>cC w2 (some false) (some true) bo (0:Int) y5))
noncomputable def bQ {R:Type} (x10:Int) (x11:List Int) (x12:List Int) (x13:List Int) (kr:Option R) (k0:Option R):Nat→Int→Option R
 |0,_=>none
 |n+1,x14=>
  ae (decide (x14<(List.length x11:Int))) (
  ae (decide (x14<x10)) (
  ae (decide (0≤x14)) (ai x11[Int.toNat x14]? fun e15=>
  ae (decide (0≤x14)) (ai x12[Int.toNat x14]? fun e16=>
  ae (e15 !=e16) ((kr)) (
  ae (decide (x14≥x10)) (
  ae (decide (0≤x14)) (ai x11[Int.toNat x14]? fun e17=>
  ae (decide (0≤(IntKind.i64.wrap (x14 - x10)))) (ai x13[Int.toNat (IntKind.i64.wrap (x14 - x10))]? fun e18=>
  ae (e17 !=e18) ((kr)) ((bQ x10 x11 x12 x13 kr k0 n (IntKind.i64.wrap (x14+(1:Int)))))) (none)) (none)) ((bQ x10 x11 x12 x13 kr k0 n (IntKind.i64.wrap (x14+(1:Int))))))) (none)) (none)) (
  ae (decide (x14≥x10)) (
  ae (decide (0≤x14)) (ai x11[Int.toNat x14]? fun e19=>
  ae (decide (0≤(IntKind.i64.wrap (x14 - x10)))) (ai x13[Int.toNat (IntKind.i64.wrap (x14 - x10))]? fun e20=>
  ae (e19 !=e20) ((kr)) ((bQ x10 x11 x12 x13 kr k0 n (IntKind.i64.wrap (x14+(1:Int)))))) (none)) (none)) ((bQ x10 x11 x12 x13 kr k0 n (IntKind.i64.wrap (x14+(1:Int))))))) ((k0))
noncomputable def iq (w0:(List bZ)) (w1:Int):Option (Bool):=
 ai (cJ) fun y1=>
 ae (!y1) (ai (cJ) fun y2=>some y2) (ai (jP w0) fun y3=>
 ae (!y3) (ai (cJ) fun y4=>some y4) (
 ae ((IntKind.i64.wrap ((List.length w0:Int)+(1:Int)))==0) (none) (ai (iF (20:Int) (99:Int)) fun y5=>ai (gQ y5 ([47]:Str) w0) fun y6=>
 ae (decide (0≤(Int.tmod (IntKind.i64.wrap (w1)) (IntKind.i64.wrap ((List.length w0:Int)+(1:Int))))∧(Int.tmod (IntKind.i64.wrap (w1)) (IntKind.i64.wrap ((List.length w0:Int)+(1:Int))))≤(w0.length:Int))) (ai (gQ y5 ([47]:Str) (w0.take (Int.toNat (Int.tmod (IntKind.i64.wrap (w1)) (IntKind.i64.wrap ((List.length w0:Int)+(1:Int))))))) fun y7=>
 ae (decide (0≤(Int.tmod (IntKind.i64.wrap (w1)) (IntKind.i64.wrap ((List.length w0:Int)+(1:Int))))∧(Int.tmod (IntKind.i64.wrap (w1)) (IntKind.i64.wrap ((List.length w0:Int)+(1:Int))))≤(w0.length:Int))) (ai (gQ y7.1 ([47]:Str) (w0.drop (Int.toNat (Int.tmod (IntKind.i64.wrap (w1)) (IntKind.i64.wrap ((List.length w0:Int)+(1:Int))))))) fun y8=>ai (cr y6.1 y8.1) fun y9=>
 ae (!y9) (some false) (
 ae ((List.length y6.2:Int) !=(IntKind.i64.wrap ((List.length y7.2:Int)+(List.length y8.2:Int)))) (some false) (
 ae ((List.length y7.2:Int) !=(Int.tmod (IntKind.i64.wrap (w1)) (IntKind.i64.wrap ((List.length w0:Int)+(1:Int))))) (some false) (bQ (Int.tmod (IntKind.i64.wrap (w1)) (IntKind.i64.wrap ((List.length w0:Int)+(1:Int)))) y6.2 y7.2 y8.2 (some false) (some true) bo (0:Int))))) (none)) (none))))
end Go.Eng
