/- A part of the proofs of the laws of this seat: the engine that reads the program's code, plain functions, or facts of the program's functions. Conditions: none. -/
import Derived.Test.YtkdpombpeoiafaaGreatDoorE4
import Derived.Lib.Bytealg
import Derived.Lib.IndexAny
import Derived.Lib.Join
set_option linter.unusedSectionVars false
set_option linter.unusedVariables false
set_option linter.unusedSimpArgs false
set_option linter.unnecessarySimpa false
namespace Go.Eng
open Go
def strings_Compare (a b:Str):Option Int:=some (Lib.compareBytes a b)
def stringslite_IndexByte (a:Str) (c:Int):Option Int:=some (Lib.indexByte a c.toNat.toUInt8)
noncomputable def strings_Join (l:List Str) (sep:Str):Option Str:=open Classical in if (Lib.join l sep).length+l.length≤67108864 then some (Lib.join l sep) else none
theorem texts_of {w:World} {bk of:Nat}:∀(l:List Str),(∀i,(hi:i<l.length)→∃b:ByteArray,w.cell? ⟨bk,of+i,none⟩=some (.string b)∧b.data.toList=l[i])→
 ∃xs:List ByteArray,xs.length=l.length∧(∀(j:Nat) x,xs[j]? =some x→w.cell? ⟨bk,of+j,none⟩=some (.string x))∧xs.map (·.data.toList)=l:=by
 intro l h;refine⟨(List.range l.length).pmap (fun i hi=>Classical.choose (h i hi)) (fun i hi=>by simpa using hi),by simp,fun j x hx=> ?_, ?_⟩
 ·have hj:j<l.length:=by
   have:=(List.getElem?_eq_some_iff.1 hx).1;simpa using this
  have:=(Classical.choose_spec (h j hj)).1;simp [List.getElem?_pmap,hj] at hx;rw[←hx];exact this
 ·apply List.ext_getElem
  ·simp
  ·intro i h1 h2
   simp only[List.getElem_map,List.getElem_pmap,List.getElem_range];exact(Classical.choose_spec (h i h2)).2
end Go.Eng
set_option linter.unusedVariables false
set_option maxRecDepth 100000
namespace Go.Eng
open Go
noncomputable def strings_ContainsAny_7_L12 {R:Type} (x1:Str) (kr:Int→Option R) (k0:Option R):Nat→Int→Option R
 |0,_=>none
 |n+1,x2=>
  bcase (decide (x2<(List.length x1:Int))) (
  bcase (decide (0≤x2)) (ocase x1[Int.toNat x2]? fun c3=>splitK (UInt8.toNat c3:Int) 256 0 (fun i4=>
  bcase (Nat.beq i4 0||Nat.beq i4 47) ((kr x2)) ((strings_ContainsAny_7_L12 x1 kr k0 n (IntKind.i64.wrap (x2+(1:Int))))))) (none)) ((k0))
noncomputable def strings_ContainsAny_7_52_L38 {R:Type} (x13:Str) (kr:Int→Option R) (k9:Option R):Nat→Nat→Option R
 |0,_=>none
 |n+1,x14=>
  bcase (Nat.blt x14 x13.length) (
  bcase (((runeAt x13 x14).1:Int)==(65533:Int)) ((kr (x14:Int))) ((strings_ContainsAny_7_52_L38 x13 kr k9 n (x14+(runeAt x13 x14).2)))) ((k9))
noncomputable def strings_ContainsAny_7_52_L12 {R:Type} (x35:Str) (x36:Int) (x37:Int) (k3:Option R):Nat→Int→Option R
 |0,_=>none
 |n+1,x38=>
  bcase (decide (x38<(List.length x35:Int))) (
  bcase (decide (0≤(IntKind.i64.wrap (x37 - x38)))) (ocase ([47,0]:Str)[Int.toNat (IntKind.i64.wrap (x37 - x38))]? fun c42=>
  bcase (decide (0≤(IntKind.i64.wrap (x36 - x38)))) (ocase x35[Int.toNat (IntKind.i64.wrap (x36 - x38))]? fun c43=>
  bcase ((UInt8.toNat c42:Int) !=(UInt8.toNat c43:Int)) (none) ((strings_ContainsAny_7_52_L12 x35 x36 x37 k3 n (IntKind.i64.wrap (x38+(1:Int)))))) (none)) (none)) ((k3))
noncomputable def strings_ContainsAny_7_52_L5 {R:Type} (x25:Str) (x26:Int) (x27:Int) (kr:Int→Option R) (k1:Option R):Nat→Option R
 |0=>none
 |n+1=>
  bcase (decide (x27<(2:Int))) (
  bcase (decide (0≤x27)) (ocase ([47,0]:Str)[Int.toNat x27]? fun c31=>
  bcase (decide (0≤x26)) (ocase x25[Int.toNat x26]? fun c32=>
  bcase ((UInt8.toNat c31:Int) !=(UInt8.toNat c32:Int)) (
  bcase (decide (0≤(IntKind.i64.wrap (x27+(1:Int)))∧(IntKind.i64.wrap (x27+(1:Int)))≤(([47,0]:Str).length:Int))) (
  bcase (decide (0≤x26)) (ocase x25[Int.toNat x26]? fun c33=>ocase (stringslite_IndexByte (([47,0]:Str).drop (Int.toNat (IntKind.i64.wrap (x27+(1:Int))))) (UInt8.toNat c33:Int)) fun y34=>
  bcase (decide (y34<(0:Int))) ((kr (-1:Int))) (strings_ContainsAny_7_52_L12 x25 x26 (IntKind.i64.wrap (x27+(IntKind.i64.wrap (y34+(1:Int))))) ((kr (IntKind.i64.wrap ((IntKind.i64.wrap (x27+(IntKind.i64.wrap (y34+(1:Int))))) - x26)))) FUEL (1:Int))) (none)) (none)) (strings_ContainsAny_7_52_L12 x25 x26 x27 ((kr (IntKind.i64.wrap (x27 - x26)))) FUEL (1:Int))) (none)) (none)) ((k1))
noncomputable def strings_ContainsAny_7_L18 {R:Type} (x7:Str) (kr:Int→Option R) (k2:Option R):Nat→Nat→Option R
 |0,_=>none
 |n+1,x8=>
  bcase (Nat.blt x8 x7.length) (
  bcase (decide ((0:Int)≤((runeAt x7 x8).1:Int))) (
  bcase (decide (((runeAt x7 x8).1:Int)<(128:Int))) (ocase (stringslite_IndexByte ([47,0]:Str) (IntKind.u8.wrap (((runeAt x7 x8).1:Int)))) fun y9=>
  bcase (decide (y9≥(0:Int))) ((kr (x8:Int))) ((strings_ContainsAny_7_L18 x7 kr k2 n (x8+(runeAt x7 x8).2)))) (
  bcase (((runeAt x7 x8).1:Int)==(65533:Int)) (strings_ContainsAny_7_52_L38 ([47,0]:Str) (fun z24=>
  bcase (decide (z24≥(0:Int))) ((kr (x8:Int))) ((strings_ContainsAny_7_L18 x7 kr k2 n (x8+(runeAt x7 x8).2)))) ((strings_ContainsAny_7_L18 x7 kr k2 n (x8+(runeAt x7 x8).2))) FUEL 0) (
  bcase (decide ((0:Int)≤((runeAt x7 x8).1:Int))) (
  bcase (decide (((runeAt x7 x8).1:Int)<(55296:Int))) (strings_ContainsAny_7_52_L5 ((Utf8.encode ((runeAt x7 x8).1:Int)).data.toList) (IntKind.i64.wrap ((List.length ((Utf8.encode ((runeAt x7 x8).1:Int)).data.toList):Int) - (1:Int))) (IntKind.i64.wrap ((List.length ((Utf8.encode ((runeAt x7 x8).1:Int)).data.toList):Int) - (1:Int))) (fun z59=>
  bcase (decide (z59≥(0:Int))) ((kr (x8:Int))) ((strings_ContainsAny_7_L18 x7 kr k2 n (x8+(runeAt x7 x8).2)))) ((strings_ContainsAny_7_L18 x7 kr k2 n (x8+(runeAt x7 x8).2))) FUEL) (
  bcase (decide ((57343:Int)<((runeAt x7 x8).1:Int))) (
  bcase (decide (((runeAt x7 x8).1:Int)≤(1114111:Int))) (strings_ContainsAny_7_52_L5 ((Utf8.encode ((runeAt x7 x8).1:Int)).data.toList) (IntKind.i64.wrap ((List.length ((Utf8.encode ((runeAt x7 x8).1:Int)).data.toList):Int) - (1:Int))) (IntKind.i64.wrap ((List.length ((Utf8.encode ((runeAt x7 x8).1:Int)).data.toList):Int) - (1:Int))) (fun z60=>
  bcase (decide (z60≥(0:Int))) ((kr (x8:Int))) ((strings_ContainsAny_7_L18 x7 kr k2 n (x8+(runeAt x7 x8).2)))) ((strings_ContainsAny_7_L18 x7 kr k2 n (x8+(runeAt x7 x8).2))) FUEL) ((strings_ContainsAny_7_L18 x7 kr k2 n (x8+(runeAt x7 x8).2)))) ((strings_ContainsAny_7_L18 x7 kr k2 n (x8+(runeAt x7 x8).2))))) (
  bcase (decide ((57343:Int)<((runeAt x7 x8).1:Int))) (
  bcase (decide (((runeAt x7 x8).1:Int)≤(1114111:Int))) (strings_ContainsAny_7_52_L5 ((Utf8.encode ((runeAt x7 x8).1:Int)).data.toList) (IntKind.i64.wrap ((List.length ((Utf8.encode ((runeAt x7 x8).1:Int)).data.toList):Int) - (1:Int))) (IntKind.i64.wrap ((List.length ((Utf8.encode ((runeAt x7 x8).1:Int)).data.toList):Int) - (1:Int))) (fun z61=>
  bcase (decide (z61≥(0:Int))) ((kr (x8:Int))) ((strings_ContainsAny_7_L18 x7 kr k2 n (x8+(runeAt x7 x8).2)))) ((strings_ContainsAny_7_L18 x7 kr k2 n (x8+(runeAt x7 x8).2))) FUEL) ((strings_ContainsAny_7_L18 x7 kr k2 n (x8+(runeAt x7 x8).2)))) ((strings_ContainsAny_7_L18 x7 kr k2 n (x8+(runeAt x7 x8).2))))))) (
  bcase (((runeAt x7 x8).1:Int)==(65533:Int)) (strings_ContainsAny_7_52_L38 ([47,0]:Str) (fun z62=>
  bcase (decide (z62≥(0:Int))) ((kr (x8:Int))) ((strings_ContainsAny_7_L18 x7 kr k2 n (x8+(runeAt x7 x8).2)))) ((strings_ContainsAny_7_L18 x7 kr k2 n (x8+(runeAt x7 x8).2))) FUEL 0) (
  bcase (decide ((0:Int)≤((runeAt x7 x8).1:Int))) (
  bcase (decide (((runeAt x7 x8).1:Int)<(55296:Int))) (strings_ContainsAny_7_52_L5 ((Utf8.encode ((runeAt x7 x8).1:Int)).data.toList) (IntKind.i64.wrap ((List.length ((Utf8.encode ((runeAt x7 x8).1:Int)).data.toList):Int) - (1:Int))) (IntKind.i64.wrap ((List.length ((Utf8.encode ((runeAt x7 x8).1:Int)).data.toList):Int) - (1:Int))) (fun z63=>
  bcase (decide (z63≥(0:Int))) ((kr (x8:Int))) ((strings_ContainsAny_7_L18 x7 kr k2 n (x8+(runeAt x7 x8).2)))) ((strings_ContainsAny_7_L18 x7 kr k2 n (x8+(runeAt x7 x8).2))) FUEL) (
  bcase (decide ((57343:Int)<((runeAt x7 x8).1:Int))) (
  bcase (decide (((runeAt x7 x8).1:Int)≤(1114111:Int))) (strings_ContainsAny_7_52_L5 ((Utf8.encode ((runeAt x7 x8).1:Int)).data.toList) (IntKind.i64.wrap ((List.length ((Utf8.encode ((runeAt x7 x8).1:Int)).data.toList):Int) - (1:Int))) (IntKind.i64.wrap ((List.length ((Utf8.encode ((runeAt x7 x8).1:Int)).data.toList):Int) - (1:Int))) (fun z64=>
  bcase (decide (z64≥(0:Int))) ((kr (x8:Int))) ((strings_ContainsAny_7_L18 x7 kr k2 n (x8+(runeAt x7 x8).2)))) ((strings_ContainsAny_7_L18 x7 kr k2 n (x8+(runeAt x7 x8).2))) FUEL) ((strings_ContainsAny_7_L18 x7 kr k2 n (x8+(runeAt x7 x8).2)))) ((strings_ContainsAny_7_L18 x7 kr k2 n (x8+(runeAt x7 x8).2))))) (
  bcase (decide ((57343:Int)<((runeAt x7 x8).1:Int))) (
  bcase (decide (((runeAt x7 x8).1:Int)≤(1114111:Int))) (strings_ContainsAny_7_52_L5 ((Utf8.encode ((runeAt x7 x8).1:Int)).data.toList) (IntKind.i64.wrap ((List.length ((Utf8.encode ((runeAt x7 x8).1:Int)).data.toList):Int) - (1:Int))) (IntKind.i64.wrap ((List.length ((Utf8.encode ((runeAt x7 x8).1:Int)).data.toList):Int) - (1:Int))) (fun z65=>
  bcase (decide (z65≥(0:Int))) ((kr (x8:Int))) ((strings_ContainsAny_7_L18 x7 kr k2 n (x8+(runeAt x7 x8).2)))) ((strings_ContainsAny_7_L18 x7 kr k2 n (x8+(runeAt x7 x8).2))) FUEL) ((strings_ContainsAny_7_L18 x7 kr k2 n (x8+(runeAt x7 x8).2)))) ((strings_ContainsAny_7_L18 x7 kr k2 n (x8+(runeAt x7 x8).2))))))) ((k2))
noncomputable def strings_ContainsAny (w0:Str):Option (Bool):=
 bcase (decide ((List.length w0:Int)>(8:Int))) (strings_ContainsAny_7_L12 w0 (fun z6=>some (decide (z6≥(0:Int)))) (some false) FUEL (0:Int)) (strings_ContainsAny_7_L18 w0 (fun z67=>some (decide (z67≥(0:Int)))) (some false) FUEL 0)
noncomputable def path_May (w0:Str):Option (Bool):=
 bcase (!(w0==([] :Str))) (
 bcase (decide ((List.length w0:Int)≤(255:Int))) (ocase (strings_ContainsAny w0) fun y1=>
 bcase (!y1) (
 bcase (!(w0==([46]:Str))) (some (!(w0==([46,46]:Str)))) (some false)) (some false)) (some false)) (some false)
noncomputable def path_Join (w0:(List Str)):Option (Str):=
 bcase ((List.length w0:Int)==(0:Int)) (some ([47]:Str)) (ocase (strings_Join w0 ([47]:Str)) fun y1=>lcase (([47]:Str).length+y1.length) (some (([47]:Str)++y1)))
noncomputable def path_Plain_7_4_1000003_1000003_L5 {R:Type} (k2:Str→(List Str)→Option R):Nat→Str→(List Str)→Option R
 |0,_,_=>none
 |n+1,x2,x3=>
  bcase (([47]:Str)==x2) (
  bcase (decide (0≤(0:Int)∧(0:Int)≤(x2.length:Int))) (
  bcase (!((x2.take (Int.toNat (0:Int)))==([] :Str))) (lcase (x3.length+[(x2.take (Int.toNat (0:Int)))].length) (
  bcase (decide (0≤(1:Int)∧(1:Int)≤(x2.length:Int))) ((path_Plain_7_4_1000003_1000003_L5 k2 n (x2.drop (Int.toNat (1:Int))) (x3++[(x2.take (Int.toNat (0:Int)))]))) (none))) (
  bcase (decide (0≤(1:Int)∧(1:Int)≤(x2.length:Int))) ((path_Plain_7_4_1000003_1000003_L5 k2 n (x2.drop (Int.toNat (1:Int))) x3)) (none))) (none)) (ocase (stringslite_IndexByte x2 (47:Int)) fun y4=>
  bcase (decide (y4<(0:Int))) ((k2 x2 x3)) (
  bcase (decide (0≤(IntKind.i64.wrap (y4+(0:Int)))∧(IntKind.i64.wrap (y4+(0:Int)))≤(x2.length:Int))) (
  bcase (!((x2.take (Int.toNat (IntKind.i64.wrap (y4+(0:Int)))))==([] :Str))) (lcase (x3.length+[(x2.take (Int.toNat (IntKind.i64.wrap (y4+(0:Int)))))].length) (
  bcase (decide (0≤(IntKind.i64.wrap (y4+(1:Int)))∧(IntKind.i64.wrap (y4+(1:Int)))≤(x2.length:Int))) ((path_Plain_7_4_1000003_1000003_L5 k2 n (x2.drop (Int.toNat (IntKind.i64.wrap (y4+(1:Int))))) (x3++[(x2.take (Int.toNat (IntKind.i64.wrap (y4+(0:Int)))))]))) (none))) (
  bcase (decide (0≤(IntKind.i64.wrap (y4+(1:Int)))∧(IntKind.i64.wrap (y4+(1:Int)))≤(x2.length:Int))) ((path_Plain_7_4_1000003_1000003_L5 k2 n (x2.drop (Int.toNat (IntKind.i64.wrap (y4+(1:Int))))) x3)) (none))) (none)))
noncomputable def path_Plain_14_7_L2 {R:Type} (x11:Int) (x14:List Str) (kr:Int→Option R) (k0:Option R):Nat→Int→Option R
 |0,_=>none
 |n+1,x12=>
  bcase (decide (x12<x11)) (
  bcase (decide (0≤x12∧x12<(x14.length:Int))) (ocase x14[(Int.toNat x12)]? fun e15=>ocase (path_May e15) fun y16=>
  bcase (!y16) ((kr x12)) ((path_Plain_14_7_L2 x11 x14 kr k0 n (IntKind.i64.wrap (x12+(1:Int)))))) (none)) ((k0))
noncomputable def path_Plain (w0:Str):Option ((List Str)×Bool):=
 path_Plain_7_4_1000003_1000003_L5 (fun z8 z9=>
 bcase (!(z8==([] :Str))) (lcase (z9.length+[z8].length) (ocase (path_Join (z9++[z8])) fun y10=>
 bcase (!(y10==w0)) (some (([] :List Str),false)) (path_Plain_14_7_L2 (List.length (z9++[z8]):Int) (z9++[z8]) (fun z22=>
 bcase (decide (z22≥(0:Int))) (some (([] :List Str),false)) (some ((z9++[z8]),true))) (some ((z9++[z8]),true)) FUEL (0:Int)))) (ocase (path_Join z9) fun y23=>
 bcase (!(y23==w0)) (some (([] :List Str),false)) (path_Plain_14_7_L2 (List.length z9:Int) z9 (fun z24=>
 bcase (decide (z24≥(0:Int))) (some (([] :List Str),false)) (some (z9,true))) (some (z9,true)) FUEL (0:Int)))) FUEL w0 ([] :List Str)
noncomputable def path_Long_1000003_1000003_L5 {R:Type} (kr:Option R) (k2:Str→Option R):Nat→Str→Option R
 |0,_=>none
 |n+1,x2=>
  bcase (([47]:Str)==x2) (
  bcase (decide (0≤(0:Int)∧(0:Int)≤(x2.length:Int))) (
  bcase (!((x2.take (Int.toNat (0:Int)))==([] :Str))) (
  bcase (decide ((List.length (x2.take (Int.toNat (0:Int))):Int)>(255:Int))) ((kr)) (
  bcase (decide (0≤(1:Int)∧(1:Int)≤(x2.length:Int))) ((path_Long_1000003_1000003_L5 kr k2 n (x2.drop (Int.toNat (1:Int))))) (none))) (
  bcase (decide (0≤(1:Int)∧(1:Int)≤(x2.length:Int))) ((path_Long_1000003_1000003_L5 kr k2 n (x2.drop (Int.toNat (1:Int))))) (none))) (none)) (ocase (stringslite_IndexByte x2 (47:Int)) fun y3=>
  bcase (decide (y3<(0:Int))) ((k2 x2)) (
  bcase (decide (0≤(IntKind.i64.wrap (y3+(0:Int)))∧(IntKind.i64.wrap (y3+(0:Int)))≤(x2.length:Int))) (
  bcase (!((x2.take (Int.toNat (IntKind.i64.wrap (y3+(0:Int)))))==([] :Str))) (
  bcase (decide ((List.length (x2.take (Int.toNat (IntKind.i64.wrap (y3+(0:Int))))):Int)>(255:Int))) ((kr)) (
  bcase (decide (0≤(IntKind.i64.wrap (y3+(1:Int)))∧(IntKind.i64.wrap (y3+(1:Int)))≤(x2.length:Int))) ((path_Long_1000003_1000003_L5 kr k2 n (x2.drop (Int.toNat (IntKind.i64.wrap (y3+(1:Int))))))) (none))) (
  bcase (decide (0≤(IntKind.i64.wrap (y3+(1:Int)))∧(IntKind.i64.wrap (y3+(1:Int)))≤(x2.length:Int))) ((path_Long_1000003_1000003_L5 kr k2 n (x2.drop (Int.toNat (IntKind.i64.wrap (y3+(1:Int))))))) (none))) (none)))
noncomputable def path_Long (w0:Str):Option (Bool):=
 path_Long_1000003_1000003_L5 (some true) (fun z9=>
 bcase (!(z9==([] :Str))) (
 bcase (decide ((List.length z9:Int)>(255:Int))) (some true) (some (decide ((List.length w0:Int)>(4095:Int))))) (some (decide ((List.length w0:Int)>(4095:Int))))) FUEL w0
noncomputable def path_Read_6_4_1000003_1000003_L5 {R:Type} (k2:Str→(List Str)→Option R):Nat→Str→(List Str)→Option R
 |0,_,_=>none
 |n+1,x3,x4=>
  bcase (([47]:Str)==x3) (
  bcase (decide (0≤(0:Int)∧(0:Int)≤(x3.length:Int))) (
  bcase (!((x3.take (Int.toNat (0:Int)))==([] :Str))) (lcase (x4.length+[(x3.take (Int.toNat (0:Int)))].length) (
  bcase (decide (0≤(1:Int)∧(1:Int)≤(x3.length:Int))) ((path_Read_6_4_1000003_1000003_L5 k2 n (x3.drop (Int.toNat (1:Int))) (x4++[(x3.take (Int.toNat (0:Int)))]))) (none))) (
  bcase (decide (0≤(1:Int)∧(1:Int)≤(x3.length:Int))) ((path_Read_6_4_1000003_1000003_L5 k2 n (x3.drop (Int.toNat (1:Int))) x4)) (none))) (none)) (ocase (stringslite_IndexByte x3 (47:Int)) fun y5=>
  bcase (decide (y5<(0:Int))) ((k2 x3 x4)) (
  bcase (decide (0≤(IntKind.i64.wrap (y5+(0:Int)))∧(IntKind.i64.wrap (y5+(0:Int)))≤(x3.length:Int))) (
  bcase (!((x3.take (Int.toNat (IntKind.i64.wrap (y5+(0:Int)))))==([] :Str))) (lcase (x4.length+[(x3.take (Int.toNat (IntKind.i64.wrap (y5+(0:Int)))))].length) (
  bcase (decide (0≤(IntKind.i64.wrap (y5+(1:Int)))∧(IntKind.i64.wrap (y5+(1:Int)))≤(x3.length:Int))) ((path_Read_6_4_1000003_1000003_L5 k2 n (x3.drop (Int.toNat (IntKind.i64.wrap (y5+(1:Int))))) (x4++[(x3.take (Int.toNat (IntKind.i64.wrap (y5+(0:Int)))))]))) (none))) (
  bcase (decide (0≤(IntKind.i64.wrap (y5+(1:Int)))∧(IntKind.i64.wrap (y5+(1:Int)))≤(x3.length:Int))) ((path_Read_6_4_1000003_1000003_L5 k2 n (x3.drop (Int.toNat (IntKind.i64.wrap (y5+(1:Int))))) x4)) (none))) (none)))
noncomputable def path_Read (w0:Str):Option (Pth):=
 path_Read_6_4_1000003_1000003_L5 (fun z10 z11=>
 bcase (!(z10==([] :Str))) (lcase (z11.length+[z10].length) (
 bcase (decide ((List.length w0:Int)≥(1:Int))) (
 bcase (decide (0≤(1:Int)∧(1:Int)≤(w0.length:Int))) (
 bcase (decide ((List.length (z11++[z10]):Int)>(0:Int))) (
 bcase (decide ((List.length w0:Int)≥(1:Int))) (
 bcase (decide (0≤(IntKind.i64.wrap ((List.length w0:Int) - (1:Int)))∧(IntKind.i64.wrap ((List.length w0:Int) - (1:Int)))≤(w0.length:Int))) (some (⟨((w0.take (Int.toNat (1:Int)))==([47]:Str)),(z11++[z10]),((w0.drop (Int.toNat (IntKind.i64.wrap ((List.length w0:Int) - (1:Int)))))==([47]:Str))⟩:Pth)) (none)) (some (⟨((w0.take (Int.toNat (1:Int)))==([47]:Str)),(z11++[z10]),false⟩:Pth))) (some (⟨((w0.take (Int.toNat (1:Int)))==([47]:Str)),(z11++[z10]),false⟩:Pth))) (none)) (
 bcase (decide ((List.length (z11++[z10]):Int)>(0:Int))) (
 bcase (decide ((List.length w0:Int)≥(1:Int))) (
 bcase (decide (0≤(IntKind.i64.wrap ((List.length w0:Int) - (1:Int)))∧(IntKind.i64.wrap ((List.length w0:Int) - (1:Int)))≤(w0.length:Int))) (some (⟨false,(z11++[z10]),((w0.drop (Int.toNat (IntKind.i64.wrap ((List.length w0:Int) - (1:Int)))))==([47]:Str))⟩:Pth)) (none)) (some (⟨false,(z11++[z10]),false⟩:Pth))) (some (⟨false,(z11++[z10]),false⟩:Pth))))) (
 bcase (decide ((List.length w0:Int)≥(1:Int))) (
 bcase (decide (0≤(1:Int)∧(1:Int)≤(w0.length:Int))) (
 bcase (decide ((List.length z11:Int)>(0:Int))) (
 bcase (decide ((List.length w0:Int)≥(1:Int))) (
 bcase (decide (0≤(IntKind.i64.wrap ((List.length w0:Int) - (1:Int)))∧(IntKind.i64.wrap ((List.length w0:Int) - (1:Int)))≤(w0.length:Int))) (some (⟨((w0.take (Int.toNat (1:Int)))==([47]:Str)),z11,((w0.drop (Int.toNat (IntKind.i64.wrap ((List.length w0:Int) - (1:Int)))))==([47]:Str))⟩:Pth)) (none)) (some (⟨((w0.take (Int.toNat (1:Int)))==([47]:Str)),z11,false⟩:Pth))) (some (⟨((w0.take (Int.toNat (1:Int)))==([47]:Str)),z11,false⟩:Pth))) (none)) (
 bcase (decide ((List.length z11:Int)>(0:Int))) (
 bcase (decide ((List.length w0:Int)≥(1:Int))) (
 bcase (decide (0≤(IntKind.i64.wrap ((List.length w0:Int) - (1:Int)))∧(IntKind.i64.wrap ((List.length w0:Int) - (1:Int)))≤(w0.length:Int))) (some (⟨false,z11,((w0.drop (Int.toNat (IntKind.i64.wrap ((List.length w0:Int) - (1:Int)))))==([47]:Str))⟩:Pth)) (none)) (some (⟨false,z11,false⟩:Pth))) (some (⟨false,z11,false⟩:Pth))))) FUEL w0 ([] :List Str)
end Go.Eng
set_option linter.unusedVariables false
set_option maxRecDepth 100000
namespace Go.Eng
open Go
noncomputable def entry_at_8_L3 {R:Type} (x1:List Entry) (x2:Str) (k0:Int→Option R):Nat→Int→Int→Option R
 |0,_,_=>none
 |n+1,x4,x5=>
  bcase (decide (x4<x5)) (
  bcase (decide ((1:Int)<0)) (none) (
  bcase (decide (0≤(IntKind.i64.wrap (Int.fdiv (IntKind.u64.wrap (IntKind.i64.wrap (x4+x5))) (2^(min (Int.toNat (1:Int)) (IntKind.bits .u64))))))) (ocase x1[Int.toNat (IntKind.i64.wrap (Int.fdiv (IntKind.u64.wrap (IntKind.i64.wrap (x4+x5))) (2^(min (Int.toNat (1:Int)) (IntKind.bits .u64)))))]? fun e6=>ocase (strings_Compare e6.name x2) fun y7=>
  bcase (decide (y7<(0:Int))) ((entry_at_8_L3 x1 x2 k0 n (IntKind.i64.wrap ((IntKind.i64.wrap (Int.fdiv (IntKind.u64.wrap (IntKind.i64.wrap (x4+x5))) (2^(min (Int.toNat (1:Int)) (IntKind.bits .u64)))))+(1:Int))) x5)) ((entry_at_8_L3 x1 x2 k0 n x4 (IntKind.i64.wrap (Int.fdiv (IntKind.u64.wrap (IntKind.i64.wrap (x4+x5))) (2^(min (Int.toNat (1:Int)) (IntKind.bits .u64)))))))) (none))) ((k0 x4))
noncomputable def entry_at (w0:(List Entry)) (w1:Str):Option (Int×Bool):=
 entry_at_8_L3 w0 w1 (fun z12=>
 bcase (decide (z12<(List.length w0:Int))) (
 bcase (decide (0≤z12)) (ocase w0[Int.toNat z12]? fun e13=>ocase (strings_Compare e13.name w1) fun y14=>some (z12,(y14==(0:Int)))) (none)) (some (z12,false))) FUEL (0:Int) (List.length w0:Int)
noncomputable def entry_Find (w0:(List Entry)) (w1:Str):Option (Int×Bool):=
 ocase (entry_at w0 w1) fun y1=>
 bcase (!y1.2) (some ((0:Int),false)) (
 bcase (decide (0≤y1.1)) (ocase w0[Int.toNat y1.1]? fun e2=>some (e2.ino,true)) (none))
noncomputable def entry_Without (w0:(List Entry)) (w1:Str):Option ((List Entry)):=
 ocase (entry_at w0 w1) fun y1=>
 bcase (!y1.2) (nilK w0 (some ([] :List Entry)) (lcase (([] :List Entry).length+w0.length) (some (([] :List Entry)++w0)))) (
 bcase (decide (0≤(IntKind.i64.wrap ((List.length w0:Int) - (1:Int)))∧(IntKind.i64.wrap ((List.length w0:Int) - (1:Int)))=(IntKind.i64.wrap ((List.length w0:Int) - (1:Int))))) (lcase (Int.toNat (IntKind.i64.wrap ((List.length w0:Int) - (1:Int)))) (
 bcase (decide (0≤y1.1∧y1.1≤(w0.length:Int))) (
 bcase (decide (0≤((min (w0.take (Int.toNat y1.1)).length (List.replicate (Int.toNat (IntKind.i64.wrap ((List.length w0:Int) - (1:Int)))) (⟨[],0⟩:Entry)).length:Nat):Int)∧((min (w0.take (Int.toNat y1.1)).length (List.replicate (Int.toNat (IntKind.i64.wrap ((List.length w0:Int) - (1:Int)))) (⟨[],0⟩:Entry)).length:Nat):Int)≤(((w0.take (Int.toNat y1.1)).take (List.replicate (Int.toNat (IntKind.i64.wrap ((List.length w0:Int) - (1:Int)))) (⟨[],0⟩:Entry)).length++(List.replicate (Int.toNat (IntKind.i64.wrap ((List.length w0:Int) - (1:Int)))) (⟨[],0⟩:Entry)).drop (w0.take (Int.toNat y1.1)).length).length:Int))) (
 bcase (decide (0≤(IntKind.i64.wrap (y1.1+(1:Int)))∧(IntKind.i64.wrap (y1.1+(1:Int)))≤(w0.length:Int))) (
 bcase (Nat.ble ((Int.toNat ((min (w0.take (Int.toNat y1.1)).length (List.replicate (Int.toNat (IntKind.i64.wrap ((List.length w0:Int) - (1:Int)))) (⟨[],0⟩:Entry)).length:Nat):Int))+(((w0.take (Int.toNat y1.1)).take (List.replicate (Int.toNat (IntKind.i64.wrap ((List.length w0:Int) - (1:Int)))) (⟨[],0⟩:Entry)).length++(List.replicate (Int.toNat (IntKind.i64.wrap ((List.length w0:Int) - (1:Int)))) (⟨[],0⟩:Entry)).drop (w0.take (Int.toNat y1.1)).length).length - (Int.toNat ((min (w0.take (Int.toNat y1.1)).length (List.replicate (Int.toNat (IntKind.i64.wrap ((List.length w0:Int) - (1:Int)))) (⟨[],0⟩:Entry)).length:Nat):Int)))) ((w0.take (Int.toNat y1.1)).take (List.replicate (Int.toNat (IntKind.i64.wrap ((List.length w0:Int) - (1:Int)))) (⟨[],0⟩:Entry)).length++(List.replicate (Int.toNat (IntKind.i64.wrap ((List.length w0:Int) - (1:Int)))) (⟨[],0⟩:Entry)).drop (w0.take (Int.toNat y1.1)).length).length) (some (((w0.take (Int.toNat y1.1)).take (List.replicate (Int.toNat (IntKind.i64.wrap ((List.length w0:Int) - (1:Int)))) (⟨[],0⟩:Entry)).length++(List.replicate (Int.toNat (IntKind.i64.wrap ((List.length w0:Int) - (1:Int)))) (⟨[],0⟩:Entry)).drop (w0.take (Int.toNat y1.1)).length).take (Int.toNat ((min (w0.take (Int.toNat y1.1)).length (List.replicate (Int.toNat (IntKind.i64.wrap ((List.length w0:Int) - (1:Int)))) (⟨[],0⟩:Entry)).length:Nat):Int))++((w0.drop (Int.toNat (IntKind.i64.wrap (y1.1+(1:Int))))).take (((w0.take (Int.toNat y1.1)).take (List.replicate (Int.toNat (IntKind.i64.wrap ((List.length w0:Int) - (1:Int)))) (⟨[],0⟩:Entry)).length++(List.replicate (Int.toNat (IntKind.i64.wrap ((List.length w0:Int) - (1:Int)))) (⟨[],0⟩:Entry)).drop (w0.take (Int.toNat y1.1)).length).length - (Int.toNat ((min (w0.take (Int.toNat y1.1)).length (List.replicate (Int.toNat (IntKind.i64.wrap ((List.length w0:Int) - (1:Int)))) (⟨[],0⟩:Entry)).length:Nat):Int)))++(((w0.take (Int.toNat y1.1)).take (List.replicate (Int.toNat (IntKind.i64.wrap ((List.length w0:Int) - (1:Int)))) (⟨[],0⟩:Entry)).length++(List.replicate (Int.toNat (IntKind.i64.wrap ((List.length w0:Int) - (1:Int)))) (⟨[],0⟩:Entry)).drop (w0.take (Int.toNat y1.1)).length).drop (Int.toNat ((min (w0.take (Int.toNat y1.1)).length (List.replicate (Int.toNat (IntKind.i64.wrap ((List.length w0:Int) - (1:Int)))) (⟨[],0⟩:Entry)).length:Nat):Int))).drop (min (w0.drop (Int.toNat (IntKind.i64.wrap (y1.1+(1:Int))))).length (((w0.take (Int.toNat y1.1)).take (List.replicate (Int.toNat (IntKind.i64.wrap ((List.length w0:Int) - (1:Int)))) (⟨[],0⟩:Entry)).length++(List.replicate (Int.toNat (IntKind.i64.wrap ((List.length w0:Int) - (1:Int)))) (⟨[],0⟩:Entry)).drop (w0.take (Int.toNat y1.1)).length).length - (Int.toNat ((min (w0.take (Int.toNat y1.1)).length (List.replicate (Int.toNat (IntKind.i64.wrap ((List.length w0:Int) - (1:Int)))) (⟨[],0⟩:Entry)).length:Nat):Int))))))) (none)) (none)) (none)) (none))) (none))
noncomputable def entry_With (w0:(List Entry)) (w1:Str) (w2:Int):Option ((List Entry)):=
 ocase (entry_at w0 w1) fun y1=>nilK w0 (
 bcase y1.2 (
 bcase (decide (0≤y1.1)) (ocase ([] :List Entry)[Int.toNat y1.1]? fun e2=>none) (none)) (
 bcase (decide (0≤y1.1∧y1.1≤(([] :List Entry).length:Int))) (
 bcase ((List.length [(⟨w1,w2⟩:Entry)]:Int)==(0:Int)) (some ([] :List Entry)) (
 bcase (y1.1==(List.length ([] :List Entry):Int)) (lcase (([] :List Entry).length+[(⟨w1,w2⟩:Entry)].length) (some [(⟨w1,w2⟩:Entry)])) (none))) (none))) (lcase (([] :List Entry).length+w0.length) (
 bcase y1.2 (
 bcase (decide (0≤y1.1∧y1.1<((([] :List Entry)++w0).length:Int))) (ocase (([] :List Entry)++w0)[(Int.toNat y1.1)]? fun e3=>some ((([] :List Entry)++w0).set (Int.toNat y1.1) (⟨e3.name,w2⟩:Entry))) (none)) (
 bcase (decide (0≤y1.1∧y1.1≤((([] :List Entry)++w0).length:Int))) (
 bcase ((List.length [(⟨w1,w2⟩:Entry)]:Int)==(0:Int)) (some (([] :List Entry)++w0)) (
 bcase (y1.1==(List.length (([] :List Entry)++w0):Int)) (lcase ((([] :List Entry)++w0).length+[(⟨w1,w2⟩:Entry)].length) (some ((([] :List Entry)++w0)++[(⟨w1,w2⟩:Entry)]))) (capQ (([] :List Entry)++w0).length fun cp4=>
 bcase (decide ((IntKind.i64.wrap ((List.length (([] :List Entry)++w0):Int)+(List.length [(⟨w1,w2⟩:Entry)]:Int)))>(cp4:Int))) (
 bcase (decide (0≤y1.1∧y1.1≤(cp4:Int))) (
 bcase (decide (0≤(IntKind.i64.wrap ((IntKind.i64.wrap ((List.length (([] :List Entry)++w0):Int)+(List.length [(⟨w1,w2⟩:Entry)]:Int))) - y1.1)))) (lcase ((Int.toNat y1.1)+Int.toNat (IntKind.i64.wrap ((IntKind.i64.wrap ((List.length (([] :List Entry)++w0):Int)+(List.length [(⟨w1,w2⟩:Entry)]:Int))) - y1.1))) (
 bcase (Nat.ble (0+(Int.toNat y1.1)) (([] :List Entry)++w0).length) (
 bcase (Nat.blt (cp4 - 0) ((Int.toNat y1.1)+Int.toNat (IntKind.i64.wrap ((IntKind.i64.wrap ((List.length (([] :List Entry)++w0):Int)+(List.length [(⟨w1,w2⟩:Entry)]:Int))) - y1.1)))) (
 bcase (decide (0≤y1.1∧y1.1≤((((([] :List Entry)++w0).drop 0).take (Int.toNat y1.1)++List.replicate (Int.toNat (IntKind.i64.wrap ((IntKind.i64.wrap ((List.length (([] :List Entry)++w0):Int)+(List.length [(⟨w1,w2⟩:Entry)]:Int))) - y1.1))) (⟨[],0⟩:Entry)).length:Int))) (
 bcase (Nat.ble ((Int.toNat y1.1)+((((([] :List Entry)++w0).drop 0).take (Int.toNat y1.1)++List.replicate (Int.toNat (IntKind.i64.wrap ((IntKind.i64.wrap ((List.length (([] :List Entry)++w0):Int)+(List.length [(⟨w1,w2⟩:Entry)]:Int))) - y1.1))) (⟨[],0⟩:Entry)).length - (Int.toNat y1.1))) (((([] :List Entry)++w0).drop 0).take (Int.toNat y1.1)++List.replicate (Int.toNat (IntKind.i64.wrap ((IntKind.i64.wrap ((List.length (([] :List Entry)++w0):Int)+(List.length [(⟨w1,w2⟩:Entry)]:Int))) - y1.1))) (⟨[],0⟩:Entry)).length) (
 bcase (decide (0≤(IntKind.i64.wrap (y1.1+(List.length [(⟨w1,w2⟩:Entry)]:Int)))∧(IntKind.i64.wrap (y1.1+(List.length [(⟨w1,w2⟩:Entry)]:Int)))≤(((((([] :List Entry)++w0).drop 0).take (Int.toNat y1.1)++List.replicate (Int.toNat (IntKind.i64.wrap ((IntKind.i64.wrap ((List.length (([] :List Entry)++w0):Int)+(List.length [(⟨w1,w2⟩:Entry)]:Int))) - y1.1))) (⟨[],0⟩:Entry)).take (Int.toNat y1.1)++([(⟨w1,w2⟩:Entry)].take ((((([] :List Entry)++w0).drop 0).take (Int.toNat y1.1)++List.replicate (Int.toNat (IntKind.i64.wrap ((IntKind.i64.wrap ((List.length (([] :List Entry)++w0):Int)+(List.length [(⟨w1,w2⟩:Entry)]:Int))) - y1.1))) (⟨[],0⟩:Entry)).length - (Int.toNat y1.1))++((((([] :List Entry)++w0).drop 0).take (Int.toNat y1.1)++List.replicate (Int.toNat (IntKind.i64.wrap ((IntKind.i64.wrap ((List.length (([] :List Entry)++w0):Int)+(List.length [(⟨w1,w2⟩:Entry)]:Int))) - y1.1))) (⟨[],0⟩:Entry)).drop (Int.toNat y1.1)).drop (min [(⟨w1,w2⟩:Entry)].length ((((([] :List Entry)++w0).drop 0).take (Int.toNat y1.1)++List.replicate (Int.toNat (IntKind.i64.wrap ((IntKind.i64.wrap ((List.length (([] :List Entry)++w0):Int)+(List.length [(⟨w1,w2⟩:Entry)]:Int))) - y1.1))) (⟨[],0⟩:Entry)).length - (Int.toNat y1.1))))).length:Int))) (
 bcase (decide (0≤y1.1∧y1.1≤((([] :List Entry)++w0).length:Int))) (
 bcase (Nat.ble ((Int.toNat y1.1)+(min ((([] :List Entry)++w0).length - (Int.toNat y1.1)) (((((([] :List Entry)++w0).drop 0).take (Int.toNat y1.1)++List.replicate (Int.toNat (IntKind.i64.wrap ((IntKind.i64.wrap ((List.length (([] :List Entry)++w0):Int)+(List.length [(⟨w1,w2⟩:Entry)]:Int))) - y1.1))) (⟨[],0⟩:Entry)).take (Int.toNat y1.1)++([(⟨w1,w2⟩:Entry)].take ((((([] :List Entry)++w0).drop 0).take (Int.toNat y1.1)++List.replicate (Int.toNat (IntKind.i64.wrap ((IntKind.i64.wrap ((List.length (([] :List Entry)++w0):Int)+(List.length [(⟨w1,w2⟩:Entry)]:Int))) - y1.1))) (⟨[],0⟩:Entry)).length - (Int.toNat y1.1))++((((([] :List Entry)++w0).drop 0).take (Int.toNat y1.1)++List.replicate (Int.toNat (IntKind.i64.wrap ((IntKind.i64.wrap ((List.length (([] :List Entry)++w0):Int)+(List.length [(⟨w1,w2⟩:Entry)]:Int))) - y1.1))) (⟨[],0⟩:Entry)).drop (Int.toNat y1.1)).drop (min [(⟨w1,w2⟩:Entry)].length ((((([] :List Entry)++w0).drop 0).take (Int.toNat y1.1)++List.replicate (Int.toNat (IntKind.i64.wrap ((IntKind.i64.wrap ((List.length (([] :List Entry)++w0):Int)+(List.length [(⟨w1,w2⟩:Entry)]:Int))) - y1.1))) (⟨[],0⟩:Entry)).length - (Int.toNat y1.1))))).length - (Int.toNat (IntKind.i64.wrap (y1.1+(List.length [(⟨w1,w2⟩:Entry)]:Int))))))) (([] :List Entry)++w0).length) (
 bcase (Nat.ble (Int.toNat (IntKind.i64.wrap (y1.1+(List.length [(⟨w1,w2⟩:Entry)]:Int)))) ((((([] :List Entry)++w0).drop 0).take (Int.toNat y1.1)++List.replicate (Int.toNat (IntKind.i64.wrap ((IntKind.i64.wrap ((List.length (([] :List Entry)++w0):Int)+(List.length [(⟨w1,w2⟩:Entry)]:Int))) - y1.1))) (⟨[],0⟩:Entry)).take (Int.toNat y1.1)++([(⟨w1,w2⟩:Entry)].take ((((([] :List Entry)++w0).drop 0).take (Int.toNat y1.1)++List.replicate (Int.toNat (IntKind.i64.wrap ((IntKind.i64.wrap ((List.length (([] :List Entry)++w0):Int)+(List.length [(⟨w1,w2⟩:Entry)]:Int))) - y1.1))) (⟨[],0⟩:Entry)).length - (Int.toNat y1.1))++((((([] :List Entry)++w0).drop 0).take (Int.toNat y1.1)++List.replicate (Int.toNat (IntKind.i64.wrap ((IntKind.i64.wrap ((List.length (([] :List Entry)++w0):Int)+(List.length [(⟨w1,w2⟩:Entry)]:Int))) - y1.1))) (⟨[],0⟩:Entry)).drop (Int.toNat y1.1)).drop (min [(⟨w1,w2⟩:Entry)].length ((((([] :List Entry)++w0).drop 0).take (Int.toNat y1.1)++List.replicate (Int.toNat (IntKind.i64.wrap ((IntKind.i64.wrap ((List.length (([] :List Entry)++w0):Int)+(List.length [(⟨w1,w2⟩:Entry)]:Int))) - y1.1))) (⟨[],0⟩:Entry)).length - (Int.toNat y1.1))))).length) (
 bcase (Nat.ble ((Int.toNat (IntKind.i64.wrap (y1.1+(List.length [(⟨w1,w2⟩:Entry)]:Int))))+(min ((([] :List Entry)++w0).length - (Int.toNat y1.1)) (((((([] :List Entry)++w0).drop 0).take (Int.toNat y1.1)++List.replicate (Int.toNat (IntKind.i64.wrap ((IntKind.i64.wrap ((List.length (([] :List Entry)++w0):Int)+(List.length [(⟨w1,w2⟩:Entry)]:Int))) - y1.1))) (⟨[],0⟩:Entry)).take (Int.toNat y1.1)++([(⟨w1,w2⟩:Entry)].take ((((([] :List Entry)++w0).drop 0).take (Int.toNat y1.1)++List.replicate (Int.toNat (IntKind.i64.wrap ((IntKind.i64.wrap ((List.length (([] :List Entry)++w0):Int)+(List.length [(⟨w1,w2⟩:Entry)]:Int))) - y1.1))) (⟨[],0⟩:Entry)).length - (Int.toNat y1.1))++((((([] :List Entry)++w0).drop 0).take (Int.toNat y1.1)++List.replicate (Int.toNat (IntKind.i64.wrap ((IntKind.i64.wrap ((List.length (([] :List Entry)++w0):Int)+(List.length [(⟨w1,w2⟩:Entry)]:Int))) - y1.1))) (⟨[],0⟩:Entry)).drop (Int.toNat y1.1)).drop (min [(⟨w1,w2⟩:Entry)].length ((((([] :List Entry)++w0).drop 0).take (Int.toNat y1.1)++List.replicate (Int.toNat (IntKind.i64.wrap ((IntKind.i64.wrap ((List.length (([] :List Entry)++w0):Int)+(List.length [(⟨w1,w2⟩:Entry)]:Int))) - y1.1))) (⟨[],0⟩:Entry)).length - (Int.toNat y1.1))))).length - (Int.toNat (IntKind.i64.wrap (y1.1+(List.length [(⟨w1,w2⟩:Entry)]:Int))))))) ((((([] :List Entry)++w0).drop 0).take (Int.toNat y1.1)++List.replicate (Int.toNat (IntKind.i64.wrap ((IntKind.i64.wrap ((List.length (([] :List Entry)++w0):Int)+(List.length [(⟨w1,w2⟩:Entry)]:Int))) - y1.1))) (⟨[],0⟩:Entry)).take (Int.toNat y1.1)++([(⟨w1,w2⟩:Entry)].take ((((([] :List Entry)++w0).drop 0).take (Int.toNat y1.1)++List.replicate (Int.toNat (IntKind.i64.wrap ((IntKind.i64.wrap ((List.length (([] :List Entry)++w0):Int)+(List.length [(⟨w1,w2⟩:Entry)]:Int))) - y1.1))) (⟨[],0⟩:Entry)).length - (Int.toNat y1.1))++((((([] :List Entry)++w0).drop 0).take (Int.toNat y1.1)++List.replicate (Int.toNat (IntKind.i64.wrap ((IntKind.i64.wrap ((List.length (([] :List Entry)++w0):Int)+(List.length [(⟨w1,w2⟩:Entry)]:Int))) - y1.1))) (⟨[],0⟩:Entry)).drop (Int.toNat y1.1)).drop (min [(⟨w1,w2⟩:Entry)].length ((((([] :List Entry)++w0).drop 0).take (Int.toNat y1.1)++List.replicate (Int.toNat (IntKind.i64.wrap ((IntKind.i64.wrap ((List.length (([] :List Entry)++w0):Int)+(List.length [(⟨w1,w2⟩:Entry)]:Int))) - y1.1))) (⟨[],0⟩:Entry)).length - (Int.toNat y1.1))))).length) (some (((((([] :List Entry)++w0).drop 0).take (Int.toNat y1.1)++List.replicate (Int.toNat (IntKind.i64.wrap ((IntKind.i64.wrap ((List.length (([] :List Entry)++w0):Int)+(List.length [(⟨w1,w2⟩:Entry)]:Int))) - y1.1))) (⟨[],0⟩:Entry)).take (Int.toNat y1.1)++([(⟨w1,w2⟩:Entry)].take ((((([] :List Entry)++w0).drop 0).take (Int.toNat y1.1)++List.replicate (Int.toNat (IntKind.i64.wrap ((IntKind.i64.wrap ((List.length (([] :List Entry)++w0):Int)+(List.length [(⟨w1,w2⟩:Entry)]:Int))) - y1.1))) (⟨[],0⟩:Entry)).length - (Int.toNat y1.1))++((((([] :List Entry)++w0).drop 0).take (Int.toNat y1.1)++List.replicate (Int.toNat (IntKind.i64.wrap ((IntKind.i64.wrap ((List.length (([] :List Entry)++w0):Int)+(List.length [(⟨w1,w2⟩:Entry)]:Int))) - y1.1))) (⟨[],0⟩:Entry)).drop (Int.toNat y1.1)).drop (min [(⟨w1,w2⟩:Entry)].length ((((([] :List Entry)++w0).drop 0).take (Int.toNat y1.1)++List.replicate (Int.toNat (IntKind.i64.wrap ((IntKind.i64.wrap ((List.length (([] :List Entry)++w0):Int)+(List.length [(⟨w1,w2⟩:Entry)]:Int))) - y1.1))) (⟨[],0⟩:Entry)).length - (Int.toNat y1.1))))).take (Int.toNat (IntKind.i64.wrap (y1.1+(List.length [(⟨w1,w2⟩:Entry)]:Int))))++((((([] :List Entry)++w0).drop (Int.toNat y1.1)).take (min ((([] :List Entry)++w0).length - (Int.toNat y1.1)) (((((([] :List Entry)++w0).drop 0).take (Int.toNat y1.1)++List.replicate (Int.toNat (IntKind.i64.wrap ((IntKind.i64.wrap ((List.length (([] :List Entry)++w0):Int)+(List.length [(⟨w1,w2⟩:Entry)]:Int))) - y1.1))) (⟨[],0⟩:Entry)).take (Int.toNat y1.1)++([(⟨w1,w2⟩:Entry)].take ((((([] :List Entry)++w0).drop 0).take (Int.toNat y1.1)++List.replicate (Int.toNat (IntKind.i64.wrap ((IntKind.i64.wrap ((List.length (([] :List Entry)++w0):Int)+(List.length [(⟨w1,w2⟩:Entry)]:Int))) - y1.1))) (⟨[],0⟩:Entry)).length - (Int.toNat y1.1))++((((([] :List Entry)++w0).drop 0).take (Int.toNat y1.1)++List.replicate (Int.toNat (IntKind.i64.wrap ((IntKind.i64.wrap ((List.length (([] :List Entry)++w0):Int)+(List.length [(⟨w1,w2⟩:Entry)]:Int))) - y1.1))) (⟨[],0⟩:Entry)).drop (Int.toNat y1.1)).drop (min [(⟨w1,w2⟩:Entry)].length ((((([] :List Entry)++w0).drop 0).take (Int.toNat y1.1)++List.replicate (Int.toNat (IntKind.i64.wrap ((IntKind.i64.wrap ((List.length (([] :List Entry)++w0):Int)+(List.length [(⟨w1,w2⟩:Entry)]:Int))) - y1.1))) (⟨[],0⟩:Entry)).length - (Int.toNat y1.1))))).length - (Int.toNat (IntKind.i64.wrap (y1.1+(List.length [(⟨w1,w2⟩:Entry)]:Int)))))))++((((([] :List Entry)++w0).drop 0).take (Int.toNat y1.1)++List.replicate (Int.toNat (IntKind.i64.wrap ((IntKind.i64.wrap ((List.length (([] :List Entry)++w0):Int)+(List.length [(⟨w1,w2⟩:Entry)]:Int))) - y1.1))) (⟨[],0⟩:Entry)).take (Int.toNat y1.1)++([(⟨w1,w2⟩:Entry)].take ((((([] :List Entry)++w0).drop 0).take (Int.toNat y1.1)++List.replicate (Int.toNat (IntKind.i64.wrap ((IntKind.i64.wrap ((List.length (([] :List Entry)++w0):Int)+(List.length [(⟨w1,w2⟩:Entry)]:Int))) - y1.1))) (⟨[],0⟩:Entry)).length - (Int.toNat y1.1))++((((([] :List Entry)++w0).drop 0).take (Int.toNat y1.1)++List.replicate (Int.toNat (IntKind.i64.wrap ((IntKind.i64.wrap ((List.length (([] :List Entry)++w0):Int)+(List.length [(⟨w1,w2⟩:Entry)]:Int))) - y1.1))) (⟨[],0⟩:Entry)).drop (Int.toNat y1.1)).drop (min [(⟨w1,w2⟩:Entry)].length ((((([] :List Entry)++w0).drop 0).take (Int.toNat y1.1)++List.replicate (Int.toNat (IntKind.i64.wrap ((IntKind.i64.wrap ((List.length (([] :List Entry)++w0):Int)+(List.length [(⟨w1,w2⟩:Entry)]:Int))) - y1.1))) (⟨[],0⟩:Entry)).length - (Int.toNat y1.1))))).drop ((Int.toNat (IntKind.i64.wrap (y1.1+(List.length [(⟨w1,w2⟩:Entry)]:Int))))+(min ((([] :List Entry)++w0).length - (Int.toNat y1.1)) (((((([] :List Entry)++w0).drop 0).take (Int.toNat y1.1)++List.replicate (Int.toNat (IntKind.i64.wrap ((IntKind.i64.wrap ((List.length (([] :List Entry)++w0):Int)+(List.length [(⟨w1,w2⟩:Entry)]:Int))) - y1.1))) (⟨[],0⟩:Entry)).take (Int.toNat y1.1)++([(⟨w1,w2⟩:Entry)].take ((((([] :List Entry)++w0).drop 0).take (Int.toNat y1.1)++List.replicate (Int.toNat (IntKind.i64.wrap ((IntKind.i64.wrap ((List.length (([] :List Entry)++w0):Int)+(List.length [(⟨w1,w2⟩:Entry)]:Int))) - y1.1))) (⟨[],0⟩:Entry)).length - (Int.toNat y1.1))++((((([] :List Entry)++w0).drop 0).take (Int.toNat y1.1)++List.replicate (Int.toNat (IntKind.i64.wrap ((IntKind.i64.wrap ((List.length (([] :List Entry)++w0):Int)+(List.length [(⟨w1,w2⟩:Entry)]:Int))) - y1.1))) (⟨[],0⟩:Entry)).drop (Int.toNat y1.1)).drop (min [(⟨w1,w2⟩:Entry)].length ((((([] :List Entry)++w0).drop 0).take (Int.toNat y1.1)++List.replicate (Int.toNat (IntKind.i64.wrap ((IntKind.i64.wrap ((List.length (([] :List Entry)++w0):Int)+(List.length [(⟨w1,w2⟩:Entry)]:Int))) - y1.1))) (⟨[],0⟩:Entry)).length - (Int.toNat y1.1))))).length - (Int.toNat (IntKind.i64.wrap (y1.1+(List.length [(⟨w1,w2⟩:Entry)]:Int)))))))))) (none)) (none)) (none)) (none)) (none)) (none)) (none)) (none)) (none))) (none)) (none)) (
 bcase (decide (0≤(IntKind.i64.wrap ((List.length (([] :List Entry)++w0):Int)+(List.length [(⟨w1,w2⟩:Entry)]:Int)))∧(IntKind.i64.wrap ((List.length (([] :List Entry)++w0):Int)+(List.length [(⟨w1,w2⟩:Entry)]:Int)))≤(cp4:Int))) (
 bcase (decide (0≤(IntKind.i64.wrap (y1.1+(List.length [(⟨w1,w2⟩:Entry)]:Int)))∧(IntKind.i64.wrap (y1.1+(List.length [(⟨w1,w2⟩:Entry)]:Int)))≤((Int.toNat (IntKind.i64.wrap ((List.length (([] :List Entry)++w0):Int)+(List.length [(⟨w1,w2⟩:Entry)]:Int)))):Int))) (
 bcase (Nat.blt 0 [(⟨w1,w2⟩:Entry)].length) (
 bcase (Nat.blt 0 (([] :List Entry)++w0).length) (
 bcase (decide (0≤(IntKind.i64.wrap (y1.1+(List.length [(⟨w1,w2⟩:Entry)]:Int)))∧(IntKind.i64.wrap (y1.1+(List.length [(⟨w1,w2⟩:Entry)]:Int)))≤((Int.toNat (IntKind.i64.wrap ((List.length (([] :List Entry)++w0):Int)+(List.length [(⟨w1,w2⟩:Entry)]:Int)))):Int))) (
 bcase (decide (0≤y1.1∧y1.1≤((Int.toNat (IntKind.i64.wrap ((List.length (([] :List Entry)++w0):Int)+(List.length [(⟨w1,w2⟩:Entry)]:Int)))):Int))) (
 bcase (Nat.ble ((0+(Int.toNat y1.1))+(min ((Int.toNat (IntKind.i64.wrap ((List.length (([] :List Entry)++w0):Int)+(List.length [(⟨w1,w2⟩:Entry)]:Int)))) - (Int.toNat y1.1)) ((Int.toNat (IntKind.i64.wrap ((List.length (([] :List Entry)++w0):Int)+(List.length [(⟨w1,w2⟩:Entry)]:Int)))) - (Int.toNat (IntKind.i64.wrap (y1.1+(List.length [(⟨w1,w2⟩:Entry)]:Int))))))) (([] :List Entry)++w0).length) (
 bcase (Nat.ble (0+(Int.toNat (IntKind.i64.wrap (y1.1+(List.length [(⟨w1,w2⟩:Entry)]:Int))))) (([] :List Entry)++w0).length) (
 bcase (Nat.ble ((0+(Int.toNat (IntKind.i64.wrap (y1.1+(List.length [(⟨w1,w2⟩:Entry)]:Int)))))+(min ((Int.toNat (IntKind.i64.wrap ((List.length (([] :List Entry)++w0):Int)+(List.length [(⟨w1,w2⟩:Entry)]:Int)))) - (Int.toNat y1.1)) ((Int.toNat (IntKind.i64.wrap ((List.length (([] :List Entry)++w0):Int)+(List.length [(⟨w1,w2⟩:Entry)]:Int)))) - (Int.toNat (IntKind.i64.wrap (y1.1+(List.length [(⟨w1,w2⟩:Entry)]:Int))))))) (([] :List Entry)++w0).length) (
 bcase (decide (0≤y1.1∧y1.1≤((Int.toNat (IntKind.i64.wrap ((List.length (([] :List Entry)++w0):Int)+(List.length [(⟨w1,w2⟩:Entry)]:Int)))):Int))) (
 bcase (Nat.ble ((0+(Int.toNat y1.1))+((Int.toNat (IntKind.i64.wrap ((List.length (([] :List Entry)++w0):Int)+(List.length [(⟨w1,w2⟩:Entry)]:Int)))) - (Int.toNat y1.1))) ((([] :List Entry)++w0).take (0+(Int.toNat (IntKind.i64.wrap (y1.1+(List.length [(⟨w1,w2⟩:Entry)]:Int)))))++((((([] :List Entry)++w0).drop (0+(Int.toNat y1.1))).take (min ((Int.toNat (IntKind.i64.wrap ((List.length (([] :List Entry)++w0):Int)+(List.length [(⟨w1,w2⟩:Entry)]:Int)))) - (Int.toNat y1.1)) ((Int.toNat (IntKind.i64.wrap ((List.length (([] :List Entry)++w0):Int)+(List.length [(⟨w1,w2⟩:Entry)]:Int)))) - (Int.toNat (IntKind.i64.wrap (y1.1+(List.length [(⟨w1,w2⟩:Entry)]:Int)))))))++(([] :List Entry)++w0).drop ((0+(Int.toNat (IntKind.i64.wrap (y1.1+(List.length [(⟨w1,w2⟩:Entry)]:Int)))))+(min ((Int.toNat (IntKind.i64.wrap ((List.length (([] :List Entry)++w0):Int)+(List.length [(⟨w1,w2⟩:Entry)]:Int)))) - (Int.toNat y1.1)) ((Int.toNat (IntKind.i64.wrap ((List.length (([] :List Entry)++w0):Int)+(List.length [(⟨w1,w2⟩:Entry)]:Int)))) - (Int.toNat (IntKind.i64.wrap (y1.1+(List.length [(⟨w1,w2⟩:Entry)]:Int))))))))).length) (
 bcase (Nat.ble (0+(Int.toNat (IntKind.i64.wrap ((List.length (([] :List Entry)++w0):Int)+(List.length [(⟨w1,w2⟩:Entry)]:Int))))) (((([] :List Entry)++w0).take (0+(Int.toNat (IntKind.i64.wrap (y1.1+(List.length [(⟨w1,w2⟩:Entry)]:Int)))))++((((([] :List Entry)++w0).drop (0+(Int.toNat y1.1))).take (min ((Int.toNat (IntKind.i64.wrap ((List.length (([] :List Entry)++w0):Int)+(List.length [(⟨w1,w2⟩:Entry)]:Int)))) - (Int.toNat y1.1)) ((Int.toNat (IntKind.i64.wrap ((List.length (([] :List Entry)++w0):Int)+(List.length [(⟨w1,w2⟩:Entry)]:Int)))) - (Int.toNat (IntKind.i64.wrap (y1.1+(List.length [(⟨w1,w2⟩:Entry)]:Int)))))))++(([] :List Entry)++w0).drop ((0+(Int.toNat (IntKind.i64.wrap (y1.1+(List.length [(⟨w1,w2⟩:Entry)]:Int)))))+(min ((Int.toNat (IntKind.i64.wrap ((List.length (([] :List Entry)++w0):Int)+(List.length [(⟨w1,w2⟩:Entry)]:Int)))) - (Int.toNat y1.1)) ((Int.toNat (IntKind.i64.wrap ((List.length (([] :List Entry)++w0):Int)+(List.length [(⟨w1,w2⟩:Entry)]:Int)))) - (Int.toNat (IntKind.i64.wrap (y1.1+(List.length [(⟨w1,w2⟩:Entry)]:Int))))))))).take (0+(Int.toNat y1.1))++([(⟨w1,w2⟩:Entry)].take ((Int.toNat (IntKind.i64.wrap ((List.length (([] :List Entry)++w0):Int)+(List.length [(⟨w1,w2⟩:Entry)]:Int)))) - (Int.toNat y1.1))++(((([] :List Entry)++w0).take (0+(Int.toNat (IntKind.i64.wrap (y1.1+(List.length [(⟨w1,w2⟩:Entry)]:Int)))))++((((([] :List Entry)++w0).drop (0+(Int.toNat y1.1))).take (min ((Int.toNat (IntKind.i64.wrap ((List.length (([] :List Entry)++w0):Int)+(List.length [(⟨w1,w2⟩:Entry)]:Int)))) - (Int.toNat y1.1)) ((Int.toNat (IntKind.i64.wrap ((List.length (([] :List Entry)++w0):Int)+(List.length [(⟨w1,w2⟩:Entry)]:Int)))) - (Int.toNat (IntKind.i64.wrap (y1.1+(List.length [(⟨w1,w2⟩:Entry)]:Int)))))))++(([] :List Entry)++w0).drop ((0+(Int.toNat (IntKind.i64.wrap (y1.1+(List.length [(⟨w1,w2⟩:Entry)]:Int)))))+(min ((Int.toNat (IntKind.i64.wrap ((List.length (([] :List Entry)++w0):Int)+(List.length [(⟨w1,w2⟩:Entry)]:Int)))) - (Int.toNat y1.1)) ((Int.toNat (IntKind.i64.wrap ((List.length (([] :List Entry)++w0):Int)+(List.length [(⟨w1,w2⟩:Entry)]:Int)))) - (Int.toNat (IntKind.i64.wrap (y1.1+(List.length [(⟨w1,w2⟩:Entry)]:Int))))))))).drop (0+(Int.toNat y1.1))).drop (min [(⟨w1,w2⟩:Entry)].length ((Int.toNat (IntKind.i64.wrap ((List.length (([] :List Entry)++w0):Int)+(List.length [(⟨w1,w2⟩:Entry)]:Int)))) - (Int.toNat y1.1))))).length) (some (((((([] :List Entry)++w0).take (0+(Int.toNat (IntKind.i64.wrap (y1.1+(List.length [(⟨w1,w2⟩:Entry)]:Int)))))++((((([] :List Entry)++w0).drop (0+(Int.toNat y1.1))).take (min ((Int.toNat (IntKind.i64.wrap ((List.length (([] :List Entry)++w0):Int)+(List.length [(⟨w1,w2⟩:Entry)]:Int)))) - (Int.toNat y1.1)) ((Int.toNat (IntKind.i64.wrap ((List.length (([] :List Entry)++w0):Int)+(List.length [(⟨w1,w2⟩:Entry)]:Int)))) - (Int.toNat (IntKind.i64.wrap (y1.1+(List.length [(⟨w1,w2⟩:Entry)]:Int)))))))++(([] :List Entry)++w0).drop ((0+(Int.toNat (IntKind.i64.wrap (y1.1+(List.length [(⟨w1,w2⟩:Entry)]:Int)))))+(min ((Int.toNat (IntKind.i64.wrap ((List.length (([] :List Entry)++w0):Int)+(List.length [(⟨w1,w2⟩:Entry)]:Int)))) - (Int.toNat y1.1)) ((Int.toNat (IntKind.i64.wrap ((List.length (([] :List Entry)++w0):Int)+(List.length [(⟨w1,w2⟩:Entry)]:Int)))) - (Int.toNat (IntKind.i64.wrap (y1.1+(List.length [(⟨w1,w2⟩:Entry)]:Int))))))))).take (0+(Int.toNat y1.1))++([(⟨w1,w2⟩:Entry)].take ((Int.toNat (IntKind.i64.wrap ((List.length (([] :List Entry)++w0):Int)+(List.length [(⟨w1,w2⟩:Entry)]:Int)))) - (Int.toNat y1.1))++(((([] :List Entry)++w0).take (0+(Int.toNat (IntKind.i64.wrap (y1.1+(List.length [(⟨w1,w2⟩:Entry)]:Int)))))++((((([] :List Entry)++w0).drop (0+(Int.toNat y1.1))).take (min ((Int.toNat (IntKind.i64.wrap ((List.length (([] :List Entry)++w0):Int)+(List.length [(⟨w1,w2⟩:Entry)]:Int)))) - (Int.toNat y1.1)) ((Int.toNat (IntKind.i64.wrap ((List.length (([] :List Entry)++w0):Int)+(List.length [(⟨w1,w2⟩:Entry)]:Int)))) - (Int.toNat (IntKind.i64.wrap (y1.1+(List.length [(⟨w1,w2⟩:Entry)]:Int)))))))++(([] :List Entry)++w0).drop ((0+(Int.toNat (IntKind.i64.wrap (y1.1+(List.length [(⟨w1,w2⟩:Entry)]:Int)))))+(min ((Int.toNat (IntKind.i64.wrap ((List.length (([] :List Entry)++w0):Int)+(List.length [(⟨w1,w2⟩:Entry)]:Int)))) - (Int.toNat y1.1)) ((Int.toNat (IntKind.i64.wrap ((List.length (([] :List Entry)++w0):Int)+(List.length [(⟨w1,w2⟩:Entry)]:Int)))) - (Int.toNat (IntKind.i64.wrap (y1.1+(List.length [(⟨w1,w2⟩:Entry)]:Int))))))))).drop (0+(Int.toNat y1.1))).drop (min [(⟨w1,w2⟩:Entry)].length ((Int.toNat (IntKind.i64.wrap ((List.length (([] :List Entry)++w0):Int)+(List.length [(⟨w1,w2⟩:Entry)]:Int)))) - (Int.toNat y1.1))))).drop 0).take (Int.toNat (IntKind.i64.wrap ((List.length (([] :List Entry)++w0):Int)+(List.length [(⟨w1,w2⟩:Entry)]:Int)))))) (none)) (none)) (none)) (
 bcase (decide (0≤y1.1∧y1.1≤((Int.toNat (IntKind.i64.wrap ((List.length (([] :List Entry)++w0):Int)+(List.length [(⟨w1,w2⟩:Entry)]:Int)))):Int))) (
 bcase (Nat.ble ((0+(Int.toNat y1.1))+((Int.toNat (IntKind.i64.wrap ((List.length (([] :List Entry)++w0):Int)+(List.length [(⟨w1,w2⟩:Entry)]:Int)))) - (Int.toNat y1.1))) ((([] :List Entry)++w0).take (0+(Int.toNat (IntKind.i64.wrap (y1.1+(List.length [(⟨w1,w2⟩:Entry)]:Int)))))++(((([] :List Entry)++w0).drop (0+(Int.toNat y1.1))).take (min ((Int.toNat (IntKind.i64.wrap ((List.length (([] :List Entry)++w0):Int)+(List.length [(⟨w1,w2⟩:Entry)]:Int)))) - (Int.toNat y1.1)) ((Int.toNat (IntKind.i64.wrap ((List.length (([] :List Entry)++w0):Int)+(List.length [(⟨w1,w2⟩:Entry)]:Int)))) - (Int.toNat (IntKind.i64.wrap (y1.1+(List.length [(⟨w1,w2⟩:Entry)]:Int)))))))).length) (
 bcase (Nat.ble (0+(Int.toNat (IntKind.i64.wrap ((List.length (([] :List Entry)++w0):Int)+(List.length [(⟨w1,w2⟩:Entry)]:Int))))) (((([] :List Entry)++w0).take (0+(Int.toNat (IntKind.i64.wrap (y1.1+(List.length [(⟨w1,w2⟩:Entry)]:Int)))))++(((([] :List Entry)++w0).drop (0+(Int.toNat y1.1))).take (min ((Int.toNat (IntKind.i64.wrap ((List.length (([] :List Entry)++w0):Int)+(List.length [(⟨w1,w2⟩:Entry)]:Int)))) - (Int.toNat y1.1)) ((Int.toNat (IntKind.i64.wrap ((List.length (([] :List Entry)++w0):Int)+(List.length [(⟨w1,w2⟩:Entry)]:Int)))) - (Int.toNat (IntKind.i64.wrap (y1.1+(List.length [(⟨w1,w2⟩:Entry)]:Int)))))))).take (0+(Int.toNat y1.1))++([(⟨w1,w2⟩:Entry)].take ((Int.toNat (IntKind.i64.wrap ((List.length (([] :List Entry)++w0):Int)+(List.length [(⟨w1,w2⟩:Entry)]:Int)))) - (Int.toNat y1.1))++(((([] :List Entry)++w0).take (0+(Int.toNat (IntKind.i64.wrap (y1.1+(List.length [(⟨w1,w2⟩:Entry)]:Int)))))++(((([] :List Entry)++w0).drop (0+(Int.toNat y1.1))).take (min ((Int.toNat (IntKind.i64.wrap ((List.length (([] :List Entry)++w0):Int)+(List.length [(⟨w1,w2⟩:Entry)]:Int)))) - (Int.toNat y1.1)) ((Int.toNat (IntKind.i64.wrap ((List.length (([] :List Entry)++w0):Int)+(List.length [(⟨w1,w2⟩:Entry)]:Int)))) - (Int.toNat (IntKind.i64.wrap (y1.1+(List.length [(⟨w1,w2⟩:Entry)]:Int)))))))).drop (0+(Int.toNat y1.1))).drop (min [(⟨w1,w2⟩:Entry)].length ((Int.toNat (IntKind.i64.wrap ((List.length (([] :List Entry)++w0):Int)+(List.length [(⟨w1,w2⟩:Entry)]:Int)))) - (Int.toNat y1.1))))).length) (some (((((([] :List Entry)++w0).take (0+(Int.toNat (IntKind.i64.wrap (y1.1+(List.length [(⟨w1,w2⟩:Entry)]:Int)))))++(((([] :List Entry)++w0).drop (0+(Int.toNat y1.1))).take (min ((Int.toNat (IntKind.i64.wrap ((List.length (([] :List Entry)++w0):Int)+(List.length [(⟨w1,w2⟩:Entry)]:Int)))) - (Int.toNat y1.1)) ((Int.toNat (IntKind.i64.wrap ((List.length (([] :List Entry)++w0):Int)+(List.length [(⟨w1,w2⟩:Entry)]:Int)))) - (Int.toNat (IntKind.i64.wrap (y1.1+(List.length [(⟨w1,w2⟩:Entry)]:Int)))))))).take (0+(Int.toNat y1.1))++([(⟨w1,w2⟩:Entry)].take ((Int.toNat (IntKind.i64.wrap ((List.length (([] :List Entry)++w0):Int)+(List.length [(⟨w1,w2⟩:Entry)]:Int)))) - (Int.toNat y1.1))++(((([] :List Entry)++w0).take (0+(Int.toNat (IntKind.i64.wrap (y1.1+(List.length [(⟨w1,w2⟩:Entry)]:Int)))))++(((([] :List Entry)++w0).drop (0+(Int.toNat y1.1))).take (min ((Int.toNat (IntKind.i64.wrap ((List.length (([] :List Entry)++w0):Int)+(List.length [(⟨w1,w2⟩:Entry)]:Int)))) - (Int.toNat y1.1)) ((Int.toNat (IntKind.i64.wrap ((List.length (([] :List Entry)++w0):Int)+(List.length [(⟨w1,w2⟩:Entry)]:Int)))) - (Int.toNat (IntKind.i64.wrap (y1.1+(List.length [(⟨w1,w2⟩:Entry)]:Int)))))))).drop (0+(Int.toNat y1.1))).drop (min [(⟨w1,w2⟩:Entry)].length ((Int.toNat (IntKind.i64.wrap ((List.length (([] :List Entry)++w0):Int)+(List.length [(⟨w1,w2⟩:Entry)]:Int)))) - (Int.toNat y1.1))))).drop 0).take (Int.toNat (IntKind.i64.wrap ((List.length (([] :List Entry)++w0):Int)+(List.length [(⟨w1,w2⟩:Entry)]:Int)))))) (none)) (none)) (none))) (none)) (none)) (none)) (none)) (none)) (none)) (none)) (none))))) (none))))
end Go.Eng
set_option linter.unusedVariables false
set_option maxRecDepth 100000
namespace Go.Eng
open Go
noncomputable def table_at_9_L3 {R:Type} (x1:List Inode) (x2:Int) (k0:Int→Option R):Nat→Int→Int→Option R
 |0,_,_=>none
 |n+1,x4,x5=>
  bcase (decide (x4<x5)) (
  bcase (decide ((1:Int)<0)) (none) (
  bcase (decide (0≤(IntKind.i64.wrap (Int.fdiv (IntKind.u64.wrap (IntKind.i64.wrap (x4+x5))) (2^(min (Int.toNat (1:Int)) (IntKind.bits .u64))))))) (ocase x1[Int.toNat (IntKind.i64.wrap (Int.fdiv (IntKind.u64.wrap (IntKind.i64.wrap (x4+x5))) (2^(min (Int.toNat (1:Int)) (IntKind.bits .u64)))))]? fun e6=>
  bcase (e6.ino !=e6.ino) (
  bcase (x2 !=x2) ((table_at_9_L3 x1 x2 k0 n x4 (IntKind.i64.wrap (Int.fdiv (IntKind.u64.wrap (IntKind.i64.wrap (x4+x5))) (2^(min (Int.toNat (1:Int)) (IntKind.bits .u64))))))) ((table_at_9_L3 x1 x2 k0 n (IntKind.i64.wrap ((IntKind.i64.wrap (Int.fdiv (IntKind.u64.wrap (IntKind.i64.wrap (x4+x5))) (2^(min (Int.toNat (1:Int)) (IntKind.bits .u64)))))+(1:Int))) x5))) (
  bcase (x2 !=x2) ((table_at_9_L3 x1 x2 k0 n x4 (IntKind.i64.wrap (Int.fdiv (IntKind.u64.wrap (IntKind.i64.wrap (x4+x5))) (2^(min (Int.toNat (1:Int)) (IntKind.bits .u64))))))) (
  bcase (decide (e6.ino<x2)) ((table_at_9_L3 x1 x2 k0 n (IntKind.i64.wrap ((IntKind.i64.wrap (Int.fdiv (IntKind.u64.wrap (IntKind.i64.wrap (x4+x5))) (2^(min (Int.toNat (1:Int)) (IntKind.bits .u64)))))+(1:Int))) x5)) (
  bcase (decide (e6.ino>x2)) ((table_at_9_L3 x1 x2 k0 n x4 (IntKind.i64.wrap (Int.fdiv (IntKind.u64.wrap (IntKind.i64.wrap (x4+x5))) (2^(min (Int.toNat (1:Int)) (IntKind.bits .u64))))))) ((table_at_9_L3 x1 x2 k0 n x4 (IntKind.i64.wrap (Int.fdiv (IntKind.u64.wrap (IntKind.i64.wrap (x4+x5))) (2^(min (Int.toNat (1:Int)) (IntKind.bits .u64))))))))))) (none))) ((k0 x4))
noncomputable def table_at (w0:Fs) (w1:Int):Option (Int×Bool):=
 table_at_9_L3 w0.inodes w1 (fun z11=>
 bcase (decide (z11<(List.length w0.inodes:Int))) (
 bcase (decide (0≤z11)) (ocase w0.inodes[Int.toNat z11]? fun e12=>
 bcase (e12.ino !=e12.ino) (
 bcase (w1 !=w1) (some (z11,true)) (some (z11,false))) (
 bcase (w1 !=w1) (some (z11,false)) (
 bcase (decide (e12.ino<w1)) (some (z11,false)) (
 bcase (decide (e12.ino>w1)) (some (z11,false)) (some (z11,true)))))) (none)) (some (z11,false))) FUEL (0:Int) (List.length w0.inodes:Int)
noncomputable def table_Get (w0:Fs) (w1:Int):Option (Inode×Bool):=
 ocase (table_at w0 w1) fun y1=>
 bcase (!y1.2) (some ((⟨0,0,0, [],0,([] :List Entry)⟩:Inode),false)) (
 bcase (decide (0≤y1.1)) (ocase w0.inodes[Int.toNat y1.1]? fun e2=>some (e2,true)) (none))
noncomputable def table_Set (w0:Fs) (w1:Inode):Option (Fs):=
 ocase (table_at w0 w1.ino) fun y1=>nilK w0.inodes (
 bcase y1.2 (
 bcase (decide (0≤y1.1)) (ocase ([] :List Inode)[Int.toNat y1.1]? fun e2=>none) (none)) (
 bcase (decide (0≤y1.1∧y1.1≤(([] :List Inode).length:Int))) (
 bcase ((List.length [w1]:Int)==(0:Int)) (some (⟨w0.maxInodes,w0.maxBytes,w0.next,([] :List Inode)⟩:Fs)) (
 bcase (y1.1==(List.length ([] :List Inode):Int)) (lcase (([] :List Inode).length+[w1].length) (some (⟨w0.maxInodes,w0.maxBytes,w0.next,[w1]⟩:Fs))) (none))) (none))) (lcase (([] :List Inode).length+w0.inodes.length) (
 bcase y1.2 (
 bcase (decide (0≤y1.1∧y1.1<((([] :List Inode)++w0.inodes).length:Int))) (ocase (([] :List Inode)++w0.inodes)[(Int.toNat y1.1)]? fun e3=>some (⟨w0.maxInodes,w0.maxBytes,w0.next,((([] :List Inode)++w0.inodes).set (Int.toNat y1.1) w1)⟩:Fs)) (none)) (
 bcase (decide (0≤y1.1∧y1.1≤((([] :List Inode)++w0.inodes).length:Int))) (
 bcase ((List.length [w1]:Int)==(0:Int)) (some (⟨w0.maxInodes,w0.maxBytes,w0.next,(([] :List Inode)++w0.inodes)⟩:Fs)) (
 bcase (y1.1==(List.length (([] :List Inode)++w0.inodes):Int)) (lcase ((([] :List Inode)++w0.inodes).length+[w1].length) (some (⟨w0.maxInodes,w0.maxBytes,w0.next,((([] :List Inode)++w0.inodes)++[w1])⟩:Fs))) (capQ (([] :List Inode)++w0.inodes).length fun cp4=>
 bcase (decide ((IntKind.i64.wrap ((List.length (([] :List Inode)++w0.inodes):Int)+(List.length [w1]:Int)))>(cp4:Int))) (
 bcase (decide (0≤y1.1∧y1.1≤(cp4:Int))) (
 bcase (decide (0≤(IntKind.i64.wrap ((IntKind.i64.wrap ((List.length (([] :List Inode)++w0.inodes):Int)+(List.length [w1]:Int))) - y1.1)))) (lcase ((Int.toNat y1.1)+Int.toNat (IntKind.i64.wrap ((IntKind.i64.wrap ((List.length (([] :List Inode)++w0.inodes):Int)+(List.length [w1]:Int))) - y1.1))) (
 bcase (Nat.ble (0+(Int.toNat y1.1)) (([] :List Inode)++w0.inodes).length) (
 bcase (Nat.blt (cp4 - 0) ((Int.toNat y1.1)+Int.toNat (IntKind.i64.wrap ((IntKind.i64.wrap ((List.length (([] :List Inode)++w0.inodes):Int)+(List.length [w1]:Int))) - y1.1)))) (
 bcase (decide (0≤y1.1∧y1.1≤((((([] :List Inode)++w0.inodes).drop 0).take (Int.toNat y1.1)++List.replicate (Int.toNat (IntKind.i64.wrap ((IntKind.i64.wrap ((List.length (([] :List Inode)++w0.inodes):Int)+(List.length [w1]:Int))) - y1.1))) (⟨0,0,0, [],0,([] :List Entry)⟩:Inode)).length:Int))) (
 bcase (Nat.ble ((Int.toNat y1.1)+((((([] :List Inode)++w0.inodes).drop 0).take (Int.toNat y1.1)++List.replicate (Int.toNat (IntKind.i64.wrap ((IntKind.i64.wrap ((List.length (([] :List Inode)++w0.inodes):Int)+(List.length [w1]:Int))) - y1.1))) (⟨0,0,0, [],0,([] :List Entry)⟩:Inode)).length - (Int.toNat y1.1))) (((([] :List Inode)++w0.inodes).drop 0).take (Int.toNat y1.1)++List.replicate (Int.toNat (IntKind.i64.wrap ((IntKind.i64.wrap ((List.length (([] :List Inode)++w0.inodes):Int)+(List.length [w1]:Int))) - y1.1))) (⟨0,0,0, [],0,([] :List Entry)⟩:Inode)).length) (
 bcase (decide (0≤(IntKind.i64.wrap (y1.1+(List.length [w1]:Int)))∧(IntKind.i64.wrap (y1.1+(List.length [w1]:Int)))≤(((((([] :List Inode)++w0.inodes).drop 0).take (Int.toNat y1.1)++List.replicate (Int.toNat (IntKind.i64.wrap ((IntKind.i64.wrap ((List.length (([] :List Inode)++w0.inodes):Int)+(List.length [w1]:Int))) - y1.1))) (⟨0,0,0, [],0,([] :List Entry)⟩:Inode)).take (Int.toNat y1.1)++([w1].take ((((([] :List Inode)++w0.inodes).drop 0).take (Int.toNat y1.1)++List.replicate (Int.toNat (IntKind.i64.wrap ((IntKind.i64.wrap ((List.length (([] :List Inode)++w0.inodes):Int)+(List.length [w1]:Int))) - y1.1))) (⟨0,0,0, [],0,([] :List Entry)⟩:Inode)).length - (Int.toNat y1.1))++((((([] :List Inode)++w0.inodes).drop 0).take (Int.toNat y1.1)++List.replicate (Int.toNat (IntKind.i64.wrap ((IntKind.i64.wrap ((List.length (([] :List Inode)++w0.inodes):Int)+(List.length [w1]:Int))) - y1.1))) (⟨0,0,0, [],0,([] :List Entry)⟩:Inode)).drop (Int.toNat y1.1)).drop (min [w1].length ((((([] :List Inode)++w0.inodes).drop 0).take (Int.toNat y1.1)++List.replicate (Int.toNat (IntKind.i64.wrap ((IntKind.i64.wrap ((List.length (([] :List Inode)++w0.inodes):Int)+(List.length [w1]:Int))) - y1.1))) (⟨0,0,0, [],0,([] :List Entry)⟩:Inode)).length - (Int.toNat y1.1))))).length:Int))) (
 bcase (decide (0≤y1.1∧y1.1≤((([] :List Inode)++w0.inodes).length:Int))) (
 bcase (Nat.ble ((Int.toNat y1.1)+(min ((([] :List Inode)++w0.inodes).length - (Int.toNat y1.1)) (((((([] :List Inode)++w0.inodes).drop 0).take (Int.toNat y1.1)++List.replicate (Int.toNat (IntKind.i64.wrap ((IntKind.i64.wrap ((List.length (([] :List Inode)++w0.inodes):Int)+(List.length [w1]:Int))) - y1.1))) (⟨0,0,0, [],0,([] :List Entry)⟩:Inode)).take (Int.toNat y1.1)++([w1].take ((((([] :List Inode)++w0.inodes).drop 0).take (Int.toNat y1.1)++List.replicate (Int.toNat (IntKind.i64.wrap ((IntKind.i64.wrap ((List.length (([] :List Inode)++w0.inodes):Int)+(List.length [w1]:Int))) - y1.1))) (⟨0,0,0, [],0,([] :List Entry)⟩:Inode)).length - (Int.toNat y1.1))++((((([] :List Inode)++w0.inodes).drop 0).take (Int.toNat y1.1)++List.replicate (Int.toNat (IntKind.i64.wrap ((IntKind.i64.wrap ((List.length (([] :List Inode)++w0.inodes):Int)+(List.length [w1]:Int))) - y1.1))) (⟨0,0,0, [],0,([] :List Entry)⟩:Inode)).drop (Int.toNat y1.1)).drop (min [w1].length ((((([] :List Inode)++w0.inodes).drop 0).take (Int.toNat y1.1)++List.replicate (Int.toNat (IntKind.i64.wrap ((IntKind.i64.wrap ((List.length (([] :List Inode)++w0.inodes):Int)+(List.length [w1]:Int))) - y1.1))) (⟨0,0,0, [],0,([] :List Entry)⟩:Inode)).length - (Int.toNat y1.1))))).length - (Int.toNat (IntKind.i64.wrap (y1.1+(List.length [w1]:Int))))))) (([] :List Inode)++w0.inodes).length) (
 bcase (Nat.ble (Int.toNat (IntKind.i64.wrap (y1.1+(List.length [w1]:Int)))) ((((([] :List Inode)++w0.inodes).drop 0).take (Int.toNat y1.1)++List.replicate (Int.toNat (IntKind.i64.wrap ((IntKind.i64.wrap ((List.length (([] :List Inode)++w0.inodes):Int)+(List.length [w1]:Int))) - y1.1))) (⟨0,0,0, [],0,([] :List Entry)⟩:Inode)).take (Int.toNat y1.1)++([w1].take ((((([] :List Inode)++w0.inodes).drop 0).take (Int.toNat y1.1)++List.replicate (Int.toNat (IntKind.i64.wrap ((IntKind.i64.wrap ((List.length (([] :List Inode)++w0.inodes):Int)+(List.length [w1]:Int))) - y1.1))) (⟨0,0,0, [],0,([] :List Entry)⟩:Inode)).length - (Int.toNat y1.1))++((((([] :List Inode)++w0.inodes).drop 0).take (Int.toNat y1.1)++List.replicate (Int.toNat (IntKind.i64.wrap ((IntKind.i64.wrap ((List.length (([] :List Inode)++w0.inodes):Int)+(List.length [w1]:Int))) - y1.1))) (⟨0,0,0, [],0,([] :List Entry)⟩:Inode)).drop (Int.toNat y1.1)).drop (min [w1].length ((((([] :List Inode)++w0.inodes).drop 0).take (Int.toNat y1.1)++List.replicate (Int.toNat (IntKind.i64.wrap ((IntKind.i64.wrap ((List.length (([] :List Inode)++w0.inodes):Int)+(List.length [w1]:Int))) - y1.1))) (⟨0,0,0, [],0,([] :List Entry)⟩:Inode)).length - (Int.toNat y1.1))))).length) (
 bcase (Nat.ble ((Int.toNat (IntKind.i64.wrap (y1.1+(List.length [w1]:Int))))+(min ((([] :List Inode)++w0.inodes).length - (Int.toNat y1.1)) (((((([] :List Inode)++w0.inodes).drop 0).take (Int.toNat y1.1)++List.replicate (Int.toNat (IntKind.i64.wrap ((IntKind.i64.wrap ((List.length (([] :List Inode)++w0.inodes):Int)+(List.length [w1]:Int))) - y1.1))) (⟨0,0,0, [],0,([] :List Entry)⟩:Inode)).take (Int.toNat y1.1)++([w1].take ((((([] :List Inode)++w0.inodes).drop 0).take (Int.toNat y1.1)++List.replicate (Int.toNat (IntKind.i64.wrap ((IntKind.i64.wrap ((List.length (([] :List Inode)++w0.inodes):Int)+(List.length [w1]:Int))) - y1.1))) (⟨0,0,0, [],0,([] :List Entry)⟩:Inode)).length - (Int.toNat y1.1))++((((([] :List Inode)++w0.inodes).drop 0).take (Int.toNat y1.1)++List.replicate (Int.toNat (IntKind.i64.wrap ((IntKind.i64.wrap ((List.length (([] :List Inode)++w0.inodes):Int)+(List.length [w1]:Int))) - y1.1))) (⟨0,0,0, [],0,([] :List Entry)⟩:Inode)).drop (Int.toNat y1.1)).drop (min [w1].length ((((([] :List Inode)++w0.inodes).drop 0).take (Int.toNat y1.1)++List.replicate (Int.toNat (IntKind.i64.wrap ((IntKind.i64.wrap ((List.length (([] :List Inode)++w0.inodes):Int)+(List.length [w1]:Int))) - y1.1))) (⟨0,0,0, [],0,([] :List Entry)⟩:Inode)).length - (Int.toNat y1.1))))).length - (Int.toNat (IntKind.i64.wrap (y1.1+(List.length [w1]:Int))))))) ((((([] :List Inode)++w0.inodes).drop 0).take (Int.toNat y1.1)++List.replicate (Int.toNat (IntKind.i64.wrap ((IntKind.i64.wrap ((List.length (([] :List Inode)++w0.inodes):Int)+(List.length [w1]:Int))) - y1.1))) (⟨0,0,0, [],0,([] :List Entry)⟩:Inode)).take (Int.toNat y1.1)++([w1].take ((((([] :List Inode)++w0.inodes).drop 0).take (Int.toNat y1.1)++List.replicate (Int.toNat (IntKind.i64.wrap ((IntKind.i64.wrap ((List.length (([] :List Inode)++w0.inodes):Int)+(List.length [w1]:Int))) - y1.1))) (⟨0,0,0, [],0,([] :List Entry)⟩:Inode)).length - (Int.toNat y1.1))++((((([] :List Inode)++w0.inodes).drop 0).take (Int.toNat y1.1)++List.replicate (Int.toNat (IntKind.i64.wrap ((IntKind.i64.wrap ((List.length (([] :List Inode)++w0.inodes):Int)+(List.length [w1]:Int))) - y1.1))) (⟨0,0,0, [],0,([] :List Entry)⟩:Inode)).drop (Int.toNat y1.1)).drop (min [w1].length ((((([] :List Inode)++w0.inodes).drop 0).take (Int.toNat y1.1)++List.replicate (Int.toNat (IntKind.i64.wrap ((IntKind.i64.wrap ((List.length (([] :List Inode)++w0.inodes):Int)+(List.length [w1]:Int))) - y1.1))) (⟨0,0,0, [],0,([] :List Entry)⟩:Inode)).length - (Int.toNat y1.1))))).length) (some (⟨w0.maxInodes,w0.maxBytes,w0.next,(((((([] :List Inode)++w0.inodes).drop 0).take (Int.toNat y1.1)++List.replicate (Int.toNat (IntKind.i64.wrap ((IntKind.i64.wrap ((List.length (([] :List Inode)++w0.inodes):Int)+(List.length [w1]:Int))) - y1.1))) (⟨0,0,0, [],0,([] :List Entry)⟩:Inode)).take (Int.toNat y1.1)++([w1].take ((((([] :List Inode)++w0.inodes).drop 0).take (Int.toNat y1.1)++List.replicate (Int.toNat (IntKind.i64.wrap ((IntKind.i64.wrap ((List.length (([] :List Inode)++w0.inodes):Int)+(List.length [w1]:Int))) - y1.1))) (⟨0,0,0, [],0,([] :List Entry)⟩:Inode)).length - (Int.toNat y1.1))++((((([] :List Inode)++w0.inodes).drop 0).take (Int.toNat y1.1)++List.replicate (Int.toNat (IntKind.i64.wrap ((IntKind.i64.wrap ((List.length (([] :List Inode)++w0.inodes):Int)+(List.length [w1]:Int))) - y1.1))) (⟨0,0,0, [],0,([] :List Entry)⟩:Inode)).drop (Int.toNat y1.1)).drop (min [w1].length ((((([] :List Inode)++w0.inodes).drop 0).take (Int.toNat y1.1)++List.replicate (Int.toNat (IntKind.i64.wrap ((IntKind.i64.wrap ((List.length (([] :List Inode)++w0.inodes):Int)+(List.length [w1]:Int))) - y1.1))) (⟨0,0,0, [],0,([] :List Entry)⟩:Inode)).length - (Int.toNat y1.1))))).take (Int.toNat (IntKind.i64.wrap (y1.1+(List.length [w1]:Int))))++((((([] :List Inode)++w0.inodes).drop (Int.toNat y1.1)).take (min ((([] :List Inode)++w0.inodes).length - (Int.toNat y1.1)) (((((([] :List Inode)++w0.inodes).drop 0).take (Int.toNat y1.1)++List.replicate (Int.toNat (IntKind.i64.wrap ((IntKind.i64.wrap ((List.length (([] :List Inode)++w0.inodes):Int)+(List.length [w1]:Int))) - y1.1))) (⟨0,0,0, [],0,([] :List Entry)⟩:Inode)).take (Int.toNat y1.1)++([w1].take ((((([] :List Inode)++w0.inodes).drop 0).take (Int.toNat y1.1)++List.replicate (Int.toNat (IntKind.i64.wrap ((IntKind.i64.wrap ((List.length (([] :List Inode)++w0.inodes):Int)+(List.length [w1]:Int))) - y1.1))) (⟨0,0,0, [],0,([] :List Entry)⟩:Inode)).length - (Int.toNat y1.1))++((((([] :List Inode)++w0.inodes).drop 0).take (Int.toNat y1.1)++List.replicate (Int.toNat (IntKind.i64.wrap ((IntKind.i64.wrap ((List.length (([] :List Inode)++w0.inodes):Int)+(List.length [w1]:Int))) - y1.1))) (⟨0,0,0, [],0,([] :List Entry)⟩:Inode)).drop (Int.toNat y1.1)).drop (min [w1].length ((((([] :List Inode)++w0.inodes).drop 0).take (Int.toNat y1.1)++List.replicate (Int.toNat (IntKind.i64.wrap ((IntKind.i64.wrap ((List.length (([] :List Inode)++w0.inodes):Int)+(List.length [w1]:Int))) - y1.1))) (⟨0,0,0, [],0,([] :List Entry)⟩:Inode)).length - (Int.toNat y1.1))))).length - (Int.toNat (IntKind.i64.wrap (y1.1+(List.length [w1]:Int)))))))++((((([] :List Inode)++w0.inodes).drop 0).take (Int.toNat y1.1)++List.replicate (Int.toNat (IntKind.i64.wrap ((IntKind.i64.wrap ((List.length (([] :List Inode)++w0.inodes):Int)+(List.length [w1]:Int))) - y1.1))) (⟨0,0,0, [],0,([] :List Entry)⟩:Inode)).take (Int.toNat y1.1)++([w1].take ((((([] :List Inode)++w0.inodes).drop 0).take (Int.toNat y1.1)++List.replicate (Int.toNat (IntKind.i64.wrap ((IntKind.i64.wrap ((List.length (([] :List Inode)++w0.inodes):Int)+(List.length [w1]:Int))) - y1.1))) (⟨0,0,0, [],0,([] :List Entry)⟩:Inode)).length - (Int.toNat y1.1))++((((([] :List Inode)++w0.inodes).drop 0).take (Int.toNat y1.1)++List.replicate (Int.toNat (IntKind.i64.wrap ((IntKind.i64.wrap ((List.length (([] :List Inode)++w0.inodes):Int)+(List.length [w1]:Int))) - y1.1))) (⟨0,0,0, [],0,([] :List Entry)⟩:Inode)).drop (Int.toNat y1.1)).drop (min [w1].length ((((([] :List Inode)++w0.inodes).drop 0).take (Int.toNat y1.1)++List.replicate (Int.toNat (IntKind.i64.wrap ((IntKind.i64.wrap ((List.length (([] :List Inode)++w0.inodes):Int)+(List.length [w1]:Int))) - y1.1))) (⟨0,0,0, [],0,([] :List Entry)⟩:Inode)).length - (Int.toNat y1.1))))).drop ((Int.toNat (IntKind.i64.wrap (y1.1+(List.length [w1]:Int))))+(min ((([] :List Inode)++w0.inodes).length - (Int.toNat y1.1)) (((((([] :List Inode)++w0.inodes).drop 0).take (Int.toNat y1.1)++List.replicate (Int.toNat (IntKind.i64.wrap ((IntKind.i64.wrap ((List.length (([] :List Inode)++w0.inodes):Int)+(List.length [w1]:Int))) - y1.1))) (⟨0,0,0, [],0,([] :List Entry)⟩:Inode)).take (Int.toNat y1.1)++([w1].take ((((([] :List Inode)++w0.inodes).drop 0).take (Int.toNat y1.1)++List.replicate (Int.toNat (IntKind.i64.wrap ((IntKind.i64.wrap ((List.length (([] :List Inode)++w0.inodes):Int)+(List.length [w1]:Int))) - y1.1))) (⟨0,0,0, [],0,([] :List Entry)⟩:Inode)).length - (Int.toNat y1.1))++((((([] :List Inode)++w0.inodes).drop 0).take (Int.toNat y1.1)++List.replicate (Int.toNat (IntKind.i64.wrap ((IntKind.i64.wrap ((List.length (([] :List Inode)++w0.inodes):Int)+(List.length [w1]:Int))) - y1.1))) (⟨0,0,0, [],0,([] :List Entry)⟩:Inode)).drop (Int.toNat y1.1)).drop (min [w1].length ((((([] :List Inode)++w0.inodes).drop 0).take (Int.toNat y1.1)++List.replicate (Int.toNat (IntKind.i64.wrap ((IntKind.i64.wrap ((List.length (([] :List Inode)++w0.inodes):Int)+(List.length [w1]:Int))) - y1.1))) (⟨0,0,0, [],0,([] :List Entry)⟩:Inode)).length - (Int.toNat y1.1))))).length - (Int.toNat (IntKind.i64.wrap (y1.1+(List.length [w1]:Int)))))))))⟩:Fs)) (none)) (none)) (none)) (none)) (none)) (none)) (none)) (none)) (none))) (none)) (none)) (
 bcase (decide (0≤(IntKind.i64.wrap ((List.length (([] :List Inode)++w0.inodes):Int)+(List.length [w1]:Int)))∧(IntKind.i64.wrap ((List.length (([] :List Inode)++w0.inodes):Int)+(List.length [w1]:Int)))≤(cp4:Int))) (
 bcase (decide (0≤(IntKind.i64.wrap (y1.1+(List.length [w1]:Int)))∧(IntKind.i64.wrap (y1.1+(List.length [w1]:Int)))≤((Int.toNat (IntKind.i64.wrap ((List.length (([] :List Inode)++w0.inodes):Int)+(List.length [w1]:Int)))):Int))) (
 bcase (Nat.blt 0 [w1].length) (
 bcase (Nat.blt 0 (([] :List Inode)++w0.inodes).length) (
 bcase (decide (0≤(IntKind.i64.wrap (y1.1+(List.length [w1]:Int)))∧(IntKind.i64.wrap (y1.1+(List.length [w1]:Int)))≤((Int.toNat (IntKind.i64.wrap ((List.length (([] :List Inode)++w0.inodes):Int)+(List.length [w1]:Int)))):Int))) (
 bcase (decide (0≤y1.1∧y1.1≤((Int.toNat (IntKind.i64.wrap ((List.length (([] :List Inode)++w0.inodes):Int)+(List.length [w1]:Int)))):Int))) (
 bcase (Nat.ble ((0+(Int.toNat y1.1))+(min ((Int.toNat (IntKind.i64.wrap ((List.length (([] :List Inode)++w0.inodes):Int)+(List.length [w1]:Int)))) - (Int.toNat y1.1)) ((Int.toNat (IntKind.i64.wrap ((List.length (([] :List Inode)++w0.inodes):Int)+(List.length [w1]:Int)))) - (Int.toNat (IntKind.i64.wrap (y1.1+(List.length [w1]:Int))))))) (([] :List Inode)++w0.inodes).length) (
 bcase (Nat.ble (0+(Int.toNat (IntKind.i64.wrap (y1.1+(List.length [w1]:Int))))) (([] :List Inode)++w0.inodes).length) (
 bcase (Nat.ble ((0+(Int.toNat (IntKind.i64.wrap (y1.1+(List.length [w1]:Int)))))+(min ((Int.toNat (IntKind.i64.wrap ((List.length (([] :List Inode)++w0.inodes):Int)+(List.length [w1]:Int)))) - (Int.toNat y1.1)) ((Int.toNat (IntKind.i64.wrap ((List.length (([] :List Inode)++w0.inodes):Int)+(List.length [w1]:Int)))) - (Int.toNat (IntKind.i64.wrap (y1.1+(List.length [w1]:Int))))))) (([] :List Inode)++w0.inodes).length) (
 bcase (decide (0≤y1.1∧y1.1≤((Int.toNat (IntKind.i64.wrap ((List.length (([] :List Inode)++w0.inodes):Int)+(List.length [w1]:Int)))):Int))) (
 bcase (Nat.ble ((0+(Int.toNat y1.1))+((Int.toNat (IntKind.i64.wrap ((List.length (([] :List Inode)++w0.inodes):Int)+(List.length [w1]:Int)))) - (Int.toNat y1.1))) ((([] :List Inode)++w0.inodes).take (0+(Int.toNat (IntKind.i64.wrap (y1.1+(List.length [w1]:Int)))))++((((([] :List Inode)++w0.inodes).drop (0+(Int.toNat y1.1))).take (min ((Int.toNat (IntKind.i64.wrap ((List.length (([] :List Inode)++w0.inodes):Int)+(List.length [w1]:Int)))) - (Int.toNat y1.1)) ((Int.toNat (IntKind.i64.wrap ((List.length (([] :List Inode)++w0.inodes):Int)+(List.length [w1]:Int)))) - (Int.toNat (IntKind.i64.wrap (y1.1+(List.length [w1]:Int)))))))++(([] :List Inode)++w0.inodes).drop ((0+(Int.toNat (IntKind.i64.wrap (y1.1+(List.length [w1]:Int)))))+(min ((Int.toNat (IntKind.i64.wrap ((List.length (([] :List Inode)++w0.inodes):Int)+(List.length [w1]:Int)))) - (Int.toNat y1.1)) ((Int.toNat (IntKind.i64.wrap ((List.length (([] :List Inode)++w0.inodes):Int)+(List.length [w1]:Int)))) - (Int.toNat (IntKind.i64.wrap (y1.1+(List.length [w1]:Int))))))))).length) (
 bcase (Nat.ble (0+(Int.toNat (IntKind.i64.wrap ((List.length (([] :List Inode)++w0.inodes):Int)+(List.length [w1]:Int))))) (((([] :List Inode)++w0.inodes).take (0+(Int.toNat (IntKind.i64.wrap (y1.1+(List.length [w1]:Int)))))++((((([] :List Inode)++w0.inodes).drop (0+(Int.toNat y1.1))).take (min ((Int.toNat (IntKind.i64.wrap ((List.length (([] :List Inode)++w0.inodes):Int)+(List.length [w1]:Int)))) - (Int.toNat y1.1)) ((Int.toNat (IntKind.i64.wrap ((List.length (([] :List Inode)++w0.inodes):Int)+(List.length [w1]:Int)))) - (Int.toNat (IntKind.i64.wrap (y1.1+(List.length [w1]:Int)))))))++(([] :List Inode)++w0.inodes).drop ((0+(Int.toNat (IntKind.i64.wrap (y1.1+(List.length [w1]:Int)))))+(min ((Int.toNat (IntKind.i64.wrap ((List.length (([] :List Inode)++w0.inodes):Int)+(List.length [w1]:Int)))) - (Int.toNat y1.1)) ((Int.toNat (IntKind.i64.wrap ((List.length (([] :List Inode)++w0.inodes):Int)+(List.length [w1]:Int)))) - (Int.toNat (IntKind.i64.wrap (y1.1+(List.length [w1]:Int))))))))).take (0+(Int.toNat y1.1))++([w1].take ((Int.toNat (IntKind.i64.wrap ((List.length (([] :List Inode)++w0.inodes):Int)+(List.length [w1]:Int)))) - (Int.toNat y1.1))++(((([] :List Inode)++w0.inodes).take (0+(Int.toNat (IntKind.i64.wrap (y1.1+(List.length [w1]:Int)))))++((((([] :List Inode)++w0.inodes).drop (0+(Int.toNat y1.1))).take (min ((Int.toNat (IntKind.i64.wrap ((List.length (([] :List Inode)++w0.inodes):Int)+(List.length [w1]:Int)))) - (Int.toNat y1.1)) ((Int.toNat (IntKind.i64.wrap ((List.length (([] :List Inode)++w0.inodes):Int)+(List.length [w1]:Int)))) - (Int.toNat (IntKind.i64.wrap (y1.1+(List.length [w1]:Int)))))))++(([] :List Inode)++w0.inodes).drop ((0+(Int.toNat (IntKind.i64.wrap (y1.1+(List.length [w1]:Int)))))+(min ((Int.toNat (IntKind.i64.wrap ((List.length (([] :List Inode)++w0.inodes):Int)+(List.length [w1]:Int)))) - (Int.toNat y1.1)) ((Int.toNat (IntKind.i64.wrap ((List.length (([] :List Inode)++w0.inodes):Int)+(List.length [w1]:Int)))) - (Int.toNat (IntKind.i64.wrap (y1.1+(List.length [w1]:Int))))))))).drop (0+(Int.toNat y1.1))).drop (min [w1].length ((Int.toNat (IntKind.i64.wrap ((List.length (([] :List Inode)++w0.inodes):Int)+(List.length [w1]:Int)))) - (Int.toNat y1.1))))).length) (some (⟨w0.maxInodes,w0.maxBytes,w0.next,(((((([] :List Inode)++w0.inodes).take (0+(Int.toNat (IntKind.i64.wrap (y1.1+(List.length [w1]:Int)))))++((((([] :List Inode)++w0.inodes).drop (0+(Int.toNat y1.1))).take (min ((Int.toNat (IntKind.i64.wrap ((List.length (([] :List Inode)++w0.inodes):Int)+(List.length [w1]:Int)))) - (Int.toNat y1.1)) ((Int.toNat (IntKind.i64.wrap ((List.length (([] :List Inode)++w0.inodes):Int)+(List.length [w1]:Int)))) - (Int.toNat (IntKind.i64.wrap (y1.1+(List.length [w1]:Int)))))))++(([] :List Inode)++w0.inodes).drop ((0+(Int.toNat (IntKind.i64.wrap (y1.1+(List.length [w1]:Int)))))+(min ((Int.toNat (IntKind.i64.wrap ((List.length (([] :List Inode)++w0.inodes):Int)+(List.length [w1]:Int)))) - (Int.toNat y1.1)) ((Int.toNat (IntKind.i64.wrap ((List.length (([] :List Inode)++w0.inodes):Int)+(List.length [w1]:Int)))) - (Int.toNat (IntKind.i64.wrap (y1.1+(List.length [w1]:Int))))))))).take (0+(Int.toNat y1.1))++([w1].take ((Int.toNat (IntKind.i64.wrap ((List.length (([] :List Inode)++w0.inodes):Int)+(List.length [w1]:Int)))) - (Int.toNat y1.1))++(((([] :List Inode)++w0.inodes).take (0+(Int.toNat (IntKind.i64.wrap (y1.1+(List.length [w1]:Int)))))++((((([] :List Inode)++w0.inodes).drop (0+(Int.toNat y1.1))).take (min ((Int.toNat (IntKind.i64.wrap ((List.length (([] :List Inode)++w0.inodes):Int)+(List.length [w1]:Int)))) - (Int.toNat y1.1)) ((Int.toNat (IntKind.i64.wrap ((List.length (([] :List Inode)++w0.inodes):Int)+(List.length [w1]:Int)))) - (Int.toNat (IntKind.i64.wrap (y1.1+(List.length [w1]:Int)))))))++(([] :List Inode)++w0.inodes).drop ((0+(Int.toNat (IntKind.i64.wrap (y1.1+(List.length [w1]:Int)))))+(min ((Int.toNat (IntKind.i64.wrap ((List.length (([] :List Inode)++w0.inodes):Int)+(List.length [w1]:Int)))) - (Int.toNat y1.1)) ((Int.toNat (IntKind.i64.wrap ((List.length (([] :List Inode)++w0.inodes):Int)+(List.length [w1]:Int)))) - (Int.toNat (IntKind.i64.wrap (y1.1+(List.length [w1]:Int))))))))).drop (0+(Int.toNat y1.1))).drop (min [w1].length ((Int.toNat (IntKind.i64.wrap ((List.length (([] :List Inode)++w0.inodes):Int)+(List.length [w1]:Int)))) - (Int.toNat y1.1))))).drop 0).take (Int.toNat (IntKind.i64.wrap ((List.length (([] :List Inode)++w0.inodes):Int)+(List.length [w1]:Int)))))⟩:Fs)) (none)) (none)) (none)) (
 bcase (decide (0≤y1.1∧y1.1≤((Int.toNat (IntKind.i64.wrap ((List.length (([] :List Inode)++w0.inodes):Int)+(List.length [w1]:Int)))):Int))) (
 bcase (Nat.ble ((0+(Int.toNat y1.1))+((Int.toNat (IntKind.i64.wrap ((List.length (([] :List Inode)++w0.inodes):Int)+(List.length [w1]:Int)))) - (Int.toNat y1.1))) ((([] :List Inode)++w0.inodes).take (0+(Int.toNat (IntKind.i64.wrap (y1.1+(List.length [w1]:Int)))))++(((([] :List Inode)++w0.inodes).drop (0+(Int.toNat y1.1))).take (min ((Int.toNat (IntKind.i64.wrap ((List.length (([] :List Inode)++w0.inodes):Int)+(List.length [w1]:Int)))) - (Int.toNat y1.1)) ((Int.toNat (IntKind.i64.wrap ((List.length (([] :List Inode)++w0.inodes):Int)+(List.length [w1]:Int)))) - (Int.toNat (IntKind.i64.wrap (y1.1+(List.length [w1]:Int)))))))).length) (
 bcase (Nat.ble (0+(Int.toNat (IntKind.i64.wrap ((List.length (([] :List Inode)++w0.inodes):Int)+(List.length [w1]:Int))))) (((([] :List Inode)++w0.inodes).take (0+(Int.toNat (IntKind.i64.wrap (y1.1+(List.length [w1]:Int)))))++(((([] :List Inode)++w0.inodes).drop (0+(Int.toNat y1.1))).take (min ((Int.toNat (IntKind.i64.wrap ((List.length (([] :List Inode)++w0.inodes):Int)+(List.length [w1]:Int)))) - (Int.toNat y1.1)) ((Int.toNat (IntKind.i64.wrap ((List.length (([] :List Inode)++w0.inodes):Int)+(List.length [w1]:Int)))) - (Int.toNat (IntKind.i64.wrap (y1.1+(List.length [w1]:Int)))))))).take (0+(Int.toNat y1.1))++([w1].take ((Int.toNat (IntKind.i64.wrap ((List.length (([] :List Inode)++w0.inodes):Int)+(List.length [w1]:Int)))) - (Int.toNat y1.1))++(((([] :List Inode)++w0.inodes).take (0+(Int.toNat (IntKind.i64.wrap (y1.1+(List.length [w1]:Int)))))++(((([] :List Inode)++w0.inodes).drop (0+(Int.toNat y1.1))).take (min ((Int.toNat (IntKind.i64.wrap ((List.length (([] :List Inode)++w0.inodes):Int)+(List.length [w1]:Int)))) - (Int.toNat y1.1)) ((Int.toNat (IntKind.i64.wrap ((List.length (([] :List Inode)++w0.inodes):Int)+(List.length [w1]:Int)))) - (Int.toNat (IntKind.i64.wrap (y1.1+(List.length [w1]:Int)))))))).drop (0+(Int.toNat y1.1))).drop (min [w1].length ((Int.toNat (IntKind.i64.wrap ((List.length (([] :List Inode)++w0.inodes):Int)+(List.length [w1]:Int)))) - (Int.toNat y1.1))))).length) (some (⟨w0.maxInodes,w0.maxBytes,w0.next,(((((([] :List Inode)++w0.inodes).take (0+(Int.toNat (IntKind.i64.wrap (y1.1+(List.length [w1]:Int)))))++(((([] :List Inode)++w0.inodes).drop (0+(Int.toNat y1.1))).take (min ((Int.toNat (IntKind.i64.wrap ((List.length (([] :List Inode)++w0.inodes):Int)+(List.length [w1]:Int)))) - (Int.toNat y1.1)) ((Int.toNat (IntKind.i64.wrap ((List.length (([] :List Inode)++w0.inodes):Int)+(List.length [w1]:Int)))) - (Int.toNat (IntKind.i64.wrap (y1.1+(List.length [w1]:Int)))))))).take (0+(Int.toNat y1.1))++([w1].take ((Int.toNat (IntKind.i64.wrap ((List.length (([] :List Inode)++w0.inodes):Int)+(List.length [w1]:Int)))) - (Int.toNat y1.1))++(((([] :List Inode)++w0.inodes).take (0+(Int.toNat (IntKind.i64.wrap (y1.1+(List.length [w1]:Int)))))++(((([] :List Inode)++w0.inodes).drop (0+(Int.toNat y1.1))).take (min ((Int.toNat (IntKind.i64.wrap ((List.length (([] :List Inode)++w0.inodes):Int)+(List.length [w1]:Int)))) - (Int.toNat y1.1)) ((Int.toNat (IntKind.i64.wrap ((List.length (([] :List Inode)++w0.inodes):Int)+(List.length [w1]:Int)))) - (Int.toNat (IntKind.i64.wrap (y1.1+(List.length [w1]:Int)))))))).drop (0+(Int.toNat y1.1))).drop (min [w1].length ((Int.toNat (IntKind.i64.wrap ((List.length (([] :List Inode)++w0.inodes):Int)+(List.length [w1]:Int)))) - (Int.toNat y1.1))))).drop 0).take (Int.toNat (IntKind.i64.wrap ((List.length (([] :List Inode)++w0.inodes):Int)+(List.length [w1]:Int)))))⟩:Fs)) (none)) (none)) (none))) (none)) (none)) (none)) (none)) (none)) (none)) (none)) (none))))) (none))))
noncomputable def table_Take (w0:Fs):Option (Fs×Int):=
 nilK w0.inodes (some ((⟨w0.maxInodes,w0.maxBytes,(IntKind.i64.wrap (w0.next+(1:Int))),([] :List Inode)⟩:Fs),w0.next)) (lcase (([] :List Inode).length+w0.inodes.length) (some ((⟨w0.maxInodes,w0.maxBytes,(IntKind.i64.wrap (w0.next+(1:Int))),(([] :List Inode)++w0.inodes)⟩:Fs),w0.next)))
noncomputable def table_Drop (w0:Fs) (w1:Int):Option (Fs):=
 ocase (table_at w0 w1) fun y1=>nilK w0.inodes (
 bcase y1.2 (
 bcase (decide ((List.length ([] :List Inode):Int)=(IntKind.i64.wrap (y1.1+(1:Int))))) (
 bcase (decide (0≤(IntKind.i64.wrap (y1.1+(1:Int)))∧(IntKind.i64.wrap (y1.1+(1:Int)))≤(([] :List Inode).length:Int))) (
 bcase (decide (0≤y1.1∧y1.1≤(IntKind.i64.wrap (y1.1+(1:Int))))) (
 bcase (y1.1==(IntKind.i64.wrap (y1.1+(1:Int)))) (some (⟨w0.maxInodes,w0.maxBytes,w0.next,([] :List Inode)⟩:Fs)) (
 bcase (decide (0≤y1.1∧y1.1≤(([] :List Inode).length:Int))) (
 bcase (decide (0≤(IntKind.i64.wrap (y1.1+(1:Int)))∧(IntKind.i64.wrap (y1.1+(1:Int)))≤(([] :List Inode).length:Int))) (none) (none)) (none))) (none)) (none)) (none)) (some (⟨w0.maxInodes,w0.maxBytes,w0.next,([] :List Inode)⟩:Fs))) (lcase (([] :List Inode).length+w0.inodes.length) (
 bcase y1.2 (
 bcase (decide (0≤(List.length (([] :List Inode)++w0.inodes):Int)∧(List.length (([] :List Inode)++w0.inodes):Int)≤((([] :List Inode)++w0.inodes).length:Int))) (
 bcase (decide (0≤(IntKind.i64.wrap (y1.1+(1:Int)))∧(IntKind.i64.wrap (y1.1+(1:Int)))≤(List.length (([] :List Inode)++w0.inodes):Int))) (
 bcase (decide (0≤y1.1∧y1.1≤(IntKind.i64.wrap (y1.1+(1:Int))))) (
 bcase (y1.1==(IntKind.i64.wrap (y1.1+(1:Int)))) (some (⟨w0.maxInodes,w0.maxBytes,w0.next,(([] :List Inode)++w0.inodes)⟩:Fs)) (
 bcase (decide (0≤y1.1∧y1.1≤((([] :List Inode)++w0.inodes).length:Int))) (
 bcase (decide (0≤(IntKind.i64.wrap (y1.1+(1:Int)))∧(IntKind.i64.wrap (y1.1+(1:Int)))≤((([] :List Inode)++w0.inodes).length:Int))) (
 bcase (Nat.ble ((Int.toNat (IntKind.i64.wrap (y1.1+(1:Int))))+((([] :List Inode)++w0.inodes).length - (Int.toNat (IntKind.i64.wrap (y1.1+(1:Int)))))) (([] :List Inode)++w0.inodes).length) (
 bcase (Nat.ble (0+(Int.toNat y1.1)+(((([] :List Inode)++w0.inodes).drop (Int.toNat (IntKind.i64.wrap (y1.1+(1:Int))))).take ((([] :List Inode)++w0.inodes).length - (Int.toNat (IntKind.i64.wrap (y1.1+(1:Int)))))).length) (([] :List Inode)++w0.inodes).length) (
 bcase (decide (0≤(List.length (([] :List Inode)++w0.inodes):Int)∧(List.length (([] :List Inode)++w0.inodes):Int)≤((max ((Int.toNat y1.1)+(((([] :List Inode)++w0.inodes).drop (Int.toNat (IntKind.i64.wrap (y1.1+(1:Int))))).take ((([] :List Inode)++w0.inodes).length - (Int.toNat (IntKind.i64.wrap (y1.1+(1:Int)))))).length) (((([] :List Inode)++w0.inodes).take (0+(Int.toNat y1.1))++((((([] :List Inode)++w0.inodes).drop (Int.toNat (IntKind.i64.wrap (y1.1+(1:Int))))).take ((([] :List Inode)++w0.inodes).length - (Int.toNat (IntKind.i64.wrap (y1.1+(1:Int))))))++(([] :List Inode)++w0.inodes).drop (0+(Int.toNat y1.1)+(((([] :List Inode)++w0.inodes).drop (Int.toNat (IntKind.i64.wrap (y1.1+(1:Int))))).take ((([] :List Inode)++w0.inodes).length - (Int.toNat (IntKind.i64.wrap (y1.1+(1:Int)))))).length))).length - 0):Nat):Int))) (
 bcase (decide (0≤(((Int.toNat y1.1)+(((([] :List Inode)++w0.inodes).drop (Int.toNat (IntKind.i64.wrap (y1.1+(1:Int))))).take ((([] :List Inode)++w0.inodes).length - (Int.toNat (IntKind.i64.wrap (y1.1+(1:Int)))))).length):Int)∧(((Int.toNat y1.1)+(((([] :List Inode)++w0.inodes).drop (Int.toNat (IntKind.i64.wrap (y1.1+(1:Int))))).take ((([] :List Inode)++w0.inodes).length - (Int.toNat (IntKind.i64.wrap (y1.1+(1:Int)))))).length):Int)≤(List.length (([] :List Inode)++w0.inodes):Int))) (
 bcase (Nat.ble ((0+(Int.toNat (((Int.toNat y1.1)+(((([] :List Inode)++w0.inodes).drop (Int.toNat (IntKind.i64.wrap (y1.1+(1:Int))))).take ((([] :List Inode)++w0.inodes).length - (Int.toNat (IntKind.i64.wrap (y1.1+(1:Int)))))).length):Int)))+((Int.toNat (List.length (([] :List Inode)++w0.inodes):Int)) - (Int.toNat (((Int.toNat y1.1)+(((([] :List Inode)++w0.inodes).drop (Int.toNat (IntKind.i64.wrap (y1.1+(1:Int))))).take ((([] :List Inode)++w0.inodes).length - (Int.toNat (IntKind.i64.wrap (y1.1+(1:Int)))))).length):Int)))) ((([] :List Inode)++w0.inodes).take (0+(Int.toNat y1.1))++((((([] :List Inode)++w0.inodes).drop (Int.toNat (IntKind.i64.wrap (y1.1+(1:Int))))).take ((([] :List Inode)++w0.inodes).length - (Int.toNat (IntKind.i64.wrap (y1.1+(1:Int))))))++(([] :List Inode)++w0.inodes).drop (0+(Int.toNat y1.1)+(((([] :List Inode)++w0.inodes).drop (Int.toNat (IntKind.i64.wrap (y1.1+(1:Int))))).take ((([] :List Inode)++w0.inodes).length - (Int.toNat (IntKind.i64.wrap (y1.1+(1:Int)))))).length))).length) (
 bcase (Nat.ble (0+((Int.toNat y1.1)+(((([] :List Inode)++w0.inodes).drop (Int.toNat (IntKind.i64.wrap (y1.1+(1:Int))))).take ((([] :List Inode)++w0.inodes).length - (Int.toNat (IntKind.i64.wrap (y1.1+(1:Int)))))).length)) (((([] :List Inode)++w0.inodes).take (0+(Int.toNat y1.1))++((((([] :List Inode)++w0.inodes).drop (Int.toNat (IntKind.i64.wrap (y1.1+(1:Int))))).take ((([] :List Inode)++w0.inodes).length - (Int.toNat (IntKind.i64.wrap (y1.1+(1:Int))))))++(([] :List Inode)++w0.inodes).drop (0+(Int.toNat y1.1)+(((([] :List Inode)++w0.inodes).drop (Int.toNat (IntKind.i64.wrap (y1.1+(1:Int))))).take ((([] :List Inode)++w0.inodes).length - (Int.toNat (IntKind.i64.wrap (y1.1+(1:Int)))))).length))).take (0+(Int.toNat (((Int.toNat y1.1)+(((([] :List Inode)++w0.inodes).drop (Int.toNat (IntKind.i64.wrap (y1.1+(1:Int))))).take ((([] :List Inode)++w0.inodes).length - (Int.toNat (IntKind.i64.wrap (y1.1+(1:Int)))))).length):Int)))++(List.replicate ((Int.toNat (List.length (([] :List Inode)++w0.inodes):Int)) - (Int.toNat (((Int.toNat y1.1)+(((([] :List Inode)++w0.inodes).drop (Int.toNat (IntKind.i64.wrap (y1.1+(1:Int))))).take ((([] :List Inode)++w0.inodes).length - (Int.toNat (IntKind.i64.wrap (y1.1+(1:Int)))))).length):Int))) (⟨0,0,0, [],0,([] :List Entry)⟩:Inode)++((([] :List Inode)++w0.inodes).take (0+(Int.toNat y1.1))++((((([] :List Inode)++w0.inodes).drop (Int.toNat (IntKind.i64.wrap (y1.1+(1:Int))))).take ((([] :List Inode)++w0.inodes).length - (Int.toNat (IntKind.i64.wrap (y1.1+(1:Int))))))++(([] :List Inode)++w0.inodes).drop (0+(Int.toNat y1.1)+(((([] :List Inode)++w0.inodes).drop (Int.toNat (IntKind.i64.wrap (y1.1+(1:Int))))).take ((([] :List Inode)++w0.inodes).length - (Int.toNat (IntKind.i64.wrap (y1.1+(1:Int)))))).length))).drop ((0+(Int.toNat (((Int.toNat y1.1)+(((([] :List Inode)++w0.inodes).drop (Int.toNat (IntKind.i64.wrap (y1.1+(1:Int))))).take ((([] :List Inode)++w0.inodes).length - (Int.toNat (IntKind.i64.wrap (y1.1+(1:Int)))))).length):Int)))+((Int.toNat (List.length (([] :List Inode)++w0.inodes):Int)) - (Int.toNat (((Int.toNat y1.1)+(((([] :List Inode)++w0.inodes).drop (Int.toNat (IntKind.i64.wrap (y1.1+(1:Int))))).take ((([] :List Inode)++w0.inodes).length - (Int.toNat (IntKind.i64.wrap (y1.1+(1:Int)))))).length):Int)))))).length) (some (⟨w0.maxInodes,w0.maxBytes,w0.next,(((((([] :List Inode)++w0.inodes).take (0+(Int.toNat y1.1))++((((([] :List Inode)++w0.inodes).drop (Int.toNat (IntKind.i64.wrap (y1.1+(1:Int))))).take ((([] :List Inode)++w0.inodes).length - (Int.toNat (IntKind.i64.wrap (y1.1+(1:Int))))))++(([] :List Inode)++w0.inodes).drop (0+(Int.toNat y1.1)+(((([] :List Inode)++w0.inodes).drop (Int.toNat (IntKind.i64.wrap (y1.1+(1:Int))))).take ((([] :List Inode)++w0.inodes).length - (Int.toNat (IntKind.i64.wrap (y1.1+(1:Int)))))).length))).take (0+(Int.toNat (((Int.toNat y1.1)+(((([] :List Inode)++w0.inodes).drop (Int.toNat (IntKind.i64.wrap (y1.1+(1:Int))))).take ((([] :List Inode)++w0.inodes).length - (Int.toNat (IntKind.i64.wrap (y1.1+(1:Int)))))).length):Int)))++(List.replicate ((Int.toNat (List.length (([] :List Inode)++w0.inodes):Int)) - (Int.toNat (((Int.toNat y1.1)+(((([] :List Inode)++w0.inodes).drop (Int.toNat (IntKind.i64.wrap (y1.1+(1:Int))))).take ((([] :List Inode)++w0.inodes).length - (Int.toNat (IntKind.i64.wrap (y1.1+(1:Int)))))).length):Int))) (⟨0,0,0, [],0,([] :List Entry)⟩:Inode)++((([] :List Inode)++w0.inodes).take (0+(Int.toNat y1.1))++((((([] :List Inode)++w0.inodes).drop (Int.toNat (IntKind.i64.wrap (y1.1+(1:Int))))).take ((([] :List Inode)++w0.inodes).length - (Int.toNat (IntKind.i64.wrap (y1.1+(1:Int))))))++(([] :List Inode)++w0.inodes).drop (0+(Int.toNat y1.1)+(((([] :List Inode)++w0.inodes).drop (Int.toNat (IntKind.i64.wrap (y1.1+(1:Int))))).take ((([] :List Inode)++w0.inodes).length - (Int.toNat (IntKind.i64.wrap (y1.1+(1:Int)))))).length))).drop ((0+(Int.toNat (((Int.toNat y1.1)+(((([] :List Inode)++w0.inodes).drop (Int.toNat (IntKind.i64.wrap (y1.1+(1:Int))))).take ((([] :List Inode)++w0.inodes).length - (Int.toNat (IntKind.i64.wrap (y1.1+(1:Int)))))).length):Int)))+((Int.toNat (List.length (([] :List Inode)++w0.inodes):Int)) - (Int.toNat (((Int.toNat y1.1)+(((([] :List Inode)++w0.inodes).drop (Int.toNat (IntKind.i64.wrap (y1.1+(1:Int))))).take ((([] :List Inode)++w0.inodes).length - (Int.toNat (IntKind.i64.wrap (y1.1+(1:Int)))))).length):Int)))))).drop 0).take ((Int.toNat y1.1)+(((([] :List Inode)++w0.inodes).drop (Int.toNat (IntKind.i64.wrap (y1.1+(1:Int))))).take ((([] :List Inode)++w0.inodes).length - (Int.toNat (IntKind.i64.wrap (y1.1+(1:Int)))))).length))⟩:Fs)) (none)) (none)) (none)) (none)) (none)) (none)) (none)) (none))) (none)) (none)) (none)) (some (⟨w0.maxInodes,w0.maxBytes,w0.next,(([] :List Inode)++w0.inodes)⟩:Fs))))
end Go.Eng
set_option linter.unusedVariables false
set_option maxRecDepth 100000
namespace Go.Eng
open Go
noncomputable def place_At_L6 {R:Type} (x2:List Str) (x3:Int) (x5:Fs) (kr:Int→Option R) (k0:Spotted→Option R):Nat→Int→Spotted→Option R
 |0,_,_=>none
 |n+1,x4,x7=>
  bcase (decide (x4<x3)) (
  bcase (decide (0≤x4)) (ocase x2[Int.toNat x4]? fun e8=>ocase (table_Get x5 x7.ino) fun y9=>
  bcase (!y9.2) ((kr (1:Int))) (
  bcase (y9.1.kind !=(2:Int)) ((kr (3:Int))) (ocase (entry_Find y9.1.entries e8) fun y10=>(place_At_L6 x2 x3 x5 kr k0 n (IntKind.i64.wrap (x4+(1:Int))) (⟨y9.1.ino,e8,y10.1⟩:Spotted))))) (none)) ((k0 x7))
noncomputable def place_At (w0:Fs) (w1:Str):Option (Spotted×Int):=
 ocase (path_Plain w1) fun y1=>
 bcase (!y1.2) (some ((⟨0, [],0⟩:Spotted),(9:Int))) (place_At_L6 y1.1 (List.length y1.1:Int) w0 (fun z15=>some ((⟨((⟨0, [],0⟩:Spotted).dir),((⟨0, [],0⟩:Spotted).name),((⟨0, [],0⟩:Spotted).ino)⟩:Spotted),z15)) (fun z16=>some (z16,(0:Int))) FUEL (0:Int) (⟨0, [],(1:Int)⟩:Spotted))
noncomputable def place_Get (w0:Fs) (w1:Str):Option (Inode×Int):=
 ocase (place_At w0 w1) fun y1=>
 bcase (y1.2 !=(0:Int)) (some ((⟨0,0,0, [],0,([] :List Entry)⟩:Inode),y1.2)) (ocase (table_Get w0 y1.1.ino) fun y2=>
 bcase (!y2.2) (some ((⟨0,0,0, [],0,([] :List Entry)⟩:Inode),(1:Int))) (some (y2.1,(0:Int))))
end Go.Eng
set_option linter.unusedVariables false
set_option maxRecDepth 100000
namespace Go.Eng
open Go
noncomputable def slices_Concat_string_L3 {R:Type} (x3:List (List Str)) (x4:Int) (k0:Int→Option R):Nat→Int→Int→Option R
 |0,_,_=>none
 |n+1,x2,x5=>
  bcase (decide (x5<x4)) (
  bcase (decide (0≤x5)) (ocase x3[Int.toNat x5]? fun e6=>
  bcase (decide ((IntKind.i64.wrap (x2+(List.length e6:Int)))<(0:Int))) (none) ((slices_Concat_string_L3 x3 x4 k0 n (IntKind.i64.wrap (x2+(List.length e6:Int))) (IntKind.i64.wrap (x5+(1:Int)))))) (none)) ((k0 x2))
noncomputable def slices_Concat_string_L11 {R:Type} (x10:Nat) (x12:List (List Str)) (x13:Int) (k2:Nat→(List Str)→Option R):Nat→Nat→Int→(List Str)→Option R
 |0,_,_,_=>none
 |n+1,x11,x14,x15=>
  bcase (decide (x14<x13)) (
  bcase (decide (0≤x14)) (ocase x12[Int.toNat x14]? fun e16=>
  bcase (Nat.ble (x10+x11+e16.length) x15.length) ((slices_Concat_string_L11 x10 x12 x13 k2 n (x11+e16.length) (IntKind.i64.wrap (x14+(1:Int))) (x15.take (x10+x11)++(e16++x15.drop (x10+x11+e16.length))))) (none)) (none)) ((k2 x11 x15))
noncomputable def slices_Concat_string (w0:(List (List Str))):Option ((List Str)):=
 slices_Concat_string_L3 w0 (List.length w0:Int) (fun z9=>
 bcase (decide (z9<(0:Int))) (none) (
 bcase (decide ((IntKind.i64.wrap (z9 - (IntKind.i64.wrap ((0:Int) - (List.length ([] :List Str):Int)))))>(0:Int))) (
 bcase (decide (0<(IntKind.i64.wrap (z9 - (IntKind.i64.wrap ((0:Int) - (List.length ([] :List Str):Int))))))) (lcase (([] :List Str).length+Int.toNat (IntKind.i64.wrap (z9 - (IntKind.i64.wrap ((0:Int) - (List.length ([] :List Str):Int)))))) (
 bcase (decide (0≤(List.length ([] :List Str):Int)∧(List.length ([] :List Str):Int)≤((([] :List Str)++List.replicate (Int.toNat (IntKind.i64.wrap (z9 - (IntKind.i64.wrap ((0:Int) - (List.length ([] :List Str):Int)))))) []).length:Int))) (slices_Concat_string_L11 0 w0 (List.length w0:Int) (fun z20 z21=>
 bcase (Nat.ble (0+z20) z21.length) (some ((z21.drop 0).take z20)) (none)) FUEL (Int.toNat (List.length ([] :List Str):Int)) (0:Int) (([] :List Str)++List.replicate (Int.toNat (IntKind.i64.wrap (z9 - (IntKind.i64.wrap ((0:Int) - (List.length ([] :List Str):Int)))))) [])) (none))) (none)) (slices_Concat_string_L11 0 w0 (List.length w0:Int) (fun z22 z23=>
 bcase (Nat.ble (0+z22) z23.length) (some ((z23.drop 0).take z22)) (none)) FUEL 0 (0:Int) ([] :List Str)))) FUEL (0:Int) (0:Int)
end Go.Eng
set_option linter.unusedVariables false
set_option maxRecDepth 100000
namespace Go.Eng
open Go
noncomputable def seek_Home (w0:Fs) (w1:Str):Option (Int×Int):=
 ocase (place_Get w0 w1) fun y1=>
 bcase (y1.2 !=(0:Int)) (some ((0:Int),y1.2)) (
 bcase (y1.1.kind !=(2:Int)) (some ((0:Int),(3:Int))) (some (y1.1.ino,(0:Int))))
noncomputable def seek_Seek_25_L1 {R:Type} (x5:Int) (x6:Int) (x7:Int) (x8:List Inode) (x9:Bool) (kr:Int→Option R) (k0:Bool→(List Str)→Int→Str→Int→Int→Option R):Nat→Bool→(List Str)→Int→Str→Int→Int→Option R
 |0,_,_,_,_,_,_=>none
 |n+1,x10,x11,x12,x13,x14,x15=>
  bcase (decide ((List.length x11:Int)>(0:Int))) (
  bcase (decide (0≤(0:Int))) (ocase x11[Int.toNat (0:Int)]? fun e17=>
  bcase (decide (0≤(1:Int)∧(1:Int)≤(x11.length:Int))) (ocase (table_Get (⟨x5,x6,x7,x8⟩:Fs) x14) fun y18=>
  bcase (!y18.2) ((kr (1:Int))) (
  bcase (y18.1.kind !=(2:Int)) ((kr (3:Int))) (
  bcase (e17==([46]:Str)) ((seek_Seek_25_L1 x5 x6 x7 x8 x9 kr k0 n x10 (x11.drop (Int.toNat (1:Int))) 0 [] y18.1.ino x15)) (
  bcase (e17==([46,46]:Str)) ((seek_Seek_25_L1 x5 x6 x7 x8 x9 kr k0 n x10 (x11.drop (Int.toNat (1:Int))) 0 [] y18.1.parent x15)) (ocase (entry_Find y18.1.entries e17) fun y19=>ocase (table_Get (⟨x5,x6,x7,x8⟩:Fs) y19.1) fun y20=>
  bcase (y20.1.kind==(3:Int)) (
  bcase (decide ((List.length (x11.drop (Int.toNat (1:Int))):Int)>(0:Int))) (
  bcase (decide ((IntKind.i64.wrap (x15+(1:Int)))>(40:Int))) ((kr (6:Int))) (ocase (path_Long y20.1.data) fun y21=>
  bcase y21 ((kr (7:Int))) (ocase (path_Read y20.1.data) fun y22=>
  bcase x10 (ocase (slices_Concat_string [y22.names,(x11.drop (Int.toNat (1:Int)))]) fun y23=>
  bcase y22.abs ((seek_Seek_25_L1 x5 x6 x7 x8 x9 kr k0 n true y23 0 [] (1:Int) (IntKind.i64.wrap (x15+(1:Int))))) ((seek_Seek_25_L1 x5 x6 x7 x8 x9 kr k0 n true y23 0 [] y18.1.ino (IntKind.i64.wrap (x15+(1:Int)))))) (
  bcase y22.slash (ocase (slices_Concat_string [y22.names,(x11.drop (Int.toNat (1:Int)))]) fun y24=>
  bcase y22.abs ((seek_Seek_25_L1 x5 x6 x7 x8 x9 kr k0 n ((List.length (x11.drop (Int.toNat (1:Int))):Int)==(0:Int)) y24 0 [] (1:Int) (IntKind.i64.wrap (x15+(1:Int))))) ((seek_Seek_25_L1 x5 x6 x7 x8 x9 kr k0 n ((List.length (x11.drop (Int.toNat (1:Int))):Int)==(0:Int)) y24 0 [] y18.1.ino (IntKind.i64.wrap (x15+(1:Int)))))) (ocase (slices_Concat_string [y22.names,(x11.drop (Int.toNat (1:Int)))]) fun y25=>
  bcase y22.abs ((seek_Seek_25_L1 x5 x6 x7 x8 x9 kr k0 n false y25 0 [] (1:Int) (IntKind.i64.wrap (x15+(1:Int))))) ((seek_Seek_25_L1 x5 x6 x7 x8 x9 kr k0 n false y25 0 [] y18.1.ino (IntKind.i64.wrap (x15+(1:Int)))))))))) (
  bcase x9 (
  bcase (decide ((IntKind.i64.wrap (x15+(1:Int)))>(40:Int))) ((kr (6:Int))) (ocase (path_Long y20.1.data) fun y26=>
  bcase y26 ((kr (7:Int))) (ocase (path_Read y20.1.data) fun y27=>
  bcase x10 (ocase (slices_Concat_string [y27.names,(x11.drop (Int.toNat (1:Int)))]) fun y28=>
  bcase y27.abs ((seek_Seek_25_L1 x5 x6 x7 x8 x9 kr k0 n true y28 0 [] (1:Int) (IntKind.i64.wrap (x15+(1:Int))))) ((seek_Seek_25_L1 x5 x6 x7 x8 x9 kr k0 n true y28 0 [] y18.1.ino (IntKind.i64.wrap (x15+(1:Int)))))) (
  bcase y27.slash (ocase (slices_Concat_string [y27.names,(x11.drop (Int.toNat (1:Int)))]) fun y29=>
  bcase y27.abs ((seek_Seek_25_L1 x5 x6 x7 x8 x9 kr k0 n ((List.length (x11.drop (Int.toNat (1:Int))):Int)==(0:Int)) y29 0 [] (1:Int) (IntKind.i64.wrap (x15+(1:Int))))) ((seek_Seek_25_L1 x5 x6 x7 x8 x9 kr k0 n ((List.length (x11.drop (Int.toNat (1:Int))):Int)==(0:Int)) y29 0 [] y18.1.ino (IntKind.i64.wrap (x15+(1:Int)))))) (ocase (slices_Concat_string [y27.names,(x11.drop (Int.toNat (1:Int)))]) fun y30=>
  bcase y27.abs ((seek_Seek_25_L1 x5 x6 x7 x8 x9 kr k0 n false y30 0 [] (1:Int) (IntKind.i64.wrap (x15+(1:Int))))) ((seek_Seek_25_L1 x5 x6 x7 x8 x9 kr k0 n false y30 0 [] y18.1.ino (IntKind.i64.wrap (x15+(1:Int)))))))))) (
  bcase x10 (
  bcase (decide ((IntKind.i64.wrap (x15+(1:Int)))>(40:Int))) ((kr (6:Int))) (ocase (path_Long y20.1.data) fun y31=>
  bcase y31 ((kr (7:Int))) (ocase (path_Read y20.1.data) fun y32=>
  bcase x10 (ocase (slices_Concat_string [y32.names,(x11.drop (Int.toNat (1:Int)))]) fun y33=>
  bcase y32.abs ((seek_Seek_25_L1 x5 x6 x7 x8 x9 kr k0 n true y33 0 [] (1:Int) (IntKind.i64.wrap (x15+(1:Int))))) ((seek_Seek_25_L1 x5 x6 x7 x8 x9 kr k0 n true y33 0 [] y18.1.ino (IntKind.i64.wrap (x15+(1:Int)))))) (
  bcase y32.slash (ocase (slices_Concat_string [y32.names,(x11.drop (Int.toNat (1:Int)))]) fun y34=>
  bcase y32.abs ((seek_Seek_25_L1 x5 x6 x7 x8 x9 kr k0 n ((List.length (x11.drop (Int.toNat (1:Int))):Int)==(0:Int)) y34 0 [] (1:Int) (IntKind.i64.wrap (x15+(1:Int))))) ((seek_Seek_25_L1 x5 x6 x7 x8 x9 kr k0 n ((List.length (x11.drop (Int.toNat (1:Int))):Int)==(0:Int)) y34 0 [] y18.1.ino (IntKind.i64.wrap (x15+(1:Int)))))) (ocase (slices_Concat_string [y32.names,(x11.drop (Int.toNat (1:Int)))]) fun y35=>
  bcase y32.abs ((seek_Seek_25_L1 x5 x6 x7 x8 x9 kr k0 n false y35 0 [] (1:Int) (IntKind.i64.wrap (x15+(1:Int))))) ((seek_Seek_25_L1 x5 x6 x7 x8 x9 kr k0 n false y35 0 [] y18.1.ino (IntKind.i64.wrap (x15+(1:Int)))))))))) ((seek_Seek_25_L1 x5 x6 x7 x8 x9 kr k0 n x10 (x11.drop (Int.toNat (1:Int))) y18.1.ino e17 y19.1 x15))))) ((seek_Seek_25_L1 x5 x6 x7 x8 x9 kr k0 n x10 (x11.drop (Int.toNat (1:Int))) y18.1.ino e17 y19.1 x15))))))) (none)) (none)) ((k0 x10 x11 x12 x13 x14 x15))
noncomputable def seek_Seek (w0:Fs) (w1:Str) (w2:Str) (w3:Bool):Option (Spotted×Int):=
 bcase (w2==([] :Str)) (some ((⟨0, [],0⟩:Spotted),(1:Int))) (ocase (path_Long w2) fun y1=>
 bcase y1 (some ((⟨0, [],0⟩:Spotted),(7:Int))) (ocase (path_Read w2) fun y2=>
 bcase (!y2.abs) (ocase (seek_Home w0 w1) fun y3=>
 bcase (y3.2 !=(0:Int)) (
 bcase (y3.2 !=(0:Int)) (some ((⟨0, [],0⟩:Spotted),y3.2)) (none)) (seek_Seek_25_L1 w0.maxInodes w0.maxBytes w0.next w0.inodes w3 (fun z52=>some ((⟨((⟨0, [],0⟩:Spotted).dir),((⟨0, [],0⟩:Spotted).name),((⟨0, [],0⟩:Spotted).ino)⟩:Spotted),z52)) (fun z53 z54 z55 z56 z57 z58=>ocase (table_Get w0 z57) fun y59=>
 bcase y59.2 (
 bcase z53 (
 bcase (y59.1.kind !=(2:Int)) (some ((⟨0, [],0⟩:Spotted),(3:Int))) (some ((⟨z55,z56,z57⟩:Spotted),(0:Int)))) (some ((⟨z55,z56,z57⟩:Spotted),(0:Int)))) (some ((⟨z55,z56,z57⟩:Spotted),(0:Int)))) FUEL y2.slash y2.names 0 [] y3.1 0)) (seek_Seek_25_L1 w0.maxInodes w0.maxBytes w0.next w0.inodes w3 (fun z60=>some ((⟨((⟨0, [],0⟩:Spotted).dir),((⟨0, [],0⟩:Spotted).name),((⟨0, [],0⟩:Spotted).ino)⟩:Spotted),z60)) (fun z61 z62 z63 z64 z65 z66=>ocase (table_Get w0 z65) fun y67=>
 bcase y67.2 (
 bcase z61 (
 bcase (y67.1.kind !=(2:Int)) (some ((⟨0, [],0⟩:Spotted),(3:Int))) (some ((⟨z63,z64,z65⟩:Spotted),(0:Int)))) (some ((⟨z63,z64,z65⟩:Spotted),(0:Int)))) (some ((⟨z63,z64,z65⟩:Spotted),(0:Int)))) FUEL y2.slash y2.names 0 [] (1:Int) 0)))
end Go.Eng
set_option linter.unusedVariables false
set_option maxRecDepth 100000
namespace Go.Eng
open Go
noncomputable def drop_Unname (w0:Fs) (w1:Spotted):Option (Fs):=
 ocase (table_Get w0 w1.dir) fun y1=>ocase (entry_Without y1.1.entries w1.name) fun y2=>ocase (table_Set w0 (⟨y1.1.ino,y1.1.kind,y1.1.links,y1.1.data,y1.1.parent,y2⟩:Inode)) fun y3=>ocase (table_Get y3 w1.ino) fun y4=>
 bcase ((IntKind.i64.wrap (y4.1.links - (1:Int)))==(0:Int)) (ocase (table_Drop y3 y4.1.ino) fun y5=>some y5) (ocase (table_Set y3 (⟨y4.1.ino,y4.1.kind,(IntKind.i64.wrap (y4.1.links - (1:Int))),y4.1.data,y4.1.parent,y4.1.entries⟩:Inode)) fun y6=>some y6)
end Go.Eng
set_option linter.unusedVariables false
set_option maxRecDepth 100000
namespace Go.Eng
open Go
noncomputable def move_Inside_L3 {R:Type} (x2:Int) (x3:Bool) (x4:Int) (x6:Fs) (k0:Bool→Option R):Nat→Int→Int→Option R
 |0,_,_=>none
 |n+1,x1,x5=>
  bcase (decide (x5<x4)) (ocase (table_Get x6 x1) fun y7=>
  bcase (x1==x2) ((k0 true)) (
  bcase (x1==(1:Int)) ((k0 x3)) ((move_Inside_L3 x2 x3 x4 x6 k0 n y7.1.parent (IntKind.i64.wrap (x5+(1:Int))))))) ((k0 x3))
noncomputable def move_Inside (w0:Fs) (w1:Int) (w2:Int):Option (Bool):=
 move_Inside_L3 w2 false (List.length w0.inodes:Int) w0 (fun z9=>some z9) FUEL w1 (0:Int)
noncomputable def move_Move (w0:Fs) (w1:Spotted) (w2:Spotted):Option (Fs):=
 bcase (w2.ino !=(0:Int)) (ocase (drop_Unname w0 w2) fun y1=>ocase (table_Get y1 w1.dir) fun y2=>ocase (entry_Without y2.1.entries w1.name) fun y3=>ocase (table_Set y1 (⟨y2.1.ino,y2.1.kind,y2.1.links,y2.1.data,y2.1.parent,y3⟩:Inode)) fun y4=>ocase (table_Get y4 w2.dir) fun y5=>ocase (entry_With y5.1.entries w2.name w1.ino) fun y6=>ocase (table_Set y4 (⟨y5.1.ino,y5.1.kind,y5.1.links,y5.1.data,y5.1.parent,y6⟩:Inode)) fun y7=>ocase (table_Get y7 w1.ino) fun y8=>
 bcase (y8.1.kind==(2:Int)) (ocase (table_Set y7 (⟨y8.1.ino,y8.1.kind,y8.1.links,y8.1.data,w2.dir,y8.1.entries⟩:Inode)) fun y9=>some y9) (ocase (table_Set y7 y8.1) fun y10=>some y10)) (ocase (table_Get w0 w1.dir) fun y11=>ocase (entry_Without y11.1.entries w1.name) fun y12=>ocase (table_Set w0 (⟨y11.1.ino,y11.1.kind,y11.1.links,y11.1.data,y11.1.parent,y12⟩:Inode)) fun y13=>ocase (table_Get y13 w2.dir) fun y14=>ocase (entry_With y14.1.entries w2.name w1.ino) fun y15=>ocase (table_Set y13 (⟨y14.1.ino,y14.1.kind,y14.1.links,y14.1.data,y14.1.parent,y15⟩:Inode)) fun y16=>ocase (table_Get y16 w1.ino) fun y17=>
 bcase (y17.1.kind==(2:Int)) (ocase (table_Set y16 (⟨y17.1.ino,y17.1.kind,y17.1.links,y17.1.data,w2.dir,y17.1.entries⟩:Inode)) fun y18=>some y18) (ocase (table_Set y16 y17.1) fun y19=>some y19))
noncomputable def move_over (w0:Inode) (w1:Inode):Option (Int):=
 bcase (w0.kind==(2:Int)) (
 bcase (w1.kind !=(2:Int)) (some (3:Int)) (
 bcase (w0.kind !=(2:Int)) (
 bcase (w1.kind==(2:Int)) (some (4:Int)) (
 bcase (decide ((List.length w1.entries:Int)>(0:Int))) (some (5:Int)) (some (0:Int)))) (
 bcase (decide ((List.length w1.entries:Int)>(0:Int))) (some (5:Int)) (some (0:Int))))) (
 bcase (w0.kind !=(2:Int)) (
 bcase (w1.kind==(2:Int)) (some (4:Int)) (
 bcase (decide ((List.length w1.entries:Int)>(0:Int))) (some (5:Int)) (some (0:Int)))) (
 bcase (decide ((List.length w1.entries:Int)>(0:Int))) (some (5:Int)) (some (0:Int))))
noncomputable def move_fresh (w0:Inode) (w1:Str) (w2:Str):Option (Int):=
 bcase (w0.kind !=(2:Int)) (ocase (path_Read w2) fun y1=>
 bcase y1.slash (some (3:Int)) (ocase (path_May w1) fun y2=>
 bcase (!y2) (some (9:Int)) (some (0:Int)))) (ocase (path_May w1) fun y3=>
 bcase (!y3) (some (9:Int)) (some (0:Int)))
noncomputable def move_Rename (w0:Fs) (w1:Str) (w2:Str) (w3:Str):Option (Fs×Int):=
 ocase (seek_Seek w0 w1 w2 false) fun y1=>ocase (table_Get w0 y1.1.ino) fun y2=>
 bcase (y1.2 !=(0:Int)) (some (w0,y1.2)) (
 bcase (!y2.2) (some (w0,(1:Int))) (
 bcase (y1.1.name==([] :Str)) (some (w0,(10:Int))) (ocase (seek_Seek w0 w1 w3 false) fun y3=>ocase (table_Get w0 y3.1.ino) fun y4=>
 bcase (y3.2 !=(0:Int)) (some (w0,y3.2)) (
 bcase (y3.1.name==([] :Str)) (some (w0,(10:Int))) (
 bcase (y1.1.ino==y3.1.ino) (some (w0,(0:Int))) (
 bcase (y2.1.kind==(2:Int)) (ocase (move_Inside w0 y3.1.dir y1.1.ino) fun y5=>
 bcase y5 (some (w0,(9:Int))) (
 bcase y4.2 (ocase (move_over y2.1 y4.1) fun y6=>
 bcase (y6 !=(0:Int)) (some (w0,y6)) (ocase (move_Move w0 y1.1 y3.1) fun y7=>some (y7,(0:Int)))) (ocase (move_fresh y2.1 y3.1.name w3) fun y8=>
 bcase (y8 !=(0:Int)) (some (w0,y8)) (ocase (move_Move w0 y1.1 y3.1) fun y9=>some (y9,(0:Int)))))) (
 bcase y4.2 (ocase (move_over y2.1 y4.1) fun y10=>
 bcase (y10 !=(0:Int)) (some (w0,y10)) (ocase (move_Move w0 y1.1 y3.1) fun y11=>some (y11,(0:Int)))) (ocase (move_fresh y2.1 y3.1.name w3) fun y12=>
 bcase (y12 !=(0:Int)) (some (w0,y12)) (ocase (move_Move w0 y1.1 y3.1) fun y13=>some (y13,(0:Int)))))))))))
end Go.Eng
set_option linter.unusedVariables false
set_option maxRecDepth 100000
namespace Go.Eng
open Go
noncomputable def ref03_May_L2 {R:Type} (x1:Str) (kr:Option R) (k0:Option R):Nat→Int→Option R
 |0,_=>none
 |n+1,x2=>
  bcase (decide (x2<(List.length x1:Int))) (
  bcase (decide (0≤x2)) (ocase x1[Int.toNat x2]? fun c3=>
  bcase ((UInt8.toNat c3:Int)==(47:Int)) ((kr)) (
  bcase (decide (0≤x2)) (ocase x1[Int.toNat x2]? fun c4=>
  bcase ((UInt8.toNat c4:Int)==(0:Int)) ((kr)) ((ref03_May_L2 x1 kr k0 n (IntKind.i64.wrap (x2+(1:Int)))))) (none))) (none)) ((k0))
noncomputable def ref03_May (w0:Str):Option (Bool):=
 ref03_May_L2 w0 (some false) (
 bcase (decide ((List.length w0:Int)≥(1:Int))) (
 bcase (decide ((List.length w0:Int)≤(255:Int))) (
 bcase (!(w0==([46]:Str))) (some (!(w0==([46,46]:Str)))) (some false)) (some false)) (some false)) FUEL (0:Int)
noncomputable def ref03_Names_L4 {R:Type} (x1:Str) (k0:(List Str)→Option R):Nat→Str→Int→(List Str)→Option R
 |0,_,_,_=>none
 |n+1,x2,x3,x4=>
  bcase (decide (x3≤(List.length x1:Int))) (
  bcase (decide (x3<(List.length x1:Int))) (
  bcase (decide (0≤x3)) (ocase x1[Int.toNat x3]? fun c5=>
  bcase ((UInt8.toNat c5:Int) !=(47:Int)) (
  bcase (decide (0≤(IntKind.i64.wrap (x3+(1:Int)))∧(IntKind.i64.wrap (x3+(1:Int)))≤(x1.length:Int))) (
  bcase (decide (0≤x3∧x3≤(IntKind.i64.wrap (x3+(1:Int))))) (lcase (x2.length+((x1.take (Int.toNat (IntKind.i64.wrap (x3+(1:Int))))).drop (Int.toNat x3)).length) ((ref03_Names_L4 x1 k0 n (x2++((x1.take (Int.toNat (IntKind.i64.wrap (x3+(1:Int))))).drop (Int.toNat x3))) (IntKind.i64.wrap (x3+(1:Int))) x4))) (none)) (none)) (
  bcase (!(x2==([] :Str))) (lcase (x4.length+[x2].length) ((ref03_Names_L4 x1 k0 n ([] :Str) (IntKind.i64.wrap (x3+(1:Int))) (x4++[x2])))) ((ref03_Names_L4 x1 k0 n ([] :Str) (IntKind.i64.wrap (x3+(1:Int))) x4)))) (none)) (
  bcase (!(x2==([] :Str))) (lcase (x4.length+[x2].length) ((ref03_Names_L4 x1 k0 n ([] :Str) (IntKind.i64.wrap (x3+(1:Int))) (x4++[x2])))) ((ref03_Names_L4 x1 k0 n ([] :Str) (IntKind.i64.wrap (x3+(1:Int))) x4)))) ((k0 x4))
noncomputable def ref03_Names (w0:Str):Option ((List Str)):=
 ref03_Names_L4 w0 (fun z7=>some z7) FUEL ([] :Str) (0:Int) ([] :List Str)
noncomputable def ref03_Join_L5 {R:Type} (x1:List Str) (k0:Str→Option R):Nat→Str→Int→Option R
 |0,_,_=>none
 |n+1,x2,x3=>
  bcase (decide (x3<(List.length x1:Int))) (lcase (x2.length+([47]:Str).length) (
  bcase (decide (0≤x3)) (ocase x1[Int.toNat x3]? fun e4=>lcase ((x2++([47]:Str)).length+e4.length) ((ref03_Join_L5 x1 k0 n ((x2++([47]:Str))++e4) (IntKind.i64.wrap (x3+(1:Int)))))) (none))) ((k0 x2))
noncomputable def ref03_Join (w0:(List Str)):Option (Str):=
 bcase ((List.length w0:Int)==(0:Int)) (some ([47]:Str)) (ref03_Join_L5 w0 (fun z6=>some z6) FUEL ([] :Str) (0:Int))
noncomputable def ref03_Plain_L3 {R:Type} (x3:List Str) (kr:Option R) (k0:Option R):Nat→Int→Option R
 |0,_=>none
 |n+1,x4=>
  bcase (decide (x4<(List.length x3:Int))) (
  bcase (decide (0≤x4)) (ocase x3[Int.toNat x4]? fun e5=>ocase (ref03_May e5) fun y6=>
  bcase (!y6) ((kr)) ((ref03_Plain_L3 x3 kr k0 n (IntKind.i64.wrap (x4+(1:Int)))))) (none)) ((k0))
noncomputable def ref03_Plain (w0:Str):Option ((List Str)×Bool):=
 ocase (ref03_Names w0) fun y1=>ref03_Plain_L3 y1 (some (([] :List Str),false)) (ocase (ref03_Join y1) fun y11=>
 bcase (!(y11==w0)) (some (([] :List Str),false)) (some (y1,true))) FUEL (0:Int)
noncomputable def ref03_Long_L3 {R:Type} (x3:List Str) (kr:Option R) (k0:Option R):Nat→Int→Option R
 |0,_=>none
 |n+1,x4=>
  bcase (decide (x4<(List.length x3:Int))) (
  bcase (decide (0≤x4)) (ocase x3[Int.toNat x4]? fun e5=>
  bcase (decide ((List.length e5:Int)>(255:Int))) ((kr)) ((ref03_Long_L3 x3 kr k0 n (IntKind.i64.wrap (x4+(1:Int)))))) (none)) ((k0))
noncomputable def ref03_Long (w0:Str):Option (Bool):=
 ocase (ref03_Names w0) fun y1=>ref03_Long_L3 y1 (some true) (some (decide ((List.length w0:Int)>(4095:Int)))) FUEL (0:Int)
noncomputable def ref03_Read (w0:Str):Option (Pth):=
 ocase (ref03_Names w0) fun y1=>
 bcase (decide ((List.length w0:Int)>(0:Int))) (
 bcase (decide (0≤(0:Int))) (ocase w0[Int.toNat (0:Int)]? fun c2=>
 bcase (decide ((List.length y1:Int)>(0:Int))) (
 bcase (decide (0≤(IntKind.i64.wrap ((List.length w0:Int) - (1:Int))))) (ocase w0[Int.toNat (IntKind.i64.wrap ((List.length w0:Int) - (1:Int)))]? fun c3=>some (⟨((UInt8.toNat c2:Int)==(47:Int)),y1,((UInt8.toNat c3:Int)==(47:Int))⟩:Pth)) (none)) (some (⟨((UInt8.toNat c2:Int)==(47:Int)),y1,false⟩:Pth))) (none)) (
 bcase (decide ((List.length y1:Int)>(0:Int))) (
 bcase (decide (0≤(IntKind.i64.wrap ((List.length w0:Int) - (1:Int))))) (ocase w0[Int.toNat (IntKind.i64.wrap ((List.length w0:Int) - (1:Int)))]? fun c4=>some (⟨false,y1,((UInt8.toNat c4:Int)==(47:Int))⟩:Pth)) (none)) (some (⟨false,y1,false⟩:Pth)))
end Go.Eng
set_option linter.unusedVariables false
set_option maxRecDepth 100000
namespace Go.Eng
open Go
noncomputable def ref04_Same_L4 {R:Type} (x1:List Entry) (x2:List Entry) (kr:Option R) (k0:Option R):Nat→Int→Option R
 |0,_=>none
 |n+1,x3=>
  bcase (decide (x3<(List.length x1:Int))) (
  bcase (decide (0≤x3)) (ocase x1[Int.toNat x3]? fun e4=>
  bcase (decide (0≤x3)) (ocase x2[Int.toNat x3]? fun e5=>
  bcase (!((e4.name==e5.name)&&(e4.ino==e5.ino))) ((kr)) ((ref04_Same_L4 x1 x2 kr k0 n (IntKind.i64.wrap (x3+(1:Int)))))) (none)) (none)) ((k0))
noncomputable def ref04_Same (w0:(List Entry)) (w1:(List Entry)):Option (Bool):=
 bcase ((List.length w0:Int) !=(List.length w1:Int)) (some false) (ref04_Same_L4 w0 w1 (some false) (some true) FUEL (0:Int))
noncomputable def ref04_Right_L2 {R:Type} (x1:List Entry) (kr:Option R) (k0:Option R):Nat→Int→Option R
 |0,_=>none
 |n+1,x2=>
  bcase (decide (x2<(List.length x1:Int))) (
  bcase (decide (0≤x2)) (ocase x1[Int.toNat x2]? fun e3=>ocase (ref03_May e3.name) fun y4=>
  bcase (!y4) ((kr)) (
  bcase (decide (0≤x2)) (ocase x1[Int.toNat x2]? fun e5=>
  bcase (decide (e5.ino<(1:Int))) ((kr)) (
  bcase (decide (x2>(0:Int))) (
  bcase (decide (0≤(IntKind.i64.wrap (x2 - (1:Int))))) (ocase x1[Int.toNat (IntKind.i64.wrap (x2 - (1:Int)))]? fun e6=>
  bcase (decide (0≤x2)) (ocase x1[Int.toNat x2]? fun e7=>
  bcase (!Op.bytesLess e6.name e7.name) ((kr)) ((ref04_Right_L2 x1 kr k0 n (IntKind.i64.wrap (x2+(1:Int)))))) (none)) (none)) ((ref04_Right_L2 x1 kr k0 n (IntKind.i64.wrap (x2+(1:Int))))))) (none))) (none)) ((k0))
noncomputable def ref04_Right (w0:(List Entry)):Option (Bool):=
 ref04_Right_L2 w0 (some false) (some true) FUEL (0:Int)
noncomputable def ref04_Find_L2 {R:Type} (x1:List Entry) (x2:Str) (kr:Int→Option R) (k0:Option R):Nat→Int→Option R
 |0,_=>none
 |n+1,x3=>
  bcase (decide (x3<(List.length x1:Int))) (
  bcase (decide (0≤x3)) (ocase x1[Int.toNat x3]? fun e4=>
  bcase (e4.name==x2) (
  bcase (decide (0≤x3)) (ocase x1[Int.toNat x3]? fun e5=>(kr e5.ino)) (none)) ((ref04_Find_L2 x1 x2 kr k0 n (IntKind.i64.wrap (x3+(1:Int)))))) (none)) ((k0))
noncomputable def ref04_Find (w0:(List Entry)) (w1:Str):Option (Int×Bool):=
 ref04_Find_L2 w0 w1 (fun z8=>some (z8,true)) (some ((0:Int),false)) FUEL (0:Int)
noncomputable def ref04_Without_L3 {R:Type} (x1:List Entry) (x2:Str) (k0:(List Entry)→Option R):Nat→Int→(List Entry)→Option R
 |0,_,_=>none
 |n+1,x3,x4=>
  bcase (decide (x3<(List.length x1:Int))) (
  bcase (decide (0≤x3)) (ocase x1[Int.toNat x3]? fun e5=>
  bcase (!(e5.name==x2)) (
  bcase (decide (0≤x3)) (ocase x1[Int.toNat x3]? fun e6=>lcase (x4.length+[e6].length) ((ref04_Without_L3 x1 x2 k0 n (IntKind.i64.wrap (x3+(1:Int))) (x4++[e6])))) (none)) ((ref04_Without_L3 x1 x2 k0 n (IntKind.i64.wrap (x3+(1:Int))) x4))) (none)) ((k0 x4))
noncomputable def ref04_Without (w0:(List Entry)) (w1:Str):Option ((List Entry)):=
 ref04_Without_L3 w0 w1 (fun z8=>some z8) FUEL (0:Int) ([] :List Entry)
noncomputable def ref04_With_L5 {R:Type} (x2:Str) (x3:Int) (x4:List Entry) (k0:Bool→(List Entry)→Option R):Nat→Bool→Int→(List Entry)→Option R
 |0,_,_,_=>none
 |n+1,x5,x6,x7=>
  bcase (decide (x6<(List.length x4:Int))) (
  bcase (!x5) (
  bcase (decide (0≤x6)) (ocase x4[Int.toNat x6]? fun e8=>
  bcase (!(Op.bytesLess e8.name x2||e8.name==x2)) (lcase (x7.length+[(⟨x2,x3⟩:Entry)].length) (
  bcase (decide (0≤x6)) (ocase x4[Int.toNat x6]? fun e9=>lcase ((x7++[(⟨x2,x3⟩:Entry)]).length+[e9].length) ((ref04_With_L5 x2 x3 x4 k0 n true (IntKind.i64.wrap (x6+(1:Int))) ((x7++[(⟨x2,x3⟩:Entry)])++[e9])))) (none))) (
  bcase (decide (0≤x6)) (ocase x4[Int.toNat x6]? fun e10=>lcase (x7.length+[e10].length) ((ref04_With_L5 x2 x3 x4 k0 n x5 (IntKind.i64.wrap (x6+(1:Int))) (x7++[e10])))) (none))) (none)) (
  bcase (decide (0≤x6)) (ocase x4[Int.toNat x6]? fun e11=>lcase (x7.length+[e11].length) ((ref04_With_L5 x2 x3 x4 k0 n x5 (IntKind.i64.wrap (x6+(1:Int))) (x7++[e11])))) (none))) ((k0 x5 x7))
noncomputable def ref04_With (w0:(List Entry)) (w1:Str) (w2:Int):Option ((List Entry)):=
 ocase (ref04_Without w0 w1) fun y1=>ref04_With_L5 w1 w2 y1 (fun z16 z17=>
 bcase (!z16) (lcase (z17.length+[(⟨w1,w2⟩:Entry)].length) (some (z17++[(⟨w1,w2⟩:Entry)]))) (some z17)) FUEL false (0:Int) ([] :List Entry)
end Go.Eng
set_option linter.unusedVariables false
set_option maxRecDepth 100000
namespace Go.Eng
open Go
noncomputable def ref05_Drop_L3 {R:Type} (x1:Int) (x3:Fs) (k0:(List Inode)→Option R):Nat→Int→(List Inode)→Option R
 |0,_,_=>none
 |n+1,x2,x5=>
  bcase (decide (x2<(List.length x3.inodes:Int))) (
  bcase (decide (0≤x2)) (ocase x3.inodes[Int.toNat x2]? fun e6=>
  bcase (e6.ino !=x1) (
  bcase (decide (0≤x2)) (ocase x3.inodes[Int.toNat x2]? fun e7=>lcase (x5.length+[e7].length) ((ref05_Drop_L3 x1 x3 k0 n (IntKind.i64.wrap (x2+(1:Int))) (x5++[e7])))) (none)) ((ref05_Drop_L3 x1 x3 k0 n (IntKind.i64.wrap (x2+(1:Int))) x5))) (none)) ((k0 x5))
noncomputable def ref05_Drop (w0:Fs) (w1:Int):Option (Fs):=
 ref05_Drop_L3 w1 w0 (fun z11=>some (⟨w0.maxInodes,w0.maxBytes,w0.next,z11⟩:Fs)) FUEL (0:Int) ([] :List Inode)
noncomputable def ref05_Set_L5 {R:Type} (x2:List Inode) (x6:Inode) (k0:Bool→(List Inode)→Option R):Nat→Bool→Int→(List Inode)→Option R
 |0,_,_,_=>none
 |n+1,x3,x4,x8=>
  bcase (decide (x4<(List.length x2:Int))) (
  bcase (!x3) (
  bcase (decide (0≤x4)) (ocase x2[Int.toNat x4]? fun e9=>
  bcase (decide (e9.ino>x6.ino)) (lcase (x8.length+[x6].length) (
  bcase (decide (0≤x4)) (ocase x2[Int.toNat x4]? fun e10=>lcase ((x8++[x6]).length+[e10].length) ((ref05_Set_L5 x2 x6 k0 n true (IntKind.i64.wrap (x4+(1:Int))) ((x8++[x6])++[e10])))) (none))) (
  bcase (decide (0≤x4)) (ocase x2[Int.toNat x4]? fun e11=>lcase (x8.length+[e11].length) ((ref05_Set_L5 x2 x6 k0 n x3 (IntKind.i64.wrap (x4+(1:Int))) (x8++[e11])))) (none))) (none)) (
  bcase (decide (0≤x4)) (ocase x2[Int.toNat x4]? fun e12=>lcase (x8.length+[e12].length) ((ref05_Set_L5 x2 x6 k0 n x3 (IntKind.i64.wrap (x4+(1:Int))) (x8++[e12])))) (none))) ((k0 x3 x8))
noncomputable def ref05_Set (w0:Fs) (w1:Inode):Option (Fs):=
 ocase (ref05_Drop w0 w1.ino) fun y1=>ref05_Set_L5 y1.inodes w1 (fun z18 z19=>
 bcase (!z18) (lcase (z19.length+[w1].length) (some (⟨w0.maxInodes,w0.maxBytes,w0.next,(z19++[w1])⟩:Fs))) (some (⟨w0.maxInodes,w0.maxBytes,w0.next,z19⟩:Fs))) FUEL false (0:Int) ([] :List Inode)
noncomputable def ref05_New (w0:Int) (w1:Int):Option (Fs):=
 some (⟨w0,w1,(2:Int),[(⟨(1:Int),(2:Int),0, [],(1:Int),([] :List Entry)⟩:Inode)]⟩:Fs)
noncomputable def ref05_Few_L8 {R:Type} (x7:Inode) (kr:Option R) (k2:Option R):Nat→Int→Option R
 |0,_=>none
 |n+1,x5=>
  bcase (decide (x5<(List.length x7.entries:Int))) (
  bcase (decide (0≤x5)) (ocase x7.entries[Int.toNat x5]? fun e8=>
  bcase (decide ((List.length e8.name:Int)>(300:Int))) ((kr)) ((ref05_Few_L8 x7 kr k2 n (IntKind.i64.wrap (x5+(1:Int)))))) (none)) ((k2))
noncomputable def ref05_Few_L2 {R:Type} (x2:Fs) (kr:Option R) (k0:Option R):Nat→Int→Option R
 |0,_=>none
 |n+1,x1=>
  bcase (decide (x1<(List.length x2.inodes:Int))) (
  bcase (decide (x1<(100:Int))) (
  bcase (decide (0≤x1)) (ocase x2.inodes[Int.toNat x1]? fun e3=>
  bcase (decide ((List.length e3.data:Int)>(5000:Int))) ((kr)) (
  bcase (decide ((List.length e3.entries:Int)>(40:Int))) ((kr)) (ref05_Few_L8 e3 ((kr)) ((ref05_Few_L2 x2 kr k0 n (IntKind.i64.wrap (x1+(1:Int))))) FUEL (0:Int)))) (none)) ((k0))) ((k0))
noncomputable def ref05_Few (w0:Fs):Option (Bool):=
 ref05_Few_L2 w0 (some false) (some (decide ((List.length w0.inodes:Int)≤(40:Int)))) FUEL (0:Int)
noncomputable def ref05_Get_L2 {R:Type} (x1:Int) (x3:Fs) (kr:Inode→Option R) (k0:Option R):Nat→Int→Option R
 |0,_=>none
 |n+1,x2=>
  bcase (decide (x2<(List.length x3.inodes:Int))) (
  bcase (decide (0≤x2)) (ocase x3.inodes[Int.toNat x2]? fun e5=>
  bcase (e5.ino==x1) (
  bcase (decide (0≤x2)) (ocase x3.inodes[Int.toNat x2]? fun e6=>(kr e6)) (none)) ((ref05_Get_L2 x1 x3 kr k0 n (IntKind.i64.wrap (x2+(1:Int)))))) (none)) ((k0))
noncomputable def ref05_Get (w0:Fs) (w1:Int):Option (Inode×Bool):=
 ref05_Get_L2 w1 w0 (fun z10=>some (z10,true)) (some ((⟨0,0,0, [],0,([] :List Entry)⟩:Inode),false)) FUEL (0:Int)
noncomputable def ref05_Rise_L2 {R:Type} (x2:Fs) (kr:Option R) (k0:Option R):Nat→Int→Option R
 |0,_=>none
 |n+1,x1=>
  bcase (decide (x1<(List.length x2.inodes:Int))) (
  bcase (decide (0≤(IntKind.i64.wrap (x1 - (1:Int))))) (ocase x2.inodes[Int.toNat (IntKind.i64.wrap (x1 - (1:Int)))]? fun e3=>
  bcase (decide (0≤x1)) (ocase x2.inodes[Int.toNat x1]? fun e4=>
  bcase (decide (e3.ino≥e4.ino)) ((kr)) ((ref05_Rise_L2 x2 kr k0 n (IntKind.i64.wrap (x1+(1:Int)))))) (none)) (none)) ((k0))
noncomputable def ref05_Rise (w0:Fs):Option (Bool):=
 ref05_Rise_L2 w0 (some false) (some true) FUEL (1:Int)
noncomputable def ref05_One (w0:Inode) (w1:Inode):Option (Bool):=
 bcase (w0.ino==w1.ino) (
 bcase (w0.kind==w1.kind) (
 bcase (w0.links==w1.links) (
 bcase (w0.data==w1.data) (
 bcase (w0.parent==w1.parent) (ocase (ref04_Same w0.entries w1.entries) fun y1=>some y1) (some false)) (some false)) (some false)) (some false)) (some false)
noncomputable def ref05_Ones_L4 {R:Type} (x1:List Inode) (x2:List Inode) (kr:Option R) (k0:Option R):Nat→Int→Option R
 |0,_=>none
 |n+1,x3=>
  bcase (decide (x3<(List.length x1:Int))) (
  bcase (decide (0≤x3)) (ocase x1[Int.toNat x3]? fun e4=>
  bcase (decide (0≤x3)) (ocase x2[Int.toNat x3]? fun e5=>ocase (ref05_One e4 e5) fun y6=>
  bcase (!y6) ((kr)) ((ref05_Ones_L4 x1 x2 kr k0 n (IntKind.i64.wrap (x3+(1:Int)))))) (none)) (none)) ((k0))
noncomputable def ref05_Ones (w0:(List Inode)) (w1:(List Inode)):Option (Bool):=
 bcase ((List.length w0:Int) !=(List.length w1:Int)) (some false) (ref05_Ones_L4 w0 w1 (some false) (some true) FUEL (0:Int))
noncomputable def ref05_Same (w0:Fs) (w1:Fs):Option (Bool):=
 bcase (w0.maxInodes==w1.maxInodes) (
 bcase (w0.maxBytes==w1.maxBytes) (
 bcase (w0.next==w1.next) (ocase (ref05_Ones w0.inodes w1.inodes) fun y1=>some y1) (some false)) (some false)) (some false)
end Go.Eng
set_option linter.unusedVariables false
set_option maxRecDepth 100000
namespace Go.Eng
open Go
noncomputable def ref06_Bytes_L3 {R:Type} (x3:Fs) (k0:Int→Option R):Nat→Int→Int→Option R
 |0,_,_=>none
 |n+1,x1,x2=>
  bcase (decide (x2<(List.length x3.inodes:Int))) (
  bcase (decide (0≤x2)) (ocase x3.inodes[Int.toNat x2]? fun e4=>
  bcase (e4.kind==(1:Int)) (
  bcase (decide (0≤x2)) (ocase x3.inodes[Int.toNat x2]? fun e5=>(ref06_Bytes_L3 x3 k0 n (IntKind.i64.wrap (x1+(List.length e5.data:Int))) (IntKind.i64.wrap (x2+(1:Int))))) (none)) ((ref06_Bytes_L3 x3 k0 n x1 (IntKind.i64.wrap (x2+(1:Int)))))) (none)) ((k0 x1))
noncomputable def ref06_Bytes (w0:Fs):Option (Int):=
 ref06_Bytes_L3 w0 (fun z7=>some z7) FUEL (0:Int) (0:Int)
noncomputable def ref06_Fits (w0:Fs) (w1:Int) (w2:Int):Option (Bool):=
 bcase (decide ((IntKind.i64.wrap ((List.length w0.inodes:Int)+w1))>w0.maxInodes)) (some false) (ocase (ref06_Bytes w0) fun y1=>some (decide ((IntKind.i64.wrap (y1+w2))≤w0.maxBytes)))
end Go.Eng
set_option linter.unusedVariables false
set_option maxRecDepth 100000
namespace Go.Eng
open Go
noncomputable def ref07_first_L4 {R:Type} (x2:Fs) (kr:Option R) (k0:Option R):Nat→Int→Option R
 |0,_=>none
 |n+1,x1=>
  bcase (decide (x1<(List.length x2.inodes:Int))) (
  bcase (decide (0≤x1)) (ocase x2.inodes[Int.toNat x1]? fun e3=>
  bcase (decide (e3.ino<(1:Int))) ((kr)) (
  bcase (decide (0≤x1)) (ocase x2.inodes[Int.toNat x1]? fun e4=>
  bcase (decide (e4.ino≥x2.next)) ((kr)) ((ref07_first_L4 x2 kr k0 n (IntKind.i64.wrap (x1+(1:Int)))))) (none))) (none)) ((k0))
noncomputable def ref07_first (w0:Fs):Option (Bool):=
 bcase (decide (w0.maxInodes<(1:Int))) (some false) (
 bcase (decide (w0.maxInodes>(1073741824:Int))) (some false) (
 bcase (decide (w0.maxBytes<(0:Int))) (some false) (
 bcase (decide (w0.maxBytes>(1073741824:Int))) (some false) (
 bcase (decide (w0.next>(1099511627776:Int))) (some false) (ref07_first_L4 w0 (some false) (ocase (ref05_Get w0 (1:Int)) fun y7=>ocase (ref05_Rise w0) fun y8=>
 bcase y8 (
 bcase y7.2 (some (y7.1.kind==(2:Int))) (some false)) (some false)) FUEL (0:Int))))))
noncomputable def ref07_second_L14 {R:Type} (x8:Inode) (kr:Option R) (k2:Option R):Nat→Int→Option R
 |0,_=>none
 |n+1,x6=>
  bcase (decide (x6<(List.length x8.data:Int))) (
  bcase (x8.kind==(3:Int)) (
  bcase (decide (0≤x6)) (ocase x8.data[Int.toNat x6]? fun c9=>
  bcase ((UInt8.toNat c9:Int)==(0:Int)) ((kr)) ((ref07_second_L14 x8 kr k2 n (IntKind.i64.wrap (x6+(1:Int)))))) (none)) ((k2))) ((k2))
noncomputable def ref07_second_L2 {R:Type} (x2:Fs) (kr:Option R) (k0:Option R):Nat→Int→Option R
 |0,_=>none
 |n+1,x1=>
  bcase (decide (x1<(List.length x2.inodes:Int))) (
  bcase (decide (0≤x1)) (ocase x2.inodes[Int.toNat x1]? fun e3=>
  bcase (e3.kind !=(1:Int)) (
  bcase (e3.kind !=(2:Int)) (
  bcase (e3.kind !=(3:Int)) ((kr)) (
  bcase (e3.kind !=(2:Int)) (
  bcase (decide ((List.length e3.entries:Int)>(0:Int))) ((kr)) (
  bcase (e3.parent !=(0:Int)) ((kr)) (
  bcase (e3.kind==(2:Int)) (
  bcase (!(e3.data==([] :Str))) ((kr)) (ocase (ref04_Right e3.entries) fun y4=>
  bcase (!y4) ((kr)) (
  bcase (e3.kind==(3:Int)) (
  bcase (decide ((List.length e3.data:Int)<(1:Int))) ((kr)) (
  bcase (decide ((List.length e3.data:Int)>(4095:Int))) ((kr)) (ref07_second_L14 e3 ((kr)) ((ref07_second_L2 x2 kr k0 n (IntKind.i64.wrap (x1+(1:Int))))) FUEL (0:Int)))) (ref07_second_L14 e3 ((kr)) ((ref07_second_L2 x2 kr k0 n (IntKind.i64.wrap (x1+(1:Int))))) FUEL (0:Int))))) (
  bcase (e3.kind==(3:Int)) (
  bcase (decide ((List.length e3.data:Int)<(1:Int))) ((kr)) (
  bcase (decide ((List.length e3.data:Int)>(4095:Int))) ((kr)) (ref07_second_L14 e3 ((kr)) ((ref07_second_L2 x2 kr k0 n (IntKind.i64.wrap (x1+(1:Int))))) FUEL (0:Int)))) (ref07_second_L14 e3 ((kr)) ((ref07_second_L2 x2 kr k0 n (IntKind.i64.wrap (x1+(1:Int))))) FUEL (0:Int)))))) (
  bcase (e3.kind==(2:Int)) (
  bcase (!(e3.data==([] :Str))) ((kr)) (ocase (ref04_Right e3.entries) fun y13=>
  bcase (!y13) ((kr)) (
  bcase (e3.kind==(3:Int)) (
  bcase (decide ((List.length e3.data:Int)<(1:Int))) ((kr)) (
  bcase (decide ((List.length e3.data:Int)>(4095:Int))) ((kr)) (ref07_second_L14 e3 ((kr)) ((ref07_second_L2 x2 kr k0 n (IntKind.i64.wrap (x1+(1:Int))))) FUEL (0:Int)))) (ref07_second_L14 e3 ((kr)) ((ref07_second_L2 x2 kr k0 n (IntKind.i64.wrap (x1+(1:Int))))) FUEL (0:Int))))) (
  bcase (e3.kind==(3:Int)) (
  bcase (decide ((List.length e3.data:Int)<(1:Int))) ((kr)) (
  bcase (decide ((List.length e3.data:Int)>(4095:Int))) ((kr)) (ref07_second_L14 e3 ((kr)) ((ref07_second_L2 x2 kr k0 n (IntKind.i64.wrap (x1+(1:Int))))) FUEL (0:Int)))) (ref07_second_L14 e3 ((kr)) ((ref07_second_L2 x2 kr k0 n (IntKind.i64.wrap (x1+(1:Int))))) FUEL (0:Int)))))) (
  bcase (e3.kind !=(2:Int)) (
  bcase (decide ((List.length e3.entries:Int)>(0:Int))) ((kr)) (
  bcase (e3.parent !=(0:Int)) ((kr)) (
  bcase (e3.kind==(2:Int)) (
  bcase (!(e3.data==([] :Str))) ((kr)) (ocase (ref04_Right e3.entries) fun y14=>
  bcase (!y14) ((kr)) (
  bcase (e3.kind==(3:Int)) (
  bcase (decide ((List.length e3.data:Int)<(1:Int))) ((kr)) (
  bcase (decide ((List.length e3.data:Int)>(4095:Int))) ((kr)) (ref07_second_L14 e3 ((kr)) ((ref07_second_L2 x2 kr k0 n (IntKind.i64.wrap (x1+(1:Int))))) FUEL (0:Int)))) (ref07_second_L14 e3 ((kr)) ((ref07_second_L2 x2 kr k0 n (IntKind.i64.wrap (x1+(1:Int))))) FUEL (0:Int))))) (
  bcase (e3.kind==(3:Int)) (
  bcase (decide ((List.length e3.data:Int)<(1:Int))) ((kr)) (
  bcase (decide ((List.length e3.data:Int)>(4095:Int))) ((kr)) (ref07_second_L14 e3 ((kr)) ((ref07_second_L2 x2 kr k0 n (IntKind.i64.wrap (x1+(1:Int))))) FUEL (0:Int)))) (ref07_second_L14 e3 ((kr)) ((ref07_second_L2 x2 kr k0 n (IntKind.i64.wrap (x1+(1:Int))))) FUEL (0:Int)))))) (
  bcase (e3.kind==(2:Int)) (
  bcase (!(e3.data==([] :Str))) ((kr)) (ocase (ref04_Right e3.entries) fun y15=>
  bcase (!y15) ((kr)) (
  bcase (e3.kind==(3:Int)) (
  bcase (decide ((List.length e3.data:Int)<(1:Int))) ((kr)) (
  bcase (decide ((List.length e3.data:Int)>(4095:Int))) ((kr)) (ref07_second_L14 e3 ((kr)) ((ref07_second_L2 x2 kr k0 n (IntKind.i64.wrap (x1+(1:Int))))) FUEL (0:Int)))) (ref07_second_L14 e3 ((kr)) ((ref07_second_L2 x2 kr k0 n (IntKind.i64.wrap (x1+(1:Int))))) FUEL (0:Int))))) (
  bcase (e3.kind==(3:Int)) (
  bcase (decide ((List.length e3.data:Int)<(1:Int))) ((kr)) (
  bcase (decide ((List.length e3.data:Int)>(4095:Int))) ((kr)) (ref07_second_L14 e3 ((kr)) ((ref07_second_L2 x2 kr k0 n (IntKind.i64.wrap (x1+(1:Int))))) FUEL (0:Int)))) (ref07_second_L14 e3 ((kr)) ((ref07_second_L2 x2 kr k0 n (IntKind.i64.wrap (x1+(1:Int))))) FUEL (0:Int)))))) (
  bcase (e3.kind !=(2:Int)) (
  bcase (decide ((List.length e3.entries:Int)>(0:Int))) ((kr)) (
  bcase (e3.parent !=(0:Int)) ((kr)) (
  bcase (e3.kind==(2:Int)) (
  bcase (!(e3.data==([] :Str))) ((kr)) (ocase (ref04_Right e3.entries) fun y16=>
  bcase (!y16) ((kr)) (
  bcase (e3.kind==(3:Int)) (
  bcase (decide ((List.length e3.data:Int)<(1:Int))) ((kr)) (
  bcase (decide ((List.length e3.data:Int)>(4095:Int))) ((kr)) (ref07_second_L14 e3 ((kr)) ((ref07_second_L2 x2 kr k0 n (IntKind.i64.wrap (x1+(1:Int))))) FUEL (0:Int)))) (ref07_second_L14 e3 ((kr)) ((ref07_second_L2 x2 kr k0 n (IntKind.i64.wrap (x1+(1:Int))))) FUEL (0:Int))))) (
  bcase (e3.kind==(3:Int)) (
  bcase (decide ((List.length e3.data:Int)<(1:Int))) ((kr)) (
  bcase (decide ((List.length e3.data:Int)>(4095:Int))) ((kr)) (ref07_second_L14 e3 ((kr)) ((ref07_second_L2 x2 kr k0 n (IntKind.i64.wrap (x1+(1:Int))))) FUEL (0:Int)))) (ref07_second_L14 e3 ((kr)) ((ref07_second_L2 x2 kr k0 n (IntKind.i64.wrap (x1+(1:Int))))) FUEL (0:Int)))))) (
  bcase (e3.kind==(2:Int)) (
  bcase (!(e3.data==([] :Str))) ((kr)) (ocase (ref04_Right e3.entries) fun y17=>
  bcase (!y17) ((kr)) (
  bcase (e3.kind==(3:Int)) (
  bcase (decide ((List.length e3.data:Int)<(1:Int))) ((kr)) (
  bcase (decide ((List.length e3.data:Int)>(4095:Int))) ((kr)) (ref07_second_L14 e3 ((kr)) ((ref07_second_L2 x2 kr k0 n (IntKind.i64.wrap (x1+(1:Int))))) FUEL (0:Int)))) (ref07_second_L14 e3 ((kr)) ((ref07_second_L2 x2 kr k0 n (IntKind.i64.wrap (x1+(1:Int))))) FUEL (0:Int))))) (
  bcase (e3.kind==(3:Int)) (
  bcase (decide ((List.length e3.data:Int)<(1:Int))) ((kr)) (
  bcase (decide ((List.length e3.data:Int)>(4095:Int))) ((kr)) (ref07_second_L14 e3 ((kr)) ((ref07_second_L2 x2 kr k0 n (IntKind.i64.wrap (x1+(1:Int))))) FUEL (0:Int)))) (ref07_second_L14 e3 ((kr)) ((ref07_second_L2 x2 kr k0 n (IntKind.i64.wrap (x1+(1:Int))))) FUEL (0:Int)))))) (none)) ((k0))
noncomputable def ref07_second (w0:Fs):Option (Bool):=
 ref07_second_L2 w0 (some false) (some true) FUEL (0:Int)
noncomputable def ref07_third_L5 {R:Type} (x3:Int) (x5:Fs) (kr:Option R) (k2:Option R):Nat→Int→Option R
 |0,_=>none
 |n+1,x4=>
  bcase (decide (0≤x3)) (ocase x5.inodes[Int.toNat x3]? fun e6=>
  bcase (decide (x4<(List.length e6.entries:Int))) (
  bcase (decide (0≤x3)) (ocase x5.inodes[Int.toNat x3]? fun e7=>
  bcase (decide (0≤x4)) (ocase e7.entries[Int.toNat x4]? fun e8=>ocase (ref05_Get x5 e8.ino) fun y9=>
  bcase (!y9.2) ((kr)) ((ref07_third_L5 x3 x5 kr k2 n (IntKind.i64.wrap (x4+(1:Int)))))) (none)) (none)) ((k2))) (none)
noncomputable def ref07_third_L2 {R:Type} (x2:Fs) (kr:Option R) (k0:Option R):Nat→Int→Option R
 |0,_=>none
 |n+1,x1=>
  bcase (decide (x1<(List.length x2.inodes:Int))) (ref07_third_L5 x1 x2 ((kr)) ((ref07_third_L2 x2 kr k0 n (IntKind.i64.wrap (x1+(1:Int))))) FUEL (0:Int)) ((k0))
noncomputable def ref07_third (w0:Fs):Option (Bool):=
 ref07_third_L2 w0 (some false) (some true) FUEL (0:Int)
noncomputable def ref07_Names_L7 {R:Type} (x6:Int) (x9:Int) (x11:Fs) (k2:Int→Int→Option R):Nat→Int→Int→Int→Option R
 |0,_,_,_=>none
 |n+1,x7,x8,x10=>
  bcase (decide (0≤x9)) (ocase x11.inodes[Int.toNat x9]? fun e12=>
  bcase (decide (x10<(List.length e12.entries:Int))) (
  bcase (decide (0≤x9)) (ocase x11.inodes[Int.toNat x9]? fun e13=>
  bcase (decide (0≤x10)) (ocase e13.entries[Int.toNat x10]? fun e14=>
  bcase (e14.ino==x6) (
  bcase (decide (0≤x9)) (ocase x11.inodes[Int.toNat x9]? fun e15=>(ref07_Names_L7 x6 x9 x11 k2 n (IntKind.i64.wrap (x7+(1:Int))) e15.ino (IntKind.i64.wrap (x10+(1:Int))))) (none)) ((ref07_Names_L7 x6 x9 x11 k2 n x7 x8 (IntKind.i64.wrap (x10+(1:Int)))))) (none)) (none)) ((k2 x7 x8))) (none)
noncomputable def ref07_Names_L4 {R:Type} (x1:Int) (x5:Fs) (k0:Int→Int→Option R):Nat→Int→Int→Int→Option R
 |0,_,_,_=>none
 |n+1,x2,x3,x4=>
  bcase (decide (x4<(List.length x5.inodes:Int))) (ref07_Names_L7 x1 x4 x5 (fun z21 z22=>(ref07_Names_L4 x1 x5 k0 n z21 z22 (IntKind.i64.wrap (x4+(1:Int))))) FUEL x2 x3 (0:Int)) ((k0 x2 x3))
noncomputable def ref07_Names (w0:Fs) (w1:Int):Option (Int×Int):=
 ref07_Names_L4 w1 w0 (fun z25 z26=>some (z25,z26)) FUEL (0:Int) (0:Int) (0:Int)
noncomputable def ref07_fourth_L2 {R:Type} (x2:Fs) (kr:Option R) (k0:Option R):Nat→Int→Option R
 |0,_=>none
 |n+1,x1=>
  bcase (decide (x1<(List.length x2.inodes:Int))) (
  bcase (decide (0≤x1)) (ocase x2.inodes[Int.toNat x1]? fun e3=>ocase (ref07_Names x2 e3.ino) fun y4=>
  bcase (e3.links !=y4.1) ((kr)) (
  bcase (e3.ino==(1:Int)) (
  bcase (y4.1 !=(0:Int)) ((kr)) (
  bcase (e3.parent !=(1:Int)) ((kr)) ((ref07_fourth_L2 x2 kr k0 n (IntKind.i64.wrap (x1+(1:Int))))))) (
  bcase (decide (y4.1<(1:Int))) ((kr)) (
  bcase (e3.kind==(2:Int)) (
  bcase (y4.1 !=(1:Int)) ((kr)) (
  bcase (e3.parent !=y4.2) ((kr)) ((ref07_fourth_L2 x2 kr k0 n (IntKind.i64.wrap (x1+(1:Int))))))) ((ref07_fourth_L2 x2 kr k0 n (IntKind.i64.wrap (x1+(1:Int))))))))) (none)) ((k0))
noncomputable def ref07_fourth (w0:Fs):Option (Bool):=
 ref07_fourth_L2 w0 (some false) (some true) FUEL (0:Int)
noncomputable def ref07_fifth_L11 {R:Type} (x12:Int) (x16:List Int) (x17:Inode) (k4:Bool→Option R):Nat→Bool→Int→Option R
 |0,_,_=>none
 |n+1,x13,x14=>
  bcase (decide (x14<(List.length x16:Int))) (
  bcase x13 ((ref07_fifth_L11 x12 x16 x17 k4 n true (IntKind.i64.wrap (x14+(1:Int))))) (
  bcase (decide (0≤x14∧x14<(x16.length:Int))) (ocase x16[(Int.toNat x14)]? fun e18=>
  bcase (decide (0≤x12)) (ocase x17.entries[Int.toNat x12]? fun e19=>(ref07_fifth_L11 x12 x16 x17 k4 n (e18==e19.ino) (IntKind.i64.wrap (x14+(1:Int))))) (none)) (none))) ((k4 x13))
noncomputable def ref07_fifth_L7 {R:Type} (x10:Inode) (k2:(List Int)→Option R):Nat→Int→(List Int)→Option R
 |0,_,_=>none
 |n+1,x7,x9=>
  bcase (decide (x7<(List.length x10.entries:Int))) (ref07_fifth_L11 x7 x9 x10 (fun z26=>
  bcase (!z26) (
  bcase (decide (0≤x7)) (ocase x10.entries[Int.toNat x7]? fun e27=>lcase (x9.length+[e27.ino].length) ((ref07_fifth_L7 x10 k2 n (IntKind.i64.wrap (x7+(1:Int))) (x9++[e27.ino])))) (none)) ((ref07_fifth_L7 x10 k2 n (IntKind.i64.wrap (x7+(1:Int))) x9))) FUEL false (0:Int)) ((k2 x9))
noncomputable def ref07_fifth_L3 {R:Type} (x2:Fs) (k0:(List Int)→Option R):Nat→Int→(List Int)→Option R
 |0,_,_=>none
 |n+1,x1,x3=>
  bcase (decide (x1<(List.length x3:Int))) (
  bcase (decide (0≤x1∧x1<(x3.length:Int))) (ocase x3[(Int.toNat x1)]? fun e4=>ocase (ref05_Get x2 e4) fun y5=>ref07_fifth_L7 y5.1 (fun z31=>(ref07_fifth_L3 x2 k0 n (IntKind.i64.wrap (x1+(1:Int))) z31)) FUEL (0:Int) x3) (none)) ((k0 x3))
noncomputable def ref07_fifth (w0:Fs):Option (Bool):=
 ref07_fifth_L3 w0 (fun z34=>some ((List.length z34:Int)==(List.length w0.inodes:Int))) FUEL (0:Int) [(1:Int)]
noncomputable def ref07_Check (w0:Fs):Option (Int):=
 ocase (ref07_first w0) fun y1=>
 bcase (!y1) (some (1:Int)) (ocase (ref07_second w0) fun y2=>
 bcase (!y2) (some (2:Int)) (ocase (ref07_third w0) fun y3=>
 bcase (!y3) (some (3:Int)) (ocase (ref07_fourth w0) fun y4=>
 bcase (!y4) (some (4:Int)) (ocase (ref07_fifth w0) fun y5=>
 bcase (!y5) (some (5:Int)) (ocase (ref06_Fits w0 (0:Int) (0:Int)) fun y6=>
 bcase (!y6) (some (6:Int)) (some (0:Int)))))))
noncomputable def ref07_Ok (w0:Fs):Option (Bool):=
 ocase (ref05_Few w0) fun y1=>bcase y1 (ocase (ref07_Check w0) fun y2=>some (y2==(0:Int))) (some false)
end Go.Eng
set_option linter.unusedVariables false
set_option maxRecDepth 100000
namespace Go.Eng
open Go
noncomputable def ref08_under (w0:Str) (w1:Str):Option (Str):=
 bcase (w0==([47]:Str)) (lcase (w0.length+w1.length) (some (w0++w1))) (lcase (w0.length+([47]:Str).length) (lcase ((w0++([47]:Str)).length+w1.length) (some ((w0++([47]:Str))++w1))))
noncomputable def ref08_Below_L6 {R:Type} (rec:Fs→Int→Str→Int→Option ((List Seen))) (x2:Str) (x3:Int) (x5:Fs) (x6:Inode) (k0:(List Seen)→Option R):Nat→Int→(List Seen)→Option R
 |0,_,_=>none
 |n+1,x4,x7=>
  bcase (decide (x4<(List.length x6.entries:Int))) (
  bcase (decide (0≤x4)) (ocase x6.entries[Int.toNat x4]? fun e8=>
  bcase (decide (0≤x4)) (ocase x6.entries[Int.toNat x4]? fun e9=>ocase (ref08_under x2 e9.name) fun y10=>ocase (rec x5 e8.ino y10 (IntKind.i64.wrap (x3 - (1:Int)))) fun y11=>lcase (x7.length+y11.length) ((ref08_Below_L6 rec x2 x3 x5 x6 k0 n (IntKind.i64.wrap (x4+(1:Int))) (x7++y11)))) (none)) (none)) ((k0 x7))
noncomputable def ref08_Below_r:Nat→Fs→Int→Str→Int→Option ((List Seen))
 |0=>fun _ _ _ _=>none
 |n+1=>fun w0 w1 w2 w3=>
  ocase (ref05_Get w0 w1) fun y1=>
  bcase (!y1.2) (some ([] :List Seen)) (
  bcase (decide (w3<(0:Int))) (some ([] :List Seen)) (ref08_Below_L6 (ref08_Below_r n) w2 w3 w0 y1.1 (fun z13=>some z13) FUEL (0:Int) [(⟨w2,w1⟩:Seen)]))
noncomputable def ref08_Below (w0:Fs) (w1:Int) (w2:Str) (w3:Int):Option ((List Seen)):=ref08_Below_r FUEL w0 w1 w2 w3
noncomputable def ref08_Same_L4 {R:Type} (x1:List Seen) (x2:List Seen) (kr:Option R) (k0:Option R):Nat→Int→Option R
 |0,_=>none
 |n+1,x3=>
  bcase (decide (x3<(List.length x1:Int))) (
  bcase (decide (0≤x3)) (ocase x1[Int.toNat x3]? fun e4=>
  bcase (decide (0≤x3)) (ocase x2[Int.toNat x3]? fun e5=>
  bcase (!((e4.path==e5.path)&&(e4.ino==e5.ino))) ((kr)) ((ref08_Same_L4 x1 x2 kr k0 n (IntKind.i64.wrap (x3+(1:Int)))))) (none)) (none)) ((k0))
noncomputable def ref08_Same (w0:(List Seen)) (w1:(List Seen)):Option (Bool):=
 bcase ((List.length w0:Int) !=(List.length w1:Int)) (some false) (ref08_Same_L4 w0 w1 (some false) (some true) FUEL (0:Int))
end Go.Eng
set_option linter.unusedVariables false
set_option maxRecDepth 100000
namespace Go.Eng
open Go
noncomputable def ref09_At_L6 {R:Type} (x2:List Str) (x4:Fs) (kr:Int→Option R) (k0:Spotted→Option R):Nat→Int→Spotted→Option R
 |0,_,_=>none
 |n+1,x3,x6=>
  bcase (decide (x3<(List.length x2:Int))) (
  bcase (x6.ino==(0:Int)) ((kr (1:Int))) (ocase (ref05_Get x4 x6.ino) fun y7=>
  bcase (y7.1.kind !=(2:Int)) ((kr (3:Int))) (
  bcase (decide (0≤x3)) (ocase x2[Int.toNat x3]? fun e8=>ocase (ref04_Find y7.1.entries e8) fun y9=>
  bcase (decide (0≤x3)) (ocase x2[Int.toNat x3]? fun e10=>(ref09_At_L6 x2 x4 kr k0 n (IntKind.i64.wrap (x3+(1:Int))) (⟨y7.1.ino,e10,y9.1⟩:Spotted))) (none)) (none)))) ((k0 x6))
noncomputable def ref09_At (w0:Fs) (w1:Str):Option (Spotted×Int):=
 ocase (ref03_Plain w1) fun y1=>
 bcase (!y1.2) (some ((⟨0, [],0⟩:Spotted),(9:Int))) (ref09_At_L6 y1.1 w0 (fun z15=>some ((⟨((⟨0, [],0⟩:Spotted).dir),((⟨0, [],0⟩:Spotted).name),((⟨0, [],0⟩:Spotted).ino)⟩:Spotted),z15)) (fun z16=>some (z16,(0:Int))) FUEL (0:Int) (⟨0, [],(1:Int)⟩:Spotted))
noncomputable def ref09_Get (w0:Fs) (w1:Str):Option (Inode×Int):=
 ocase (ref09_At w0 w1) fun y1=>
 bcase (y1.2 !=(0:Int)) (some ((⟨0,0,0, [],0,([] :List Entry)⟩:Inode),y1.2)) (
 bcase (y1.1.ino==(0:Int)) (some ((⟨0,0,0, [],0,([] :List Entry)⟩:Inode),(1:Int))) (ocase (ref05_Get w0 y1.1.ino) fun y2=>some (y2.1,(0:Int))))
end Go.Eng
set_option linter.unusedVariables false
set_option maxRecDepth 100000
namespace Go.Eng
open Go
noncomputable def ref10_Short_L2 {R:Type} (x4:Fs) (kr:Option R) (k0:Option R):Nat→Int→Option R
 |0,_=>none
 |n+1,x3=>
  bcase (decide (x3<(List.length x4.inodes:Int))) (
  bcase (decide (x3<(100:Int))) (
  bcase (decide (0≤x3)) (ocase x4.inodes[Int.toNat x3]? fun e5=>
  bcase (e5.kind==(3:Int)) (
  bcase (decide (0≤x3)) (ocase x4.inodes[Int.toNat x3]? fun e6=>
  bcase (decide ((List.length e6.data:Int)>(300:Int))) ((kr)) ((ref10_Short_L2 x4 kr k0 n (IntKind.i64.wrap (x3+(1:Int)))))) (none)) ((ref10_Short_L2 x4 kr k0 n (IntKind.i64.wrap (x3+(1:Int)))))) (none)) ((k0))) ((k0))
noncomputable def ref10_Short (w0:Fs) (w1:Str) (w2:Str):Option (Bool):=
 ref10_Short_L2 w0 (some false) (
 bcase (decide ((List.length w1:Int)≤(1000:Int))) (some (decide ((List.length w2:Int)≤(5000:Int)))) (some false)) FUEL (0:Int)
noncomputable def ref10_Home (w0:Fs) (w1:Str):Option (Int×Int):=
 ocase (ref09_Get w0 w1) fun y1=>
 bcase (y1.2 !=(0:Int)) (some ((0:Int),y1.2)) (
 bcase (y1.1.kind !=(2:Int)) (some ((0:Int),(3:Int))) (some (y1.1.ino,(0:Int))))
noncomputable def ref10_on_r:Nat→Fs→Spotted→(List Str)→Bool→Bool→Int→Option (Spotted×Int)
 |0=>fun _ _ _ _ _ _=>none
 |n+1=>fun w0 w1 w2 w3 w4 w5=>
  bcase ((List.length w2:Int)==(0:Int)) (ocase (ref05_Get w0 w1.ino) fun y1=>
  bcase y1.2 (
  bcase w4 (
  bcase (y1.1.kind !=(2:Int)) (some ((⟨0, [],0⟩:Spotted),(3:Int))) (some (w1,(0:Int)))) (some (w1,(0:Int)))) (some (w1,(0:Int)))) (
  bcase (w1.ino==(0:Int)) (some ((⟨0, [],0⟩:Spotted),(1:Int))) (ocase (ref05_Get w0 w1.ino) fun y2=>
  bcase (y2.1.kind !=(2:Int)) (some ((⟨0, [],0⟩:Spotted),(3:Int))) (
  bcase (decide (0≤(0:Int))) (ocase w2[Int.toNat (0:Int)]? fun e3=>
  bcase (decide (0≤(1:Int)∧(1:Int)≤(w2.length:Int))) (
  bcase (e3==([46]:Str)) (ocase ((ref10_on_r n) w0 (⟨0, [],y2.1.ino⟩:Spotted) (w2.drop (Int.toNat (1:Int))) w3 w4 w5) fun y4=>some (y4.1,y4.2)) (
  bcase (e3==([46,46]:Str)) (ocase ((ref10_on_r n) w0 (⟨0, [],y2.1.parent⟩:Spotted) (w2.drop (Int.toNat (1:Int))) w3 w4 w5) fun y5=>some (y5.1,y5.2)) (ocase (ref04_Find y2.1.entries e3) fun y6=>ocase (ref05_Get w0 y6.1) fun y7=>
  bcase (!y6.2) (ocase ((ref10_on_r n) w0 (⟨y2.1.ino,e3,y6.1⟩:Spotted) (w2.drop (Int.toNat (1:Int))) w3 w4 w5) fun y8=>some (y8.1,y8.2)) (
  bcase (y7.1.kind !=(3:Int)) (ocase ((ref10_on_r n) w0 (⟨y2.1.ino,e3,y6.1⟩:Spotted) (w2.drop (Int.toNat (1:Int))) w3 w4 w5) fun y9=>some (y9.1,y9.2)) (
  bcase ((List.length (w2.drop (Int.toNat (1:Int))):Int)==(0:Int)) (
  bcase (!w3) (
  bcase (!w4) (ocase ((ref10_on_r n) w0 (⟨y2.1.ino,e3,y6.1⟩:Spotted) (w2.drop (Int.toNat (1:Int))) w3 w4 w5) fun y10=>some (y10.1,y10.2)) (
  bcase (w5==(40:Int)) (some ((⟨0, [],0⟩:Spotted),(6:Int))) (ocase (ref03_Long y7.1.data) fun y11=>
  bcase y11 (some ((⟨0, [],0⟩:Spotted),(7:Int))) (ocase (ref03_Read y7.1.data) fun y12=>
  bcase y12.abs (
  bcase y12.slash (
  bcase ((List.length (w2.drop (Int.toNat (1:Int))):Int)==(0:Int)) (lcase (([] :List Str).length+y12.names.length) (lcase (y12.names.length+(w2.drop (Int.toNat (1:Int))).length) (ocase ((ref10_on_r n) w0 (⟨0, [],(1:Int)⟩:Spotted) (y12.names++(w2.drop (Int.toNat (1:Int)))) w3 true (IntKind.i64.wrap (w5+(1:Int)))) fun y13=>some (y13.1,y13.2)))) (lcase (([] :List Str).length+y12.names.length) (lcase (y12.names.length+(w2.drop (Int.toNat (1:Int))).length) (ocase ((ref10_on_r n) w0 (⟨0, [],(1:Int)⟩:Spotted) (y12.names++(w2.drop (Int.toNat (1:Int)))) w3 w4 (IntKind.i64.wrap (w5+(1:Int)))) fun y14=>some (y14.1,y14.2))))) (lcase (([] :List Str).length+y12.names.length) (lcase (y12.names.length+(w2.drop (Int.toNat (1:Int))).length) (ocase ((ref10_on_r n) w0 (⟨0, [],(1:Int)⟩:Spotted) (y12.names++(w2.drop (Int.toNat (1:Int)))) w3 w4 (IntKind.i64.wrap (w5+(1:Int)))) fun y15=>some (y15.1,y15.2))))) (
  bcase y12.slash (
  bcase ((List.length (w2.drop (Int.toNat (1:Int))):Int)==(0:Int)) (lcase (([] :List Str).length+y12.names.length) (lcase (y12.names.length+(w2.drop (Int.toNat (1:Int))).length) (ocase ((ref10_on_r n) w0 (⟨0, [],y2.1.ino⟩:Spotted) (y12.names++(w2.drop (Int.toNat (1:Int)))) w3 true (IntKind.i64.wrap (w5+(1:Int)))) fun y16=>some (y16.1,y16.2)))) (lcase (([] :List Str).length+y12.names.length) (lcase (y12.names.length+(w2.drop (Int.toNat (1:Int))).length) (ocase ((ref10_on_r n) w0 (⟨0, [],y2.1.ino⟩:Spotted) (y12.names++(w2.drop (Int.toNat (1:Int)))) w3 w4 (IntKind.i64.wrap (w5+(1:Int)))) fun y17=>some (y17.1,y17.2))))) (lcase (([] :List Str).length+y12.names.length) (lcase (y12.names.length+(w2.drop (Int.toNat (1:Int))).length) (ocase ((ref10_on_r n) w0 (⟨0, [],y2.1.ino⟩:Spotted) (y12.names++(w2.drop (Int.toNat (1:Int)))) w3 w4 (IntKind.i64.wrap (w5+(1:Int)))) fun y18=>some (y18.1,y18.2))))))))) (
  bcase (w5==(40:Int)) (some ((⟨0, [],0⟩:Spotted),(6:Int))) (ocase (ref03_Long y7.1.data) fun y19=>
  bcase y19 (some ((⟨0, [],0⟩:Spotted),(7:Int))) (ocase (ref03_Read y7.1.data) fun y20=>
  bcase y20.abs (
  bcase y20.slash (
  bcase ((List.length (w2.drop (Int.toNat (1:Int))):Int)==(0:Int)) (lcase (([] :List Str).length+y20.names.length) (lcase (y20.names.length+(w2.drop (Int.toNat (1:Int))).length) (ocase ((ref10_on_r n) w0 (⟨0, [],(1:Int)⟩:Spotted) (y20.names++(w2.drop (Int.toNat (1:Int)))) w3 true (IntKind.i64.wrap (w5+(1:Int)))) fun y21=>some (y21.1,y21.2)))) (lcase (([] :List Str).length+y20.names.length) (lcase (y20.names.length+(w2.drop (Int.toNat (1:Int))).length) (ocase ((ref10_on_r n) w0 (⟨0, [],(1:Int)⟩:Spotted) (y20.names++(w2.drop (Int.toNat (1:Int)))) w3 w4 (IntKind.i64.wrap (w5+(1:Int)))) fun y22=>some (y22.1,y22.2))))) (lcase (([] :List Str).length+y20.names.length) (lcase (y20.names.length+(w2.drop (Int.toNat (1:Int))).length) (ocase ((ref10_on_r n) w0 (⟨0, [],(1:Int)⟩:Spotted) (y20.names++(w2.drop (Int.toNat (1:Int)))) w3 w4 (IntKind.i64.wrap (w5+(1:Int)))) fun y23=>some (y23.1,y23.2))))) (
  bcase y20.slash (
  bcase ((List.length (w2.drop (Int.toNat (1:Int))):Int)==(0:Int)) (lcase (([] :List Str).length+y20.names.length) (lcase (y20.names.length+(w2.drop (Int.toNat (1:Int))).length) (ocase ((ref10_on_r n) w0 (⟨0, [],y2.1.ino⟩:Spotted) (y20.names++(w2.drop (Int.toNat (1:Int)))) w3 true (IntKind.i64.wrap (w5+(1:Int)))) fun y24=>some (y24.1,y24.2)))) (lcase (([] :List Str).length+y20.names.length) (lcase (y20.names.length+(w2.drop (Int.toNat (1:Int))).length) (ocase ((ref10_on_r n) w0 (⟨0, [],y2.1.ino⟩:Spotted) (y20.names++(w2.drop (Int.toNat (1:Int)))) w3 w4 (IntKind.i64.wrap (w5+(1:Int)))) fun y25=>some (y25.1,y25.2))))) (lcase (([] :List Str).length+y20.names.length) (lcase (y20.names.length+(w2.drop (Int.toNat (1:Int))).length) (ocase ((ref10_on_r n) w0 (⟨0, [],y2.1.ino⟩:Spotted) (y20.names++(w2.drop (Int.toNat (1:Int)))) w3 w4 (IntKind.i64.wrap (w5+(1:Int)))) fun y26=>some (y26.1,y26.2))))))))) (
  bcase (w5==(40:Int)) (some ((⟨0, [],0⟩:Spotted),(6:Int))) (ocase (ref03_Long y7.1.data) fun y27=>
  bcase y27 (some ((⟨0, [],0⟩:Spotted),(7:Int))) (ocase (ref03_Read y7.1.data) fun y28=>
  bcase y28.abs (
  bcase y28.slash (
  bcase ((List.length (w2.drop (Int.toNat (1:Int))):Int)==(0:Int)) (lcase (([] :List Str).length+y28.names.length) (lcase (y28.names.length+(w2.drop (Int.toNat (1:Int))).length) (ocase ((ref10_on_r n) w0 (⟨0, [],(1:Int)⟩:Spotted) (y28.names++(w2.drop (Int.toNat (1:Int)))) w3 true (IntKind.i64.wrap (w5+(1:Int)))) fun y29=>some (y29.1,y29.2)))) (lcase (([] :List Str).length+y28.names.length) (lcase (y28.names.length+(w2.drop (Int.toNat (1:Int))).length) (ocase ((ref10_on_r n) w0 (⟨0, [],(1:Int)⟩:Spotted) (y28.names++(w2.drop (Int.toNat (1:Int)))) w3 w4 (IntKind.i64.wrap (w5+(1:Int)))) fun y30=>some (y30.1,y30.2))))) (lcase (([] :List Str).length+y28.names.length) (lcase (y28.names.length+(w2.drop (Int.toNat (1:Int))).length) (ocase ((ref10_on_r n) w0 (⟨0, [],(1:Int)⟩:Spotted) (y28.names++(w2.drop (Int.toNat (1:Int)))) w3 w4 (IntKind.i64.wrap (w5+(1:Int)))) fun y31=>some (y31.1,y31.2))))) (
  bcase y28.slash (
  bcase ((List.length (w2.drop (Int.toNat (1:Int))):Int)==(0:Int)) (lcase (([] :List Str).length+y28.names.length) (lcase (y28.names.length+(w2.drop (Int.toNat (1:Int))).length) (ocase ((ref10_on_r n) w0 (⟨0, [],y2.1.ino⟩:Spotted) (y28.names++(w2.drop (Int.toNat (1:Int)))) w3 true (IntKind.i64.wrap (w5+(1:Int)))) fun y32=>some (y32.1,y32.2)))) (lcase (([] :List Str).length+y28.names.length) (lcase (y28.names.length+(w2.drop (Int.toNat (1:Int))).length) (ocase ((ref10_on_r n) w0 (⟨0, [],y2.1.ino⟩:Spotted) (y28.names++(w2.drop (Int.toNat (1:Int)))) w3 w4 (IntKind.i64.wrap (w5+(1:Int)))) fun y33=>some (y33.1,y33.2))))) (lcase (([] :List Str).length+y28.names.length) (lcase (y28.names.length+(w2.drop (Int.toNat (1:Int))).length) (ocase ((ref10_on_r n) w0 (⟨0, [],y2.1.ino⟩:Spotted) (y28.names++(w2.drop (Int.toNat (1:Int)))) w3 w4 (IntKind.i64.wrap (w5+(1:Int)))) fun y34=>some (y34.1,y34.2))))))))))))) (none)) (none))))
noncomputable def ref10_on (w0:Fs) (w1:Spotted) (w2:(List Str)) (w3:Bool) (w4:Bool) (w5:Int):Option (Spotted×Int):=ref10_on_r FUEL w0 w1 w2 w3 w4 w5
noncomputable def ref10_Seek (w0:Fs) (w1:Str) (w2:Str) (w3:Bool):Option (Spotted×Int):=
 bcase (w2==([] :Str)) (some ((⟨0, [],0⟩:Spotted),(1:Int))) (ocase (ref03_Long w2) fun y1=>
 bcase y1 (some ((⟨0, [],0⟩:Spotted),(7:Int))) (ocase (ref03_Read w2) fun y2=>
 bcase (!y2.abs) (ocase (ref10_Home w0 w1) fun y3=>
 bcase (y3.2 !=(0:Int)) (some ((⟨0, [],0⟩:Spotted),y3.2)) (ocase (ref10_on w0 (⟨0, [],y3.1⟩:Spotted) y2.names w3 y2.slash (0:Int)) fun y4=>some (y4.1,y4.2))) (ocase (ref10_on w0 (⟨0, [],(1:Int)⟩:Spotted) y2.names w3 y2.slash (0:Int)) fun y5=>some (y5.1,y5.2))))
end Go.Eng
set_option linter.unusedVariables false
set_option maxRecDepth 100000
namespace Go.Eng
open Go
noncomputable def ref12_Unname (w0:Fs) (w1:Spotted):Option (Fs):=
 ocase (ref05_Get w0 w1.dir) fun y1=>ocase (ref05_Get w0 w1.ino) fun y2=>ocase (ref04_Without y1.1.entries w1.name) fun y3=>ocase (ref05_Set w0 (⟨y1.1.ino,y1.1.kind,y1.1.links,y1.1.data,y1.1.parent,y3⟩:Inode)) fun y4=>
 bcase ((IntKind.i64.wrap (y2.1.links - (1:Int)))==(0:Int)) (ocase (ref05_Drop y4 w1.ino) fun y5=>some y5) (ocase (ref05_Set y4 (⟨y2.1.ino,y2.1.kind,(IntKind.i64.wrap (y2.1.links - (1:Int))),y2.1.data,y2.1.parent,y2.1.entries⟩:Inode)) fun y6=>some y6)
end Go.Eng
set_option linter.unusedVariables false
set_option maxRecDepth 100000
namespace Go.Eng
open Go
noncomputable def ref14_Inside_L2 {R:Type} (x2:Int) (x4:Fs) (kr:Option R) (k0:Option R):Nat→Int→Int→Option R
 |0,_,_=>none
 |n+1,x1,x3=>
  bcase (decide (x3≤(List.length x4.inodes:Int))) (
  bcase (x1==x2) ((kr)) (ocase (ref05_Get x4 x1) fun y5=>(ref14_Inside_L2 x2 x4 kr k0 n y5.1.parent (IntKind.i64.wrap (x3+(1:Int)))))) ((k0))
noncomputable def ref14_Inside (w0:Fs) (w1:Int) (w2:Int):Option (Bool):=
 ref14_Inside_L2 w2 w0 (some true) (some false) FUEL w1 (0:Int)
noncomputable def ref14_Move (w0:Fs) (w1:Spotted) (w2:Spotted):Option (Fs):=
 bcase (w2.ino !=(0:Int)) (ocase (ref12_Unname w0 w2) fun y1=>ocase (ref05_Get y1 w1.dir) fun y2=>ocase (ref04_Without y2.1.entries w1.name) fun y3=>ocase (ref05_Set y1 (⟨y2.1.ino,y2.1.kind,y2.1.links,y2.1.data,y2.1.parent,y3⟩:Inode)) fun y4=>ocase (ref05_Get y4 w2.dir) fun y5=>ocase (ref04_With y5.1.entries w2.name w1.ino) fun y6=>ocase (ref05_Set y4 (⟨y5.1.ino,y5.1.kind,y5.1.links,y5.1.data,y5.1.parent,y6⟩:Inode)) fun y7=>ocase (ref05_Get y7 w1.ino) fun y8=>
 bcase (y8.1.kind==(2:Int)) (ocase (ref05_Set y7 (⟨y8.1.ino,y8.1.kind,y8.1.links,y8.1.data,w2.dir,y8.1.entries⟩:Inode)) fun y9=>some y9) (some y7)) (ocase (ref05_Get w0 w1.dir) fun y10=>ocase (ref04_Without y10.1.entries w1.name) fun y11=>ocase (ref05_Set w0 (⟨y10.1.ino,y10.1.kind,y10.1.links,y10.1.data,y10.1.parent,y11⟩:Inode)) fun y12=>ocase (ref05_Get y12 w2.dir) fun y13=>ocase (ref04_With y13.1.entries w2.name w1.ino) fun y14=>ocase (ref05_Set y12 (⟨y13.1.ino,y13.1.kind,y13.1.links,y13.1.data,y13.1.parent,y14⟩:Inode)) fun y15=>ocase (ref05_Get y15 w1.ino) fun y16=>
 bcase (y16.1.kind==(2:Int)) (ocase (ref05_Set y15 (⟨y16.1.ino,y16.1.kind,y16.1.links,y16.1.data,w2.dir,y16.1.entries⟩:Inode)) fun y17=>some y17) (some y15))
noncomputable def ref14_Rename (w0:Fs) (w1:Str) (w2:Str) (w3:Str):Option (Fs×Int):=
 ocase (ref10_Seek w0 w1 w2 false) fun y1=>
 bcase (y1.2 !=(0:Int)) (some (w0,y1.2)) (
 bcase (y1.1.ino==(0:Int)) (some (w0,(1:Int))) (
 bcase (y1.1.name==([] :Str)) (some (w0,(10:Int))) (ocase (ref10_Seek w0 w1 w3 false) fun y2=>
 bcase (y2.2 !=(0:Int)) (some (w0,y2.2)) (
 bcase (y2.1.name==([] :Str)) (some (w0,(10:Int))) (
 bcase (y1.1.ino==y2.1.ino) (some (w0,(0:Int))) (ocase (ref05_Get w0 y1.1.ino) fun y3=>
 bcase (y3.1.kind==(2:Int)) (ocase (ref14_Inside w0 y2.1.dir y1.1.ino) fun y4=>
 bcase y4 (some (w0,(9:Int))) (
 bcase (y2.1.ino==(0:Int)) (ocase (ref03_Read w3) fun y5=>
 bcase y5.slash (
 bcase (y3.1.kind !=(2:Int)) (some (w0,(3:Int))) (ocase (ref03_May y2.1.name) fun y6=>
 bcase (!y6) (some (w0,(9:Int))) (ocase (ref14_Move w0 y1.1 y2.1) fun y7=>some (y7,(0:Int))))) (ocase (ref03_May y2.1.name) fun y8=>
 bcase (!y8) (some (w0,(9:Int))) (ocase (ref14_Move w0 y1.1 y2.1) fun y9=>some (y9,(0:Int))))) (ocase (ref05_Get w0 y2.1.ino) fun y10=>
 bcase (y3.1.kind==(2:Int)) (
 bcase (y10.1.kind !=(2:Int)) (some (w0,(3:Int))) (
 bcase (y10.1.kind==(2:Int)) (
 bcase (y3.1.kind !=(2:Int)) (some (w0,(4:Int))) (
 bcase (decide ((List.length y10.1.entries:Int)>(0:Int))) (some (w0,(5:Int))) (ocase (ref14_Move w0 y1.1 y2.1) fun y11=>some (y11,(0:Int))))) (
 bcase (decide ((List.length y10.1.entries:Int)>(0:Int))) (some (w0,(5:Int))) (ocase (ref14_Move w0 y1.1 y2.1) fun y12=>some (y12,(0:Int)))))) (
 bcase (y10.1.kind==(2:Int)) (
 bcase (y3.1.kind !=(2:Int)) (some (w0,(4:Int))) (
 bcase (decide ((List.length y10.1.entries:Int)>(0:Int))) (some (w0,(5:Int))) (ocase (ref14_Move w0 y1.1 y2.1) fun y13=>some (y13,(0:Int))))) (
 bcase (decide ((List.length y10.1.entries:Int)>(0:Int))) (some (w0,(5:Int))) (ocase (ref14_Move w0 y1.1 y2.1) fun y14=>some (y14,(0:Int)))))))) (
 bcase (y2.1.ino==(0:Int)) (ocase (ref03_Read w3) fun y15=>
 bcase y15.slash (
 bcase (y3.1.kind !=(2:Int)) (some (w0,(3:Int))) (ocase (ref03_May y2.1.name) fun y16=>
 bcase (!y16) (some (w0,(9:Int))) (ocase (ref14_Move w0 y1.1 y2.1) fun y17=>some (y17,(0:Int))))) (ocase (ref03_May y2.1.name) fun y18=>
 bcase (!y18) (some (w0,(9:Int))) (ocase (ref14_Move w0 y1.1 y2.1) fun y19=>some (y19,(0:Int))))) (ocase (ref05_Get w0 y2.1.ino) fun y20=>
 bcase (y3.1.kind==(2:Int)) (
 bcase (y20.1.kind !=(2:Int)) (some (w0,(3:Int))) (
 bcase (y20.1.kind==(2:Int)) (
 bcase (y3.1.kind !=(2:Int)) (some (w0,(4:Int))) (
 bcase (decide ((List.length y20.1.entries:Int)>(0:Int))) (some (w0,(5:Int))) (ocase (ref14_Move w0 y1.1 y2.1) fun y21=>some (y21,(0:Int))))) (
 bcase (decide ((List.length y20.1.entries:Int)>(0:Int))) (some (w0,(5:Int))) (ocase (ref14_Move w0 y1.1 y2.1) fun y22=>some (y22,(0:Int)))))) (
 bcase (y20.1.kind==(2:Int)) (
 bcase (y3.1.kind !=(2:Int)) (some (w0,(4:Int))) (
 bcase (decide ((List.length y20.1.entries:Int)>(0:Int))) (some (w0,(5:Int))) (ocase (ref14_Move w0 y1.1 y2.1) fun y23=>some (y23,(0:Int))))) (
 bcase (decide ((List.length y20.1.entries:Int)>(0:Int))) (some (w0,(5:Int))) (ocase (ref14_Move w0 y1.1 y2.1) fun y24=>some (y24,(0:Int)))))))))))))
end Go.Eng
set_option linter.unusedVariables false
set_option maxRecDepth 100000
namespace Go.Eng
open Go
noncomputable def law14_small:Option (Fs):=
 ocase (ref05_New (9:Int) (9:Int)) fun y1=>ocase (ref05_Set (⟨y1.maxInodes,y1.maxBytes,(9:Int),y1.inodes⟩:Fs) (⟨(1:Int),(2:Int),0, [],(1:Int),[(⟨([100]:Str),(3:Int)⟩:Entry),(⟨([102]:Str),(4:Int)⟩:Entry)]⟩:Inode)) fun y2=>ocase (ref05_Set y2 (⟨(3:Int),(2:Int),(1:Int), [],(1:Int),[(⟨([101]:Str),(5:Int)⟩:Entry)]⟩:Inode)) fun y3=>ocase (ref05_Set y3 (⟨(5:Int),(2:Int),(1:Int), [],(3:Int),([] :List Entry)⟩:Inode)) fun y4=>ocase (ref05_Set y4 (⟨(4:Int),(1:Int),(1:Int), [],0,([] :List Entry)⟩:Inode)) fun y5=>some y5
noncomputable def law14_awake:Option (Bool):=
 ocase (law14_small) fun y1=>ocase (move_Rename y1 ([47]:Str) ([100]:Str) ([120]:Str)) fun y2=>ocase (move_Rename y1 ([47]:Str) ([100]:Str) ([100,47,101]:Str)) fun y3=>ocase (move_Rename y1 ([47]:Str) ([102]:Str) ([100]:Str)) fun y4=>ocase (move_Rename y1 ([47]:Str) ([100]:Str) ([102]:Str)) fun y5=>ocase (move_Rename y1 ([47,100]:Str) ([101]:Str) ([46,46,47,101]:Str)) fun y6=>ocase (move_Rename y1 ([47]:Str) ([102]:Str) ([102]:Str)) fun y7=>ocase (move_Rename y1 ([47]:Str) ([100,47,46]:Str) ([120]:Str)) fun y8=>ocase (ref05_Get y6.1 (5:Int)) fun y9=>ocase (ref09_At y2.1 ([47,120,47,101]:Str)) fun y10=>
 bcase (y2.2==(0:Int)) (
 bcase (y10.2==(0:Int)) (
 bcase (y10.1.ino==(5:Int)) (
 bcase (y3.2==(9:Int)) (
 bcase (y4.2==(4:Int)) (
 bcase (y5.2==(3:Int)) (
 bcase (y6.2==(0:Int)) (
 bcase (y9.1.parent==(1:Int)) (
 bcase (y7.2==(0:Int)) (ocase (ref05_Same y7.1 y1) fun y11=>
 bcase y11 (
 bcase (y8.2==(10:Int)) (ocase (move_Inside y1 (5:Int) (3:Int)) fun y12=>
 bcase y12 (ocase (move_Inside y1 (3:Int) (5:Int)) fun y13=>
 bcase (!y13) (ocase (move_Inside y1 (1:Int) (1:Int)) fun y14=>some y14) (some false)) (some false)) (some false)) (some false)) (some false)) (some false)) (some false)) (some false)) (some false)) (some false)) (some false)) (some false)) (some false)
noncomputable def law14_fits (w0:Fs) (w1:Str) (w2:Str) (w3:Str):Option (Bool):=
 ocase (ref07_Ok w0) fun y1=>
 bcase y1 (ocase (ref10_Short w0 w1 w2) fun y2=>
 bcase y2 (ocase (ref10_Short w0 w1 w3) fun y3=>some y3) (some false)) (some false)
noncomputable def law14_MoveRenames (w0:Fs) (w1:Str) (w2:Str) (w3:Str):Option (Bool):=
 ocase (law14_awake) fun y1=>
 bcase (!y1) (ocase (law14_awake) fun y2=>some y2) (ocase (law14_fits w0 w1 w2 w3) fun y3=>
 bcase (!y3) (ocase (law14_awake) fun y4=>some y4) (ocase (move_Rename w0 w1 w2 w3) fun y5=>ocase (ref14_Rename w0 w1 w2 w3) fun y6=>ocase (ref05_Same y5.1 y6.1) fun y7=>
 bcase y7 (some (y5.2==y6.2)) (some false)))
noncomputable def law14_MoveInside (w0:Fs) (w1:Int) (w2:Int):Option (Bool):=
 ocase (law14_awake) fun y1=>
 bcase (!y1) (ocase (law14_awake) fun y2=>some y2) (ocase (ref07_Ok w0) fun y3=>
 bcase (!y3) (ocase (law14_awake) fun y4=>some y4) (ocase (ref05_Get w0 w1) fun y5=>ocase (ref05_Get w0 w2) fun y6=>
 bcase (!y5.2) (some true) (
 bcase (!y6.2) (some true) (
 bcase (y5.1.kind !=(2:Int)) (some true) (
 bcase (y6.1.kind !=(2:Int)) (some true) (ocase (move_Inside w0 w1 w2) fun y7=>ocase (ref14_Inside w0 w1 w2) fun y8=>
 bcase (y7==y8) (ocase (move_Inside w0 w1 w1) fun y9=>
 bcase y9 (ocase (move_Inside w0 w1 (1:Int)) fun y10=>
 bcase y10 (
 bcase (w1==w2) (some true) (ocase (move_Inside w0 w1 w2) fun y11=>
 bcase (!y11) (some true) (ocase (move_Inside w0 w2 w1) fun y12=>some (!y12)))) (some false)) (some false)) (some false)))))))
noncomputable def law14_MoveMoves (w0:Fs) (w1:Str) (w2:Str):Option (Bool):=
 ocase (law14_awake) fun y1=>
 bcase (!y1) (ocase (law14_awake) fun y2=>some y2) (ocase (law14_fits w0 ([47]:Str) w1 w2) fun y3=>
 bcase (!y3) (ocase (law14_awake) fun y4=>some y4) (ocase (ref09_At w0 w1) fun y5=>ocase (ref09_At w0 w2) fun y6=>
 bcase (y5.2 !=(0:Int)) (some true) (
 bcase (y6.2 !=(0:Int)) (some true) (
 bcase (y5.1.ino==(0:Int)) (some true) (
 bcase (y5.1.name==([] :Str)) (some true) (
 bcase (y6.1.name==([] :Str)) (some true) (
 bcase (y5.1.ino==y6.1.ino) (some true) (ocase (ref05_Get w0 y5.1.ino) fun y7=>ocase (ref05_Get w0 y6.1.ino) fun y8=>
 bcase (decide ((List.length y8.1.entries:Int)>(0:Int))) (some true) (
 bcase (y7.1.kind==(2:Int)) (ocase (ref14_Inside w0 y6.1.dir y5.1.ino) fun y9=>
 bcase y9 (some true) (ocase (move_Move w0 y5.1 y6.1) fun y10=>ocase (ref14_Move w0 y5.1 y6.1) fun y11=>ocase (ref05_Same y10 y11) fun y12=>some y12)) (ocase (move_Move w0 y5.1 y6.1) fun y13=>ocase (ref14_Move w0 y5.1 y6.1) fun y14=>ocase (ref05_Same y13 y14) fun y15=>some y15))))))))))
noncomputable def law14_MoveSound (w0:Fs) (w1:Str) (w2:Str):Option (Bool):=
 ocase (law14_awake) fun y1=>
 bcase (!y1) (ocase (law14_awake) fun y2=>some y2) (ocase (law14_fits w0 ([47]:Str) w1 w2) fun y3=>
 bcase (!y3) (ocase (law14_awake) fun y4=>some y4) (ocase (ref03_Plain w1) fun y5=>ocase (ref03_Plain w2) fun y6=>
 bcase (!y5.2) (some true) (
 bcase (!y6.2) (some true) (ocase (ref09_At w0 w1) fun y7=>ocase (move_Rename w0 ([47]:Str) w1 w2) fun y8=>
 bcase (y8.2 !=(0:Int)) (ocase (ref05_Same y8.1 w0) fun y9=>some y9) (ocase (ref07_Check y8.1) fun y10=>
 bcase (y10 !=(0:Int)) (
 bcase (y7.2 !=(0:Int)) (ocase (ref07_Check y8.1) fun y11=>some (y11==(0:Int))) (some false)) (
 bcase (y7.2 !=(0:Int)) (
 bcase (y7.2 !=(0:Int)) (ocase (ref07_Check y8.1) fun y12=>some (y12==(0:Int))) (some false)) (ocase (ref09_At w0 w2) fun y13=>
 bcase (y13.2 !=(0:Int)) (
 bcase (y13.2 !=(0:Int)) (some true) (ocase (ref05_Same y8.1 w0) fun y14=>some y14)) (
 bcase (y7.1.ino==y13.1.ino) (
 bcase (y13.2 !=(0:Int)) (some true) (ocase (ref05_Same y8.1 w0) fun y15=>some y15)) (ocase (ref09_At y8.1 w2) fun y16=>ocase (ref09_Get y8.1 w1) fun y17=>ocase (ref08_Below w0 y7.1.ino w2 (List.length w0.inodes:Int)) fun y18=>ocase (ref08_Below y8.1 y16.1.ino w2 (List.length y8.1.inodes:Int)) fun y19=>
 bcase (y16.2==(0:Int)) (
 bcase (y16.1.ino==y7.1.ino) (
 bcase (y17.2 !=(0:Int)) (ocase (ref08_Same y18 y19) fun y20=>some y20) (some false)) (some false)) (some false))))))))))
noncomputable def law14_MoveKeeps (w0:Fs) (w1:Str) (w2:Str) (w3:Str):Option (Bool):=
 ocase (law14_awake) fun y1=>
 bcase (!y1) (ocase (law14_awake) fun y2=>some y2) (ocase (law14_fits w0 w1 w2 w3) fun y3=>
 bcase (!y3) (ocase (law14_awake) fun y4=>some y4) (lcase (([] :List Inode).length+w0.inodes.length) (ocase (move_Rename (⟨w0.maxInodes,w0.maxBytes,w0.next,(([] :List Inode)++w0.inodes)⟩:Fs) w1 w2 w3) fun y5=>ocase (ref05_Same (⟨w0.maxInodes,w0.maxBytes,w0.next,(([] :List Inode)++w0.inodes)⟩:Fs) w0) fun y6=>
 bcase (!y6) (some false) (ocase (ref14_Rename w0 w1 w2 w3) fun y7=>
 bcase (y5.2==y7.2) (ocase (ref05_Same y5.1 y7.1) fun y8=>some y8) (some false)))))
end Go.Eng
