/- A part of the proofs of the laws of this seat: the engine that reads the program's code, plain functions, or facts of the program's functions. Conditions: none. -/
import Derived.Test.YtodknkhemckfbaaGreatDoorE4
import Derived.Lib.Bytealg
import Derived.Lib.IndexAny
import Derived.Lib.Join
import Derived.Test.YtodknkhemckfbaaGreatDoorE2
set_option linter.unusedSectionVars false
set_option linter.unusedVariables false
set_option linter.unusedSimpArgs false
set_option linter.unnecessarySimpa false
set_option maxRecDepth 100000
namespace Go.Eng
open Go
abbrev sh {α β:Type} (x:α) (f:α->β):β:=f x
def strings_Compare (a b:Str):Option Int:=some (Lib.compareBytes a b)
def stringslite_IndexByte (a:Str) (c:Int):Option Int:=some (Lib.indexByte a c.toNat.toUInt8)
noncomputable def strings_Join (l:List Str) (sep:Str):Option Str:=open Classical in if (Lib.join l sep).length+l.length<=67108864 then some (Lib.join l sep) else none
theorem KS {w:World} {bk of:Nat}:∀(l:List Str),(∀i,(hi:i<l.length)->∃b:ByteArray,w.cell? ⟨bk,of+i,none⟩=some (.string b)/\b.data.toList=l[i])->
 ∃xs:List ByteArray,xs.length=l.length/\(∀(j:Nat) x,xs[j]? =some x->w.cell? ⟨bk,of+j,none⟩=some (.string x))/\xs.map (·.data.toList)=l:=by
 intro l h;refine⟨(List.range l.length).pmap (λi hi=>Classical.choose (h i hi)) (λi hi=>by simpa using hi),by simp,λj x hx=> ?_, ?_⟩
 ·have hj:j<l.length:=by
   have:=(List.getElem?_eq_some_iff.1 hx).1;simpa using this
  have:=(Classical.choose_spec (h j hj)).1;simp [List.getElem?_pmap,hj] at hx;rw[<-hx];exact this
 ·apply List.ext_getElem
  ·simp
  ·intro i h1 h2
   simp only[List.getElem_map,List.getElem_pmap,List.getElem_range];exact(Classical.choose_spec (h i h2)).2
noncomputable def cn {R:Type} (x1:Str) (kr:Int->Option R) (k0:Option R):Nat->Int->Option R
 |0,_=>none
 |n+1,x2=>
  ah (decide (x2<(List.length x1:Int))) (
  ah (decide (0<=x2)) (aj x1[Int.toNat x2]? λc3=>splitK (UInt8.toNat c3:Int) 256 0 (λi4=>
  ah (Nat.beq i4 0||Nat.beq i4 47) ((kr x2)) ((cn x1 kr k0 n (IntKind.i64.wrap (x2+(1:Int))))))) (none)) ((k0))
noncomputable def dp {R:Type} (x13:Str) (kr:Int->Option R) (k9:Option R):Nat->Nat->Option R
 |0,_=>none
 |n+1,x14=>
  ah (Nat.blt x14 x13.length) (
  ah (((dJ x13 x14).1:Int)==(65533:Int)) ((kr (x14:Int))) ((dp x13 kr k9 n (x14+(dJ x13 x14).2)))) ((k9))
noncomputable def dn {R:Type} (x35:Str) (x36:Int) (x37:Int) (k3:Option R):Nat->Int->Option R
 |0,_=>none
 |n+1,x38=>
  ah (decide (x38<(List.length x35:Int))) (
  ah (decide (0<=(IntKind.i64.wrap (x37 - x38)))) (aj ([47,0]:Str)[Int.toNat (IntKind.i64.wrap (x37 - x38))]? λc42=>
  ah (decide (0<=(IntKind.i64.wrap (x36 - x38)))) (aj x35[Int.toNat (IntKind.i64.wrap (x36 - x38))]? λc43=>
  ah ((UInt8.toNat c42:Int) !=(UInt8.toNat c43:Int)) (none) ((dn x35 x36 x37 k3 n (IntKind.i64.wrap (x38+(1:Int)))))) (none)) (none)) ((k3))
noncomputable def cK {R:Type} (x25:Str) (x26:Int) (x27:Int) (kr:Int->Option R) (k1:Option R):Nat->Option R
 |0=>none
 |n+1=>
  ah (decide (x27<(2:Int))) (
  ah (decide (0<=x27)) (aj ([47,0]:Str)[Int.toNat x27]? λc31=>
  ah (decide (0<=x26)) (aj x25[Int.toNat x26]? λc32=>
  ah ((UInt8.toNat c31:Int) !=(UInt8.toNat c32:Int)) (
  ah (decide (0<=(IntKind.i64.wrap (x27+(1:Int)))/\(IntKind.i64.wrap (x27+(1:Int)))<=(([47,0]:Str).length:Int))) (
  ah (decide (0<=x26)) (aj x25[Int.toNat x26]? λc33=>aj (stringslite_IndexByte (([47,0]:Str).drop (Int.toNat (IntKind.i64.wrap (x27+(1:Int))))) (UInt8.toNat c33:Int)) λy34=>
  ah (decide (y34<(0:Int))) ((kr (-1:Int))) (dn x25 x26 (IntKind.i64.wrap (x27+(IntKind.i64.wrap (y34+(1:Int))))) ((kr (IntKind.i64.wrap ((IntKind.i64.wrap (x27+(IntKind.i64.wrap (y34+(1:Int))))) - x26)))) bx (1:Int))) (none)) (none)) (dn x25 x26 x27 ((kr (IntKind.i64.wrap (x27 - x26)))) bx (1:Int))) (none)) (none)) ((k1))
noncomputable def cA {R:Type} (x7:Str) (kr:Int->Option R) (k2:Option R):Nat->Nat->Option R
 |0,_=>none
 |n+1,x8=>
  ah (Nat.blt x8 x7.length) (sh ((cA x7 kr k2 n (x8+(dJ x7 x8).2))) λs2=>sh ((Utf8.encode ((dJ x7 x8).1:Int)).data.toList) λs5=>sh (IntKind.i64.wrap ((List.length s5:Int) - (1:Int))) λs4=>sh (cK s5 s4 s4 (λz59=>
  ah (decide (z59>=(0:Int))) ((kr (x8:Int))) s2) s2 bx) λs0=>sh (decide ((0:Int)<=((dJ x7 x8).1:Int))) λs6=>sh (
  ah (((dJ x7 x8).1:Int)==(65533:Int)) (dp ([47,0]:Str) (λz24=>
  ah (decide (z24>=(0:Int))) ((kr (x8:Int))) s2) s2 bx 0) (sh (
  ah (decide ((57343:Int)<((dJ x7 x8).1:Int))) (
  ah (decide (((dJ x7 x8).1:Int)<=(1114111:Int))) s0 s2) s2) λs3=>
  ah s6 (
  ah (decide (((dJ x7 x8).1:Int)<(55296:Int))) s0 s3) s3)) λs1=>
  ah s6 (
  ah (decide (((dJ x7 x8).1:Int)<(128:Int))) (aj (stringslite_IndexByte ([47,0]:Str) (IntKind.u8.wrap (((dJ x7 x8).1:Int)))) λy9=>
  ah (decide (y9>=(0:Int))) ((kr (x8:Int))) s2) s1) s1) ((k2))
noncomputable def fZ (w0:Str):Option (Bool):=
 ah (decide ((List.length w0:Int)>(8:Int))) (cn w0 (λz6=>some (decide (z6>=(0:Int)))) (some false) bx (0:Int)) (cA w0 (λz67=>some (decide (z67>=(0:Int)))) (some false) bx 0)
noncomputable def nk (w0:Str):Option (Bool):=
 ah (!(w0==([] :Str))) (
 ah (decide ((List.length w0:Int)<=(255:Int))) (aj (fZ w0) λy1=>
 ah (!y1) (
 ah (!(w0==([46]:Str))) (some (!(w0==([46,46]:Str)))) (some false)) (some false)) (some false)) (some false)
noncomputable def mZ (w0:(List Str)):Option (Str):=
 ah ((List.length w0:Int)==(0:Int)) (some ([47]:Str)) (aj (strings_Join w0 ([47]:Str)) λy1=>aS (([47]:Str).length+y1.length) (some (([47]:Str)++y1)))
noncomputable def bz {R:Type} (k2:Str->(List Str)->Option R):Nat->Str->(List Str)->Option R
 |0,_,_=>none
 |n+1,x2,x3=>
  ah (([47]:Str)==x2) (
  ah (decide (0<=(0:Int)/\(0:Int)<=(x2.length:Int))) (
  ah (!((x2.take (Int.toNat (0:Int)))==([] :Str))) (aS (x3.length+[(x2.take (Int.toNat (0:Int)))].length) (
  ah (decide (0<=(1:Int)/\(1:Int)<=(x2.length:Int))) ((bz k2 n (x2.drop (Int.toNat (1:Int))) (x3++[(x2.take (Int.toNat (0:Int)))]))) (none))) (
  ah (decide (0<=(1:Int)/\(1:Int)<=(x2.length:Int))) ((bz k2 n (x2.drop (Int.toNat (1:Int))) x3)) (none))) (none)) (aj (stringslite_IndexByte x2 (47:Int)) λy4=>
  ah (decide (y4<(0:Int))) ((k2 x2 x3)) (
  ah (decide (0<=(IntKind.i64.wrap (y4+(0:Int)))/\(IntKind.i64.wrap (y4+(0:Int)))<=(x2.length:Int))) (
  ah (!((x2.take (Int.toNat (IntKind.i64.wrap (y4+(0:Int)))))==([] :Str))) (aS (x3.length+[(x2.take (Int.toNat (IntKind.i64.wrap (y4+(0:Int)))))].length) (
  ah (decide (0<=(IntKind.i64.wrap (y4+(1:Int)))/\(IntKind.i64.wrap (y4+(1:Int)))<=(x2.length:Int))) ((bz k2 n (x2.drop (Int.toNat (IntKind.i64.wrap (y4+(1:Int))))) (x3++[(x2.take (Int.toNat (IntKind.i64.wrap (y4+(0:Int)))))]))) (none))) (
  ah (decide (0<=(IntKind.i64.wrap (y4+(1:Int)))/\(IntKind.i64.wrap (y4+(1:Int)))<=(x2.length:Int))) ((bz k2 n (x2.drop (Int.toNat (IntKind.i64.wrap (y4+(1:Int))))) x3)) (none))) (none)))
noncomputable def cB {R:Type} (x11:Int) (x14:List Str) (kr:Int->Option R) (k0:Option R):Nat->Int->Option R
 |0,_=>none
 |n+1,x12=>
  ah (decide (x12<x11)) (
  ah (decide (0<=x12/\x12<(x14.length:Int))) (aj x14[(Int.toNat x12)]? λe15=>aj (nk e15) λy16=>
  ah (!y16) ((kr x12)) ((cB x11 x14 kr k0 n (IntKind.i64.wrap (x12+(1:Int)))))) (none)) ((k0))
noncomputable def ny (w0:Str):Option ((List Str)×Bool):=
 bz (λz8 z9=>
 ah (!(z8==([] :Str))) (aS (z9.length+[z8].length) (aj (mZ (z9++[z8])) λy10=>
 ah (!(y10==w0)) (some (([] :List Str),false)) (cB (List.length (z9++[z8]):Int) (z9++[z8]) (λz22=>
 ah (decide (z22>=(0:Int))) (some (([] :List Str),false)) (some ((z9++[z8]),true))) (some ((z9++[z8]),true)) bx (0:Int)))) (aj (mZ z9) λy23=>
 ah (!(y23==w0)) (some (([] :List Str),false)) (cB (List.length z9:Int) z9 (λz24=>
 ah (decide (z24>=(0:Int))) (some (([] :List Str),false)) (some (z9,true))) (some (z9,true)) bx (0:Int)))) bx w0 ([] :List Str)
noncomputable def jE (w0:Str) (w1:Str):Option (Bool):=
 ah (w0==w1) (some true) (
 ah (w1==([47]:Str)) (some true) (aS (w1.length+([47]:Str).length) (
 ah (decide ((List.length w0:Int)>=(List.length (w1++([47]:Str)):Int))) (
 ah (decide (0<=(List.length (w1++([47]:Str)):Int)/\(List.length (w1++([47]:Str)):Int)<=(w0.length:Int))) (some ((w0.take (Int.toNat (List.length (w1++([47]:Str)):Int)))==(w1++([47]:Str)))) (none)) (some false))))
noncomputable def eW {R:Type} (x1:List Entry) (x2:Str) (k0:Int->Option R):Nat->Int->Int->Option R
 |0,_,_=>none
 |n+1,x4,x5=>
  ah (decide (x4<x5)) (
  ah (decide ((1:Int)<0)) (none) (
  ah (decide (0<=(IntKind.i64.wrap (Int.fdiv (IntKind.u64.wrap (IntKind.i64.wrap (x4+x5))) (2^(min (Int.toNat (1:Int)) (IntKind.bits .u64))))))) (aj x1[Int.toNat (IntKind.i64.wrap (Int.fdiv (IntKind.u64.wrap (IntKind.i64.wrap (x4+x5))) (2^(min (Int.toNat (1:Int)) (IntKind.bits .u64)))))]? λe6=>aj (strings_Compare e6.name x2) λy7=>
  ah (decide (y7<(0:Int))) ((eW x1 x2 k0 n (IntKind.i64.wrap ((IntKind.i64.wrap (Int.fdiv (IntKind.u64.wrap (IntKind.i64.wrap (x4+x5))) (2^(min (Int.toNat (1:Int)) (IntKind.bits .u64)))))+(1:Int))) x5)) ((eW x1 x2 k0 n x4 (IntKind.i64.wrap (Int.fdiv (IntKind.u64.wrap (IntKind.i64.wrap (x4+x5))) (2^(min (Int.toNat (1:Int)) (IntKind.bits .u64)))))))) (none))) ((k0 x4))
noncomputable def o6 (w0:(List Entry)) (w1:Str):Option (Int×Bool):=
 eW w0 w1 (λz12=>
 ah (decide (z12<(List.length w0:Int))) (
 ah (decide (0<=z12)) (aj w0[Int.toNat z12]? λe13=>aj (strings_Compare e13.name w1) λy14=>some (z12,(y14==(0:Int)))) (none)) (some (z12,false))) bx (0:Int) (List.length w0:Int)
noncomputable def na (w0:(List Entry)) (w1:Str):Option (Int×Bool):=
 aj (o6 w0 w1) λy1=>
 ah (!y1.2) (some ((0:Int),false)) (
 ah (decide (0<=y1.1)) (aj w0[Int.toNat y1.1]? λe2=>some (e2.ino,true)) (none))
noncomputable def fJ (w0:(List Entry)) (w1:Str):Option ((List Entry)):=
 aj (o6 w0 w1) λy1=>
 ah (!y1.2) (Cy w0 (some ([] :List Entry)) (aS (([] :List Entry).length+w0.length) (some (([] :List Entry)++w0)))) (sh (IntKind.i64.wrap ((List.length w0:Int) - (1:Int))) λs3=>
 ah (decide (0<=s3/\s3=s3)) (aS (Int.toNat s3) (
 ah (decide (0<=y1.1/\y1.1<=(w0.length:Int))) (sh (List.replicate (Int.toNat s3) (⟨[],0⟩:Entry)) λs0=>sh ((w0.take (Int.toNat y1.1)).take s0.length++s0.drop (w0.take (Int.toNat y1.1)).length) λs1=>sh ((min (w0.take (Int.toNat y1.1)).length s0.length:Nat):Int) λs2=>
 ah (decide (0<=s2/\s2<=(s1.length:Int))) (sh (IntKind.i64.wrap (y1.1+(1:Int))) λs4=>
 ah (decide (0<=s4/\s4<=(w0.length:Int))) (
 ah (Nat.ble ((Int.toNat s2)+(s1.length - (Int.toNat s2))) s1.length) (some (s1.take (Int.toNat s2)++((w0.drop (Int.toNat s4)).take (s1.length - (Int.toNat s2))++(s1.drop (Int.toNat s2)).drop (min (w0.drop (Int.toNat s4)).length (s1.length - (Int.toNat s2)))))) (none)) (none)) (none)) (none))) (none))
noncomputable def fN (w0:(List Entry)) (w1:Str) (w2:Int):Option ((List Entry)):=
 aj (o6 w0 w1) λy1=>sh (List.length [(⟨w1,w2⟩:Entry)]:Int) λs11=>Cy w0 (
 ah y1.2 (
 ah (decide (0<=y1.1)) (aj ([] :List Entry)[Int.toNat y1.1]? λe2=>none) (none)) (
 ah (decide (0<=y1.1/\y1.1<=(([] :List Entry).length:Int))) (
 ah (s11==(0:Int)) (some ([] :List Entry)) (
 ah (y1.1==(List.length ([] :List Entry):Int)) (aS (([] :List Entry).length+[(⟨w1,w2⟩:Entry)].length) (some [(⟨w1,w2⟩:Entry)])) (none))) (none))) (aS (([] :List Entry).length+w0.length) (sh ((([] :List Entry)++w0).length:Int) λs15=>
 ah y1.2 (
 ah (decide (0<=y1.1/\y1.1<s15)) (aj (([] :List Entry)++w0)[(Int.toNat y1.1)]? λe3=>some ((([] :List Entry)++w0).set (Int.toNat y1.1) (⟨e3.name,w2⟩:Entry))) (none)) (
 ah (decide (0<=y1.1/\y1.1<=s15)) (
 ah (s11==(0:Int)) (some (([] :List Entry)++w0)) (
 ah (y1.1==(List.length (([] :List Entry)++w0):Int)) (aS ((([] :List Entry)++w0).length+[(⟨w1,w2⟩:Entry)].length) (some ((([] :List Entry)++w0)++[(⟨w1,w2⟩:Entry)]))) (Dl (([] :List Entry)++w0).length λcp4=>sh (IntKind.i64.wrap ((List.length (([] :List Entry)++w0):Int)+s11)) λs0=>sh (IntKind.i64.wrap (y1.1+s11)) λs7=>sh (Int.toNat s7) λs2=>
 ah (decide (s0>(cp4:Int))) (
 ah (decide (0<=y1.1/\y1.1<=(cp4:Int))) (sh (IntKind.i64.wrap (s0 - y1.1)) λs14=>
 ah (decide (0<=s14)) (aS ((Int.toNat y1.1)+Int.toNat s14) (
 ah (Nat.ble (0+(Int.toNat y1.1)) (([] :List Entry)++w0).length) (
 ah (Nat.blt (cp4 - 0) ((Int.toNat y1.1)+Int.toNat s14)) (sh (((([] :List Entry)++w0).drop 0).take (Int.toNat y1.1)++List.replicate (Int.toNat s14) (⟨[],0⟩:Entry)) λs4=>
 ah (decide (0<=y1.1/\y1.1<=(s4.length:Int))) (sh (s4.length - (Int.toNat y1.1)) λs17=>
 ah (Nat.ble ((Int.toNat y1.1)+s17) s4.length) (sh (s4.take (Int.toNat y1.1)++([(⟨w1,w2⟩:Entry)].take s17++(s4.drop (Int.toNat y1.1)).drop (min [(⟨w1,w2⟩:Entry)].length s17))) λs1=>
 ah (decide (0<=s7/\s7<=(s1.length:Int))) (
 ah (decide (0<=y1.1/\y1.1<=s15)) (sh (min ((([] :List Entry)++w0).length - (Int.toNat y1.1)) (s1.length - s2)) λs8=>
 ah (Nat.ble ((Int.toNat y1.1)+s8) (([] :List Entry)++w0).length) (
 ah (Nat.ble s2 s1.length) (
 ah (Nat.ble (s2+s8) s1.length) (some (s1.take s2++((((([] :List Entry)++w0).drop (Int.toNat y1.1)).take s8)++s1.drop (s2+s8)))) (none)) (none)) (none)) (none)) (none)) (none)) (none)) (none)) (none))) (none)) (none)) (
 ah (decide (0<=s0/\s0<=(cp4:Int))) (sh (decide (0<=s7/\s7<=((Int.toNat s0):Int))) λs18=>
 ah s18 (
 ah (Nat.blt 0 [(⟨w1,w2⟩:Entry)].length) (
 ah (Nat.blt 0 (([] :List Entry)++w0).length) (
 ah s18 (sh (decide (0<=y1.1/\y1.1<=((Int.toNat s0):Int))) λs12=>
 ah s12 (sh ((Int.toNat s0) - (Int.toNat y1.1)) λs6=>sh (min s6 ((Int.toNat s0) - s2)) λs13=>
 ah (Nat.ble ((0+(Int.toNat y1.1))+s13) (([] :List Entry)++w0).length) (
 ah (Nat.ble (0+s2) (([] :List Entry)++w0).length) (sh (((([] :List Entry)++w0).drop (0+(Int.toNat y1.1))).take s13) λs16=>
 ah (Nat.ble ((0+s2)+s13) (([] :List Entry)++w0).length) (
 ah s12 (sh ((([] :List Entry)++w0).take (0+s2)++(s16++(([] :List Entry)++w0).drop ((0+s2)+s13))) λs3=>
 ah (Nat.ble ((0+(Int.toNat y1.1))+s6) s3.length) (sh (s3.take (0+(Int.toNat y1.1))++([(⟨w1,w2⟩:Entry)].take s6++(s3.drop (0+(Int.toNat y1.1))).drop (min [(⟨w1,w2⟩:Entry)].length s6))) λs9=>
 ah (Nat.ble (0+(Int.toNat s0)) s9.length) (some ((s9.drop 0).take (Int.toNat s0))) (none)) (none)) (none)) (
 ah s12 (sh ((([] :List Entry)++w0).take (0+s2)++s16) λs5=>
 ah (Nat.ble ((0+(Int.toNat y1.1))+s6) s5.length) (sh (s5.take (0+(Int.toNat y1.1))++([(⟨w1,w2⟩:Entry)].take s6++(s5.drop (0+(Int.toNat y1.1))).drop (min [(⟨w1,w2⟩:Entry)].length s6))) λs10=>
 ah (Nat.ble (0+(Int.toNat s0)) s10.length) (some ((s10.drop 0).take (Int.toNat s0))) (none)) (none)) (none))) (none)) (none)) (none)) (none)) (none)) (none)) (none)) (none))))) (none))))
noncomputable def rj (w0:Fs):Option (Int):=
 some (List.length w0.aa:Int)
noncomputable def fI {R:Type} (x2:Int) (x4:Fs) (k0:Int->Option R):Nat->Int->Int->Option R
 |0,_,_=>none
 |n+1,x1,x3=>
  ah (decide (x3<x2)) (
  ah (decide (0<=x3)) (aj x4.aa[Int.toNat x3]? λe5=>
  ah (e5.kind==(1:Int)) (
  ah (decide (0<=x3)) (aj x4.aa[Int.toNat x3]? λe6=>(fI x2 x4 k0 n (IntKind.i64.wrap (x1+(List.length e6.data:Int))) (IntKind.i64.wrap (x3+(1:Int))))) (none)) ((fI x2 x4 k0 n x1 (IntKind.i64.wrap (x3+(1:Int)))))) (none)) ((k0 x1))
noncomputable def pF (w0:Fs):Option (Int):=
 fI (List.length w0.aa:Int) w0 (λz8=>some z8) bx (0:Int) (0:Int)
noncomputable def iS (w0:Fs) (w1:Int) (w2:Int):Option (Bool):=
 aj (rj w0) λy1=>
 ah (decide ((IntKind.i64.wrap (y1+w1))<=w0.ay)) (aj (pF w0) λy2=>some (decide ((IntKind.i64.wrap (y2+w2))<=w0.aB))) (some false)
noncomputable def eS {R:Type} (x1:List ao) (x2:Int) (k0:Int->Option R):Nat->Int->Int->Option R
 |0,_,_=>none
 |n+1,x4,x5=>
  ah (decide (x4<x5)) (
  ah (decide ((1:Int)<0)) (none) (sh (IntKind.i64.wrap (Int.fdiv (IntKind.u64.wrap (IntKind.i64.wrap (x4+x5))) (2^(min (Int.toNat (1:Int)) (IntKind.bits .u64))))) λs0=>
  ah (decide (0<=s0)) (aj x1[Int.toNat s0]? λe6=>sh ((eS x1 x2 k0 n x4 s0)) λs1=>sh ((eS x1 x2 k0 n (IntKind.i64.wrap (s0+(1:Int))) x5)) λs2=>
  ah (e6.ino !=e6.ino) (
  ah (x2 !=x2) s1 s2) (
  ah (x2 !=x2) s1 (
  ah (decide (e6.ino<x2)) s2 (
  ah (decide (e6.ino>x2)) s1 s1)))) (none))) ((k0 x4))
noncomputable def o_ (w0:Fs) (w1:Int):Option (Int×Bool):=
 eS w0.aa w1 (λz11=>
 ah (decide (z11<(List.length w0.aa:Int))) (
 ah (decide (0<=z11)) (aj w0.aa[Int.toNat z11]? λe12=>
 ah (e12.ino !=e12.ino) (
 ah (w1 !=w1) (some (z11,true)) (some (z11,false))) (
 ah (w1 !=w1) (some (z11,false)) (
 ah (decide (e12.ino<w1)) (some (z11,false)) (
 ah (decide (e12.ino>w1)) (some (z11,false)) (some (z11,true)))))) (none)) (some (z11,false))) bx (0:Int) (List.length w0.aa:Int)
noncomputable def b7 (w0:Fs) (w1:Int):Option (ao×Bool):=
 aj (o_ w0 w1) λy1=>
 ah (!y1.2) (some ((⟨0,0,0, [],0,([] :List Entry)⟩:ao),false)) (
 ah (decide (0<=y1.1)) (aj w0.aa[Int.toNat y1.1]? λe2=>some (e2,true)) (none))
noncomputable def bG (w0:Fs) (w1:ao):Option (Fs):=
 aj (o_ w0 w1.ino) λy1=>Cy w0.aa (
 ah y1.2 (
 ah (decide (0<=y1.1)) (aj ([] :List ao)[Int.toNat y1.1]? λe2=>none) (none)) (
 ah (decide (0<=y1.1/\y1.1<=(([] :List ao).length:Int))) (
 ah ((List.length [w1]:Int)==(0:Int)) (some (⟨w0.ay,w0.aB,w0.next,([] :List ao)⟩:Fs)) (
 ah (y1.1==(List.length ([] :List ao):Int)) (aS (([] :List ao).length+[w1].length) (some (⟨w0.ay,w0.aB,w0.next,[w1]⟩:Fs))) (none))) (none))) (aS (([] :List ao).length+w0.aa.length) (sh (([] :List ao)++w0.aa) λs3=>
 ah y1.2 (
 ah (decide (0<=y1.1/\y1.1<(s3.length:Int))) (aj s3[(Int.toNat y1.1)]? λe3=>some (⟨w0.ay,w0.aB,w0.next,(s3.set (Int.toNat y1.1) w1)⟩:Fs)) (none)) (sh (decide (0<=y1.1/\y1.1<=(s3.length:Int))) λs17=>
 ah s17 (
 ah ((List.length [w1]:Int)==(0:Int)) (some (⟨w0.ay,w0.aB,w0.next,s3⟩:Fs)) (
 ah (y1.1==(List.length s3:Int)) (aS (s3.length+[w1].length) (some (⟨w0.ay,w0.aB,w0.next,(s3++[w1])⟩:Fs))) (Dl s3.length λcp4=>sh (IntKind.i64.wrap ((List.length s3:Int)+(List.length [w1]:Int))) λs1=>sh (IntKind.i64.wrap (y1.1+(List.length [w1]:Int))) λs8=>sh (Int.toNat s8) λs2=>
 ah (decide (s1>(cp4:Int))) (
 ah (decide (0<=y1.1/\y1.1<=(cp4:Int))) (sh (IntKind.i64.wrap (s1 - y1.1)) λs14=>
 ah (decide (0<=s14)) (aS ((Int.toNat y1.1)+Int.toNat s14) (
 ah (Nat.ble (0+(Int.toNat y1.1)) s3.length) (
 ah (Nat.blt (cp4 - 0) ((Int.toNat y1.1)+Int.toNat s14)) (sh ((s3.drop 0).take (Int.toNat y1.1)++List.replicate (Int.toNat s14) (⟨0,0,0, [],0,([] :List Entry)⟩:ao)) λs0=>
 ah (decide (0<=y1.1/\y1.1<=(s0.length:Int))) (sh (s0.length - (Int.toNat y1.1)) λs15=>
 ah (Nat.ble ((Int.toNat y1.1)+s15) s0.length) (sh (s0.take (Int.toNat y1.1)++([w1].take s15++(s0.drop (Int.toNat y1.1)).drop (min [w1].length s15))) λs4=>
 ah (decide (0<=s8/\s8<=(s4.length:Int))) (
 ah s17 (sh (min (s3.length - (Int.toNat y1.1)) (s4.length - s2)) λs10=>
 ah (Nat.ble ((Int.toNat y1.1)+s10) s3.length) (
 ah (Nat.ble s2 s4.length) (
 ah (Nat.ble (s2+s10) s4.length) (some (⟨w0.ay,w0.aB,w0.next,(s4.take s2++(((s3.drop (Int.toNat y1.1)).take s10)++s4.drop (s2+s10)))⟩:Fs)) (none)) (none)) (none)) (none)) (none)) (none)) (none)) (none)) (none))) (none)) (none)) (
 ah (decide (0<=s1/\s1<=(cp4:Int))) (sh (decide (0<=s8/\s8<=((Int.toNat s1):Int))) λs16=>
 ah s16 (
 ah (Nat.blt 0 [w1].length) (
 ah (Nat.blt 0 s3.length) (
 ah s16 (sh (decide (0<=y1.1/\y1.1<=((Int.toNat s1):Int))) λs13=>
 ah s13 (sh ((Int.toNat s1) - (Int.toNat y1.1)) λs7=>sh (min s7 ((Int.toNat s1) - s2)) λs5=>
 ah (Nat.ble ((0+(Int.toNat y1.1))+s5) s3.length) (
 ah (Nat.ble (0+s2) s3.length) (
 ah (Nat.ble ((0+s2)+s5) s3.length) (
 ah s13 (sh (s3.take (0+s2)++(((s3.drop (0+(Int.toNat y1.1))).take s5)++s3.drop ((0+s2)+s5))) λs6=>
 ah (Nat.ble ((0+(Int.toNat y1.1))+s7) s6.length) (sh (s6.take (0+(Int.toNat y1.1))++([w1].take s7++(s6.drop (0+(Int.toNat y1.1))).drop (min [w1].length s7))) λs11=>
 ah (Nat.ble (0+(Int.toNat s1)) s11.length) (some (⟨w0.ay,w0.aB,w0.next,((s11.drop 0).take (Int.toNat s1))⟩:Fs)) (none)) (none)) (none)) (
 ah s13 (sh (s3.take (0+s2)++((s3.drop (0+(Int.toNat y1.1))).take s5)) λs9=>
 ah (Nat.ble ((0+(Int.toNat y1.1))+s7) s9.length) (sh (s9.take (0+(Int.toNat y1.1))++([w1].take s7++(s9.drop (0+(Int.toNat y1.1))).drop (min [w1].length s7))) λs12=>
 ah (Nat.ble (0+(Int.toNat s1)) s12.length) (some (⟨w0.ay,w0.aB,w0.next,((s12.drop 0).take (Int.toNat s1))⟩:Fs)) (none)) (none)) (none))) (none)) (none)) (none)) (none)) (none)) (none)) (none)) (none))))) (none))))
noncomputable def nz (w0:Fs):Option (Fs×Int):=
 Cy w0.aa (some ((⟨w0.ay,w0.aB,(IntKind.i64.wrap (w0.next+(1:Int))),([] :List ao)⟩:Fs),w0.next)) (aS (([] :List ao).length+w0.aa.length) (some ((⟨w0.ay,w0.aB,(IntKind.i64.wrap (w0.next+(1:Int))),(([] :List ao)++w0.aa)⟩:Fs),w0.next)))
noncomputable def pY (w0:Fs) (w1:Int):Option (Fs):=
 aj (o_ w0 w1) λy1=>sh (IntKind.i64.wrap (y1.1+(1:Int))) λs3=>sh (some (⟨w0.ay,w0.aB,w0.next,([] :List ao)⟩:Fs)) λs7=>Cy w0.aa (
 ah y1.2 (
 ah (decide ((List.length ([] :List ao):Int)=s3)) (sh (decide (0<=s3/\s3<=(([] :List ao).length:Int))) λs8=>
 ah s8 (
 ah (decide (0<=y1.1/\y1.1<=s3)) (
 ah (y1.1==s3) s7 (
 ah (decide (0<=y1.1/\y1.1<=(([] :List ao).length:Int))) (
 ah s8 (none) (none)) (none))) (none)) (none)) (none)) s7) (aS (([] :List ao).length+w0.aa.length) (sh (([] :List ao)++w0.aa) λs1=>sh (some (⟨w0.ay,w0.aB,w0.next,s1⟩:Fs)) λs9=>
 ah y1.2 (
 ah (decide (0<=(List.length s1:Int)/\(List.length s1:Int)<=(s1.length:Int))) (
 ah (decide (0<=s3/\s3<=(List.length s1:Int))) (
 ah (decide (0<=y1.1/\y1.1<=s3)) (
 ah (y1.1==s3) s9 (
 ah (decide (0<=y1.1/\y1.1<=(s1.length:Int))) (
 ah (decide (0<=s3/\s3<=(s1.length:Int))) (
 ah (Nat.ble ((Int.toNat s3)+(s1.length - (Int.toNat s3))) s1.length) (sh ((s1.drop (Int.toNat s3)).take (s1.length - (Int.toNat s3))) λs0=>
 ah (Nat.ble (0+(Int.toNat y1.1)+s0.length) s1.length) (sh ((Int.toNat y1.1)+s0.length) λs4=>sh (s1.take (0+(Int.toNat y1.1))++(s0++s1.drop (0+(Int.toNat y1.1)+s0.length))) λs5=>
 ah (decide (0<=(List.length s1:Int)/\(List.length s1:Int)<=((max s4 (s5.length - 0):Nat):Int))) (
 ah (decide (0<=(s4:Int)/\(s4:Int)<=(List.length s1:Int))) (sh ((Int.toNat (List.length s1:Int)) - (Int.toNat (s4:Int))) λs6=>
 ah (Nat.ble ((0+(Int.toNat (s4:Int)))+s6) s5.length) (sh (s5.take (0+(Int.toNat (s4:Int)))++(List.replicate s6 (⟨0,0,0, [],0,([] :List Entry)⟩:ao)++s5.drop ((0+(Int.toNat (s4:Int)))+s6))) λs2=>
 ah (Nat.ble (0+s4) s2.length) (some (⟨w0.ay,w0.aB,w0.next,((s2.drop 0).take s4)⟩:Fs)) (none)) (none)) (none)) (none)) (none)) (none)) (none)) (none))) (none)) (none)) (none)) s9))
noncomputable def jJ {R:Type} (x2:List Str) (x3:Int) (x5:Fs) (kr:Int->Option R) (k0:au->Option R):Nat->Int->au->Option R
 |0,_,_=>none
 |n+1,x4,x7=>
  ah (decide (x4<x3)) (
  ah (decide (0<=x4)) (aj x2[Int.toNat x4]? λe8=>aj (b7 x5 x7.ino) λy9=>
  ah (!y9.2) ((kr (1:Int))) (
  ah (y9.1.kind !=(2:Int)) ((kr (3:Int))) (aj (na y9.1.entries e8) λy10=>(jJ x2 x3 x5 kr k0 n (IntKind.i64.wrap (x4+(1:Int))) (⟨y9.1.ino,e8,y10.1⟩:au))))) (none)) ((k0 x7))
noncomputable def rp (w0:Fs) (w1:Str):Option (au×Int):=
 aj (ny w1) λy1=>
 ah (!y1.2) (some ((⟨0, [],0⟩:au),(9:Int))) (jJ y1.1 (List.length y1.1:Int) w0 (λz15=>some ((⟨((⟨0, [],0⟩:au).dir),((⟨0, [],0⟩:au).name),((⟨0, [],0⟩:au).ino)⟩:au),z15)) (λz16=>some (z16,(0:Int))) bx (0:Int) (⟨0, [],(1:Int)⟩:au))
noncomputable def cQ (w0:(List ao)):Option ((List ao)):=
 Cy w0 (some ([] :List ao)) (aS (([] :List ao).length+w0.length) (some (([] :List ao)++w0)))
noncomputable def fC (w0:(List Kept)):Option ((List Kept)):=
 Cy w0 (some ([] :List Kept)) (aS (([] :List Kept).length+w0.length) (some (([] :List Kept)++w0)))
noncomputable def nJ (w0:Fs) (w1:au) (w2:Int) (w3:Str):Option (Fs×Int):=
 sh (aj (b7 w0 w1.dir) λy3=>aj (nz w0) λy4=>
 ah (w2==(2:Int)) (aj (fN y3.1.entries w1.name y4.2) λy5=>aj (bG y4.1 (⟨y3.1.ino,y3.1.kind,y3.1.aH,y3.1.data,y3.1.parent,y5⟩:ao)) λy6=>aj (bG y6 (⟨y4.2,w2,(1:Int),w3,w1.dir,([] :List Entry)⟩:ao)) λy7=>some (y7,(0:Int))) (aj (fN y3.1.entries w1.name y4.2) λy8=>aj (bG y4.1 (⟨y3.1.ino,y3.1.kind,y3.1.aH,y3.1.data,y3.1.parent,y8⟩:ao)) λy9=>aj (bG y9 (⟨y4.2,w2,(1:Int),w3,0,([] :List Entry)⟩:ao)) λy10=>some (y10,(0:Int)))) λs0=>ah (w2==(1:Int)) (aj (nk w1.name) λy1=>
 ah (!y1) (some (w0,(9:Int))) (aj (iS w0 (1:Int) (List.length w3:Int)) λy2=>
 ah (!y2) (some (w0,(8:Int))) s0)) (aj (nk w1.name) λy11=>
 ah (!y11) (some (w0,(9:Int))) (aj (iS w0 (1:Int) (0:Int)) λy12=>
 ah (!y12) (some (w0,(8:Int))) s0))
noncomputable def rL (w0:Fs) (w1:Int) (w2:Str):Option (Fs×Int):=
 aj (b7 w0 w1) λy1=>aj (iS w0 (0:Int) (IntKind.i64.wrap ((List.length w2:Int) - (List.length y1.1.data:Int)))) λy2=>
 ah (!y2) (some (w0,(8:Int))) (aj (bG w0 (⟨y1.1.ino,y1.1.kind,y1.1.aH,w2,y1.1.parent,y1.1.entries⟩:ao)) λy3=>some (y3,(0:Int)))
noncomputable def dM (w0:Fs) (w1:au) (w2:Int):Option (Fs):=
 aj (b7 w0 w1.dir) λy1=>aj (fN y1.1.entries w1.name w2) λy2=>aj (bG w0 (⟨y1.1.ino,y1.1.kind,y1.1.aH,y1.1.data,y1.1.parent,y2⟩:ao)) λy3=>aj (b7 y3 w2) λy4=>aj (bG y3 (⟨y4.1.ino,y4.1.kind,(IntKind.i64.wrap (y4.1.aH+(1:Int))),y4.1.data,y4.1.parent,y4.1.entries⟩:ao)) λy5=>some y5
noncomputable def gE (w0:Fs) (w1:au):Option (Fs):=
 aj (b7 w0 w1.dir) λy1=>aj (fJ y1.1.entries w1.name) λy2=>aj (bG w0 (⟨y1.1.ino,y1.1.kind,y1.1.aH,y1.1.data,y1.1.parent,y2⟩:ao)) λy3=>aj (b7 y3 w1.ino) λy4=>
 ah ((IntKind.i64.wrap (y4.1.aH - (1:Int)))==(0:Int)) (aj (pY y3 y4.1.ino) λy5=>some y5) (aj (bG y3 (⟨y4.1.ino,y4.1.kind,(IntKind.i64.wrap (y4.1.aH - (1:Int))),y4.1.data,y4.1.parent,y4.1.entries⟩:ao)) λy6=>some y6)
noncomputable def sg (w0:Fs) (w1:au) (w2:au):Option (Fs):=
 ah (w2.ino !=(0:Int)) (aj (gE w0 w2) λy1=>aj (b7 y1 w1.dir) λy2=>aj (fJ y2.1.entries w1.name) λy3=>aj (bG y1 (⟨y2.1.ino,y2.1.kind,y2.1.aH,y2.1.data,y2.1.parent,y3⟩:ao)) λy4=>aj (b7 y4 w2.dir) λy5=>aj (fN y5.1.entries w2.name w1.ino) λy6=>aj (bG y4 (⟨y5.1.ino,y5.1.kind,y5.1.aH,y5.1.data,y5.1.parent,y6⟩:ao)) λy7=>aj (b7 y7 w1.ino) λy8=>
 ah (y8.1.kind==(2:Int)) (aj (bG y7 (⟨y8.1.ino,y8.1.kind,y8.1.aH,y8.1.data,w2.dir,y8.1.entries⟩:ao)) λy9=>some y9) (aj (bG y7 y8.1) λy10=>some y10)) (aj (b7 w0 w1.dir) λy11=>aj (fJ y11.1.entries w1.name) λy12=>aj (bG w0 (⟨y11.1.ino,y11.1.kind,y11.1.aH,y11.1.data,y11.1.parent,y12⟩:ao)) λy13=>aj (b7 y13 w2.dir) λy14=>aj (fN y14.1.entries w2.name w1.ino) λy15=>aj (bG y13 (⟨y14.1.ino,y14.1.kind,y14.1.aH,y14.1.data,y14.1.parent,y15⟩:ao)) λy16=>aj (b7 y16 w1.ino) λy17=>
 ah (y17.1.kind==(2:Int)) (aj (bG y16 (⟨y17.1.ino,y17.1.kind,y17.1.aH,y17.1.data,w2.dir,y17.1.entries⟩:ao)) λy18=>some y18) (aj (bG y16 y17.1) λy19=>some y19))
noncomputable def oZ (w0:Str):Option (Bool):=
 aj (ny w0) λy1=>ah y1.2 (some (decide ((List.length y1.1:Int)>(0:Int)))) (some false)
noncomputable def o0 (w0:Str):Option (Bool):=
 ah (!(w0==([] :Str))) (
 ah (decide ((List.length w0:Int)<=(4095:Int))) (
 ah (([0]:Str)==w0) (some false) (aj (stringslite_IndexByte w0 (0:Int)) λy1=>some (!(decide (y1>=(0:Int)))))) (some false)) (some false)
noncomputable def Db (w0:Opn):Option (Bool):=
 ah (decide (w0.kind<(1:Int))) (some false) (
 ah (decide (w0.kind>(10:Int))) (some false) (aj (oZ w0.a) λy1=>
 ah (!y1) (some false) (
 ah (decide (0<=w0.kind)) (aj oL[Int.toNat w0.kind]? λe2=>sh (
 ah (w0.kind !=(6:Int)) (some true) (aj (jE w0.a w0.b) λy5=>
 ah (!y5) (aj (jE w0.b w0.a) λy6=>some (!y6)) (some false))) λs2=>sh (
 ah (!e2.2.2) (
 ah (!(w0.data==([] :Str))) (some false) s2) s2) λs3=>sh (
 ah e2.2.2 (aj (o0 w0.data) λy4=>
 ah (!y4) (some false) s3) s3) λs0=>sh (
 ah (!e2.2.1) (
 ah (!(w0.b==([] :Str))) (some false) s0) s0) λs4=>sh (
 ah e2.2.1 (aj (oZ w0.b) λy3=>
 ah (!y3) (some false) s4) s4) λs1=>sh (
 ah (!e2.1) (
 ah (w0.slot !=(0:Int)) (some false) s1) s1) λs5=>
 ah e2.1 (
 ah (decide (w0.slot<(1:Int))) (some false) (
 ah (decide (w0.slot>(1073741824:Int))) (some false) s5)) s5) (none))))
noncomputable def cI {R:Type} (x1:List Kept) (x2:Int) (k0:Int->Option R):Nat->Int->Int->Option R
 |0,_,_=>none
 |n+1,x4,x5=>
  ah (decide (x4<x5)) (
  ah (decide ((1:Int)<0)) (none) (sh (IntKind.i64.wrap (Int.fdiv (IntKind.u64.wrap (IntKind.i64.wrap (x4+x5))) (2^(min (Int.toNat (1:Int)) (IntKind.bits .u64))))) λs0=>
  ah (decide (0<=s0)) (aj x1[Int.toNat s0]? λe6=>sh ((cI x1 x2 k0 n x4 s0)) λs1=>sh ((cI x1 x2 k0 n (IntKind.i64.wrap (s0+(1:Int))) x5)) λs2=>
  ah (e6.slot !=e6.slot) (
  ah (x2 !=x2) s1 s2) (
  ah (x2 !=x2) s1 (
  ah (decide (e6.slot<x2)) s2 (
  ah (decide (e6.slot>x2)) s1 s1)))) (none))) ((k0 x4))
noncomputable def jf (w0:(List Kept)) (w1:Int):Option (Int×Bool):=
 cI w0 w1 (λz11=>
 ah (decide (z11<(List.length w0:Int))) (
 ah (decide (0<=z11)) (aj w0[Int.toNat z11]? λe12=>
 ah (e12.slot !=e12.slot) (
 ah (w1 !=w1) (some (z11,true)) (some (z11,false))) (
 ah (w1 !=w1) (some (z11,false)) (
 ah (decide (e12.slot<w1)) (some (z11,false)) (
 ah (decide (e12.slot>w1)) (some (z11,false)) (some (z11,true)))))) (none)) (some (z11,false))) bx (0:Int) (List.length w0:Int)
noncomputable def iH (w0:aq) (w1:Int):Option (Kept×Bool):=
 aj (jf w0.al.kept w1) λy1=>
 ah (!y1.2) (some ((⟨0,0,false, []⟩:Kept),false)) (
 ah (decide (0<=y1.1)) (aj w0.al.kept[Int.toNat y1.1]? λe2=>some (e2,true)) (none))
noncomputable def cz {R:Type} (x1:List ao) (x2:Int) (k0:Int->Option R):Nat->Int->Int->Option R
 |0,_,_=>none
 |n+1,x4,x5=>
  ah (decide (x4<x5)) (
  ah (decide ((1:Int)<0)) (none) (sh (IntKind.i64.wrap (Int.fdiv (IntKind.u64.wrap (IntKind.i64.wrap (x4+x5))) (2^(min (Int.toNat (1:Int)) (IntKind.bits .u64))))) λs0=>
  ah (decide (0<=s0)) (aj x1[Int.toNat s0]? λe6=>sh ((cz x1 x2 k0 n x4 s0)) λs1=>sh ((cz x1 x2 k0 n (IntKind.i64.wrap (s0+(1:Int))) x5)) λs2=>
  ah (e6.ino !=e6.ino) (
  ah (x2 !=x2) s1 s2) (
  ah (x2 !=x2) s1 (
  ah (decide (e6.ino<x2)) s2 (
  ah (decide (e6.ino>x2)) s1 s1)))) (none))) ((k0 x4))
noncomputable def iu (w0:(List ao)) (w1:Int):Option (Int×Bool):=
 cz w0 w1 (λz11=>
 ah (decide (z11<(List.length w0:Int))) (
 ah (decide (0<=z11)) (aj w0[Int.toNat z11]? λe12=>
 ah (e12.ino !=e12.ino) (
 ah (w1 !=w1) (some (z11,true)) (some (z11,false))) (
 ah (w1 !=w1) (some (z11,false)) (
 ah (decide (e12.ino<w1)) (some (z11,false)) (
 ah (decide (e12.ino>w1)) (some (z11,false)) (some (z11,true)))))) (none)) (some (z11,false))) bx (0:Int) (List.length w0:Int)
noncomputable def fh (w0:aq) (w1:Kept):Option (aq):=
 aj (jf w0.al.kept w1.slot) λy1=>aj (fC w0.al.kept) λy2=>sh (decide (0<=y1.1/\y1.1<=(y2.length:Int))) λs16=>
 ah s16 (
 ah ((List.length [w1]:Int)==(0:Int)) (some (⟨w0.fs,(⟨y2,w0.al.aO⟩:du)⟩:aq)) (
 ah (y1.1==(List.length y2:Int)) (aS (y2.length+[w1].length) (some (⟨w0.fs,(⟨(y2++[w1]),w0.al.aO⟩:du)⟩:aq))) (Dl y2.length λcp3=>sh (IntKind.i64.wrap ((List.length y2:Int)+(List.length [w1]:Int))) λs1=>sh (IntKind.i64.wrap (y1.1+(List.length [w1]:Int))) λs7=>sh (Int.toNat s7) λs2=>
 ah (decide (s1>(cp3:Int))) (
 ah (decide (0<=y1.1/\y1.1<=(cp3:Int))) (sh (IntKind.i64.wrap (s1 - y1.1)) λs13=>
 ah (decide (0<=s13)) (aS ((Int.toNat y1.1)+Int.toNat s13) (
 ah (Nat.ble (0+(Int.toNat y1.1)) y2.length) (
 ah (Nat.blt (cp3 - 0) ((Int.toNat y1.1)+Int.toNat s13)) (sh ((y2.drop 0).take (Int.toNat y1.1)++List.replicate (Int.toNat s13) (⟨0,0,false, []⟩:Kept)) λs4=>
 ah (decide (0<=y1.1/\y1.1<=(s4.length:Int))) (sh (s4.length - (Int.toNat y1.1)) λs14=>
 ah (Nat.ble ((Int.toNat y1.1)+s14) s4.length) (sh (s4.take (Int.toNat y1.1)++([w1].take s14++(s4.drop (Int.toNat y1.1)).drop (min [w1].length s14))) λs0=>
 ah (decide (0<=s7/\s7<=(s0.length:Int))) (
 ah s16 (sh (min (y2.length - (Int.toNat y1.1)) (s0.length - s2)) λs9=>
 ah (Nat.ble ((Int.toNat y1.1)+s9) y2.length) (
 ah (Nat.ble s2 s0.length) (
 ah (Nat.ble (s2+s9) s0.length) (some (⟨w0.fs,(⟨(s0.take s2++(((y2.drop (Int.toNat y1.1)).take s9)++s0.drop (s2+s9))),w0.al.aO⟩:du)⟩:aq)) (none)) (none)) (none)) (none)) (none)) (none)) (none)) (none)) (none))) (none)) (none)) (
 ah (decide (0<=s1/\s1<=(cp3:Int))) (sh (decide (0<=s7/\s7<=((Int.toNat s1):Int))) λs15=>
 ah s15 (
 ah (Nat.blt 0 [w1].length) (
 ah (Nat.blt 0 y2.length) (
 ah s15 (sh (decide (0<=y1.1/\y1.1<=((Int.toNat s1):Int))) λs12=>
 ah s12 (sh ((Int.toNat s1) - (Int.toNat y1.1)) λs6=>sh (min s6 ((Int.toNat s1) - s2)) λs3=>
 ah (Nat.ble ((0+(Int.toNat y1.1))+s3) y2.length) (
 ah (Nat.ble (0+s2) y2.length) (
 ah (Nat.ble ((0+s2)+s3) y2.length) (
 ah s12 (sh (y2.take (0+s2)++(((y2.drop (0+(Int.toNat y1.1))).take s3)++y2.drop ((0+s2)+s3))) λs5=>
 ah (Nat.ble ((0+(Int.toNat y1.1))+s6) s5.length) (sh (s5.take (0+(Int.toNat y1.1))++([w1].take s6++(s5.drop (0+(Int.toNat y1.1))).drop (min [w1].length s6))) λs10=>
 ah (Nat.ble (0+(Int.toNat s1)) s10.length) (some (⟨w0.fs,(⟨((s10.drop 0).take (Int.toNat s1)),w0.al.aO⟩:du)⟩:aq)) (none)) (none)) (none)) (
 ah s12 (sh (y2.take (0+s2)++((y2.drop (0+(Int.toNat y1.1))).take s3)) λs8=>
 ah (Nat.ble ((0+(Int.toNat y1.1))+s6) s8.length) (sh (s8.take (0+(Int.toNat y1.1))++([w1].take s6++(s8.drop (0+(Int.toNat y1.1))).drop (min [w1].length s6))) λs11=>
 ah (Nat.ble (0+(Int.toNat s1)) s11.length) (some (⟨w0.fs,(⟨((s11.drop 0).take (Int.toNat s1)),w0.al.aO⟩:du)⟩:aq)) (none)) (none)) (none))) (none)) (none)) (none)) (none)) (none)) (none)) (none)) (none))))) (none)
noncomputable def ni (w0:aq) (w1:Int) (w2:au):Option (aq×Int):=
 aj (iH w0 w1) λy1=>
 ah y1.2 (some (w0,(13:Int))) (aj (b7 w0.fs w2.ino) λy2=>aj (gE w0.fs w2) λy3=>aj (b7 y3 w2.ino) λy4=>sh (⟨w1,w2.ino,false, []⟩:Kept) λs10=>
 ah (!y4.2) (aj (iu w0.al.aO y2.1.ino) λy5=>aj (cQ w0.al.aO) λy6=>sh (decide (0<=y5.1/\y5.1<=(y6.length:Int))) λs19=>
 ah s19 (sh (⟨y2.1.ino,y2.1.kind,(0:Int),y2.1.data,(0:Int),y2.1.entries⟩:ao) λs4=>sh (List.length [s4]:Int) λs0=>
 ah (s0==(0:Int)) (aj (fh (⟨y3,(⟨w0.al.kept,y6⟩:du)⟩:aq) s10) λy7=>some (y7,(0:Int))) (
 ah (y5.1==(List.length y6:Int)) (aS (y6.length+[s4].length) (aj (fh (⟨y3,(⟨w0.al.kept,(y6++[s4])⟩:du)⟩:aq) s10) λy8=>some (y8,(0:Int)))) (Dl y6.length λcp9=>sh (IntKind.i64.wrap ((List.length y6:Int)+s0)) λs3=>sh (IntKind.i64.wrap (y5.1+s0)) λs11=>sh (Int.toNat s11) λs5=>
 ah (decide (s3>(cp9:Int))) (
 ah (decide (0<=y5.1/\y5.1<=(cp9:Int))) (sh (IntKind.i64.wrap (s3 - y5.1)) λs16=>
 ah (decide (0<=s16)) (aS ((Int.toNat y5.1)+Int.toNat s16) (
 ah (Nat.ble (0+(Int.toNat y5.1)) y6.length) (
 ah (Nat.blt (cp9 - 0) ((Int.toNat y5.1)+Int.toNat s16)) (sh ((y6.drop 0).take (Int.toNat y5.1)++List.replicate (Int.toNat s16) (⟨0,0,0, [],0,([] :List Entry)⟩:ao)) λs6=>
 ah (decide (0<=y5.1/\y5.1<=(s6.length:Int))) (sh (s6.length - (Int.toNat y5.1)) λs17=>
 ah (Nat.ble ((Int.toNat y5.1)+s17) s6.length) (sh (s6.take (Int.toNat y5.1)++([s4].take s17++(s6.drop (Int.toNat y5.1)).drop (min [s4].length s17))) λs1=>
 ah (decide (0<=s11/\s11<=(s1.length:Int))) (
 ah s19 (sh (min (y6.length - (Int.toNat y5.1)) (s1.length - s5)) λs12=>
 ah (Nat.ble ((Int.toNat y5.1)+s12) y6.length) (
 ah (Nat.ble s5 s1.length) (
 ah (Nat.ble (s5+s12) s1.length) (aj (fh (⟨y3,(⟨w0.al.kept,(s1.take s5++(((y6.drop (Int.toNat y5.1)).take s12)++s1.drop (s5+s12)))⟩:du)⟩:aq) s10) λy10=>some (y10,(0:Int))) (none)) (none)) (none)) (none)) (none)) (none)) (none)) (none)) (none))) (none)) (none)) (
 ah (decide (0<=s3/\s3<=(cp9:Int))) (sh (decide (0<=s11/\s11<=((Int.toNat s3):Int))) λs18=>
 ah s18 (
 ah (Nat.blt 0 [s4].length) (
 ah (Nat.blt 0 y6.length) (
 ah s18 (sh (decide (0<=y5.1/\y5.1<=((Int.toNat s3):Int))) λs15=>
 ah s15 (sh ((Int.toNat s3) - (Int.toNat y5.1)) λs8=>sh (min s8 ((Int.toNat s3) - s5)) λs2=>
 ah (Nat.ble ((0+(Int.toNat y5.1))+s2) y6.length) (
 ah (Nat.ble (0+s5) y6.length) (
 ah (Nat.ble ((0+s5)+s2) y6.length) (
 ah s15 (sh (y6.take (0+s5)++(((y6.drop (0+(Int.toNat y5.1))).take s2)++y6.drop ((0+s5)+s2))) λs7=>
 ah (Nat.ble ((0+(Int.toNat y5.1))+s8) s7.length) (sh (s7.take (0+(Int.toNat y5.1))++([s4].take s8++(s7.drop (0+(Int.toNat y5.1))).drop (min [s4].length s8))) λs13=>
 ah (Nat.ble (0+(Int.toNat s3)) s13.length) (aj (fh (⟨y3,(⟨w0.al.kept,((s13.drop 0).take (Int.toNat s3))⟩:du)⟩:aq) s10) λy11=>some (y11,(0:Int))) (none)) (none)) (none)) (
 ah s15 (sh (y6.take (0+s5)++((y6.drop (0+(Int.toNat y5.1))).take s2)) λs9=>
 ah (Nat.ble ((0+(Int.toNat y5.1))+s8) s9.length) (sh (s9.take (0+(Int.toNat y5.1))++([s4].take s8++(s9.drop (0+(Int.toNat y5.1))).drop (min [s4].length s8))) λs14=>
 ah (Nat.ble (0+(Int.toNat s3)) s14.length) (aj (fh (⟨y3,(⟨w0.al.kept,((s14.drop 0).take (Int.toNat s3))⟩:du)⟩:aq) s10) λy12=>some (y12,(0:Int))) (none)) (none)) (none))) (none)) (none)) (none)) (none)) (none)) (none)) (none)) (none))))) (none)) (aj (fh (⟨y3,w0.al⟩:aq) s10) λy13=>some (y13,(0:Int))))
noncomputable def pN (w0:aq) (w1:Int):Option (ao×Bool):=
 aj (b7 w0.fs w1) λy1=>
 ah y1.2 (some (y1.1,true)) (aj (iu w0.al.aO w1) λy2=>
 ah (!y2.2) (some ((⟨0,0,0, [],0,([] :List Entry)⟩:ao),false)) (
 ah (decide (0<=y2.1)) (aj w0.al.aO[Int.toNat y2.1]? λe3=>some (e3,true)) (none)))
noncomputable def dK {R:Type} (x2:Int) (x5:Int) (x7:List Kept) (kr:Int->Option R) (k0:Option R):Nat->Int->Option R
 |0,_=>none
 |n+1,x3=>
  ah (decide (x3<x2)) (
  ah (decide (0<=x3/\x3<(x7.length:Int))) (aj x7[(Int.toNat x3)]? λe8=>
  ah (e8.slot==x5) ((kr x3)) ((dK x2 x5 x7 kr k0 n (IntKind.i64.wrap (x3+(1:Int)))))) (none)) ((k0))
noncomputable def dg {R:Type} (x22:Int) (k0:Int->(List Kept)->Option R):Nat->Int->Int->(List Kept)->Option R
 |0,_,_,_=>none
 |n+1,x19,x20,x24=>
  ah (decide (x20<(List.length x24:Int))) (
  ah (decide (0<=x20/\x20<(x24.length:Int))) (aj x24[(Int.toNat x20)]? λe25=>
  ah (!(e25.slot==x22)) (
  ah (decide (0<=x19/\x19<(x24.length:Int))) (aj x24[(Int.toNat x19)]? λe26=>(dg x22 k0 n (IntKind.i64.wrap (x19+(1:Int))) (IntKind.i64.wrap (x20+(1:Int))) (x24.set (Int.toNat x19) e25))) (none)) ((dg x22 k0 n x19 (IntKind.i64.wrap (x20+(1:Int))) x24))) (none)) ((k0 x19 x24))
noncomputable def bW (w0:aq) (w1:Int):Option (aq):=
 aj (fC w0.al.kept) λy1=>sh (some (⟨w0.fs,(⟨y1,w0.al.aO⟩:du)⟩:aq)) λs1=>dK (List.length y1:Int) w1 y1 (λz18=>
 ah (z18==(-1:Int)) s1 (dg w1 (λz31 z32=>
 ah (decide (0<=z31/\z31<=(z32.length:Int))) (sh (z32.length - (Int.toNat z31)) λs2=>
 ah (Nat.ble ((Int.toNat z31)+s2) z32.length) (sh (z32.take (Int.toNat z31)++(List.replicate s2 (⟨0,0,false, []⟩:Kept)++z32.drop ((Int.toNat z31)+s2))) λs0=>
 ah (decide (0<=z31/\z31<=(s0.length:Int))) (
 ah (Nat.ble (0+(Int.toNat z31)) s0.length) (some (⟨w0.fs,(⟨((s0.drop 0).take (Int.toNat z31)),w0.al.aO⟩:du)⟩:aq)) (none)) (none)) (none)) (none)) bx z18 (IntKind.i64.wrap (z18+(1:Int))) y1)) s1 bx (0:Int)
noncomputable def cv {R:Type} (x7:Int) (x14:ao) (x15:List ao) (kr:Int->Option R) (k0:Option R):Nat->Int->Option R
 |0,_=>none
 |n+1,x8=>
  ah (decide (x8<x7)) (
  ah (decide (0<=x8/\x8<(x15.length:Int))) (aj x15[(Int.toNat x8)]? λe16=>
  ah (e16.ino==x14.ino) ((kr x8)) ((cv x7 x14 x15 kr k0 n (IntKind.i64.wrap (x8+(1:Int)))))) (none)) ((k0))
noncomputable def cx {R:Type} (x43:ao) (k0:Int->(List ao)->Option R):Nat->Int->Int->(List ao)->Option R
 |0,_,_,_=>none
 |n+1,x36,x37,x44=>
  ah (decide (x37<(List.length x44:Int))) (
  ah (decide (0<=x37/\x37<(x44.length:Int))) (aj x44[(Int.toNat x37)]? λe45=>
  ah (!(e45.ino==x43.ino)) (
  ah (decide (0<=x36/\x36<(x44.length:Int))) (aj x44[(Int.toNat x36)]? λe46=>(cx x43 k0 n (IntKind.i64.wrap (x36+(1:Int))) (IntKind.i64.wrap (x37+(1:Int))) (x44.set (Int.toNat x36) e45))) (none)) ((cx x43 k0 n x36 (IntKind.i64.wrap (x37+(1:Int))) x44))) (none)) ((k0 x36 x44))
noncomputable def pQ (w0:aq) (w1:Int) (w2:au):Option (aq×Int):=
 aj (iH w0 w1) λy1=>aj (b7 w0.fs y1.1.ino) λy2=>
 ah (!y1.2) (some (w0,(13:Int))) (
 ah y1.1.content (some (w0,(13:Int))) (aj (nk w2.name) λy3=>
 ah (!y3) (some (w0,(9:Int))) (sh (
 ah (!y2.2) (aj (pN w0 y1.1.ino) λy4=>sh (⟨y4.1.ino,y4.1.kind,y4.1.aH,y4.1.data,w2.dir,y4.1.entries⟩:ao) λs3=>sh (⟨(s3.ino),(s3.kind),(s3.aH),(s3.data),(s3.parent),(s3.entries)⟩:ao) λs1=>sh (⟨0,0,0, [],0,([] :List Entry)⟩:ao) λs10=>sh (
 ah (y4.1.kind==(2:Int)) (aj (cQ w0.al.aO) λy6=>sh (aj (bG w0.fs s1) λy33=>aj (dM y33 w2 y1.1.ino) λy34=>aj (bW (⟨y34,(⟨w0.al.kept,y6⟩:du)⟩:aq) w1) λy35=>some (y35,(0:Int))) λs7=>cv (List.length y6:Int) s3 y6 (λz32=>
 ah (z32==(-1:Int)) s7 (cx s1 (λz55 z56=>
 ah (decide (0<=z55/\z55<=(z56.length:Int))) (sh (z56.length - (Int.toNat z55)) λs8=>
 ah (Nat.ble ((Int.toNat z55)+s8) z56.length) (sh (z56.take (Int.toNat z55)++(List.replicate s8 s10++z56.drop ((Int.toNat z55)+s8))) λs4=>
 ah (decide (0<=z55/\z55<=(s4.length:Int))) (aj (bG w0.fs (⟨(s1.ino),(s1.kind),(s1.aH),(s1.data),(s1.parent),(s1.entries)⟩:ao)) λy57=>aj (dM y57 w2 y1.1.ino) λy58=>
 ah (Nat.ble (0+(Int.toNat z55)) s4.length) (aj (bW (⟨y58,(⟨w0.al.kept,((s4.drop 0).take (Int.toNat z55))⟩:du)⟩:aq) w1) λy59=>some (y59,(0:Int))) (none)) (none)) (none)) (none)) bx z32 (IntKind.i64.wrap (z32+(1:Int))) y6)) s7 bx (0:Int)) (aj (cQ w0.al.aO) λy63=>sh (aj (bG w0.fs y4.1) λy65=>aj (dM y65 w2 y1.1.ino) λy66=>aj (bW (⟨y66,(⟨w0.al.kept,y63⟩:du)⟩:aq) w1) λy67=>some (y67,(0:Int))) λs6=>cv (List.length y63:Int) y4.1 y63 (λz64=>
 ah (z64==(-1:Int)) s6 (cx y4.1 (λz68 z69=>
 ah (decide (0<=z68/\z68<=(z69.length:Int))) (sh (z69.length - (Int.toNat z68)) λs9=>
 ah (Nat.ble ((Int.toNat z68)+s9) z69.length) (sh (z69.take (Int.toNat z68)++(List.replicate s9 s10++z69.drop ((Int.toNat z68)+s9))) λs5=>
 ah (decide (0<=z68/\z68<=(s5.length:Int))) (aj (bG w0.fs y4.1) λy70=>aj (dM y70 w2 y1.1.ino) λy71=>
 ah (Nat.ble (0+(Int.toNat z68)) s5.length) (aj (bW (⟨y71,(⟨w0.al.kept,((s5.drop 0).take (Int.toNat z68))⟩:du)⟩:aq) w1) λy72=>some (y72,(0:Int))) (none)) (none)) (none)) (none)) bx z64 (IntKind.i64.wrap (z64+(1:Int))) y63)) s6 bx (0:Int))) λs2=>
 ah (y4.1.kind==(1:Int)) (aj (iS w0.fs (1:Int) (List.length y4.1.data:Int)) λy5=>
 ah (!y5) (some (w0,(8:Int))) s2) (aj (iS w0.fs (1:Int) (0:Int)) λy76=>
 ah (!y76) (some (w0,(8:Int))) s2)) (aj (dM w0.fs w2 y1.1.ino) λy103=>aj (bW (⟨y103,w0.al⟩:aq) w1) λy104=>some (y104,(0:Int)))) λs0=>
 ah y2.2 (
 ah (y2.1.kind==(2:Int)) (some (w0,(9:Int))) s0) s0)))
noncomputable def j5 (w0:aq) (w1:Int):Option (aq×Int):=
 aj (iH w0 w1) λy1=>aj (b7 w0.fs y1.1.ino) λy2=>
 ah (!y1.2) (some (w0,(13:Int))) (
 ah (!y1.1.content) (some (w0,(13:Int))) (
 ah (!y2.2) (some (w0,(13:Int))) (aj (iS w0.fs (0:Int) (IntKind.i64.wrap ((List.length y1.1.data:Int) - (List.length y2.1.data:Int)))) λy3=>
 ah (!y3) (some (w0,(8:Int))) (aj (bG w0.fs (⟨y2.1.ino,y2.1.kind,y2.1.aH,y1.1.data,y2.1.parent,y2.1.entries⟩:ao)) λy4=>aj (bW (⟨y4,w0.al⟩:aq) w1) λy5=>some (y5,(0:Int))))))
noncomputable def kc (w0:aq) (w1:Int) (w2:Int):Option (aq×Int):=
 aj (iH w0 w1) λy1=>
 ah y1.2 (some (w0,(13:Int))) (aj (b7 w0.fs w2) λy2=>aj (fh w0 (⟨w1,w2,true,y2.1.data⟩:Kept)) λy3=>some (y3,(0:Int)))
noncomputable def kO (w0:Fs) (w1:Str):Option (au×Int):=
 aj (rp w0 w1) λy1=>ah (y1.2 !=(0:Int)) (some (y1.1,y1.2)) (ah (y1.1.ino !=(0:Int)) (some (y1.1,(2:Int))) (some (y1.1,(0:Int))))
noncomputable def m8 (w0:aq) (w1:Str) (w2:Int) (w3:Str):Option (aq×Int):=
 aj (kO w0.fs w1) λy1=>
 ah (y1.2 !=(0:Int)) (some (w0,y1.2)) (aj (nJ w0.fs y1.1 w2 w3) λy2=>some ((⟨y2.1,w0.al⟩:aq),y2.2))
noncomputable def ly (w0:aq) (w1:Opn):Option (aq×Int):=
 aj (m8 w0 w1.a (2:Int) ([] :Str)) λy1=>some (y1.1,y1.2)
noncomputable def gM (w0:Fs) (w1:Str):Option (au×ao×Int):=
 aj (rp w0 w1) λy1=>aj (b7 w0 y1.1.ino) λy2=>
 ah (y1.2 !=(0:Int)) (some (y1.1,y2.1,y1.2)) (
 ah (!y2.2) (some (y1.1,y2.1,(1:Int))) (some (y1.1,y2.1,(0:Int))))
noncomputable def m7 (w0:Fs) (w1:Str):Option (ao×Int):=
 aj (gM w0 w1) λy1=>
 ah (y1.2.2 !=(0:Int)) (some (y1.2.1,y1.2.2)) (
 ah (y1.2.1.kind==(2:Int)) (some (y1.2.1,(4:Int))) (
 ah (y1.2.1.kind !=(1:Int)) (some (y1.2.1,(9:Int))) (some (y1.2.1,(0:Int)))))
noncomputable def oh (w0:aq) (w1:Opn):Option (aq×Int):=
 aj (m7 w0.fs w1.a) λy1=>ah (y1.2 !=(0:Int)) (some (w0,y1.2)) (aj (m8 w0 w1.b (1:Int) y1.1.data) λy2=>some (y2.1,y2.2))
noncomputable def mU (w0:aq) (w1:Opn):Option (aq×Int):=
 aj (m7 w0.fs w1.a) λy1=>
 ah (y1.2 !=(0:Int)) (some (w0,y1.2)) (aj (m7 w0.fs w1.b) λy2=>
 ah (y2.2 !=(0:Int)) (some (w0,y2.2)) (
 ah (y1.1.ino==y2.1.ino) (some (w0,(9:Int))) (aj (kc w0 w1.slot y2.1.ino) λy3=>
 ah (y3.2 !=(0:Int)) (some (w0,y3.2)) (aj (rL y3.1.fs y2.1.ino y1.1.data) λy4=>
 ah (y4.2 !=(0:Int)) (some (w0,y4.2)) (some ((⟨y4.1,y3.1.al⟩:aq),(0:Int)))))))
noncomputable def lD (w0:aq) (w1:Opn):Option (aq×Int):=
 aj (m8 w0 w1.a (3:Int) w1.data) λy1=>some (y1.1,y1.2)
noncomputable def nN (w0:aq) (w1:Opn):Option (aq×Int):=
 aj (gM w0.fs w1.a) λy1=>
 ah (y1.2.2 !=(0:Int)) (some (w0,y1.2.2)) (
 ah (y1.2.1.kind==(2:Int)) (some (w0,(11:Int))) (aj (kO w0.fs w1.b) λy2=>
 ah (y2.2==(0:Int)) (aj (dM w0.fs y2.1 y1.2.1.ino) λy3=>some ((⟨y3,w0.al⟩:aq),y2.2)) (some (w0,y2.2))))
noncomputable def pw (w0:aq) (w1:Opn):Option (aq×Int):=
 aj (gM w0.fs w1.a) λy1=>
 ah (y1.2.2 !=(0:Int)) (some (w0,y1.2.2)) (aj (kO w0.fs w1.b) λy2=>
 ah (y2.2==(0:Int)) (aj (sg w0.fs y1.1 y2.1) λy3=>some ((⟨y3,w0.al⟩:aq),y2.2)) (some (w0,y2.2)))
noncomputable def lA (w0:aq) (w1:Opn):Option (aq×Int):=
 aj (gM w0.fs w1.a) λy1=>
 ah (y1.2.2 !=(0:Int)) (some (w0,y1.2.2)) (
 ah (decide ((List.length y1.2.1.entries:Int)>(0:Int))) (some (w0,(5:Int))) (aj (ni w0 w1.slot y1.1) λy2=>some (y2.1,y2.2)))
noncomputable def de {R:Type} (x2:List Kept) (x3:Int) (x8:ao) (kr:Int->Option R) (k0:Option R):Nat->Int->Option R
 |0,_=>none
 |n+1,x4=>
  ah (decide (x4<x3)) (
  ah (decide (0<=x4)) (aj x2[Int.toNat x4]? λe9=>
  ah (e9.ino==x8.ino) ((kr x4)) ((de x2 x3 x8 kr k0 n (IntKind.i64.wrap (x4+(1:Int)))))) (none)) ((k0))
noncomputable def n7 (w0:aq) (w1:au):Option (aq×Int):=
 aj (b7 w0.fs w1.ino) λy1=>de w0.al.kept (List.length w0.al.kept:Int) y1.1 (λz19=>
 ah (decide (z19>=(0:Int))) (
 ah (y1.1.aH==(1:Int)) (some (w0,(13:Int))) (aj (gE w0.fs w1) λy20=>some ((⟨y20,w0.al⟩:aq),(0:Int)))) (aj (gE w0.fs w1) λy21=>some ((⟨y21,w0.al⟩:aq),(0:Int)))) (aj (gE w0.fs w1) λy22=>some ((⟨y22,w0.al⟩:aq),(0:Int))) bx (0:Int)
noncomputable def lu (w0:aq) (w1:Opn):Option (aq×Int):=
 aj (gM w0.fs w1.a) λy1=>
 ah (y1.2.2 !=(0:Int)) (some (w0,y1.2.2)) (
 ah (decide ((List.length y1.2.1.entries:Int)>(0:Int))) (some (w0,(5:Int))) (aj (n7 w0 y1.1) λy2=>some (y2.1,y2.2)))
noncomputable def lF (w0:aq) (w1:Opn):Option (aq×Int):=
 aj (kO w0.fs w1.a) λy1=>ah (y1.2 !=(0:Int)) (some (w0,y1.2)) (aj (pQ w0 w1.slot y1.1) λy2=>some (y2.1,y2.2))
noncomputable def lJ (w0:aq) (w1:Opn):Option (aq×Int):=
 aj (gM w0.fs w1.a) λy1=>aj (iH w0 w1.slot) λy2=>
 ah (y1.2.2 !=(0:Int)) (some (w0,y1.2.2)) (
 ah (!y2.2) (some (w0,(13:Int))) (
 ah (!y2.1.content) (some (w0,(13:Int))) (
 ah (y2.1.ino !=y1.2.1.ino) (some (w0,(13:Int))) (aj (j5 w0 w1.slot) λy3=>some (y3.1,y3.2)))))
noncomputable def yc (w0:aq) (w1:Opn):Option (aq×Int):=
 aj (Db w1) λy1=>
 ah (!y1) (some (w0,(12:Int))) (
 ah ((1:Int)==w1.kind) (aj (ly w0 w1) λy2=>some (y2.1,y2.2)) (
 ah ((2:Int)==w1.kind) (aj (oh w0 w1) λy3=>some (y3.1,y3.2)) (
 ah ((3:Int)==w1.kind) (aj (mU w0 w1) λy4=>some (y4.1,y4.2)) (
 ah ((4:Int)==w1.kind) (aj (lD w0 w1) λy5=>some (y5.1,y5.2)) (
 ah ((5:Int)==w1.kind) (aj (nN w0 w1) λy6=>some (y6.1,y6.2)) (
 ah ((6:Int)==w1.kind) (aj (pw w0 w1) λy7=>some (y7.1,y7.2)) (
 ah ((7:Int)==w1.kind) (aj (lA w0 w1) λy8=>some (y8.1,y8.2)) (
 ah ((8:Int)==w1.kind) (aj (lu w0 w1) λy9=>some (y9.1,y9.2)) (
 ah ((9:Int)==w1.kind) (aj (lF w0 w1) λy10=>some (y10.1,y10.2)) (
 ah ((10:Int)==w1.kind) (aj (lJ w0 w1) λy11=>some (y11.1,y11.2)) (none)))))))))))
noncomputable def mW (w0:Opn):Option (Opn×Bool):=
 sh (
 ah (w0.kind==(3:Int)) (some ((⟨(10:Int),w0.slot,w0.b, [], []⟩:Opn),true)) (
 ah (w0.kind==(6:Int)) (some ((⟨(6:Int),0,w0.b,w0.a, []⟩:Opn),true)) (
 ah (w0.kind==(7:Int)) (some ((⟨(9:Int),w0.slot,w0.a, [], []⟩:Opn),true)) (some ((⟨0,0, [], [], []⟩:Opn),false))))) λs0=>sh (some ((⟨(8:Int),0,w0.b, [], []⟩:Opn),true)) λs2=>sh (
 ah (w0.kind==(2:Int)) (
 ah (w0.kind==(2:Int)) s2 s0) (
 ah (w0.kind==(5:Int)) s2 s0)) λs1=>sh (some ((⟨(8:Int),0,w0.a, [], []⟩:Opn),true)) λs3=>ah (w0.kind==(1:Int)) (
 ah (w0.kind==(1:Int)) s3 s1) (
 ah (w0.kind==(4:Int)) s3 s1)
noncomputable def jR {R:Type} (x1:Int) (x3:List Opn) (x4:Int) (k0:Int->aq->Option R) (kr:Int->Int->aq->Option R):Nat->Int->Int->aq->Option R
 |0,_,_,_=>none
 |n+1,x2,x5,x6=>
  ah (decide (x5<x4)) (
  ah (decide (0<=x5)) (aj x3[Int.toNat x5]? λe8=>
  ah (decide (x2>=x1)) ((k0 x2 x6)) (aj (yc x6 e8) λy9=>
  ah (y9.2 !=(0:Int)) ((kr x2 y9.2 x6)) ((jR x1 x3 x4 k0 kr n (IntKind.i64.wrap (x2+(1:Int))) (IntKind.i64.wrap (x5+(1:Int))) y9.1)))) (none)) ((k0 x2 x6))
noncomputable def gS (w0:aq) (w1:(List Opn)) (w2:Int):Option (aq×Int×Int):=
 jR w2 w1 (List.length w1:Int) (λz16 z17=>some (z17,z16,(0:Int))) (λz18 z19 z20=>some (z20,z18,z19)) bx (0:Int) (0:Int) w0
noncomputable def cP {R:Type} (x2:List Opn) (k0:(List Opn)->Option R):Nat->Int->(List Opn)->Option R
 |0,_,_=>none
 |n+1,x1,x3=>
  ah (decide (x1>=(0:Int))) (
  ah (decide (0<=x1)) (aj x2[Int.toNat x1]? λe4=>aj (mW e4) λy5=>
  ah y5.2 (aS (x3.length+[y5.1].length) ((cP x2 k0 n (IntKind.i64.wrap (x1 - (1:Int))) (x3++[y5.1])))) ((cP x2 k0 n (IntKind.i64.wrap (x1 - (1:Int))) x3))) (none)) ((k0 x3))
noncomputable def gW (w0:(List Opn)):Option ((List Opn)):=
 cP w0 (λz7=>some z7) bx (IntKind.i64.wrap ((List.length w0:Int) - (1:Int))) ([] :List Opn)
noncomputable def ld (w0:aq):Option (Int):=
 ah ((List.length w0.al.kept:Int)==(0:Int)) (some (0:Int)) (
 ah (decide (0<=(IntKind.i64.wrap ((List.length w0.al.kept:Int) - (1:Int))))) (aj w0.al.kept[Int.toNat (IntKind.i64.wrap ((List.length w0.al.kept:Int) - (1:Int)))]? λe1=>some e1.slot) (none))
noncomputable def iM {R:Type} (x1:Str) (kr:Option R) (k0:Option R):Nat->Int->Option R
 |0,_=>none
 |n+1,x2=>
  ah (decide (x2<(List.length x1:Int))) (
  ah (decide (0<=x2)) (aj x1[Int.toNat x2]? λc3=>
  ah ((UInt8.toNat c3:Int)==(47:Int)) ((kr)) (
  ah (decide (0<=x2)) (aj x1[Int.toNat x2]? λc4=>
  ah ((UInt8.toNat c4:Int)==(0:Int)) ((kr)) ((iM x1 kr k0 n (IntKind.i64.wrap (x2+(1:Int)))))) (none))) (none)) ((k0))
noncomputable def kI (w0:Str):Option (Bool):=
 iM w0 (some false) (
 ah (decide ((List.length w0:Int)>=(1:Int))) (
 ah (decide ((List.length w0:Int)<=(255:Int))) (
 ah (!(w0==([46]:Str))) (some (!(w0==([46,46]:Str)))) (some false)) (some false)) (some false)) bx (0:Int)
noncomputable def cS {R:Type} (x1:Str) (k0:(List Str)->Option R):Nat->Str->Int->(List Str)->Option R
 |0,_,_,_=>none
 |n+1,x2,x3,x4=>
  ah (decide (x3<=(List.length x1:Int))) (
  ah (decide (x3<(List.length x1:Int))) (
  ah (decide (0<=x3)) (aj x1[Int.toNat x3]? λc5=>
  ah ((UInt8.toNat c5:Int) !=(47:Int)) (
  ah (decide (0<=(IntKind.i64.wrap (x3+(1:Int)))/\(IntKind.i64.wrap (x3+(1:Int)))<=(x1.length:Int))) (
  ah (decide (0<=x3/\x3<=(IntKind.i64.wrap (x3+(1:Int))))) (aS (x2.length+((x1.take (Int.toNat (IntKind.i64.wrap (x3+(1:Int))))).drop (Int.toNat x3)).length) ((cS x1 k0 n (x2++((x1.take (Int.toNat (IntKind.i64.wrap (x3+(1:Int))))).drop (Int.toNat x3))) (IntKind.i64.wrap (x3+(1:Int))) x4))) (none)) (none)) (
  ah (!(x2==([] :Str))) (aS (x4.length+[x2].length) ((cS x1 k0 n ([] :Str) (IntKind.i64.wrap (x3+(1:Int))) (x4++[x2])))) ((cS x1 k0 n ([] :Str) (IntKind.i64.wrap (x3+(1:Int))) x4)))) (none)) (
  ah (!(x2==([] :Str))) (aS (x4.length+[x2].length) ((cS x1 k0 n ([] :Str) (IntKind.i64.wrap (x3+(1:Int))) (x4++[x2])))) ((cS x1 k0 n ([] :Str) (IntKind.i64.wrap (x3+(1:Int))) x4)))) ((k0 x4))
noncomputable def gC (w0:Str):Option ((List Str)):=
 cS w0 (λz7=>some z7) bx ([] :Str) (0:Int) ([] :List Str)
noncomputable def ic {R:Type} (x1:List Str) (k0:Str->Option R):Nat->Str->Int->Option R
 |0,_,_=>none
 |n+1,x2,x3=>
  ah (decide (x3<(List.length x1:Int))) (aS (x2.length+([47]:Str).length) (
  ah (decide (0<=x3)) (aj x1[Int.toNat x3]? λe4=>aS ((x2++([47]:Str)).length+e4.length) ((ic x1 k0 n ((x2++([47]:Str))++e4) (IntKind.i64.wrap (x3+(1:Int)))))) (none))) ((k0 x2))
noncomputable def pL (w0:(List Str)):Option (Str):=
 ah ((List.length w0:Int)==(0:Int)) (some ([47]:Str)) (ic w0 (λz6=>some z6) bx ([] :Str) (0:Int))
noncomputable def fa {R:Type} (x3:List Str) (kr:Option R) (k0:Option R):Nat->Int->Option R
 |0,_=>none
 |n+1,x4=>
  ah (decide (x4<(List.length x3:Int))) (
  ah (decide (0<=x4)) (aj x3[Int.toNat x4]? λe5=>aj (kI e5) λy6=>
  ah (!y6) ((kr)) ((fa x3 kr k0 n (IntKind.i64.wrap (x4+(1:Int)))))) (none)) ((k0))
noncomputable def lS (w0:Str):Option ((List Str)×Bool):=
 aj (gC w0) λy1=>fa y1 (some (([] :List Str),false)) (aj (pL y1) λy11=>
 ah (!(y11==w0)) (some (([] :List Str),false)) (some (y1,true))) bx (0:Int)
noncomputable def gZ {R:Type} (x3:List Str) (kr:Option R) (k0:Option R):Nat->Int->Option R
 |0,_=>none
 |n+1,x4=>
  ah (decide (x4<(List.length x3:Int))) (
  ah (decide (0<=x4)) (aj x3[Int.toNat x4]? λe5=>
  ah (decide ((List.length e5:Int)>(255:Int))) ((kr)) ((gZ x3 kr k0 n (IntKind.i64.wrap (x4+(1:Int)))))) (none)) ((k0))
noncomputable def jz (w0:Str):Option (Bool):=
 aj (gC w0) λy1=>gZ y1 (some true) (some (decide ((List.length w0:Int)>(4095:Int)))) bx (0:Int)
noncomputable def iz (w0:Str):Option (Pth):=
 aj (gC w0) λy1=>
 ah (decide ((List.length w0:Int)>(0:Int))) (
 ah (decide (0<=(0:Int))) (aj w0[Int.toNat (0:Int)]? λc2=>
 ah (decide ((List.length y1:Int)>(0:Int))) (
 ah (decide (0<=(IntKind.i64.wrap ((List.length w0:Int) - (1:Int))))) (aj w0[Int.toNat (IntKind.i64.wrap ((List.length w0:Int) - (1:Int)))]? λc3=>some (⟨((UInt8.toNat c2:Int)==(47:Int)),y1,((UInt8.toNat c3:Int)==(47:Int))⟩:Pth)) (none)) (some (⟨((UInt8.toNat c2:Int)==(47:Int)),y1,false⟩:Pth))) (none)) (
 ah (decide ((List.length y1:Int)>(0:Int))) (
 ah (decide (0<=(IntKind.i64.wrap ((List.length w0:Int) - (1:Int))))) (aj w0[Int.toNat (IntKind.i64.wrap ((List.length w0:Int) - (1:Int)))]? λc4=>some (⟨false,y1,((UInt8.toNat c4:Int)==(47:Int))⟩:Pth)) (none)) (some (⟨false,y1,false⟩:Pth)))
noncomputable def gu {R:Type} (x3:List Str) (x4:List Str) (kr:Option R) (k0:Option R):Nat->Int->Option R
 |0,_=>none
 |n+1,x5=>
  ah (decide (x5<(List.length x4:Int))) (
  ah (decide (0<=x5)) (aj x3[Int.toNat x5]? λe6=>
  ah (decide (0<=x5)) (aj x4[Int.toNat x5]? λe7=>
  ah (!(e6==e7)) ((kr)) ((gu x3 x4 kr k0 n (IntKind.i64.wrap (x5+(1:Int)))))) (none)) (none)) ((k0))
noncomputable def iJ (w0:Str) (w1:Str):Option (Bool):=
 aj (gC w0) λy1=>aj (gC w1) λy2=>
 ah (decide ((List.length y2:Int)>(List.length y1:Int))) (some false) (gu y1 y2 (some false) (some true) bx (0:Int))
noncomputable def ie {R:Type} (x1:List Entry) (x2:List Entry) (kr:Option R) (k0:Option R):Nat->Int->Option R
 |0,_=>none
 |n+1,x3=>
  ah (decide (x3<(List.length x1:Int))) (
  ah (decide (0<=x3)) (aj x1[Int.toNat x3]? λe4=>
  ah (decide (0<=x3)) (aj x2[Int.toNat x3]? λe5=>
  ah (!((e4.name==e5.name)&&(e4.ino==e5.ino))) ((kr)) ((ie x1 x2 kr k0 n (IntKind.i64.wrap (x3+(1:Int)))))) (none)) (none)) ((k0))
noncomputable def pJ (w0:(List Entry)) (w1:(List Entry)):Option (Bool):=
 ah ((List.length w0:Int) !=(List.length w1:Int)) (some false) (ie w0 w1 (some false) (some true) bx (0:Int))
noncomputable def eY {R:Type} (x1:List Entry) (kr:Option R) (k0:Option R):Nat->Int->Option R
 |0,_=>none
 |n+1,x2=>
  ah (decide (x2<(List.length x1:Int))) (
  ah (decide (0<=x2)) (aj x1[Int.toNat x2]? λe3=>aj (kI e3.name) λy4=>
  ah (!y4) ((kr)) (
  ah (decide (0<=x2)) (aj x1[Int.toNat x2]? λe5=>
  ah (decide (e5.ino<(1:Int))) ((kr)) (
  ah (decide (x2>(0:Int))) (
  ah (decide (0<=(IntKind.i64.wrap (x2 - (1:Int))))) (aj x1[Int.toNat (IntKind.i64.wrap (x2 - (1:Int)))]? λe6=>
  ah (decide (0<=x2)) (aj x1[Int.toNat x2]? λe7=>
  ah (!Op.bytesLess e6.name e7.name) ((kr)) ((eY x1 kr k0 n (IntKind.i64.wrap (x2+(1:Int)))))) (none)) (none)) ((eY x1 kr k0 n (IntKind.i64.wrap (x2+(1:Int))))))) (none))) (none)) ((k0))
noncomputable def oc (w0:(List Entry)):Option (Bool):=
 eY w0 (some false) (some true) bx (0:Int)
noncomputable def ib {R:Type} (x1:List Entry) (x2:Str) (kr:Int->Option R) (k0:Option R):Nat->Int->Option R
 |0,_=>none
 |n+1,x3=>
  ah (decide (x3<(List.length x1:Int))) (
  ah (decide (0<=x3)) (aj x1[Int.toNat x3]? λe4=>
  ah (e4.name==x2) (
  ah (decide (0<=x3)) (aj x1[Int.toNat x3]? λe5=>(kr e5.ino)) (none)) ((ib x1 x2 kr k0 n (IntKind.i64.wrap (x3+(1:Int)))))) (none)) ((k0))
noncomputable def kL (w0:(List Entry)) (w1:Str):Option (Int×Bool):=
 ib w0 w1 (λz8=>some (z8,true)) (some ((0:Int),false)) bx (0:Int)
noncomputable def dX {R:Type} (x1:List Entry) (x2:Str) (k0:(List Entry)->Option R):Nat->Int->(List Entry)->Option R
 |0,_,_=>none
 |n+1,x3,x4=>
  ah (decide (x3<(List.length x1:Int))) (
  ah (decide (0<=x3)) (aj x1[Int.toNat x3]? λe5=>
  ah (!(e5.name==x2)) (
  ah (decide (0<=x3)) (aj x1[Int.toNat x3]? λe6=>aS (x4.length+[e6].length) ((dX x1 x2 k0 n (IntKind.i64.wrap (x3+(1:Int))) (x4++[e6])))) (none)) ((dX x1 x2 k0 n (IntKind.i64.wrap (x3+(1:Int))) x4))) (none)) ((k0 x4))
noncomputable def eQ (w0:(List Entry)) (w1:Str):Option ((List Entry)):=
 dX w0 w1 (λz8=>some z8) bx (0:Int) ([] :List Entry)
noncomputable def eT {R:Type} (x2:Str) (x3:Int) (x4:List Entry) (k0:Bool->(List Entry)->Option R):Nat->Bool->Int->(List Entry)->Option R
 |0,_,_,_=>none
 |n+1,x5,x6,x7=>
  ah (decide (x6<(List.length x4:Int))) (
  ah (!x5) (
  ah (decide (0<=x6)) (aj x4[Int.toNat x6]? λe8=>
  ah (!(Op.bytesLess e8.name x2||e8.name==x2)) (aS (x7.length+[(⟨x2,x3⟩:Entry)].length) (
  ah (decide (0<=x6)) (aj x4[Int.toNat x6]? λe9=>aS ((x7++[(⟨x2,x3⟩:Entry)]).length+[e9].length) ((eT x2 x3 x4 k0 n true (IntKind.i64.wrap (x6+(1:Int))) ((x7++[(⟨x2,x3⟩:Entry)])++[e9])))) (none))) (
  ah (decide (0<=x6)) (aj x4[Int.toNat x6]? λe10=>aS (x7.length+[e10].length) ((eT x2 x3 x4 k0 n x5 (IntKind.i64.wrap (x6+(1:Int))) (x7++[e10])))) (none))) (none)) (
  ah (decide (0<=x6)) (aj x4[Int.toNat x6]? λe11=>aS (x7.length+[e11].length) ((eT x2 x3 x4 k0 n x5 (IntKind.i64.wrap (x6+(1:Int))) (x7++[e11])))) (none))) ((k0 x5 x7))
noncomputable def gN (w0:(List Entry)) (w1:Str) (w2:Int):Option ((List Entry)):=
 aj (eQ w0 w1) λy1=>eT w1 w2 y1 (λz16 z17=>
 ah (!z16) (aS (z17.length+[(⟨w1,w2⟩:Entry)].length) (some (z17++[(⟨w1,w2⟩:Entry)]))) (some z17)) bx false (0:Int) ([] :List Entry)
noncomputable def fS {R:Type} (x1:Int) (x3:Fs) (k0:(List ao)->Option R):Nat->Int->(List ao)->Option R
 |0,_,_=>none
 |n+1,x2,x5=>
  ah (decide (x2<(List.length x3.aa:Int))) (
  ah (decide (0<=x2)) (aj x3.aa[Int.toNat x2]? λe6=>
  ah (e6.ino !=x1) (
  ah (decide (0<=x2)) (aj x3.aa[Int.toNat x2]? λe7=>aS (x5.length+[e7].length) ((fS x1 x3 k0 n (IntKind.i64.wrap (x2+(1:Int))) (x5++[e7])))) (none)) ((fS x1 x3 k0 n (IntKind.i64.wrap (x2+(1:Int))) x5))) (none)) ((k0 x5))
noncomputable def iG (w0:Fs) (w1:Int):Option (Fs):=
 fS w1 w0 (λz11=>some (⟨w0.ay,w0.aB,w0.next,z11⟩:Fs)) bx (0:Int) ([] :List ao)
noncomputable def fH {R:Type} (x2:List ao) (x6:ao) (k0:Bool->(List ao)->Option R):Nat->Bool->Int->(List ao)->Option R
 |0,_,_,_=>none
 |n+1,x3,x4,x8=>
  ah (decide (x4<(List.length x2:Int))) (
  ah (!x3) (
  ah (decide (0<=x4)) (aj x2[Int.toNat x4]? λe9=>
  ah (decide (e9.ino>x6.ino)) (aS (x8.length+[x6].length) (
  ah (decide (0<=x4)) (aj x2[Int.toNat x4]? λe10=>aS ((x8++[x6]).length+[e10].length) ((fH x2 x6 k0 n true (IntKind.i64.wrap (x4+(1:Int))) ((x8++[x6])++[e10])))) (none))) (
  ah (decide (0<=x4)) (aj x2[Int.toNat x4]? λe11=>aS (x8.length+[e11].length) ((fH x2 x6 k0 n x3 (IntKind.i64.wrap (x4+(1:Int))) (x8++[e11])))) (none))) (none)) (
  ah (decide (0<=x4)) (aj x2[Int.toNat x4]? λe12=>aS (x8.length+[e12].length) ((fH x2 x6 k0 n x3 (IntKind.i64.wrap (x4+(1:Int))) (x8++[e12])))) (none))) ((k0 x3 x8))
noncomputable def bU (w0:Fs) (w1:ao):Option (Fs):=
 aj (iG w0 w1.ino) λy1=>fH y1.aa w1 (λz18 z19=>
 ah (!z18) (aS (z19.length+[w1].length) (some (⟨w0.ay,w0.aB,w0.next,(z19++[w1])⟩:Fs))) (some (⟨w0.ay,w0.aB,w0.next,z19⟩:Fs))) bx false (0:Int) ([] :List ao)
noncomputable def oU (w0:Int) (w1:Int):Option (Fs):=
 some (⟨w0,w1,(2:Int),[(⟨(1:Int),(2:Int),0, [],(1:Int),([] :List Entry)⟩:ao)]⟩:Fs)
noncomputable def gJ {R:Type} (x7:ao) (kr:Option R) (k2:Option R):Nat->Int->Option R
 |0,_=>none
 |n+1,x5=>
  ah (decide (x5<(List.length x7.entries:Int))) (
  ah (decide (0<=x5)) (aj x7.entries[Int.toNat x5]? λe8=>
  ah (decide ((List.length e8.name:Int)>(300:Int))) ((kr)) ((gJ x7 kr k2 n (IntKind.i64.wrap (x5+(1:Int)))))) (none)) ((k2))
noncomputable def iX {R:Type} (x2:Fs) (kr:Option R) (k0:Option R):Nat->Int->Option R
 |0,_=>none
 |n+1,x1=>
  ah (decide (x1<(List.length x2.aa:Int))) (
  ah (decide (x1<(100:Int))) (
  ah (decide (0<=x1)) (aj x2.aa[Int.toNat x1]? λe3=>
  ah (decide ((List.length e3.data:Int)>(5000:Int))) ((kr)) (
  ah (decide ((List.length e3.entries:Int)>(40:Int))) ((kr)) (gJ e3 ((kr)) ((iX x2 kr k0 n (IntKind.i64.wrap (x1+(1:Int))))) bx (0:Int)))) (none)) ((k0))) ((k0))
noncomputable def jM (w0:Fs):Option (Bool):=
 iX w0 (some false) (some (decide ((List.length w0.aa:Int)<=(40:Int)))) bx (0:Int)
noncomputable def iO {R:Type} (x1:Int) (x3:Fs) (kr:ao->Option R) (k0:Option R):Nat->Int->Option R
 |0,_=>none
 |n+1,x2=>
  ah (decide (x2<(List.length x3.aa:Int))) (
  ah (decide (0<=x2)) (aj x3.aa[Int.toNat x2]? λe5=>
  ah (e5.ino==x1) (
  ah (decide (0<=x2)) (aj x3.aa[Int.toNat x2]? λe6=>(kr e6)) (none)) ((iO x1 x3 kr k0 n (IntKind.i64.wrap (x2+(1:Int)))))) (none)) ((k0))
noncomputable def bI (w0:Fs) (w1:Int):Option (ao×Bool):=
 iO w1 w0 (λz10=>some (z10,true)) (some ((⟨0,0,0, [],0,([] :List Entry)⟩:ao),false)) bx (0:Int)
noncomputable def jh {R:Type} (x2:Fs) (kr:Option R) (k0:Option R):Nat->Int->Option R
 |0,_=>none
 |n+1,x1=>
  ah (decide (x1<(List.length x2.aa:Int))) (
  ah (decide (0<=(IntKind.i64.wrap (x1 - (1:Int))))) (aj x2.aa[Int.toNat (IntKind.i64.wrap (x1 - (1:Int)))]? λe3=>
  ah (decide (0<=x1)) (aj x2.aa[Int.toNat x1]? λe4=>
  ah (decide (e3.ino>=e4.ino)) ((kr)) ((jh x2 kr k0 n (IntKind.i64.wrap (x1+(1:Int)))))) (none)) (none)) ((k0))
noncomputable def nE (w0:Fs):Option (Bool):=
 jh w0 (some false) (some true) bx (1:Int)
noncomputable def rR (w0:ao) (w1:ao):Option (Bool):=
 ah (w0.ino==w1.ino) (
 ah (w0.kind==w1.kind) (
 ah (w0.aH==w1.aH) (
 ah (w0.data==w1.data) (
 ah (w0.parent==w1.parent) (aj (pJ w0.entries w1.entries) λy1=>some y1) (some false)) (some false)) (some false)) (some false)) (some false)
noncomputable def gX {R:Type} (x1:List ao) (x2:List ao) (kr:Option R) (k0:Option R):Nat->Int->Option R
 |0,_=>none
 |n+1,x3=>
  ah (decide (x3<(List.length x1:Int))) (
  ah (decide (0<=x3)) (aj x1[Int.toNat x3]? λe4=>
  ah (decide (0<=x3)) (aj x2[Int.toNat x3]? λe5=>aj (rR e4 e5) λy6=>
  ah (!y6) ((kr)) ((gX x1 x2 kr k0 n (IntKind.i64.wrap (x3+(1:Int)))))) (none)) (none)) ((k0))
noncomputable def nt (w0:(List ao)) (w1:(List ao)):Option (Bool):=
 ah ((List.length w0:Int) !=(List.length w1:Int)) (some false) (gX w0 w1 (some false) (some true) bx (0:Int))
noncomputable def kR (w0:Fs) (w1:Fs):Option (Bool):=
 ah (w0.ay==w1.ay) (
 ah (w0.aB==w1.aB) (
 ah (w0.next==w1.next) (aj (nt w0.aa w1.aa) λy1=>some y1) (some false)) (some false)) (some false)
noncomputable def iY {R:Type} (x1:List Opn) (kr:Option R) (k0:Option R):Nat->Int->Option R
 |0,_=>none
 |n+1,x2=>
  ah (decide (x2<(List.length x1:Int))) (
  ah (decide (x2<(200:Int))) (
  ah (decide (0<=x2)) (aj x1[Int.toNat x2]? λe3=>
  ah (decide ((List.length e3.a:Int)>(1000:Int))) ((kr)) (
  ah (decide (0<=x2)) (aj x1[Int.toNat x2]? λe4=>
  ah (decide ((List.length e4.b:Int)>(1000:Int))) ((kr)) (
  ah (decide (0<=x2)) (aj x1[Int.toNat x2]? λe5=>
  ah (decide ((List.length e5.data:Int)>(5000:Int))) ((kr)) ((iY x1 kr k0 n (IntKind.i64.wrap (x2+(1:Int)))))) (none))) (none))) (none)) ((k0))) ((k0))
noncomputable def o5 (w0:(List Opn)):Option (Bool):=
 iY w0 (some false) (some (decide ((List.length w0:Int)<=(100:Int)))) bx (0:Int)
noncomputable def jI (w0:Str):Option (Bool):=
 aj (lS w0) λy1=>ah y1.2 (some (decide ((List.length y1.1:Int)>(0:Int)))) (some false)
noncomputable def hY (w0:Int):Option (Bool):=
 ah (w0==(3:Int)) (some true) (ah (w0==(7:Int)) (some true) (ah (w0==(9:Int)) (some true) (some (w0==(10:Int)))))
noncomputable def fA {R:Type} (x1:Str) (kr:Option R) (k0:Option R):Nat->Int->Option R
 |0,_=>none
 |n+1,x2=>
  ah (decide (x2<(List.length x1:Int))) (
  ah (decide (0<=x2)) (aj x1[Int.toNat x2]? λc3=>
  ah ((UInt8.toNat c3:Int)==(0:Int)) ((kr)) ((fA x1 kr k0 n (IntKind.i64.wrap (x2+(1:Int)))))) (none)) ((k0))
noncomputable def j3 (w0:Str):Option (Bool):=
 fA w0 (some false) (
 ah (decide ((List.length w0:Int)>=(1:Int))) (some (decide ((List.length w0:Int)<=(4095:Int)))) (some false)) bx (0:Int)
noncomputable def mX (w0:Opn):Option (Bool):=
 ah (decide (w0.kind<(1:Int))) (some false) (
 ah (decide (w0.kind>(10:Int))) (some false) (aj (jI w0.a) λy1=>
 ah (!y1) (some false) (aj (hY w0.kind) λy2=>sh (
 ah (w0.kind !=(6:Int)) (some true) (aj (iJ w0.a w0.b) λy5=>
 ah (!y5) (aj (iJ w0.b w0.a) λy6=>some (!y6)) (some false))) λs3=>sh (
 ah (w0.kind==(4:Int)) (aj (j3 w0.data) λy4=>
 ah (!y4) (some false) s3) (
 ah (!(w0.data==([] :Str))) (some false) s3)) λs0=>sh (aj (jI w0.b) λy3=>
 ah (!y3) (some false) s0) λs2=>sh (
 ah (w0.kind==(2:Int)) s2 (
 ah (w0.kind==(3:Int)) s2 (
 ah (w0.kind==(5:Int)) s2 (
 ah (w0.kind==(6:Int)) s2 (
 ah (!(w0.b==([] :Str))) (some false) s0))))) λs1=>
 ah y2 (
 ah (decide (w0.slot<(1:Int))) (some false) (
 ah (decide (w0.slot>(1073741824:Int))) (some false) s1)) (
 ah (w0.slot !=(0:Int)) (some false) s1))))
noncomputable def fT {R:Type} (x1:List Opn) (kr:Option R) (k0:Option R):Nat->Int->Int->Option R
 |0,_,_=>none
 |n+1,x2,x3=>
  ah (decide (x3<(List.length x1:Int))) (
  ah (decide (0<=x3)) (aj x1[Int.toNat x3]? λe4=>aj (mX e4) λy5=>
  ah (!y5) ((kr)) (
  ah (decide (0<=x3)) (aj x1[Int.toNat x3]? λe6=>
  ah (decide (e6.kind<(6:Int))) ((kr)) (
  ah (decide (0<=x3)) (aj x1[Int.toNat x3]? λe7=>
  ah (e7.kind==(7:Int)) ((kr)) (
  ah (decide (0<=x3)) (aj x1[Int.toNat x3]? λe8=>aj (hY e8.kind) λy9=>
  ah y9 (
  ah (decide (0<=x3)) (aj x1[Int.toNat x3]? λe10=>
  ah (decide (e10.slot>=x2)) ((kr)) (
  ah (decide (0<=x3)) (aj x1[Int.toNat x3]? λe11=>(fT x1 kr k0 n e11.slot (IntKind.i64.wrap (x3+(1:Int))))) (none))) (none)) ((fT x1 kr k0 n x2 (IntKind.i64.wrap (x3+(1:Int)))))) (none))) (none))) (none))) (none)) ((k0))
noncomputable def p_ (w0:(List Opn)):Option (Bool):=
 fT w0 (some false) (some true) bx (2147483648:Int) (0:Int)
noncomputable def g_ {R:Type} (x1:List Opn) (x2:List Opn) (kr:Option R) (k0:Option R):Nat->Int->Option R
 |0,_=>none
 |n+1,x3=>
  ah (decide (x3<(List.length x1:Int))) (
  ah (decide (0<=x3)) (aj x1[Int.toNat x3]? λe4=>
  ah (decide (0<=x3)) (aj x2[Int.toNat x3]? λe5=>
  ah (!((e4.kind==e5.kind)&&((e4.slot==e5.slot)&&((e4.a==e5.a)&&((e4.b==e5.b)&&(e4.data==e5.data)))))) ((kr)) ((g_ x1 x2 kr k0 n (IntKind.i64.wrap (x3+(1:Int)))))) (none)) (none)) ((k0))
noncomputable def jy (w0:(List Opn)) (w1:(List Opn)):Option (Bool):=
 ah ((List.length w0:Int) !=(List.length w1:Int)) (some false) (g_ w0 w1 (some false) (some true) bx (0:Int))
noncomputable def fQ {R:Type} (x1:List Opn) (kr:Option R) (k0:Option R):Nat->Int->Int->Option R
 |0,_,_=>none
 |n+1,x2,x3=>
  ah (decide (x3<(List.length x1:Int))) (
  ah (decide (0<=x3)) (aj x1[Int.toNat x3]? λe4=>aj (mX e4) λy5=>
  ah (!y5) ((kr)) (
  ah (decide (0<=x3)) (aj x1[Int.toNat x3]? λe6=>
  ah (decide (e6.kind>(7:Int))) ((kr)) (
  ah (decide (0<=x3)) (aj x1[Int.toNat x3]? λe7=>aj (hY e7.kind) λy8=>
  ah y8 (
  ah (decide (0<=x3)) (aj x1[Int.toNat x3]? λe9=>
  ah (decide (e9.slot<=x2)) ((kr)) (
  ah (decide (0<=x3)) (aj x1[Int.toNat x3]? λe10=>(fQ x1 kr k0 n e10.slot (IntKind.i64.wrap (x3+(1:Int))))) (none))) (none)) ((fQ x1 kr k0 n x2 (IntKind.i64.wrap (x3+(1:Int)))))) (none))) (none))) (none)) ((k0))
noncomputable def nh (w0:(List Opn)):Option (Bool):=
 fQ w0 (some false) (some true) bx (0:Int) (0:Int)
noncomputable def fm {R:Type} (x3:Fs) (k0:Int->Option R):Nat->Int->Int->Option R
 |0,_,_=>none
 |n+1,x1,x2=>
  ah (decide (x2<(List.length x3.aa:Int))) (
  ah (decide (0<=x2)) (aj x3.aa[Int.toNat x2]? λe4=>
  ah (e4.kind==(1:Int)) (
  ah (decide (0<=x2)) (aj x3.aa[Int.toNat x2]? λe5=>(fm x3 k0 n (IntKind.i64.wrap (x1+(List.length e5.data:Int))) (IntKind.i64.wrap (x2+(1:Int))))) (none)) ((fm x3 k0 n x1 (IntKind.i64.wrap (x2+(1:Int)))))) (none)) ((k0 x1))
noncomputable def nO (w0:Fs):Option (Int):=
 fm w0 (λz7=>some z7) bx (0:Int) (0:Int)
noncomputable def fM (w0:Fs) (w1:Int) (w2:Int):Option (Bool):=
 ah (decide ((IntKind.i64.wrap ((List.length w0.aa:Int)+w1))>w0.ay)) (some false) (aj (nO w0) λy1=>some (decide ((IntKind.i64.wrap (y1+w2))<=w0.aB)))
noncomputable def gv {R:Type} (x2:Fs) (kr:Option R) (k0:Option R):Nat->Int->Option R
 |0,_=>none
 |n+1,x1=>
  ah (decide (x1<(List.length x2.aa:Int))) (
  ah (decide (0<=x1)) (aj x2.aa[Int.toNat x1]? λe3=>
  ah (decide (e3.ino<(1:Int))) ((kr)) (
  ah (decide (0<=x1)) (aj x2.aa[Int.toNat x1]? λe4=>
  ah (decide (e4.ino>=x2.next)) ((kr)) ((gv x2 kr k0 n (IntKind.i64.wrap (x1+(1:Int)))))) (none))) (none)) ((k0))
noncomputable def n4 (w0:Fs):Option (Bool):=
 ah (decide (w0.ay<(1:Int))) (some false) (
 ah (decide (w0.ay>(1073741824:Int))) (some false) (
 ah (decide (w0.aB<(0:Int))) (some false) (
 ah (decide (w0.aB>(1073741824:Int))) (some false) (
 ah (decide (w0.next>(1099511627776:Int))) (some false) (gv w0 (some false) (aj (bI w0 (1:Int)) λy7=>aj (nE w0) λy8=>
 ah y8 (
 ah y7.2 (some (y7.1.kind==(2:Int))) (some false)) (some false)) bx (0:Int))))))
noncomputable def dz {R:Type} (x8:ao) (kr:Option R) (k2:Option R):Nat->Int->Option R
 |0,_=>none
 |n+1,x6=>
  ah (decide (x6<(List.length x8.data:Int))) (
  ah (x8.kind==(3:Int)) (
  ah (decide (0<=x6)) (aj x8.data[Int.toNat x6]? λc9=>
  ah ((UInt8.toNat c9:Int)==(0:Int)) ((kr)) ((dz x8 kr k2 n (IntKind.i64.wrap (x6+(1:Int)))))) (none)) ((k2))) ((k2))
noncomputable def fx {R:Type} (x2:Fs) (kr:Option R) (k0:Option R):Nat->Int->Option R
 |0,_=>none
 |n+1,x1=>
  ah (decide (x1<(List.length x2.aa:Int))) (
  ah (decide (0<=x1)) (aj x2.aa[Int.toNat x1]? λe3=>sh (dz e3 ((kr)) ((fx x2 kr k0 n (IntKind.i64.wrap (x1+(1:Int))))) bx (0:Int)) λs3=>sh (
  ah (e3.kind==(3:Int)) (
  ah (decide ((List.length e3.data:Int)<(1:Int))) ((kr)) (
  ah (decide ((List.length e3.data:Int)>(4095:Int))) ((kr)) s3)) s3) λs1=>sh (
  ah (e3.kind==(2:Int)) (
  ah (!(e3.data==([] :Str))) ((kr)) (aj (oc e3.entries) λy4=>
  ah (!y4) ((kr)) s1)) s1) λs0=>sh (
  ah (e3.kind !=(2:Int)) (
  ah (decide ((List.length e3.entries:Int)>(0:Int))) ((kr)) (
  ah (e3.parent !=(0:Int)) ((kr)) s0)) s0) λs2=>
  ah (e3.kind !=(1:Int)) (
  ah (e3.kind !=(2:Int)) (
  ah (e3.kind !=(3:Int)) ((kr)) s2) s2) s2) (none)) ((k0))
noncomputable def mR (w0:Fs):Option (Bool):=
 fx w0 (some false) (some true) bx (0:Int)
noncomputable def eZ {R:Type} (x3:Int) (x5:Fs) (kr:Option R) (k2:Option R):Nat->Int->Option R
 |0,_=>none
 |n+1,x4=>
  ah (decide (0<=x3)) (aj x5.aa[Int.toNat x3]? λe6=>
  ah (decide (x4<(List.length e6.entries:Int))) (
  ah (decide (0<=x3)) (aj x5.aa[Int.toNat x3]? λe7=>
  ah (decide (0<=x4)) (aj e7.entries[Int.toNat x4]? λe8=>aj (bI x5 e8.ino) λy9=>
  ah (!y9.2) ((kr)) ((eZ x3 x5 kr k2 n (IntKind.i64.wrap (x4+(1:Int)))))) (none)) (none)) ((k2))) (none)
noncomputable def gj {R:Type} (x2:Fs) (kr:Option R) (k0:Option R):Nat->Int->Option R
 |0,_=>none
 |n+1,x1=>
  ah (decide (x1<(List.length x2.aa:Int))) (eZ x1 x2 ((kr)) ((gj x2 kr k0 n (IntKind.i64.wrap (x1+(1:Int))))) bx (0:Int)) ((k0))
noncomputable def nS (w0:Fs):Option (Bool):=
 gj w0 (some false) (some true) bx (0:Int)
noncomputable def ek {R:Type} (x6:Int) (x9:Int) (x11:Fs) (k2:Int->Int->Option R):Nat->Int->Int->Int->Option R
 |0,_,_,_=>none
 |n+1,x7,x8,x10=>
  ah (decide (0<=x9)) (aj x11.aa[Int.toNat x9]? λe12=>
  ah (decide (x10<(List.length e12.entries:Int))) (
  ah (decide (0<=x9)) (aj x11.aa[Int.toNat x9]? λe13=>
  ah (decide (0<=x10)) (aj e13.entries[Int.toNat x10]? λe14=>
  ah (e14.ino==x6) (
  ah (decide (0<=x9)) (aj x11.aa[Int.toNat x9]? λe15=>(ek x6 x9 x11 k2 n (IntKind.i64.wrap (x7+(1:Int))) e15.ino (IntKind.i64.wrap (x10+(1:Int))))) (none)) ((ek x6 x9 x11 k2 n x7 x8 (IntKind.i64.wrap (x10+(1:Int)))))) (none)) (none)) ((k2 x7 x8))) (none)
noncomputable def gd {R:Type} (x1:Int) (x5:Fs) (k0:Int->Int->Option R):Nat->Int->Int->Int->Option R
 |0,_,_,_=>none
 |n+1,x2,x3,x4=>
  ah (decide (x4<(List.length x5.aa:Int))) (ek x1 x4 x5 (λz21 z22=>(gd x1 x5 k0 n z21 z22 (IntKind.i64.wrap (x4+(1:Int))))) bx x2 x3 (0:Int)) ((k0 x2 x3))
noncomputable def n3 (w0:Fs) (w1:Int):Option (Int×Int):=
 gd w1 w0 (λz25 z26=>some (z25,z26)) bx (0:Int) (0:Int) (0:Int)
noncomputable def dP {R:Type} (x2:Fs) (kr:Option R) (k0:Option R):Nat->Int->Option R
 |0,_=>none
 |n+1,x1=>
  ah (decide (x1<(List.length x2.aa:Int))) (
  ah (decide (0<=x1)) (aj x2.aa[Int.toNat x1]? λe3=>aj (n3 x2 e3.ino) λy4=>
  ah (e3.aH !=y4.1) ((kr)) (
  ah (e3.ino==(1:Int)) (
  ah (y4.1 !=(0:Int)) ((kr)) (
  ah (e3.parent !=(1:Int)) ((kr)) ((dP x2 kr k0 n (IntKind.i64.wrap (x1+(1:Int))))))) (
  ah (decide (y4.1<(1:Int))) ((kr)) (
  ah (e3.kind==(2:Int)) (
  ah (y4.1 !=(1:Int)) ((kr)) (
  ah (e3.parent !=y4.2) ((kr)) ((dP x2 kr k0 n (IntKind.i64.wrap (x1+(1:Int))))))) ((dP x2 kr k0 n (IntKind.i64.wrap (x1+(1:Int))))))))) (none)) ((k0))
noncomputable def mS (w0:Fs):Option (Bool):=
 dP w0 (some false) (some true) bx (0:Int)
noncomputable def dO {R:Type} (x12:Int) (x16:List Int) (x17:ao) (k4:Bool->Option R):Nat->Bool->Int->Option R
 |0,_,_=>none
 |n+1,x13,x14=>
  ah (decide (x14<(List.length x16:Int))) (
  ah x13 ((dO x12 x16 x17 k4 n true (IntKind.i64.wrap (x14+(1:Int))))) (
  ah (decide (0<=x14/\x14<(x16.length:Int))) (aj x16[(Int.toNat x14)]? λe18=>
  ah (decide (0<=x12)) (aj x17.entries[Int.toNat x12]? λe19=>(dO x12 x16 x17 k4 n (e18==e19.ino) (IntKind.i64.wrap (x14+(1:Int))))) (none)) (none))) ((k4 x13))
noncomputable def eD {R:Type} (x10:ao) (k2:(List Int)->Option R):Nat->Int->(List Int)->Option R
 |0,_,_=>none
 |n+1,x7,x9=>
  ah (decide (x7<(List.length x10.entries:Int))) (dO x7 x9 x10 (λz26=>
  ah (!z26) (
  ah (decide (0<=x7)) (aj x10.entries[Int.toNat x7]? λe27=>aS (x9.length+[e27.ino].length) ((eD x10 k2 n (IntKind.i64.wrap (x7+(1:Int))) (x9++[e27.ino])))) (none)) ((eD x10 k2 n (IntKind.i64.wrap (x7+(1:Int))) x9))) bx false (0:Int)) ((k2 x9))
noncomputable def ix {R:Type} (x2:Fs) (k0:(List Int)->Option R):Nat->Int->(List Int)->Option R
 |0,_,_=>none
 |n+1,x1,x3=>
  ah (decide (x1<(List.length x3:Int))) (
  ah (decide (0<=x1/\x1<(x3.length:Int))) (aj x3[(Int.toNat x1)]? λe4=>aj (bI x2 e4) λy5=>eD y5.1 (λz31=>(ix x2 k0 n (IntKind.i64.wrap (x1+(1:Int))) z31)) bx (0:Int) x3) (none)) ((k0 x3))
noncomputable def nZ (w0:Fs):Option (Bool):=
 ix w0 (λz34=>some ((List.length z34:Int)==(List.length w0.aa:Int))) bx (0:Int) [(1:Int)]
noncomputable def jH (w0:Fs):Option (Int):=
 aj (n4 w0) λy1=>
 ah (!y1) (some (1:Int)) (aj (mR w0) λy2=>
 ah (!y2) (some (2:Int)) (aj (nS w0) λy3=>
 ah (!y3) (some (3:Int)) (aj (mS w0) λy4=>
 ah (!y4) (some (4:Int)) (aj (nZ w0) λy5=>
 ah (!y5) (some (5:Int)) (aj (fM w0 (0:Int) (0:Int)) λy6=>
 ah (!y6) (some (6:Int)) (some (0:Int)))))))
noncomputable def uL (w0:Fs):Option (Bool):=
 aj (jM w0) λy1=>ah y1 (aj (jH w0) λy2=>some (y2==(0:Int))) (some false)
noncomputable def jK {R:Type} (x2:List Str) (x4:Fs) (kr:Int->Option R) (k0:au->Option R):Nat->Int->au->Option R
 |0,_,_=>none
 |n+1,x3,x6=>
  ah (decide (x3<(List.length x2:Int))) (
  ah (x6.ino==(0:Int)) ((kr (1:Int))) (aj (bI x4 x6.ino) λy7=>
  ah (y7.1.kind !=(2:Int)) ((kr (3:Int))) (
  ah (decide (0<=x3)) (aj x2[Int.toNat x3]? λe8=>aj (kL y7.1.entries e8) λy9=>
  ah (decide (0<=x3)) (aj x2[Int.toNat x3]? λe10=>(jK x2 x4 kr k0 n (IntKind.i64.wrap (x3+(1:Int))) (⟨y7.1.ino,e10,y9.1⟩:au))) (none)) (none)))) ((k0 x6))
noncomputable def qY (w0:Fs) (w1:Str):Option (au×Int):=
 aj (lS w1) λy1=>
 ah (!y1.2) (some ((⟨0, [],0⟩:au),(9:Int))) (jK y1.1 w0 (λz15=>some ((⟨((⟨0, [],0⟩:au).dir),((⟨0, [],0⟩:au).name),((⟨0, [],0⟩:au).ino)⟩:au),z15)) (λz16=>some (z16,(0:Int))) bx (0:Int) (⟨0, [],(1:Int)⟩:au))
noncomputable def vS (w0:Fs) (w1:Str):Option (ao×Int):=
 aj (qY w0 w1) λy1=>
 ah (y1.2 !=(0:Int)) (some ((⟨0,0,0, [],0,([] :List Entry)⟩:ao),y1.2)) (
 ah (y1.1.ino==(0:Int)) (some ((⟨0,0,0, [],0,([] :List Entry)⟩:ao),(1:Int))) (aj (bI w0 y1.1.ino) λy2=>some (y2.1,(0:Int))))
noncomputable def tN (w0:Fs) (w1:Str):Option (Int×Int):=
 aj (vS w0 w1) λy1=>
 ah (y1.2 !=(0:Int)) (some ((0:Int),y1.2)) (
 ah (y1.1.kind !=(2:Int)) (some ((0:Int),(3:Int))) (some (y1.1.ino,(0:Int))))
noncomputable def bH:Nat->Fs->au->(List Str)->Bool->Bool->Int->Option (au×Int)
 |0=>λ_ _ _ _ _ _=>none
 |n+1=>λw0 w1 w2 w3 w4 w5=>
  ah ((List.length w2:Int)==(0:Int)) (aj (bI w0 w1.ino) λy1=>
  ah y1.2 (
  ah w4 (
  ah (y1.1.kind !=(2:Int)) (some ((⟨0, [],0⟩:au),(3:Int))) (some (w1,(0:Int)))) (some (w1,(0:Int)))) (some (w1,(0:Int)))) (
  ah (w1.ino==(0:Int)) (some ((⟨0, [],0⟩:au),(1:Int))) (aj (bI w0 w1.ino) λy2=>
  ah (y2.1.kind !=(2:Int)) (some ((⟨0, [],0⟩:au),(3:Int))) (
  ah (decide (0<=(0:Int))) (aj w2[Int.toNat (0:Int)]? λe3=>
  ah (decide (0<=(1:Int)/\(1:Int)<=(w2.length:Int))) (
  ah (e3==([46]:Str)) (aj ((bH n) w0 (⟨0, [],y2.1.ino⟩:au) (w2.drop (Int.toNat (1:Int))) w3 w4 w5) λy4=>some (y4.1,y4.2)) (
  ah (e3==([46,46]:Str)) (aj ((bH n) w0 (⟨0, [],y2.1.parent⟩:au) (w2.drop (Int.toNat (1:Int))) w3 w4 w5) λy5=>some (y5.1,y5.2)) (aj (kL y2.1.entries e3) λy6=>aj (bI w0 y6.1) λy7=>
  ah (!y6.2) (aj ((bH n) w0 (⟨y2.1.ino,e3,y6.1⟩:au) (w2.drop (Int.toNat (1:Int))) w3 w4 w5) λy8=>some (y8.1,y8.2)) (
  ah (y7.1.kind !=(3:Int)) (aj ((bH n) w0 (⟨y2.1.ino,e3,y6.1⟩:au) (w2.drop (Int.toNat (1:Int))) w3 w4 w5) λy9=>some (y9.1,y9.2)) (
  ah ((List.length (w2.drop (Int.toNat (1:Int))):Int)==(0:Int)) (
  ah (!w3) (
  ah (!w4) (aj ((bH n) w0 (⟨y2.1.ino,e3,y6.1⟩:au) (w2.drop (Int.toNat (1:Int))) w3 w4 w5) λy10=>some (y10.1,y10.2)) (
  ah (w5==(40:Int)) (some ((⟨0, [],0⟩:au),(6:Int))) (aj (jz y7.1.data) λy11=>
  ah y11 (some ((⟨0, [],0⟩:au),(7:Int))) (aj (iz y7.1.data) λy12=>
  ah y12.abs (
  ah y12.ik (
  ah ((List.length (w2.drop (Int.toNat (1:Int))):Int)==(0:Int)) (aS (([] :List Str).length+y12.names.length) (aS (y12.names.length+(w2.drop (Int.toNat (1:Int))).length) (aj ((bH n) w0 (⟨0, [],(1:Int)⟩:au) (y12.names++(w2.drop (Int.toNat (1:Int)))) w3 true (IntKind.i64.wrap (w5+(1:Int)))) λy13=>some (y13.1,y13.2)))) (aS (([] :List Str).length+y12.names.length) (aS (y12.names.length+(w2.drop (Int.toNat (1:Int))).length) (aj ((bH n) w0 (⟨0, [],(1:Int)⟩:au) (y12.names++(w2.drop (Int.toNat (1:Int)))) w3 w4 (IntKind.i64.wrap (w5+(1:Int)))) λy14=>some (y14.1,y14.2))))) (aS (([] :List Str).length+y12.names.length) (aS (y12.names.length+(w2.drop (Int.toNat (1:Int))).length) (aj ((bH n) w0 (⟨0, [],(1:Int)⟩:au) (y12.names++(w2.drop (Int.toNat (1:Int)))) w3 w4 (IntKind.i64.wrap (w5+(1:Int)))) λy15=>some (y15.1,y15.2))))) (
  ah y12.ik (
  ah ((List.length (w2.drop (Int.toNat (1:Int))):Int)==(0:Int)) (aS (([] :List Str).length+y12.names.length) (aS (y12.names.length+(w2.drop (Int.toNat (1:Int))).length) (aj ((bH n) w0 (⟨0, [],y2.1.ino⟩:au) (y12.names++(w2.drop (Int.toNat (1:Int)))) w3 true (IntKind.i64.wrap (w5+(1:Int)))) λy16=>some (y16.1,y16.2)))) (aS (([] :List Str).length+y12.names.length) (aS (y12.names.length+(w2.drop (Int.toNat (1:Int))).length) (aj ((bH n) w0 (⟨0, [],y2.1.ino⟩:au) (y12.names++(w2.drop (Int.toNat (1:Int)))) w3 w4 (IntKind.i64.wrap (w5+(1:Int)))) λy17=>some (y17.1,y17.2))))) (aS (([] :List Str).length+y12.names.length) (aS (y12.names.length+(w2.drop (Int.toNat (1:Int))).length) (aj ((bH n) w0 (⟨0, [],y2.1.ino⟩:au) (y12.names++(w2.drop (Int.toNat (1:Int)))) w3 w4 (IntKind.i64.wrap (w5+(1:Int)))) λy18=>some (y18.1,y18.2))))))))) (
  ah (w5==(40:Int)) (some ((⟨0, [],0⟩:au),(6:Int))) (aj (jz y7.1.data) λy19=>
  ah y19 (some ((⟨0, [],0⟩:au),(7:Int))) (aj (iz y7.1.data) λy20=>
  ah y20.abs (
  ah y20.ik (
  ah ((List.length (w2.drop (Int.toNat (1:Int))):Int)==(0:Int)) (aS (([] :List Str).length+y20.names.length) (aS (y20.names.length+(w2.drop (Int.toNat (1:Int))).length) (aj ((bH n) w0 (⟨0, [],(1:Int)⟩:au) (y20.names++(w2.drop (Int.toNat (1:Int)))) w3 true (IntKind.i64.wrap (w5+(1:Int)))) λy21=>some (y21.1,y21.2)))) (aS (([] :List Str).length+y20.names.length) (aS (y20.names.length+(w2.drop (Int.toNat (1:Int))).length) (aj ((bH n) w0 (⟨0, [],(1:Int)⟩:au) (y20.names++(w2.drop (Int.toNat (1:Int)))) w3 w4 (IntKind.i64.wrap (w5+(1:Int)))) λy22=>some (y22.1,y22.2))))) (aS (([] :List Str).length+y20.names.length) (aS (y20.names.length+(w2.drop (Int.toNat (1:Int))).length) (aj ((bH n) w0 (⟨0, [],(1:Int)⟩:au) (y20.names++(w2.drop (Int.toNat (1:Int)))) w3 w4 (IntKind.i64.wrap (w5+(1:Int)))) λy23=>some (y23.1,y23.2))))) (
  ah y20.ik (
  ah ((List.length (w2.drop (Int.toNat (1:Int))):Int)==(0:Int)) (aS (([] :List Str).length+y20.names.length) (aS (y20.names.length+(w2.drop (Int.toNat (1:Int))).length) (aj ((bH n) w0 (⟨0, [],y2.1.ino⟩:au) (y20.names++(w2.drop (Int.toNat (1:Int)))) w3 true (IntKind.i64.wrap (w5+(1:Int)))) λy24=>some (y24.1,y24.2)))) (aS (([] :List Str).length+y20.names.length) (aS (y20.names.length+(w2.drop (Int.toNat (1:Int))).length) (aj ((bH n) w0 (⟨0, [],y2.1.ino⟩:au) (y20.names++(w2.drop (Int.toNat (1:Int)))) w3 w4 (IntKind.i64.wrap (w5+(1:Int)))) λy25=>some (y25.1,y25.2))))) (aS (([] :List Str).length+y20.names.length) (aS (y20.names.length+(w2.drop (Int.toNat (1:Int))).length) (aj ((bH n) w0 (⟨0, [],y2.1.ino⟩:au) (y20.names++(w2.drop (Int.toNat (1:Int)))) w3 w4 (IntKind.i64.wrap (w5+(1:Int)))) λy26=>some (y26.1,y26.2))))))))) (
  ah (w5==(40:Int)) (some ((⟨0, [],0⟩:au),(6:Int))) (aj (jz y7.1.data) λy27=>
  ah y27 (some ((⟨0, [],0⟩:au),(7:Int))) (aj (iz y7.1.data) λy28=>
  ah y28.abs (
  ah y28.ik (
  ah ((List.length (w2.drop (Int.toNat (1:Int))):Int)==(0:Int)) (aS (([] :List Str).length+y28.names.length) (aS (y28.names.length+(w2.drop (Int.toNat (1:Int))).length) (aj ((bH n) w0 (⟨0, [],(1:Int)⟩:au) (y28.names++(w2.drop (Int.toNat (1:Int)))) w3 true (IntKind.i64.wrap (w5+(1:Int)))) λy29=>some (y29.1,y29.2)))) (aS (([] :List Str).length+y28.names.length) (aS (y28.names.length+(w2.drop (Int.toNat (1:Int))).length) (aj ((bH n) w0 (⟨0, [],(1:Int)⟩:au) (y28.names++(w2.drop (Int.toNat (1:Int)))) w3 w4 (IntKind.i64.wrap (w5+(1:Int)))) λy30=>some (y30.1,y30.2))))) (aS (([] :List Str).length+y28.names.length) (aS (y28.names.length+(w2.drop (Int.toNat (1:Int))).length) (aj ((bH n) w0 (⟨0, [],(1:Int)⟩:au) (y28.names++(w2.drop (Int.toNat (1:Int)))) w3 w4 (IntKind.i64.wrap (w5+(1:Int)))) λy31=>some (y31.1,y31.2))))) (
  ah y28.ik (
  ah ((List.length (w2.drop (Int.toNat (1:Int))):Int)==(0:Int)) (aS (([] :List Str).length+y28.names.length) (aS (y28.names.length+(w2.drop (Int.toNat (1:Int))).length) (aj ((bH n) w0 (⟨0, [],y2.1.ino⟩:au) (y28.names++(w2.drop (Int.toNat (1:Int)))) w3 true (IntKind.i64.wrap (w5+(1:Int)))) λy32=>some (y32.1,y32.2)))) (aS (([] :List Str).length+y28.names.length) (aS (y28.names.length+(w2.drop (Int.toNat (1:Int))).length) (aj ((bH n) w0 (⟨0, [],y2.1.ino⟩:au) (y28.names++(w2.drop (Int.toNat (1:Int)))) w3 w4 (IntKind.i64.wrap (w5+(1:Int)))) λy33=>some (y33.1,y33.2))))) (aS (([] :List Str).length+y28.names.length) (aS (y28.names.length+(w2.drop (Int.toNat (1:Int))).length) (aj ((bH n) w0 (⟨0, [],y2.1.ino⟩:au) (y28.names++(w2.drop (Int.toNat (1:Int)))) w3 w4 (IntKind.i64.wrap (w5+(1:Int)))) λy34=>some (y34.1,y34.2))))))))))))) (none)) (none))))
noncomputable def uk (w0:Fs) (w1:au) (w2:(List Str)) (w3:Bool) (w4:Bool) (w5:Int):Option (au×Int):=bH bx w0 w1 w2 w3 w4 w5
noncomputable def uc (w0:Fs) (w1:Str) (w2:Str) (w3:Bool):Option (au×Int):=
 ah (w2==([] :Str)) (some ((⟨0, [],0⟩:au),(1:Int))) (aj (jz w2) λy1=>
 ah y1 (some ((⟨0, [],0⟩:au),(7:Int))) (aj (iz w2) λy2=>
 ah (!y2.abs) (aj (tN w0 w1) λy3=>
 ah (y3.2 !=(0:Int)) (some ((⟨0, [],0⟩:au),y3.2)) (aj (uk w0 (⟨0, [],y3.1⟩:au) y2.names w3 y2.ik (0:Int)) λy4=>some (y4.1,y4.2))) (aj (uk w0 (⟨0, [],(1:Int)⟩:au) y2.names w3 y2.ik (0:Int)) λy5=>some (y5.1,y5.2))))
noncomputable def jw (w0:Fs) (w1:au) (w2:Int):Option (Fs):=
 aj (bI w0 w1.dir) λy1=>aj (bI w0 w2) λy2=>aj (gN y1.1.entries w1.name w2) λy3=>aj (bU w0 (⟨y1.1.ino,y1.1.kind,y1.1.aH,y1.1.data,y1.1.parent,y3⟩:ao)) λy4=>aj (bU y4 (⟨y2.1.ino,y2.1.kind,(IntKind.i64.wrap (y2.1.aH+(1:Int))),y2.1.data,y2.1.parent,y2.1.entries⟩:ao)) λy5=>some y5
noncomputable def iQ (w0:Fs) (w1:au):Option (Fs):=
 aj (bI w0 w1.dir) λy1=>aj (bI w0 w1.ino) λy2=>aj (eQ y1.1.entries w1.name) λy3=>aj (bU w0 (⟨y1.1.ino,y1.1.kind,y1.1.aH,y1.1.data,y1.1.parent,y3⟩:ao)) λy4=>
 ah ((IntKind.i64.wrap (y2.1.aH - (1:Int)))==(0:Int)) (aj (iG y4 w1.ino) λy5=>some y5) (aj (bU y4 (⟨y2.1.ino,y2.1.kind,(IntKind.i64.wrap (y2.1.aH - (1:Int))),y2.1.data,y2.1.parent,y2.1.entries⟩:ao)) λy6=>some y6)
noncomputable def hZ {R:Type} (x4:aq) (x5:aq) (kr:Option R) (k0:Option R):Nat->Int->Option R
 |0,_=>none
 |n+1,x3=>
  ah (decide (x3<(List.length x4.al.kept:Int))) (
  ah (decide (0<=x3)) (aj x4.al.kept[Int.toNat x3]? λe6=>
  ah (decide (0<=x3)) (aj x5.al.kept[Int.toNat x3]? λe7=>
  ah (!((e6.slot==e7.slot)&&((e6.ino==e7.ino)&&((e6.content==e7.content)&&(e6.data==e7.data))))) ((kr)) ((hZ x4 x5 kr k0 n (IntKind.i64.wrap (x3+(1:Int)))))) (none)) (none)) ((k0))
noncomputable def dG (w0:aq) (w1:aq):Option (Bool):=
 aj (kR w0.fs w1.fs) λy1=>
 ah (!y1) (some false) (aj (nt w0.al.aO w1.al.aO) λy2=>
 ah (!y2) (some false) (
 ah ((List.length w0.al.kept:Int) !=(List.length w1.al.kept:Int)) (some false) (hZ w0 w1 (some false) (some true) bx (0:Int))))
noncomputable def eK (w0:aq):Option (Fs):=
 some (⟨0,0,0,w0.al.aO⟩:Fs)
noncomputable def iR {R:Type} (x2:aq) (kr:Option R) (k0:Option R):Nat->Int->Option R
 |0,_=>none
 |n+1,x1=>
  ah (decide (x1<(List.length x2.al.kept:Int))) (
  ah (decide (x1<(100:Int))) (
  ah (decide (0<=x1)) (aj x2.al.kept[Int.toNat x1]? λe3=>
  ah (decide ((List.length e3.data:Int)>(5000:Int))) ((kr)) ((iR x2 kr k0 n (IntKind.i64.wrap (x1+(1:Int)))))) (none)) ((k0))) ((k0))
noncomputable def se (w0:aq):Option (Bool):=
 iR w0 (some false) (aj (jM w0.fs) λy6=>
 ah y6 (aj (eK w0) λy7=>aj (jM y7) λy8=>
 ah y8 (some (decide ((List.length w0.al.kept:Int)<=(40:Int)))) (some false)) (some false)) bx (0:Int)
noncomputable def cY {R:Type} (x4:ao) (kr:Option R) (k0:Option R):Nat->Int->Option R
 |0,_=>none
 |n+1,x2=>
  ah (decide (x2<(List.length x4.data:Int))) (
  ah (x4.kind==(3:Int)) (
  ah (decide (0<=x2)) (aj x4.data[Int.toNat x2]? λc5=>
  ah ((UInt8.toNat c5:Int)==(0:Int)) ((kr)) ((cY x4 kr k0 n (IntKind.i64.wrap (x2+(1:Int)))))) (none)) ((k0))) ((k0))
noncomputable def cF {R:Type} (x11:aq) (x12:ao) (k2:Bool->Option R):Nat->Bool->Int->Option R
 |0,_,_=>none
 |n+1,x9,x10=>
  ah (decide (x10<(List.length x11.al.kept:Int))) (
  ah x9 ((cF x11 x12 k2 n true (IntKind.i64.wrap (x10+(1:Int))))) (
  ah (decide (0<=x10)) (aj x11.al.kept[Int.toNat x10]? λe13=>
  ah (e13.ino==x12.ino) (
  ah (decide (0<=x10)) (aj x11.al.kept[Int.toNat x10]? λe14=>(cF x11 x12 k2 n (!e14.content) (IntKind.i64.wrap (x10+(1:Int))))) (none)) ((cF x11 x12 k2 n false (IntKind.i64.wrap (x10+(1:Int)))))) (none))) ((k2 x9))
noncomputable def mH (w0:aq) (w1:ao):Option (Bool):=
 aj (bI w0.fs w1.ino) λy1=>
 ah y1.2 (some false) (
 ah (decide (w1.ino<(1:Int))) (some false) (
 ah (decide (w1.ino>=w0.fs.next)) (some false) (
 ah (w1.aH !=(0:Int)) (some false) (
 ah (w1.parent !=(0:Int)) (some false) (
 ah ((List.length w1.entries:Int) !=(0:Int)) (some false) (
 ah (decide (w1.kind<(1:Int))) (some false) (
 ah (decide (w1.kind>(3:Int))) (some false) (sh (cY w1 (some false) (cF w0 w1 (λz16=>some z16) bx false (0:Int)) bx (0:Int)) λs1=>sh (
 ah (w1.kind==(3:Int)) (
 ah (decide ((List.length w1.data:Int)<(1:Int))) (some false) (
 ah (decide ((List.length w1.data:Int)>(4095:Int))) (some false) s1)) s1) λs0=>
 ah (w1.kind==(2:Int)) (
 ah (!(w1.data==([] :Str))) (some false) s0) s0))))))))
noncomputable def f_ {R:Type} (x5:aq) (kr:Option R) (k0:Option R):Nat->Int->Option R
 |0,_=>none
 |n+1,x4=>
  ah (decide (x4<(List.length x5.al.aO:Int))) (
  ah (decide (0<=x4)) (aj x5.al.aO[Int.toNat x4]? λe6=>aj (mH x5 e6) λy7=>
  ah (!y7) ((kr)) ((f_ x5 kr k0 n (IntKind.i64.wrap (x4+(1:Int)))))) (none)) ((k0))
noncomputable def eH {R:Type} (x12:aq) (kr:Option R) (k2:Option R):Nat->Int->Int->Option R
 |0,_,_=>none
 |n+1,x10,x11=>
  ah (decide (x11<(List.length x12.al.kept:Int))) (
  ah (decide (0<=x11)) (aj x12.al.kept[Int.toNat x11]? λe13=>aj (bI x12.fs e13.ino) λy14=>aj (eK x12) λy15=>aj (bI y15 e13.ino) λy16=>
  ah (decide (e13.slot<=x10)) ((kr)) (
  ah (decide (e13.slot>(1073741824:Int))) ((kr)) (sh ((eH x12 kr k2 n e13.slot (IntKind.i64.wrap (x11+(1:Int))))) λs2=>sh (
  ah (!e13.content) (
  ah (!(e13.data==([] :Str))) ((kr)) s2) s2) λs0=>sh (
  ah y16.2 (
  ah e13.content (
  ah (y16.1.kind !=(1:Int)) ((kr)) s0) s0) (
  ah e13.content (
  ah (y14.1.kind !=(1:Int)) ((kr)) s0) s0)) λs1=>
  ah (!y14.2) (
  ah (!y16.2) ((kr)) s1) s1))) (none)) ((k2))
noncomputable def nR (w0:aq):Option (Bool):=
 aj (jH w0.fs) λy1=>
 ah (y1 !=(0:Int)) (some false) (aj (eK w0) λy2=>aj (nE y2) λy3=>
 ah (!y3) (some false) (f_ w0 (some false) (eH w0 (some false) (some true) bx (0:Int) (0:Int)) bx (0:Int)))
noncomputable def rF (w0:aq):Option (Bool):=
 aj (se w0) λy1=>ah y1 (aj (nR w0) λy2=>some y2) (some false)
noncomputable def hJ {R:Type} (x1:Int) (x3:aq) (kr:Kept->Option R) (k0:Option R):Nat->Int->Option R
 |0,_=>none
 |n+1,x2=>
  ah (decide (x2<(List.length x3.al.kept:Int))) (
  ah (decide (0<=x2)) (aj x3.al.kept[Int.toNat x2]? λe5=>
  ah (e5.slot==x1) (
  ah (decide (0<=x2)) (aj x3.al.kept[Int.toNat x2]? λe6=>(kr e6)) (none)) ((hJ x1 x3 kr k0 n (IntKind.i64.wrap (x2+(1:Int)))))) (none)) ((k0))
noncomputable def iL (w0:aq) (w1:Int):Option (Kept×Bool):=
 hJ w1 w0 (λz10=>some (z10,true)) (some ((⟨0,0,false, []⟩:Kept),false)) bx (0:Int)
noncomputable def eX {R:Type} (x3:aq) (x4:Kept) (k0:Bool->(List Kept)->Option R):Nat->Bool->Int->(List Kept)->Option R
 |0,_,_,_=>none
 |n+1,x1,x2,x6=>
  ah (decide (x2<(List.length x3.al.kept:Int))) (
  ah (!x1) (
  ah (decide (0<=x2)) (aj x3.al.kept[Int.toNat x2]? λe7=>
  ah (decide (e7.slot>x4.slot)) (aS (x6.length+[x4].length) (
  ah (decide (0<=x2)) (aj x3.al.kept[Int.toNat x2]? λe8=>aS ((x6++[x4]).length+[e8].length) ((eX x3 x4 k0 n true (IntKind.i64.wrap (x2+(1:Int))) ((x6++[x4])++[e8])))) (none))) (
  ah (decide (0<=x2)) (aj x3.al.kept[Int.toNat x2]? λe9=>aS (x6.length+[e9].length) ((eX x3 x4 k0 n x1 (IntKind.i64.wrap (x2+(1:Int))) (x6++[e9])))) (none))) (none)) (
  ah (decide (0<=x2)) (aj x3.al.kept[Int.toNat x2]? λe10=>aS (x6.length+[e10].length) ((eX x3 x4 k0 n x1 (IntKind.i64.wrap (x2+(1:Int))) (x6++[e10])))) (none))) ((k0 x1 x6))
noncomputable def kX (w0:aq) (w1:Kept):Option (aq):=
 eX w0 w1 (λz16 z17=>
 ah (!z16) (aS (z17.length+[w1].length) (some (⟨w0.fs,(⟨(z17++[w1]),w0.al.aO⟩:du)⟩:aq))) (some (⟨w0.fs,(⟨z17,w0.al.aO⟩:du)⟩:aq))) bx false (0:Int) ([] :List Kept)
noncomputable def nw (w0:aq) (w1:Int) (w2:au):Option (aq×Int):=
 aj (iL w0 w1) λy1=>
 ah y1.2 (some (w0,(13:Int))) (aj (bI w0.fs w2.ino) λy2=>aj (iQ w0.fs w2) λy3=>
 ah (y2.1.aH==(1:Int)) (aj (eK (⟨y3,w0.al⟩:aq)) λy4=>aj (bU y4 (⟨y2.1.ino,y2.1.kind,(0:Int),y2.1.data,(0:Int),y2.1.entries⟩:ao)) λy5=>aj (kX (⟨y3,(⟨w0.al.kept,y5.aa⟩:du)⟩:aq) (⟨w1,w2.ino,false, []⟩:Kept)) λy6=>some (y6,(0:Int))) (aj (kX (⟨y3,w0.al⟩:aq) (⟨w1,w2.ino,false, []⟩:Kept)) λy7=>some (y7,(0:Int))))
noncomputable def dZ {R:Type} (x1:Int) (x3:aq) (k0:(List Kept)->Option R):Nat->Int->(List Kept)->Option R
 |0,_,_=>none
 |n+1,x2,x5=>
  ah (decide (x2<(List.length x3.al.kept:Int))) (
  ah (decide (0<=x2)) (aj x3.al.kept[Int.toNat x2]? λe6=>
  ah (e6.slot !=x1) (
  ah (decide (0<=x2)) (aj x3.al.kept[Int.toNat x2]? λe7=>aS (x5.length+[e7].length) ((dZ x1 x3 k0 n (IntKind.i64.wrap (x2+(1:Int))) (x5++[e7])))) (none)) ((dZ x1 x3 k0 n (IntKind.i64.wrap (x2+(1:Int))) x5))) (none)) ((k0 x5))
noncomputable def eV (w0:aq) (w1:Int):Option (aq):=
 dZ w1 w0 (λz11=>some (⟨w0.fs,(⟨z11,w0.al.aO⟩:du)⟩:aq)) bx (0:Int) ([] :List Kept)
noncomputable def pX (w0:aq) (w1:Int) (w2:au):Option (aq×Int):=
 aj (iL w0 w1) λy1=>
 ah (!y1.2) (some (w0,(13:Int))) (
 ah y1.1.content (some (w0,(13:Int))) (aj (bI w0.fs y1.1.ino) λy2=>aj (kI w2.name) λy3=>
 ah (!y3) (some (w0,(9:Int))) (sh (
 ah (!y2.2) (aj (eK w0) λy4=>aj (bI y4 y1.1.ino) λy5=>sh (
 ah (y5.1.kind==(2:Int)) (aj (bU w0.fs (⟨y5.1.ino,y5.1.kind,y5.1.aH,y5.1.data,w2.dir,y5.1.entries⟩:ao)) λy7=>aj (eK (⟨y7,w0.al⟩:aq)) λy8=>aj (iG y8 y1.1.ino) λy9=>aj (jw y7 w2 y1.1.ino) λy10=>aj (eV (⟨y10,(⟨w0.al.kept,y9.aa⟩:du)⟩:aq) w1) λy11=>some (y11,(0:Int))) (aj (bU w0.fs y5.1) λy12=>aj (eK (⟨y12,w0.al⟩:aq)) λy13=>aj (iG y13 y1.1.ino) λy14=>aj (jw y12 w2 y1.1.ino) λy15=>aj (eV (⟨y15,(⟨w0.al.kept,y14.aa⟩:du)⟩:aq) w1) λy16=>some (y16,(0:Int)))) λs1=>
 ah (y5.1.kind==(1:Int)) (aj (fM w0.fs (1:Int) (List.length y5.1.data:Int)) λy6=>
 ah (!y6) (some (w0,(8:Int))) s1) (aj (fM w0.fs (1:Int) (0:Int)) λy17=>
 ah (!y17) (some (w0,(8:Int))) s1)) (aj (jw w0.fs w2 y1.1.ino) λy28=>aj (eV (⟨y28,w0.al⟩:aq) w1) λy29=>some (y29,(0:Int)))) λs0=>
 ah y2.2 (
 ah (y2.1.kind==(2:Int)) (some (w0,(9:Int))) s0) s0)))
noncomputable def j4 (w0:aq) (w1:Int):Option (aq×Int):=
 aj (iL w0 w1) λy1=>aj (bI w0.fs y1.1.ino) λy2=>
 ah (!y1.2) (some (w0,(13:Int))) (
 ah (!y1.1.content) (some (w0,(13:Int))) (
 ah (!y2.2) (some (w0,(13:Int))) (aj (fM w0.fs (0:Int) (IntKind.i64.wrap ((List.length y1.1.data:Int) - (List.length y2.1.data:Int)))) λy3=>
 ah (!y3) (some (w0,(8:Int))) (aj (bU w0.fs (⟨y2.1.ino,y2.1.kind,y2.1.aH,y1.1.data,y2.1.parent,y2.1.entries⟩:ao)) λy4=>aj (eV (⟨y4,w0.al⟩:aq) w1) λy5=>some (y5,(0:Int))))))
noncomputable def kf (w0:aq) (w1:Int) (w2:Int):Option (aq×Int):=
 aj (iL w0 w1) λy1=>
 ah y1.2 (some (w0,(13:Int))) (aj (bI w0.fs w2) λy2=>aj (kX w0 (⟨w1,w2,true,y2.1.data⟩:Kept)) λy3=>some (y3,(0:Int)))
noncomputable def kY (w0:Fs) (w1:au) (w2:Int) (w3:Str):Option (Fs×Int):=
 aj (kI w1.name) λy1=>
 ah (!y1) (some (w0,(9:Int))) (sh (aj (bI w0 w1.dir) λy3=>aj (gN y3.1.entries w1.name w0.next) λy4=>sh (bU w0 (⟨y3.1.ino,y3.1.kind,y3.1.aH,y3.1.data,y3.1.parent,y4⟩:ao)) λs1=>
 ah (w2==(2:Int)) (aj s1 λy5=>aj (bU y5 (⟨w0.next,w2,(1:Int),w3,w1.dir,([] :List Entry)⟩:ao)) λy6=>some ((⟨y6.ay,y6.aB,(IntKind.i64.wrap (y6.next+(1:Int))),y6.aa⟩:Fs),(0:Int))) (aj s1 λy7=>aj (bU y7 (⟨w0.next,w2,(1:Int),w3,0,([] :List Entry)⟩:ao)) λy8=>some ((⟨y8.ay,y8.aB,(IntKind.i64.wrap (y8.next+(1:Int))),y8.aa⟩:Fs),(0:Int)))) λs0=>
 ah (w2==(1:Int)) (aj (fM w0 (1:Int) (List.length w3:Int)) λy2=>
 ah (!y2) (some (w0,(8:Int))) s0) (aj (fM w0 (1:Int) (0:Int)) λy9=>
 ah (!y9) (some (w0,(8:Int))) s0))
noncomputable def wu (w0:Fs) (w1:Str) (w2:Str) (w3:Int) (w4:Str) (w5:Int):Option (Fs×Int):=
 aj (uc w0 w1 w2 false) λy1=>
 ah (y1.2 !=(0:Int)) (some (w0,y1.2)) (
 ah (y1.1.ino !=(0:Int)) (some (w0,(2:Int))) (
 ah (w5 !=(0:Int)) (aj (iz w2) λy2=>
 ah y2.ik (some (w0,w5)) (aj (kY w0 y1.1 w3 w4) λy3=>some (y3.1,y3.2))) (aj (kY w0 y1.1 w3 w4) λy4=>some (y4.1,y4.2))))
noncomputable def pe (w0:Fs) (w1:Int) (w2:Str):Option (Fs×Int):=
 aj (bI w0 w1) λy1=>aj (fM w0 (0:Int) (IntKind.i64.wrap ((List.length w2:Int) - (List.length y1.1.data:Int)))) λy2=>
 ah (!y2) (some (w0,(8:Int))) (aj (bU w0 (⟨y1.1.ino,y1.1.kind,y1.1.aH,w2,y1.1.parent,y1.1.entries⟩:ao)) λy3=>some (y3,(0:Int)))
noncomputable def pH (w0:Fs) (w1:au) (w2:au):Option (Fs):=
 ah (w2.ino !=(0:Int)) (aj (iQ w0 w2) λy1=>aj (bI y1 w1.dir) λy2=>aj (eQ y2.1.entries w1.name) λy3=>aj (bU y1 (⟨y2.1.ino,y2.1.kind,y2.1.aH,y2.1.data,y2.1.parent,y3⟩:ao)) λy4=>aj (bI y4 w2.dir) λy5=>aj (gN y5.1.entries w2.name w1.ino) λy6=>aj (bU y4 (⟨y5.1.ino,y5.1.kind,y5.1.aH,y5.1.data,y5.1.parent,y6⟩:ao)) λy7=>aj (bI y7 w1.ino) λy8=>
 ah (y8.1.kind==(2:Int)) (aj (bU y7 (⟨y8.1.ino,y8.1.kind,y8.1.aH,y8.1.data,w2.dir,y8.1.entries⟩:ao)) λy9=>some y9) (some y7)) (aj (bI w0 w1.dir) λy10=>aj (eQ y10.1.entries w1.name) λy11=>aj (bU w0 (⟨y10.1.ino,y10.1.kind,y10.1.aH,y10.1.data,y10.1.parent,y11⟩:ao)) λy12=>aj (bI y12 w2.dir) λy13=>aj (gN y13.1.entries w2.name w1.ino) λy14=>aj (bU y12 (⟨y13.1.ino,y13.1.kind,y13.1.aH,y13.1.data,y13.1.parent,y14⟩:ao)) λy15=>aj (bI y15 w1.ino) λy16=>
 ah (y16.1.kind==(2:Int)) (aj (bU y15 (⟨y16.1.ino,y16.1.kind,y16.1.aH,y16.1.data,w2.dir,y16.1.entries⟩:ao)) λy17=>some y17) (some y15))
noncomputable def iB (w0:Fs) (w1:Str) (w2:Int):Option (au×ao×Int):=
 aj (qY w0 w1) λy1=>aj (bI w0 y1.1.ino) λy2=>
 ah (y1.2==(0:Int)) (
 ah (w2==(1:Int)) (
 ah (!y2.2) (some (y1.1,y2.1,(1:Int))) (
 ah (y1.2==(0:Int)) (
 ah (w2==(0:Int)) (
 ah y2.2 (some (y1.1,y2.1,(2:Int))) (some (y1.1,y2.1,y1.2))) (some (y1.1,y2.1,y1.2))) (some (y1.1,y2.1,y1.2)))) (
 ah (y1.2==(0:Int)) (
 ah (w2==(0:Int)) (
 ah y2.2 (some (y1.1,y2.1,(2:Int))) (some (y1.1,y2.1,y1.2))) (some (y1.1,y2.1,y1.2))) (some (y1.1,y2.1,y1.2)))) (
 ah (y1.2==(0:Int)) (
 ah (w2==(0:Int)) (
 ah y2.2 (some (y1.1,y2.1,(2:Int))) (some (y1.1,y2.1,y1.2))) (some (y1.1,y2.1,y1.2))) (some (y1.1,y2.1,y1.2)))
noncomputable def k_ (w0:aq) (w1:Str) (w2:Int) (w3:Str):Option (aq×Int):=
 aj (iB w0.fs w1 (0:Int)) λy1=>
 ah (y1.2.2 !=(0:Int)) (some (w0,y1.2.2)) (aj (kY w0.fs y1.1 w2 w3) λy2=>some ((⟨y2.1,w0.al⟩:aq),y2.2))
noncomputable def kW (w0:Fs) (w1:Str):Option (ao×Int):=
 aj (iB w0 w1 (1:Int)) λy1=>
 ah (y1.2.2==(0:Int)) (
 ah (y1.2.1.kind==(2:Int)) (some (y1.2.1,(4:Int))) (
 ah (y1.2.2==(0:Int)) (
 ah (y1.2.1.kind==(3:Int)) (some (y1.2.1,(9:Int))) (some (y1.2.1,y1.2.2))) (some (y1.2.1,y1.2.2)))) (
 ah (y1.2.2==(0:Int)) (
 ah (y1.2.1.kind==(3:Int)) (some (y1.2.1,(9:Int))) (some (y1.2.1,y1.2.2))) (some (y1.2.1,y1.2.2)))
noncomputable def lC (w0:aq) (w1:Opn):Option (aq×Int):=
 aj (kW w0.fs w1.a) λy1=>
 ah (y1.2 !=(0:Int)) (some (w0,y1.2)) (aj (kW w0.fs w1.b) λy2=>
 ah (y2.2 !=(0:Int)) (some (w0,y2.2)) (
 ah (y1.1.ino==y2.1.ino) (some (w0,(9:Int))) (aj (kf w0 w1.slot y2.1.ino) λy3=>
 ah (y3.2 !=(0:Int)) (some (w0,y3.2)) (aj (pe y3.1.fs y2.1.ino y1.1.data) λy4=>
 ah (y4.2 !=(0:Int)) (some (w0,y4.2)) (some ((⟨y4.1,y3.1.al⟩:aq),(0:Int)))))))
noncomputable def fG {R:Type} (x18:aq) (x21:ao) (kr:Option R) (k1:Option R):Nat->Int->Option R
 |0,_=>none
 |n+1,x17=>
  ah (decide (x17<(List.length x18.al.kept:Int))) (
  ah (decide (0<=x17)) (aj x18.al.kept[Int.toNat x17]? λe22=>
  ah (e22.ino==x21.ino) (
  ah (x21.aH==(1:Int)) ((kr)) ((fG x18 x21 kr k1 n (IntKind.i64.wrap (x17+(1:Int)))))) ((fG x18 x21 kr k1 n (IntKind.i64.wrap (x17+(1:Int)))))) (none)) ((k1))
noncomputable def u_ (w0:aq) (w1:Opn):Option (aq×Int):=
 aj (mX w1) λy1=>
 ah (!y1) (some (w0,(12:Int))) (
 ah (w1.kind==(1:Int)) (aj (k_ w0 w1.a (2:Int) ([] :Str)) λy2=>some (y2.1,y2.2)) (
 ah (w1.kind==(2:Int)) (aj (kW w0.fs w1.a) λy3=>
 ah (y3.2 !=(0:Int)) (some (w0,y3.2)) (aj (k_ w0 w1.b (1:Int) y3.1.data) λy4=>some (y4.1,y4.2))) (
 ah (w1.kind==(3:Int)) (aj (lC w0 w1) λy5=>some (y5.1,y5.2)) (
 ah (w1.kind==(4:Int)) (aj (k_ w0 w1.a (3:Int) w1.data) λy6=>some (y6.1,y6.2)) (sh (iB w0.fs w1.a (1:Int)) λs4=>
 ah (w1.kind==(5:Int)) (aj s4 λy7=>sh (
 ah (y7.2.2 !=(0:Int)) (some (w0,y7.2.2)) (aj (iB w0.fs w1.b (0:Int)) λy8=>
 ah (y8.2.2 !=(0:Int)) (some (w0,y8.2.2)) (aj (jw w0.fs y8.1 y7.2.1.ino) λy9=>some ((⟨y9,w0.al⟩:aq),(0:Int))))) λs3=>
 ah (y7.2.2==(0:Int)) (
 ah (y7.2.1.kind==(2:Int)) (some (w0,(11:Int))) s3) s3) (
 ah (w1.kind==(6:Int)) (aj s4 λy12=>
 ah (y12.2.2 !=(0:Int)) (some (w0,y12.2.2)) (aj (iB w0.fs w1.b (0:Int)) λy13=>
 ah (y13.2.2 !=(0:Int)) (some (w0,y13.2.2)) (aj (pH w0.fs y12.1 y13.1) λy14=>some ((⟨y14,w0.al⟩:aq),(0:Int))))) (sh (aj s4 λy15=>sh (
 ah (y15.2.2 !=(0:Int)) (some (w0,y15.2.2)) (
 ah (w1.kind==(7:Int)) (aj (nw w0 w1.slot y15.1) λy16=>some (y16.1,y16.2)) (fG w0 y15.2.1 (some (w0,(13:Int))) (aj (iQ w0.fs y15.1) λy28=>some ((⟨y28,w0.al⟩:aq),(0:Int))) bx (0:Int)))) λs2=>
 ah (y15.2.2==(0:Int)) (
 ah (decide ((List.length y15.2.1.entries:Int)>(0:Int))) (some (w0,(5:Int))) s2) s2) λs0=>sh (
 ah (w1.kind==(9:Int)) (aj (iB w0.fs w1.a (0:Int)) λy31=>
 ah (y31.2.2 !=(0:Int)) (some (w0,y31.2.2)) (aj (pX w0 w1.slot y31.1) λy32=>some (y32.1,y32.2))) (aj s4 λy33=>
 ah (y33.2.2 !=(0:Int)) (some (w0,y33.2.2)) (aj (iL w0 w1.slot) λy34=>
 ah (!y34.2) (some (w0,(13:Int))) (
 ah (!y34.1.content) (some (w0,(13:Int))) (
 ah (y34.1.ino !=y33.2.1.ino) (some (w0,(13:Int))) (aj (j4 w0 w1.slot) λy35=>some (y35.1,y35.2))))))) λs1=>
 ah (w1.kind==(7:Int)) (
 ah (w1.kind==(7:Int)) s0 s1) (
 ah (w1.kind==(8:Int)) s0 s1))))))))
noncomputable def oi (w0:Opn):Option (Opn×Bool):=
 sh (
 ah (w0.kind==(3:Int)) (some ((⟨(10:Int),w0.slot,w0.b, [], []⟩:Opn),true)) (
 ah (w0.kind==(6:Int)) (some ((⟨(6:Int),0,w0.b,w0.a, []⟩:Opn),true)) (
 ah (w0.kind==(7:Int)) (some ((⟨(9:Int),w0.slot,w0.a, [], []⟩:Opn),true)) (some ((⟨0,0, [], [], []⟩:Opn),false))))) λs0=>sh (some ((⟨(8:Int),0,w0.b, [], []⟩:Opn),true)) λs2=>sh (
 ah (w0.kind==(2:Int)) (
 ah (w0.kind==(2:Int)) s2 s0) (
 ah (w0.kind==(5:Int)) s2 s0)) λs1=>sh (some ((⟨(8:Int),0,w0.a, [], []⟩:Opn),true)) λs3=>ah (w0.kind==(1:Int)) (
 ah (w0.kind==(1:Int)) s3 s1) (
 ah (w0.kind==(4:Int)) s3 s1)
noncomputable def iW {R:Type} (x1:List Opn) (x2:Int) (kr:Int->Int->aq->Option R) (k0:Int->aq->Option R):Nat->Int->aq->Option R
 |0,_,_=>none
 |n+1,x3,x4=>
  ah (decide (x3<(List.length x1:Int))) (
  ah (decide (x3<x2)) (
  ah (decide (0<=x3)) (aj x1[Int.toNat x3]? λe6=>aj (u_ x4 e6) λy7=>
  ah (y7.2 !=(0:Int)) ((kr x3 y7.2 x4)) ((iW x1 x2 kr k0 n (IntKind.i64.wrap (x3+(1:Int))) y7.1))) (none)) ((k0 x3 x4))) ((k0 x3 x4))
noncomputable def kD (w0:aq) (w1:(List Opn)) (w2:Int):Option (aq×Int×Int):=
 iW w1 w2 (λz14 z15 z16=>some (z16,z14,z15)) (λz17 z18=>some (z18,z17,(0:Int))) bx (0:Int) w0
noncomputable def fL {R:Type} (x1:List Opn) (k0:(List Opn)->Option R):Nat->Int->(List Opn)->Option R
 |0,_,_=>none
 |n+1,x2,x3=>
  ah (decide (x2>=(0:Int))) (
  ah (decide (0<=x2)) (aj x1[Int.toNat x2]? λe4=>aj (oi e4) λy5=>
  ah y5.2 (aS (x3.length+[y5.1].length) ((fL x1 k0 n (IntKind.i64.wrap (x2 - (1:Int))) (x3++[y5.1])))) ((fL x1 k0 n (IntKind.i64.wrap (x2 - (1:Int))) x3))) (none)) ((k0 x3))
noncomputable def kT (w0:(List Opn)):Option ((List Opn)):=
 fL w0 (λz7=>some z7) bx (IntKind.i64.wrap ((List.length w0:Int) - (1:Int))) ([] :List Opn)
noncomputable def hC {R:Type} (x3:aq) (k0:Int->Option R):Nat->Int->Int->Option R
 |0,_,_=>none
 |n+1,x1,x2=>
  ah (decide (x2<(List.length x3.al.kept:Int))) (
  ah (decide (0<=x2)) (aj x3.al.kept[Int.toNat x2]? λe4=>(hC x3 k0 n (max x1 e4.slot) (IntKind.i64.wrap (x2+(1:Int))))) (none)) ((k0 x1))
noncomputable def p7 (w0:aq):Option (Int):=
 hC w0 (λz6=>some z6) bx (0:Int) (0:Int)
noncomputable def cG:Option (Bool):=
 aj (oU (3:Int) (9:Int)) λy1=>sh (⟨y1,(⟨([] :List Kept),([] :List ao)⟩:du)⟩:aq) λs0=>sh (⟨(7:Int),(4:Int),([47,97]:Str), [], []⟩:Opn) λs1=>sh (⟨(1:Int),0,([47,98,47,99]:Str), [], []⟩:Opn) λs2=>sh (⟨(1:Int),0,([47,97]:Str), [], []⟩:Opn) λs3=>aj (gS s0 [s3,s1,s2] (9:Int)) λy2=>aj (gS s0 [s3,s1,s2] (1:Int)) λy3=>
 ah (decide (0<=(2:Int)/\(2:Int)<=([s3,s1,s2].length:Int))) (aj (gW ([s3,s1,s2].take (Int.toNat (2:Int)))) λy4=>aj (gS y2.1 y4 (9:Int)) λy5=>
 ah (y2.2.1==(2:Int)) (
 ah (y2.2.2==(1:Int)) (
 ah (y3.2.1==(1:Int)) (
 ah (y3.2.2==(0:Int)) (
 ah ((List.length y3.1.fs.aa:Int)==(2:Int)) (
 ah ((List.length y4:Int)==(2:Int)) (
 ah (decide (0<=(0:Int))) (aj y4[Int.toNat (0:Int)]? λe6=>
 ah ((e6.kind==(9:Int))&&((e6.slot==(4:Int))&&((e6.a==([47,97]:Str))&&((e6.b== [])&&(e6.data== []))))) (
 ah (decide (0<=(1:Int))) (aj y4[Int.toNat (1:Int)]? λe7=>
 ah ((e7.kind==(8:Int))&&((e7.slot==0)&&((e7.a==([47,97]:Str))&&((e7.b== [])&&(e7.data== []))))) (
 ah (y5.2.1==(2:Int)) (
 ah (y5.2.2==(0:Int)) (aj (dG (⟨(⟨y5.1.fs.ay,y5.1.fs.aB,(2:Int),y5.1.fs.aa⟩:Fs),y5.1.al⟩:aq) s0) λy8=>
 ah y8 (aj (ld y2.1) λy9=>
 ah (y9==(4:Int)) (aj (ld s0) λy10=>some (y10==(0:Int))) (some false)) (some false)) (some false)) (some false)) (some false)) (none)) (some false)) (none)) (some false)) (some false)) (some false)) (some false)) (some false)) (some false)) (none)
noncomputable def jx (w0:aq) (w1:(List Opn)):Option (Bool):=
 aj (rF w0) λy1=>
 ah y1 (
 ah (decide (w0.fs.next<(549755813888:Int))) (aj (o5 w1) λy2=>
 ah y2 (some (decide ((List.length w1:Int)<=(30:Int)))) (some false)) (some false)) (some false)
noncomputable def nb (w0:aq) (w1:(List Opn)) (w2:Int):Option (Bool):=
 aj (cG) λy1=>
 ah (!y1) (aj (cG) λy2=>some y2) (aj (jx w0 w1) λy3=>
 ah (!y3) (aj (cG) λy4=>some y4) (aj (gS w0 w1 w2) λy5=>aj (kD w0 w1 w2) λy6=>aj (dG y5.1 y6.1) λy7=>
 ah y7 (
 ah (y5.2.1==y6.2.1) (some (y5.2.2==y6.2.2)) (some false)) (some false)))
noncomputable def mz (w0:aq) (w1:(List Opn)):Option (Bool):=
 aj (cG) λy1=>
 ah (!y1) (aj (cG) λy2=>some y2) (aj (jx w0 w1) λy3=>
 ah (!y3) (aj (cG) λy4=>some y4) (aj (gW w1) λy5=>aj (kT w1) λy6=>aj (jy y5 y6) λy7=>
 ah y7 (aj (ld w0) λy8=>aj (p7 w0) λy9=>some (y8==y9)) (some false)))
noncomputable def nv (w0:aq) (w1:(List Opn)) (w2:Int):Option (Bool):=
 aj (cG) λy1=>
 ah (!y1) (aj (cG) λy2=>some y2) (aj (jx w0 w1) λy3=>
 ah (!y3) (aj (cG) λy4=>some y4) (aj (nh w1) λy5=>
 ah (!y5) (aj (cG) λy6=>some y6) (aj (gS w0 w1 (IntKind.i64.wrap (w2))) λy7=>
 ah (decide (y7.2.1<(0:Int))) (some false) (
 ah (decide (y7.2.1>(List.length w1:Int))) (some false) (
 ah (decide (y7.2.1>(IntKind.i64.wrap (w2)))) (some false) (
 ah (decide (0<=y7.2.1/\y7.2.1<=(w1.length:Int))) (aj (gW (w1.take (Int.toNat y7.2.1))) λy8=>aj (gS y7.1 y8 (List.length y8:Int)) λy9=>aj (p_ y8) λy10=>
 ah y10 (
 ah ((List.length y8:Int)==y7.2.1) (
 ah (y9.2.1==y7.2.1) (
 ah (y9.2.2==(0:Int)) (aj (dG (⟨(⟨y9.1.fs.ay,y9.1.fs.aB,w0.fs.next,y9.1.fs.aa⟩:Fs),y9.1.al⟩:aq) w0) λy11=>some y11) (some false)) (some false)) (some false)) (some false)) (none)))))))
noncomputable def dL {R:Type} (k0:Option R):Nat->Int->(List Opn)->Option R
 |0,_,_=>none
 |n+1,x9,x12=>
  ah (decide (x9<(List.length x12:Int))) (
  ah (decide (0<=x9/\x9<(x12.length:Int))) (aj x12[(Int.toNat x9)]? λe13=>(dL k0 n (IntKind.i64.wrap (x9+(1:Int))) (x12.set (Int.toNat x9) (⟨0,0, [], [], []⟩:Opn)))) (none)) ((k0))
noncomputable def mr (w0:aq) (w1:(List Opn)):Option (Bool):=
 aj (cG) λy1=>
 ah (!y1) (aj (cG) λy2=>some y2) (aj (jx w0 w1) λy3=>
 ah (!y3) (aj (cG) λy4=>some y4) (aS (([] :List Opn).length+w1.length) (aS (([] :List ao).length+w0.fs.aa.length) (aS (([] :List Kept).length+w0.al.kept.length) (aS (([] :List ao).length+w0.al.aO.length) (aj (gS w0 w1 (List.length w1:Int)) λy5=>aj (gW w1) λy6=>dL (aj (dG w0 w0) λy18=>
 ah y18 (aj (jy w1 w1) λy19=>
 ah y19 (aj (gW w1) λy20=>aj (kT w1) λy21=>aj (jy y20 y21) λy22=>some y22) (some false)) (some false)) bx (0:Int) y6))))))
end Go.Eng
namespace Go.Eng
open Go
@[simp] theorem aw {α:Type} (x y:Option α):ah true x y=x:=rfl
@[simp] theorem ax {α:Type} (x y:Option α):ah false x y=y:=rfl
@[simp] theorem ae {α β:Type} (a:α) (f:α->Option β):aj (some a) f=f a:=rfl
theorem aV {α:Type} (b:Bool) (x y:Option α):ah b x y=if b then x else y:=by cases b<;>rfl
theorem bC {α:Type} {n:Nat} {x:Option α} (h:n<=LIM):aS n x=x:=by
 unfold aS;rw[Nat.ble_eq_true_of_le h]
theorem bN {n:Int} (h1: -9223372036854775808<=n) (h2:n<9223372036854775808):IntKind.i64.wrap n=n:=by
 simp [IntKind.wrap,IntKind.bits,IntKind.signed];omega
theorem aP {k:Nat} (h:k<4611686018427387904):IntKind.i64.wrap ((k:Int)+1)=((k+1:Nat):Int):=by
 rw[bN (by omega) (by omega)];rfl
theorem ya {α:Type} {l:List α} {k:Nat} (h:k<l.length):∃x,l[k]? =some x/\l.drop k=x::l.drop (k+1):=
 ⟨l[k],by simp,List.drop_eq_getElem_cons h⟩
theorem dec_lt {k n:Nat} (h:k<n):decide ((k:Int)<(n:Int))=true:=by simp;omega
theorem bF {k n:Nat} (h:n<=k):decide ((k:Int)<(n:Int))=false:=by simp;omega
theorem bu (k:Nat):decide (0<=(k:Int))=true:=by simp
theorem Hm {k n:Nat} (h:k<n):decide (0<=(k:Int)/\(k:Int)<(n:Int))=true:=by simp;omega
theorem toNat_cast (k:Nat):Int.toNat (k:Int)=k:=Int.toNat_natCast k
theorem fp {n:Nat} (h:n<=1099511627775):n<bx:=Nat.lt_of_lt_of_le (by omega) ur
end Go.Eng
namespace Go.Eng
def dh {α S R:Type} (G:Nat->α->S->(S->Option R)->Option R) (E:S->Option R):Nat->List α->S->Option R
 |_, [],s=>E s
 |k,x::r,s=>G k x s (dh G E (k+1) r)
theorem Kk {α S R:Type} {l:List α} (F:Nat->Int->S->Option R) (G:Nat->α->S->(S->Option R)->Option R) (E:S->Option R) (hl:l.length<=1099511627775)
 (h1:∀(n k:Nat) (x:α) (s:S),k<l.length->l[k]? =some x->F (n+1) (k:Int) s=G k x s (F n ((k+1:Nat):Int))) (h0:∀(n:Nat) (s:S),F (n+1) (l.length:Int) s=E s):
 ∀(n k:Nat) (s:S),k<=l.length->l.length - k<n->F n (k:Int) s=dh G E k (l.drop k) s:=by
 intro n;induction n with
 |zero=>intro k s _ h;omega
 |succ n ih=>
  intro k s hk hn;by_cases h:k<l.length
  ·obtain⟨x,hx,hd⟩:=ya h
   rw[h1 n k x s h hx,hd];simp only[dh];congr 1;funext s';exact ih (k+1) s' (by omega) (by omega)
  ·have:k=l.length:=by omega
   subst this;rw[h0,List.drop_length];rfl
theorem bE {α S R:Type} {l:List α} (F:Nat->Int->S->Option R) (G:Nat->α->S->(S->Option R)->Option R) (E:S->Option R) (hl:l.length<=1099511627775)
 (h1:∀(n k:Nat) (x:α) (s:S),k<l.length->l[k]? =some x->F (n+1) (k:Int) s=G k x s (F n ((k+1:Nat):Int))) (h0:∀(n:Nat) (s:S),F (n+1) (l.length:Int) s=E s) (s:S):F bx (0:Int) s=dh G E 0 l s:=
 Kk F G E hl h1 h0 bx 0 s (Nat.zero_le _) (fp (by omega))
end Go.Eng
namespace Go.Eng
theorem kK {α S R:Type} {l:List α} (F:Nat->Int->S->Option R) (Inv:Nat->S->Prop) (P:Option R->Prop) (hl:l.length<=1099511627775)
 (h1:∀(n k:Nat) (x:α) (s:S),k<l.length->l[k]? =some x->Inv k s->(∀s',Inv (k+1) s'->P (F n ((k+1:Nat):Int) s'))->P (F (n+1) (k:Int) s))
 (h0:∀(n:Nat) (s:S),Inv l.length s->P (F (n+1) (l.length:Int) s)) (s:S) (hi:Inv 0 s):P (F bx (0:Int) s):=by
 have key:∀(n k:Nat) (s:S),Inv k s->k<=l.length->l.length - k<n->P (F n (k:Int) s):=by
  intro n;induction n with
  |zero=>intro k s _ _ h;omega
  |succ n ih=>
   intro k s hs hk hn;by_cases h:k<l.length
   ·exact h1 n k l[k] s h (by simp [h]) hs λs' hs'=>ih (k+1) s' hs' (by omega) (by omega)
   ·have:k=l.length:=by omega
    subst this;exact h0 n s hs
 exact key bx 0 s hi (Nat.zero_le _) (fp (by omega))
end Go.Eng
namespace Go.Eng
theorem aJ {α:Type} {b:Bool} {x y:Option α} (h:b=true):ah b x y=x:=by subst h;rfl
theorem aU {α:Type} {b:Bool} {x y:Option α} (h:b=false):ah b x y=y:=by subst h;rfl
theorem IK {a b:Nat} (h:b<a):Nat.ble a b=false:=by
 cases e:Nat.ble a b with
 |false=>rfl
 |true=>exact absurd (Nat.le_of_ble_eq_true e) (by omega)
end Go.Eng
namespace Go.Eng
open Go
def mA (b:UInt8):Bool:=b==47||b==0
def eP (s:Str):Bool:= !(s== [])&&(decide (s.length<=255)&&(!(s.any mA)&&(!(s==[46])&& !(s==[46,46]))))
theorem Cg {R:Type} (k:Nat->Option R):∀(m i n:Nat),i<=n->n<i+m->splitK (n:Int) m i k=k n
 |0,i,n,h1,h2=>by omega
 |m+1,i,n,h1,h2=>by
  unfold splitK;by_cases h:n=i
  ·subst h;simp
  ·have e:((n:Int)==(i:Int))=false:=by rw[beq_eq_false_iff_ne];omega
   rw[e,ax];exact Cg k m (i+1) n (by omega) (by omega)
theorem VO (b:UInt8):b.toNat<256:=b.toNat_lt
theorem zO (b:UInt8) (n:Nat) (h:n<256):Nat.beq b.toNat n=(b==UInt8.ofNat n):=by
 rw[Bool.eq_iff_iff,beq_iff_eq];constructor
 ·intro e
  have e:=Nat.eq_of_beq_eq_true e;apply UInt8.toNat_inj.1;rw[UInt8.toNat_ofNat',e];omega
 ·intro e
  subst e;rw[UInt8.toNat_ofNat'];have:n%2^8=n:=Nat.mod_eq_of_lt h;rw[this];simp
theorem jO (b:UInt8) (n:Nat) (h:n<256):((b.toNat:Int)==(n:Int))=(b==UInt8.ofNat n):=by
 rw[<-zO b n h,Bool.eq_iff_iff];constructor
 ·intro e
  have e:=beq_iff_eq.1 e;have:b.toNat=n:=by omega
  rw[this];simp
 ·intro e
  have e:=Nat.eq_of_beq_eq_true e;rw[e];simp
theorem jq {α R:Type} (p:α->Bool) (kr:Nat->α->Option R) (k0:Option R) (r:Option R) (hr:∀k x,kr k x=r):∀(l:List α) (k:Nat) (s:Unit),dh (λk x s K=>if p x then kr k x else K s) (λ_=>k0) k l s=if l.any p then r else k0
 | [],_,_=>rfl
 |x::l,k,s=>by
  simp only[dh,List.any_cons];by_cases h:p x=true
  ·simp [h,hr]
  ·simp [h,jq p kr k0 r hr l]
theorem Ro {s:Str} (hl:s.length<=1099511627775):cn s (λz6=>some (decide (z6>=(0:Int)))) (some false) bx (0:Int)=some (s.any mA):=by
 refine(bE (l:=s) (λn i (_:Unit)=>cn s (λz6=>some (decide (z6>=(0:Int)))) (some false) n i) (λk x s K=>if mA x then some (decide ((k:Int)>=(0:Int))) else K s) (λ_=>some false) hl (λn k x u hk hx=> ?_) (λn u=> ?_) ()).trans ?_
 ·simp only[cn]
  rw[dec_lt hk,bu,toNat_cast,hx,aP (by omega)];simp only[aw,ae,aV,if_true];rw[Cg _ _ _ _ (Nat.zero_le _) (by have:=VO x;omega),zO x 0 (by omega),zO x 47 (by omega)];unfold mA;rw[Bool.or_comm];rfl
 ·simp only[cn]
  rw[bF (Nat.le_refl _)];rfl
 ·rw[jq mA _ _ (some true) (λk x=>by simp)]
  cases s.any mA<;>rfl
theorem EC {s:Str} {i:Nat} {x:UInt8} (h:s[i]? =some x):
 (x.toNat<128/\dJ s i=(x.toNat,1))\/(128<=x.toNat/\128<=(dJ s i).1/\1<=(dJ s i).2/\∀j,j<(dJ s i).2->∃b,s[i+j]? =some b/\128<=b.toNat):=by
 have hget:∀k b,s[i+k]? =some b->(ByteArray.get! ⟨s.toArray⟩ (i+k))=b:=by
  intro k b hb;have:(ByteArray.mk s.toArray).get! (i+k)=s.toArray[i+k]! :=rfl;rw[this];simp [hb]
 have hx0:(ByteArray.get! ⟨s.toArray⟩ (i+0))=x:=hget 0 x (by simpa using h);have hcont:∀k,((decide (i+k<(ByteArray.mk s.toArray).size)&&((ByteArray.get! ⟨s.toArray⟩ (i+k)).toNat/64==2))=true)->∃b,s[i+k]? =some b/\128<=b.toNat:=by
  intro k hk;simp only[Bool.and_eq_true,decide_eq_true_eq,beq_iff_eq] at hk;obtain⟨h1,h2⟩:=hk;have h1':i+k<s.length:=h1;refine⟨s[i+k],by simp [h1'], ?_⟩;rw[hget k s[i+k] (by simp [h1'])] at h2;omega
 unfold dJ Utf8.decode;simp only[hx0];by_cases hb:x.toNat<128
 ·left;exact⟨hb,by rw[if_pos hb]⟩
 ·right
  refine⟨by omega, ?_⟩;rw[if_neg hb];have base:∃b,s[i+0]? =some b/\128<=b.toNat:=⟨x,by simpa using h,by omega⟩;have one:128<=((Utf8.runeError,1):Nat×Nat).1/\1<=((Utf8.runeError,1):Nat×Nat).2/\∀j,j<((Utf8.runeError,1):Nat×Nat).2->∃b,s[i+j]? =some b/\128<=b.toNat:=by
   refine⟨by decide,by decide,λj hj=> ?_⟩;have:j=0:=by simp at hj;exact hj
   subst this;exact base
  split
  ·rename_i hc
   simp only[Bool.and_eq_true] at hc;have c1:=hcont 1 (by simpa using hc.2);split
   ·rename_i hv
    refine⟨by simpa using hv,by show 1<=2;omega,λj hj=> ?_⟩;simp at hj;have:j=0\/j=1:=by omega
    rcases this with rfl|rfl
    ·exact base
    ·exact c1
   ·exact one
  ·split
   ·rename_i hc
    simp only[Bool.and_eq_true] at hc;have c1:=hcont 1 (by simpa using hc.1.2);have c2:=hcont 2 (by simpa using hc.2);split
    ·rename_i hv
     simp only[Bool.and_eq_true,decide_eq_true_eq] at hv;refine⟨by simp;omega,by show 1<=3;omega,λj hj=> ?_⟩;simp at hj;have:j=0\/j=1\/j=2:=by omega
     rcases this with rfl|rfl|rfl
     ·exact base
     ·exact c1
     ·exact c2
    ·exact one
   ·split
    ·rename_i hc
     simp only[Bool.and_eq_true] at hc;have c1:=hcont 1 (by simpa using hc.1.1.2);have c2:=hcont 2 (by simpa using hc.1.2);have c3:=hcont 3 (by simpa using hc.2);split
     ·rename_i hv
      simp only[Bool.and_eq_true,decide_eq_true_eq] at hv;refine⟨by simp;omega,by show 1<=4;omega,λj hj=> ?_⟩;simp at hj;have:j=0\/j=1\/j=2\/j=3:=by omega
      rcases this with rfl|rfl|rfl|rfl
      ·exact base
      ·exact c1
      ·exact c2
      ·exact c3
     ·exact one
    ·exact one
theorem wV {s:Str}:∀(w i:Nat),(∀j,j<w->∃b,s[i+j]? =some b/\128<=b.toNat)->(s.drop i).any mA=(s.drop (i+w)).any mA
 |0,i,_=>rfl
 |w+1,i,h=>by
  obtain⟨b,hb,h128⟩:=h 0 (by omega);simp only[Nat.add_zero] at hb;have hi:=(List.getElem?_eq_some_iff.1 hb).1;obtain⟨x,hx,hd⟩:=ya hi;rw[hb] at hx;cases hx;rw[hd,List.any_cons,wV w (i+1) (λj hj=>by
   obtain⟨b,h1,h2⟩:=h (j+1) (by omega);exact⟨b,by rw[<-h1];congr 1;omega,h2⟩)]
  have hn:mA b=false:=by
   unfold mA;simp only[Bool.or_eq_false_iff,beq_eq_false_iff_ne];constructor<;>(intro e;subst e;revert h128;decide)
  rw[hn,Bool.false_or];congr 2;omega
theorem Ec {s:Str} {w i:Nat} (h1:1<=w) (h:∀j,j<w->∃b,s[i+j]? =some b/\128<=b.toNat):i+w<=s.length:=by
 obtain⟨b,hb,_⟩:=h (w - 1) (by omega);have:=(List.getElem?_eq_some_iff.1 hb).1;omega
theorem KZ:∃m,bx=m+3:=⟨bx - 3,by have:=ur;omega⟩
theorem Ok {r:Nat} (h:128<=r):(2=(Utf8.encode (r:Int)).data.toList.length/\∃a b:UInt8,(Utf8.encode (r:Int)).data.toList=[a,b]/\128<=b.toNat)\/3<=(Utf8.encode (r:Int)).data.toList.length:=by
 unfold Utf8.encode;have hc:128<=(if Utf8.valid (r:Int) then (r:Int).toNat else Utf8.runeError):=by
  split
  ·simpa using h
  ·decide
 generalize (if Utf8.valid (r:Int) then (r:Int).toNat else Utf8.runeError)=c at hc;simp only;rw[if_neg (by omega)];split
 ·left
  refine⟨rfl,_,_,rfl, ?_⟩;rw[UInt8.toNat_ofNat'];omega
 ·right
  split
  ·exact Nat.le_refl 3
  ·show 3<=4;omega
theorem aaK {R:Type} {e:Str} (kr:Int->Option R) (k1:Option R) (r:Option R) (h:(∃a b:UInt8,e=[a,b]/\128<=b.toNat)\/3<=e.length) (hs:e.length<=10) (h1:kr (-1)=r) (h2:k1=r):
 cK e (IntKind.i64.wrap ((List.length e:Int) - (1:Int))) (IntKind.i64.wrap ((List.length e:Int) - (1:Int))) kr k1 bx=r:=by
 obtain⟨m,hm⟩:=KZ;rw[hm];simp only[cK];rcases h with⟨a,b,rfl,hb⟩ |h
 ·have e1:IntKind.i64.wrap ((List.length [a,b]:Int) - (1:Int))=1:=by rfl
  rw[e1];have e2:((UInt8.toNat (0:UInt8):Int) !=(UInt8.toNat b:Int))=true:=by
   rw[bne_iff_ne];simp;omega
  have e3:Lib.indexByte ([] :Str) ((UInt8.toNat b:Int)).toNat.toUInt8= -1:=rfl;show ah true (ah true (aj (some (0:UInt8)) λc31=>ah true (aj (some b) λc32=>_) none) none) k1=r;simp only[aw,ae,e2];exact h1
 ·rw[bN (by omega) (by omega)]
  have:decide (((e.length:Int) - 1)<(2:Int))=false:=by simp;omega
  rw[this,ax,h2]
theorem S2 {R:Type} (kr:Int->Option R) (k9:Option R):dp ([47,0]:Str) kr k9 bx 0=k9:=by
 obtain⟨m,hm⟩:=KZ;rw[hm];rfl
theorem Sc (r:Int):(Utf8.encode r).data.toList.length<=10:=by
 unfold Utf8.encode;simp only;generalize (if Utf8.valid r then r.toNat else Utf8.runeError)=c;split
 ·show 1<=10;omega
 ·split
  ·show 2<=10;omega
  ·split
   ·show 3<=10;omega
   ·show 4<=10;omega
theorem Lc {s:Str} (hl:s.length<=1099511627775):∀(n i:Nat),i<=s.length->s.length - i<n->cA s (λz67=>some (decide (z67>=(0:Int)))) (some false) n i=some ((s.drop i).any mA):=by
 intro n;induction n with
 |zero=>intro i _ h;omega
 |succ n ih=>
  intro i hi hn;simp only[cA,sh];by_cases hlt:i<s.length
  ·have e0:Nat.blt i s.length=true:=by simpa [Nat.blt_eq] using hlt
   rw[e0,aw];obtain⟨x,hx,hd⟩:=ya hlt;rcases EC hx with⟨h1,h2⟩ |⟨h1,h2,h3,h4⟩
   ·rw[h2]
    simp only;have a1:decide ((0:Int)<=(x.toNat:Int))=true:=by simp
    have a2:decide ((x.toNat:Int)<(128:Int))=true:=by simp;omega
    rw[a1,a2,aw,aw];have a3:IntKind.u8.wrap (x.toNat:Int)=(x.toNat:Int):=by
     simp [IntKind.wrap,IntKind.bits,IntKind.signed];omega
    rw[a3];unfold stringslite_IndexByte;have a4:((x.toNat:Int).toNat.toUInt8)=x:=by
     apply UInt8.toNat_inj.1;simp
    rw[a4,ae,hd,List.any_cons];by_cases hb:mA x=true
    ·rw[hb]
     have:Lib.indexByte ([47,0]:Str) x>=0:=by
      unfold mA at hb;simp at hb;rcases hb with rfl|rfl<;>decide
     rw[decide_eq_true this];simp
    ·have hb':mA x=false:=by simpa using hb
     rw[hb'];have:¬Lib.indexByte ([47,0]:Str) x>=0:=by
      unfold mA at hb';simp only[Bool.or_eq_false_iff,beq_eq_false_iff_ne] at hb';have e1:((47:UInt8)==x)=false:=by rw[beq_eq_false_iff_ne];exact λe=>hb'.1 e.symm
      have e2:((0:UInt8)==x)=false:=by rw[beq_eq_false_iff_ne];exact λe=>hb'.2 e.symm
      simp [Lib.indexByte,e1,e2]
     rw[decide_eq_false this,ax,ih (i+1) (by omega) (by omega),Bool.false_or]
   ·have hw:=Ec h3 h4
    have hrec:=ih (i+(dJ s i).2) hw (by omega);rw[<-wV _ _ h4] at hrec;generalize hr:cA s (λz67=>some (decide (z67>=(0:Int)))) (some false) n (i+(dJ s i).2)=rc at hrec;subst hrec;have b1:decide ((0:Int)<=((dJ s i).1:Int))=true:=by simp
    have b2:decide (((dJ s i).1:Int)<(128:Int))=false:=by simp;omega
    have he:=Ok h2;have he':(∃a b:UInt8,(Utf8.encode ((dJ s i).1:Int)).data.toList=[a,b]/\128<=b.toNat)\/3<=(Utf8.encode ((dJ s i).1:Int)).data.toList.length:=by
     rcases he with⟨_,h⟩ |h
     ·exact Or.inl h
     ·exact Or.inr h
    have h5:∀kr:Int->Option Bool,kr (-1)=some ((s.drop i).any mA)->cK (Utf8.encode ((dJ s i).1:Int)).data.toList (IntKind.i64.wrap ((List.length (Utf8.encode ((dJ s i).1:Int)).data.toList:Int) - (1:Int))) (IntKind.i64.wrap ((List.length (Utf8.encode ((dJ s i).1:Int)).data.toList:Int) - (1:Int))) kr (some ((s.drop i).any mA)) bx=some ((s.drop i).any mA):=
     λkr hk=>aaK _ _ _ he' (Sc _) hk rfl
    rw[b1,b2,aw,ax];simp only[S2];rw[h5 _ (by rfl)];simp only[aV,if_true]
    repeat' split
    all_goals rfl
  ·have e0:Nat.blt i s.length=false:=by
    cases h:Nat.blt i s.length with
    |false=>rfl
    |true=>exact absurd (Nat.le_of_ble_eq_true h) (by omega)
   rw[e0,ax,List.drop_eq_nil_of_le (by omega)];rfl
theorem qn {s:Str} (hl:s.length<=1099511627775):fZ s=some (s.any mA):=by
 unfold fZ;rw[Ro hl,Lc hl bx 0 (Nat.zero_le _) (fp (by omega))];simp [aV]
theorem q5 {s:Str} (hl:s.length<=1099511627775):nk s=some (eP s):=by
 unfold nk eP;rw[qn hl];have e:decide ((List.length s:Int)<=(255:Int))=decide (s.length<=255):=by
  rw[decide_eq_decide];omega
 rw[e];simp only[ae,aV];cases (!(s==([] :Str)))<;>cases decide (s.length<=255)<;>cases (s.any mA)<;>cases (!(s==([46]:Str)))<;>simp
theorem mP {s:Str} (hl:s.length<=1099511627775):kI s=some (eP s):=by
 unfold kI;refine(bE (l:=s) (λn i (_:Unit)=>iM s (some false) (ah (decide ((List.length s:Int)>=(1:Int))) (ah (decide ((List.length s:Int)<=(255:Int))) (ah (!(s==([46]:Str))) (some (!(s==([46,46]:Str)))) (some false)) (some false)) (some false)) n i) (λk x s K=>if mA x then some false else K s) (λ_=>(ah (decide ((List.length s:Int)>=(1:Int))) (ah (decide ((List.length s:Int)<=(255:Int))) (ah (!(s==([46]:Str))) (some (!(s==([46,46]:Str)))) (some false)) (some false)) (some false))) hl (λn k x u hk hx=> ?_) (λn u=> ?_) ()).trans ?_
 ·simp only[iM]
  rw[dec_lt hk,bu,toNat_cast,hx,aP (by omega)];simp only[aw,ae,aV,if_true];have e1:((UInt8.toNat x:Int)==(47:Int))=(x==47):=jO x 47 (by omega);have e2:((UInt8.toNat x:Int)==(0:Int))=(x==0):=jO x 0 (by omega);rw[e1,e2];unfold mA;cases (x==47)<;>simp
 ·simp only[iM]
  rw[bF (Nat.le_refl _)];rfl
 ·rw[jq mA _ _ (some false) (λk x=>rfl)]
  unfold eP;have e:decide ((List.length s:Int)<=(255:Int))=decide (s.length<=255):=by
   rw[decide_eq_decide];omega
  have e':decide ((List.length s:Int)>=(1:Int))= !(s==([] :Str)):=by
   cases s with
   |nil=>rfl
   |cons a l=>
    have:(a::l==([] :Str))=false:=rfl;rw[this];simp;omega
  rw[e,e'];simp only[aV];cases (!(s==([] :Str)))<;>cases decide (s.length<=255)<;>cases (s.any mA)<;>cases (!(s==([46]:Str)))<;>simp
abbrev ltS (a b:Str):Bool:=Op.bytesLess a b
theorem nH:∀a:Str,ltS a a=false
 | [] =>rfl
 |a::l=>by
  have:=nH l;simp only[ltS] at this;simp [ltS,Op.bytesLess,this,UInt8.lt_irrefl]
theorem si:∀{a b c:Str},ltS a b=true->ltS b c=true->ltS a c=true
 | [], [],_,h,_=>by simp [ltS,Op.bytesLess] at h
 | [],_::_, [],_,h=>by simp [ltS,Op.bytesLess] at h
 | [],_::_,_::_,_,_=>rfl
 |_::_, [],_,h,_=>by simp [ltS,Op.bytesLess] at h
 |_::_,_::_, [],_,h=>by simp [ltS,Op.bytesLess] at h
 |a::l,b::m,c::k,h1,h2=>by
  simp only[ltS,Op.bytesLess,Bool.or_eq_true,decide_eq_true_eq,Bool.and_eq_true,beq_iff_eq] at h1 h2⊢;rcases h1 with h1|⟨rfl,h1⟩
  ·rcases h2 with h2|⟨rfl,h2⟩
   ·exact Or.inl (UInt8.lt_trans h1 h2)
   ·exact Or.inl h1
  ·rcases h2 with h2|⟨rfl,h2⟩
   ·exact Or.inl h2
   ·exact Or.inr ⟨rfl,si h1 h2⟩
theorem CF:∀a b:Str,ltS a b=true\/a=b\/ltS b a=true
 | [], [] =>Or.inr (Or.inl rfl)
 | [],_::_=>Or.inl rfl
 |_::_, [] =>Or.inr (Or.inr rfl)
 |a::l,b::m=>by
  simp only[ltS,Op.bytesLess,Bool.or_eq_true,decide_eq_true_eq,Bool.and_eq_true,beq_iff_eq,List.cons.injEq];rcases UInt8.lt_or_lt_of_ne (a:=a) (b:=b) |> λh=>(Decidable.em (a=b)).elim (λe=>Or.inr e) (λe=>Or.inl (h e)) with h|rfl
  ·rcases h with h|h
   ·exact Or.inl (Or.inl h)
   ·exact Or.inr (Or.inr (Or.inl h))
  ·rcases CF l m with h|rfl|h
   ·exact Or.inl (Or.inr ⟨rfl,h⟩)
   ·exact Or.inr (Or.inl ⟨rfl,rfl⟩)
   ·exact Or.inr (Or.inr (Or.inr ⟨rfl,h⟩))
theorem Bz {a b:Str} (h:ltS a b=true):ltS b a=false:=by
 cases h':ltS b a
 ·rfl
 ·have:=si h h';rw[nH] at this;cases this
theorem UE {a b:Str} (h:ltS a b=true):a≠b:=by intro e;subst e;rw[nH] at h;cases h
theorem zm:∀a b:Str,decide (Lib.compareBytes a b<0)=ltS a b
 | [], [] =>rfl
 | [],_::_=>rfl
 |_::_, [] =>rfl
 |a::l,b::m=>by
  simp only[Lib.compareBytes,ltS,Op.bytesLess];by_cases h:a<b
  ·simp [h]
  ·by_cases h':b<a
   ·have hne:(a==b)=false:=by rw[beq_eq_false_iff_ne];intro e;subst e;exact UInt8.lt_irrefl _ h'
    simp [h,h',hne]
   ·have he:a=b:=UInt8.le_antisymm (UInt8.not_lt.1 h') (UInt8.not_lt.1 h)
    subst he;have:=zm l m;simp only[if_neg h,decide_eq_false h,beq_self_eq_true,Bool.true_and,Bool.false_or];exact this
theorem zK:∀a b:Str,(Lib.compareBytes a b==0)=(a==b)
 | [], [] =>rfl
 | [],_::_=>rfl
 |_::_, [] =>rfl
 |a::l,b::m=>by
  simp only[Lib.compareBytes];by_cases h:a<b
  ·have hne:(a==b)=false:=by rw[beq_eq_false_iff_ne];intro e;subst e;exact UInt8.lt_irrefl _ h
   rw[if_pos h];have:(a::l==b::m)=false:=by rw[beq_eq_false_iff_ne] at hne⊢;intro e;cases e;exact hne rfl
   rw[this];rfl
  ·rw[if_neg h]
   by_cases h':b<a
   ·have hne:(a==b)=false:=by rw[beq_eq_false_iff_ne];intro e;subst e;exact UInt8.lt_irrefl _ h'
    rw[if_pos h'];have:(a::l==b::m)=false:=by rw[beq_eq_false_iff_ne] at hne⊢;intro e;cases e;exact hne rfl
    rw[this];rfl
   ·rw[if_neg h']
    have he:a=b:=UInt8.le_antisymm (UInt8.not_lt.1 h') (UInt8.not_lt.1 h);subst he;rw[zK l m,Bool.eq_iff_iff];simp
structure LO {κ:Type} (lt:κ->κ->Bool):Prop where
 irrefl:∀a,lt a a=false
 trans:∀{a b c},lt a b=true->lt b c=true->lt a c=true
 tri:∀a b,lt a b=true\/a=b\/lt b a=true
def ltI (a b:Int):Bool:=decide (a<b)
theorem loI:LO ltI where
 irrefl a:=by simp [ltI]
 trans h1 h2:=by simp only[ltI,decide_eq_true_eq] at*;omega
 tri a b:=by simp only[ltI,decide_eq_true_eq];omega
section
set_option linter.unusedSectionVars false
variable {α κ:Type} [DecidableEq κ] {lt:κ->κ->Bool} {key:α->κ}
def dm (lt:κ->κ->Bool) (key:α->κ) (l:List α):Prop:=l.Pairwise λx y=>lt (key x) (key y)=true
def dY (lt:κ->κ->Bool) (key:α->κ) (k:κ):List α->Nat
 | [] =>0
 |x::l=>if lt (key x) k then dY lt key k l+1 else 0
def bT (key:α->κ) (k:κ) (l:List α):Option α:=l.find? λx=>decide (key x=k)
def jB (lt:κ->κ->Bool) (key:α->κ) (x:α):List α->List α
 | [] =>[x]
 |y::l=>if lt (key x) (key y) then x::y::l else y::jB lt key x l
def eR (key:α->κ) (k:κ) (l:List α):List α:=l.filter λy=> !decide (key y=k)
def p9 (lt:κ->κ->Bool) (key:α->κ) (x:α) (l:List α):List α:=jB lt key x (eR key (key x) l)
theorem LO.asymm (O:LO lt) {a b:κ} (h:lt a b=true):lt b a=false:=by
 cases h':lt b a
 ·rfl
 ·have:=O.trans h h';rw[O.irrefl] at this;cases this
theorem LO.ne (O:LO lt) {a b:κ} (h:lt a b=true):a≠b:=by intro e;subst e;rw[O.irrefl] at h;cases h
theorem nY {k:κ} (l:List α):dY lt key k l<=l.length:=by
 induction l with
 |nil=>exact Nat.le_refl _
 |cons x l ih=>
  simp only[dY];split<;>simp only[List.length_cons]<;>omega
theorem sd {k:κ}:∀{l:List α} {j:Nat} {x:α},j<dY lt key k l->l[j]? =some x->lt (key x) k=true
 | [],j,x,h,_=>by simp [dY] at h
 |y::l,j,x,h,hx=>by
  simp only[dY] at h;split at h
  ·rename_i hy
   cases j with
   |zero=>simp at hx;subst hx;exact hy
   |succ j=>exact sd (l:=l) (j:=j) (by omega) (by simpa using hx)
  ·omega
theorem uU (O:LO lt) {k:κ}:∀{l:List α} {j:Nat} {x:α},dm lt key l->dY lt key k l<=j->l[j]? =some x->lt (key x) k=false
 | [],j,x,_,_,hx=>by simp at hx
 |y::l,j,x,hs,h,hx=>by
  simp only[dY] at h;unfold dm at hs;rw[List.pairwise_cons] at hs;split at h
  ·cases j with
   |zero=>omega
   |succ j=>exact uU O (l:=l) (j:=j) hs.2 (by omega) (by simpa using hx)
  ·rename_i hy
   cases j with
   |zero=>simp at hx;subst hx;simpa using hy
   |succ j=>
    have h2:x∈l:=List.mem_of_getElem? (by simpa using hx);cases h':lt (key x) k
    ·rfl
    ·have:=O.trans (hs.1 x h2) h'
     exact absurd this hy
theorem L6 (O:LO lt) {k:κ}:∀{l:List α},dm lt key l->(∀x∈l,lt k (key x)=true)->bT key k l=none:=by
 intro l _ h;unfold bT;rw[List.find?_eq_none];intro x hx;have:=O.ne (h x hx);simp;exact λe=>this e.symm
theorem ll (O:LO lt) {k:κ}:∀{l:List α},dm lt key l->bT key k l=aj l[dY lt key k l]? λx=>if key x=k then some x else none
 | [],_=>rfl
 |y::l,hs=>by
  unfold dm at hs;rw[List.pairwise_cons] at hs;have ih:=ll O (k:=k) hs.2;simp only[dY];by_cases hy:lt (key y) k=true
  ·rw[if_pos hy]
   simp only[List.getElem?_cons_succ];rw[<-ih];unfold bT;rw[List.find?_cons];simp [O.ne hy]
  ·rw[if_neg hy]
   simp only[List.getElem?_cons_zero,ae];unfold bT;rw[List.find?_cons];by_cases he:key y=k
   ·simp [he]
   ·simp only[he,decide_false,if_false]
    have h1:lt k (key y)=true:=by
     rcases O.tri (key y) k with h|h|h
     ·exact absurd h hy
     ·exact absurd h he
     ·exact h
    exact L6 O hs.2 (λx hx=>O.trans h1 (hs.1 x hx))
theorem qj {k:κ} {l:List α} (h:bT key k l=none):eR key k l=l:=by
 unfold bT at h;unfold eR;rw[List.find?_eq_none] at h;rw[List.filter_eq_self];intro x hx;have:=h x hx;simpa using this
theorem E0 (O:LO lt) {k:κ} {l:List α} (h:∀x∈l,lt k (key x)=true):eR key k l=l:=by
 unfold eR;rw[List.filter_eq_self];intro x hx;have:=O.ne (h x hx);simp;exact λe=>this e.symm
theorem r6 (O:LO lt) {k:κ}:∀{l:List α} {x:α},dm lt key l->l[dY lt key k l]? =some x->key x=k->eR key k l=l.take (dY lt key k l)++l.drop (dY lt key k l+1)
 | [],x,_,h,_=>by simp at h
 |y::l,x,hs,h,hk=>by
  unfold dm at hs;rw[List.pairwise_cons] at hs;simp only[dY] at h⊢;by_cases hy:lt (key y) k=true
  ·rw[if_pos hy] at h⊢
   have:=r6 O (k:=k) hs.2 (by simpa using h) hk;simp only[List.take_succ_cons,List.drop_succ_cons,List.cons_append];rw[<-this];unfold eR;rw[List.filter_cons];simp [O.ne hy]
  ·rw[if_neg hy] at h⊢
   simp at h;subst h;simp only[List.take_zero,List.nil_append,List.drop_succ_cons,List.drop_zero,Nat.zero_add];have:=E0 O (key:=key) (l:=l) (k:=k) (λz hz=>by rw[<-hk];exact hs.1 z hz);rw[<-this];unfold eR;rw[List.filter_cons];simp [hk]
theorem Pt (O:LO lt) {x:α}:∀{l:List α},(∀y∈l,lt (key x) (key y)=true)->jB lt key x l=x::l
 | [],_=>rfl
 |y::l,h=>by simp only[jB];rw[if_pos (h y (by simp))]
theorem vr (O:LO lt) {x:α}:∀{l:List α},dm lt key l->bT key (key x) l=none->p9 lt key x l=l.take (dY lt key (key x) l)++x::l.drop (dY lt key (key x) l):=by
 intro l hs hf;unfold p9;rw[qj hf];induction l with
 |nil=>rfl
 |cons y l ih=>
  unfold dm at hs;rw[List.pairwise_cons] at hs;have hf':¬key y=key x/\bT key (key x) l=none:=by
   unfold bT at hf⊢;rw[List.find?_cons] at hf;split at hf
   ·cases hf
   ·rename_i h;exact⟨by simpa using h,hf⟩
  simp only[dY,jB];by_cases hy:lt (key y) (key x)=true
  ·rw[if_pos hy,O.asymm hy]
   simp only[List.take_succ_cons,List.drop_succ_cons,List.cons_append,Bool.false_eq_true,if_false];rw[ih hs.2 hf'.2]
  ·rw[if_neg hy]
   have h1:lt (key x) (key y)=true:=by
    rcases O.tri (key y) (key x) with h|h|h
    ·exact absurd h hy
    ·exact absurd h hf'.1
    ·exact h
   rw[if_pos h1];rfl
theorem Cd (O:LO lt) {x:α}:∀{a b:List α},(∀y∈a,lt (key y) (key x)=true)->jB lt key x (a++b)=a++jB lt key x b
 | [],b,_=>rfl
 |y::a,b,h=>by
  simp only[List.cons_append,jB];rw[O.asymm (h y (by simp))];simp only[Bool.false_eq_true,if_false];rw[Cd O (λz hz=>h z (by simp [hz]))]
theorem El (O:LO lt) {x y:α} {l:List α} (hs:dm lt key l) (h:l[dY lt key (key x) l]? =some y) (hk:key y=key x):p9 lt key x l=l.set (dY lt key (key x) l) x:=by
 unfold p9;rw[r6 O hs h hk];have hc:=(List.getElem?_eq_some_iff.1 h).1;have h1:∀z∈l.take (dY lt key (key x) l),lt (key z) (key x)=true:=by
  intro z hz;obtain⟨j,hj,e⟩:=List.getElem_of_mem hz;have hj':j<dY lt key (key x) l:=by simp at hj;omega
  exact sd hj' (by rw[<-e];simp)
 have h2:∀z∈l.drop (dY lt key (key x) l+1),lt (key x) (key z)=true:=by
  intro z hz;unfold dm at hs;rw[<-List.take_append_drop (dY lt key (key x) l) l,List.pairwise_append] at hs;have hd:=hs.2.1;rw[List.drop_eq_getElem_cons hc,List.pairwise_cons] at hd;have:=hd.1 z hz;rw[List.getElem?_eq_getElem hc] at h;cases h;rw[<-hk];exact this
 rw[Cd O h1,Pt O h2,List.set_eq_take_append_cons_drop,if_pos hc]
theorem vd {x y:α}:∀{l:List α},y∈jB lt key x l↔y=x\/y∈l
 | [] =>by simp [jB]
 |z::l=>by
  simp only[jB];split
  ·simp
  ·simp only[List.mem_cons,vd (l:=l)]
   constructor
   ·rintro(h|h|h)
    ·exact Or.inr (Or.inl h)
    ·exact Or.inl h
    ·exact Or.inr (Or.inr h)
   ·rintro(h|h|h)
    ·exact Or.inr (Or.inl h)
    ·exact Or.inl h
    ·exact Or.inr (Or.inr h)
theorem gm {k:κ} {y:α} {l:List α}:y∈eR key k l↔y∈l/\key y≠k:=by
 unfold eR;rw[List.mem_filter];simp
theorem zr {x y:α} {l:List α}:y∈p9 lt key x l↔y=x\/(y∈l/\key y≠key x):=by
 unfold p9;rw[vd,gm]
theorem eJ {k:κ} {l:List α} (h:dm lt key l):dm lt key (eR key k l):=List.Pairwise.filter _ h
theorem wz (O:LO lt) {x:α}:∀{l:List α},dm lt key l->(∀y∈l,key y≠key x)->dm lt key (jB lt key x l)
 | [],_,_=>by unfold dm jB;simp
 |y::l,hs,hn=>by
  unfold dm at hs⊢;rw[List.pairwise_cons] at hs;simp only[jB];split
  ·rename_i h
   rw[List.pairwise_cons];refine⟨λz hz=> ?_,List.pairwise_cons.2 hs⟩;simp only[List.mem_cons] at hz;rcases hz with rfl|hz
   ·exact h
   ·exact O.trans h (hs.1 z hz)
  ·rename_i h
   rw[List.pairwise_cons];refine⟨λz hz=> ?_,wz O hs.2 (λz hz=>hn z (by simp [hz]))⟩;rw[vd] at hz;rcases hz with rfl|hz
   ·rcases O.tri (key y) (key z) with h'|h'|h'
    ·exact h'
    ·exact absurd h' (hn y (by simp))
    ·exact absurd h' h
   ·exact hs.1 z hz
theorem pn (O:LO lt) {x:α} {l:List α} (h:dm lt key l):dm lt key (p9 lt key x l):=
 wz O (eJ h) (λy hy=>(gm.1 hy).2)
theorem r4 {x:α} {k:κ} {l:List α} (hn:∀y∈l,key y≠key x):bT key k (jB lt key x l)=if key x=k then some x else bT key k l:=by
 induction l with
 |nil=>
  unfold bT jB;simp only[List.find?_cons,List.find?_nil];by_cases h:key x=k<;>simp [h]
 |cons y l ih=>
  simp only[jB];split
  ·unfold bT
   rw[List.find?_cons];by_cases h:key x=k<;>simp [h]
  ·have ih:=ih (λz hz=>hn z (by simp [hz]))
   unfold bT at ih⊢;rw[List.find?_cons,List.find?_cons,ih];by_cases h:key y=k
   ·have:¬key x=k:=by intro e;exact hn y (by simp) (h.trans e.symm)
    simp [h,this]
   ·simp [h]
theorem qo {k k':κ} {l:List α}:bT key k' (eR key k l)=if k=k' then none else bT key k' l:=by
 unfold bT eR;rw[List.find?_filter];by_cases h:k=k'
 ·subst h
  rw[if_pos rfl,List.find?_eq_none];intro x _;simp
 ·rw[if_neg h]
  congr 1;funext x;by_cases hx:key x=k'
  ·have:¬key x=k:=by intro e;exact h (e.symm.trans hx)
   simp [hx];intro e;exact h e.symm
  ·simp [hx]
theorem BU {x:α} {k:κ} {l:List α}:bT key k (p9 lt key x l)=if key x=k then some x else bT key k l:=by
 unfold p9;rw[r4 (λy hy=>(gm.1 hy).2),qo];by_cases h:key x=k<;>simp [h]
theorem bX {k:κ} {l:List α} {x:α} (h:bT key k l=some x):x∈l/\key x=k:=by
 unfold bT at h;exact⟨List.mem_of_find?_eq_some h,by have:=List.find?_some h;simpa using this⟩
theorem m5 (O:LO lt) {l:List α} {x:α} (hs:dm lt key l) (h:x∈l):bT key (key x) l=some x:=by
 induction l with
 |nil=>cases h
 |cons y l ih=>
  unfold dm at hs;rw[List.pairwise_cons] at hs;unfold bT at ih⊢;rw[List.find?_cons];simp only[List.mem_cons] at h;rcases h with rfl|h
  ·simp
  ·have:=O.ne (hs.1 x h)
   simp [this];exact ih hs.2 h
theorem rf {x:α}:∀l:List α,(jB lt key x l).length=l.length+1
 | [] =>rfl
 |y::l=>by simp only[jB];split<;>simp [rf l]
theorem dQ {k:κ} {l:List α}:(eR key k l).length<=l.length:=List.length_filter_le _ _
theorem nF {x:α} {l:List α}:(p9 lt key x l).length<=l.length+1:=by
 unfold p9;rw[rf];have:=dQ (key:=key) (k:=key x) (l:=l);omega
theorem E1 (O:LO lt):∀{l m:List α},dm lt key l->dm lt key m->(∀x,x∈l↔x∈m)->l=m
 | [], [],_,_,_=>rfl
 | [],y::m,_,_,h=>by have:=(h y).2 (by simp);cases this
 |x::l, [],_,_,h=>by have:=(h x).1 (by simp);cases this
 |x::l,y::m,hl,hm,h=>by
  unfold dm at hl hm;rw[List.pairwise_cons] at hl hm;have hxy:x=y:=by
   have h1:=(h x).1 (by simp);have h2:=(h y).2 (by simp);simp only[List.mem_cons] at h1 h2;rcases h1 with h1|h1
   ·exact h1
   ·rcases h2 with h2|h2
    ·exact h2.symm
    ·have a:=hm.1 x h1
     have b:=hl.1 y h2;rw[O.asymm a] at b;cases b
  subst hxy;congr 1;refine E1 O hl.2 hm.2 λz=> ?_
  have hz:=h z;simp only[List.mem_cons] at hz;constructor
  ·intro hzl
   rcases hz.1 (Or.inr hzl) with rfl|h
   ·have:=hl.1 z hzl;rw[O.irrefl] at this;cases this
   ·exact h
  ·intro hzm
   rcases hz.2 (Or.inr hzm) with rfl|h
   ·have:=hm.1 z hzm;rw[O.irrefl] at this;cases this
   ·exact h
theorem fU (O:LO lt) {l m:List α} (hl:dm lt key l) (hm:dm lt key m) (h:∀k,bT key k l=bT key k m):l=m:=by
 refine E1 O hl hm λx=>⟨λhx=> ?_,λhx=> ?_⟩
 ·have:=m5 O hl hx
  rw[h] at this;exact(bX this).1
 ·have:=m5 O hm hx
  rw[<-h] at this;exact(bX this).1
end
theorem DA {R:Type} (F:Nat->Int->Int->Option R) (p:Nat->Bool) (len c:Nat) (k0:Int->Option R) (hlen:len<=1099511627775)
 (h1:∀(n lo hi:Nat),lo<hi->hi<=len->F (n+1) (lo:Int) (hi:Int)=if p ((lo+hi)/2) then F n (((lo+hi)/2+1:Nat):Int) (hi:Int) else F n (lo:Int) (((lo+hi)/2:Nat):Int))
 (h0:∀(n lo:Nat),lo<=len->F (n+1) (lo:Int) (lo:Int)=k0 (lo:Int)) (hp:∀j,j<c->p j=true) (hn:∀j,c<=j->j<len->p j=false):
 ∀(n lo hi:Nat),hi - lo<n->lo<=c->c<=hi->hi<=len->F n (lo:Int) (hi:Int)=k0 (c:Int):=by
 intro n;induction n with
 |zero=>intro lo hi h;omega
 |succ n ih=>
  intro lo hi hd hlo hhi hle;by_cases h:lo<hi
  ·rw[h1 n lo hi h hle]
   by_cases hm:(lo+hi)/2<c
   ·rw[hp _ hm]
    exact ih _ _ (by omega) (by omega) hhi hle
   ·rw[hn _ (by omega) (by omega)]
    exact ih _ _ (by omega) hlo (by omega) (by omega)
  ·have e1:lo=c:=by omega
   have e2:hi=c:=by omega
   subst e1;subst e2;exact h0 n _ hle
theorem CB {lo hi:Nat} (h1:lo<=1099511627775) (h2:hi<=1099511627775):(IntKind.i64.wrap (Int.fdiv (IntKind.u64.wrap (IntKind.i64.wrap ((lo:Int)+(hi:Int)))) (2^(min (Int.toNat (1:Int)) (IntKind.bits .u64)))))=(((lo+hi)/2:Nat):Int):=by
 rw[bN (n:=(lo:Int)+hi) (by omega) (by omega)];have e1:IntKind.u64.wrap ((lo:Int)+(hi:Int))=(lo:Int)+hi:=by
  simp [IntKind.wrap,IntKind.bits,IntKind.signed];omega
 have e2:(2:Int)^(min (Int.toNat (1:Int)) (IntKind.bits .u64))=2:=by decide
 rw[e1,e2,Int.fdiv_eq_ediv_of_nonneg _ (by omega)];rw[bN (by omega) (by omega)];omega
instance ah9:DecidableEq Entry:=λa b=>
 if h:a.name=b.name/\a.ino=b.ino then isTrue (by cases a;cases b;simp at h;simp [h.1,h.2]) else isFalse (by intro e;subst e;exact h ⟨rfl,rfl⟩)
theorem I3 {b:Bool} {h:Decidable (b=true)}:(@ite _ (b=true) h (some true) (some false))=some b:=by
 split
 ·rename_i e;rw[e]
 ·rename_i e;have:b=false:=by simpa using e
  rw[this]
theorem loS:LO ltS:=⟨nH,λh1 h2=>si h1 h2,CF⟩
abbrev gU (l:List Entry):Prop:=dm ltS Entry.name l
abbrev cM (n:Str) (l:List Entry):Option Entry:=bT Entry.name n l
abbrev cH (n:Str) (l:List Entry):List Entry:=eR Entry.name n l
abbrev fg (x:Entry) (l:List Entry):List Entry:=p9 ltS Entry.name x l
abbrev pB (n:Str) (l:List Entry):Nat:=dY ltS Entry.name n l
def Sm (l:List Entry):Prop:=l.length<=1073741824/\∀e∈l,e.name.length<=1099511627775
theorem oo (a b:Str):(a==b)=decide (a=b):=by
 rw[Bool.eq_iff_iff,beq_iff_eq,decide_eq_true_eq]
theorem Bm {l:List Entry} {n:Str} (hl:l.length<=1073741824):kL l n=some (match cM n l with|some e=>(e.ino,true) |none=>(0,false)):=by
 unfold kL;refine(bE (l:=l) (λm i (_:Unit)=>ib l n (λz8=>some (z8,true)) (some ((0:Int),false)) m i) (λk x s K=>if decide (x.name=n) then some (x.ino,true) else K s) (λ_=>some ((0:Int),false)) (by omega) (λm k x u hk hx=> ?_) (λm u=> ?_) ()).trans ?_
 ·simp only[ib]
  rw[dec_lt hk,bu,toNat_cast,hx,aP (by omega)];simp only[aw,ae,aV,if_true,oo]
 ·simp only[ib]
  rw[bF (Nat.le_refl _)];rfl
 ·unfold cM bT
  generalize 0=q;clear hl;revert q;induction l with
  |nil=>intro q;rfl
  |cons y l ih=>
   intro q;simp only[dh,List.find?_cons];by_cases h:y.name=n
   ·simp [h]
   ·simp [h];simpa using ih (q+1)
theorem oN {α R:Type} (p:α->Bool) (kk:List α->Option R):∀(l:List α) (k:Nat) (s:List α),s.length+l.length<=LIM->
 dh (λ_ x s K=>if p x then aS (s.length+[x].length) (K (s++[x])) else K s) kk k l s=kk (s++l.filter p)
 | [],_,s,_=>by simp [dh]
 |x::l,k,s,h=>by
  simp only[dh,List.filter_cons];simp only[List.length_cons] at h;split
  ·rw[bC (by simp;omega),oN p kk l _ _ (by simp;omega)];simp
  ·rw[oN p kk l _ _ (by omega)]
theorem lg {l:List Entry} {n:Str} (hl:l.length<=1073741824):eQ l n=some (cH n l):=by
 unfold eQ;refine(bE (l:=l) (λm i s=>dX l n (λz8=>some z8) m i s) (λ_ x s K=>if !decide (x.name=n) then aS (s.length+[x].length) (K (s++[x])) else K s) (λz=>some z) (by omega) (λm k x s hk hx=> ?_) (λm s=> ?_) []).trans ?_
 ·simp only[dX]
  rw[dec_lt hk,bu,toNat_cast,hx,aP (by omega)];simp only[aw,ae,aV,if_true,oo]
 ·simp only[dX]
  rw[bF (Nat.le_refl _)];rfl
 ·rw[oN _ _ _ _ _ (by unfold LIM;simp;omega)];rfl
theorem mY {α κ R:Type} {lt:κ->κ->Bool} {key:α->κ} (x:α) (kk:List α->Option R):∀(l:List α) (k:Nat) (s:Bool×List α),s.2.length+l.length+(if s.1 then 0 else 1)<=LIM->
 dh (λ_ y (s:Bool×List α) K=>if !s.1 then (if lt (key x) (key y) then aS (s.2.length+[x].length) (aS ((s.2++[x]).length+[y].length) (K (true,(s.2++[x])++[y]))) else aS (s.2.length+[y].length) (K (s.1,s.2++[y]))) else aS (s.2.length+[y].length) (K (s.1,s.2++[y])))
  (λs=>if !s.1 then aS (s.2.length+[x].length) (kk (s.2++[x])) else kk s.2) k l s=kk (s.2++if s.1 then l else jB lt key x l)
 | [],_,(b,s),h=>by
  simp only[dh];cases b
  ·simp only[Bool.not_false,if_true]
   rw[bC (by simp at h⊢;omega)];simp [jB]
  ·simp
 |y::l,k,(b,s),h=>by
  simp only[dh];simp only[List.length_cons] at h;cases b
  ·simp only[Bool.not_false,if_true]
   simp at h;by_cases hy:lt (key x) (key y)=true
   ·rw[if_pos hy,bC (by simp;omega),bC (by simp;omega),mY x kk l _ _ (by simp;omega)]
    simp [jB,hy]
   ·rw[if_neg hy,bC (by simp;omega),mY x kk l _ _ (by simp;omega)]
    simp [jB,hy]
  ·simp only[Bool.not_true]
   simp at h;rw[if_neg (by simp),bC (by simp;omega),mY x kk l _ _ (by simp;omega)];simp
theorem Y_ (a b:Str):(!(Op.bytesLess a b||a==b))=ltS b a:=by
 rw[oo];rcases CF a b with h|h|h
 ·have:=Bz h
  have h:Op.bytesLess a b=true:=h;rw[h,this];rfl
 ·subst h
  have:=nH a;rw[this];simp
 ·have h1:=Bz h
  have h2:=UE h;have h1:Op.bytesLess a b=false:=h1;rw[h,h1];simp;exact λe=>h2 e.symm
theorem oK {l:List Entry} {n:Str} {i:Int} (hl:l.length<=1073741824):gN l n i=some (fg ⟨n,i⟩ l):=by
 unfold gN;rw[lg hl];simp only[ae];have hfl:(cH n l).length<=l.length:=dQ;unfold fg p9;show _=some (jB ltS Entry.name ⟨n,i⟩ (cH n l));generalize cH n l=rest at hfl⊢;refine(bE (l:=rest) (λm i' s=>eT n i rest (λz16 z17=>ah (!z16) (aS (z17.length+[(⟨n,i⟩:Entry)].length) (some (z17++[(⟨n,i⟩:Entry)]))) (some z17)) m s.1 i' s.2)
  (λ_ y (s:Bool×List Entry) K=>if !s.1 then (if ltS n y.name then aS (s.2.length+[(⟨n,i⟩:Entry)].length) (aS ((s.2++[(⟨n,i⟩:Entry)]).length+[y].length) (K (true,(s.2++[(⟨n,i⟩:Entry)])++[y]))) else aS (s.2.length+[y].length) (K (s.1,s.2++[y]))) else aS (s.2.length+[y].length) (K (s.1,s.2++[y])))
  (λs=>if !s.1 then aS (s.2.length+[(⟨n,i⟩:Entry)].length) (some (s.2++[(⟨n,i⟩:Entry)])) else some s.2) (by omega) (λm k y s hk hx=> ?_) (λm s=> ?_) (false, [])).trans ?_
 ·simp only[eT]
  rw[dec_lt hk,bu,toNat_cast,hx,aP (by omega)];simp only[aw,ae,aV,if_true,Y_]
 ·simp only[eT]
  rw[bF (Nat.le_refl _),ax];simp only[aV]
 ·rw[mY (lt:=ltS) (key:=Entry.name) (⟨n,i⟩:Entry) (λz=>some z) _ _ _ (by unfold LIM;simp;omega)]
  rfl
theorem eqE (a b:Entry):((a.name==b.name)&&(a.ino==b.ino))=decide (a=b):=by
 rw[Bool.eq_iff_iff];cases a;cases b;simp
theorem pt {α R:Type} [DecidableEq α] (kr k0:Option R):∀(l m:List α) (k:Nat) (m0:List α),l.length=m.length->m0.length=k->dh (λk x (_:Unit) K=>aj (m0++m)[k]? λy=>if decide (x=y) then K () else kr) (λ_=>k0) k l ()=if l=m then k0 else kr
 | [], [],_,_,_,_=>rfl
 | [],_::_,_,_,h,_=>by simp at h
 |_::_, [],_,_,h,_=>by simp at h
 |x::l,y::m,k,m0,h,hk=>by
  simp only[dh];have e:(m0++y::m)[k]? =some y:=by subst hk;simp
  rw[e,ae];have ih:=pt kr k0 l m (k+1) (m0++[y]) (by simpa using h) (by simp [hk]);have e2:m0++[y]++m=m0++y::m:=by simp
  rw[e2] at ih;by_cases hxy:x=y
  ·subst hxy
   simp only[decide_true,if_true,List.cons.injEq,true_and];exact ih
  ·simp [hxy]
theorem AZ {a b:List Entry} (hl:a.length<=1073741824):pJ a b=some (decide (a=b)):=by
 unfold pJ;rw[aV];by_cases h:a.length=b.length
 ·have e:((List.length a:Int) !=(List.length b:Int))=false:=by rw[h];simp
  rw[e,if_neg (by simp)];refine(bE (l:=a) (λm i (_:Unit)=>ie a b (some false) (some true) m i) (λk x (_:Unit) K=>aj ([] ++b)[k]? λy=>if decide (x=y) then K () else some false) (λ_=>some true) (by omega) (λm k x u hk hx=> ?_) (λm u=> ?_) ()).trans ?_
  ·simp only[ie]
   rw[dec_lt hk,bu,toNat_cast,hx,aP (by omega)];simp only[aw,ae,aV,if_true,List.nil_append];have hk':k<b.length:=by omega
   rw[List.getElem?_eq_getElem hk'];simp only[ae,eqE];by_cases hxy:x=b[k]<;>simp [hxy]
  ·simp only[ie]
   rw[bF (Nat.le_refl _)];rfl
  ·rw[pt _ _ a b 0 [] h rfl]
   by_cases hab:a=b<;>simp [hab]
 ·have e:((List.length a:Int) !=(List.length b:Int))=true:=by rw[bne_iff_ne];omega
  rw[e,if_pos rfl];have:¬a=b:=λe=>h (by rw[e])
  simp [this]
def lh:Option Str->List Entry->Bool
 |_, [] =>true
 |none,x::l=>lh (some x.name) l
 |some n,x::l=>ltS n x.name&&lh (some x.name) l
def gG (l:List Entry):Bool:=l.all (λe=>eP e.name&&decide (1<=e.ino))&&lh none l
theorem xm:∀(l:List Entry) (p:Option Str),lh p l=true↔(gU l/\∀n,p=some n->∀x∈l,ltS n x.name=true)
 | [],p=>by simp [lh,gU,dm]
 |x::l,p=>by
  have ih:=xm l (some x.name);have key:(gU l/\∀n,some x.name=some n->∀x∈l,ltS n x.name=true)↔gU (x::l):=by
   unfold gU dm;rw[List.pairwise_cons];constructor
   ·rintro⟨h1,h2⟩;exact⟨h2 _ rfl,h1⟩
   ·rintro⟨h1,h2⟩;exact⟨h2,λn e=>by cases e;exact h1⟩
  rw[key] at ih;cases p with
  |none=>simp only[lh,ih];simp
  |some n=>
   simp only[lh,Bool.and_eq_true,ih];constructor
   ·rintro⟨h1,h2⟩
    refine⟨h2,λn' e=> ?_⟩;cases e;intro y hy;simp only[List.mem_cons] at hy;rcases hy with rfl|hy
    ·exact h1
    ·unfold gU dm at h2
     rw[List.pairwise_cons] at h2;exact si h1 (h2.1 y hy)
   ·rintro⟨h1,h2⟩
    exact⟨h2 n rfl x (by simp),h1⟩
theorem iK (l:List Entry):gG l=true↔(gU l/\∀e∈l,eP e.name=true/\1<=e.ino):=by
 unfold gG;simp only[Bool.and_eq_true,List.all_eq_true,decide_eq_true_eq,xm];constructor
 ·rintro⟨h1,h2,_⟩;exact⟨h2,h1⟩
 ·rintro⟨h1,h2⟩;exact⟨h2,h1,λn e=>by cases e⟩
def w8 (m:List Entry):Option Str:=m.getLast?.map Entry.name
theorem zf {R:Type} (kr k0:Option R) (hc:R->Prop):∀(l:List Entry) (k:Nat) (m:List Entry),m.length=k->
 dh (λk (x:Entry) (_:Unit) K=>if eP x.name then (if decide (1<=x.ino) then (if 0<k then (aj (m++l)[k - 1]? λy=>if ltS y.name x.name then K () else kr) else K ()) else kr) else kr) (λ_=>k0) k l ()=if l.all (λe=>eP e.name&&decide (1<=e.ino))&&lh (w8 m) l then k0 else kr
 | [],k,m,_=>by cases h:w8 m<;>simp [dh,lh]
 |x::l,k,m,hk=>by
  simp only[dh];have ih:=zf kr k0 hc l (k+1) (m++[x]) (by simp [hk]);have e2:m++[x]++l=m++x::l:=by simp
  have e3:w8 (m++[x])=some x.name:=by simp [w8]
  rw[e2,e3] at ih;rw[ih];simp only[List.all_cons];by_cases h1:eP x.name=true
  case neg=>simp [h1]
  ·by_cases h2:decide (1<=x.ino)=true
   case neg=>simp [h1,h2]
   ·simp only[h1,h2,if_true,Bool.true_and]
    rcases List.eq_nil_or_concat m with rfl|⟨m',y,rfl⟩
    ·simp at hk;subst hk
     simp [w8,lh]
    ·have hk':0<k:=by simp at hk;omega
     rw[if_pos hk'];have e:(m'++[y]++x::l)[k - 1]? =some y:=by
      have:k - 1=m'.length:=by simp at hk;omega
      rw[this];simp
     have e4:w8 (m'.concat y)=some y.name:=by simp [w8]
     simp only[List.concat_eq_append] at e4⊢;rw[e,e4,ae];simp only[lh];by_cases h3:Op.bytesLess y.name x.name=true<;>simp [ltS,h3]
theorem BN {k:Nat} (h:0<k) (h2:k<=1099511627775):IntKind.i64.wrap ((k:Int) - 1)=((k - 1:Nat):Int):=by
 rw[bN (by omega) (by omega)];omega
theorem Ar {l:List Entry} (hs:Sm l):oc l=some (gG l):=by
 have hl:=hs.1;unfold oc;refine(bE (l:=l) (λm i (_:Unit)=>eY l (some false) (some true) m i) (λk (x:Entry) (_:Unit) K=>if eP x.name then (if decide (1<=x.ino) then (if 0<k then (aj ([] ++l)[k - 1]? λy=>if ltS y.name x.name then K () else some false) else K ()) else some false) else some false) (λ_=>some true) (by omega) (λm k x u hk hx=> ?_) (λm u=> ?_) ()).trans ?_
 ·simp only[eY]
  have hn:=hs.2 x (List.mem_of_getElem? hx);rw[dec_lt hk,bu,toNat_cast,hx,aP (by omega)];simp only[aw,ae,aV,if_true,List.nil_append,mP hn];cases h1:eP x.name
  ·simp
  ·have e1:decide (x.ino<(1:Int))= !decide (1<=x.ino):=by
    by_cases h:1<=x.ino
    ·have:¬x.ino<1:=by omega
     simp [h,this]
    ·have:x.ino<1:=by omega
     simp [h,this]
   rw[e1];cases h2:decide (1<=x.ino)
   ·simp
   ·simp only[Bool.not_true,Bool.false_eq_true,if_false,if_true]
    by_cases hk0:0<k
    ·have e2:decide ((k:Int)>(0:Int))=true:=by simp;omega
     rw[e2,if_pos rfl,if_pos hk0,BN hk0 (by omega),bu,toNat_cast,if_pos rfl];have hk1:k - 1<l.length:=by omega
     rw[List.getElem?_eq_getElem hk1];simp only[ae];by_cases h3:Op.bytesLess l[k - 1].name x.name=true<;>simp [ltS,h3]
    ·have e2:decide ((k:Int)>(0:Int))=false:=by simp;omega
     rw[e2,if_neg (by simp),if_neg hk0]
 ·simp only[eY]
  rw[bF (Nat.le_refl _)];rfl
 ·rw[zf (some false) (some true) (λ_=>True) l 0 [] rfl]
  unfold gG;simp only[w8,List.getLast?_nil,Option.map_none];exact I3
def Ct (n:Str) (l:List Entry):Bool:=match l[pB n l]? with|some x=>decide (x.name=n) |none=>false
theorem q9 {l:List Entry} {n:Str} (hs:gU l) (hl:l.length<=1073741824):o6 l n=some ((pB n l:Int),Ct n l):=by
 unfold o6;have hc:pB n l<=l.length:=nY l;have e0:∀(k0:Int->Option (Int×Bool)),eW l n k0 bx (0:Int) (List.length l:Int)=k0 (pB n l:Int):=by
  intro k0;refine DA (λm a b=>eW l n k0 m a b) (λj=>match l[j]? with|some x=>ltS x.name n|none=>false) l.length (pB n l) k0 (by omega) (λm lo hi h1 h2=> ?_) (λm lo h1=> ?_) (λj hj=> ?_) (λj hj hj2=> ?_) bx 0 l.length (fp (by omega)) (Nat.zero_le _) hc (Nat.le_refl _)
  ·simp only[eW]
   have hm:(lo+hi)/2<l.length:=by omega
   rw[dec_lt h1,CB (by omega) (by omega),bu,toNat_cast,List.getElem?_eq_getElem hm,aP (by omega)];have e1:decide ((1:Int)<0)=false:=rfl;simp only[e1,aw,ax,ae,strings_Compare,zm,aV,if_true,Bool.false_eq_true,if_false]
  ·simp only[eW]
   rw[bF (Nat.le_refl _),ax]
  ·have hj':j<l.length:=by omega
   have:=sd (lt:=ltS) (key:=Entry.name) hj (List.getElem?_eq_getElem hj');simp only[List.getElem?_eq_getElem hj'];exact this
  ·have:=uU loS (k:=n) hs hj (List.getElem?_eq_getElem hj2)
   simp only[List.getElem?_eq_getElem hj2];exact this
 rw[e0];unfold Ct;by_cases h:pB n l<l.length
 ·rw[dec_lt h,bu,toNat_cast,List.getElem?_eq_getElem h]
  simp only[aw,ae,strings_Compare,zK,oo]
 ·rw[bF (by omega),ax,List.getElem?_eq_none (by omega)]
theorem BE {l:List Entry} {n:Str} (hs:gU l):cM n l=aj l[pB n l]? λx=>if x.name=n then some x else none:=ll loS hs
theorem AX {l:List Entry} {n:Str} (hs:gU l) (hl:l.length<=1073741824):na l n=some (match cM n l with|some e=>(e.ino,true) |none=>(0,false)):=by
 unfold na;rw[q9 hs hl,BE hs];simp only[ae];unfold Ct;rw[bu,toNat_cast];cases h:l[pB n l]? with
 |none=>rfl
 |some x=>
  simp only[ae];by_cases he:x.name=n
  ·simp [he]
  ·simp [he]
theorem JT {R:Type} (x:Option R):both x x=x:=by unfold both;rw[if_pos rfl]
theorem lH {α R:Type} {l:List α} {x y r:Option R} (h1:l= [] ->x=r) (h2:y=r):Cy l x y=r:=by
 unfold Cy;cases l with
 |nil=>rw[h1 rfl,h2];exact JT r
 |cons a l=>exact h2
end Go.Eng
