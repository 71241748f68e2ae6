/- A part of the proofs of the laws of this seat: the engine that reads the program's code, plain functions, or facts of the program's functions. Conditions: none. -/
import Derived.Ground.NamesProg
import Derived.Shelf.Small.Strs
import Derived.Shelf.Strings.Search1
import Derived.Shelf.Strings.OnBuilder
import Derived.Test.YtkdpombpeoiafaaGreatDoorProg
import Derived.Test.YtkdpombpeoiafaaGreatDoorP1
import Derived.Test.YtkdpombpeoiafaaGreatDoorE4
set_option linter.unusedSectionVars false
set_option linter.unusedVariables false
set_option linter.unusedSimpArgs false
set_option linter.unnecessarySimpa false
namespace Go.Proofs
open Go.Shelf
def Tryz.zt:Go.Shelf.Ren:=⟨fun|106=>127|213=>156|265=>171|n=>n,fun|9=>9|3=>3|n=>n,fun|n=>n⟩
theorem Tryz.Kn:Go.Proofs.Lays.n106 Tryz.prog Tryz.zt:={
 mixed:=by kernel_rfl
 f106:=Tryz.func127.trans (congrArg some (by kernel_rfl))
 f213:=Tryz.func156.trans (congrArg some (by kernel_rfl))
 f265:=Tryz.func171.trans (congrArg some (by kernel_rfl))
 t3:=Tryz.underlying3
 a3:=Tryz.isAgg3
 z3:=Tryz.sizeOf3
 v3:=Tryz.zeroValue3
 t9:=Tryz.underlying9
 a9:=Tryz.isAgg9
 z9:=Tryz.sizeOf9
 v9:=Tryz.zeroValue9}
def Tryz.zF:Go.Shelf.Ren:=⟨fun|217=>184|266=>190|n=>n,fun|9=>9|5=>5|3=>3|n=>n,fun|n=>n⟩
theorem Tryz.IT:Go.Proofs.Lays.n217 Tryz.prog Tryz.zF:={
 mixed:=by kernel_rfl
 f217:=Tryz.func184.trans (congrArg some (by kernel_rfl))
 f266:=Tryz.func190.trans (congrArg some (by kernel_rfl))
 t3:=Tryz.underlying3
 a3:=Tryz.isAgg3
 z3:=Tryz.sizeOf3
 v3:=Tryz.zeroValue3
 t5:=Tryz.underlying5
 a5:=Tryz.isAgg5
 z5:=Tryz.sizeOf5
 v5:=Tryz.zeroValue5
 t9:=Tryz.underlying9
 a9:=Tryz.isAgg9
 z9:=Tryz.sizeOf9
 v9:=Tryz.zeroValue9}
def Tryz.ri:Go.Shelf.Ren:=⟨fun|156=>192|165=>194|166=>195|169=>196|240=>197|241=>198|276=>199|277=>200|n=>n,fun|31=>46|9=>9|3=>3|4=>4|0=>0|20=>20|72=>194|76=>198|70=>191|37=>192|75=>197|127=>201|164=>202|5=>5|80=>200|n=>n,fun|n=>n⟩
theorem Tryz.Cy:Go.Proofs.Lays.n156 Tryz.prog Tryz.ri:={
 mixed:=by kernel_rfl
 f156:=Tryz.func192.trans (congrArg some (by kernel_rfl))
 f165:=Tryz.func194.trans (congrArg some (by kernel_rfl))
 f166:=Tryz.func195.trans (congrArg some (by kernel_rfl))
 f169:=Tryz.func196.trans (congrArg some (by kernel_rfl))
 f240:=Tryz.func197.trans (congrArg some (by kernel_rfl))
 f241:=Tryz.func198.trans (congrArg some (by kernel_rfl))
 f276:=Tryz.func199.trans (congrArg some (by kernel_rfl))
 f277:=Tryz.func200.trans (congrArg some (by kernel_rfl))
 t0:=Tryz.underlying0
 a0:=Tryz.isAgg0
 z0:=Tryz.sizeOf0
 v0:=Tryz.zeroValue0
 t3:=Tryz.underlying3
 a3:=Tryz.isAgg3
 z3:=Tryz.sizeOf3
 v3:=Tryz.zeroValue3
 t4:=Tryz.underlying4
 a4:=Tryz.isAgg4
 z4:=Tryz.sizeOf4
 v4:=Tryz.zeroValue4
 t9:=Tryz.underlying9
 a9:=Tryz.isAgg9
 z9:=Tryz.sizeOf9
 v9:=Tryz.zeroValue9
 t20:=Tryz.underlying20
 a20:=Tryz.isAgg20
 z20:=Tryz.sizeOf20
 v20:=Tryz.zeroValue20
 t31:=Tryz.underlying46
 a31:=Tryz.isAgg46
 z31:=Tryz.sizeOf46
 v31:=Tryz.zeroValue46
 t37:=Tryz.underlying192
 a37:=Tryz.isAgg192
 z37:=Tryz.sizeOf192
 v37:=Tryz.zeroValue192
 t70:=Tryz.underlying191
 a70:=Tryz.isAgg191
 z70:=Tryz.sizeOf191
 v70:=Tryz.zeroValue191
 t72:=Tryz.underlying194
 a72:=Tryz.isAgg194
 z72:=Tryz.sizeOf194
 v72:=Tryz.zeroValue194
 t75:=Tryz.underlying197
 a75:=Tryz.isAgg197
 z75:=Tryz.sizeOf197
 v75:=Tryz.zeroValue197
 t76:=Tryz.underlying198
 a76:=Tryz.isAgg198
 z76:=Tryz.sizeOf198
 v76:=Tryz.zeroValue198
 t127:=Tryz.underlying201
 a127:=Tryz.isAgg201
 z127:=Tryz.sizeOf201
 v127:=Tryz.zeroValue201
 t164:=Tryz.underlying202
 a164:=Tryz.isAgg202
 z164:=Tryz.sizeOf202
 v164:=Tryz.zeroValue202}
end Go.Proofs
set_option linter.unusedVariables false
set_option maxRecDepth 100000
namespace Go.Eng
open Go Go.Proofs Go.Shelf
noncomputable instance:aA Tryz.prog:=⟨[]⟩
noncomputable def fi:Spec:=aH (X:=Str×Str) (Y:=Int) [.one .str, .one .str] [.one (.int .i64)] (fun v=>(v.1,v.2.1)) (fun y=>y) (fun x=>strings_Compare x.1 x.2)
theorem kj:aF Tryz.prog 127 fi where
 enters:=enters_of Tryz.func127 (by kernel_rfl) rfl
 calls:=by
  intro S w args vs x y hS _ hal hp hf;simp only[fi,aH] at hp hf⊢;split at hp
  ·rename_i v hv
   cases hp;cases hf;rw[HP.eq hv] at hal;cases hal with
   |cons h1 h2=>
    cases h2 with
    |cons h2 h3=>
     cases h3;rename_i v1 v2;cases (show VA _ w (.str v.1) v1 from h1) with
     |str _ b1 e1=>
      cases (show VA _ w (.str v.2.1) v2 from h2) with
      |str _ b2 e2=>
       refine(Any.strings_Compare Tryz.Kn b1 b2 w).mono ?_;rintro e w' ⟨rfl,rfl⟩;refine⟨_,rfl,Go.RowKit.Below.refl _ _, ?_⟩;rw[e1,e2];exact VA.int _ _
  ·cases hp
noncomputable def bP:Spec:=aH (X:=Str×Int) (Y:=Int) [.one .str, .one (.int .u8)] [.one (.int .i64)] (fun v=>(v.1,v.2.1)) (fun y=>y) (fun x=>stringslite_IndexByte x.1 x.2)
theorem cm:aF Tryz.prog 184 bP where
 enters:=enters_of Tryz.func184 (by kernel_rfl) rfl
 calls:=by
  intro S w args vs x y hS _ hal hp hf;simp only[bP,aH] at hp hf⊢;split at hp
  ·rename_i v hv
   cases hp;cases hf;rw[HP.eq hv] at hal;cases hal with
   |cons h1 h2=>
    cases h2 with
    |cons h2 h3=>
     cases h3;rename_i v1 v2;cases (show VA _ w (.str v.1) v1 from h1) with
     |str _ b1 e1=>
      cases (show VA _ w (.int .u8 v.2.1) v2 from h2) with
      |int _ _=>
       refine(Any.stringslite_IndexByte Tryz.IT b1 v.2.1 w).mono ?_;rintro e w' ⟨rfl,rfl⟩;refine⟨_,rfl,Go.RowKit.Below.refl _ _, ?_⟩;rw[e1];exact VA.int _ _
  ·cases hp
theorem K9:Go.Proofs.Builder.Extra Tryz.prog Tryz.ri where
 sizeBuilder:=by kernel_rfl
 liesBuilder:=by kernel_rfl
 t5:=Tryz.underlying5
 a5:=Tryz.isAgg5
 z5:=Tryz.sizeOf5
 v5:=Tryz.zeroValue5
 infoByte:=by kernel_rfl
 cellsByte:=by kernel_rfl
 sizeByte:=by kernel_rfl
 neB5:=by decide
noncomputable def jt:Spec:=aH (X:=List Str×Str) (Y:=Str) [.one (.sl .str), .one .str] [.one .str] (fun v=>(v.1,v.2.1)) (fun y=>y) (fun x=>strings_Join x.1 x.2)
theorem sf:aF Tryz.prog 192 jt where
 enters:=enters_of Tryz.func192 (by kernel_rfl) rfl
 calls:=by
  intro S w args vs x y hS _ hal hp hf;simp only[jt,aH] at hp hf⊢;split at hp
  ·rename_i v hv
   cases hp;unfold strings_Join at hf;split at hf
   rotate_left
   ·cases hf
   rename_i hlen;have hlen:(Lib.join v.1 v.2.1).length+List.length v.1≤67108864:=hlen;cases hf;rw[HP.eq hv] at hal;cases hal with
   |cons h1 h2=>
    cases h2 with
    |cons h2 h3=>
     cases h3;rename_i v1 v2;cases (show VA _ w (.sl .str v.1) v1 from h1) with
     |sl _ _ ad len cap bk of f hn hc ha hcell hff=>
      cases (show VA _ w (.str v.2.1) v2 from h2) with
      |str _ b2 e2=>
       by_cases hne:v.1= []
       ·have hlen0:len=0:=by rw[hn,hne];rfl
        subst hlen0;refine(Any.strings_Join_none Tryz.Cy K9 ad cap b2 w).mono ?_;rintro e w' ⟨rfl,rfl⟩;refine⟨_,rfl,Go.RowKit.Below.refl _ _, ?_⟩;rw[hne];exact VA.str _ _ rfl
       ·obtain⟨rfl,hSb⟩:=ha hne
        obtain⟨xs,hxl,hxs,hxd⟩:=EX (w:=w) (bk:=bk) (of:=of) v.1 (fun i hi=>by
         have:=hcell i 0 hi (by decide);have h9:=hff i v.1[i] 0 (.str v.1[i]) (by simp [hi]) rfl;generalize f i 0=u at this h9;cases h9 with
         |str _ b e=>exact⟨b,by simpa [Ty.n] using this,e⟩)
        subst hn;have:=Any.strings_Join Tryz.Cy K9 bk of cap xs b2 w hxs (hS bk hSb) (by
         rw[hxl];omega) (by rw[hxl];exact hc) (by
         rw[hxd,e2];omega)
        rw[hxl] at this;refine this.mono ?_;rintro e w' ⟨rfl,hb⟩;refine⟨_,rfl,hb, ?_⟩;rw[hxd,e2];exact VA.str _ _ (by simp)
  ·cases hp
theorem AA:tH Tryz.prog 128:=zE Tryz.func128 (by kernel_rfl) (by kernel_rfl) (tS:=22) (tR:=4) (e:=36) (size:=6) (by kernel_rfl) (by kernel_rfl) (by kernel_rfl) Tryz.sizeOf36
theorem Ab:tH Tryz.prog 130:=zE Tryz.func130 (by kernel_rfl) (by kernel_rfl) (tS:=34) (tR:=4) (e:=94) (size:=2) (by kernel_rfl) (by kernel_rfl) (by kernel_rfl) Tryz.sizeOf94
end Go.Eng
set_option linter.unusedVariables false
set_option maxRecDepth 100000
namespace Go.Eng
noncomputable section
open Go Go.Proofs
def tM:List (Nat×TI):=[(3,⟨false,1, .one (.int .i64 0), .int .i64⟩),(9,⟨false,1, .one (.str []), .str⟩),(34,⟨false,1, .one (.clip .entry []), .slice .entry 94⟩),(94,⟨true,2, .agg [.str [], .int .i64 0], .struct [(0,9),(1,3)]⟩),(155,⟨false,1, .one (.int .u64 0), .int .u64⟩)]
def tA:List (Nat×List EK):= []
theorem Ju:Tryz.prog.follows .mixedOrders=true:=by kernel_rfl
theorem vj:(tM.all fun x=>tiB Tryz.prog x.1 x.2)=true:=by kernel_rfl
theorem u3:(tA.all fun x=>eqB Tryz.prog x.1 x.2)=true:=by kernel_rfl
def Xm:Code:=bd Tryz.f49
def Uy:Code:=bd Tryz.f51
def aj6:Code:=bd Tryz.f78
def RQ:Code:=bd Tryz.f79
def akN:Code:=bd Tryz.f82
def Gc:Code:=bd Tryz.f125
def U3:Code:=bd Tryz.f126
def A0:HS:=⟨[(0, .one (.sl .entry)),(1, .one (.str)),(2, .one (.fnc 126)),(8, .one (.int .i64)),(9, .one (.int .i64)),(10, .one (.int .i64))], [],0⟩
def Jm {R:Type}:Nat→HS.V A0→(Ex→St→Option R)→Option R:=fun q v K=>
 dM v.1.1 v.1.2.1 (fun y11=>K (.exit 0) {ar:=[(0, .v (.one (.sl .entry v.1.1))),(1, .v (.one (.str v.1.2.1))),(2, .v (.one (.fnc 126))),(8, .v (.one (.int .i64 v.1.2.2.2.1))),(9, .v (.one (.int .i64 y11)))],mem:= [],nx:=0}) q v.1.2.2.2.2.1 v.1.2.2.2.2.2.1
def T6:List HV:=[.one (.sl .entry), .one (.str)]
def PW:List HV:=[.one (.int .i64), .one (.bool)]
def akA:HP.V T6→(List Entry)×Str:=fun v=>(v.1,v.2.1)
def aoY:HX.V PW→Int×Bool:=fun v=>(v.1,v.2)
def af6:(Int×Bool)→HX.V PW:=fun y=>(y.1,y.2)
def ajp:(List Entry)×Str→Option (Int×Bool):=fun x=>lK x.1 x.2
def A5:Spec:=aH T6 PW akA af6 ajp
def Tf:Cfg:={T:=tM,spec:=[(127,fi)],aO:=aA.G Tryz.prog,eqs:=tA,N:=9,fuel:=64,fid:=126}
theorem ahg:az Tryz.prog Tf:=aP vj u3 ⟨kj,trivial⟩
def ab3 {R:Type}:Inl R:= .mk 126 Tf [] U3 Tryz.f126.results.toList []
def Rq:Cfg:={T:=tM,spec:=[(127,fi)],aO:=aA.G Tryz.prog,eqs:=tA,N:=9,fuel:=64,fid:=126}
theorem afp:az Tryz.prog Rq:=aP vj u3 ⟨kj,trivial⟩
def acO {R:Type}:Inl R:= .mk 126 Rq [] U3 Tryz.f126.results.toList []
def PB {R:Type}:List (Nat×Hd R):=[(3,bL A0 Jm)]
def Je {R:Type}:List (Nat×Inl R):=[(30,ab3),(46,acO)]
def I7:Cfg:={T:=tM,aO:=aA.G Tryz.prog,eqs:=tA,N:=49,fuel:=64,loops:=[(3,⟨[0,1,2,8,9,10], [], [],0, [], [], [], []⟩)],blocks:=[(0,⟨[0,1,2,8,9], [], [],0, [], [], [], []⟩)],fid:=125}
theorem al6:az Tryz.prog I7:=aP vj u3 trivial
theorem abv {R:Type}:aI Tryz.prog (R:=R) 1 Je:=bI Tryz.f126 ahg (bI Tryz.f126 afp (au _ _))
theorem ad0 {R:Type}:bB (R:=R) (hnd 1 Je) I7 PB (sub [1,1,1,0,0,0] Gc) (HS.V A0) (HS.st A0) (HS.sh A0) Jm (bL A0 Jm):=aT A0 Jm (fun _ _=>rfl) (by intro q v K;kernel_rfl)
theorem apb {R:Type}:aD (R:=R) (hnd 1 Je) I7 PB Gc:=ao (l:=[sub [1,1,1,0,0,0] Gc]) (by kernel_rfl) (aK (b:=sub [1,1,1,0,0,0] Gc) (rid:=3) (by kernel_rfl) (by kernel_rfl) ad0 (trivial))
def af8 {R:Type}:Inl R:= .mk 125 I7 PB Gc Tryz.f125.results.toList Je
def aaM {R:Type}:List (Nat×Hd R):= []
def Si {R:Type}:List (Nat×Inl R):=[(8,af8)]
def Re:Cfg:={T:=tM,aO:=aA.G Tryz.prog,eqs:=tA,N:=11,fuel:=64,fid:=78}
theorem adV:az Tryz.prog Re:=aP vj u3 trivial
theorem ajE {R:Type}:aI Tryz.prog (R:=R) 2 Si:=bA Tryz.f125 al6 apb (bp (by kernel_rfl)) abv (au _ _)
theorem amr {R:Type}:aD (R:=R) (hnd 2 Si) Re aaM aj6:=ao (l:= []) (by kernel_rfl) (trivial)
theorem Db:aF Tryz.prog 78 A5:=bf Tryz.f78 adV Ju (d:=2) ajE amr (bp (by kernel_rfl)) (toY:=aoY)
def Vg:List HV:=[.one (.sl .entry), .one (.str)]
def Qk:List HV:=[.one (.sl .entry)]
def aeU:HP.V Vg→(List Entry)×Str:=fun v=>(v.1,v.2.1)
def Y0:HX.V Qk→(List Entry):=fun v=>(v)
def adI:(List Entry)→HX.V Qk:=fun y=>(y)
def aiw:(List Entry)×Str→Option ((List Entry)):=fun x=>eG x.1 x.2
def OJ:Spec:=aH Vg Qk aeU adI aiw
def Xi:Cfg:={T:=tM,spec:=[(78,A5)],aO:=aA.G Tryz.prog,eqs:=tA,N:=8,fuel:=64,fid:=79}
theorem aaU:az Tryz.prog Xi:=aP vj u3 ⟨Db,trivial⟩
def Z4 {R:Type}:Inl R:= .mk 79 Xi [] RQ Tryz.f79.results.toList []
def YV {R:Type}:List (Nat×Hd R):= []
def UG {R:Type}:List (Nat×Inl R):=[(17,Z4)]
def Ql:Cfg:={T:=tM,spec:=[(78,A5)],aO:=aA.G Tryz.prog,eqs:=tA,N:=35,fuel:=64,fid:=49}
theorem ajR:az Tryz.prog Ql:=aP vj u3 ⟨Db,trivial⟩
theorem abK {R:Type}:aI Tryz.prog (R:=R) 1 UG:=bI Tryz.f79 aaU (au _ _)
theorem ady {R:Type}:aD (R:=R) (hnd 1 UG) Ql YV Xm:=ao (l:= []) (by kernel_rfl) (trivial)
theorem aba:dB Tryz.prog Ql Xm:=bp (by kernel_rfl)
theorem SE:aF Tryz.prog 49 OJ:=bf Tryz.f49 ajR Ju (d:=1) abK ady aba (toY:=Y0)
def T0:List HV:=[.one (.sl .entry), .one (.str), .one (.int .i64)]
def Pg:List HV:=[.one (.sl .entry)]
def ajS:HP.V T0→(List Entry)×Str×Int:=fun v=>(v.1,v.2.1,v.2.2.1)
def ae5:HX.V Pg→(List Entry):=fun v=>(v)
def agk:(List Entry)→HX.V Pg:=fun y=>(y)
def alb:(List Entry)×Str×Int→Option ((List Entry)):=fun x=>dE x.1 x.2.1 x.2.2
def KV:Spec:=aH T0 Pg ajS agk alb
def S7:Cfg:={T:=tM,spec:=[(78,A5)],aO:=aA.G Tryz.prog,eqs:=tA,N:=8,fuel:=64,ovl:=[130],fid:=79}
theorem Y7:az Tryz.prog S7:=aP vj u3 ⟨Db,trivial⟩ (ov:=⟨Ab,trivial⟩)
def abA {R:Type}:Inl R:= .mk 79 S7 [] RQ Tryz.f79.results.toList []
def RC:Cfg:={T:=tM,spec:=[(78,A5)],aO:=aA.G Tryz.prog,eqs:=tA,N:=95,fuel:=64,ovl:=[130],fid:=82}
theorem am0:az Tryz.prog RC:=aP vj u3 ⟨Db,trivial⟩ (ov:=⟨Ab,trivial⟩)
def ah0 {R:Type}:Inl R:= .mk 82 RC [] akN Tryz.f82.results.toList []
def adT {R:Type}:List (Nat×Hd R):= []
def Xd {R:Type}:List (Nat×Inl R):=[(17,abA),(31,ah0)]
def On:Cfg:={T:=tM,spec:=[(78,A5)],aO:=aA.G Tryz.prog,eqs:=tA,N:=32,fuel:=64,ovl:=[130],fid:=51}
theorem adX:az Tryz.prog On:=aP vj u3 ⟨Db,trivial⟩ (ov:=⟨Ab,trivial⟩)
theorem akb {R:Type}:aI Tryz.prog (R:=R) 1 Xd:=bI Tryz.f79 Y7 (bI Tryz.f82 am0 (au _ _))
theorem amE {R:Type}:aD (R:=R) (hnd 1 Xd) On adT Uy:=ao (l:= []) (by kernel_rfl) (trivial)
theorem acn:dB Tryz.prog On Uy:=bp (by kernel_rfl)
theorem Lw:aF Tryz.prog 51 KV:=bf Tryz.f51 adX Ju (d:=1) akb amE acn (toY:=ae5)
def R1:List HV:=[.one (.sl .entry), .one (.str)]
def Pk:List HV:=[.one (.int .i64), .one (.bool)]
def ah_:HP.V R1→(List Entry)×Str:=fun v=>(v.1,v.2.1)
def ad3:HX.V Pk→Int×Bool:=fun v=>(v.1,v.2)
def alf:(Int×Bool)→HX.V Pk:=fun y=>(y.1,y.2)
def ao6:(List Entry)×Str→Option (Int×Bool):=fun x=>iy x.1 x.2
def Fm:Spec:=aH R1 Pk ah_ alf ao6
def ae8:Cfg:={T:=tM,spec:=[(78,A5)],aO:=aA.G Tryz.prog,eqs:=tA,N:=21,fuel:=64,fid:=112}
theorem afv:az Tryz.prog ae8:=aP vj u3 ⟨Db,trivial⟩
theorem Js:aF Tryz.prog 112 Fm:=aV Tryz.f112 afv Ju (toY:=ad3)
end
end Go.Eng
set_option linter.unusedVariables false
set_option maxRecDepth 100000
namespace Go.Eng
noncomputable section
open Go Go.Proofs
def cR:List (Nat×TI):=[(3,⟨false,1, .one (.int .i64 0), .int .i64⟩),(4,⟨false,1, .one (.bool false), .bool⟩),(5,⟨false,1, .one (.int .u8 0), .int .u8⟩),(9,⟨false,1, .one (.str []), .str⟩),(21,⟨false,1, .one (.int .i32 0), .int .i32⟩),(46,⟨false,1, .one (.clip .str []), .slice .str 9⟩),(79,⟨true,3, .agg [.bool false, .clip .str [], .bool false], .struct [(0,4),(1,46),(2,4)]⟩),(81,⟨false,1, .one (.lx), .other⟩),(168,⟨true,256, .agg [.bool false, .bool false, .bool false, .bool false, .bool false, .bool false, .bool false, .bool false, .bool false, .bool false, .bool false, .bool false, .bool false, .bool false, .bool false, .bool false, .bool false, .bool false, .bool false, .bool false, .bool false, .bool false, .bool false, .bool false, .bool false, .bool false, .bool false, .bool false, .bool false, .bool false, .bool false, .bool false, .bool false, .bool false, .bool false, .bool false, .bool false, .bool false, .bool false, .bool false, .bool false, .bool false, .bool false, .bool false, .bool false, .bool false, .bool false, .bool false, .bool false, .bool false, .bool false, .bool false, .bool false, .bool false, .bool false, .bool false, .bool false, .bool false, .bool false, .bool false, .bool false, .bool false, .bool false, .bool false, .bool false, .bool false, .bool false, .bool false, .bool false, .bool false, .bool false, .bool false, .bool false, .bool false, .bool false, .bool false, .bool false, .bool false, .bool false, .bool false, .bool false, .bool false, .bool false, .bool false, .bool false, .bool false, .bool false, .bool false, .bool false, .bool false, .bool false, .bool false, .bool false, .bool false, .bool false, .bool false, .bool false, .bool false, .bool false, .bool false, .bool false, .bool false, .bool false, .bool false, .bool false, .bool false, .bool false, .bool false, .bool false, .bool false, .bool false, .bool false, .bool false, .bool false, .bool false, .bool false, .bool false, .bool false, .bool false, .bool false, .bool false, .bool false, .bool false, .bool false, .bool false, .bool false, .bool false, .bool false, .bool false, .bool false, .bool false, .bool false, .bool false, .bool false, .bool false, .bool false, .bool false, .bool false, .bool false, .bool false, .bool false, .bool false, .bool false, .bool false, .bool false, .bool false, .bool false, .bool false, .bool false, .bool false, .bool false, .bool false, .bool false, .bool false, .bool false, .bool false, .bool false, .bool false, .bool false, .bool false, .bool false, .bool false, .bool false, .bool false, .bool false, .bool false, .bool false, .bool false, .bool false, .bool false, .bool false, .bool false, .bool false, .bool false, .bool false, .bool false, .bool false, .bool false, .bool false, .bool false, .bool false, .bool false, .bool false, .bool false, .bool false, .bool false, .bool false, .bool false, .bool false, .bool false, .bool false, .bool false, .bool false, .bool false, .bool false, .bool false, .bool false, .bool false, .bool false, .bool false, .bool false, .bool false, .bool false, .bool false, .bool false, .bool false, .bool false, .bool false, .bool false, .bool false, .bool false, .bool false, .bool false, .bool false, .bool false, .bool false, .bool false, .bool false, .bool false, .bool false, .bool false, .bool false, .bool false, .bool false, .bool false, .bool false, .bool false, .bool false, .bool false, .bool false, .bool false, .bool false, .bool false, .bool false, .bool false, .bool false, .bool false, .bool false, .bool false, .bool false, .bool false, .bool false, .bool false, .bool false, .bool false, .bool false, .bool false, .bool false, .bool false, .bool false, .bool false, .bool false, .bool false, .bool false, .bool false, .bool false], .array 256 4⟩)]
def cT:List (Nat×List EK):= []
theorem D7:Tryz.prog.follows .mixedOrders=true:=by kernel_rfl
theorem cY:(cR.all fun x=>tiB Tryz.prog x.1 x.2)=true:=by kernel_rfl
theorem cX:(cT.all fun x=>eqB Tryz.prog x.1 x.2)=true:=by kernel_rfl
def ap5:Code:=bd Tryz.f71
def AZ:Code:=bd Tryz.f110
def HO:Code:=bd Tryz.f118
def P1:Code:=bd Tryz.f119
def TP:Code:=bd Tryz.f120
def QS:Code:=bd Tryz.f121
def aeN:Code:=bd Tryz.f122
def oz:Code:=bd Tryz.f150
def jM:Code:=bd Tryz.f151
def C4:Code:=bd Tryz.f152
def ahX:Code:=bd Tryz.f153
def abg:Code:=bd Tryz.f154
def zO:Code:=bd Tryz.f155
def DV:Code:=bd Tryz.f163
def NM:Code:=bd Tryz.f166
def oW:Code:=bd Tryz.f167
def XM:Code:=bd Tryz.f168
def JI:Code:=bd Tryz.f169
def adU:Code:=bd Tryz.f170
def si:Code:=bd Tryz.f176
def alN:Code:=bd Tryz.f177
def ll:Code:=bd Tryz.f178
def UX:Code:=bd Tryz.f180
def aom:Code:=bd Tryz.f181
def Ut:Code:=bd Tryz.f187
def ai9:Code:=bd Tryz.f188
def FY:Code:=bd Tryz.f193
def Bq:HS:=⟨[(0, .one (.yld 10)),(1, .one (.ptr 7 0)),(2, .one (.ptr 6 0)),(3, .one (.ptr 8 0)),(2000002, .one (.ptr 3 0)),(4000000, .one (.str)),(4000002, .one (.ptr 0 0))],[(0, .cells [.bool, .sl .str, .bool]),(3, .cells [.own 11]),(4, .loop true 13 150 3 [(2, .one (.ptr 3 0))]),(5, .cells [.yld 4]),(6, .cells [.str]),(7, .cells [.qL ([47]:Str)]),(8, .cells [.BY .i64 (0:Int)]),(10, .loop true 15 151 3 [(2, .one (.ptr 5 0))]),(11, .row .str)],12⟩
def He {R:Type}:Nat→HS.V Bq→(Ex→St→Option R)→Option R:=fun q v K=>
 bh (fun y8 y9=>K (.exit 2) {ar:=[(0, .v (.one (.yld 10))),(2, .v (.one (.ptr 6 0))),(2000002, .v (.one (.ptr 3 0))),(4000000, .v (.one (.str v.1.2.2.2.2.2.1))),(4000002, .v (.one (.ptr 0 0)))],mem:=[(0, .cells [.bool ((⟨v.2.1.1,v.2.1.2.1,v.2.1.2.2.1⟩:Pth).abs), .sl .str ((⟨v.2.1.1,v.2.1.2.1,v.2.1.2.2.1⟩:Pth).names), .bool ((⟨v.2.1.1,v.2.1.2.1,v.2.1.2.2.1⟩:Pth).bM)]),(3, .cells [.own 11]),(4, .loop true 13 150 3 [(2, .v (.one (.ptr 3 0)))]),(5, .cells [.yld 4]),(6, .cells [.str y8]),(10, .loop true 15 151 3 [(2, .v (.one (.ptr 5 0)))]),(11, .row .str y9)],nx:=12}) q v.2.2.2.2.2.1.1 v.2.2.2.2.2.2.2.2.2.1
def Ub:List HV:=[.one (.str)]
def Qs:List HV:=[.agg [.bool, .sl .str, .bool]]
def ans:HP.V Ub→Str:=fun v=>(v.1)
def acD:HX.V Qs→Pth:=fun v=>((⟨v.1,v.2.1,v.2.2.1⟩:Pth))
def aaf:Pth→HX.V Qs:=fun y=>((y.abs,(y.names,(y.bM,()))))
def abJ:Str→Option (Pth):=fun x=>eo x
def xN:Spec:=aH Ub Qs ans aaf abJ
def Uq:Cfg:={T:=cR,aO:=aA.G Tryz.prog,eqs:=cT,N:=4,fuel:=64,fid:=119}
theorem agB:az Tryz.prog Uq:=aP cY cX trivial
def Yi {R:Type}:Inl R:= .mk 119 Uq [] P1 Tryz.f119.results.toList []
def Rp:Cfg:={T:=cR,aO:=aA.G Tryz.prog,eqs:=cT,N:=8,fuel:=64,fid:=166}
theorem aps:az Tryz.prog Rp:=aP cY cX trivial
def aa1 {R:Type}:Inl R:= .mk 166 Rp [] NM Tryz.f166.results.toList []
def RU {R:Type}:List (Nat×Hd R):= []
def Ph {R:Type}:List (Nat×Inl R):=[(7,aa1)]
def Oe:Cfg:={T:=cR,aO:=aA.G Tryz.prog,eqs:=cT,N:=8,fuel:=64,fid:=152}
theorem aaX:az Tryz.prog Oe:=aP cY cX trivial
theorem af2 {R:Type}:aI Tryz.prog (R:=R) 2 Ph:=bI Tryz.f166 aps (au _ _)
theorem alW {R:Type}:aD (R:=R) (hnd 2 Ph) Oe RU C4:=ao (l:= []) (by kernel_rfl) (trivial)
def apz {R:Type}:Inl R:= .mk 152 Oe RU C4 Tryz.f152.results.toList Ph
def SD {R:Type}:List (Nat×Hd R):= []
def NB {R:Type}:List (Nat×Inl R):= []
def Pl:Cfg:={T:=cR,spec:=[(184,bP)],aO:=aA.G Tryz.prog,eqs:=cT,N:=143,fuel:=64,gk:=some ⟨[4,2000000,2000001,2000002,2000003,4000002,6000000,6000002], [],[0,3,4,5,6,7,8,10,11],12, [], [], [], []⟩,fid:=176}
theorem ajT:az Tryz.prog Pl:=aP cY cX ⟨cm,trivial⟩
theorem apO {R:Type}:aI Tryz.prog (R:=R) 0 NB:=au _ _
theorem abn {R:Type}:aD (R:=R) (hnd 0 NB) Pl SD si:=ao (l:=[sub [1,1,1,1,1,1,1,1,0,0,0] si]) (by kernel_rfl) (dJ (b:=sub [1,1,1,1,1,1,1,1,0,0,0] si) (rid:=15) (by kernel_rfl) (by kernel_rfl) (trivial))
def aaN {R:Type}:Inl R:= .mk 176 Pl SD si Tryz.f176.results.toList NB
def Vk {R:Type}:List (Nat×Hd R):= []
def L2 {R:Type}:List (Nat×Inl R):=[(7,aaN)]
def PF:Cfg:={T:=cR,aO:=aA.G Tryz.prog,eqs:=cT,N:=8,fuel:=64,fid:=163}
theorem aeV:az Tryz.prog PF:=aP cY cX trivial
theorem Xx {R:Type}:aI Tryz.prog (R:=R) 1 L2:=bA Tryz.f176 ajT abn (bp (by kernel_rfl)) apO (au _ _)
theorem al0 {R:Type}:aD (R:=R) (hnd 1 L2) PF Vk DV:=ao (l:= []) (by kernel_rfl) (trivial)
def abW {R:Type}:Inl R:= .mk 163 PF Vk DV Tryz.f163.results.toList L2
def W9:Code:=(cO 3 oz).2.1
def Xg:Code:=(cO 3 oz).2.2
def Nx {R:Type}:List (Nat×Hd R):= []
def Ik {R:Type}:List (Nat×Inl R):= []
def H4:Cfg:={T:=cR,aO:=aA.G Tryz.prog,eqs:=cT,N:=13,fuel:=64,fid:=150,rnd:=true}
theorem agc:az Tryz.prog H4:=aP cY cX trivial
theorem adL {R:Type}:aI Tryz.prog (R:=R) 0 Ik:=au _ _
theorem agq {R:Type}:aD (R:=R) (hnd 0 Ik) H4 Nx W9:=ao (l:= []) (by kernel_rfl) (trivial)
theorem ahm {R:Type}:aD (R:=R) (hnd 0 Ik) H4 Nx Xg:=ao (l:= []) (by kernel_rfl) (trivial)
def ah2 {R:Type}:Inl R:= .rnd 150 3 H4 Nx [7] W9 Xg Ik
def Ra:Code:=(cO 3 jM).2.1
def WW:Code:=(cO 3 jM).2.2
def Nk {R:Type}:List (Nat×Hd R):= []
def K1 {R:Type}:List (Nat×Inl R):=[(12,ah2)]
def Hl:Cfg:={T:=cR,aO:=aA.G Tryz.prog,eqs:=cT,N:=15,fuel:=64,fid:=151,rnd:=true}
theorem ah9:az Tryz.prog Hl:=aP cY cX trivial
theorem ak9 {R:Type}:aI Tryz.prog (R:=R) 1 K1:=cE (by kernel_rfl) agc agq ahm adL (au _ _)
theorem XN {R:Type}:aD (R:=R) (hnd 1 K1) Hl Nk Ra:=ao (l:= []) (by kernel_rfl) (trivial)
theorem ab8 {R:Type}:aD (R:=R) (hnd 1 K1) Hl Nk WW:=ao (l:= []) (by kernel_rfl) (trivial)
def amG {R:Type}:Inl R:= .rnd 151 3 Hl Nk [6] Ra WW K1
def UJ:Code:=(cO 3 oz).2.1
def SY:Code:=(cO 3 oz).2.2
def QK {R:Type}:List (Nat×Hd R):= []
def Ix {R:Type}:List (Nat×Inl R):= []
def HU:Cfg:={T:=cR,aO:=aA.G Tryz.prog,eqs:=cT,N:=13,fuel:=64,fid:=150,rnd:=true}
theorem aiI:az Tryz.prog HU:=aP cY cX trivial
theorem acy {R:Type}:aI Tryz.prog (R:=R) 0 Ix:=au _ _
theorem amS {R:Type}:aD (R:=R) (hnd 0 Ix) HU QK UJ:=ao (l:= []) (by kernel_rfl) (trivial)
theorem aat {R:Type}:aD (R:=R) (hnd 0 Ix) HU QK SY:=ao (l:= []) (by kernel_rfl) (trivial)
def apn {R:Type}:Inl R:= .rnd 150 3 HU QK [7] UJ SY Ix
def WH:Code:=(cO 3 jM).2.1
def Sl:Code:=(cO 3 jM).2.2
def Ow {R:Type}:List (Nat×Hd R):= []
def G2 {R:Type}:List (Nat×Inl R):=[(12,apn)]
def IY:Cfg:={T:=cR,aO:=aA.G Tryz.prog,eqs:=cT,N:=15,fuel:=64,fid:=151,rnd:=true}
theorem aox:az Tryz.prog IY:=aP cY cX trivial
theorem akT {R:Type}:aI Tryz.prog (R:=R) 1 G2:=cE (by kernel_rfl) aiI amS aat acy (au _ _)
theorem apF {R:Type}:aD (R:=R) (hnd 1 G2) IY Ow WH:=ao (l:= []) (by kernel_rfl) (trivial)
theorem ak_ {R:Type}:aD (R:=R) (hnd 1 G2) IY Ow Sl:=ao (l:= []) (by kernel_rfl) (trivial)
def Y8 {R:Type}:Inl R:= .rnd 151 3 IY Ow [6] WH Sl G2
def Mz {R:Type}:List (Nat×Hd R):=[(5,bL Bq He)]
def Hv {R:Type}:List (Nat×Inl R):=[(31,abW),(41,amG),(51,Y8)]
def IH:Cfg:={T:=cR,aO:=aA.G Tryz.prog,eqs:=cT,N:=52,fuel:=64,loops:=[(5,⟨[0,1,2,3,2000002,4000000,4000002], [],[0,3,4,5,6,7,8,10,11],12, [],[0],[(3,0,11, .str)], []⟩)],blocks:=[(2,⟨[0,2,2000002,4000000,4000002], [],[0,3,4,5,6,10,11],12, [], [], [], []⟩)],fid:=178}
theorem acd:az Tryz.prog IH:=aP cY cX trivial
theorem X1 {R:Type}:aI Tryz.prog (R:=R) 2 Hv:=bA Tryz.f163 aeV al0 (bp (by kernel_rfl)) Xx (cE (by kernel_rfl) ah9 XN ab8 ak9 (cE (by kernel_rfl) aox apF ak_ akT (au _ _)))
theorem adl {R:Type}:bB (R:=R) (hnd 2 Hv) IH Mz (sub [1,0,0,0] ll) (HS.V Bq) (HS.st Bq) (HS.sh Bq) He (bL Bq He):=aT Bq He (fun _ _=>rfl) (by intro q v K;kernel_rfl)
theorem XW {R:Type}:aD (R:=R) (hnd 2 Hv) IH Mz ll:=ao (l:=[sub [0,1,0,0,0,0] ll,sub [1,0,0,0] ll]) (by kernel_rfl) (dJ (b:=sub [0,1,0,0,0,0] ll) (rid:=1) (by kernel_rfl) (by kernel_rfl) (aK (b:=sub [1,0,0,0] ll) (rid:=5) (by kernel_rfl) (by kernel_rfl) adl (trivial)))
def agH {R:Type}:Inl R:= .mk 178 IH Mz ll Tryz.f178.results.toList Hv
def T5 {R:Type}:List (Nat×Hd R):= []
def QL {R:Type}:List (Nat×Inl R):=[(5,apz),(1000003,agH)]
def Jp:Cfg:={T:=cR,aO:=aA.G Tryz.prog,eqs:=cT,N:=15,fuel:=64,fid:=151,tl:=[(3,[2])]}
theorem aoJ:az Tryz.prog Jp:=aP cY cX trivial
theorem YC {R:Type}:aI Tryz.prog (R:=R) 3 QL:=bA Tryz.f152 aaX alW (bp (by kernel_rfl)) af2 (bA Tryz.f178 acd XW (bp (by kernel_rfl)) X1 (au _ _))
theorem Yz {R:Type}:aD (R:=R) (hnd 3 QL) Jp T5 jM:=ao (l:= []) (by kernel_rfl) (trivial)
theorem aaE:dB Tryz.prog Jp jM:=vD (x:=cO 3 jM) (by kernel_rfl) (by kernel_rfl)
def YS {R:Type}:Inl R:= .mk 151 Jp T5 jM Tryz.f151.results.toList QL
def UC {R:Type}:List (Nat×Hd R):= []
def Li {R:Type}:List (Nat×Inl R):=[(1000003,YS)]
def G5:Cfg:={T:=cR,aO:=aA.G Tryz.prog,eqs:=cT,N:=13,fuel:=64,fid:=150,tl:=[(3,[2])]}
theorem ahQ:az Tryz.prog G5:=aP cY cX trivial
theorem Yq {R:Type}:aI Tryz.prog (R:=R) 4 Li:=bA Tryz.f151 aoJ Yz aaE YC (au _ _)
theorem am1 {R:Type}:aD (R:=R) (hnd 4 Li) G5 UC oz:=ao (l:= []) (by kernel_rfl) (trivial)
theorem amk:dB Tryz.prog G5 oz:=vD (x:=cO 3 oz) (by kernel_rfl) (by kernel_rfl)
def an3 {R:Type}:Inl R:= .mk 150 G5 UC oz Tryz.f150.results.toList Li
def Sn {R:Type}:List (Nat×Hd R):= []
def OK {R:Type}:List (Nat×Inl R):=[(4,an3)]
def Qd:Cfg:={T:=cR,aO:=aA.G Tryz.prog,eqs:=cT,N:=5,fuel:=64,fid:=118}
theorem an7:az Tryz.prog Qd:=aP cY cX trivial
theorem ahz {R:Type}:aI Tryz.prog (R:=R) 5 OK:=bA Tryz.f150 ahQ am1 amk Yq (au _ _)
theorem adY {R:Type}:aD (R:=R) (hnd 5 OK) Qd Sn HO:=ao (l:= []) (by kernel_rfl) (trivial)
def adW {R:Type}:Inl R:= .mk 118 Qd Sn HO Tryz.f118.results.toList OK
def Wk:Cfg:={T:=cR,aO:=aA.G Tryz.prog,eqs:=cT,N:=18,fuel:=64,fid:=153}
theorem ZD:az Tryz.prog Wk:=aP cY cX trivial
def Yx {R:Type}:Inl R:= .mk 153 Wk [] ahX Tryz.f153.results.toList []
def Tw {R:Type}:List (Nat×Hd R):= []
def LR {R:Type}:List (Nat×Inl R):=[(7,Yx)]
def PN:Cfg:={T:=cR,aO:=aA.G Tryz.prog,eqs:=cT,N:=8,fuel:=64,fid:=120}
theorem aiZ:az Tryz.prog PN:=aP cY cX trivial
theorem aja {R:Type}:aI Tryz.prog (R:=R) 5 LR:=bI Tryz.f153 ZD (au _ _)
theorem aoR {R:Type}:aD (R:=R) (hnd 5 LR) PN Tw TP:=ao (l:= []) (by kernel_rfl) (trivial)
def ac7 {R:Type}:Inl R:= .mk 120 PN Tw TP Tryz.f120.results.toList LR
def Q4:Cfg:={T:=cR,aO:=aA.G Tryz.prog,eqs:=cT,N:=21,fuel:=64,fid:=154}
theorem ahS:az Tryz.prog Q4:=aP cY cX trivial
def aep {R:Type}:Inl R:= .mk 154 Q4 [] abg Tryz.f154.results.toList []
def Wy {R:Type}:List (Nat×Hd R):= []
def Ln {R:Type}:List (Nat×Inl R):=[(7,aep)]
def QM:Cfg:={T:=cR,aO:=aA.G Tryz.prog,eqs:=cT,N:=8,fuel:=64,fid:=121}
theorem aly:az Tryz.prog QM:=aP cY cX trivial
theorem afc {R:Type}:aI Tryz.prog (R:=R) 5 Ln:=bI Tryz.f154 ahS (au _ _)
theorem aca {R:Type}:aD (R:=R) (hnd 5 Ln) QM Wy QS:=ao (l:= []) (by kernel_rfl) (trivial)
def alV {R:Type}:Inl R:= .mk 121 QM Wy QS Tryz.f121.results.toList Ln
def aht {R:Type}:List (Nat×Hd R):= []
def QW {R:Type}:List (Nat×Inl R):=[(5,Yi),(6,adW),(8,ac7),(15,alV)]
def VM:Cfg:={T:=cR,aO:=aA.G Tryz.prog,eqs:=cT,N:=18,fuel:=64,fid:=71}
theorem ah3:az Tryz.prog VM:=aP cY cX trivial
theorem apQ {R:Type}:aI Tryz.prog (R:=R) 6 QW:=bI Tryz.f119 agB (bA Tryz.f118 an7 adY (bp (by kernel_rfl)) ahz (bA Tryz.f120 aiZ aoR (bp (by kernel_rfl)) aja (bA Tryz.f121 aly aca (bp (by kernel_rfl)) afc (au _ _))))
theorem aaB {R:Type}:aD (R:=R) (hnd 6 QW) VM aht ap5:=ao (l:= []) (by kernel_rfl) (trivial)
theorem zz:aF Tryz.prog 71 xN:=bf Tryz.f71 ah3 D7 (d:=6) apQ aaB (bp (by kernel_rfl)) (toY:=acD)
def Bl:HS:=⟨[(0, .one (.yld 9)),(1, .one (.ptr 6 0)),(2, .one (.ptr 5 0)),(3, .one (.ptr 7 0)),(2000000, .one (.str)),(2000002, .one (.ptr 0 0))],[(0, .cells [.ay false]),(3, .loop true 13 110 3 [(2, .one (.ptr 0 0))]),(4, .cells [.yld 3]),(5, .cells [.str]),(6, .cells [.qL ([47]:Str)]),(7, .cells [.BY .i64 (0:Int)]),(9, .loop true 15 151 3 [(2, .one (.ptr 4 0))])],10⟩
def KI {R:Type}:Nat→HS.V Bl→(Ex→St→Option R)→Option R:=fun q v K=>
 br (K .ret {ar:=[(2000000, .v (.one (.str v.1.2.2.2.2.1))),(2000002, .v (.one (.ptr 0 0)))],mem:=[(0, .cells [.bool true]),(3, .over .ret),(9, .over .ret)],nx:=10}) (fun y8=>K (.exit 2) {ar:=[(0, .v (.one (.yld 9))),(2, .v (.one (.ptr 5 0))),(2000000, .v (.one (.str v.1.2.2.2.2.1))),(2000002, .v (.one (.ptr 0 0)))],mem:=[(0, .cells [.bool false]),(3, .loop true 13 110 3 [(2, .v (.one (.ptr 0 0)))]),(4, .cells [.yld 3]),(5, .cells [.str y8]),(9, .loop true 15 151 3 [(2, .v (.one (.ptr 4 0)))])],nx:=10}) q v.2.2.2.2.1.1
def SN:List HV:=[.one (.str)]
def MT:List HV:=[.one (.bool)]
def aid:HP.V SN→Str:=fun v=>(v.1)
def af5:HX.V MT→Bool:=fun v=>(v)
def afz:Bool→HX.V MT:=fun y=>(y)
def apC:Str→Option (Bool):=fun x=>gK x
def Nu:Spec:=aH SN MT aid afz apC
def RI:Cfg:={T:=cR,aO:=aA.G Tryz.prog,eqs:=cT,N:=4,fuel:=64,fid:=119}
theorem agx:az Tryz.prog RI:=aP cY cX trivial
def ZH {R:Type}:Inl R:= .mk 119 RI [] P1 Tryz.f119.results.toList []
def VI:Cfg:={T:=cR,aO:=aA.G Tryz.prog,eqs:=cT,N:=8,fuel:=64,fid:=166}
theorem ame:az Tryz.prog VI:=aP cY cX trivial
def ae4 {R:Type}:Inl R:= .mk 166 VI [] NM Tryz.f166.results.toList []
def V3 {R:Type}:List (Nat×Hd R):= []
def OW {R:Type}:List (Nat×Inl R):=[(7,ae4)]
def O6:Cfg:={T:=cR,aO:=aA.G Tryz.prog,eqs:=cT,N:=8,fuel:=64,fid:=152}
theorem aeq:az Tryz.prog O6:=aP cY cX trivial
theorem YF {R:Type}:aI Tryz.prog (R:=R) 2 OW:=bI Tryz.f166 ame (au _ _)
theorem anV {R:Type}:aD (R:=R) (hnd 2 OW) O6 V3 C4:=ao (l:= []) (by kernel_rfl) (trivial)
def adR {R:Type}:Inl R:= .mk 152 O6 V3 C4 Tryz.f152.results.toList OW
def VR {R:Type}:List (Nat×Hd R):= []
def L6 {R:Type}:List (Nat×Inl R):= []
def LU:Cfg:={T:=cR,spec:=[(184,bP)],aO:=aA.G Tryz.prog,eqs:=cT,N:=143,fuel:=64,gk:=some ⟨[4,2000000,2000001,2000002,2000003,4000000,4000002], [],[0,3,4,5,6,7,9],10, [], [], [], []⟩,fid:=176}
theorem amD:az Tryz.prog LU:=aP cY cX ⟨cm,trivial⟩
theorem X2 {R:Type}:aI Tryz.prog (R:=R) 0 L6:=au _ _
theorem acN {R:Type}:aD (R:=R) (hnd 0 L6) LU VR si:=ao (l:=[sub [1,1,1,1,1,1,1,1,0,0,0] si]) (by kernel_rfl) (dJ (b:=sub [1,1,1,1,1,1,1,1,0,0,0] si) (rid:=15) (by kernel_rfl) (by kernel_rfl) (trivial))
def af3 {R:Type}:Inl R:= .mk 176 LU VR si Tryz.f176.results.toList L6
def RN {R:Type}:List (Nat×Hd R):= []
def Ns {R:Type}:List (Nat×Inl R):=[(7,af3)]
def Qj:Cfg:={T:=cR,aO:=aA.G Tryz.prog,eqs:=cT,N:=8,fuel:=64,fid:=163}
theorem apV:az Tryz.prog Qj:=aP cY cX trivial
theorem alh {R:Type}:aI Tryz.prog (R:=R) 1 Ns:=bA Tryz.f176 amD acN (bp (by kernel_rfl)) X2 (au _ _)
theorem ajD {R:Type}:aD (R:=R) (hnd 1 Ns) Qj RN DV:=ao (l:= []) (by kernel_rfl) (trivial)
def aj9 {R:Type}:Inl R:= .mk 163 Qj RN DV Tryz.f163.results.toList Ns
def Q9:Code:=(cO 3 AZ).2.1
def UD:Code:=(cO 3 AZ).2.2
def P0 {R:Type}:List (Nat×Hd R):= []
def Kh {R:Type}:List (Nat×Inl R):= []
def Hg:Cfg:={T:=cR,aO:=aA.G Tryz.prog,eqs:=cT,N:=13,fuel:=64,fid:=110,rnd:=true}
theorem aeY:az Tryz.prog Hg:=aP cY cX trivial
theorem ajI {R:Type}:aI Tryz.prog (R:=R) 0 Kh:=au _ _
theorem aeo {R:Type}:aD (R:=R) (hnd 0 Kh) Hg P0 Q9:=ao (l:= []) (by kernel_rfl) (trivial)
theorem agT {R:Type}:aD (R:=R) (hnd 0 Kh) Hg P0 UD:=ao (l:= []) (by kernel_rfl) (trivial)
def apu {R:Type}:Inl R:= .rnd 110 3 Hg P0 [6] Q9 UD Kh
def U_:Code:=(cO 3 jM).2.1
def VG:Code:=(cO 3 jM).2.2
def Lv {R:Type}:List (Nat×Hd R):= []
def J5 {R:Type}:List (Nat×Inl R):=[(12,apu)]
def JA:Cfg:={T:=cR,aO:=aA.G Tryz.prog,eqs:=cT,N:=15,fuel:=64,fid:=151,rnd:=true}
theorem aoS:az Tryz.prog JA:=aP cY cX trivial
theorem abD {R:Type}:aI Tryz.prog (R:=R) 1 J5:=cE (by kernel_rfl) aeY aeo agT ajI (au _ _)
theorem aeI {R:Type}:aD (R:=R) (hnd 1 J5) JA Lv U_:=ao (l:= []) (by kernel_rfl) (trivial)
theorem aoD {R:Type}:aD (R:=R) (hnd 1 J5) JA Lv VG:=ao (l:= []) (by kernel_rfl) (trivial)
def ai3 {R:Type}:Inl R:= .rnd 151 3 JA Lv [6] U_ VG J5
def Sd:Code:=(cO 3 AZ).2.1
def Vv:Code:=(cO 3 AZ).2.2
def Lg {R:Type}:List (Nat×Hd R):= []
def Kc {R:Type}:List (Nat×Inl R):= []
def HE:Cfg:={T:=cR,aO:=aA.G Tryz.prog,eqs:=cT,N:=13,fuel:=64,fid:=110,rnd:=true}
theorem ab7:az Tryz.prog HE:=aP cY cX trivial
theorem akc {R:Type}:aI Tryz.prog (R:=R) 0 Kc:=au _ _
theorem ada {R:Type}:aD (R:=R) (hnd 0 Kc) HE Lg Sd:=ao (l:= []) (by kernel_rfl) (trivial)
theorem am9 {R:Type}:aD (R:=R) (hnd 0 Kc) HE Lg Vv:=ao (l:= []) (by kernel_rfl) (trivial)
def ajP {R:Type}:Inl R:= .rnd 110 3 HE Lg [6] Sd Vv Kc
def TU:Code:=(cO 3 jM).2.1
def WJ:Code:=(cO 3 jM).2.2
def Pt {R:Type}:List (Nat×Hd R):= []
def JS {R:Type}:List (Nat×Inl R):=[(12,ajP)]
def HY:Cfg:={T:=cR,aO:=aA.G Tryz.prog,eqs:=cT,N:=15,fuel:=64,fid:=151,rnd:=true}
theorem acj:az Tryz.prog HY:=aP cY cX trivial
theorem afY {R:Type}:aI Tryz.prog (R:=R) 1 JS:=cE (by kernel_rfl) ab7 ada am9 akc (au _ _)
theorem Z3 {R:Type}:aD (R:=R) (hnd 1 JS) HY Pt TU:=ao (l:= []) (by kernel_rfl) (trivial)
theorem af4 {R:Type}:aD (R:=R) (hnd 1 JS) HY Pt WJ:=ao (l:= []) (by kernel_rfl) (trivial)
def akn {R:Type}:Inl R:= .rnd 151 3 HY Pt [6] TU WJ JS
def NF {R:Type}:List (Nat×Hd R):=[(5,bL Bl KI)]
def Ia {R:Type}:List (Nat×Inl R):=[(31,aj9),(41,ai3),(51,akn)]
def Jh:Cfg:={T:=cR,aO:=aA.G Tryz.prog,eqs:=cT,N:=52,fuel:=64,loops:=[(5,⟨[0,1,2,3,2000000,2000002], [],[0,3,4,5,6,7,9],10, [], [], [], []⟩)],blocks:=[(2,⟨[0,2,2000000,2000002], [],[0,3,4,5,9],10, [], [], [], []⟩)],gk:=some ⟨[2000000,2000002], [],[0,3,9],10, [], [], [], []⟩,fid:=178}
theorem aa7:az Tryz.prog Jh:=aP cY cX trivial
theorem aiA {R:Type}:aI Tryz.prog (R:=R) 2 Ia:=bA Tryz.f163 apV ajD (bp (by kernel_rfl)) alh (cE (by kernel_rfl) aoS aeI aoD abD (cE (by kernel_rfl) acj Z3 af4 afY (au _ _)))
theorem acP {R:Type}:bB (R:=R) (hnd 2 Ia) Jh NF (sub [1,0,0,0] ll) (HS.V Bl) (HS.st Bl) (HS.sh Bl) KI (bL Bl KI):=aT Bl KI (fun _ _=>rfl) (by intro q v K;kernel_rfl)
theorem apP {R:Type}:aD (R:=R) (hnd 2 Ia) Jh NF ll:=ao (l:=[sub [0,1,0,0,0,0] ll,sub [1,0,0,0] ll]) (by kernel_rfl) (dJ (b:=sub [0,1,0,0,0,0] ll) (rid:=1) (by kernel_rfl) (by kernel_rfl) (aK (b:=sub [1,0,0,0] ll) (rid:=5) (by kernel_rfl) (by kernel_rfl) acP (trivial)))
def aiE {R:Type}:Inl R:= .mk 178 Jh NF ll Tryz.f178.results.toList Ia
def Uw {R:Type}:List (Nat×Hd R):= []
def MN {R:Type}:List (Nat×Inl R):=[(5,adR),(1000003,aiE)]
def JP:Cfg:={T:=cR,aO:=aA.G Tryz.prog,eqs:=cT,N:=15,fuel:=64,fid:=151,tl:=[(3,[2])]}
theorem adA:az Tryz.prog JP:=aP cY cX trivial
theorem afd {R:Type}:aI Tryz.prog (R:=R) 3 MN:=bA Tryz.f152 aeq anV (bp (by kernel_rfl)) YF (bA Tryz.f178 aa7 apP (bp (by kernel_rfl)) aiA (au _ _))
theorem an9 {R:Type}:aD (R:=R) (hnd 3 MN) JP Uw jM:=ao (l:= []) (by kernel_rfl) (trivial)
theorem Zs:dB Tryz.prog JP jM:=vD (x:=cO 3 jM) (by kernel_rfl) (by kernel_rfl)
def acz {R:Type}:Inl R:= .mk 151 JP Uw jM Tryz.f151.results.toList MN
def XO {R:Type}:List (Nat×Hd R):= []
def Vs {R:Type}:List (Nat×Inl R):=[(5,ZH),(1000003,acz)]
def O7:Cfg:={T:=cR,aO:=aA.G Tryz.prog,eqs:=cT,N:=13,fuel:=64,fid:=110,tl:=[(3,[2])]}
theorem abT:az Tryz.prog O7:=aP cY cX trivial
theorem agb {R:Type}:aI Tryz.prog (R:=R) 4 Vs:=bI Tryz.f119 agx (bA Tryz.f151 adA an9 Zs afd (au _ _))
theorem aiP {R:Type}:aD (R:=R) (hnd 4 Vs) O7 XO AZ:=ao (l:= []) (by kernel_rfl) (trivial)
theorem ae2:dB Tryz.prog O7 AZ:=vD (x:=cO 3 AZ) (by kernel_rfl) (by kernel_rfl)
theorem UE:aF Tryz.prog 110 Nu:=bf Tryz.f110 abT D7 (d:=4) agb aiP ae2 (toY:=af5)
def WK:List HV:=[.one (.sl .str)]
def P9:List HV:=[.one (.str)]
def aiL:HP.V WK→(List Str):=fun v=>(v.1)
def abY:HX.V P9→Str:=fun v=>(v)
def adr:Str→HX.V P9:=fun y=>(y)
def amu:(List Str)→Option (Str):=fun x=>jT x
def nb:Spec:=aH WK P9 aiL adr amu
def XF:Cfg:={T:=cR,spec:=[(192,jt)],aO:=aA.G Tryz.prog,eqs:=cT,N:=9,fuel:=64,fid:=186}
theorem abc:az Tryz.prog XF:=aP cY cX ⟨sf,trivial⟩
theorem nK:aF Tryz.prog 186 nb:=aV Tryz.f186 abc D7 (toY:=abY)
def Bx:HS:=⟨[(0, .one (.str)),(6, .one (.ptr 1 0)),(8, .one (.int .i64))],[(1, .cells [.ay true, .ay false, .ay false, .ay false, .ay false, .ay false, .ay false, .ay false, .ay false, .ay false, .ay false, .ay false, .ay false, .ay false, .ay false, .ay false, .ay false, .ay false, .ay false, .ay false, .ay false, .ay false, .ay false, .ay false, .ay false, .ay false, .ay false, .ay false, .ay false, .ay false, .ay false, .ay false, .ay false, .ay false, .ay false, .ay false, .ay false, .ay false, .ay false, .ay false, .ay false, .ay false, .ay false, .ay false, .ay false, .ay false, .ay false, .ay true, .ay false, .ay false, .ay false, .ay false, .ay false, .ay false, .ay false, .ay false, .ay false, .ay false, .ay false, .ay false, .ay false, .ay false, .ay false, .ay false, .ay false, .ay false, .ay false, .ay false, .ay false, .ay false, .ay false, .ay false, .ay false, .ay false, .ay false, .ay false, .ay false, .ay false, .ay false, .ay false, .ay false, .ay false, .ay false, .ay false, .ay false, .ay false, .ay false, .ay false, .ay false, .ay false, .ay false, .ay false, .ay false, .ay false, .ay false, .ay false, .ay false, .ay false, .ay false, .ay false, .ay false, .ay false, .ay false, .ay false, .ay false, .ay false, .ay false, .ay false, .ay false, .ay false, .ay false, .ay false, .ay false, .ay false, .ay false, .ay false, .ay false, .ay false, .ay false, .ay false, .ay false, .ay false, .ay false, .ay false, .ay false, .ay false, .ay false, .ay false, .ay false, .ay false, .ay false, .ay false, .ay false, .ay false, .ay false, .ay false, .ay false, .ay false, .ay false, .ay false, .ay false, .ay false, .ay false, .ay false, .ay false, .ay false, .ay false, .ay false, .ay false, .ay false, .ay false, .ay false, .ay false, .ay false, .ay false, .ay false, .ay false, .ay false, .ay false, .ay false, .ay false, .ay false, .ay false, .ay false, .ay false, .ay false, .ay false, .ay false, .ay false, .ay false, .ay false, .ay false, .ay false, .ay false, .ay false, .ay false, .ay false, .ay false, .ay false, .ay false, .ay false, .ay false, .ay false, .ay false, .ay false, .ay false, .ay false, .ay false, .ay false, .ay false, .ay false, .ay false, .ay false, .ay false, .ay false, .ay false, .ay false, .ay false, .ay false, .ay false, .ay false, .ay false, .ay false, .ay false, .ay false, .ay false, .ay false, .ay false, .ay false, .ay false, .ay false, .ay false, .ay false, .ay false, .ay false, .ay false, .ay false, .ay false, .ay false, .ay false, .ay false, .ay false, .ay false, .ay false, .ay false, .ay false, .ay false, .ay false, .ay false, .ay false, .ay false, .ay false, .ay false, .ay false, .ay false, .ay false, .ay false, .ay false, .ay false, .ay false, .ay false, .ay false, .ay false, .ay false, .ay false, .ay false, .ay false, .ay false, .ay false, .ay false, .ay false, .ay false, .ay false, .ay false, .ay false, .ay false])],2⟩
def JW {R:Type}:Nat→HS.V Bx→(Ex→St→Option R)→Option R:=fun q v K=>
 bW v.1.1 (fun y5=>K .ret {ar:=[(4, .v (.one (.int .i64 y5)))],mem:= [],nx:=0}) (K (.exit 0) {ar:= [],mem:= [],nx:=0}) q v.1.2.2.1
def B2:HS:=⟨[(175, .one (.iter 1)),(1000001, .one (.qL ([47,0]:Str))),(1000009, .one (.int .i64)),(1000045, .one (.iter 0))],[(0, .iter),(1, .iter)],2⟩
def J6 {R:Type}:Nat→HS.V B2→(Ex→St→Option R)→Option R:=fun q v K=>
 cg v.2.2.1.1 (fun y15=>K .ret {ar:=[(4, .v (.one (.int .i64 y15))),(1000001, .v (.one (.str ([47,0]:Str)))),(1000009, .v (.one (.int .i64 v.1.2.2.1))),(1000045, .v (.one (.iter 0)))],mem:=[(0, .iter v.2.1.1 v.2.1.2)],nx:=1}) (K (.exit 9) {ar:=[(1000001, .v (.one (.str ([47,0]:Str)))),(1000009, .v (.one (.int .i64 v.1.2.2.1))),(1000045, .v (.one (.iter 0)))],mem:=[(0, .iter v.2.1.1 v.2.1.2)],nx:=1}) q v.2.2.1.2
def BU:HS:=⟨[(0, .one (.qL ([47,0]:Str))),(7, .one (.str)),(8, .one (.int .i64)),(9, .one (.int .i64)),(12, .one (.int .i64)),(1000001, .one (.qL ([47,0]:Str))),(1000009, .one (.int .i64)),(1000045, .one (.iter 0))],[(0, .iter)],1⟩
def Jd {R:Type}:Nat→HS.V BU→(Ex→St→Option R)→Option R:=fun q v K=>
 cG v.1.2.1 v.1.2.2.1 v.1.2.2.2.1 (K (.exit 3) {ar:=[(8, .v (.one (.int .i64 v.1.2.2.1))),(9, .v (.one (.int .i64 v.1.2.2.2.1))),(1000001, .v (.one (.str ([47,0]:Str)))),(1000009, .v (.one (.int .i64 v.1.2.2.2.2.2.2.1))),(1000045, .v (.one (.iter 0)))],mem:=[(0, .iter v.2.1.1 v.2.1.2)],nx:=1}) q v.1.2.2.2.2.1
def AU:HS:=⟨[(0, .one (.qL ([47,0]:Str))),(7, .one (.str)),(8, .one (.int .i64)),(9, .one (.int .i64)),(1000001, .one (.qL ([47,0]:Str))),(1000009, .one (.int .i64)),(1000045, .one (.iter 0))],[(0, .iter)],1⟩
def H_ {R:Type}:Nat→HS.V AU→(Ex→St→Option R)→Option R:=fun q v K=>
 bm v.1.2.1 v.1.2.2.1 v.1.2.2.2.1 (fun y50=>K .ret {ar:=[(4, .v (.one (.int .i64 y50))),(1000001, .v (.one (.str ([47,0]:Str)))),(1000009, .v (.one (.int .i64 v.1.2.2.2.2.2.1))),(1000045, .v (.one (.iter 0)))],mem:=[(0, .iter v.2.1.1 v.2.1.2)],nx:=1}) (K (.exit 1) {ar:=[(1000001, .v (.one (.str ([47,0]:Str)))),(1000009, .v (.one (.int .i64 v.1.2.2.2.2.2.1))),(1000045, .v (.one (.iter 0)))],mem:=[(0, .iter v.2.1.1 v.2.1.2)],nx:=1}) q
def Cl:HS:=⟨[(1, .one (.qL ([47,0]:Str))),(45, .one (.iter 0))],[(0, .iter)],1⟩
def JL {R:Type}:Nat→HS.V Cl→(Ex→St→Option R)→Option R:=fun q v K=>
 aC v.2.1.1 (fun y66=>K .ret {ar:=[(4, .v (.one (.int .i64 y66)))],mem:= [],nx:=0}) (K (.exit 2) {ar:= [],mem:= [],nx:=0}) q v.2.1.2
def UP:List HV:=[.one (.str), .one (.qL ([47,0]:Str))]
def PI:List HV:=[.one (.bool)]
def am6:HP.V UP→Str:=fun v=>(v.1)
def acg:HX.V PI→Bool:=fun v=>(v)
def aqz:Bool→HX.V PI:=fun y=>(y)
def aag:Str→Option (Bool):=fun x=>eM x
def Vm:Spec:=aH UP PI am6 aqz aag
def So:Cfg:={T:=cR,aO:=aA.G Tryz.prog,eqs:=cT,N:=5,fuel:=64,fid:=168}
theorem aeF:az Tryz.prog So:=aP cY cX trivial
def ZA {R:Type}:Inl R:= .mk 168 So [] XM Tryz.f168.results.toList []
def Vi {R:Type}:List (Nat×Hd R):= []
def QC {R:Type}:List (Nat×Inl R):= []
def NT:Cfg:={T:=cR,aO:=aA.G Tryz.prog,eqs:=cT,N:=21,fuel:=64,loops:=[(2,⟨[0,2,4,1000000,1000001], [],[0],1, [], [], [], []⟩)],blocks:=[(0,⟨[2,1000000,1000001], [],[0],1, [], [], [], []⟩)],gk:=some ⟨[2,3,1000000,1000001], [],[0],1, [], [], [], []⟩,fid:=169}
theorem am7:az Tryz.prog NT:=aP cY cX trivial
theorem aeG {R:Type}:aI Tryz.prog (R:=R) 1 QC:=au _ _
theorem ahJ {R:Type}:aD (R:=R) (hnd 1 QC) NT Vi JI:=ao (l:=[sub [1,0,1,0,0] JI]) (by kernel_rfl) (dJ (b:=sub [1,0,1,0,0] JI) (rid:=2) (by kernel_rfl) (by kernel_rfl) (trivial))
def al1 {R:Type}:Inl R:= .mk 169 NT Vi JI Tryz.f169.results.toList QC
def VB:Cfg:={T:=cR,aO:=aA.G Tryz.prog,eqs:=cT,N:=10,fuel:=64,fid:=170}
theorem ale:az Tryz.prog VB:=aP cY cX trivial
def XQ {R:Type}:Inl R:= .mk 170 VB [] adU Tryz.f170.results.toList []
def Tq:Cfg:={T:=cR,spec:=[(184,bP)],aO:=aA.G Tryz.prog,eqs:=cT,N:=8,fuel:=64,fid:=180}
theorem aof:az Tryz.prog Tq:=aP cY cX ⟨cm,trivial⟩
def adN {R:Type}:Inl R:= .mk 180 Tq [] UX Tryz.f180.results.toList []
def Us:Cfg:={T:=cR,aO:=aA.G Tryz.prog,eqs:=cT,N:=17,fuel:=64,fid:=181}
theorem ahp:az Tryz.prog Us:=aP cY cX trivial
def apN {R:Type}:Inl R:= .mk 181 Us [] aom Tryz.f181.results.toList []
def Wu:Cfg:={T:=cR,spec:=[(184,bP)],aO:=aA.G Tryz.prog,eqs:=cT,N:=8,fuel:=64,fid:=180}
theorem ajJ:az Tryz.prog Wu:=aP cY cX ⟨cm,trivial⟩
def amT {R:Type}:Inl R:= .mk 180 Wu [] UX Tryz.f180.results.toList []
def Gy {R:Type}:List (Nat×Hd R):=[(38,bL B2 J6),(5,bL AU H_),(12,bL BU Jd)]
def Eg {R:Type}:List (Nat×Inl R):=[(170,adN),(185,apN),(41,amT)]
def Ei:Cfg:={T:=cR,aO:=aA.G Tryz.prog,eqs:=cT,N:=187,fuel:=64,loops:=[(38,⟨[175,1000001,1000009,1000045], [],[0,1],2, [], [], [], []⟩),(12,⟨[0,7,8,9,12,1000001,1000009,1000045], [],[0],1, [], [], [], []⟩),(5,⟨[0,7,8,9,1000001,1000009,1000045], [],[0],1, [], [], [], []⟩)],blocks:=[(9,⟨[1000001,1000009,1000045], [],[0],1, [], [], [], []⟩),(1,⟨[1000001,1000009,1000045], [],[0],1, [], [], [], []⟩),(3,⟨[8,9,1000001,1000009,1000045], [],[0],1, [], [], [], []⟩)],gk:=some ⟨[4,1000001,1000009,1000045], [],[0],1, [], [], [], []⟩,fid:=167}
theorem apX:az Tryz.prog Ei:=aP cY cX trivial
theorem ahC {R:Type}:aI Tryz.prog (R:=R) 1 Eg:=bI Tryz.f180 aof (bI Tryz.f181 ahp (bI Tryz.f180 ajJ (au _ _)))
theorem aae {R:Type}:bB (R:=R) (hnd 1 Eg) Ei Gy (sub [1,0,1,1,1,0,0,1,0,0] oW) (HS.V B2) (HS.st B2) (HS.sh B2) J6 (bL B2 J6):=aT B2 J6 (fun _ _=>rfl) (by intro q v K;kernel_rfl)
theorem abr {R:Type}:bB (R:=R) (hnd 1 Eg) Ei Gy (sub [1,0,1,1,1,1,1,1,0,1,1,1,1,0,0,0] oW) (HS.V AU) (HS.st AU) (HS.sh AU) H_ (bL AU H_):=aT AU H_ (fun _ _=>rfl) (by intro q v K;kernel_rfl)
theorem aem {R:Type}:bB (R:=R) (hnd 1 Eg) Ei Gy (sub [1,0,1,1,1,1,1,1,0,1,1,1,1,0,0,0,1,0,0,1,0,1,0,0] oW) (HS.V BU) (HS.st BU) (HS.sh BU) Jd (bL BU Jd):=aT BU Jd (fun _ _=>rfl) (by intro q v K;kernel_rfl)
theorem aqE {R:Type}:aD (R:=R) (hnd 1 Eg) Ei Gy oW:=ao (l:=[sub [1,0,1,1,1,0,0,1,0,0] oW,sub [1,0,1,1,1,1,1,1,0,1,1,1,1,0,0,0] oW,sub [1,0,1,1,1,1,1,1,0,1,1,1,1,0,0,0,1,0,0,1,0,1,0,0] oW,sub [1,0,1,1,1,1,1,1,0,1,1,1,1,1,1,1,0,1,0,1,1,1,0,0] oW,sub [1,0,1,1,1,1,1,1,0,1,1,1,1,1,1,1,0,1,0,1,1,1,0,0,1,0,0,1,0,0,1,0,0] oW]) (by kernel_rfl) (aK (b:=sub [1,0,1,1,1,0,0,1,0,0] oW) (rid:=38) (by kernel_rfl) (by kernel_rfl) aae (aK (b:=sub [1,0,1,1,1,1,1,1,0,1,1,1,1,0,0,0] oW) (rid:=5) (by kernel_rfl) (by kernel_rfl) abr (aK (b:=sub [1,0,1,1,1,1,1,1,0,1,1,1,1,0,0,0,1,0,0,1,0,1,0,0] oW) (rid:=12) (by kernel_rfl) (by kernel_rfl) aem (dJ (b:=sub [1,0,1,1,1,1,1,1,0,1,1,1,1,1,1,1,0,1,0,1,1,1,0,0] oW) (rid:=25) (by kernel_rfl) (by kernel_rfl) (dJ (b:=sub [1,0,1,1,1,1,1,1,0,1,1,1,1,1,1,1,0,1,0,1,1,1,0,0,1,0,0,1,0,0,1,0,0] oW) (rid:=29) (by kernel_rfl) (by kernel_rfl) (trivial))))))
def ahU {R:Type}:Inl R:= .mk 167 Ei Gy oW Tryz.f167.results.toList Eg
def J1 {R:Type}:List (Nat×Hd R):=[(12,bL Bx JW),(18,bL Cl JL)]
def FC {R:Type}:List (Nat×Inl R):=[(26,ZA),(29,al1),(42,XQ),(52,ahU)]
def GQ:Cfg:={T:=cR,aO:=aA.G Tryz.prog,eqs:=cT,N:=55,fuel:=64,loops:=[(18,⟨[1,45], [],[0],1, [], [], [], []⟩),(12,⟨[0,6,8], [],[1],2, [], [], [], []⟩)],blocks:=[(2,⟨[], [], [],0, [], [], [], []⟩),(0,⟨[], [], [],0, [], [], [], []⟩)],gk:=some ⟨[4], [], [],0, [], [], [], []⟩,fid:=155}
theorem aih:az Tryz.prog GQ:=aP cY cX trivial
theorem akC {R:Type}:aI Tryz.prog (R:=R) 2 FC:=bI Tryz.f168 aeF (bA Tryz.f169 am7 ahJ (bp (by kernel_rfl)) aeG (bI Tryz.f170 ale (bA Tryz.f167 apX aqE (bp (by kernel_rfl)) ahC (au _ _))))
theorem ahD {R:Type}:bB (R:=R) (hnd 2 FC) GQ J1 (sub [1,1,1,0,1,0,1,1,0,0,1,0,0] zO) (HS.V Bx) (HS.st Bx) (HS.sh Bx) JW (bL Bx JW):=aT Bx JW (fun _ _=>rfl) (by intro q v K;kernel_rfl)
theorem aaZ {R:Type}:bB (R:=R) (hnd 2 FC) GQ J1 (sub [1,1,1,1,0,1,0,0] zO) (HS.V Cl) (HS.st Cl) (HS.sh Cl) JL (bL Cl JL):=aT Cl JL (fun _ _=>rfl) (by intro q v K;kernel_rfl)
theorem anm {R:Type}:aD (R:=R) (hnd 2 FC) GQ J1 zO:=ao (l:=[sub [1,1,1,0,1,0,1,1,0,0,1,0,0] zO,sub [1,1,1,1,0,1,0,0] zO]) (by kernel_rfl) (aK (b:=sub [1,1,1,0,1,0,1,1,0,0,1,0,0] zO) (rid:=12) (by kernel_rfl) (by kernel_rfl) ahD (aK (b:=sub [1,1,1,1,0,1,0,0] zO) (rid:=18) (by kernel_rfl) (by kernel_rfl) aaZ (trivial)))
def ao3 {R:Type}:Inl R:= .mk 155 GQ J1 zO Tryz.f155.results.toList FC
def anh {R:Type}:List (Nat×Hd R):= []
def Q3 {R:Type}:List (Nat×Inl R):=[(7,ao3)]
def VY:Cfg:={T:=cR,aO:=aA.G Tryz.prog,eqs:=cT,N:=9,fuel:=64,fid:=122}
theorem acE:az Tryz.prog VY:=aP cY cX trivial
theorem alz {R:Type}:aI Tryz.prog (R:=R) 3 Q3:=bA Tryz.f155 aih anm (bp (by kernel_rfl)) akC (au _ _)
theorem abM {R:Type}:aD (R:=R) (hnd 3 Q3) VY anh aeN:=ao (l:= []) (by kernel_rfl) (trivial)
theorem aj5:aF Tryz.prog 122 Vm:=bf Tryz.f122 acE D7 (d:=3) alz abM (bp (by kernel_rfl)) (toY:=acg)
def Tz:List HV:=[.one (.str)]
def OU:List HV:=[.one (.bool)]
def ae3:HP.V Tz→Str:=fun v=>(v.1)
def aj_:HX.V OU→Bool:=fun v=>(v)
def Yu:Bool→HX.V OU:=fun y=>(y)
def agd:Str→Option (Bool):=fun x=>gZ x
def Fq:Spec:=aH Tz OU ae3 Yu agd
def acK:Cfg:={T:=cR,spec:=[(122,Vm)],aO:=aA.G Tryz.prog,eqs:=cT,N:=23,fuel:=64,fid:=72}
theorem aph:az Tryz.prog acK:=aP cY cX ⟨aj5,trivial⟩
theorem Jg:aF Tryz.prog 72 Fq:=aV Tryz.f72 aph D7 (toY:=aj_)
def By:HS:=⟨[(0, .one (.yld 9)),(1, .one (.ptr 6 0)),(2, .one (.ptr 5 0)),(3, .one (.ptr 7 0)),(2000002, .one (.ptr 2 0)),(4000000, .one (.str))],[(2, .cells [.own 10]),(3, .loop true 13 150 3 [(2, .one (.ptr 2 0))]),(4, .cells [.yld 3]),(5, .cells [.str]),(6, .cells [.qL ([47]:Str)]),(7, .cells [.BY .i64 (0:Int)]),(9, .loop true 15 151 3 [(2, .one (.ptr 4 0))]),(10, .row .str)],11⟩
def G6 {R:Type}:Nat→HS.V By→(Ex→St→Option R)→Option R:=fun q v K=>
 bc (fun y6 y7=>K (.exit 2) {ar:=[(0, .v (.one (.yld 9))),(2, .v (.one (.ptr 5 0))),(2000002, .v (.one (.ptr 2 0))),(4000000, .v (.one (.str v.1.2.2.2.2.2.1)))],mem:=[(2, .cells [.own 10]),(3, .loop true 13 150 3 [(2, .v (.one (.ptr 2 0)))]),(4, .cells [.yld 3]),(5, .cells [.str y6]),(9, .loop true 15 151 3 [(2, .v (.one (.ptr 4 0)))]),(10, .row .str y7)],nx:=11}) q v.2.2.2.2.1.1 v.2.2.2.2.2.2.2.2.1
def BC:HS:=⟨[(0, .one (.own 10)),(1, .one (.fnc 188)),(7, .one (.int .i64)),(8, .one (.int .i64)),(2000004, .one (.own 10)),(2000012, .one (.bool))],[(10, .row .str)],11⟩
def Jn {R:Type}:Nat→HS.V BC→(Ex→St→Option R)→Option R:=fun q v K=>
 cd v.1.2.2.1 v.2.1 (fun y17=>K .ret {ar:=[(4, .v (.one (.int .i64 y17))),(2000004, .v (.one (.own 10))),(2000012, .v (.one (.bool v.1.2.2.2.2.2.1)))],mem:=[(10, .row .str v.2.1)],nx:=11}) (K (.exit 0) {ar:=[(2000004, .v (.one (.own 10))),(2000012, .v (.one (.bool v.1.2.2.2.2.2.1)))],mem:=[(10, .row .str v.2.1)],nx:=11}) q v.1.2.2.2.1
def Tx:List HV:=[.one (.str)]
def QG:List HV:=[.one (.sl .str), .one (.bool)]
def ape:HP.V Tx→Str:=fun v=>(v.1)
def Ya:HX.V QG→(List Str)×Bool:=fun v=>(v.1,v.2)
def aqq:(List Str)×Bool→HX.V QG:=fun y=>(y.1,y.2)
def anD:Str→Option ((List Str)×Bool):=fun x=>mu x
def Vt:Spec:=aH Tx QG ape aqq anD
def QR:Cfg:={T:=cR,spec:=[(186,nb)],aO:=aA.G Tryz.prog,eqs:=cT,N:=4,fuel:=64,fid:=119}
theorem aeh:az Tryz.prog QR:=aP cY cX ⟨nK,trivial⟩
def adP {R:Type}:Inl R:= .mk 119 QR [] P1 Tryz.f119.results.toList []
def Rv:Cfg:={T:=cR,spec:=[(186,nb)],aO:=aA.G Tryz.prog,eqs:=cT,N:=8,fuel:=64,fid:=166}
theorem ahv:az Tryz.prog Rv:=aP cY cX ⟨nK,trivial⟩
def XL {R:Type}:Inl R:= .mk 166 Rv [] NM Tryz.f166.results.toList []
def TW {R:Type}:List (Nat×Hd R):= []
def P4 {R:Type}:List (Nat×Inl R):=[(7,XL)]
def OF:Cfg:={T:=cR,spec:=[(186,nb)],aO:=aA.G Tryz.prog,eqs:=cT,N:=8,fuel:=64,fid:=152}
theorem Xv:az Tryz.prog OF:=aP cY cX ⟨nK,trivial⟩
theorem ac4 {R:Type}:aI Tryz.prog (R:=R) 2 P4:=bI Tryz.f166 ahv (au _ _)
theorem aok {R:Type}:aD (R:=R) (hnd 2 P4) OF TW C4:=ao (l:= []) (by kernel_rfl) (trivial)
def akm {R:Type}:Inl R:= .mk 152 OF TW C4 Tryz.f152.results.toList P4
def Su {R:Type}:List (Nat×Hd R):= []
def Mm {R:Type}:List (Nat×Inl R):= []
def Pq:Cfg:={T:=cR,spec:=[(184,bP),(186,nb)],aO:=aA.G Tryz.prog,eqs:=cT,N:=143,fuel:=64,gk:=some ⟨[4,2000000,2000001,2000002,2000003,4000002,6000000], [],[2,3,4,5,6,7,9,10],11, [], [], [], []⟩,fid:=176}
theorem acU:az Tryz.prog Pq:=aP cY cX ⟨cm,⟨nK,trivial⟩⟩
theorem alj {R:Type}:aI Tryz.prog (R:=R) 0 Mm:=au _ _
theorem abd {R:Type}:aD (R:=R) (hnd 0 Mm) Pq Su si:=ao (l:=[sub [1,1,1,1,1,1,1,1,0,0,0] si]) (by kernel_rfl) (dJ (b:=sub [1,1,1,1,1,1,1,1,0,0,0] si) (rid:=15) (by kernel_rfl) (by kernel_rfl) (trivial))
def agC {R:Type}:Inl R:= .mk 176 Pq Su si Tryz.f176.results.toList Mm
def Ws {R:Type}:List (Nat×Hd R):= []
def LZ {R:Type}:List (Nat×Inl R):=[(7,agC)]
def L1:Cfg:={T:=cR,spec:=[(186,nb)],aO:=aA.G Tryz.prog,eqs:=cT,N:=8,fuel:=64,fid:=163}
theorem ah5:az Tryz.prog L1:=aP cY cX ⟨nK,trivial⟩
theorem Yg {R:Type}:aI Tryz.prog (R:=R) 1 LZ:=bA Tryz.f176 acU abd (bp (by kernel_rfl)) alj (au _ _)
theorem al4 {R:Type}:aD (R:=R) (hnd 1 LZ) L1 Ws DV:=ao (l:= []) (by kernel_rfl) (trivial)
def afD {R:Type}:Inl R:= .mk 163 L1 Ws DV Tryz.f163.results.toList LZ
def TC:Code:=(cO 3 oz).2.1
def Rz:Code:=(cO 3 oz).2.2
def LP {R:Type}:List (Nat×Hd R):= []
def Jt {R:Type}:List (Nat×Inl R):= []
def Ky:Cfg:={T:=cR,spec:=[(186,nb)],aO:=aA.G Tryz.prog,eqs:=cT,N:=13,fuel:=64,fid:=150,rnd:=true}
theorem apZ:az Tryz.prog Ky:=aP cY cX ⟨nK,trivial⟩
theorem ajg {R:Type}:aI Tryz.prog (R:=R) 0 Jt:=au _ _
theorem anJ {R:Type}:aD (R:=R) (hnd 0 Jt) Ky LP TC:=ao (l:= []) (by kernel_rfl) (trivial)
theorem ajc {R:Type}:aD (R:=R) (hnd 0 Jt) Ky LP Rz:=ao (l:= []) (by kernel_rfl) (trivial)
def ai4 {R:Type}:Inl R:= .rnd 150 3 Ky LP [7] TC Rz Jt
def RT:Code:=(cO 3 jM).2.1
def UH:Code:=(cO 3 jM).2.2
def N_ {R:Type}:List (Nat×Hd R):= []
def HW {R:Type}:List (Nat×Inl R):=[(12,ai4)]
def G3:Cfg:={T:=cR,spec:=[(186,nb)],aO:=aA.G Tryz.prog,eqs:=cT,N:=15,fuel:=64,fid:=151,rnd:=true}
theorem anQ:az Tryz.prog G3:=aP cY cX ⟨nK,trivial⟩
theorem ao7 {R:Type}:aI Tryz.prog (R:=R) 1 HW:=cE (by kernel_rfl) apZ anJ ajc ajg (au _ _)
theorem aan {R:Type}:aD (R:=R) (hnd 1 HW) G3 N_ RT:=ao (l:= []) (by kernel_rfl) (trivial)
theorem Yn {R:Type}:aD (R:=R) (hnd 1 HW) G3 N_ UH:=ao (l:= []) (by kernel_rfl) (trivial)
def Z6 {R:Type}:Inl R:= .rnd 151 3 G3 N_ [6] RT UH HW
def RR:Code:=(cO 3 oz).2.1
def TT:Code:=(cO 3 oz).2.2
def Pd {R:Type}:List (Nat×Hd R):= []
def KD {R:Type}:List (Nat×Inl R):= []
def Is:Cfg:={T:=cR,spec:=[(186,nb)],aO:=aA.G Tryz.prog,eqs:=cT,N:=13,fuel:=64,fid:=150,rnd:=true}
theorem ajl:az Tryz.prog Is:=aP cY cX ⟨nK,trivial⟩
theorem Zf {R:Type}:aI Tryz.prog (R:=R) 0 KD:=au _ _
theorem XH {R:Type}:aD (R:=R) (hnd 0 KD) Is Pd RR:=ao (l:= []) (by kernel_rfl) (trivial)
theorem akq {R:Type}:aD (R:=R) (hnd 0 KD) Is Pd TT:=ao (l:= []) (by kernel_rfl) (trivial)
def akt {R:Type}:Inl R:= .rnd 150 3 Is Pd [7] RR TT KD
def Wi:Code:=(cO 3 jM).2.1
def RD:Code:=(cO 3 jM).2.2
def Qt {R:Type}:List (Nat×Hd R):= []
def Kq {R:Type}:List (Nat×Inl R):=[(12,akt)]
def IV:Cfg:={T:=cR,spec:=[(186,nb)],aO:=aA.G Tryz.prog,eqs:=cT,N:=15,fuel:=64,fid:=151,rnd:=true}
theorem afi:az Tryz.prog IV:=aP cY cX ⟨nK,trivial⟩
theorem ao1 {R:Type}:aI Tryz.prog (R:=R) 1 Kq:=cE (by kernel_rfl) ajl XH akq Zf (au _ _)
theorem amM {R:Type}:aD (R:=R) (hnd 1 Kq) IV Qt Wi:=ao (l:= []) (by kernel_rfl) (trivial)
theorem afs {R:Type}:aD (R:=R) (hnd 1 Kq) IV Qt RD:=ao (l:= []) (by kernel_rfl) (trivial)
def aia {R:Type}:Inl R:= .rnd 151 3 IV Qt [6] Wi RD Kq
def MV {R:Type}:List (Nat×Hd R):=[(5,bL By G6)]
def Ko {R:Type}:List (Nat×Inl R):=[(31,afD),(41,Z6),(51,aia)]
def Kt:Cfg:={T:=cR,spec:=[(186,nb)],aO:=aA.G Tryz.prog,eqs:=cT,N:=52,fuel:=64,loops:=[(5,⟨[0,1,2,3,2000002,4000000], [],[2,3,4,5,6,7,9,10],11, [], [],[(2,0,10, .str)], []⟩)],blocks:=[(2,⟨[0,2,2000002,4000000], [],[2,3,4,5,9,10],11, [], [], [], []⟩)],fid:=178}
theorem alR:az Tryz.prog Kt:=aP cY cX ⟨nK,trivial⟩
theorem adJ {R:Type}:aI Tryz.prog (R:=R) 2 Ko:=bA Tryz.f163 ah5 al4 (bp (by kernel_rfl)) Yg (cE (by kernel_rfl) anQ aan Yn ao7 (cE (by kernel_rfl) afi amM afs ao1 (au _ _)))
theorem ach {R:Type}:bB (R:=R) (hnd 2 Ko) Kt MV (sub [1,0,0,0] ll) (HS.V By) (HS.st By) (HS.sh By) G6 (bL By G6):=aT By G6 (fun _ _=>rfl) (by intro q v K;kernel_rfl)
theorem adz {R:Type}:aD (R:=R) (hnd 2 Ko) Kt MV ll:=ao (l:=[sub [0,1,0,0,0,0] ll,sub [1,0,0,0] ll]) (by kernel_rfl) (dJ (b:=sub [0,1,0,0,0,0] ll) (rid:=1) (by kernel_rfl) (by kernel_rfl) (aK (b:=sub [1,0,0,0] ll) (rid:=5) (by kernel_rfl) (by kernel_rfl) ach (trivial)))
def aj2 {R:Type}:Inl R:= .mk 178 Kt MV ll Tryz.f178.results.toList Ko
def TL {R:Type}:List (Nat×Hd R):= []
def NG {R:Type}:List (Nat×Inl R):=[(5,akm),(1000003,aj2)]
def KB:Cfg:={T:=cR,spec:=[(186,nb)],aO:=aA.G Tryz.prog,eqs:=cT,N:=15,fuel:=64,fid:=151,tl:=[(3,[2])]}
theorem agf:az Tryz.prog KB:=aP cY cX ⟨nK,trivial⟩
theorem aky {R:Type}:aI Tryz.prog (R:=R) 3 NG:=bA Tryz.f152 Xv aok (bp (by kernel_rfl)) ac4 (bA Tryz.f178 alR adz (bp (by kernel_rfl)) adJ (au _ _))
theorem YT {R:Type}:aD (R:=R) (hnd 3 NG) KB TL jM:=ao (l:= []) (by kernel_rfl) (trivial)
theorem age:dB Tryz.prog KB jM:=vD (x:=cO 3 jM) (by kernel_rfl) (by kernel_rfl)
def ab6 {R:Type}:Inl R:= .mk 151 KB TL jM Tryz.f151.results.toList NG
def Wm {R:Type}:List (Nat×Hd R):= []
def PD {R:Type}:List (Nat×Inl R):=[(1000003,ab6)]
def I5:Cfg:={T:=cR,spec:=[(186,nb)],aO:=aA.G Tryz.prog,eqs:=cT,N:=13,fuel:=64,fid:=150,tl:=[(3,[2])]}
theorem ami:az Tryz.prog I5:=aP cY cX ⟨nK,trivial⟩
theorem aiK {R:Type}:aI Tryz.prog (R:=R) 4 PD:=bA Tryz.f151 agf YT age aky (au _ _)
theorem acV {R:Type}:aD (R:=R) (hnd 4 PD) I5 Wm oz:=ao (l:= []) (by kernel_rfl) (trivial)
theorem abL:dB Tryz.prog I5 oz:=vD (x:=cO 3 oz) (by kernel_rfl) (by kernel_rfl)
def aqs {R:Type}:Inl R:= .mk 150 I5 Wm oz Tryz.f150.results.toList PD
def Ts {R:Type}:List (Nat×Hd R):= []
def OL {R:Type}:List (Nat×Inl R):=[(4,aqs)]
def Ps:Cfg:={T:=cR,spec:=[(186,nb)],aO:=aA.G Tryz.prog,eqs:=cT,N:=5,fuel:=64,fid:=118}
theorem aoc:az Tryz.prog Ps:=aP cY cX ⟨nK,trivial⟩
theorem aj0 {R:Type}:aI Tryz.prog (R:=R) 5 OL:=bA Tryz.f150 ami acV abL aiK (au _ _)
theorem ai7 {R:Type}:aD (R:=R) (hnd 5 OL) Ps Ts HO:=ao (l:= []) (by kernel_rfl) (trivial)
def aot {R:Type}:Inl R:= .mk 118 Ps Ts HO Tryz.f118.results.toList OL
def Uv:Cfg:={T:=cR,spec:=[(72,Fq),(186,nb)],aO:=aA.G Tryz.prog,eqs:=cT,N:=6,fuel:=64,fid:=188}
theorem acB:az Tryz.prog Uv:=aP cY cX ⟨Jg,⟨nK,trivial⟩⟩
def ZQ {R:Type}:Inl R:= .mk 188 Uv [] ai9 Tryz.f188.results.toList []
def Lf {R:Type}:List (Nat×Hd R):=[(2,bL BC Jn)]
def I8 {R:Type}:List (Nat×Inl R):=[(16,ZQ)]
def Kg:Cfg:={T:=cR,spec:=[(186,nb)],aO:=aA.G Tryz.prog,eqs:=cT,N:=19,fuel:=64,loops:=[(2,⟨[0,1,7,8,2000004,2000012], [],[10],11, [], [], [], []⟩)],blocks:=[(0,⟨[2000004,2000012], [],[10],11, [], [], [], []⟩)],gk:=some ⟨[4,2000004,2000012], [],[10],11, [], [], [], []⟩,fid:=193}
theorem X5:az Tryz.prog Kg:=aP cY cX ⟨nK,trivial⟩
theorem XK {R:Type}:aI Tryz.prog (R:=R) 4 I8:=bI Tryz.f188 acB (au _ _)
theorem af9 {R:Type}:bB (R:=R) (hnd 4 I8) Kg Lf (sub [1,0,1,0,0] FY) (HS.V BC) (HS.st BC) (HS.sh BC) Jn (bL BC Jn):=aT BC Jn (fun _ _=>rfl) (by intro q v K;kernel_rfl)
theorem alO {R:Type}:aD (R:=R) (hnd 4 I8) Kg Lf FY:=ao (l:=[sub [1,0,1,0,0] FY]) (by kernel_rfl) (aK (b:=sub [1,0,1,0,0] FY) (rid:=2) (by kernel_rfl) (by kernel_rfl) af9 (trivial))
def adH {R:Type}:Inl R:= .mk 193 Kg Lf FY Tryz.f193.results.toList I8
def Ru {R:Type}:List (Nat×Hd R):= []
def Ok {R:Type}:List (Nat×Inl R):=[(7,adH)]
def L3:Cfg:={T:=cR,spec:=[(186,nb)],aO:=aA.G Tryz.prog,eqs:=cT,N:=9,fuel:=64,fid:=187}
theorem ajZ:az Tryz.prog L3:=aP cY cX ⟨nK,trivial⟩
theorem aqc {R:Type}:aI Tryz.prog (R:=R) 5 Ok:=bA Tryz.f193 X5 alO (bp (by kernel_rfl)) XK (au _ _)
theorem Xs {R:Type}:aD (R:=R) (hnd 5 Ok) L3 Ru Ut:=ao (l:= []) (by kernel_rfl) (trivial)
def ajK {R:Type}:Inl R:= .mk 187 L3 Ru Ut Tryz.f187.results.toList Ok
def ajy {R:Type}:List (Nat×Hd R):= []
def R9 {R:Type}:List (Nat×Inl R):=[(6,adP),(7,aot),(14,ajK)]
def RY:Cfg:={T:=cR,spec:=[(186,nb)],aO:=aA.G Tryz.prog,eqs:=cT,N:=17,fuel:=64,fid:=177}
theorem aeZ:az Tryz.prog RY:=aP cY cX ⟨nK,trivial⟩
theorem ao0 {R:Type}:aI Tryz.prog (R:=R) 6 R9:=bI Tryz.f119 aeh (bA Tryz.f118 aoc ai7 (bp (by kernel_rfl)) aj0 (bA Tryz.f187 ajZ Xs (bp (by kernel_rfl)) aqc (au _ _)))
theorem anM {R:Type}:aD (R:=R) (hnd 6 R9) RY ajy alN:=ao (l:= []) (by kernel_rfl) (trivial)
theorem aaz:aF Tryz.prog 177 Vt:=bf Tryz.f177 aeZ D7 (d:=6) ao0 anM (bp (by kernel_rfl)) (toY:=Ya)
end
end Go.Eng
set_option linter.unusedVariables false
set_option maxRecDepth 100000
namespace Go.Eng
noncomputable section
open Go Go.Proofs
def KE:List (Nat×TI):=[(3,⟨false,1, .one (.int .i64 0), .int .i64⟩),(9,⟨false,1, .one (.str []), .str⟩),(22,⟨false,1, .one (.clip .bH []), .slice .bH 36⟩),(24,⟨true,4, .agg [.int .i64 0, .int .i64 0, .int .i64 0, .clip .bH []], .struct [(0,3),(1,3),(2,3),(3,22)]⟩),(36,⟨true,6, .agg [.int .i64 0, .int .i64 0, .int .i64 0, .str [], .int .i64 0, .clip .entry []], .struct [(0,3),(1,3),(2,3),(3,9),(4,3),(5,34)]⟩)]
def JF:List (Nat×List EK):= []
theorem M1:Tryz.prog.follows .mixedOrders=true:=by kernel_rfl
theorem NC:(KE.all fun x=>tiB Tryz.prog x.1 x.2)=true:=by kernel_rfl
theorem Mn:(JF.all fun x=>eqB Tryz.prog x.1 x.2)=true:=by kernel_rfl
def HI:Code:=bd Tryz.f175
def UA:List HV:=[.agg hFs]
def Na:List HV:=[.one (.int .i64)]
def ajd:HP.V UA→Fs:=fun v=>((cFs v.1))
def anv:HX.V Na→Int:=fun v=>(v)
def amH:Int→HX.V Na:=fun y=>(y)
def YA:Fs→Option (Int):=fun x=>nh x
def Tb:Spec:=aH UA Na ajd amH YA
def ahw:Cfg:={T:=KE,aO:=aA.G Tryz.prog,eqs:=JF,N:=6,fuel:=64,fid:=174}
theorem ZY:az Tryz.prog ahw:=aP NC Mn trivial
theorem aaV:aF Tryz.prog 174 Tb:=aV Tryz.f174 ZY M1 (toY:=anv)
def AO:HS:=⟨[(1, .one (.ptr 0 0)),(3, .one (.int .i64)),(7, .one (.int .i64)),(8, .one (.int .i64))],[(0, .cells hFs)],1⟩
def H8 {R:Type}:Nat→HS.V AO→(Ex→St→Option R)→Option R:=fun q v K=>
 eJ v.1.2.2.1 (cFs v.2.1) (fun y7=>K (.exit 0) {ar:=[(3, .v (.one (.int .i64 y7)))],mem:= [],nx:=0}) q v.1.2.1 v.1.2.2.2.1
def UN:List HV:=[.agg hFs]
def N4:List HV:=[.one (.int .i64)]
def afe:HP.V UN→Fs:=fun v=>((cFs v.1))
def afM:HX.V N4→Int:=fun v=>(v)
def ahk:Int→HX.V N4:=fun y=>(y)
def Y9:Fs→Option (Int):=fun x=>mG x
def SH:Spec:=aH UN N4 afe ahk Y9
def UB {R:Type}:List (Nat×Hd R):=[(3,bL AO H8)]
def O0 {R:Type}:List (Nat×Inl R):= []
def ML:Cfg:={T:=KE,aO:=aA.G Tryz.prog,eqs:=JF,N:=29,fuel:=64,loops:=[(3,⟨[1,3,7,8], [],[0],1, [], [], [], []⟩)],blocks:=[(0,⟨[3], [], [],0, [], [], [], []⟩)],fid:=175}
theorem ahI:az Tryz.prog ML:=aP NC Mn trivial
theorem adK {R:Type}:aI Tryz.prog (R:=R) 0 O0:=au _ _
theorem afX {R:Type}:bB (R:=R) (hnd 0 O0) ML UB (sub [1,1,0,1,0,0] HI) (HS.V AO) (HS.st AO) (HS.sh AO) H8 (bL AO H8):=aT AO H8 (fun _ _=>rfl) (by intro q v K;kernel_rfl)
theorem Ys {R:Type}:aD (R:=R) (hnd 0 O0) ML UB HI:=ao (l:=[sub [1,1,0,1,0,0] HI]) (by kernel_rfl) (aK (b:=sub [1,1,0,1,0,0] HI) (rid:=3) (by kernel_rfl) (by kernel_rfl) afX (trivial))
theorem acZ:aF Tryz.prog 175 SH:=bf Tryz.f175 ahI M1 (d:=0) adK Ys (bp (by kernel_rfl)) (toY:=afM)
def U6:List HV:=[.agg hFs, .one (.int .i64), .one (.int .i64)]
def MR:List HV:=[.one (.bool)]
def aie:HP.V U6→Fs×Int×Int:=fun v=>((cFs v.1),v.2.1,v.2.2.1)
def aaQ:HX.V MR→Bool:=fun v=>(v)
def adD:Bool→HX.V MR:=fun y=>(y)
def apd:(Fs×Int×Int)→Option (Bool):=fun x=>jR x.1 x.2.1 x.2.2
def ON:Spec:=aH U6 MR aie adD apd
def ane:Cfg:={T:=KE,spec:=[(174,Tb),(175,SH)],aO:=aA.G Tryz.prog,eqs:=JF,N:=23,fuel:=64,fid:=160}
theorem ZW:az Tryz.prog ane:=aP NC Mn ⟨aaV,⟨acZ,trivial⟩⟩
theorem QU:aF Tryz.prog 160 ON:=aV Tryz.f160 ZW M1 (toY:=aaQ)
end
end Go.Eng
set_option linter.unusedVariables false
set_option maxRecDepth 100000
namespace Go.Eng
noncomputable section
open Go Go.Proofs
def lh:List (Nat×TI):=[(3,⟨false,1, .one (.int .i64 0), .int .i64⟩),(22,⟨false,1, .one (.clip .bH []), .slice .bH 36⟩),(24,⟨true,4, .agg [.int .i64 0, .int .i64 0, .int .i64 0, .clip .bH []], .struct [(0,3),(1,3),(2,3),(3,22)]⟩),(36,⟨true,6, .agg [.int .i64 0, .int .i64 0, .int .i64 0, .str [], .int .i64 0, .clip .entry []], .struct [(0,3),(1,3),(2,3),(3,9),(4,3),(5,34)]⟩),(155,⟨false,1, .one (.int .u64 0), .int .u64⟩)]
def lB:List (Nat×List EK):= []
theorem En:Tryz.prog.follows .mixedOrders=true:=by kernel_rfl
theorem lS:(lh.all fun x=>tiB Tryz.prog x.1 x.2)=true:=by kernel_rfl
theorem lQ:(lB.all fun x=>eqB Tryz.prog x.1 x.2)=true:=by kernel_rfl
def ap4:Code:=bd Tryz.f50
def YP:Code:=bd Tryz.f70
def aqA:Code:=bd Tryz.f77
def M0:Code:=bd Tryz.f80
def aoG:Code:=bd Tryz.f81
def FA:Code:=bd Tryz.f115
def Iv:Code:=bd Tryz.f116
def IA:Code:=bd Tryz.f117
def ZT:Code:=bd Tryz.f124
def Iy:Code:=bd Tryz.f149
def amJ:Code:=bd Tryz.f161
def Ao:HS:=⟨[(0, .one (.sl .bH)),(1, .one (.int .i64)),(2, .one (.fnc 116)),(8, .one (.int .i64)),(9, .one (.int .i64)),(10, .one (.int .i64))], [],0⟩
def HD {R:Type}:Nat→HS.V Ao→(Ex→St→Option R)→Option R:=fun q v K=>
 cv v.1.1 v.1.2.1 (fun y10=>K (.exit 0) {ar:=[(0, .v (.one (.sl .bH v.1.1))),(1, .v (.one (.int .i64 v.1.2.1))),(2, .v (.one (.fnc 116))),(8, .v (.one (.int .i64 v.1.2.2.2.1))),(9, .v (.one (.int .i64 y10)))],mem:= [],nx:=0}) q v.1.2.2.2.2.1 v.1.2.2.2.2.2.1
def TO:List HV:=[.agg hFs, .one (.int .i64)]
def Nc:List HV:=[.one (.int .i64), .one (.bool)]
def agp:HP.V TO→Fs×Int:=fun v=>((cFs v.1),v.2.1)
def ace:HX.V Nc→Int×Bool:=fun v=>(v.1,v.2)
def afZ:(Int×Bool)→HX.V Nc:=fun y=>(y.1,y.2)
def aac:(Fs×Int)→Option (Int×Bool):=fun x=>lM x.1 x.2
def yF:Spec:=aH TO Nc agp afZ aac
def SO:Cfg:={T:=lh,aO:=aA.G Tryz.prog,eqs:=lB,N:=6,fuel:=64,fid:=149}
theorem aiV:az Tryz.prog SO:=aP lS lQ trivial
def amy {R:Type}:Inl R:= .mk 149 SO [] Iy Tryz.f149.results.toList []
def TN:Cfg:={T:=lh,aO:=aA.G Tryz.prog,eqs:=lB,N:=6,fuel:=64,fid:=149}
theorem aaF:az Tryz.prog TN:=aP lS lQ trivial
def apf {R:Type}:Inl R:= .mk 149 TN [] Iy Tryz.f149.results.toList []
def U2 {R:Type}:List (Nat×Hd R):= []
def PG {R:Type}:List (Nat×Inl R):=[(8,amy),(10,apf)]
def Qi:Cfg:={T:=lh,aO:=aA.G Tryz.prog,eqs:=lB,N:=20,fuel:=64,fid:=117}
theorem YI:az Tryz.prog Qi:=aP lS lQ trivial
theorem Zv {R:Type}:aI Tryz.prog (R:=R) 1 PG:=bI Tryz.f149 aiV (bI Tryz.f149 aaF (au _ _))
theorem apI {R:Type}:aD (R:=R) (hnd 1 PG) Qi U2 IA:=ao (l:= []) (by kernel_rfl) (trivial)
def agJ {R:Type}:Inl R:= .mk 117 Qi U2 IA Tryz.f117.results.toList PG
def Vl {R:Type}:List (Nat×Hd R):= []
def P2 {R:Type}:List (Nat×Inl R):=[(8,agJ)]
def M5:Cfg:={T:=lh,aO:=aA.G Tryz.prog,eqs:=lB,N:=9,fuel:=64,fid:=116}
theorem ahP:az Tryz.prog M5:=aP lS lQ trivial
theorem aeS {R:Type}:aI Tryz.prog (R:=R) 2 P2:=bA Tryz.f117 YI apI (bp (by kernel_rfl)) Zv (au _ _)
theorem alE {R:Type}:aD (R:=R) (hnd 2 P2) M5 Vl Iv:=ao (l:= []) (by kernel_rfl) (trivial)
def ant {R:Type}:Inl R:= .mk 116 M5 Vl Iv Tryz.f116.results.toList P2
def TV:Cfg:={T:=lh,aO:=aA.G Tryz.prog,eqs:=lB,N:=6,fuel:=64,fid:=149}
theorem amd:az Tryz.prog TV:=aP lS lQ trivial
def aav {R:Type}:Inl R:= .mk 149 TV [] Iy Tryz.f149.results.toList []
def V0:Cfg:={T:=lh,aO:=aA.G Tryz.prog,eqs:=lB,N:=6,fuel:=64,fid:=149}
theorem aou:az Tryz.prog V0:=aP lS lQ trivial
def Xp {R:Type}:Inl R:= .mk 149 V0 [] Iy Tryz.f149.results.toList []
def Ri {R:Type}:List (Nat×Hd R):= []
def M4 {R:Type}:List (Nat×Inl R):=[(8,aav),(10,Xp)]
def OZ:Cfg:={T:=lh,aO:=aA.G Tryz.prog,eqs:=lB,N:=20,fuel:=64,fid:=117}
theorem aoW:az Tryz.prog OZ:=aP lS lQ trivial
theorem abG {R:Type}:aI Tryz.prog (R:=R) 1 M4:=bI Tryz.f149 amd (bI Tryz.f149 aou (au _ _))
theorem ajx {R:Type}:aD (R:=R) (hnd 1 M4) OZ Ri IA:=ao (l:= []) (by kernel_rfl) (trivial)
def ao9 {R:Type}:Inl R:= .mk 117 OZ Ri IA Tryz.f117.results.toList M4
def Rg {R:Type}:List (Nat×Hd R):= []
def Lz {R:Type}:List (Nat×Inl R):=[(8,ao9)]
def MZ:Cfg:={T:=lh,aO:=aA.G Tryz.prog,eqs:=lB,N:=9,fuel:=64,fid:=116}
theorem Xq:az Tryz.prog MZ:=aP lS lQ trivial
theorem YN {R:Type}:aI Tryz.prog (R:=R) 2 Lz:=bA Tryz.f117 aoW ajx (bp (by kernel_rfl)) abG (au _ _)
theorem Zc {R:Type}:aD (R:=R) (hnd 2 Lz) MZ Rg Iv:=ao (l:= []) (by kernel_rfl) (trivial)
def akj {R:Type}:Inl R:= .mk 116 MZ Rg Iv Tryz.f116.results.toList Lz
def QF {R:Type}:List (Nat×Hd R):=[(3,bL Ao HD)]
def Jq {R:Type}:List (Nat×Inl R):=[(30,ant),(46,akj)]
def I0:Cfg:={T:=lh,aO:=aA.G Tryz.prog,eqs:=lB,N:=49,fuel:=64,loops:=[(3,⟨[0,1,2,8,9,10], [], [],0, [], [], [], []⟩)],blocks:=[(0,⟨[0,1,2,8,9], [], [],0, [], [], [], []⟩)],fid:=115}
theorem ajk:az Tryz.prog I0:=aP lS lQ trivial
theorem ZU {R:Type}:aI Tryz.prog (R:=R) 3 Jq:=bA Tryz.f116 ahP alE (bp (by kernel_rfl)) aeS (bA Tryz.f116 Xq Zc (bp (by kernel_rfl)) YN (au _ _))
theorem aku {R:Type}:bB (R:=R) (hnd 3 Jq) I0 QF (sub [1,1,1,0,0,0] FA) (HS.V Ao) (HS.st Ao) (HS.sh Ao) HD (bL Ao HD):=aT Ao HD (fun _ _=>rfl) (by intro q v K;kernel_rfl)
theorem adx {R:Type}:aD (R:=R) (hnd 3 Jq) I0 QF FA:=ao (l:=[sub [1,1,1,0,0,0] FA]) (by kernel_rfl) (aK (b:=sub [1,1,1,0,0,0] FA) (rid:=3) (by kernel_rfl) (by kernel_rfl) aku (trivial))
def aga {R:Type}:Inl R:= .mk 115 I0 QF FA Tryz.f115.results.toList Jq
def anZ {R:Type}:List (Nat×Hd R):= []
def TJ {R:Type}:List (Nat×Inl R):=[(9,aga)]
def TD:Cfg:={T:=lh,aO:=aA.G Tryz.prog,eqs:=lB,N:=12,fuel:=64,fid:=70}
theorem anP:az Tryz.prog TD:=aP lS lQ trivial
theorem aqg {R:Type}:aI Tryz.prog (R:=R) 4 TJ:=bA Tryz.f115 ajk adx (bp (by kernel_rfl)) ZU (au _ _)
theorem aoM {R:Type}:aD (R:=R) (hnd 4 TJ) TD anZ YP:=ao (l:= []) (by kernel_rfl) (trivial)
theorem Bv:aF Tryz.prog 70 yF:=bf Tryz.f70 anP En (d:=4) aqg aoM (bp (by kernel_rfl)) (toY:=ace)
def Sv:List HV:=[.agg hFs, .one (.int .i64)]
def Qx:List HV:=[.agg hIn, .one (.bool)]
def aoZ:HP.V Sv→Fs×Int:=fun v=>((cFs v.1),v.2.1)
def amA:HX.V Qx→ah×Bool:=fun v=>((cIn v.1),v.2)
def acv:(ah×Bool)→HX.V Qx:=fun y=>((y.1.ino,(y.1.kind,(y.1.aL,(y.1.data,(y.1.parent,(y.1.entries,())))))),y.2)
def X4:(Fs×Int)→Option (ah×Bool):=fun x=>bz x.1 x.2
def o_:Spec:=aH Sv Qx aoZ acv X4
def aoX:Cfg:={T:=lh,spec:=[(70,yF)],aO:=aA.G Tryz.prog,eqs:=lB,N:=22,fuel:=64,fid:=39}
theorem agY:az Tryz.prog aoX:=aP lS lQ ⟨Bv,trivial⟩
theorem pt:aF Tryz.prog 39 o_:=aV Tryz.f39 agY En (toY:=amA)
def R4:List HV:=[.agg hFs, .agg hIn]
def Lh:List HV:=[.agg hFs]
def ZN:HP.V R4→Fs×ah:=fun v=>((cFs v.1),(cIn v.2.1))
def agX:HX.V Lh→Fs:=fun v=>((cFs v))
def afx:Fs→HX.V Lh:=fun y=>((y.ak,(y.aw,(y.next,(y.aa,())))))
def ahE:(Fs×ah)→Option (Fs):=fun x=>bG x.1 x.2
def Da:Spec:=aH R4 Lh ZN afx ahE
def Wx:Cfg:={T:=lh,spec:=[(70,yF)],aO:=aA.G Tryz.prog,eqs:=lB,N:=8,fuel:=64,ovl:=[128],fid:=80}
theorem aho:az Tryz.prog Wx:=aP lS lQ ⟨Bv,trivial⟩ (ov:=⟨AA,trivial⟩)
def aaC {R:Type}:Inl R:= .mk 80 Wx [] M0 Tryz.f80.results.toList []
def Tg:Cfg:={T:=lh,spec:=[(70,yF)],aO:=aA.G Tryz.prog,eqs:=lB,N:=95,fuel:=64,ovl:=[128],fid:=81}
theorem aak:az Tryz.prog Tg:=aP lS lQ ⟨Bv,trivial⟩ (ov:=⟨AA,trivial⟩)
def ag7 {R:Type}:Inl R:= .mk 81 Tg [] aoG Tryz.f81.results.toList []
def aa2 {R:Type}:List (Nat×Hd R):= []
def WU {R:Type}:List (Nat×Inl R):=[(16,aaC),(30,ag7)]
def Vf:Cfg:={T:=lh,spec:=[(70,yF)],aO:=aA.G Tryz.prog,eqs:=lB,N:=33,fuel:=64,ovl:=[128],fid:=50}
theorem aaP:az Tryz.prog Vf:=aP lS lQ ⟨Bv,trivial⟩ (ov:=⟨AA,trivial⟩)
theorem Xo {R:Type}:aI Tryz.prog (R:=R) 1 WU:=bI Tryz.f80 aho (bI Tryz.f81 aak (au _ _))
theorem ajm {R:Type}:aD (R:=R) (hnd 1 WU) Vf aa2 ap4:=ao (l:= []) (by kernel_rfl) (trivial)
theorem F7:aF Tryz.prog 50 Da:=bf Tryz.f50 aaP En (d:=1) Xo ajm (bp (by kernel_rfl)) (toY:=agX)
def Vx:List HV:=[.agg hFs, .one (.int .i64)]
def P6:List HV:=[.agg hFs]
def agi:HP.V Vx→Fs×Int:=fun v=>((cFs v.1),v.2.1)
def anp:HX.V P6→Fs:=fun v=>((cFs v))
def alc:Fs→HX.V P6:=fun y=>((y.ak,(y.aw,(y.next,(y.aa,())))))
def ank:(Fs×Int)→Option (Fs):=fun x=>my x.1 x.2
def Vw:Spec:=aH Vx P6 agi alc ank
def TG:Cfg:={T:=lh,spec:=[(70,yF)],aO:=aA.G Tryz.prog,eqs:=lB,N:=8,fuel:=64,fid:=80}
theorem ZO:az Tryz.prog TG:=aP lS lQ ⟨Bv,trivial⟩
def ae9 {R:Type}:Inl R:= .mk 80 TG [] M0 Tryz.f80.results.toList []
def VJ:Cfg:={T:=lh,spec:=[(70,yF)],aO:=aA.G Tryz.prog,eqs:=lB,N:=33,fuel:=64,fid:=124}
theorem amU:az Tryz.prog VJ:=aP lS lQ ⟨Bv,trivial⟩
def aa0 {R:Type}:Inl R:= .mk 124 VJ [] ZT Tryz.f124.results.toList []
def aic {R:Type}:List (Nat×Hd R):= []
def Wg {R:Type}:List (Nat×Inl R):=[(15,ae9),(23,aa0)]
def UW:Cfg:={T:=lh,spec:=[(70,yF)],aO:=aA.G Tryz.prog,eqs:=lB,N:=26,fuel:=64,fid:=77}
theorem apk:az Tryz.prog UW:=aP lS lQ ⟨Bv,trivial⟩
theorem XR {R:Type}:aI Tryz.prog (R:=R) 1 Wg:=bI Tryz.f80 ZO (bI Tryz.f124 amU (au _ _))
theorem adh {R:Type}:aD (R:=R) (hnd 1 Wg) UW aic aqA:=ao (l:= []) (by kernel_rfl) (trivial)
theorem anb:aF Tryz.prog 77 Vw:=bf Tryz.f77 apk En (d:=1) XR adh (bp (by kernel_rfl)) (toY:=anp)
def Wq:List HV:=[.agg hFs]
def Lo:List HV:=[.agg hFs, .one (.int .i64)]
def afB:HP.V Wq→Fs:=fun v=>((cFs v.1))
def afq:HX.V Lo→Fs×Int:=fun v=>((cFs v.1),v.2)
def aiD:(Fs×Int)→HX.V Lo:=fun y=>((y.1.ak,(y.1.aw,(y.1.next,(y.1.aa,())))),y.2)
def aet:Fs→Option (Fs×Int):=fun x=>iE x
def VN:Spec:=aH Wq Lo afB aiD aet
def T9:Cfg:={T:=lh,aO:=aA.G Tryz.prog,eqs:=lB,N:=8,fuel:=64,fid:=80}
theorem ahW:az Tryz.prog T9:=aP lS lQ trivial
def an5 {R:Type}:Inl R:= .mk 80 T9 [] M0 Tryz.f80.results.toList []
def aoI {R:Type}:List (Nat×Hd R):= []
def WT {R:Type}:List (Nat×Inl R):=[(13,an5)]
def Sw:Cfg:={T:=lh,aO:=aA.G Tryz.prog,eqs:=lB,N:=17,fuel:=64,fid:=161}
theorem akV:az Tryz.prog Sw:=aP lS lQ trivial
theorem aft {R:Type}:aI Tryz.prog (R:=R) 1 WT:=bI Tryz.f80 ahW (au _ _)
theorem aks {R:Type}:aD (R:=R) (hnd 1 WT) Sw aoI amJ:=ao (l:= []) (by kernel_rfl) (trivial)
theorem amo:aF Tryz.prog 161 VN:=bf Tryz.f161 akV En (d:=1) aft aks (bp (by kernel_rfl)) (toY:=afq)
def Rn:List HV:=[.one (.int .i64), .one (.int .i64)]
def Pb:List HV:=[.agg hFs, .one (.int .i64)]
def X6:HP.V Rn→Int×Int:=fun v=>(v.1,v.2.1)
def XA:HX.V Pb→Fs×Int:=fun v=>((cFs v.1),v.2)
def ajH:(Fs×Int)→HX.V Pb:=fun y=>((y.1.ak,(y.1.aw,(y.1.next,(y.1.aa,())))),y.2)
def Z_:(Int×Int)→Option (Fs×Int):=fun x=>qQ x.1 x.2
def Uz:Spec:=aH Rn Pb X6 ajH Z_
def X0:Cfg:={T:=lh,aO:=aA.G Tryz.prog,eqs:=lB,N:=28,fuel:=64,fid:=66}
theorem akO:az Tryz.prog X0:=aP lS lQ trivial
theorem Zk:aF Tryz.prog 66 Uz:=aV Tryz.f66 akO En (toY:=XA)
end
end Go.Eng
set_option linter.unusedVariables false
set_option maxRecDepth 100000
namespace Go.Eng
noncomputable section
open Go Go.Proofs
def PV:List (Nat×TI):=[(3,⟨false,1, .one (.int .i64 0), .int .i64⟩),(9,⟨false,1, .one (.str []), .str⟩),(24,⟨true,4, .agg [.int .i64 0, .int .i64 0, .int .i64 0, .clip .bH []], .struct [(0,3),(1,3),(2,3),(3,22)]⟩),(34,⟨false,1, .one (.clip .entry []), .slice .entry 94⟩),(36,⟨true,6, .agg [.int .i64 0, .int .i64 0, .int .i64 0, .str [], .int .i64 0, .clip .entry []], .struct [(0,3),(1,3),(2,3),(3,9),(4,3),(5,34)]⟩),(41,⟨true,3, .agg [.int .i64 0, .str [], .int .i64 0], .struct [(0,3),(1,9),(2,3)]⟩),(46,⟨false,1, .one (.clip .str []), .slice .str 9⟩)]
def O5:List (Nat×List EK):= []
theorem WZ:Tryz.prog.follows .mixedOrders=true:=by kernel_rfl
theorem Wh:(PV.all fun x=>tiB Tryz.prog x.1 x.2)=true:=by kernel_rfl
theorem Td:(O5.all fun x=>eqB Tryz.prog x.1 x.2)=true:=by kernel_rfl
def GZ:Code:=bd Tryz.f164
def A1:HS:=⟨[(2, .one (.ptr 0 0)),(4, .one (.ptr 1 0)),(8, .one (.ptr 2 0)),(24, .one (.sl .str)),(25, .one (.int .i64)),(26, .one (.int .i64))],[(0, .cells hFs),(1, .cells [.int .i64, .str, .int .i64]),(2, .cells [.int .i64, .str, .int .i64])],3⟩
def GX {R:Type}:Nat→HS.V A1→(Ex→St→Option R)→Option R:=fun q v K=>
 gH v.1.2.2.2.1 v.1.2.2.2.2.1 (cFs v.2.1) (fun y11=>K .ret {ar:=[(4, .v (.one (.ptr 1 0))),(5, .v (.one (.int .i64 y11)))],mem:=[(1, .cells [.int .i64 ((⟨0, [],0⟩:aj).dir), .str ((⟨0, [],0⟩:aj).name), .int .i64 ((⟨0, [],0⟩:aj).ino)])],nx:=2}) (fun y14=>K (.exit 0) {ar:=[(4, .v (.one (.ptr 1 0))),(8, .v (.one (.ptr 2 0)))],mem:=[(1, .cells [.int .i64 ((⟨v.2.2.1.1,v.2.2.1.2.1,v.2.2.1.2.2.1⟩:aj).dir), .str ((⟨v.2.2.1.1,v.2.2.1.2.1,v.2.2.1.2.2.1⟩:aj).name), .int .i64 ((⟨v.2.2.1.1,v.2.2.1.2.1,v.2.2.1.2.2.1⟩:aj).ino)]),(2, .cells [.int .i64 y14.dir, .str y14.name, .int .i64 y14.ino])],nx:=3}) q v.1.2.2.2.2.2.1 (⟨v.2.2.2.1.1,v.2.2.2.1.2.1,v.2.2.2.1.2.2.1⟩:aj)
def TY:List HV:=[.agg hFs, .one (.str)]
def Mj:List HV:=[.agg [.int .i64, .str, .int .i64], .one (.int .i64)]
def Yw:HP.V TY→Fs×Str:=fun v=>((cFs v.1),v.2.1)
def Zi:HX.V Mj→aj×Int:=fun v=>((⟨v.1.1,v.1.2.1,v.1.2.2.1⟩:aj),v.2)
def ajr:(aj×Int)→HX.V Mj:=fun y=>((y.1.dir,(y.1.name,(y.1.ino,()))),y.2)
def amz:(Fs×Str)→Option (aj×Int):=fun x=>qb x.1 x.2
def Ui:Spec:=aH TY Mj Yw ajr amz
def Vo {R:Type}:List (Nat×Hd R):=[(6,bL A1 GX)]
def LV {R:Type}:List (Nat×Inl R):= []
def Pv:Cfg:={T:=PV,spec:=[(39,o_),(112,Fm),(177,Vt)],aO:=aA.G Tryz.prog,eqs:=O5,N:=60,fuel:=64,loops:=[(6,⟨[2,4,8,24,25,26], [],[0,1,2],3, [], [], [], []⟩)],blocks:=[(0,⟨[4,8], [],[1,2],3, [], [], [], []⟩)],gk:=some ⟨[4,5], [],[1],2, [], [], [], []⟩,fid:=164}
theorem ahq:az Tryz.prog Pv:=aP Wh Td ⟨pt,⟨Js,⟨aaz,trivial⟩⟩⟩
theorem aed {R:Type}:aI Tryz.prog (R:=R) 0 LV:=au _ _
theorem ak4 {R:Type}:bB (R:=R) (hnd 0 LV) Pv Vo (sub [1,1,1,1,0,1,0,0] GZ) (HS.V A1) (HS.st A1) (HS.sh A1) GX (bL A1 GX):=aT A1 GX (fun _ _=>rfl) (by intro q v K;kernel_rfl)
theorem aeW {R:Type}:aD (R:=R) (hnd 0 LV) Pv Vo GZ:=ao (l:=[sub [1,1,1,1,0,1,0,0] GZ]) (by kernel_rfl) (aK (b:=sub [1,1,1,1,0,1,0,0] GZ) (rid:=6) (by kernel_rfl) (by kernel_rfl) ak4 (trivial))
theorem ag6:aF Tryz.prog 164 Ui:=bf Tryz.f164 ahq WZ (d:=0) aed aeW (bp (by kernel_rfl)) (toY:=Zi)
def Ww:List HV:=[.agg hFs, .one (.str)]
def NA:List HV:=[.agg hIn, .one (.int .i64)]
def ak7:HP.V Ww→Fs×Str:=fun v=>((cFs v.1),v.2.1)
def YR:HX.V NA→ah×Int:=fun v=>((cIn v.1),v.2)
def agt:(ah×Int)→HX.V NA:=fun y=>((y.1.ino,(y.1.kind,(y.1.aL,(y.1.data,(y.1.parent,(y.1.entries,())))))),y.2)
def akG:(Fs×Str)→Option (ah×Int):=fun x=>n3 x.1 x.2
def Vn:Spec:=aH Ww NA ak7 agt akG
def aao:Cfg:={T:=PV,spec:=[(39,o_),(164,Ui)],aO:=aA.G Tryz.prog,eqs:=O5,N:=31,fuel:=64,fid:=147}
theorem amm:az Tryz.prog aao:=aP Wh Td ⟨pt,⟨ag6,trivial⟩⟩
theorem aeu:aF Tryz.prog 147 Vn:=aV Tryz.f147 amm WZ (toY:=YR)
end
end Go.Eng
set_option linter.unusedVariables false
set_option maxRecDepth 100000
namespace Go.Eng
noncomputable section
open Go Go.Proofs
def Mx:List (Nat×TI):=[(3,⟨false,1, .one (.int .i64 0), .int .i64⟩),(9,⟨false,1, .one (.str []), .str⟩),(46,⟨false,1, .one (.clip .str []), .slice .str 9⟩),(163,⟨false,1, .one (.clip .strs []), .slice .strs 46⟩)]
def Lp:List (Nat×List EK):= []
theorem aiv:Tryz.prog.follows .mixedOrders=true:=by kernel_rfl
theorem Xl:(Mx.all fun x=>tiB Tryz.prog x.1 x.2)=true:=by kernel_rfl
theorem TA:(Lp.all fun x=>eqB Tryz.prog x.1 x.2)=true:=by kernel_rfl
def AN:Code:=bd Tryz.f148
def akh:Code:=bd Tryz.f165
def Cf:HS:=⟨[(0, .one (.sl .strs)),(3, .one (.int .i64)),(9, .one (.sl .strs)),(10, .one (.int .i64)),(11, .one (.int .i64))], [],0⟩
def Hq {R:Type}:Nat→HS.V Cf→(Ex→St→Option R)→Option R:=fun q v K=>
 cL v.1.2.2.1 v.1.2.2.2.1 (fun y8=>K (.exit 0) {ar:=[(0, .v (.one (.sl .strs v.1.1))),(3, .v (.one (.int .i64 y8)))],mem:= [],nx:=0}) q v.1.2.1 v.1.2.2.2.2.1
def Ca:HS:=⟨[(6, .one (.sub 0)),(25, .one (.sl .strs)),(26, .one (.int .i64)),(27, .one (.int .i64))],[(0, .row .str)],1⟩
def Hj {R:Type}:Nat→HS.V Ca→(Ex→St→Option R)→Option R:=fun q v K=>
 bY v.1.1.1 v.1.2.1 v.1.2.2.1 (fun y18 y19=>K (.exit 2) {ar:=[(6, .v (.one (.sub 0 v.1.1.1 y18)))],mem:=[(0, .row .str y19)],nx:=1}) q v.1.1.2 v.1.2.2.2.1 v.2.1
def R0:List HV:=[.one (.sl .strs)]
def Om:List HV:=[.one (.sl .str)]
def acA:HP.V R0→(List (List Str)):=fun v=>(v.1)
def Z7:HX.V Om→(List Str):=fun v=>(v)
def anL:(List Str)→HX.V Om:=fun y=>(y)
def al2:(List (List Str))→Option ((List Str)):=fun x=>bg x
def VS:Spec:=aH R0 Om acA anL al2
def Tv:Cfg:={T:=Mx,aO:=aA.G Tryz.prog,eqs:=Lp,N:=27,fuel:=64,fid:=165,H5:=true}
theorem ags:az Tryz.prog Tv:=aP Xl TA trivial
def abu {R:Type}:Inl R:= .mk 165 Tv [] akh Tryz.f165.results.toList []
def OS {R:Type}:List (Nat×Hd R):=[(3,bL Cf Hq),(11,bL Ca Hj)]
def Jl {R:Type}:List (Nat×Inl R):=[(24,abu)]
def HN:Cfg:={T:=Mx,aO:=aA.G Tryz.prog,eqs:=Lp,N:=36,fuel:=64,loops:=[(11,⟨[6,25,26,27], [],[0],1, [], [], [],[(6,0, .str)]⟩),(3,⟨[0,3,9,10,11], [], [],0, [], [], [], []⟩)],blocks:=[(2,⟨[6], [],[0],1, [], [], [], []⟩),(0,⟨[0,3], [], [],0, [], [], [], []⟩)],fid:=148,H5:=true}
theorem akM:az Tryz.prog HN:=aP Xl TA trivial
theorem aml {R:Type}:aI Tryz.prog (R:=R) 1 Jl:=bI Tryz.f165 ags (au _ _)
theorem apS {R:Type}:bB (R:=R) (hnd 1 Jl) HN OS (sub [1,1,0,1,0,0] AN) (HS.V Cf) (HS.st Cf) (HS.sh Cf) Hq (bL Cf Hq):=aT Cf Hq (fun _ _=>rfl) (by intro q v K;kernel_rfl)
theorem Z1 {R:Type}:bB (R:=R) (hnd 1 Jl) HN OS (sub [1,1,1,1,0,1,0,0] AN) (HS.V Ca) (HS.st Ca) (HS.sh Ca) Hj (bL Ca Hj):=aT Ca Hj (fun _ _=>rfl) (by intro q v K;kernel_rfl)
theorem amP {R:Type}:aD (R:=R) (hnd 1 Jl) HN OS AN:=ao (l:=[sub [1,1,0,1,0,0] AN,sub [1,1,1,1,0,1,0,0] AN]) (by kernel_rfl) (aK (b:=sub [1,1,0,1,0,0] AN) (rid:=3) (by kernel_rfl) (by kernel_rfl) apS (aK (b:=sub [1,1,1,1,0,1,0,0] AN) (rid:=11) (by kernel_rfl) (by kernel_rfl) Z1 (trivial)))
theorem Y4:aF Tryz.prog 148 VS:=bf Tryz.f148 akM aiv (d:=1) aml amP (bp (by kernel_rfl)) (toY:=Z7)
end
end Go.Eng
set_option linter.unusedVariables false
set_option maxRecDepth 100000
namespace Go.Eng
noncomputable section
open Go Go.Proofs
def BI:List (Nat×TI):=[(3,⟨false,1, .one (.int .i64 0), .int .i64⟩),(4,⟨false,1, .one (.bool false), .bool⟩),(9,⟨false,1, .one (.str []), .str⟩),(24,⟨true,4, .agg [.int .i64 0, .int .i64 0, .int .i64 0, .clip .bH []], .struct [(0,3),(1,3),(2,3),(3,22)]⟩),(34,⟨false,1, .one (.clip .entry []), .slice .entry 94⟩),(36,⟨true,6, .agg [.int .i64 0, .int .i64 0, .int .i64 0, .str [], .int .i64 0, .clip .entry []], .struct [(0,3),(1,3),(2,3),(3,9),(4,3),(5,34)]⟩),(41,⟨true,3, .agg [.int .i64 0, .str [], .int .i64 0], .struct [(0,3),(1,9),(2,3)]⟩),(46,⟨false,1, .one (.clip .str []), .slice .str 9⟩),(79,⟨true,3, .agg [.bool false, .clip .str [], .bool false], .struct [(0,4),(1,46),(2,4)]⟩),(121,⟨true,11, .agg [.int .i64 0, .int .i64 0, .int .i64 0, .clip .bH [], .bool false, .bool false, .clip .str [], .int .i64 0, .str [], .int .i64 0, .int .i64 0], .struct [(0,24),(4,4),(5,4),(6,46),(7,41),(10,3)]⟩),(163,⟨false,1, .one (.clip .strs []), .slice .strs 46⟩)]
def BP:List (Nat×List EK):= []
theorem RL:Tryz.prog.follows .mixedOrders=true:=by kernel_rfl
theorem EH:(BI.all fun x=>tiB Tryz.prog x.1 x.2)=true:=by kernel_rfl
theorem D0:(BP.all fun x=>eqB Tryz.prog x.1 x.2)=true:=by kernel_rfl
def ZL:Code:=bd Tryz.f38
def aik:Code:=bd Tryz.f68
def E4:Code:=bd Tryz.f69
def afk:Code:=bd Tryz.f113
def amV:Code:=bd Tryz.f114
def Tt:List HV:=[.agg hFs, .one (.str)]
def N8:List HV:=[.one (.int .i64), .one (.int .i64)]
def aiy:HP.V Tt→Fs×Str:=fun v=>((cFs v.1),v.2.1)
def ae1:HX.V N8→Int×Int:=fun v=>(v.1,v.2)
def alY:(Int×Int)→HX.V N8:=fun y=>(y.1,y.2)
def ahd:(Fs×Str)→Option (Int×Int):=fun x=>ou x.1 x.2
def TZ:Spec:=aH Tt N8 aiy alY ahd
def agl:Cfg:={T:=BI,spec:=[(147,Vn)],aO:=aA.G Tryz.prog,eqs:=BP,N:=24,fuel:=64,fid:=111}
theorem YZ:az Tryz.prog agl:=aP EH D0 ⟨aeu,trivial⟩
theorem anw:aF Tryz.prog 111 TZ:=aV Tryz.f111 YZ RL (toY:=ae1)
def Bj:HS:=⟨[(0, .one (.ptr 4 0)),(2, .one (.ptr 5 0)),(1000008, .one (.ptr 1 0))],[(1, .cells [.int .i64, .str, .int .i64]),(4, .cells [.int .i64, .int .i64, .int .i64, .sl .bH, .bool, .bool, .sl .str, .int .i64, .str, .int .i64, .int .i64]),(5, .cells [.int .i64, .str, .int .i64])],6⟩
def J8 {R:Type}:Nat→HS.V Bj→(Ex→St→Option R)→Option R:=fun q v K=>
 aJ v.2.2.1.1 v.2.2.1.2.1 v.2.2.1.2.2.1 v.2.2.1.2.2.2.1 v.2.2.1.2.2.2.2.1 (fun y36=>K .ret {ar:=[(2, .v (.one (.ptr 5 0))),(3, .v (.one (.int .i64 y36))),(1000008, .v (.one (.ptr 1 0)))],mem:=[(1, .cells [.int .i64 ((⟨v.2.1.1,v.2.1.2.1,v.2.1.2.2.1⟩:aj).dir), .str ((⟨v.2.1.1,v.2.1.2.1,v.2.1.2.2.1⟩:aj).name), .int .i64 ((⟨v.2.1.1,v.2.1.2.1,v.2.1.2.2.1⟩:aj).ino)]),(5, .cells [.int .i64 ((⟨0, [],0⟩:aj).dir), .str ((⟨0, [],0⟩:aj).name), .int .i64 ((⟨0, [],0⟩:aj).ino)])],nx:=6}) (fun y45 y46 y47 y48 y49 y50=>K (.exit 0) {ar:=[(0, .v (.one (.ptr 4 0))),(2, .v (.one (.ptr 5 0))),(1000008, .v (.one (.ptr 1 0)))],mem:=[(1, .cells [.int .i64 ((⟨v.2.1.1,v.2.1.2.1,v.2.1.2.2.1⟩:aj).dir), .str ((⟨v.2.1.1,v.2.1.2.1,v.2.1.2.2.1⟩:aj).name), .int .i64 ((⟨v.2.1.1,v.2.1.2.1,v.2.1.2.2.1⟩:aj).ino)]),(4, .cells [.int .i64 v.2.2.1.1, .int .i64 v.2.2.1.2.1, .int .i64 v.2.2.1.2.2.1, .sl .bH v.2.2.1.2.2.2.1, .bool v.2.2.1.2.2.2.2.1, .bool y45, .sl .str y46, .int .i64 y47, .str y48, .int .i64 y49, .int .i64 y50]),(5, .cells [.int .i64 ((⟨v.2.2.2.1.1,v.2.2.2.1.2.1,v.2.2.2.1.2.2.1⟩:aj).dir), .str ((⟨v.2.2.2.1.1,v.2.2.2.1.2.1,v.2.2.2.1.2.2.1⟩:aj).name), .int .i64 ((⟨v.2.2.2.1.1,v.2.2.2.1.2.1,v.2.2.2.1.2.2.1⟩:aj).ino)])],nx:=6}) q v.2.2.1.2.2.2.2.2.1 v.2.2.1.2.2.2.2.2.2.1 v.2.2.1.2.2.2.2.2.2.2.1 v.2.2.1.2.2.2.2.2.2.2.2.1 v.2.2.1.2.2.2.2.2.2.2.2.2.1 v.2.2.1.2.2.2.2.2.2.2.2.2.2.1
def RV:List HV:=[.agg hFs, .one (.str), .one (.str), .one (.bool)]
def Oc:List HV:=[.agg [.int .i64, .str, .int .i64], .one (.int .i64)]
def Zn:HP.V RV→Fs×Str×Str×Bool:=fun v=>((cFs v.1),v.2.1,v.2.2.1,v.2.2.2.1)
def adO:HX.V Oc→aj×Int:=fun v=>((⟨v.1.1,v.1.2.1,v.1.2.2.1⟩:aj),v.2)
def Y2:(aj×Int)→HX.V Oc:=fun y=>((y.1.dir,(y.1.name,(y.1.ino,()))),y.2)
def aj3:(Fs×Str×Str×Bool)→Option (aj×Int):=fun x=>eS x.1 x.2.1 x.2.2.1 x.2.2.2
def um:Spec:=aH RV Oc Zn Y2 aj3
def TF:Cfg:={T:=BI,spec:=[(71,xN),(110,Nu),(111,TZ)],aO:=aA.G Tryz.prog,eqs:=BP,N:=49,fuel:=64,fid:=68}
theorem adB:az Tryz.prog TF:=aP EH D0 ⟨zz,⟨UE,⟨anw,trivial⟩⟩⟩
def ao_ {R:Type}:Inl R:= .mk 68 TF [] aik Tryz.f68.results.toList []
def Ve:Cfg:={T:=BI,spec:=[(39,o_),(71,xN),(110,Nu),(112,Fm)],aO:=aA.G Tryz.prog,eqs:=BP,N:=70,fuel:=64,fid:=113,gns:=[(148,VS)]}
theorem ajW:az Tryz.prog Ve:=aP EH D0 ⟨pt,⟨zz,⟨UE,⟨Js,trivial⟩⟩⟩⟩ (gn:=⟨Y4,trivial⟩)
def aqr {R:Type}:Inl R:= .mk 113 Ve [] afk Tryz.f113.results.toList []
def S4:Cfg:={T:=BI,spec:=[(39,o_),(112,Fm)],aO:=aA.G Tryz.prog,eqs:=BP,N:=36,fuel:=64,fid:=114}
theorem ajs:az Tryz.prog S4:=aP EH D0 ⟨pt,⟨Js,trivial⟩⟩
def anR {R:Type}:Inl R:= .mk 114 S4 [] amV Tryz.f114.results.toList []
def MF {R:Type}:List (Nat×Hd R):=[(1,bL Bj J8)]
def Jj {R:Type}:List (Nat×Inl R):=[(114,aqr),(128,anR)]
def Ks:Cfg:={T:=BI,spec:=[(39,o_),(112,Fm)],aO:=aA.G Tryz.prog,eqs:=BP,N:=131,fuel:=64,loops:=[(1,⟨[0,2,1000008], [],[1,4,5],6, [], [], [], []⟩)],blocks:=[(0,⟨[0,2,1000008], [],[1,4,5],6, [], [], [], []⟩)],gk:=some ⟨[2,3,1000008], [],[1,5],6, [], [], [], []⟩,fid:=69}
theorem Zh:az Tryz.prog Ks:=aP EH D0 ⟨pt,⟨Js,trivial⟩⟩
theorem aa9 {R:Type}:aI Tryz.prog (R:=R) 1 Jj:=bI Tryz.f113 ajW (bI Tryz.f114 ajs (au _ _))
theorem aoN {R:Type}:bB (R:=R) (hnd 1 Jj) Ks MF (sub [1,0,1,0,0,0] E4) (HS.V Bj) (HS.st Bj) (HS.sh Bj) J8 (bL Bj J8):=aT Bj J8 (fun _ _=>rfl) (by intro q v K;kernel_rfl)
theorem afF {R:Type}:aD (R:=R) (hnd 1 Jj) Ks MF E4:=ao (l:=[sub [1,0,1,0,0,0] E4]) (by kernel_rfl) (aK (b:=sub [1,0,1,0,0,0] E4) (rid:=1) (by kernel_rfl) (by kernel_rfl) aoN (trivial))
def ZP {R:Type}:Inl R:= .mk 69 Ks MF E4 Tryz.f69.results.toList Jj
def aoP {R:Type}:List (Nat×Hd R):= []
def W6 {R:Type}:List (Nat×Inl R):=[(17,ao_),(25,ZP)]
def Sk:Cfg:={T:=BI,aO:=aA.G Tryz.prog,eqs:=BP,N:=28,fuel:=64,fid:=38}
theorem apw:az Tryz.prog Sk:=aP EH D0 trivial
theorem aqd {R:Type}:aI Tryz.prog (R:=R) 2 W6:=bI Tryz.f68 adB (bA Tryz.f69 Zh afF (bp (by kernel_rfl)) aa9 (au _ _))
theorem ang {R:Type}:aD (R:=R) (hnd 2 W6) Sk aoP ZL:=ao (l:= []) (by kernel_rfl) (trivial)
theorem vf:aF Tryz.prog 38 um:=bf Tryz.f38 apw RL (d:=2) aqd ang (bp (by kernel_rfl)) (toY:=adO)
end
end Go.Eng
set_option linter.unusedVariables false
set_option maxRecDepth 100000
namespace Go.Eng
noncomputable section
open Go Go.Proofs
def pR:List (Nat×TI):=[(3,⟨false,1, .one (.int .i64 0), .int .i64⟩),(4,⟨false,1, .one (.bool false), .bool⟩),(9,⟨false,1, .one (.str []), .str⟩),(24,⟨true,4, .agg [.int .i64 0, .int .i64 0, .int .i64 0, .clip .bH []], .struct [(0,3),(1,3),(2,3),(3,22)]⟩),(34,⟨false,1, .one (.clip .entry []), .slice .entry 94⟩),(36,⟨true,6, .agg [.int .i64 0, .int .i64 0, .int .i64 0, .str [], .int .i64 0, .clip .entry []], .struct [(0,3),(1,3),(2,3),(3,9),(4,3),(5,34)]⟩),(41,⟨true,3, .agg [.int .i64 0, .str [], .int .i64 0], .struct [(0,3),(1,9),(2,3)]⟩),(79,⟨true,3, .agg [.bool false, .clip .str [], .bool false], .struct [(0,4),(1,46),(2,4)]⟩)]
def pU:List (Nat×List EK):= []
theorem G1:Tryz.prog.follows .mixedOrders=true:=by kernel_rfl
theorem qN:(pR.all fun x=>tiB Tryz.prog x.1 x.2)=true:=by kernel_rfl
theorem qM:(pU.all fun x=>eqB Tryz.prog x.1 x.2)=true:=by kernel_rfl
def acM:Code:=bd Tryz.f96
def afU:Code:=bd Tryz.f98
def ZR:Code:=bd Tryz.f102
def C8:Code:=bd Tryz.f137
def aoj:Code:=bd Tryz.f138
def ak3:Code:=bd Tryz.f140
def Q1:Code:=bd Tryz.f143
def ai8:Code:=bd Tryz.f144
def Sj:Code:=bd Tryz.f163
def Hu:Code:=bd Tryz.f176
def RB:List HV:=[.agg hFs, .agg [.int .i64, .str, .int .i64], .one (.int .i64), .one (.str)]
def Ll:List HV:=[.agg hFs, .one (.int .i64)]
def aeP:HP.V RB→Fs×aj×Int×Str:=fun v=>((cFs v.1),(⟨v.2.1.1,v.2.1.2.1,v.2.1.2.2.1⟩:aj),v.2.2.1,v.2.2.2.1)
def ajN:HX.V Ll→Fs×Int:=fun v=>((cFs v.1),v.2)
def Z8:(Fs×Int)→HX.V Ll:=fun y=>((y.1.ak,(y.1.aw,(y.1.next,(y.1.aa,())))),y.2)
def aor:(Fs×aj×Int×Str)→Option (Fs×Int):=fun x=>gB x.1 x.2.1 x.2.2.1 x.2.2.2
def I1:Spec:=aH RB Ll aeP Z8 aor
def anx:Cfg:={T:=pR,spec:=[(39,o_),(50,Da),(51,KV),(72,Fq),(160,ON),(161,VN)],aO:=aA.G Tryz.prog,eqs:=pU,N:=65,fuel:=64,fid:=139}
theorem ak2:az Tryz.prog anx:=aP qN qM ⟨pt,⟨F7,⟨Lw,⟨Jg,⟨QU,⟨amo,trivial⟩⟩⟩⟩⟩⟩
theorem QD:aF Tryz.prog 139 I1:=aV Tryz.f139 ak2 G1 (toY:=ajN)
def Q0:List HV:=[.agg hFs, .one (.str), .one (.str)]
def Qu:List HV:=[.agg hFs, .one (.int .i64)]
def ahN:HP.V Q0→Fs×Str×Str:=fun v=>((cFs v.1),v.2.1,v.2.2.1)
def agw:HX.V Qu→Fs×Int:=fun v=>((cFs v.1),v.2)
def ahY:(Fs×Int)→HX.V Qu:=fun y=>((y.1.ak,(y.1.aw,(y.1.next,(y.1.aa,())))),y.2)
def ads:(Fs×Str×Str)→Option (Fs×Int):=fun x=>jL x.1 x.2.1 x.2.2
def We:Spec:=aH Q0 Qu ahN ahY ads
def Ta:Cfg:={T:=pR,spec:=[(38,um),(139,I1)],aO:=aA.G Tryz.prog,eqs:=pU,N:=10,fuel:=64,fid:=138}
theorem aiY:az Tryz.prog Ta:=aP qN qM ⟨vf,⟨QD,trivial⟩⟩
def anX {R:Type}:Inl R:= .mk 138 Ta [] aoj Tryz.f138.results.toList []
def TH {R:Type}:List (Nat×Hd R):= []
def Mp {R:Type}:List (Nat×Inl R):=[(43,anX)]
def NZ:Cfg:={T:=pR,spec:=[(38,um)],aO:=aA.G Tryz.prog,eqs:=pU,N:=46,fuel:=64,fid:=137}
theorem aoF:az Tryz.prog NZ:=aP qN qM ⟨vf,trivial⟩
theorem afJ {R:Type}:aI Tryz.prog (R:=R) 1 Mp:=bI Tryz.f138 aiY (au _ _)
theorem aeE {R:Type}:aD (R:=R) (hnd 1 Mp) NZ TH C8:=ao (l:= []) (by kernel_rfl) (trivial)
def YU {R:Type}:Inl R:= .mk 137 NZ TH C8 Tryz.f137.results.toList Mp
def agm {R:Type}:List (Nat×Hd R):= []
def W7 {R:Type}:List (Nat×Inl R):=[(12,YU)]
def Xc:Cfg:={T:=pR,aO:=aA.G Tryz.prog,eqs:=pU,N:=15,fuel:=64,fid:=96}
theorem acu:az Tryz.prog Xc:=aP qN qM trivial
theorem anY {R:Type}:aI Tryz.prog (R:=R) 2 W7:=bA Tryz.f137 aoF aeE (bp (by kernel_rfl)) afJ (au _ _)
theorem aai {R:Type}:aD (R:=R) (hnd 2 W7) Xc agm acM:=ao (l:= []) (by kernel_rfl) (trivial)
theorem abb:aF Tryz.prog 96 We:=bf Tryz.f96 acu G1 (d:=2) anY aai (bp (by kernel_rfl)) (toY:=agw)
def VH:List HV:=[.agg hFs, .one (.str), .one (.str), .one (.str)]
def PL:List HV:=[.agg hFs, .one (.int .i64)]
def adk:HP.V VH→Fs×Str×Str×Str:=fun v=>((cFs v.1),v.2.1,v.2.2.1,v.2.2.2.1)
def akK:HX.V PL→Fs×Int:=fun v=>((cFs v.1),v.2)
def ahV:(Fs×Int)→HX.V PL:=fun y=>((y.1.ak,(y.1.aw,(y.1.next,(y.1.aa,())))),y.2)
def akD:(Fs×Str×Str×Str)→Option (Fs×Int):=fun x=>iS x.1 x.2.1 x.2.2.1 x.2.2.2
def QQ:Spec:=aH VH PL adk ahV akD
def Sy:Cfg:={T:=pR,spec:=[(38,um),(71,xN),(139,I1)],aO:=aA.G Tryz.prog,eqs:=pU,N:=12,fuel:=64,fid:=140}
theorem api:az Tryz.prog Sy:=aP qN qM ⟨vf,⟨zz,⟨QD,trivial⟩⟩⟩
def anB {R:Type}:Inl R:= .mk 140 Sy [] ak3 Tryz.f140.results.toList []
def QZ {R:Type}:List (Nat×Hd R):= []
def LA {R:Type}:List (Nat×Inl R):=[(43,anB)]
def LW:Cfg:={T:=pR,spec:=[(38,um),(71,xN)],aO:=aA.G Tryz.prog,eqs:=pU,N:=46,fuel:=64,fid:=137}
theorem abl:az Tryz.prog LW:=aP qN qM ⟨vf,⟨zz,trivial⟩⟩
theorem amI {R:Type}:aI Tryz.prog (R:=R) 1 LA:=bI Tryz.f140 api (au _ _)
theorem ahF {R:Type}:aD (R:=R) (hnd 1 LA) LW QZ C8:=ao (l:= []) (by kernel_rfl) (trivial)
def aip {R:Type}:Inl R:= .mk 137 LW QZ C8 Tryz.f137.results.toList LA
def agP {R:Type}:List (Nat×Hd R):= []
def Xb {R:Type}:List (Nat×Inl R):=[(14,aip)]
def Sz:Cfg:={T:=pR,aO:=aA.G Tryz.prog,eqs:=pU,N:=17,fuel:=64,fid:=98}
theorem ad4:az Tryz.prog Sz:=aP qN qM trivial
theorem Yk {R:Type}:aI Tryz.prog (R:=R) 2 Xb:=bA Tryz.f137 abl ahF (bp (by kernel_rfl)) amI (au _ _)
theorem Yf {R:Type}:aD (R:=R) (hnd 2 Xb) Sz agP afU:=ao (l:= []) (by kernel_rfl) (trivial)
theorem ag4:aF Tryz.prog 98 QQ:=bf Tryz.f98 ad4 G1 (d:=2) Yk Yf (bp (by kernel_rfl)) (toY:=akK)
def S8:List HV:=[.agg hFs, .one (.str), .one (.str), .one (.str)]
def Ml:List HV:=[.agg hFs, .one (.int .i64)]
def abS:HP.V S8→Fs×Str×Str×Str:=fun v=>((cFs v.1),v.2.1,v.2.2.1,v.2.2.2.1)
def YO:HX.V Ml→Fs×Int:=fun v=>((cFs v.1),v.2)
def agQ:(Fs×Int)→HX.V Ml:=fun y=>((y.1.ak,(y.1.aw,(y.1.next,(y.1.aa,())))),y.2)
def acI:(Fs×Str×Str×Str)→Option (Fs×Int):=fun x=>gW x.1 x.2.1 x.2.2.1 x.2.2.2
def W_:Spec:=aH S8 Ml abS agQ acI
def RH {R:Type}:List (Nat×Hd R):= []
def LI {R:Type}:List (Nat×Inl R):= []
def MQ:Cfg:={T:=pR,spec:=[(184,bP)],aO:=aA.G Tryz.prog,eqs:=pU,N:=143,fuel:=64,gk:=some ⟨[4,3000001,3000003,3000004,3000006,3000008], [],[0,1,2],3, [],[2], [], []⟩,fid:=176}
theorem anT:az Tryz.prog MQ:=aP qN qM ⟨cm,trivial⟩
theorem anC {R:Type}:aI Tryz.prog (R:=R) 0 LI:=au _ _
theorem aal {R:Type}:aD (R:=R) (hnd 0 LI) MQ RH Hu:=ao (l:=[sub [1,1,1,1,1,1,1,1,0,0,0] Hu]) (by kernel_rfl) (dJ (b:=sub [1,1,1,1,1,1,1,1,0,0,0] Hu) (rid:=15) (by kernel_rfl) (by kernel_rfl) (trivial))
def YM {R:Type}:Inl R:= .mk 176 MQ RH Hu Tryz.f176.results.toList LI
def SK {R:Type}:List (Nat×Hd R):= []
def Og {R:Type}:List (Nat×Inl R):=[(7,YM)]
def LK:Cfg:={T:=pR,aO:=aA.G Tryz.prog,eqs:=pU,N:=8,fuel:=64,fid:=163}
theorem aaO:az Tryz.prog LK:=aP qN qM trivial
theorem apv {R:Type}:aI Tryz.prog (R:=R) 1 Og:=bA Tryz.f176 anT aal (bp (by kernel_rfl)) anC (au _ _)
theorem aeB {R:Type}:aD (R:=R) (hnd 1 Og) LK SK Sj:=ao (l:= []) (by kernel_rfl) (trivial)
def alF {R:Type}:Inl R:= .mk 163 LK SK Sj Tryz.f163.results.toList Og
def VX {R:Type}:List (Nat×Hd R):= []
def Of {R:Type}:List (Nat×Inl R):=[(7,alF)]
def MC:Cfg:={T:=pR,aO:=aA.G Tryz.prog,eqs:=pU,N:=9,fuel:=64,fid:=143}
theorem adC:az Tryz.prog MC:=aP qN qM trivial
theorem afw {R:Type}:aI Tryz.prog (R:=R) 2 Of:=bA Tryz.f163 aaO aeB (bp (by kernel_rfl)) apv (au _ _)
theorem Yy {R:Type}:aD (R:=R) (hnd 2 Of) MC VX Q1:=ao (l:= []) (by kernel_rfl) (trivial)
def agu {R:Type}:Inl R:= .mk 143 MC VX Q1 Tryz.f143.results.toList Of
def T4:Cfg:={T:=pR,spec:=[(38,um),(71,xN),(139,I1)],aO:=aA.G Tryz.prog,eqs:=pU,N:=12,fuel:=64,fid:=144}
theorem aiF:az Tryz.prog T4:=aP qN qM ⟨vf,⟨zz,⟨QD,trivial⟩⟩⟩
def ab2 {R:Type}:Inl R:= .mk 144 T4 [] ai8 Tryz.f144.results.toList []
def UM {R:Type}:List (Nat×Hd R):= []
def Qw {R:Type}:List (Nat×Inl R):=[(43,ab2)]
def OA:Cfg:={T:=pR,spec:=[(38,um),(71,xN)],aO:=aA.G Tryz.prog,eqs:=pU,N:=46,fuel:=64,fid:=137}
theorem abz:az Tryz.prog OA:=aP qN qM ⟨vf,⟨zz,trivial⟩⟩
theorem ajM {R:Type}:aI Tryz.prog (R:=R) 2 Qw:=bI Tryz.f144 aiF (au _ _)
theorem abU {R:Type}:aD (R:=R) (hnd 2 Qw) OA UM C8:=ao (l:= []) (by kernel_rfl) (trivial)
def ab0 {R:Type}:Inl R:= .mk 137 OA UM C8 Tryz.f137.results.toList Qw
def agN {R:Type}:List (Nat×Hd R):= []
def WM {R:Type}:List (Nat×Inl R):=[(21,agu),(27,ab0)]
def Rd:Cfg:={T:=pR,aO:=aA.G Tryz.prog,eqs:=pU,N:=30,fuel:=64,fid:=102}
theorem ah4:az Tryz.prog Rd:=aP qN qM trivial
theorem adv {R:Type}:aI Tryz.prog (R:=R) 3 WM:=bA Tryz.f143 adC Yy (bp (by kernel_rfl)) afw (bA Tryz.f137 abz abU (bp (by kernel_rfl)) ajM (au _ _))
theorem ah6 {R:Type}:aD (R:=R) (hnd 3 WM) Rd agN ZR:=ao (l:= []) (by kernel_rfl) (trivial)
theorem agn:aF Tryz.prog 102 W_:=bf Tryz.f102 ah4 G1 (d:=3) adv ah6 (bp (by kernel_rfl)) (toY:=YO)
end
end Go.Eng
set_option linter.unusedVariables false
set_option maxRecDepth 100000
namespace Go.Eng
noncomputable section
open Go Go.Proofs
def FR:List (Nat×TI):=[(3,⟨false,1, .one (.int .i64 0), .int .i64⟩),(4,⟨false,1, .one (.bool false), .bool⟩),(9,⟨false,1, .one (.str []), .str⟩),(24,⟨true,4, .agg [.int .i64 0, .int .i64 0, .int .i64 0, .clip .bH []], .struct [(0,3),(1,3),(2,3),(3,22)]⟩),(36,⟨true,6, .agg [.int .i64 0, .int .i64 0, .int .i64 0, .str [], .int .i64 0, .clip .entry []], .struct [(0,3),(1,3),(2,3),(3,9),(4,3),(5,34)]⟩),(41,⟨true,3, .agg [.int .i64 0, .str [], .int .i64 0], .struct [(0,3),(1,9),(2,3)]⟩)]
def Gz:List (Nat×List EK):= []
theorem JX:Tryz.prog.follows .mixedOrders=true:=by kernel_rfl
theorem JH:(FR.all fun x=>tiB Tryz.prog x.1 x.2)=true:=by kernel_rfl
theorem Il:(Gz.all fun x=>eqB Tryz.prog x.1 x.2)=true:=by kernel_rfl
def Wn:List HV:=[.agg hFs, .one (.str), .one (.str), .one (.bool)]
def OQ:List HV:=[.agg hIn, .one (.int .i64)]
def af1:HP.V Wn→Fs×Str×Str×Bool:=fun v=>((cFs v.1),v.2.1,v.2.2.1,v.2.2.2.1)
def ajA:HX.V OQ→ah×Int:=fun v=>((cIn v.1),v.2)
def aoa:(ah×Int)→HX.V OQ:=fun y=>((y.1.ino,(y.1.kind,(y.1.aL,(y.1.data,(y.1.parent,(y.1.entries,())))))),y.2)
def amC:(Fs×Str×Str×Bool)→Option (ah×Int):=fun x=>nY x.1 x.2.1 x.2.2.1 x.2.2.2
def RP:Spec:=aH Wn OQ af1 aoa amC
def ZK:Cfg:={T:=FR,spec:=[(38,um),(39,o_)],aO:=aA.G Tryz.prog,eqs:=Gz,N:=37,fuel:=64,fid:=162}
theorem YG:az Tryz.prog ZK:=aP JH Il ⟨vf,⟨pt,trivial⟩⟩
theorem ao8:aF Tryz.prog 162 RP:=aV Tryz.f162 YG JX (toY:=ajA)
def V7:List HV:=[.agg hFs, .one (.str), .one (.str)]
def Ob:List HV:=[.agg hIn, .one (.int .i64)]
def alX:HP.V V7→Fs×Str×Str:=fun v=>((cFs v.1),v.2.1,v.2.2.1)
def acq:HX.V Ob→ah×Int:=fun v=>((cIn v.1),v.2)
def aj8:(ah×Int)→HX.V Ob:=fun y=>((y.1.ino,(y.1.kind,(y.1.aL,(y.1.data,(y.1.parent,(y.1.entries,())))))),y.2)
def afa:(Fs×Str×Str)→Option (ah×Int):=fun x=>oi x.1 x.2.1 x.2.2
def WG:Spec:=aH V7 Ob alX aj8 afa
def agV:Cfg:={T:=FR,spec:=[(162,RP)],aO:=aA.G Tryz.prog,eqs:=Gz,N:=28,fuel:=64,fid:=141}
theorem aaq:az Tryz.prog agV:=aP JH Il ⟨ao8,trivial⟩
theorem acW:aF Tryz.prog 141 WG:=aV Tryz.f141 aaq JX (toY:=acq)
def SP:List HV:=[.agg hFs, .one (.int .i64), .one (.str)]
def Mg:List HV:=[.agg hFs, .one (.int .i64)]
def YJ:HP.V SP→Fs×Int×Str:=fun v=>((cFs v.1),v.2.1,v.2.2.1)
def aiH:HX.V Mg→Fs×Int:=fun v=>((cFs v.1),v.2)
def aes:(Fs×Int)→HX.V Mg:=fun y=>((y.1.ak,(y.1.aw,(y.1.next,(y.1.aa,())))),y.2)
def amn:(Fs×Int×Str)→Option (Fs×Int):=fun x=>pX x.1 x.2.1 x.2.2
def UL:Spec:=aH SP Mg YJ aes amn
def acL:Cfg:={T:=FR,spec:=[(39,o_),(50,Da),(160,ON)],aO:=aA.G Tryz.prog,eqs:=Gz,N:=31,fuel:=64,fid:=142}
theorem adg:az Tryz.prog acL:=aP JH Il ⟨pt,⟨F7,⟨QU,trivial⟩⟩⟩
theorem aqa:aF Tryz.prog 142 UL:=aV Tryz.f142 adg JX (toY:=aiH)
def Vb:List HV:=[.agg hFs, .one (.str), .one (.str), .one (.str)]
def Qo:List HV:=[.agg hFs, .one (.int .i64)]
def apU:HP.V Vb→Fs×Str×Str×Str:=fun v=>((cFs v.1),v.2.1,v.2.2.1,v.2.2.2.1)
def abX:HX.V Qo→Fs×Int:=fun v=>((cFs v.1),v.2)
def aiM:(Fs×Int)→HX.V Qo:=fun y=>((y.1.ak,(y.1.aw,(y.1.next,(y.1.aa,())))),y.2)
def ald:(Fs×Str×Str×Str)→Option (Fs×Int):=fun x=>mf x.1 x.2.1 x.2.2.1 x.2.2.2
def WA:Spec:=aH Vb Qo apU aiM ald
def abO:Cfg:={T:=FR,spec:=[(141,WG),(142,UL)],aO:=aA.G Tryz.prog,eqs:=Gz,N:=30,fuel:=64,fid:=100}
theorem akL:az Tryz.prog abO:=aP JH Il ⟨acW,⟨aqa,trivial⟩⟩
theorem ana:aF Tryz.prog 100 WA:=aV Tryz.f100 akL JX (toY:=abX)
end
end Go.Eng
set_option linter.unusedVariables false
set_option maxRecDepth 100000
namespace Go.Eng
noncomputable section
open Go Go.Proofs
def Bp:List (Nat×TI):=[(3,⟨false,1, .one (.int .i64 0), .int .i64⟩),(4,⟨false,1, .one (.bool false), .bool⟩),(9,⟨false,1, .one (.str []), .str⟩),(24,⟨true,4, .agg [.int .i64 0, .int .i64 0, .int .i64 0, .clip .bH []], .struct [(0,3),(1,3),(2,3),(3,22)]⟩),(34,⟨false,1, .one (.clip .entry []), .slice .entry 94⟩),(36,⟨true,6, .agg [.int .i64 0, .int .i64 0, .int .i64 0, .str [], .int .i64 0, .clip .entry []], .struct [(0,3),(1,3),(2,3),(3,9),(4,3),(5,34)]⟩),(41,⟨true,3, .agg [.int .i64 0, .str [], .int .i64 0], .struct [(0,3),(1,9),(2,3)]⟩),(79,⟨true,3, .agg [.bool false, .clip .str [], .bool false], .struct [(0,4),(1,46),(2,4)]⟩)]
def AR:List (Nat×List EK):= []
theorem ED:Tryz.prog.follows .mixedOrders=true:=by kernel_rfl
theorem DZ:(Bp.all fun x=>tiB Tryz.prog x.1 x.2)=true:=by kernel_rfl
theorem DR:(AR.all fun x=>eqB Tryz.prog x.1 x.2)=true:=by kernel_rfl
def SI:List HV:=[.agg hFs, .agg [.int .i64, .str, .int .i64]]
def OM:List HV:=[.agg hFs]
def ae_:HP.V SI→Fs×aj:=fun v=>((cFs v.1),(⟨v.2.1.1,v.2.1.2.1,v.2.1.2.2.1⟩:aj))
def agy:HX.V OM→Fs:=fun v=>((cFs v))
def aju:Fs→HX.V OM:=fun y=>((y.ak,(y.aw,(y.next,(y.aa,())))))
def aif:(Fs×aj)→Option (Fs):=fun x=>gI x.1 x.2
def KX:Spec:=aH SI OM ae_ aju aif
def aqx:Cfg:={T:=Bp,spec:=[(39,o_),(49,OJ),(50,Da),(77,Vw)],aO:=aA.G Tryz.prog,eqs:=AR,N:=46,fuel:=64,fid:=48}
theorem ao4:az Tryz.prog aqx:=aP DZ DR ⟨pt,⟨SE,⟨F7,⟨anb,trivial⟩⟩⟩⟩
theorem Md:aF Tryz.prog 48 KX:=aV Tryz.f48 ao4 ED (toY:=agy)
def Ue:List HV:=[.agg hFs, .one (.str), .one (.str)]
def Oz:List HV:=[.agg [.int .i64, .str, .int .i64], .agg hIn, .one (.int .i64)]
def abi:HP.V Ue→Fs×Str×Str:=fun v=>((cFs v.1),v.2.1,v.2.2.1)
def apj:HX.V Oz→aj×ah×Int:=fun v=>((⟨v.1.1,v.1.2.1,v.1.2.2.1⟩:aj),(cIn v.2.1),v.2.2)
def ai1:(aj×ah×Int)→HX.V Oz:=fun y=>((y.1.dir,(y.1.name,(y.1.ino,()))),(y.2.1.ino,(y.2.1.kind,(y.2.1.aL,(y.2.1.data,(y.2.1.parent,(y.2.1.entries,())))))),y.2.2)
def ahb:(Fs×Str×Str)→Option (aj×ah×Int):=fun x=>iA x.1 x.2.1 x.2.2
def G8:Spec:=aH Ue Oz abi ai1 ahb
def amK:Cfg:={T:=Bp,spec:=[(38,um),(39,o_)],aO:=aA.G Tryz.prog,eqs:=AR,N:=38,fuel:=64,fid:=145}
theorem Yr:az Tryz.prog amK:=aP DZ DR ⟨vf,⟨pt,trivial⟩⟩
theorem L8:aF Tryz.prog 145 G8:=aV Tryz.f145 Yr ED (toY:=apj)
def Sp:List HV:=[.agg hFs, .agg [.int .i64, .str, .int .i64], .one (.int .i64)]
def Nd:List HV:=[.agg hFs]
def aiX:HP.V Sp→Fs×aj×Int:=fun v=>((cFs v.1),(⟨v.2.1.1,v.2.1.2.1,v.2.1.2.2.1⟩:aj),v.2.2.1)
def aqi:HX.V Nd→Fs:=fun v=>((cFs v))
def alS:Fs→HX.V Nd:=fun y=>((y.ak,(y.aw,(y.next,(y.aa,())))))
def ais:(Fs×aj×Int)→Option (Fs):=fun x=>oc x.1 x.2.1 x.2.2
def U5:Spec:=aH Sp Nd aiX alS ais
def agU:Cfg:={T:=Bp,spec:=[(39,o_),(50,Da),(51,KV)],aO:=aA.G Tryz.prog,eqs:=AR,N:=41,fuel:=64,fid:=146}
theorem amR:az Tryz.prog agU:=aP DZ DR ⟨pt,⟨F7,⟨Lw,trivial⟩⟩⟩
theorem aqm:aF Tryz.prog 146 U5:=aV Tryz.f146 amR ED (toY:=aqi)
def Rr:List HV:=[.agg hFs, .one (.str), .one (.str), .one (.str)]
def Mq:List HV:=[.agg hFs, .one (.int .i64)]
def apt:HP.V Rr→Fs×Str×Str×Str:=fun v=>((cFs v.1),v.2.1,v.2.2.1,v.2.2.2.1)
def ait:HX.V Mq→Fs×Int:=fun v=>((cFs v.1),v.2)
def Zu:(Fs×Int)→HX.V Mq:=fun y=>((y.1.ak,(y.1.aw,(y.1.next,(y.1.aa,())))),y.2)
def akS:(Fs×Str×Str×Str)→Option (Fs×Int):=fun x=>og x.1 x.2.1 x.2.2.1 x.2.2.2
def UZ:Spec:=aH Rr Mq apt Zu akS
def aqh:Cfg:={T:=Bp,spec:=[(38,um),(71,xN),(72,Fq),(145,G8),(146,U5)],aO:=aA.G Tryz.prog,eqs:=AR,N:=65,fuel:=64,fid:=104}
theorem aoz:az Tryz.prog aqh:=aP DZ DR ⟨vf,⟨zz,⟨Jg,⟨L8,⟨aqm,trivial⟩⟩⟩⟩⟩
theorem alG:aF Tryz.prog 104 UZ:=aV Tryz.f104 aoz ED (toY:=ait)
def TM:List HV:=[.agg hFs, .one (.str), .one (.str)]
def O1:List HV:=[.agg hFs, .one (.int .i64)]
def anc:HP.V TM→Fs×Str×Str:=fun v=>((cFs v.1),v.2.1,v.2.2.1)
def ag3:HX.V O1→Fs×Int:=fun v=>((cFs v.1),v.2)
def aea:(Fs×Int)→HX.V O1:=fun y=>((y.1.ak,(y.1.aw,(y.1.next,(y.1.aa,())))),y.2)
def Z9:(Fs×Str×Str)→Option (Fs×Int):=fun x=>kG x.1 x.2.1 x.2.2
def Rw:Spec:=aH TM O1 anc aea Z9
def anE:Cfg:={T:=Bp,spec:=[(48,KX),(145,G8)],aO:=aA.G Tryz.prog,eqs:=AR,N:=32,fuel:=64,fid:=106}
theorem Ym:az Tryz.prog anE:=aP DZ DR ⟨Md,⟨L8,trivial⟩⟩
theorem ak0:aF Tryz.prog 106 Rw:=aV Tryz.f106 Ym ED (toY:=ag3)
def SA:List HV:=[.agg hFs, .one (.str), .one (.str)]
def Nq:List HV:=[.agg hFs, .one (.int .i64)]
def afh:HP.V SA→Fs×Str×Str:=fun v=>((cFs v.1),v.2.1,v.2.2.1)
def ake:HX.V Nq→Fs×Int:=fun v=>((cFs v.1),v.2)
def afO:(Fs×Int)→HX.V Nq:=fun y=>((y.1.ak,(y.1.aw,(y.1.next,(y.1.aa,())))),y.2)
def aj1:(Fs×Str×Str)→Option (Fs×Int):=fun x=>mV x.1 x.2.1 x.2.2
def V6:Spec:=aH SA Nq afh afO aj1
def afG:Cfg:={T:=Bp,spec:=[(48,KX),(145,G8)],aO:=aA.G Tryz.prog,eqs:=AR,N:=48,fuel:=64,fid:=108}
theorem ahy:az Tryz.prog afG:=aP DZ DR ⟨Md,⟨L8,trivial⟩⟩
theorem adn:aF Tryz.prog 108 V6:=aV Tryz.f108 ahy ED (toY:=ake)
end
end Go.Eng
set_option linter.unusedVariables false
set_option maxRecDepth 100000
namespace Go.Eng
noncomputable section
open Go Go.Proofs
def Dx:List (Nat×TI):=[(3,⟨false,1, .one (.int .i64 0), .int .i64⟩),(4,⟨false,1, .one (.bool false), .bool⟩),(9,⟨false,1, .one (.str []), .str⟩),(22,⟨false,1, .one (.clip .bH []), .slice .bH 36⟩),(24,⟨true,4, .agg [.int .i64 0, .int .i64 0, .int .i64 0, .clip .bH []], .struct [(0,3),(1,3),(2,3),(3,22)]⟩),(34,⟨false,1, .one (.clip .entry []), .slice .entry 94⟩),(36,⟨true,6, .agg [.int .i64 0, .int .i64 0, .int .i64 0, .str [], .int .i64 0, .clip .entry []], .struct [(0,3),(1,3),(2,3),(3,9),(4,3),(5,34)]⟩),(41,⟨true,3, .agg [.int .i64 0, .str [], .int .i64 0], .struct [(0,3),(1,9),(2,3)]⟩),(79,⟨true,3, .agg [.bool false, .clip .str [], .bool false], .struct [(0,4),(1,46),(2,4)]⟩)]
def Df:List (Nat×List EK):= []
theorem Ge:Tryz.prog.follows .mixedOrders=true:=by kernel_rfl
theorem FW:(Dx.all fun x=>tiB Tryz.prog x.1 x.2)=true:=by kernel_rfl
theorem FT:(Df.all fun x=>eqB Tryz.prog x.1 x.2)=true:=by kernel_rfl
def Hm:Code:=bd Tryz.f19
def Av:HS:=⟨[(1, .one (.int .i64)),(2, .one (.int .i64)),(3, .one (.ptr 0 0)),(7, .one (.bool)),(12, .one (.int .i64)),(13, .one (.int .i64))],[(0, .cells hFs)],1⟩
def I9 {R:Type}:Nat→HS.V Av→(Ex→St→Option R)→Option R:=fun q v K=>
 eU v.1.2.1 v.1.2.2.2.1 v.1.2.2.2.2.1 (cFs v.2.1) (fun y8=>K (.exit 0) {ar:=[(7, .v (.one (.bool y8)))],mem:= [],nx:=0}) q v.1.1 v.1.2.2.2.2.2.1
def Rm:List HV:=[.agg hFs, .one (.int .i64), .one (.int .i64)]
def LQ:List HV:=[.one (.bool)]
def aiU:HP.V Rm→Fs×Int×Int:=fun v=>((cFs v.1),v.2.1,v.2.2.1)
def YL:HX.V LQ→Bool:=fun v=>(v)
def aiG:Bool→HX.V LQ:=fun y=>(y)
def alM:(Fs×Int×Int)→Option (Bool):=fun x=>kF x.1 x.2.1 x.2.2
def Q6:Spec:=aH Rm LQ aiU aiG alM
def Sg {R:Type}:List (Nat×Hd R):=[(3,bL Av I9)]
def OC {R:Type}:List (Nat×Inl R):= []
def Mu:Cfg:={T:=Dx,spec:=[(39,o_)],aO:=aA.G Tryz.prog,eqs:=Df,N:=32,fuel:=64,loops:=[(3,⟨[1,2,3,7,12,13], [],[0],1, [], [], [], []⟩)],blocks:=[(0,⟨[7], [], [],0, [], [], [], []⟩)],fid:=19}
theorem afb:az Tryz.prog Mu:=aP FW FT ⟨pt,trivial⟩
theorem Yv {R:Type}:aI Tryz.prog (R:=R) 0 OC:=au _ _
theorem apc {R:Type}:bB (R:=R) (hnd 0 OC) Mu Sg (sub [1,0,1,1,0,1,0,0] Hm) (HS.V Av) (HS.st Av) (HS.sh Av) I9 (bL Av I9):=aT Av I9 (fun _ _=>rfl) (by intro q v K;kernel_rfl)
theorem aee {R:Type}:aD (R:=R) (hnd 0 OC) Mu Sg Hm:=ao (l:=[sub [1,0,1,1,0,1,0,0] Hm]) (by kernel_rfl) (aK (b:=sub [1,0,1,1,0,1,0,0] Hm) (rid:=3) (by kernel_rfl) (by kernel_rfl) apc (trivial))
theorem af7:aF Tryz.prog 19 Q6:=bf Tryz.f19 afb Ge (d:=0) Yv aee (bp (by kernel_rfl)) (toY:=YL)
def SX:List HV:=[.agg hFs, .agg [.int .i64, .str, .int .i64], .agg [.int .i64, .str, .int .i64]]
def L_:List HV:=[.agg hFs]
def ajF:HP.V SX→Fs×aj×aj:=fun v=>((cFs v.1),(⟨v.2.1.1,v.2.1.2.1,v.2.1.2.2.1⟩:aj),(⟨v.2.2.1.1,v.2.2.1.2.1,v.2.2.1.2.2.1⟩:aj))
def Z2:HX.V L_→Fs:=fun v=>((cFs v))
def abE:Fs→HX.V L_:=fun y=>((y.ak,(y.aw,(y.next,(y.aa,())))))
def XJ:(Fs×aj×aj)→Option (Fs):=fun x=>ir x.1 x.2.1 x.2.2
def Sc:Spec:=aH SX L_ ajF abE XJ
def aeX:Cfg:={T:=Dx,spec:=[(39,o_),(48,KX),(49,OJ),(50,Da),(51,KV)],aO:=aA.G Tryz.prog,eqs:=Df,N:=69,fuel:=64,fid:=22}
theorem ano:az Tryz.prog aeX:=aP FW FT ⟨pt,⟨Md,⟨SE,⟨F7,⟨Lw,trivial⟩⟩⟩⟩⟩
theorem acr:aF Tryz.prog 22 Sc:=aV Tryz.f22 ano Ge (toY:=Z2)
def Sh:List HV:=[.agg hIn, .agg hIn]
def Nv:List HV:=[.one (.int .i64)]
def amq:HP.V Sh→ah×ah:=fun v=>((cIn v.1),(cIn v.2.1))
def afl:HX.V Nv→Int:=fun v=>(v)
def aoU:Int→HX.V Nv:=fun y=>(y)
def aaw:(ah×ah)→Option (Int):=fun x=>lY x.1 x.2
def U7:Spec:=aH Sh Nv amq aoU aaw
def apx:Cfg:={T:=Dx,aO:=aA.G Tryz.prog,eqs:=Df,N:=28,fuel:=64,fid:=40}
theorem aob:az Tryz.prog apx:=aP FW FT trivial
theorem acF:aF Tryz.prog 40 U7:=aV Tryz.f40 aob Ge (toY:=afl)
def Uj:List HV:=[.agg hIn, .one (.str), .one (.str)]
def NV:List HV:=[.one (.int .i64)]
def apY:HP.V Uj→ah×Str×Str:=fun v=>((cIn v.1),v.2.1,v.2.2.1)
def aab:HX.V NV→Int:=fun v=>(v)
def ai6:Int→HX.V NV:=fun y=>(y)
def XC:(ah×Str×Str)→Option (Int):=fun x=>j4 x.1 x.2.1 x.2.2
def R7:Spec:=aH Uj NV apY ai6 XC
def alr:Cfg:={T:=Dx,spec:=[(71,xN),(72,Fq)],aO:=aA.G Tryz.prog,eqs:=Df,N:=20,fuel:=64,fid:=41}
theorem ack:az Tryz.prog alr:=aP FW FT ⟨zz,⟨Jg,trivial⟩⟩
theorem ad6:aF Tryz.prog 41 R7:=aV Tryz.f41 ack Ge (toY:=aab)
def UI:List HV:=[.agg hFs, .one (.str), .one (.str), .one (.str)]
def PK:List HV:=[.agg hFs, .one (.int .i64)]
def aqj:HP.V UI→Fs×Str×Str×Str:=fun v=>((cFs v.1),v.2.1,v.2.2.1,v.2.2.2.1)
def apg:HX.V PK→Fs×Int:=fun v=>((cFs v.1),v.2)
def abj:(Fs×Int)→HX.V PK:=fun y=>((y.1.ak,(y.1.aw,(y.1.next,(y.1.aa,())))),y.2)
def adt:(Fs×Str×Str×Str)→Option (Fs×Int):=fun x=>kL x.1 x.2.1 x.2.2.1 x.2.2.2
def Xh:Spec:=aH UI PK aqj abj adt
def an4:Cfg:={T:=Dx,spec:=[(19,Q6),(22,Sc),(38,um),(39,o_),(40,U7),(41,R7)],aO:=aA.G Tryz.prog,eqs:=Df,N:=107,fuel:=64,fid:=14}
theorem abt:az Tryz.prog an4:=aP FW FT ⟨af7,⟨acr,⟨vf,⟨pt,⟨acF,⟨ad6,trivial⟩⟩⟩⟩⟩⟩
theorem afr:aF Tryz.prog 14 Xh:=aV Tryz.f14 abt Ge (toY:=apg)
end
end Go.Eng
set_option linter.unusedVariables false
set_option maxRecDepth 100000
namespace Go.Eng
noncomputable section
open Go Go.Proofs
def qF:List (Nat×TI):=[(3,⟨false,1, .one (.int .i64 0), .int .i64⟩),(9,⟨false,1, .one (.str []), .str⟩),(24,⟨true,4, .agg [.int .i64 0, .int .i64 0, .int .i64 0, .clip .bH []], .struct [(0,3),(1,3),(2,3),(3,22)]⟩),(27,⟨false,1, .one (.int .i64 0), .int .i64⟩),(56,⟨false,1, .one (.clip .hC []), .slice .hC 70⟩),(59,⟨false,1, .one (.clip .int []), .slice .int 27⟩),(70,⟨true,4, .agg [.int .i64 0, .str [], .str [], .str []], .struct [(0,3),(1,9),(2,9),(3,9)]⟩),(98,⟨false,1, .one (.lx), .other⟩),(100,⟨false,1, .one (.l7), .map .int .fn 3 98⟩)]
def qs:List (Nat×List EK):= []
theorem r8:Tryz.prog.follows .mixedOrders=true:=by kernel_rfl
theorem sw:(qF.all fun x=>tiB Tryz.prog x.1 x.2)=true:=by kernel_rfl
theorem sa:(qs.all fun x=>eqB Tryz.prog x.1 x.2)=true:=by kernel_rfl
def J0:Code:=bd Tryz.f32
def Od:Code:=bd Tryz.f67
def T_:List HV:=[.agg hFs, .one (.str), .agg [.int .i64, .str, .str, .str]]
def PU:List HV:=[.agg hFs, .one (.int .i64)]
def akI:HP.V T_→Fs×Str×bZ:=fun v=>((cFs v.1),v.2.1,(⟨v.2.2.1.1,v.2.2.1.2.1,v.2.2.1.2.2.1,v.2.2.1.2.2.2.1⟩:bZ))
def ajq:HX.V PU→Fs×Int:=fun v=>((cFs v.1),v.2)
def aeJ:(Fs×Int)→HX.V PU:=fun y=>((y.1.ak,(y.1.aw,(y.1.next,(y.1.aa,())))),y.2)
def aib:(Fs×Str×bZ)→Option (Fs×Int):=fun x=>jX x.1 x.2.1 x.2.2
def Ux:Spec:=aH T_ PU akI aeJ aib
def anN:Cfg:={T:=qF,spec:=[(96,We)],aO:=aA.G Tryz.prog,eqs:=qs,N:=15,fuel:=64,fid:=95}
theorem ams:az Tryz.prog anN:=aP sw sa ⟨abb,trivial⟩
theorem amv:aF Tryz.prog 95 Ux:=aV Tryz.f95 ams r8 (toY:=ajq)
def RE:List HV:=[.agg hFs, .one (.str), .agg [.int .i64, .str, .str, .str]]
def Qa:List HV:=[.agg hFs, .one (.int .i64)]
def ad7:HP.V RE→Fs×Str×bZ:=fun v=>((cFs v.1),v.2.1,(⟨v.2.2.1.1,v.2.2.1.2.1,v.2.2.1.2.2.1,v.2.2.1.2.2.2.1⟩:bZ))
def aqo:HX.V Qa→Fs×Int:=fun v=>((cFs v.1),v.2)
def abH:(Fs×Int)→HX.V Qa:=fun y=>((y.1.ak,(y.1.aw,(y.1.next,(y.1.aa,())))),y.2)
def aam:(Fs×Str×bZ)→Option (Fs×Int):=fun x=>km x.1 x.2.1 x.2.2
def V4:Spec:=aH RE Qa ad7 abH aam
def ad8:Cfg:={T:=qF,spec:=[(98,QQ)],aO:=aA.G Tryz.prog,eqs:=qs,N:=17,fuel:=64,fid:=97}
theorem aoe:az Tryz.prog ad8:=aP sw sa ⟨ag4,trivial⟩
theorem ac8:aF Tryz.prog 97 V4:=aV Tryz.f97 aoe r8 (toY:=aqo)
def W1:List HV:=[.agg hFs, .one (.str), .agg [.int .i64, .str, .str, .str]]
def Pm:List HV:=[.agg hFs, .one (.int .i64)]
def abP:HP.V W1→Fs×Str×bZ:=fun v=>((cFs v.1),v.2.1,(⟨v.2.2.1.1,v.2.2.1.2.1,v.2.2.1.2.2.1,v.2.2.1.2.2.2.1⟩:bZ))
def anq:HX.V Pm→Fs×Int:=fun v=>((cFs v.1),v.2)
def alK:(Fs×Int)→HX.V Pm:=fun y=>((y.1.ak,(y.1.aw,(y.1.next,(y.1.aa,())))),y.2)
def anU:(Fs×Str×bZ)→Option (Fs×Int):=fun x=>ks x.1 x.2.1 x.2.2
def WI:Spec:=aH W1 Pm abP alK anU
def aha:Cfg:={T:=qF,spec:=[(100,WA)],aO:=aA.G Tryz.prog,eqs:=qs,N:=17,fuel:=64,fid:=99}
theorem aqB:az Tryz.prog aha:=aP sw sa ⟨ana,trivial⟩
theorem an6:aF Tryz.prog 99 WI:=aV Tryz.f99 aqB r8 (toY:=anq)
def UF:List HV:=[.agg hFs, .one (.str), .agg [.int .i64, .str, .str, .str]]
def Mk:List HV:=[.agg hFs, .one (.int .i64)]
def ak5:HP.V UF→Fs×Str×bZ:=fun v=>((cFs v.1),v.2.1,(⟨v.2.2.1.1,v.2.2.1.2.1,v.2.2.1.2.2.1,v.2.2.1.2.2.2.1⟩:bZ))
def abf:HX.V Mk→Fs×Int:=fun v=>((cFs v.1),v.2)
def abk:(Fs×Int)→HX.V Mk:=fun y=>((y.1.ak,(y.1.aw,(y.1.next,(y.1.aa,())))),y.2)
def afT:(Fs×Str×bZ)→Option (Fs×Int):=fun x=>j5 x.1 x.2.1 x.2.2
def SQ:Spec:=aH UF Mk ak5 abk afT
def ac5:Cfg:={T:=qF,spec:=[(102,W_)],aO:=aA.G Tryz.prog,eqs:=qs,N:=17,fuel:=64,fid:=101}
theorem aci:az Tryz.prog ac5:=aP sw sa ⟨agn,trivial⟩
theorem amN:aF Tryz.prog 101 SQ:=aV Tryz.f101 aci r8 (toY:=abf)
def UY:List HV:=[.agg hFs, .one (.str), .agg [.int .i64, .str, .str, .str]]
def MA:List HV:=[.agg hFs, .one (.int .i64)]
def amW:HP.V UY→Fs×Str×bZ:=fun v=>((cFs v.1),v.2.1,(⟨v.2.2.1.1,v.2.2.1.2.1,v.2.2.1.2.2.1,v.2.2.1.2.2.2.1⟩:bZ))
def Z0:HX.V MA→Fs×Int:=fun v=>((cFs v.1),v.2)
def amb:(Fs×Int)→HX.V MA:=fun y=>((y.1.ak,(y.1.aw,(y.1.next,(y.1.aa,())))),y.2)
def aoA:(Fs×Str×bZ)→Option (Fs×Int):=fun x=>kp x.1 x.2.1 x.2.2
def Tl:Spec:=aH UY MA amW amb aoA
def akZ:Cfg:={T:=qF,spec:=[(104,UZ)],aO:=aA.G Tryz.prog,eqs:=qs,N:=17,fuel:=64,fid:=103}
theorem akr:az Tryz.prog akZ:=aP sw sa ⟨alG,trivial⟩
theorem aoh:aF Tryz.prog 103 Tl:=aV Tryz.f103 akr r8 (toY:=Z0)
def RJ:List HV:=[.agg hFs, .one (.str), .agg [.int .i64, .str, .str, .str]]
def Lm:List HV:=[.agg hFs, .one (.int .i64)]
def anS:HP.V RJ→Fs×Str×bZ:=fun v=>((cFs v.1),v.2.1,(⟨v.2.2.1.1,v.2.2.1.2.1,v.2.2.1.2.2.1,v.2.2.1.2.2.2.1⟩:bZ))
def ZX:HX.V Lm→Fs×Int:=fun v=>((cFs v.1),v.2)
def aon:(Fs×Int)→HX.V Lm:=fun y=>((y.1.ak,(y.1.aw,(y.1.next,(y.1.aa,())))),y.2)
def aj4:(Fs×Str×bZ)→Option (Fs×Int):=fun x=>j6 x.1 x.2.1 x.2.2
def V8:Spec:=aH RJ Lm anS aon aj4
def aoB:Cfg:={T:=qF,spec:=[(106,Rw)],aO:=aA.G Tryz.prog,eqs:=qs,N:=15,fuel:=64,fid:=105}
theorem aa6:az Tryz.prog aoB:=aP sw sa ⟨ak0,trivial⟩
theorem af0:aF Tryz.prog 105 V8:=aV Tryz.f105 aa6 r8 (toY:=ZX)
def SL:List HV:=[.agg hFs, .one (.str), .agg [.int .i64, .str, .str, .str]]
def Lq:List HV:=[.agg hFs, .one (.int .i64)]
def agZ:HP.V SL→Fs×Str×bZ:=fun v=>((cFs v.1),v.2.1,(⟨v.2.2.1.1,v.2.2.1.2.1,v.2.2.1.2.2.1,v.2.2.1.2.2.2.1⟩:bZ))
def Zl:HX.V Lq→Fs×Int:=fun v=>((cFs v.1),v.2)
def aaA:(Fs×Int)→HX.V Lq:=fun y=>((y.1.ak,(y.1.aw,(y.1.next,(y.1.aa,())))),y.2)
def alL:(Fs×Str×bZ)→Option (Fs×Int):=fun x=>kA x.1 x.2.1 x.2.2
def S5:Spec:=aH SL Lq agZ aaA alL
def ag_:Cfg:={T:=qF,spec:=[(108,V6)],aO:=aA.G Tryz.prog,eqs:=qs,N:=15,fuel:=64,fid:=107}
theorem aqe:az Tryz.prog ag_:=aP sw sa ⟨adn,trivial⟩
theorem aim:aF Tryz.prog 107 S5:=aV Tryz.f107 aqe r8 (toY:=Zl)
def Tm:List HV:=[.agg hFs, .one (.str), .agg [.int .i64, .str, .str, .str]]
def N9:List HV:=[.agg hFs, .one (.int .i64)]
def aqG:HP.V Tm→Fs×Str×bZ:=fun v=>((cFs v.1),v.2.1,(⟨v.2.2.1.1,v.2.2.1.2.1,v.2.2.1.2.2.1,v.2.2.1.2.2.2.1⟩:bZ))
def amO:HX.V N9→Fs×Int:=fun v=>((cFs v.1),v.2)
def aaL:(Fs×Int)→HX.V N9:=fun y=>((y.1.ak,(y.1.aw,(y.1.next,(y.1.aa,())))),y.2)
def acs:(Fs×Str×bZ)→Option (Fs×Int):=fun x=>j1 x.1 x.2.1 x.2.2
def WE:Spec:=aH Tm N9 aqG aaL acs
def ZG:Cfg:={T:=qF,spec:=[(14,Xh)],aO:=aA.G Tryz.prog,eqs:=qs,N:=17,fuel:=64,fid:=109}
theorem aek:az Tryz.prog ZG:=aP sw sa ⟨afr,trivial⟩
theorem ail:aF Tryz.prog 109 WE:=aV Tryz.f109 aek r8 (toY:=amO)
def Ul:List (Int×Nat×Nat):=[((1:Int),95,0),((2:Int),97,1),((3:Int),99,2),((4:Int),101,3),((5:Int),103,4),((6:Int),105,5),((7:Int),107,6),((8:Int),109,7)]
def QT {R:Type}:List (Nat×Hd R):= []
def Qc {R:Type}:List (Nat×Inl R):= []
def Jo:Cfg:={T:=qF,aO:=aA.G Tryz.prog,eqs:=qs,N:=3,fuel:=64,fid:=67}
theorem amh:az Tryz.prog Jo:=aP sw sa trivial
theorem aah {R:Type}:aI Tryz.prog (R:=R) 0 Qc:=au _ _
theorem aqv {R:Type}:aD (R:=R) (hnd 0 Qc) Jo QT Od:=ao (l:= []) (by kernel_rfl) (trivial)
theorem ajU:dB Tryz.prog Jo Od:=bp (by kernel_rfl)
def Wc:kg:=om [] (fun _=>()) F4 (fun _:Unit=>some (Ul,8))
theorem akW:∀v,CV (hnd 0 Qc) Jo QT Od Tryz.f67.results.toList (HP.st [] v) Bu=(fun _:Unit=>some (Ul,8)) ():=by intro v;kernel_rfl
theorem agR:nW Tryz.prog 67 Wc:=Bh (fn:=Tryz.f67) (by kernel_rfl) (by kernel_rfl) (by kernel_rfl) amh (by kernel_rfl) (by kernel_rfl) r8 (by kernel_rfl) Dk (d:=0) aah aqv ajU akW
def RM:List HV:=[.agg hFs, .one (.str), .agg [.int .i64, .str, .str, .str]]
def Lr:List HV:=[.agg hFs, .one (.int .i64)]
def ab_:HP.V RM→Fs×Str×bZ:=fun v=>((cFs v.1),v.2.1,(⟨v.2.2.1.1,v.2.2.1.2.1,v.2.2.1.2.2.1,v.2.2.1.2.2.2.1⟩:bZ))
def aqy:HX.V Lr→Fs×Int:=fun v=>((cFs v.1),v.2)
def ag9:(Fs×Int)→HX.V Lr:=fun y=>((y.1.ak,(y.1.aw,(y.1.next,(y.1.aa,())))),y.2)
def aov:(Fs×Str×bZ)→Option (Fs×Int):=fun x=>nf x.1 x.2.1 x.2.2
def OR:Spec:=aH RM Lr ab_ ag9 aov
def ajY:Cfg:={T:=qF,spec:=[(95,Ux),(97,V4),(99,WI),(101,SQ),(103,Tl),(105,V8),(107,S5),(109,WE)],aO:=aA.G Tryz.prog,eqs:=qs,N:=27,fuel:=64,fid:=35,fresh:=[(67,Wc)]}
theorem agD:az Tryz.prog ajY:=aP sw sa ⟨amv,⟨ac8,⟨an6,⟨amN,⟨aoh,⟨af0,⟨aim,⟨ail,trivial⟩⟩⟩⟩⟩⟩⟩⟩ (fr:=⟨agR,trivial⟩)
theorem Vh:aF Tryz.prog 35 OR:=aV Tryz.f35 agD r8 (toY:=aqy)
def Au:HS:=⟨[(1, .one (.str)),(3, .one (.ptr 0 0)),(6, .one (.ptr 1 0)),(8, .one (.own 2)),(13, .one (.sl .hC)),(14, .one (.int .i64)),(15, .one (.int .i64))],[(0, .cells hFs),(1, .cells hFs),(2, .row .int)],3⟩
def KC {R:Type}:Nat→HS.V Au→(Ex→St→Option R)→Option R:=fun q v K=>
 fW v.1.1 v.1.2.2.2.2.1 v.1.2.2.2.2.2.1 (fun y10 y12=>K (.exit 0) {ar:=[(3, .v (.one (.ptr 0 0))),(6, .v (.one (.ptr 1 0))),(8, .v (.one (.own 2)))],mem:=[(0, .cells [.int .i64 y10.ak, .int .i64 y10.aw, .int .i64 y10.next, .sl .bH y10.aa]),(1, .cells (rFs (cFs v.2.2.1))),(2, .row .int y12)],nx:=3}) q v.1.2.2.2.2.2.2.1 (cFs v.2.1) v.2.2.2.1
def QV:List HV:=[.agg hFs, .one (.str), .one (.sl .hC)]
def MK:List HV:=[.agg hFs, .one (.sl .int)]
def aix:HP.V QV→Fs×Str×(List bZ):=fun v=>((cFs v.1),v.2.1,v.2.2.1)
def ag8:HX.V MK→Fs×(List Int):=fun v=>((cFs v.1),v.2)
def abm:(Fs×(List Int))→HX.V MK:=fun y=>((y.1.ak,(y.1.aw,(y.1.next,(y.1.aa,())))),y.2)
def alw:(Fs×Str×(List bZ))→Option (Fs×(List Int)):=fun x=>gQ x.1 x.2.1 x.2.2
def EP:Spec:=aH QV MK aix abm alw
def VC {R:Type}:List (Nat×Hd R):=[(3,bL Au KC)]
def Nz {R:Type}:List (Nat×Inl R):= []
def Ny:Cfg:={T:=qF,spec:=[(35,OR)],aO:=aA.G Tryz.prog,eqs:=qs,N:=34,fuel:=64,loops:=[(3,⟨[1,3,6,8,13,14,15],[(8,2, .int)],[0,1,2],3, [],[1], [], []⟩)],blocks:=[(0,⟨[3,6,8], [],[0,1,2],3, [], [], [], []⟩)],fid:=32}
theorem apA:az Tryz.prog Ny:=aP sw sa ⟨Vh,trivial⟩
theorem aaK {R:Type}:aI Tryz.prog (R:=R) 0 Nz:=au _ _
theorem akv {R:Type}:bB (R:=R) (hnd 0 Nz) Ny VC (sub [1,1,0,1,0,0] J0) (HS.V Au) (HS.st Au) (HS.sh Au) KC (bL Au KC):=aT Au KC (fun _ _=>rfl) (by intro q v K;kernel_rfl)
theorem ai2 {R:Type}:aD (R:=R) (hnd 0 Nz) Ny VC J0:=ao (l:=[sub [1,1,0,1,0,0] J0]) (by kernel_rfl) (aK (b:=sub [1,1,0,1,0,0] J0) (rid:=3) (by kernel_rfl) (by kernel_rfl) akv (trivial))
theorem Ih:aF Tryz.prog 32 EP:=bf Tryz.f32 apA r8 (d:=0) aaK ai2 (bp (by kernel_rfl)) (toY:=ag8)
def Vu:List HV:=[.one (.int .i64), .one (.int .i64), .one (.sl .hC)]
def NK:List HV:=[.agg hFs, .one (.int .i64)]
def adS:HP.V Vu→Int×Int×(List bZ):=fun v=>(v.1,v.2.1,v.2.2.1)
def aos:HX.V NK→Fs×Int:=fun v=>((cFs v.1),v.2)
def agz:(Fs×Int)→HX.V NK:=fun y=>((y.1.ak,(y.1.aw,(y.1.next,(y.1.aa,())))),y.2)
def aa8:(Int×Int×(List bZ))→Option (Fs×Int):=fun x=>im x.1 x.2.1 x.2.2
def Hr:Spec:=aH Vu NK adS agz aa8
def ah8:Cfg:={T:=qF,spec:=[(32,EP),(66,Uz)],aO:=aA.G Tryz.prog,eqs:=qs,N:=27,fuel:=64,fid:=34}
theorem ahM:az Tryz.prog ah8:=aP sw sa ⟨Ih,⟨Zk,trivial⟩⟩
theorem Me:aF Tryz.prog 34 Hr:=aV Tryz.f34 ahM r8 (toY:=aos)
end
end Go.Eng
set_option linter.unusedVariables false
set_option maxRecDepth 100000
namespace Go.Eng
noncomputable section
open Go Go.Proofs
def BX:List (Nat×TI):=[(4,⟨false,1, .one (.bool false), .bool⟩),(9,⟨false,1, .one (.str []), .str⟩),(46,⟨false,1, .one (.clip .str []), .slice .str 9⟩),(79,⟨true,3, .agg [.bool false, .clip .str [], .bool false], .struct [(0,4),(1,46),(2,4)]⟩)]
def AT:List (Nat×List EK):= []
theorem Ey:Tryz.prog.follows .mixedOrders=true:=by kernel_rfl
theorem C2:(BX.all fun x=>tiB Tryz.prog x.1 x.2)=true:=by kernel_rfl
theorem DU:(AT.all fun x=>eqB Tryz.prog x.1 x.2)=true:=by kernel_rfl
def H7:Code:=bd Tryz.f24
def G0:Code:=bd Tryz.f44
def Kw:Code:=bd Tryz.f56
def Hw:Code:=bd Tryz.f57
def ID:Code:=bd Tryz.f73
def B1:HS:=⟨[(0, .one (.str)),(3, .one (.int .i64))], [],0⟩
def Jx {R:Type}:Nat→HS.V B1→(Ex→St→Option R)→Option R:=fun q v K=>
 fQ v.1.1 (K .ret {ar:=[(2, .v (.one (.bool false)))],mem:= [],nx:=0}) (K (.exit 0) {ar:=[(0, .v (.one (.str v.1.1)))],mem:= [],nx:=0}) q v.1.2.1
def SS:List HV:=[.one (.str)]
def PH:List HV:=[.one (.bool)]
def amf:HP.V SS→Str:=fun v=>(v.1)
def acp:HX.V PH→Bool:=fun v=>(v)
def anH:Bool→HX.V PH:=fun y=>(y)
def akY:Str→Option (Bool):=fun x=>eQ x
def Em:Spec:=aH SS PH amf anH akY
def SZ {R:Type}:List (Nat×Hd R):=[(2,bL B1 Jx)]
def Qy {R:Type}:List (Nat×Inl R):= []
def M8:Cfg:={T:=BX,aO:=aA.G Tryz.prog,eqs:=AT,N:=36,fuel:=64,loops:=[(2,⟨[0,3], [], [],0, [], [], [], []⟩)],blocks:=[(0,⟨[0], [], [],0, [], [], [], []⟩)],gk:=some ⟨[2], [], [],0, [], [], [], []⟩,fid:=44}
theorem Yl:az Tryz.prog M8:=aP C2 DU trivial
theorem aiS {R:Type}:aI Tryz.prog (R:=R) 0 Qy:=au _ _
theorem Zq {R:Type}:bB (R:=R) (hnd 0 Qy) M8 SZ (sub [1,0,1,0,0] G0) (HS.V B1) (HS.st B1) (HS.sh B1) Jx (bL B1 Jx):=aT B1 Jx (fun _ _=>rfl) (by intro q v K;kernel_rfl)
theorem am2 {R:Type}:aD (R:=R) (hnd 0 Qy) M8 SZ G0:=ao (l:=[sub [1,0,1,0,0] G0]) (by kernel_rfl) (aK (b:=sub [1,0,1,0,0] G0) (rid:=2) (by kernel_rfl) (by kernel_rfl) Zq (trivial))
theorem F3:aF Tryz.prog 44 Em:=bf Tryz.f44 Yl Ey (d:=0) aiS am2 (bp (by kernel_rfl)) (toY:=acp)
def Ar:HS:=⟨[(0, .one (.str)),(3, .one (.own 0)),(4, .one (.str)),(5, .one (.int .i64))],[(0, .row .str)],1⟩
def J4 {R:Type}:Nat→HS.V Ar→(Ex→St→Option R)→Option R:=fun q v K=>
 ct v.1.1 (fun y6=>K (.exit 0) {ar:=[(3, .v (.one (.own 0)))],mem:=[(0, .row .str y6)],nx:=1}) q v.1.2.2.1 v.1.2.2.2.1 v.2.1
def R6:List HV:=[.one (.str)]
def Lt:List HV:=[.one (.sl .str)]
def Yj:HP.V R6→Str:=fun v=>(v.1)
def aiT:HX.V Lt→(List Str):=fun v=>(v)
def aij:(List Str)→HX.V Lt:=fun y=>(y)
def afy:Str→Option ((List Str)):=fun x=>gO x
def KZ:Spec:=aH R6 Lt Yj aij afy
def VZ {R:Type}:List (Nat×Hd R):=[(4,bL Ar J4)]
def OG {R:Type}:List (Nat×Inl R):= []
def QE:Cfg:={T:=BX,aO:=aA.G Tryz.prog,eqs:=AT,N:=36,fuel:=64,loops:=[(4,⟨[0,3,4,5],[(3,0, .str)],[0],1, [], [], [], []⟩)],blocks:=[(0,⟨[3], [],[0],1, [], [], [], []⟩)],fid:=56}
theorem afW:az Tryz.prog QE:=aP C2 DU trivial
theorem acm {R:Type}:aI Tryz.prog (R:=R) 0 OG:=au _ _
theorem aew {R:Type}:bB (R:=R) (hnd 0 OG) QE VZ (sub [1,1,1,0,1,0,0] Kw) (HS.V Ar) (HS.st Ar) (HS.sh Ar) J4 (bL Ar J4):=aT Ar J4 (fun _ _=>rfl) (by intro q v K;kernel_rfl)
theorem alo {R:Type}:aD (R:=R) (hnd 0 OG) QE VZ Kw:=ao (l:=[sub [1,1,1,0,1,0,0] Kw]) (by kernel_rfl) (aK (b:=sub [1,1,1,0,1,0,0] Kw) (rid:=4) (by kernel_rfl) (by kernel_rfl) aew (trivial))
theorem N5:aF Tryz.prog 56 KZ:=bf Tryz.f56 afW Ey (d:=0) acm alo (bp (by kernel_rfl)) (toY:=aiT)
def Ai:HS:=⟨[(0, .one (.sl .str)),(3, .one (.str)),(4, .one (.int .i64))], [],0⟩
def HF {R:Type}:Nat→HS.V Ai→(Ex→St→Option R)→Option R:=fun q v K=>
 fp v.1.1 (fun y5=>K (.exit 0) {ar:=[(3, .v (.one (.str y5)))],mem:= [],nx:=0}) q v.1.2.1 v.1.2.2.1
def Rk:List HV:=[.one (.sl .str)]
def NR:List HV:=[.one (.str)]
def adf:HP.V Rk→(List Str):=fun v=>(v.1)
def aiQ:HX.V NR→Str:=fun v=>(v)
def Yt:Str→HX.V NR:=fun y=>(y)
def afN:(List Str)→Option (Str):=fun x=>mQ x
def Wj:Spec:=aH Rk NR adf Yt afN
def UK {R:Type}:List (Nat×Hd R):=[(5,bL Ai HF)]
def LG {R:Type}:List (Nat×Inl R):= []
def PY:Cfg:={T:=BX,aO:=aA.G Tryz.prog,eqs:=AT,N:=22,fuel:=64,loops:=[(5,⟨[0,3,4], [], [],0, [], [], [], []⟩)],blocks:=[(0,⟨[3], [], [],0, [], [], [], []⟩)],fid:=57}
theorem aef:az Tryz.prog PY:=aP C2 DU trivial
theorem adi {R:Type}:aI Tryz.prog (R:=R) 0 LG:=au _ _
theorem alI {R:Type}:bB (R:=R) (hnd 0 LG) PY UK (sub [1,1,1,0,1,0,0] Hw) (HS.V Ai) (HS.st Ai) (HS.sh Ai) HF (bL Ai HF):=aT Ai HF (fun _ _=>rfl) (by intro q v K;kernel_rfl)
theorem aqw {R:Type}:aD (R:=R) (hnd 0 LG) PY UK Hw:=ao (l:=[sub [1,1,1,0,1,0,0] Hw]) (by kernel_rfl) (aK (b:=sub [1,1,1,0,1,0,0] Hw) (rid:=5) (by kernel_rfl) (by kernel_rfl) alI (trivial))
theorem Zw:aF Tryz.prog 57 Wj:=bf Tryz.f57 aef Ey (d:=0) adi aqw (bp (by kernel_rfl)) (toY:=aiQ)
def AK:HS:=⟨[(0, .one (.str)),(4, .one (.sl .str)),(5, .one (.int .i64))], [],0⟩
def I4 {R:Type}:Nat→HS.V AK→(Ex→St→Option R)→Option R:=fun q v K=>
 dP v.1.2.1 (K .ret {ar:=[(2, .v (.one (.clip .str ([] :List Str)))),(3, .v (.one (.bool false)))],mem:= [],nx:=0}) (K (.exit 0) {ar:=[(0, .v (.one (.str v.1.1))),(4, .v (.one (.sl .str v.1.2.1)))],mem:= [],nx:=0}) q v.1.2.2.1
def R_:List HV:=[.one (.str)]
def MW:List HV:=[.one (.sl .str), .one (.bool)]
def abq:HP.V R_→Str:=fun v=>(v.1)
def ac0:HX.V MW→(List Str)×Bool:=fun v=>(v.1,v.2)
def Zt:(List Str)×Bool→HX.V MW:=fun y=>(y.1,y.2)
def alp:Str→Option ((List Str)×Bool):=fun x=>kQ x
def SB:Spec:=aH R_ MW abq Zt alp
def Wa {R:Type}:List (Nat×Hd R):=[(3,bL AK I4)]
def Oi {R:Type}:List (Nat×Inl R):= []
def Ou:Cfg:={T:=BX,spec:=[(44,Em),(56,KZ),(57,Wj)],aO:=aA.G Tryz.prog,eqs:=AT,N:=25,fuel:=64,loops:=[(3,⟨[0,4,5], [], [],0, [], [], [], []⟩)],blocks:=[(0,⟨[0,4], [], [],0, [], [], [], []⟩)],gk:=some ⟨[2,3], [], [],0, [], [], [], []⟩,fid:=24}
theorem aoq:az Tryz.prog Ou:=aP C2 DU ⟨F3,⟨N5,⟨Zw,trivial⟩⟩⟩
theorem ajQ {R:Type}:aI Tryz.prog (R:=R) 0 Oi:=au _ _
theorem XT {R:Type}:bB (R:=R) (hnd 0 Oi) Ou Wa (sub [1,1,0,1,0,0] H7) (HS.V AK) (HS.st AK) (HS.sh AK) I4 (bL AK I4):=aT AK I4 (fun _ _=>rfl) (by intro q v K;kernel_rfl)
theorem aln {R:Type}:aD (R:=R) (hnd 0 Oi) Ou Wa H7:=ao (l:=[sub [1,1,0,1,0,0] H7]) (by kernel_rfl) (aK (b:=sub [1,1,0,1,0,0] H7) (rid:=3) (by kernel_rfl) (by kernel_rfl) XT (trivial))
theorem abp:aF Tryz.prog 24 SB:=bf Tryz.f24 aoq Ey (d:=0) ajQ aln (bp (by kernel_rfl)) (toY:=ac0)
def Sf:List HV:=[.one (.str)]
def N0:List HV:=[.agg [.bool, .sl .str, .bool]]
def ap2:HP.V Sf→Str:=fun v=>(v.1)
def aio:HX.V N0→Pth:=fun v=>((⟨v.1,v.2.1,v.2.2.1⟩:Pth))
def aoL:Pth→HX.V N0:=fun y=>((y.abs,(y.names,(y.bM,()))))
def YW:Str→Option (Pth):=fun x=>dD x
def Et:Spec:=aH Sf N0 ap2 aoL YW
def ahl:Cfg:={T:=BX,spec:=[(56,KZ)],aO:=aA.G Tryz.prog,eqs:=AT,N:=30,fuel:=64,fid:=43}
theorem aeH:az Tryz.prog ahl:=aP C2 DU ⟨N5,trivial⟩
theorem E6:aF Tryz.prog 43 Et:=aV Tryz.f43 aeH Ey (toY:=aio)
def Cs:HS:=⟨[(0, .one (.str)),(3, .one (.sl .str)),(4, .one (.int .i64))], [],0⟩
def JT {R:Type}:Nat→HS.V Cs→(Ex→St→Option R)→Option R:=fun q v K=>
 eE v.1.2.1 (K .ret {ar:=[(2, .v (.one (.bool true)))],mem:= [],nx:=0}) (K (.exit 0) {ar:=[(0, .v (.one (.str v.1.1)))],mem:= [],nx:=0}) q v.1.2.2.1
def Un:List HV:=[.one (.str)]
def M9:List HV:=[.one (.bool)]
def ade:HP.V Un→Str:=fun v=>(v.1)
def al8:HX.V M9→Bool:=fun v=>(v)
def abC:Bool→HX.V M9:=fun y=>(y)
def ajV:Str→Option (Bool):=fun x=>fC x
def OO:Spec:=aH Un M9 ade abC ajV
def TB {R:Type}:List (Nat×Hd R):=[(3,bL Cs JT)]
def MD {R:Type}:List (Nat×Inl R):= []
def Mf:Cfg:={T:=BX,spec:=[(56,KZ)],aO:=aA.G Tryz.prog,eqs:=AT,N:=22,fuel:=64,loops:=[(3,⟨[0,3,4], [], [],0, [], [], [], []⟩)],blocks:=[(0,⟨[0], [], [],0, [], [], [], []⟩)],gk:=some ⟨[2], [], [],0, [], [], [], []⟩,fid:=73}
theorem aeR:az Tryz.prog Mf:=aP C2 DU ⟨N5,trivial⟩
theorem Zz {R:Type}:aI Tryz.prog (R:=R) 0 MD:=au _ _
theorem alH {R:Type}:bB (R:=R) (hnd 0 MD) Mf TB (sub [1,1,0,1,0,0] ID) (HS.V Cs) (HS.st Cs) (HS.sh Cs) JT (bL Cs JT):=aT Cs JT (fun _ _=>rfl) (by intro q v K;kernel_rfl)
theorem ah1 {R:Type}:aD (R:=R) (hnd 0 MD) Mf TB ID:=ao (l:=[sub [1,1,0,1,0,0] ID]) (by kernel_rfl) (aK (b:=sub [1,1,0,1,0,0] ID) (rid:=3) (by kernel_rfl) (by kernel_rfl) alH (trivial))
theorem U8:aF Tryz.prog 73 OO:=bf Tryz.f73 aeR Ey (d:=0) Zz ah1 (bp (by kernel_rfl)) (toY:=al8)
end
end Go.Eng
set_option linter.unusedVariables false
set_option maxRecDepth 100000
namespace Go.Eng
noncomputable section
open Go Go.Proofs
def DH:List (Nat×TI):=[(3,⟨false,1, .one (.int .i64 0), .int .i64⟩),(9,⟨false,1, .one (.str []), .str⟩),(34,⟨false,1, .one (.clip .entry []), .slice .entry 94⟩),(94,⟨true,2, .agg [.str [], .int .i64 0], .struct [(0,9),(1,3)]⟩)]
def Dl:List (Nat×List EK):=[(94,[.s, .i])]
theorem Fu:Tryz.prog.follows .mixedOrders=true:=by kernel_rfl
theorem Fg:(DH.all fun x=>tiB Tryz.prog x.1 x.2)=true:=by kernel_rfl
theorem GG:(Dl.all fun x=>eqB Tryz.prog x.1 x.2)=true:=by kernel_rfl
def IM:Code:=bd Tryz.f47
def Ip:Code:=bd Tryz.f53
def IX:Code:=bd Tryz.f55
def Ig:Code:=bd Tryz.f85
def Hn:Code:=bd Tryz.f123
def A_:HS:=⟨[(0, .one (.sl .entry)),(1, .one (.sl .entry)),(5, .one (.int .i64))], [],0⟩
def JC {R:Type}:Nat→HS.V A_→(Ex→St→Option R)→Option R:=fun q v K=>
 fq v.1.1 v.1.2.1 (K .ret {ar:=[(4, .v (.one (.bool false)))],mem:= [],nx:=0}) (K (.exit 0) {ar:= [],mem:= [],nx:=0}) q v.1.2.2.1
def WN:List HV:=[.one (.sl .entry), .one (.sl .entry)]
def Qm:List HV:=[.one (.bool)]
def ajB:HP.V WN→(List Entry)×(List Entry):=fun v=>(v.1,v.2.1)
def agI:HX.V Qm→Bool:=fun v=>(v)
def ai5:Bool→HX.V Qm:=fun y=>(y)
def aex:(List Entry)×(List Entry)→Option (Bool):=fun x=>mP x.1 x.2
def Wz:Spec:=aH WN Qm ajB ai5 aex
def Rb {R:Type}:List (Nat×Hd R):=[(4,bL A_ JC)]
def Nr {R:Type}:List (Nat×Inl R):= []
def QO:Cfg:={T:=DH,aO:=aA.G Tryz.prog,eqs:=Dl,N:=26,fuel:=64,loops:=[(4,⟨[0,1,5], [], [],0, [], [], [], []⟩)],blocks:=[(0,⟨[], [], [],0, [], [], [], []⟩)],gk:=some ⟨[4], [], [],0, [], [], [], []⟩,fid:=123}
theorem ac3:az Tryz.prog QO:=aP Fg GG trivial
theorem apy {R:Type}:aI Tryz.prog (R:=R) 0 Nr:=au _ _
theorem agG {R:Type}:bB (R:=R) (hnd 0 Nr) QO Rb (sub [1,1,0,1,0,0] Hn) (HS.V A_) (HS.st A_) (HS.sh A_) JC (bL A_ JC):=aT A_ JC (fun _ _=>rfl) (by intro q v K;kernel_rfl)
theorem al9 {R:Type}:aD (R:=R) (hnd 0 Nr) QO Rb Hn:=ao (l:=[sub [1,1,0,1,0,0] Hn]) (by kernel_rfl) (aK (b:=sub [1,1,0,1,0,0] Hn) (rid:=4) (by kernel_rfl) (by kernel_rfl) agG (trivial))
theorem Zb:aF Tryz.prog 123 Wz:=bf Tryz.f123 ac3 Fu (d:=0) apy al9 (bp (by kernel_rfl)) (toY:=agI)
def Ax:HS:=⟨[(0, .one (.sl .entry)),(1, .one (.str)),(6, .one (.int .i64))], [],0⟩
def Ir {R:Type}:Nat→HS.V Ax→(Ex→St→Option R)→Option R:=fun q v K=>
 fv v.1.1 v.1.2.1 (fun y6=>K .ret {ar:=[(4, .v (.one (.int .i64 y6))),(5, .v (.one (.bool true)))],mem:= [],nx:=0}) (K (.exit 0) {ar:= [],mem:= [],nx:=0}) q v.1.2.2.1
def WY:List HV:=[.one (.sl .entry), .one (.str)]
def L0:List HV:=[.one (.int .i64), .one (.bool)]
def aql:HP.V WY→(List Entry)×Str:=fun v=>(v.1,v.2.1)
def aje:HX.V L0→Int×Bool:=fun v=>(v.1,v.2)
def ako:(Int×Bool)→HX.V L0:=fun y=>(y.1,y.2)
def X8:(List Entry)×Str→Option (Int×Bool):=fun x=>ix x.1 x.2
def Nt:Spec:=aH WY L0 aql ako X8
def Tc {R:Type}:List (Nat×Hd R):=[(2,bL Ax Ir)]
def Pw {R:Type}:List (Nat×Inl R):= []
def OT:Cfg:={T:=DH,aO:=aA.G Tryz.prog,eqs:=Dl,N:=25,fuel:=64,loops:=[(2,⟨[0,1,6], [], [],0, [], [], [], []⟩)],blocks:=[(0,⟨[], [], [],0, [], [], [], []⟩)],gk:=some ⟨[4,5], [], [],0, [], [], [], []⟩,fid:=47}
theorem XZ:az Tryz.prog OT:=aP Fg GG trivial
theorem acG {R:Type}:aI Tryz.prog (R:=R) 0 Pw:=au _ _
theorem amt {R:Type}:bB (R:=R) (hnd 0 Pw) OT Tc (sub [1,0,1,0,0] IM) (HS.V Ax) (HS.st Ax) (HS.sh Ax) Ir (bL Ax Ir):=aT Ax Ir (fun _ _=>rfl) (by intro q v K;kernel_rfl)
theorem anl {R:Type}:aD (R:=R) (hnd 0 Pw) OT Tc IM:=ao (l:=[sub [1,0,1,0,0] IM]) (by kernel_rfl) (aK (b:=sub [1,0,1,0,0] IM) (rid:=2) (by kernel_rfl) (by kernel_rfl) amt (trivial))
theorem V9:aF Tryz.prog 47 Nt:=bf Tryz.f47 XZ Fu (d:=0) acG anl (bp (by kernel_rfl)) (toY:=aje)
def BO:HS:=⟨[(0, .one (.sl .entry)),(3, .one (.int .i64))], [],0⟩
def IK {R:Type}:Nat→HS.V BO→(Ex→St→Option R)→Option R:=fun q v K=>
 dR v.1.1 (K .ret {ar:=[(2, .v (.one (.bool false)))],mem:= [],nx:=0}) (K (.exit 0) {ar:= [],mem:= [],nx:=0}) q v.1.2.1
def R8:List HV:=[.one (.sl .entry)]
def NL:List HV:=[.one (.bool)]
def al7:HP.V R8→(List Entry):=fun v=>(v.1)
def ap3:HX.V NL→Bool:=fun v=>(v)
def aaD:Bool→HX.V NL:=fun y=>(y)
def Ze:(List Entry)→Option (Bool):=fun x=>ep x
def Vc:Spec:=aH R8 NL al7 aaD Ze
def Uk {R:Type}:List (Nat×Hd R):=[(2,bL BO IK)]
def NH {R:Type}:List (Nat×Inl R):= []
def PA:Cfg:={T:=DH,spec:=[(44,Em)],aO:=aA.G Tryz.prog,eqs:=Dl,N:=41,fuel:=64,loops:=[(2,⟨[0,3], [], [],0, [], [], [], []⟩)],blocks:=[(0,⟨[], [], [],0, [], [], [], []⟩)],gk:=some ⟨[2], [], [],0, [], [], [], []⟩,fid:=85}
theorem XX:az Tryz.prog PA:=aP Fg GG ⟨F3,trivial⟩
theorem alB {R:Type}:aI Tryz.prog (R:=R) 0 NH:=au _ _
theorem ahZ {R:Type}:bB (R:=R) (hnd 0 NH) PA Uk (sub [1,0,1,0,0] Ig) (HS.V BO) (HS.st BO) (HS.sh BO) IK (bL BO IK):=aT BO IK (fun _ _=>rfl) (by intro q v K;kernel_rfl)
theorem aa4 {R:Type}:aD (R:=R) (hnd 0 NH) PA Uk Ig:=ao (l:=[sub [1,0,1,0,0] Ig]) (by kernel_rfl) (aK (b:=sub [1,0,1,0,0] Ig) (rid:=2) (by kernel_rfl) (by kernel_rfl) ahZ (trivial))
theorem anj:aF Tryz.prog 85 Vc:=bf Tryz.f85 XX Fu (d:=0) alB aa4 (bp (by kernel_rfl)) (toY:=ap3)
def B0:HS:=⟨[(0, .one (.sl .entry)),(1, .one (.str)),(5, .one (.own 0)),(6, .one (.int .i64))],[(0, .row .entry)],1⟩
def Jf {R:Type}:Nat→HS.V B0→(Ex→St→Option R)→Option R:=fun q v K=>
 di v.1.1 v.1.2.1 (fun y7=>K (.exit 0) {ar:=[(5, .v (.one (.own 0)))],mem:=[(0, .row .entry y7)],nx:=1}) q v.1.2.2.2.1 v.2.1
def VL:List HV:=[.one (.sl .entry), .one (.str)]
def Oy:List HV:=[.one (.sl .entry)]
def afQ:HP.V VL→(List Entry)×Str:=fun v=>(v.1,v.2.1)
def acS:HX.V Oy→(List Entry):=fun v=>(v)
def alP:(List Entry)→HX.V Oy:=fun y=>(y)
def aeK:(List Entry)×Str→Option ((List Entry)):=fun x=>dH x.1 x.2
def HJ:Spec:=aH VL Oy afQ alP aeK
def Vq {R:Type}:List (Nat×Hd R):=[(3,bL B0 Jf)]
def PZ {R:Type}:List (Nat×Inl R):= []
def O3:Cfg:={T:=DH,aO:=aA.G Tryz.prog,eqs:=Dl,N:=28,fuel:=64,loops:=[(3,⟨[0,1,5,6],[(5,0, .entry)],[0],1, [], [], [], []⟩)],blocks:=[(0,⟨[5], [],[0],1, [], [], [], []⟩)],fid:=53}
theorem apJ:az Tryz.prog O3:=aP Fg GG trivial
theorem YX {R:Type}:aI Tryz.prog (R:=R) 0 PZ:=au _ _
theorem agF {R:Type}:bB (R:=R) (hnd 0 PZ) O3 Vq (sub [1,1,0,1,0,0] Ip) (HS.V B0) (HS.st B0) (HS.sh B0) Jf (bL B0 Jf):=aT B0 Jf (fun _ _=>rfl) (by intro q v K;kernel_rfl)
theorem amL {R:Type}:aD (R:=R) (hnd 0 PZ) O3 Vq Ip:=ao (l:=[sub [1,1,0,1,0,0] Ip]) (by kernel_rfl) (aK (b:=sub [1,1,0,1,0,0] Ip) (rid:=3) (by kernel_rfl) (by kernel_rfl) agF (trivial))
theorem Pr:aF Tryz.prog 53 HJ:=bf Tryz.f53 apJ Fu (d:=0) YX amL (bp (by kernel_rfl)) (toY:=acS)
def Ce:HS:=⟨[(1, .one (.str)),(2, .one (.int .i64)),(7, .one (.sl .entry)),(8, .one (.own 0)),(9, .one (.bool)),(10, .one (.int .i64))],[(0, .row .entry)],1⟩
def IG {R:Type}:Nat→HS.V Ce→(Ex→St→Option R)→Option R:=fun q v K=>
 dK v.1.1 v.1.2.1 v.1.2.2.1 (fun y14 y15=>K (.exit 0) {ar:=[(1, .v (.one (.str v.1.1))),(2, .v (.one (.int .i64 v.1.2.1))),(8, .v (.one (.own 0))),(9, .v (.one (.bool y14)))],mem:=[(0, .row .entry y15)],nx:=1}) q v.1.2.2.2.2.1 v.1.2.2.2.2.2.1 v.2.1
def Th:List HV:=[.one (.sl .entry), .one (.str), .one (.int .i64)]
def Qf:List HV:=[.one (.sl .entry)]
def ahO:HP.V Th→(List Entry)×Str×Int:=fun v=>(v.1,v.2.1,v.2.2.1)
def XY:HX.V Qf→(List Entry):=fun v=>(v)
def alJ:(List Entry)→HX.V Qf:=fun y=>(y)
def Yp:(List Entry)×Str×Int→Option ((List Entry)):=fun x=>eF x.1 x.2.1 x.2.2
def KT:Spec:=aH Th Qf ahO alJ Yp
def Wo {R:Type}:List (Nat×Hd R):=[(5,bL Ce IG)]
def Nn {R:Type}:List (Nat×Inl R):= []
def Pe:Cfg:={T:=DH,spec:=[(53,HJ)],aO:=aA.G Tryz.prog,eqs:=Dl,N:=53,fuel:=64,loops:=[(5,⟨[1,2,7,8,9,10],[(8,0, .entry)],[0],1, [], [], [], []⟩)],blocks:=[(0,⟨[1,2,8,9], [],[0],1, [], [], [], []⟩)],fid:=55}
theorem abh:az Tryz.prog Pe:=aP Fg GG ⟨Pr,trivial⟩
theorem XE {R:Type}:aI Tryz.prog (R:=R) 0 Nn:=au _ _
theorem apR {R:Type}:bB (R:=R) (hnd 0 Nn) Pe Wo (sub [1,1,1,1,0,1,0,0] IX) (HS.V Ce) (HS.st Ce) (HS.sh Ce) IG (bL Ce IG):=aT Ce IG (fun _ _=>rfl) (by intro q v K;kernel_rfl)
theorem Z5 {R:Type}:aD (R:=R) (hnd 0 Nn) Pe Wo IX:=ao (l:=[sub [1,1,1,1,0,1,0,0] IX]) (by kernel_rfl) (aK (b:=sub [1,1,1,1,0,1,0,0] IX) (rid:=5) (by kernel_rfl) (by kernel_rfl) apR (trivial))
theorem OD:aF Tryz.prog 55 KT:=bf Tryz.f55 abh Fu (d:=0) XE Z5 (bp (by kernel_rfl)) (toY:=XY)
end
end Go.Eng
set_option linter.unusedVariables false
set_option maxRecDepth 100000
namespace Go.Eng
noncomputable section
open Go Go.Proofs
def w6:List (Nat×TI):=[(3,⟨false,1, .one (.int .i64 0), .int .i64⟩),(9,⟨false,1, .one (.str []), .str⟩),(22,⟨false,1, .one (.clip .bH []), .slice .bH 36⟩),(24,⟨true,4, .agg [.int .i64 0, .int .i64 0, .int .i64 0, .clip .bH []], .struct [(0,3),(1,3),(2,3),(3,22)]⟩),(34,⟨false,1, .one (.clip .entry []), .slice .entry 94⟩),(36,⟨true,6, .agg [.int .i64 0, .int .i64 0, .int .i64 0, .str [], .int .i64 0, .clip .entry []], .struct [(0,3),(1,3),(2,3),(3,9),(4,3),(5,34)]⟩),(94,⟨true,2, .agg [.str [], .int .i64 0], .struct [(0,9),(1,3)]⟩)]
def xU:List (Nat×List EK):= []
theorem zc:Tryz.prog.follows .mixedOrders=true:=by kernel_rfl
theorem za:(w6.all fun x=>tiB Tryz.prog x.1 x.2)=true:=by kernel_rfl
theorem zG:(xU.all fun x=>eqB Tryz.prog x.1 x.2)=true:=by kernel_rfl
def Kp:Code:=bd Tryz.f18
def HK:Code:=bd Tryz.f45
def JG:Code:=bd Tryz.f54
def I3:Code:=bd Tryz.f83
def IF:Code:=bd Tryz.f84
def Uc:List HV:=[.agg hIn, .agg hIn]
def LM:List HV:=[.one (.bool)]
def aaJ:HP.V Uc→ah×ah:=fun v=>((cIn v.1),(cIn v.2.1))
def ad5:HX.V LM→Bool:=fun v=>(v)
def akB:Bool→HX.V LM:=fun y=>(y)
def amw:(ah×ah)→Option (Bool):=fun x=>oa x.1 x.2
def Rs:Spec:=aH Uc LM aaJ akB amw
def apD:Cfg:={T:=w6,spec:=[(123,Wz)],aO:=aA.G Tryz.prog,eqs:=xU,N:=45,fuel:=64,fid:=76}
theorem afV:az Tryz.prog apD:=aP za zG ⟨Zb,trivial⟩
theorem aaS:aF Tryz.prog 76 Rs:=aV Tryz.f76 afV zc (toY:=ad5)
def Cv:HS:=⟨[(0, .one (.sl .bH)),(1, .one (.sl .bH)),(5, .one (.int .i64))], [],0⟩
def IC {R:Type}:Nat→HS.V Cv→(Ex→St→Option R)→Option R:=fun q v K=>
 ft v.1.1 v.1.2.1 (K .ret {ar:=[(4, .v (.one (.bool false)))],mem:= [],nx:=0}) (K (.exit 0) {ar:= [],mem:= [],nx:=0}) q v.1.2.2.1
def TR:List HV:=[.one (.sl .bH), .one (.sl .bH)]
def L5:List HV:=[.one (.bool)]
def aau:HP.V TR→(List ah)×(List ah):=fun v=>(v.1,v.2.1)
def aaH:HX.V L5→Bool:=fun v=>(v)
def aol:Bool→HX.V L5:=fun y=>(y)
def ag2:(List ah)×(List ah)→Option (Bool):=fun x=>mh x.1 x.2
def S9:Spec:=aH TR L5 aau aol ag2
def Tu {R:Type}:List (Nat×Hd R):=[(4,bL Cv IC)]
def LN {R:Type}:List (Nat×Inl R):= []
def LX:Cfg:={T:=w6,spec:=[(76,Rs)],aO:=aA.G Tryz.prog,eqs:=xU,N:=27,fuel:=64,loops:=[(4,⟨[0,1,5], [], [],0, [], [], [], []⟩)],blocks:=[(0,⟨[], [], [],0, [], [], [], []⟩)],gk:=some ⟨[4], [], [],0, [], [], [], []⟩,fid:=45}
theorem aqf:az Tryz.prog LX:=aP za zG ⟨aaS,trivial⟩
theorem alm {R:Type}:aI Tryz.prog (R:=R) 0 LN:=au _ _
theorem ahB {R:Type}:bB (R:=R) (hnd 0 LN) LX Tu (sub [1,1,0,1,0,0] HK) (HS.V Cv) (HS.st Cv) (HS.sh Cv) IC (bL Cv IC):=aT Cv IC (fun _ _=>rfl) (by intro q v K;kernel_rfl)
theorem abI {R:Type}:aD (R:=R) (hnd 0 LN) LX Tu HK:=ao (l:=[sub [1,1,0,1,0,0] HK]) (by kernel_rfl) (aK (b:=sub [1,1,0,1,0,0] HK) (rid:=4) (by kernel_rfl) (by kernel_rfl) ahB (trivial))
theorem aiJ:aF Tryz.prog 45 S9:=bf Tryz.f45 aqf zc (d:=0) alm abI (bp (by kernel_rfl)) (toY:=aaH)
def Wf:List HV:=[.agg hFs, .agg hFs]
def OY:List HV:=[.one (.bool)]
def aaT:HP.V Wf→Fs×Fs:=fun v=>((cFs v.1),(cFs v.2.1))
def aiO:HX.V OY→Bool:=fun v=>(v)
def abo:Bool→HX.V OY:=fun y=>(y)
def al5:(Fs×Fs)→Option (Bool):=fun x=>cr x.1 x.2
def EB:Spec:=aH Wf OY aaT abo al5
def akx:Cfg:={T:=w6,spec:=[(45,S9)],aO:=aA.G Tryz.prog,eqs:=xU,N:=31,fuel:=64,fid:=16}
theorem aff:az Tryz.prog akx:=aP za zG ⟨aiJ,trivial⟩
theorem FD:aF Tryz.prog 16 EB:=aV Tryz.f16 aff zc (toY:=aiO)
def BZ:HS:=⟨[(1, .one (.int .i64)),(2, .one (.ptr 0 0)),(4, .one (.ptr 1 0)),(6, .one (.int .i64))],[(0, .cells hFs),(1, .cells hIn)],2⟩
def Ku {R:Type}:Nat→HS.V BZ→(Ex→St→Option R)→Option R:=fun q v K=>
 fY v.1.1 (cFs v.2.1) (fun y8=>K .ret {ar:=[(4, .v (.one (.ptr 1 0))),(5, .v (.one (.bool true)))],mem:=[(1, .cells [.int .i64 y8.ino, .int .i64 y8.kind, .int .i64 y8.aL, .str y8.data, .int .i64 y8.parent, .sl .entry y8.entries])],nx:=2}) (K (.exit 0) {ar:=[(4, .v (.one (.ptr 1 0)))],mem:=[(1, .cells (rIn (cIn v.2.2.1)))],nx:=2}) q v.1.2.2.2.1
def Vr:List HV:=[.agg hFs, .one (.int .i64)]
def Ly:List HV:=[.agg hIn, .one (.bool)]
def YE:HP.V Vr→Fs×Int:=fun v=>((cFs v.1),v.2.1)
def ahh:HX.V Ly→ah×Bool:=fun v=>((cIn v.1),v.2)
def amc:(ah×Bool)→HX.V Ly:=fun y=>((y.1.ino,(y.1.kind,(y.1.aL,(y.1.data,(y.1.parent,(y.1.entries,())))))),y.2)
def adm:(Fs×Int)→Option (ah×Bool):=fun x=>bu x.1 x.2
def m9:Spec:=aH Vr Ly YE amc adm
def V2 {R:Type}:List (Nat×Hd R):=[(2,bL BZ Ku)]
def Nl {R:Type}:List (Nat×Inl R):= []
def No:Cfg:={T:=w6,aO:=aA.G Tryz.prog,eqs:=xU,N:=28,fuel:=64,loops:=[(2,⟨[1,2,4,6], [],[0,1],2, [],[1], [], []⟩)],blocks:=[(0,⟨[4], [],[1],2, [], [], [], []⟩)],gk:=some ⟨[4,5], [],[1],2, [],[1], [], []⟩,fid:=18}
theorem an0:az Tryz.prog No:=aP za zG trivial
theorem afK {R:Type}:aI Tryz.prog (R:=R) 0 Nl:=au _ _
theorem XD {R:Type}:bB (R:=R) (hnd 0 Nl) No V2 (sub [1,0,1,0,0] Kp) (HS.V BZ) (HS.st BZ) (HS.sh BZ) Ku (bL BZ Ku):=aT BZ Ku (fun _ _=>rfl) (by intro q v K;kernel_rfl)
theorem apW {R:Type}:aD (R:=R) (hnd 0 Nl) No V2 Kp:=ao (l:=[sub [1,0,1,0,0] Kp]) (by kernel_rfl) (aK (b:=sub [1,0,1,0,0] Kp) (rid:=2) (by kernel_rfl) (by kernel_rfl) XD (trivial))
theorem nE:aF Tryz.prog 18 m9:=bf Tryz.f18 an0 zc (d:=0) afK apW (bp (by kernel_rfl)) (toY:=ahh)
def Ro:List HV:=[.one (.int .i64), .one (.int .i64)]
def P7:List HV:=[.agg hFs]
def an2:HP.V Ro→Int×Int:=fun v=>(v.1,v.2.1)
def amF:HX.V P7→Fs:=fun v=>((cFs v))
def aeL:Fs→HX.V P7:=fun y=>((y.ak,(y.aw,(y.next,(y.aa,())))))
def adE:(Int×Int)→Option (Fs):=fun x=>iF x.1 x.2
def El:Spec:=aH Ro P7 an2 aeL adE
def ajz:Cfg:={T:=w6,aO:=aA.G Tryz.prog,eqs:=xU,N:=10,fuel:=64,fid:=31}
theorem ahH:az Tryz.prog ajz:=aP za zG trivial
theorem GU:aF Tryz.prog 31 El:=aV Tryz.f31 ahH zc (toY:=amF)
def Bt:HS:=⟨[(1, .one (.int .i64)),(2, .one (.ptr 0 0)),(4, .one (.ptr 1 0)),(5, .one (.own 2)),(6, .one (.int .i64))],[(0, .cells hFs),(1, .cells hFs),(2, .row .bH)],3⟩
def Ht {R:Type}:Nat→HS.V Bt→(Ex→St→Option R)→Option R:=fun q v K=>
 eC v.1.1 (cFs v.2.1) (fun y10=>K (.exit 0) {ar:=[(2, .v (.one (.ptr 0 0))),(4, .v (.one (.ptr 1 0))),(5, .v (.one (.own 2)))],mem:=[(0, .cells (rFs (cFs v.2.1))),(1, .cells (rFs (cFs v.2.2.1))),(2, .row .bH y10)],nx:=3}) q v.1.2.2.2.2.1 v.2.2.2.1
def SW:List HV:=[.agg hFs, .one (.int .i64)]
def Lj:List HV:=[.agg hFs]
def Ye:HP.V SW→Fs×Int:=fun v=>((cFs v.1),v.2.1)
def am5:HX.V Lj→Fs:=fun v=>((cFs v))
def ae6:Fs→HX.V Lj:=fun y=>((y.ak,(y.aw,(y.next,(y.aa,())))))
def anK:(Fs×Int)→Option (Fs):=fun x=>kq x.1 x.2
def Qb:Spec:=aH SW Lj Ye ae6 anK
def Xj {R:Type}:List (Nat×Hd R):=[(3,bL Bt Ht)]
def ME {R:Type}:List (Nat×Inl R):= []
def Mw:Cfg:={T:=w6,aO:=aA.G Tryz.prog,eqs:=xU,N:=33,fuel:=64,loops:=[(3,⟨[1,2,4,5,6],[(5,2, .bH)],[0,1,2],3, [],[1], [], []⟩)],blocks:=[(0,⟨[2,4,5], [],[0,1,2],3, [], [], [], []⟩)],fid:=83}
theorem alg:az Tryz.prog Mw:=aP za zG trivial
theorem Zy {R:Type}:aI Tryz.prog (R:=R) 0 ME:=au _ _
theorem agW {R:Type}:bB (R:=R) (hnd 0 ME) Mw Xj (sub [1,1,0,1,0,0] I3) (HS.V Bt) (HS.st Bt) (HS.sh Bt) Ht (bL Bt Ht):=aT Bt Ht (fun _ _=>rfl) (by intro q v K;kernel_rfl)
theorem agh {R:Type}:aD (R:=R) (hnd 0 ME) Mw Xj I3:=ao (l:=[sub [1,1,0,1,0,0] I3]) (by kernel_rfl) (aK (b:=sub [1,1,0,1,0,0] I3) (rid:=3) (by kernel_rfl) (by kernel_rfl) agW (trivial))
theorem Sb:aF Tryz.prog 83 Qb:=bf Tryz.f83 alg zc (d:=0) Zy agh (bp (by kernel_rfl)) (toY:=am5)
def Aw:HS:=⟨[(2, .one (.ptr 0 0)),(3, .one (.ptr 1 0)),(4, .one (.ptr 2 0)),(5, .one (.sl .bH)),(6, .one (.own 3)),(7, .one (.bool)),(8, .one (.int .i64))],[(0, .cells hFs),(1, .cells hIn),(2, .cells hFs),(3, .row .bH)],4⟩
def Jc {R:Type}:Nat→HS.V Aw→(Ex→St→Option R)→Option R:=fun q v K=>
 eu v.1.2.2.2.1 (cIn v.2.2.1) (fun y13 y17=>K (.exit 0) {ar:=[(2, .v (.one (.ptr 0 0))),(3, .v (.one (.ptr 1 0))),(4, .v (.one (.ptr 2 0))),(6, .v (.one (.own 3))),(7, .v (.one (.bool y13)))],mem:=[(0, .cells (rFs (cFs v.2.1))),(1, .cells (rIn (cIn v.2.2.1))),(2, .cells (rFs (cFs v.2.2.2.1))),(3, .row .bH y17)],nx:=4}) q v.1.2.2.2.2.2.1 v.1.2.2.2.2.2.2.1 v.2.2.2.2.1
def Ry:List HV:=[.agg hFs, .agg hIn]
def NJ:List HV:=[.agg hFs]
def aoQ:HP.V Ry→Fs×ah:=fun v=>((cFs v.1),(cIn v.2.1))
def abV:HX.V NJ→Fs:=fun v=>((cFs v))
def ahn:Fs→HX.V NJ:=fun y=>((y.ak,(y.aw,(y.next,(y.aa,())))))
def aqk:(Fs×ah)→Option (Fs):=fun x=>bN x.1 x.2
def DI:Spec:=aH Ry NJ aoQ ahn aqk
def W8 {R:Type}:List (Nat×Hd R):=[(5,bL Aw Jc)]
def Qr {R:Type}:List (Nat×Inl R):= []
def N6:Cfg:={T:=w6,spec:=[(83,Qb)],aO:=aA.G Tryz.prog,eqs:=xU,N:=52,fuel:=64,loops:=[(5,⟨[2,3,4,5,6,7,8],[(6,3, .bH)],[0,1,2,3],4, [],[2], [], []⟩)],blocks:=[(0,⟨[2,3,4,6,7], [],[0,1,2,3],4, [], [], [], []⟩)],fid:=54}
theorem aiW:az Tryz.prog N6:=aP za zG ⟨Sb,trivial⟩
theorem Zd {R:Type}:aI Tryz.prog (R:=R) 0 Qr:=au _ _
theorem agS {R:Type}:bB (R:=R) (hnd 0 Qr) N6 W8 (sub [1,1,1,1,0,1,0,0] JG) (HS.V Aw) (HS.st Aw) (HS.sh Aw) Jc (bL Aw Jc):=aT Aw Jc (fun _ _=>rfl) (by intro q v K;kernel_rfl)
theorem ab4 {R:Type}:aD (R:=R) (hnd 0 Qr) N6 W8 JG:=ao (l:=[sub [1,1,1,1,0,1,0,0] JG]) (by kernel_rfl) (aK (b:=sub [1,1,1,1,0,1,0,0] JG) (rid:=5) (by kernel_rfl) (by kernel_rfl) agS (trivial))
theorem E8:aF Tryz.prog 54 DI:=bf Tryz.f54 aiW zc (d:=0) Zd ab4 (bp (by kernel_rfl)) (toY:=abV)
def A9:HS:=⟨[(1, .one (.ptr 0 0)),(3, .one (.int .i64))],[(0, .cells hFs)],1⟩
def IB {R:Type}:Nat→HS.V A9→(Ex→St→Option R)→Option R:=fun q v K=>
 gp (cFs v.2.1) (K .ret {ar:=[(2, .v (.one (.bool false)))],mem:= [],nx:=0}) (K (.exit 0) {ar:= [],mem:= [],nx:=0}) q v.1.2.1
def Vd:List HV:=[.agg hFs]
def Lc:List HV:=[.one (.bool)]
def apr:HP.V Vd→Fs:=fun v=>((cFs v.1))
def ajw:HX.V Lc→Bool:=fun v=>(v)
def aaI:Bool→HX.V Lc:=fun y=>(y)
def aoO:Fs→Option (Bool):=fun x=>mb x
def Te:Spec:=aH Vd Lc apr aaI aoO
def Q2 {R:Type}:List (Nat×Hd R):=[(2,bL A9 IB)]
def Ol {R:Type}:List (Nat×Inl R):= []
def PO:Cfg:={T:=w6,aO:=aA.G Tryz.prog,eqs:=xU,N:=25,fuel:=64,loops:=[(2,⟨[1,3], [],[0],1, [], [], [], []⟩)],blocks:=[(0,⟨[], [], [],0, [], [], [], []⟩)],gk:=some ⟨[2], [], [],0, [], [], [], []⟩,fid:=84}
theorem ak6:az Tryz.prog PO:=aP za zG trivial
theorem Xr {R:Type}:aI Tryz.prog (R:=R) 0 Ol:=au _ _
theorem acf {R:Type}:bB (R:=R) (hnd 0 Ol) PO Q2 (sub [1,0,1,0,0] IF) (HS.V A9) (HS.st A9) (HS.sh A9) IB (bL A9 IB):=aT A9 IB (fun _ _=>rfl) (by intro q v K;kernel_rfl)
theorem adj {R:Type}:aD (R:=R) (hnd 0 Ol) PO Q2 IF:=ao (l:=[sub [1,0,1,0,0] IF]) (by kernel_rfl) (aK (b:=sub [1,0,1,0,0] IF) (rid:=2) (by kernel_rfl) (by kernel_rfl) acf (trivial))
theorem agL:aF Tryz.prog 84 Te:=bf Tryz.f84 ak6 zc (d:=0) Xr adj (bp (by kernel_rfl)) (toY:=ajw)
end
end Go.Eng
set_option linter.unusedVariables false
set_option maxRecDepth 100000
namespace Go.Eng
noncomputable section
open Go Go.Proofs
def Po:List (Nat×TI):=[(3,⟨false,1, .one (.int .i64 0), .int .i64⟩),(9,⟨false,1, .one (.str []), .str⟩),(22,⟨false,1, .one (.clip .bH []), .slice .bH 36⟩),(24,⟨true,4, .agg [.int .i64 0, .int .i64 0, .int .i64 0, .clip .bH []], .struct [(0,3),(1,3),(2,3),(3,22)]⟩),(36,⟨true,6, .agg [.int .i64 0, .int .i64 0, .int .i64 0, .str [], .int .i64 0, .clip .entry []], .struct [(0,3),(1,3),(2,3),(3,9),(4,3),(5,34)]⟩)]
def Ov:List (Nat×List EK):= []
theorem Wl:Tryz.prog.follows .mixedOrders=true:=by kernel_rfl
theorem Up:(Po.all fun x=>tiB Tryz.prog x.1 x.2)=true:=by kernel_rfl
theorem Rx:(Ov.all fun x=>eqB Tryz.prog x.1 x.2)=true:=by kernel_rfl
def Kf:Code:=bd Tryz.f87
def Ba:HS:=⟨[(1, .one (.ptr 0 0)),(3, .one (.int .i64)),(4, .one (.int .i64))],[(0, .cells hFs)],1⟩
def H0 {R:Type}:Nat→HS.V Ba→(Ex→St→Option R)→Option R:=fun q v K=>
 dW (cFs v.2.1) (fun y6=>K (.exit 0) {ar:=[(3, .v (.one (.int .i64 y6)))],mem:= [],nx:=0}) q v.1.2.1 v.1.2.2.1
def VQ:List HV:=[.agg hFs]
def Oa:List HV:=[.one (.int .i64)]
def ab1:HP.V VQ→Fs:=fun v=>((cFs v.1))
def alT:HX.V Oa→Int:=fun v=>(v)
def XU:Int→HX.V Oa:=fun y=>(y)
def adQ:Fs→Option (Int):=fun x=>k5 x
def Rh:Spec:=aH VQ Oa ab1 XU adQ
def RZ {R:Type}:List (Nat×Hd R):=[(3,bL Ba H0)]
def MP {R:Type}:List (Nat×Inl R):= []
def Oh:Cfg:={T:=Po,aO:=aA.G Tryz.prog,eqs:=Ov,N:=29,fuel:=64,loops:=[(3,⟨[1,3,4], [],[0],1, [], [], [], []⟩)],blocks:=[(0,⟨[3], [], [],0, [], [], [], []⟩)],fid:=87}
theorem acT:az Tryz.prog Oh:=aP Up Rx trivial
theorem ali {R:Type}:aI Tryz.prog (R:=R) 0 MP:=au _ _
theorem ZS {R:Type}:bB (R:=R) (hnd 0 MP) Oh RZ (sub [1,1,0,1,0,0] Kf) (HS.V Ba) (HS.st Ba) (HS.sh Ba) H0 (bL Ba H0):=aT Ba H0 (fun _ _=>rfl) (by intro q v K;kernel_rfl)
theorem abF {R:Type}:aD (R:=R) (hnd 0 MP) Oh RZ Kf:=ao (l:=[sub [1,1,0,1,0,0] Kf]) (by kernel_rfl) (aK (b:=sub [1,1,0,1,0,0] Kf) (rid:=3) (by kernel_rfl) (by kernel_rfl) ZS (trivial))
theorem apa:aF Tryz.prog 87 Rh:=bf Tryz.f87 acT Wl (d:=0) ali abF (bp (by kernel_rfl)) (toY:=alT)
def UT:List HV:=[.agg hFs, .one (.int .i64), .one (.int .i64)]
def PX:List HV:=[.one (.bool)]
def ain:HP.V UT→Fs×Int×Int:=fun v=>((cFs v.1),v.2.1,v.2.2.1)
def afE:HX.V PX→Bool:=fun v=>(v)
def aqt:Bool→HX.V PX:=fun y=>(y)
def adM:(Fs×Int×Int)→Option (Bool):=fun x=>gD x.1 x.2.1 x.2.2
def Ib:Spec:=aH UT PX ain aqt adM
def ajL:Cfg:={T:=Po,spec:=[(87,Rh)],aO:=aA.G Tryz.prog,eqs:=Ov,N:=22,fuel:=64,fid:=63}
theorem aqp:az Tryz.prog ajL:=aP Up Rx ⟨apa,trivial⟩
theorem MS:aF Tryz.prog 63 Ib:=aV Tryz.f63 aqp Wl (toY:=afE)
end
end Go.Eng
