/- A part of the proofs of the laws of this seat: the engine that reads the program's code, plain functions, or facts of the program's functions. Conditions: none. -/
import Derived.Ground.NamesProg
import Derived.Shelf.Small.Strs
import Derived.Shelf.Strings.Search1
import Derived.Shelf.Strings.OnBuilder
import Derived.Test.YtmhkgpaphifdpaaGreatDoorProg
import Derived.Test.YtmhkgpaphifdpaaGreatDoorP1
import Derived.Test.YtmhkgpaphifdpaaGreatDoorE4
set_option linter.unusedSectionVars false
set_option linter.unusedVariables false
set_option linter.unusedSimpArgs false
set_option linter.unnecessarySimpa false
namespace Go.Proofs
open Go.Shelf
def Tryz.lays106_ren:Go.Shelf.Ren:=⟨fun|106=>116|213=>141|265=>152|n=>n,fun|9=>9|3=>3|n=>n,fun|n=>n⟩
theorem Tryz.lays106:Go.Proofs.Lays.n106 Tryz.prog Tryz.lays106_ren:={
 mixed:=by kernel_rfl
 f106:=Tryz.func116.trans (congrArg some (by kernel_rfl))
 f213:=Tryz.func141.trans (congrArg some (by kernel_rfl))
 f265:=Tryz.func152.trans (congrArg some (by kernel_rfl))
 t3:=Tryz.underlying3
 a3:=Tryz.isAgg3
 z3:=Tryz.sizeOf3
 v3:=Tryz.zeroValue3
 t9:=Tryz.underlying9
 a9:=Tryz.isAgg9
 z9:=Tryz.sizeOf9
 v9:=Tryz.zeroValue9}
def Tryz.lays217_ren:Go.Shelf.Ren:=⟨fun|217=>131|266=>147|n=>n,fun|9=>9|5=>5|3=>3|n=>n,fun|n=>n⟩
theorem Tryz.lays217:Go.Proofs.Lays.n217 Tryz.prog Tryz.lays217_ren:={
 mixed:=by kernel_rfl
 f217:=Tryz.func131.trans (congrArg some (by kernel_rfl))
 f266:=Tryz.func147.trans (congrArg some (by kernel_rfl))
 t3:=Tryz.underlying3
 a3:=Tryz.isAgg3
 z3:=Tryz.sizeOf3
 v3:=Tryz.zeroValue3
 t5:=Tryz.underlying5
 a5:=Tryz.isAgg5
 z5:=Tryz.sizeOf5
 v5:=Tryz.zeroValue5
 t9:=Tryz.underlying9
 a9:=Tryz.isAgg9
 z9:=Tryz.sizeOf9
 v9:=Tryz.zeroValue9}
def Tryz.lays156_ren:Go.Shelf.Ren:=⟨fun|156=>164|165=>166|166=>167|169=>168|240=>169|241=>170|276=>171|277=>172|n=>n,fun|31=>65|9=>9|3=>3|4=>4|0=>0|20=>20|72=>167|76=>171|70=>164|37=>165|75=>170|127=>174|164=>175|5=>5|80=>173|n=>n,fun|n=>n⟩
theorem Tryz.lays156:Go.Proofs.Lays.n156 Tryz.prog Tryz.lays156_ren:={
 mixed:=by kernel_rfl
 f156:=Tryz.func164.trans (congrArg some (by kernel_rfl))
 f165:=Tryz.func166.trans (congrArg some (by kernel_rfl))
 f166:=Tryz.func167.trans (congrArg some (by kernel_rfl))
 f169:=Tryz.func168.trans (congrArg some (by kernel_rfl))
 f240:=Tryz.func169.trans (congrArg some (by kernel_rfl))
 f241:=Tryz.func170.trans (congrArg some (by kernel_rfl))
 f276:=Tryz.func171.trans (congrArg some (by kernel_rfl))
 f277:=Tryz.func172.trans (congrArg some (by kernel_rfl))
 t0:=Tryz.underlying0
 a0:=Tryz.isAgg0
 z0:=Tryz.sizeOf0
 v0:=Tryz.zeroValue0
 t3:=Tryz.underlying3
 a3:=Tryz.isAgg3
 z3:=Tryz.sizeOf3
 v3:=Tryz.zeroValue3
 t4:=Tryz.underlying4
 a4:=Tryz.isAgg4
 z4:=Tryz.sizeOf4
 v4:=Tryz.zeroValue4
 t9:=Tryz.underlying9
 a9:=Tryz.isAgg9
 z9:=Tryz.sizeOf9
 v9:=Tryz.zeroValue9
 t20:=Tryz.underlying20
 a20:=Tryz.isAgg20
 z20:=Tryz.sizeOf20
 v20:=Tryz.zeroValue20
 t31:=Tryz.underlying65
 a31:=Tryz.isAgg65
 z31:=Tryz.sizeOf65
 v31:=Tryz.zeroValue65
 t37:=Tryz.underlying165
 a37:=Tryz.isAgg165
 z37:=Tryz.sizeOf165
 v37:=Tryz.zeroValue165
 t70:=Tryz.underlying164
 a70:=Tryz.isAgg164
 z70:=Tryz.sizeOf164
 v70:=Tryz.zeroValue164
 t72:=Tryz.underlying167
 a72:=Tryz.isAgg167
 z72:=Tryz.sizeOf167
 v72:=Tryz.zeroValue167
 t75:=Tryz.underlying170
 a75:=Tryz.isAgg170
 z75:=Tryz.sizeOf170
 v75:=Tryz.zeroValue170
 t76:=Tryz.underlying171
 a76:=Tryz.isAgg171
 z76:=Tryz.sizeOf171
 v76:=Tryz.zeroValue171
 t127:=Tryz.underlying174
 a127:=Tryz.isAgg174
 z127:=Tryz.sizeOf174
 v127:=Tryz.zeroValue174
 t164:=Tryz.underlying175
 a164:=Tryz.isAgg175
 z164:=Tryz.sizeOf175
 v164:=Tryz.zeroValue175}
end Go.Proofs
set_option linter.unusedVariables false
set_option maxRecDepth 100000
namespace Go.Eng
open Go Go.Proofs Go.Shelf
noncomputable instance:GlobL Tryz.prog:=⟨[]⟩
noncomputable def strings_Compare_sp:Spec:=mkSpec (X:=Str×Str) (Y:=Int) [.one .str, .one .str] [.one (.int .i64)] (fun v=>(v.1,v.2.1)) (fun y=>y) (fun x=>strings_Compare x.1 x.2)
theorem strings_Compare_ok:SpecOK Tryz.prog 116 strings_Compare_sp where
 enters:=enters_of Tryz.func116 (by kernel_rfl) rfl
 calls:=by
  intro S w args vs x y hS _ hal hp hf;simp only[strings_Compare_sp,mkSpec] at hp hf⊢;split at hp
  ·rename_i v hv
   cases hp;cases hf;rw[HP.eq hv] at hal;cases hal with
   |cons h1 h2=>
    cases h2 with
    |cons h2 h3=>
     cases h3;rename_i v1 v2;cases (show VA _ w (.str v.1) v1 from h1) with
     |str _ b1 e1=>
      cases (show VA _ w (.str v.2.1) v2 from h2) with
      |str _ b2 e2=>
       refine(Any.strings_Compare Tryz.lays106 b1 b2 w).mono ?_;rintro e w' ⟨rfl,rfl⟩;refine⟨_,rfl,Go.RowKit.Below.refl _ _, ?_⟩;rw[e1,e2];exact VA.int _ _
  ·cases hp
noncomputable def stringslite_IndexByte_sp:Spec:=mkSpec (X:=Str×Int) (Y:=Int) [.one .str, .one (.int .u8)] [.one (.int .i64)] (fun v=>(v.1,v.2.1)) (fun y=>y) (fun x=>stringslite_IndexByte x.1 x.2)
theorem stringslite_IndexByte_ok:SpecOK Tryz.prog 131 stringslite_IndexByte_sp where
 enters:=enters_of Tryz.func131 (by kernel_rfl) rfl
 calls:=by
  intro S w args vs x y hS _ hal hp hf;simp only[stringslite_IndexByte_sp,mkSpec] at hp hf⊢;split at hp
  ·rename_i v hv
   cases hp;cases hf;rw[HP.eq hv] at hal;cases hal with
   |cons h1 h2=>
    cases h2 with
    |cons h2 h3=>
     cases h3;rename_i v1 v2;cases (show VA _ w (.str v.1) v1 from h1) with
     |str _ b1 e1=>
      cases (show VA _ w (.int .u8 v.2.1) v2 from h2) with
      |int _ _=>
       refine(Any.stringslite_IndexByte Tryz.lays217 b1 v.2.1 w).mono ?_;rintro e w' ⟨rfl,rfl⟩;refine⟨_,rfl,Go.RowKit.Below.refl _ _, ?_⟩;rw[e1];exact VA.int _ _
  ·cases hp
theorem bx156:Go.Proofs.Builder.Extra Tryz.prog Tryz.lays156_ren where
 sizeBuilder:=by kernel_rfl
 liesBuilder:=by kernel_rfl
 t5:=Tryz.underlying5
 a5:=Tryz.isAgg5
 z5:=Tryz.sizeOf5
 v5:=Tryz.zeroValue5
 infoByte:=by kernel_rfl
 cellsByte:=by kernel_rfl
 sizeByte:=by kernel_rfl
 neB5:=by decide
noncomputable def strings_Join_sp:Spec:=mkSpec (X:=List Str×Str) (Y:=Str) [.one (.sl .str), .one .str] [.one .str] (fun v=>(v.1,v.2.1)) (fun y=>y) (fun x=>strings_Join x.1 x.2)
theorem strings_Join_ok:SpecOK Tryz.prog 164 strings_Join_sp where
 enters:=enters_of Tryz.func164 (by kernel_rfl) rfl
 calls:=by
  intro S w args vs x y hS _ hal hp hf;simp only[strings_Join_sp,mkSpec] at hp hf⊢;split at hp
  ·rename_i v hv
   cases hp;unfold strings_Join at hf;split at hf
   rotate_left
   ·cases hf
   rename_i hlen;have hlen:(Lib.join v.1 v.2.1).length+List.length v.1≤67108864:=hlen;cases hf;rw[HP.eq hv] at hal;cases hal with
   |cons h1 h2=>
    cases h2 with
    |cons h2 h3=>
     cases h3;rename_i v1 v2;cases (show VA _ w (.sl .str v.1) v1 from h1) with
     |sl _ _ ad len cap bk of f hn hc ha hcell hff=>
      cases (show VA _ w (.str v.2.1) v2 from h2) with
      |str _ b2 e2=>
       by_cases hne:v.1= []
       ·have hlen0:len=0:=by rw[hn,hne];rfl
        subst hlen0;refine(Any.strings_Join_none Tryz.lays156 bx156 ad cap b2 w).mono ?_;rintro e w' ⟨rfl,rfl⟩;refine⟨_,rfl,Go.RowKit.Below.refl _ _, ?_⟩;rw[hne];exact VA.str _ _ rfl
       ·obtain⟨rfl,hSb⟩:=ha hne
        obtain⟨xs,hxl,hxs,hxd⟩:=texts_of (w:=w) (bk:=bk) (of:=of) v.1 (fun i hi=>by
         have:=hcell i 0 hi (by decide);have h9:=hff i v.1[i] 0 (.str v.1[i]) (by simp [hi]) rfl;generalize f i 0=u at this h9;cases h9 with
         |str _ b e=>exact⟨b,by simpa [Ty.n] using this,e⟩)
        subst hn;have:=Any.strings_Join Tryz.lays156 bx156 bk of cap xs b2 w hxs (hS bk hSb) (by
         rw[hxl];omega) (by rw[hxl];exact hc) (by
         rw[hxd,e2];omega)
        rw[hxl] at this;refine this.mono ?_;rintro e w' ⟨rfl,hb⟩;refine⟨_,rfl,hb, ?_⟩;rw[hxd,e2];exact VA.str _ _ (by simp)
  ·cases hp
theorem ovl117:OvlOK Tryz.prog 117:=ovlOK_of Tryz.func117 (by kernel_rfl) (by kernel_rfl) (tS:=43) (tR:=4) (e:=95) (size:=2) (by kernel_rfl) (by kernel_rfl) (by kernel_rfl) Tryz.sizeOf95
theorem ovl119:OvlOK Tryz.prog 119:=ovlOK_of Tryz.func119 (by kernel_rfl) (by kernel_rfl) (tS:=22) (tR:=4) (e:=45) (size:=6) (by kernel_rfl) (by kernel_rfl) (by kernel_rfl) Tryz.sizeOf45
end Go.Eng
set_option linter.unusedVariables false
set_option maxRecDepth 100000
namespace Go.Eng
noncomputable section
open Go Go.Proofs
def qaaa:List (Nat×TI):=[(3,⟨false,1, .one (.int .i64 0), .int .i64⟩),(9,⟨false,1, .one (.str []), .str⟩),(43,⟨false,1, .one (.clip .entry []), .slice .entry 95⟩),(95,⟨true,2, .agg [.str [], .int .i64 0], .struct [(0,9),(1,3)]⟩),(129,⟨false,1, .one (.int .u64 0), .int .u64⟩)]
def qaab:List (Nat×List EK):= []
theorem qaac:Tryz.prog.follows .mixedOrders=true:=by kernel_rfl
theorem qaad:(qaaa.all fun x=>tiB Tryz.prog x.1 x.2)=true:=by kernel_rfl
theorem qaae:(qaab.all fun x=>eqB Tryz.prog x.1 x.2)=true:=by kernel_rfl
def qaaf:Code:=bd Tryz.f61
def qaag:Code:=bd Tryz.f91
def qaah:Code:=bd Tryz.f92
def qaai:Code:=bd Tryz.f93
def qaaj:Code:=bd Tryz.f114
def qaak:Code:=bd Tryz.f115
def qaal:HS:=⟨[(0, .one (.sl .entry)),(1, .one (.str)),(2, .one (.fnc 115)),(8, .one (.int .i64)),(9, .one (.int .i64)),(10, .one (.int .i64))], [],0⟩
def qaam {R:Type}:Nat→HS.V qaal→(Ex→St→Option R)→Option R:=fun q v K=>
 entry_at_8_L3 v.1.1 v.1.2.1 (fun y11=>K (.exit 0) {regs:=[(0, .v (.one (.sl .entry v.1.1))),(1, .v (.one (.str v.1.2.1))),(2, .v (.one (.fnc 115))),(8, .v (.one (.int .i64 v.1.2.2.2.1))),(9, .v (.one (.int .i64 y11)))],mem:= [],nx:=0}) q v.1.2.2.2.2.1 v.1.2.2.2.2.2.1
def qaan:List HV:=[.one (.sl .entry), .one (.str)]
def qaao:List HV:=[.one (.int .i64), .one (.bool)]
def qaap:HP.V qaan→(List Entry)×Str:=fun v=>(v.1,v.2.1)
def qaaq:HX.V qaao→Int×Bool:=fun v=>(v.1,v.2)
def qaar:(Int×Bool)→HX.V qaao:=fun y=>(y.1,y.2)
def qaas:(List Entry)×Str→Option (Int×Bool):=fun x=>entry_at x.1 x.2
def qaat:Spec:=mkSpec qaan qaao qaap qaar qaas
def qaau:Cfg:={T:=qaaa,spec:=[(116,strings_Compare_sp)],glob:=GlobL.G Tryz.prog,eqs:=qaab,N:=9,fuel:=64,fid:=115}
theorem qaav:CfgOK Tryz.prog qaau:=cfgC qaad qaae ⟨strings_Compare_ok,trivial⟩
def qaaw {R:Type}:Inl R:= .mk 115 qaau [] qaak Tryz.f115.results.toList []
def qaax:Cfg:={T:=qaaa,spec:=[(116,strings_Compare_sp)],glob:=GlobL.G Tryz.prog,eqs:=qaab,N:=9,fuel:=64,fid:=115}
theorem qaay:CfgOK Tryz.prog qaax:=cfgC qaad qaae ⟨strings_Compare_ok,trivial⟩
def qaaz {R:Type}:Inl R:= .mk 115 qaax [] qaak Tryz.f115.results.toList []
def qaa0 {R:Type}:List (Nat×Hd R):=[(3,hdOf qaal qaam)]
def qaa1 {R:Type}:List (Nat×Inl R):=[(30,qaaw),(46,qaaz)]
def qaa2:Cfg:={T:=qaaa,glob:=GlobL.G Tryz.prog,eqs:=qaab,N:=49,fuel:=64,loops:=[(3,⟨[0,1,2,8,9,10], [], [],0, [], [], [], []⟩)],blocks:=[(0,⟨[0,1,2,8,9], [], [],0, [], [], [], []⟩)],fid:=114}
theorem qaa3:CfgOK Tryz.prog qaa2:=cfgC qaad qaae trivial
theorem qaa4 {R:Type}:SubsOK Tryz.prog (R:=R) 1 qaa1:=subsOK_0 Tryz.f115 qaav (subsOK_0 Tryz.f115 qaay (subsOK_nil _ _))
theorem qaa5 {R:Type}:LoopOK (R:=R) (hnd 1 qaa1) qaa2 qaa0 (sub [1,1,1,0,0,0] qaaj) (HS.V qaal) (HS.st qaal) (HS.sh qaal) qaam (hdOf qaal qaam):=loopOK_of qaal qaam (fun _ _=>rfl) (by intro q v K;kernel_rfl)
theorem qaa6 {R:Type}:LoopsOK (R:=R) (hnd 1 qaa1) qaa2 qaa0 qaaj:=loopsOK_of (l:=[sub [1,1,1,0,0,0] qaaj]) (by kernel_rfl) (loopsL_cons (b:=sub [1,1,1,0,0,0] qaaj) (rid:=3) (by kernel_rfl) (by kernel_rfl) qaa5 (trivial))
def qaa7 {R:Type}:Inl R:= .mk 114 qaa2 qaa0 qaaj Tryz.f114.results.toList qaa1
def qaa8 {R:Type}:List (Nat×Hd R):= []
def qaa9 {R:Type}:List (Nat×Inl R):=[(8,qaa7)]
def qaba:Cfg:={T:=qaaa,glob:=GlobL.G Tryz.prog,eqs:=qaab,N:=11,fuel:=64,fid:=91}
theorem qabb:CfgOK Tryz.prog qaba:=cfgC qaad qaae trivial
theorem qabc {R:Type}:SubsOK Tryz.prog (R:=R) 2 qaa9:=subsOK_a Tryz.f114 qaa3 qaa6 (rngs0 (by kernel_rfl)) qaa4 (subsOK_nil _ _)
theorem qabd {R:Type}:LoopsOK (R:=R) (hnd 2 qaa9) qaba qaa8 qaag:=loopsOK_of (l:= []) (by kernel_rfl) (trivial)
theorem qabe:SpecOK Tryz.prog 91 qaat:=specOK_a Tryz.f91 qabb qaac (d:=2) qabc qabd (rngs0 (by kernel_rfl)) (toY:=qaaq)
def qabf:List HV:=[.one (.sl .entry), .one (.str)]
def qabg:List HV:=[.one (.int .i64), .one (.bool)]
def qabh:HP.V qabf→(List Entry)×Str:=fun v=>(v.1,v.2.1)
def qabi:HX.V qabg→Int×Bool:=fun v=>(v.1,v.2)
def qabj:(Int×Bool)→HX.V qabg:=fun y=>(y.1,y.2)
def qabk:(List Entry)×Str→Option (Int×Bool):=fun x=>entry_Find x.1 x.2
def qabl:Spec:=mkSpec qabf qabg qabh qabj qabk
def qabm:Cfg:={T:=qaaa,spec:=[(91,qaat)],glob:=GlobL.G Tryz.prog,eqs:=qaab,N:=21,fuel:=64,fid:=123}
theorem qabn:CfgOK Tryz.prog qabm:=cfgC qaad qaae ⟨qabe,trivial⟩
theorem qabo:SpecOK Tryz.prog 123 qabl:=specOK_0 Tryz.f123 qabn qaac (toY:=qabi)
def qabp:List HV:=[.one (.sl .entry), .one (.str), .one (.int .i64)]
def qabq:List HV:=[.one (.sl .entry)]
def qabr:HP.V qabp→(List Entry)×Str×Int:=fun v=>(v.1,v.2.1,v.2.2.1)
def qabs:HX.V qabq→(List Entry):=fun v=>(v)
def qabt:(List Entry)→HX.V qabq:=fun y=>(y)
def qabu:(List Entry)×Str×Int→Option ((List Entry)):=fun x=>entry_With x.1 x.2.1 x.2.2
def qabv:Spec:=mkSpec qabp qabq qabr qabt qabu
def qabw:Cfg:={T:=qaaa,spec:=[(91,qaat)],glob:=GlobL.G Tryz.prog,eqs:=qaab,N:=8,fuel:=64,ovl:=[117],fid:=92}
theorem qabx:CfgOK Tryz.prog qabw:=cfgC qaad qaae ⟨qabe,trivial⟩ (ov:=⟨ovl117,trivial⟩)
def qaby {R:Type}:Inl R:= .mk 92 qabw [] qaah Tryz.f92.results.toList []
def qabz:Cfg:={T:=qaaa,spec:=[(91,qaat)],glob:=GlobL.G Tryz.prog,eqs:=qaab,N:=95,fuel:=64,ovl:=[117],fid:=93}
theorem qab0:CfgOK Tryz.prog qabz:=cfgC qaad qaae ⟨qabe,trivial⟩ (ov:=⟨ovl117,trivial⟩)
def qab1 {R:Type}:Inl R:= .mk 93 qabz [] qaai Tryz.f93.results.toList []
def qab2 {R:Type}:List (Nat×Hd R):= []
def qab3 {R:Type}:List (Nat×Inl R):=[(17,qaby),(31,qab1)]
def qab4:Cfg:={T:=qaaa,spec:=[(91,qaat)],glob:=GlobL.G Tryz.prog,eqs:=qaab,N:=32,fuel:=64,ovl:=[117],fid:=61}
theorem qab5:CfgOK Tryz.prog qab4:=cfgC qaad qaae ⟨qabe,trivial⟩ (ov:=⟨ovl117,trivial⟩)
theorem qab6 {R:Type}:SubsOK Tryz.prog (R:=R) 1 qab3:=subsOK_0 Tryz.f92 qabx (subsOK_0 Tryz.f93 qab0 (subsOK_nil _ _))
theorem qab7 {R:Type}:LoopsOK (R:=R) (hnd 1 qab3) qab4 qab2 qaaf:=loopsOK_of (l:= []) (by kernel_rfl) (trivial)
theorem qab8:SpecOK Tryz.prog 61 qabv:=specOK_a Tryz.f61 qab5 qaac (d:=1) qab6 qab7 (rngs0 (by kernel_rfl)) (toY:=qabs)
end
end Go.Eng
set_option linter.unusedVariables false
set_option maxRecDepth 100000
namespace Go.Eng
noncomputable section
open Go Go.Proofs
def qab9:List (Nat×TI):=[(3,⟨false,1, .one (.int .i64 0), .int .i64⟩),(4,⟨false,1, .one (.bool false), .bool⟩),(5,⟨false,1, .one (.int .u8 0), .int .u8⟩),(9,⟨false,1, .one (.str []), .str⟩),(21,⟨false,1, .one (.int .i32 0), .int .i32⟩),(55,⟨false,1, .one (.nilf), .other⟩),(65,⟨false,1, .one (.clip .str []), .slice .str 9⟩),(67,⟨true,3, .agg [.bool false, .clip .str [], .bool false], .struct [(0,4),(1,65),(2,4)]⟩),(135,⟨true,256, .agg [.bool false, .bool false, .bool false, .bool false, .bool false, .bool false, .bool false, .bool false, .bool false, .bool false, .bool false, .bool false, .bool false, .bool false, .bool false, .bool false, .bool false, .bool false, .bool false, .bool false, .bool false, .bool false, .bool false, .bool false, .bool false, .bool false, .bool false, .bool false, .bool false, .bool false, .bool false, .bool false, .bool false, .bool false, .bool false, .bool false, .bool false, .bool false, .bool false, .bool false, .bool false, .bool false, .bool false, .bool false, .bool false, .bool false, .bool false, .bool false, .bool false, .bool false, .bool false, .bool false, .bool false, .bool false, .bool false, .bool false, .bool false, .bool false, .bool false, .bool false, .bool false, .bool false, .bool false, .bool false, .bool false, .bool false, .bool false, .bool false, .bool false, .bool false, .bool false, .bool false, .bool false, .bool false, .bool false, .bool false, .bool false, .bool false, .bool false, .bool false, .bool false, .bool false, .bool false, .bool false, .bool false, .bool false, .bool false, .bool false, .bool false, .bool false, .bool false, .bool false, .bool false, .bool false, .bool false, .bool false, .bool false, .bool false, .bool false, .bool false, .bool false, .bool false, .bool false, .bool false, .bool false, .bool false, .bool false, .bool false, .bool false, .bool false, .bool false, .bool false, .bool false, .bool false, .bool false, .bool false, .bool false, .bool false, .bool false, .bool false, .bool false, .bool false, .bool false, .bool false, .bool false, .bool false, .bool false, .bool false, .bool false, .bool false, .bool false, .bool false, .bool false, .bool false, .bool false, .bool false, .bool false, .bool false, .bool false, .bool false, .bool false, .bool false, .bool false, .bool false, .bool false, .bool false, .bool false, .bool false, .bool false, .bool false, .bool false, .bool false, .bool false, .bool false, .bool false, .bool false, .bool false, .bool false, .bool false, .bool false, .bool false, .bool false, .bool false, .bool false, .bool false, .bool false, .bool false, .bool false, .bool false, .bool false, .bool false, .bool false, .bool false, .bool false, .bool false, .bool false, .bool false, .bool false, .bool false, .bool false, .bool false, .bool false, .bool false, .bool false, .bool false, .bool false, .bool false, .bool false, .bool false, .bool false, .bool false, .bool false, .bool false, .bool false, .bool false, .bool false, .bool false, .bool false, .bool false, .bool false, .bool false, .bool false, .bool false, .bool false, .bool false, .bool false, .bool false, .bool false, .bool false, .bool false, .bool false, .bool false, .bool false, .bool false, .bool false, .bool false, .bool false, .bool false, .bool false, .bool false, .bool false, .bool false, .bool false, .bool false, .bool false, .bool false, .bool false, .bool false, .bool false, .bool false, .bool false, .bool false, .bool false, .bool false, .bool false, .bool false, .bool false, .bool false, .bool false, .bool false, .bool false, .bool false, .bool false, .bool false, .bool false, .bool false, .bool false, .bool false, .bool false, .bool false, .bool false, .bool false, .bool false, .bool false, .bool false, .bool false], .array 256 4⟩)]
def qaca:List (Nat×List EK):= []
theorem qacb:Tryz.prog.follows .mixedOrders=true:=by kernel_rfl
theorem qacc:(qab9.all fun x=>tiB Tryz.prog x.1 x.2)=true:=by kernel_rfl
theorem qacd:(qaca.all fun x=>eqB Tryz.prog x.1 x.2)=true:=by kernel_rfl
def qace:Code:=bd Tryz.f75
def qacf:Code:=bd Tryz.f82
def qacg:Code:=bd Tryz.f86
def qach:Code:=bd Tryz.f102
def qaci:Code:=bd Tryz.f103
def qacj:Code:=bd Tryz.f104
def qack:Code:=bd Tryz.f105
def qacl:Code:=bd Tryz.f108
def qacm:Code:=bd Tryz.f110
def qacn:Code:=bd Tryz.f121
def qaco:Code:=bd Tryz.f126
def qacp:Code:=bd Tryz.f127
def qacq:Code:=bd Tryz.f128
def qacr:Code:=bd Tryz.f129
def qacs:Code:=bd Tryz.f130
def qact:Code:=bd Tryz.f136
def qacu:Code:=bd Tryz.f137
def qacv:Code:=bd Tryz.f138
def qacw:Code:=bd Tryz.f139
def qacx:Code:=bd Tryz.f146
def qacy:Code:=bd Tryz.f150
def qacz:Code:=bd Tryz.f151
def qac0:Code:=bd Tryz.f157
def qac1:Code:=bd Tryz.f159
def qac2:Code:=bd Tryz.f162
def qac3:Code:=bd Tryz.f163
def qac4:Code:=bd Tryz.f165
def qac5:HS:=⟨[(0, .one (.yld 10)),(1, .one (.ptr 7 0)),(2, .one (.ptr 6 0)),(3, .one (.ptr 8 0)),(2000002, .one (.ptr 3 0)),(4000000, .one (.str)),(4000002, .one (.ptr 0 0))],[(0, .cells [.bool, .sl .str, .bool]),(3, .cells [.own 11]),(4, .loop true 13 126 3 [(2, .one (.ptr 3 0))]),(5, .cells [.yld 4]),(6, .cells [.str]),(7, .cells [.strk ([47]:Str)]),(8, .cells [.intk .i64 (0:Int)]),(10, .loop true 15 127 3 [(2, .one (.ptr 5 0))]),(11, .row .str)],12⟩
def qac6 {R:Type}:Nat→HS.V qac5→(Ex→St→Option R)→Option R:=fun q v K=>
 path_Read_6_4_1000003_1000003_L5 (fun y8 y9=>K (.exit 2) {regs:=[(0, .v (.one (.yld 10))),(2, .v (.one (.ptr 6 0))),(2000002, .v (.one (.ptr 3 0))),(4000000, .v (.one (.str v.1.2.2.2.2.2.1))),(4000002, .v (.one (.ptr 0 0)))],mem:=[(0, .cells [.bool ((⟨v.2.1.1,v.2.1.2.1,v.2.1.2.2.1⟩:Pth).abs), .sl .str ((⟨v.2.1.1,v.2.1.2.1,v.2.1.2.2.1⟩:Pth).names), .bool ((⟨v.2.1.1,v.2.1.2.1,v.2.1.2.2.1⟩:Pth).slash)]),(3, .cells [.own 11]),(4, .loop true 13 126 3 [(2, .v (.one (.ptr 3 0)))]),(5, .cells [.yld 4]),(6, .cells [.str y8]),(10, .loop true 15 127 3 [(2, .v (.one (.ptr 5 0)))]),(11, .row .str y9)],nx:=12}) q v.2.2.2.2.2.1.1 v.2.2.2.2.2.2.2.2.2.1
def qac7:List HV:=[.one (.str)]
def qac8:List HV:=[.agg [.bool, .sl .str, .bool]]
def qac9:HP.V qac7→Str:=fun v=>(v.1)
def qada:HX.V qac8→Pth:=fun v=>((⟨v.1,v.2.1,v.2.2.1⟩:Pth))
def qadb:Pth→HX.V qac8:=fun y=>((y.abs,(y.names,(y.slash,()))))
def qadc:Str→Option (Pth):=fun x=>path_Read x
def qadd:Spec:=mkSpec qac7 qac8 qac9 qadb qadc
def qade:Cfg:={T:=qab9,glob:=GlobL.G Tryz.prog,eqs:=qaca,N:=4,fuel:=64,fid:=103}
theorem qadf:CfgOK Tryz.prog qade:=cfgC qacc qacd trivial
def qadg {R:Type}:Inl R:= .mk 103 qade [] qaci Tryz.f103.results.toList []
def qadh:Cfg:={T:=qab9,glob:=GlobL.G Tryz.prog,eqs:=qaca,N:=8,fuel:=64,fid:=146}
theorem qadi:CfgOK Tryz.prog qadh:=cfgC qacc qacd trivial
def qadj {R:Type}:Inl R:= .mk 146 qadh [] qacx Tryz.f146.results.toList []
def qadk {R:Type}:List (Nat×Hd R):= []
def qadl {R:Type}:List (Nat×Inl R):=[(7,qadj)]
def qadm:Cfg:={T:=qab9,glob:=GlobL.G Tryz.prog,eqs:=qaca,N:=8,fuel:=64,fid:=128}
theorem qadn:CfgOK Tryz.prog qadm:=cfgC qacc qacd trivial
theorem qado {R:Type}:SubsOK Tryz.prog (R:=R) 2 qadl:=subsOK_0 Tryz.f146 qadi (subsOK_nil _ _)
theorem qadp {R:Type}:LoopsOK (R:=R) (hnd 2 qadl) qadm qadk qacq:=loopsOK_of (l:= []) (by kernel_rfl) (trivial)
def qadq {R:Type}:Inl R:= .mk 128 qadm qadk qacq Tryz.f128.results.toList qadl
def qadr {R:Type}:List (Nat×Hd R):= []
def qads {R:Type}:List (Nat×Inl R):= []
def qadt:Cfg:={T:=qab9,spec:=[(131,stringslite_IndexByte_sp)],glob:=GlobL.G Tryz.prog,eqs:=qaca,N:=143,fuel:=64,retA:=some ⟨[4,2000000,2000001,2000002,2000003,4000002,6000000,6000002], [],[0,3,4,5,6,7,8,10,11],12, [], [], [], []⟩,fid:=108}
theorem qadu:CfgOK Tryz.prog qadt:=cfgC qacc qacd ⟨stringslite_IndexByte_ok,trivial⟩
theorem qadv {R:Type}:SubsOK Tryz.prog (R:=R) 0 qads:=subsOK_nil _ _
theorem qadw {R:Type}:LoopsOK (R:=R) (hnd 0 qads) qadt qadr qacl:=loopsOK_of (l:=[sub [1,1,1,1,1,1,1,1,0,0,0] qacl]) (by kernel_rfl) (loopsL_skip (b:=sub [1,1,1,1,1,1,1,1,0,0,0] qacl) (rid:=15) (by kernel_rfl) (by kernel_rfl) (trivial))
def qadx {R:Type}:Inl R:= .mk 108 qadt qadr qacl Tryz.f108.results.toList qads
def qady {R:Type}:List (Nat×Hd R):= []
def qadz {R:Type}:List (Nat×Inl R):=[(7,qadx)]
def qad0:Cfg:={T:=qab9,glob:=GlobL.G Tryz.prog,eqs:=qaca,N:=8,fuel:=64,fid:=82}
theorem qad1:CfgOK Tryz.prog qad0:=cfgC qacc qacd trivial
theorem qad2 {R:Type}:SubsOK Tryz.prog (R:=R) 1 qadz:=subsOK_a Tryz.f108 qadu qadw (rngs0 (by kernel_rfl)) qadv (subsOK_nil _ _)
theorem qad3 {R:Type}:LoopsOK (R:=R) (hnd 1 qadz) qad0 qady qacf:=loopsOK_of (l:= []) (by kernel_rfl) (trivial)
def qad4 {R:Type}:Inl R:= .mk 82 qad0 qady qacf Tryz.f82.results.toList qadz
def qad5:Code:=(rngGet 3 qaco).2.1
def qad6:Code:=(rngGet 3 qaco).2.2
def qad7 {R:Type}:List (Nat×Hd R):= []
def qad8 {R:Type}:List (Nat×Inl R):= []
def qad9:Cfg:={T:=qab9,glob:=GlobL.G Tryz.prog,eqs:=qaca,N:=13,fuel:=64,fid:=126,rnd:=true}
theorem qaea:CfgOK Tryz.prog qad9:=cfgC qacc qacd trivial
theorem qaeb {R:Type}:SubsOK Tryz.prog (R:=R) 0 qad8:=subsOK_nil _ _
theorem qaec {R:Type}:LoopsOK (R:=R) (hnd 0 qad8) qad9 qad7 qad5:=loopsOK_of (l:= []) (by kernel_rfl) (trivial)
theorem qaed {R:Type}:LoopsOK (R:=R) (hnd 0 qad8) qad9 qad7 qad6:=loopsOK_of (l:= []) (by kernel_rfl) (trivial)
def qaee {R:Type}:Inl R:= .rnd 126 3 qad9 qad7 [7] qad5 qad6 qad8
def qaef:Code:=(rngGet 3 qacp).2.1
def qaeg:Code:=(rngGet 3 qacp).2.2
def qaeh {R:Type}:List (Nat×Hd R):= []
def qaei {R:Type}:List (Nat×Inl R):=[(12,qaee)]
def qaej:Cfg:={T:=qab9,glob:=GlobL.G Tryz.prog,eqs:=qaca,N:=15,fuel:=64,fid:=127,rnd:=true}
theorem qaek:CfgOK Tryz.prog qaej:=cfgC qacc qacd trivial
theorem qael {R:Type}:SubsOK Tryz.prog (R:=R) 1 qaei:=subsOK_round (by kernel_rfl) qaea qaec qaed qaeb (subsOK_nil _ _)
theorem qaem {R:Type}:LoopsOK (R:=R) (hnd 1 qaei) qaej qaeh qaef:=loopsOK_of (l:= []) (by kernel_rfl) (trivial)
theorem qaen {R:Type}:LoopsOK (R:=R) (hnd 1 qaei) qaej qaeh qaeg:=loopsOK_of (l:= []) (by kernel_rfl) (trivial)
def qaeo {R:Type}:Inl R:= .rnd 127 3 qaej qaeh [6] qaef qaeg qaei
def qaep:Code:=(rngGet 3 qaco).2.1
def qaeq:Code:=(rngGet 3 qaco).2.2
def qaer {R:Type}:List (Nat×Hd R):= []
def qaes {R:Type}:List (Nat×Inl R):= []
def qaet:Cfg:={T:=qab9,glob:=GlobL.G Tryz.prog,eqs:=qaca,N:=13,fuel:=64,fid:=126,rnd:=true}
theorem qaeu:CfgOK Tryz.prog qaet:=cfgC qacc qacd trivial
theorem qaev {R:Type}:SubsOK Tryz.prog (R:=R) 0 qaes:=subsOK_nil _ _
theorem qaew {R:Type}:LoopsOK (R:=R) (hnd 0 qaes) qaet qaer qaep:=loopsOK_of (l:= []) (by kernel_rfl) (trivial)
theorem qaex {R:Type}:LoopsOK (R:=R) (hnd 0 qaes) qaet qaer qaeq:=loopsOK_of (l:= []) (by kernel_rfl) (trivial)
def qaey {R:Type}:Inl R:= .rnd 126 3 qaet qaer [7] qaep qaeq qaes
def qaez:Code:=(rngGet 3 qacp).2.1
def qae0:Code:=(rngGet 3 qacp).2.2
def qae1 {R:Type}:List (Nat×Hd R):= []
def qae2 {R:Type}:List (Nat×Inl R):=[(12,qaey)]
def qae3:Cfg:={T:=qab9,glob:=GlobL.G Tryz.prog,eqs:=qaca,N:=15,fuel:=64,fid:=127,rnd:=true}
theorem qae4:CfgOK Tryz.prog qae3:=cfgC qacc qacd trivial
theorem qae5 {R:Type}:SubsOK Tryz.prog (R:=R) 1 qae2:=subsOK_round (by kernel_rfl) qaeu qaew qaex qaev (subsOK_nil _ _)
theorem qae6 {R:Type}:LoopsOK (R:=R) (hnd 1 qae2) qae3 qae1 qaez:=loopsOK_of (l:= []) (by kernel_rfl) (trivial)
theorem qae7 {R:Type}:LoopsOK (R:=R) (hnd 1 qae2) qae3 qae1 qae0:=loopsOK_of (l:= []) (by kernel_rfl) (trivial)
def qae8 {R:Type}:Inl R:= .rnd 127 3 qae3 qae1 [6] qaez qae0 qae2
def qae9 {R:Type}:List (Nat×Hd R):=[(5,hdOf qac5 qac6)]
def qafa {R:Type}:List (Nat×Inl R):=[(31,qad4),(41,qaeo),(51,qae8)]
def qafb:Cfg:={T:=qab9,glob:=GlobL.G Tryz.prog,eqs:=qaca,N:=52,fuel:=64,loops:=[(5,⟨[0,1,2,3,2000002,4000000,4000002], [],[0,3,4,5,6,7,8,10,11],12, [],[0],[(3,0,11, .str)], []⟩)],blocks:=[(2,⟨[0,2,2000002,4000000,4000002], [],[0,3,4,5,6,10,11],12, [], [], [], []⟩)],fid:=157}
theorem qafc:CfgOK Tryz.prog qafb:=cfgC qacc qacd trivial
theorem qafd {R:Type}:SubsOK Tryz.prog (R:=R) 2 qafa:=subsOK_a Tryz.f82 qad1 qad3 (rngs0 (by kernel_rfl)) qad2 (subsOK_round (by kernel_rfl) qaek qaem qaen qael (subsOK_round (by kernel_rfl) qae4 qae6 qae7 qae5 (subsOK_nil _ _)))
theorem qafe {R:Type}:LoopOK (R:=R) (hnd 2 qafa) qafb qae9 (sub [1,0,0,0] qac0) (HS.V qac5) (HS.st qac5) (HS.sh qac5) qac6 (hdOf qac5 qac6):=loopOK_of qac5 qac6 (fun _ _=>rfl) (by intro q v K;kernel_rfl)
theorem qaff {R:Type}:LoopsOK (R:=R) (hnd 2 qafa) qafb qae9 qac0:=loopsOK_of (l:=[sub [0,1,0,0,0,0] qac0,sub [1,0,0,0] qac0]) (by kernel_rfl) (loopsL_skip (b:=sub [0,1,0,0,0,0] qac0) (rid:=1) (by kernel_rfl) (by kernel_rfl) (loopsL_cons (b:=sub [1,0,0,0] qac0) (rid:=5) (by kernel_rfl) (by kernel_rfl) qafe (trivial)))
def qafg {R:Type}:Inl R:= .mk 157 qafb qae9 qac0 Tryz.f157.results.toList qafa
def qafh {R:Type}:List (Nat×Hd R):= []
def qafi {R:Type}:List (Nat×Inl R):=[(5,qadq),(1000003,qafg)]
def qafj:Cfg:={T:=qab9,glob:=GlobL.G Tryz.prog,eqs:=qaca,N:=15,fuel:=64,fid:=127,saves:=[(3,[2])]}
theorem qafk:CfgOK Tryz.prog qafj:=cfgC qacc qacd trivial
theorem qafl {R:Type}:SubsOK Tryz.prog (R:=R) 3 qafi:=subsOK_a Tryz.f128 qadn qadp (rngs0 (by kernel_rfl)) qado (subsOK_a Tryz.f157 qafc qaff (rngs0 (by kernel_rfl)) qafd (subsOK_nil _ _))
theorem qafm {R:Type}:LoopsOK (R:=R) (hnd 3 qafi) qafj qafh qacp:=loopsOK_of (l:= []) (by kernel_rfl) (trivial)
theorem qafn:RngsOK Tryz.prog qafj qacp:=rngs1 (x:=rngGet 3 qacp) (by kernel_rfl) (by kernel_rfl)
def qafo {R:Type}:Inl R:= .mk 127 qafj qafh qacp Tryz.f127.results.toList qafi
def qafp {R:Type}:List (Nat×Hd R):= []
def qafq {R:Type}:List (Nat×Inl R):=[(1000003,qafo)]
def qafr:Cfg:={T:=qab9,glob:=GlobL.G Tryz.prog,eqs:=qaca,N:=13,fuel:=64,fid:=126,saves:=[(3,[2])]}
theorem qafs:CfgOK Tryz.prog qafr:=cfgC qacc qacd trivial
theorem qaft {R:Type}:SubsOK Tryz.prog (R:=R) 4 qafq:=subsOK_a Tryz.f127 qafk qafm qafn qafl (subsOK_nil _ _)
theorem qafu {R:Type}:LoopsOK (R:=R) (hnd 4 qafq) qafr qafp qaco:=loopsOK_of (l:= []) (by kernel_rfl) (trivial)
theorem qafv:RngsOK Tryz.prog qafr qaco:=rngs1 (x:=rngGet 3 qaco) (by kernel_rfl) (by kernel_rfl)
def qafw {R:Type}:Inl R:= .mk 126 qafr qafp qaco Tryz.f126.results.toList qafq
def qafx {R:Type}:List (Nat×Hd R):= []
def qafy {R:Type}:List (Nat×Inl R):=[(4,qafw)]
def qafz:Cfg:={T:=qab9,glob:=GlobL.G Tryz.prog,eqs:=qaca,N:=5,fuel:=64,fid:=102}
theorem qaf0:CfgOK Tryz.prog qafz:=cfgC qacc qacd trivial
theorem qaf1 {R:Type}:SubsOK Tryz.prog (R:=R) 5 qafy:=subsOK_a Tryz.f126 qafs qafu qafv qaft (subsOK_nil _ _)
theorem qaf2 {R:Type}:LoopsOK (R:=R) (hnd 5 qafy) qafz qafx qach:=loopsOK_of (l:= []) (by kernel_rfl) (trivial)
def qaf3 {R:Type}:Inl R:= .mk 102 qafz qafx qach Tryz.f102.results.toList qafy
def qaf4:Cfg:={T:=qab9,glob:=GlobL.G Tryz.prog,eqs:=qaca,N:=18,fuel:=64,fid:=129}
theorem qaf5:CfgOK Tryz.prog qaf4:=cfgC qacc qacd trivial
def qaf6 {R:Type}:Inl R:= .mk 129 qaf4 [] qacr Tryz.f129.results.toList []
def qaf7 {R:Type}:List (Nat×Hd R):= []
def qaf8 {R:Type}:List (Nat×Inl R):=[(7,qaf6)]
def qaf9:Cfg:={T:=qab9,glob:=GlobL.G Tryz.prog,eqs:=qaca,N:=8,fuel:=64,fid:=104}
theorem qaga:CfgOK Tryz.prog qaf9:=cfgC qacc qacd trivial
theorem qagb {R:Type}:SubsOK Tryz.prog (R:=R) 5 qaf8:=subsOK_0 Tryz.f129 qaf5 (subsOK_nil _ _)
theorem qagc {R:Type}:LoopsOK (R:=R) (hnd 5 qaf8) qaf9 qaf7 qacj:=loopsOK_of (l:= []) (by kernel_rfl) (trivial)
def qagd {R:Type}:Inl R:= .mk 104 qaf9 qaf7 qacj Tryz.f104.results.toList qaf8
def qage:Cfg:={T:=qab9,glob:=GlobL.G Tryz.prog,eqs:=qaca,N:=21,fuel:=64,fid:=130}
theorem qagf:CfgOK Tryz.prog qage:=cfgC qacc qacd trivial
def qagg {R:Type}:Inl R:= .mk 130 qage [] qacs Tryz.f130.results.toList []
def qagh {R:Type}:List (Nat×Hd R):= []
def qagi {R:Type}:List (Nat×Inl R):=[(7,qagg)]
def qagj:Cfg:={T:=qab9,glob:=GlobL.G Tryz.prog,eqs:=qaca,N:=8,fuel:=64,fid:=105}
theorem qagk:CfgOK Tryz.prog qagj:=cfgC qacc qacd trivial
theorem qagl {R:Type}:SubsOK Tryz.prog (R:=R) 5 qagi:=subsOK_0 Tryz.f130 qagf (subsOK_nil _ _)
theorem qagm {R:Type}:LoopsOK (R:=R) (hnd 5 qagi) qagj qagh qack:=loopsOK_of (l:= []) (by kernel_rfl) (trivial)
def qagn {R:Type}:Inl R:= .mk 105 qagj qagh qack Tryz.f105.results.toList qagi
def qago {R:Type}:List (Nat×Hd R):= []
def qagp {R:Type}:List (Nat×Inl R):=[(5,qadg),(6,qaf3),(8,qagd),(15,qagn)]
def qagq:Cfg:={T:=qab9,glob:=GlobL.G Tryz.prog,eqs:=qaca,N:=18,fuel:=64,fid:=75}
theorem qagr:CfgOK Tryz.prog qagq:=cfgC qacc qacd trivial
theorem qags {R:Type}:SubsOK Tryz.prog (R:=R) 6 qagp:=subsOK_0 Tryz.f103 qadf (subsOK_a Tryz.f102 qaf0 qaf2 (rngs0 (by kernel_rfl)) qaf1 (subsOK_a Tryz.f104 qaga qagc (rngs0 (by kernel_rfl)) qagb (subsOK_a Tryz.f105 qagk qagm (rngs0 (by kernel_rfl)) qagl (subsOK_nil _ _))))
theorem qagt {R:Type}:LoopsOK (R:=R) (hnd 6 qagp) qagq qago qace:=loopsOK_of (l:= []) (by kernel_rfl) (trivial)
theorem qagu:SpecOK Tryz.prog 75 qadd:=specOK_a Tryz.f75 qagr qacb (d:=6) qags qagt (rngs0 (by kernel_rfl)) (toY:=qada)
def qagv:HS:=⟨[(0, .one (.yld 9)),(1, .one (.ptr 6 0)),(2, .one (.ptr 5 0)),(3, .one (.ptr 7 0)),(2000000, .one (.str)),(2000002, .one (.ptr 0 0))],[(0, .cells [.boolk false]),(3, .loop true 13 121 3 [(2, .one (.ptr 0 0))]),(4, .cells [.yld 3]),(5, .cells [.str]),(6, .cells [.strk ([47]:Str)]),(7, .cells [.intk .i64 (0:Int)]),(9, .loop true 15 127 3 [(2, .one (.ptr 4 0))])],10⟩
def qagw {R:Type}:Nat→HS.V qagv→(Ex→St→Option R)→Option R:=fun q v K=>
 path_Long_1000003_1000003_L5 (K .ret {regs:=[(2000000, .v (.one (.str v.1.2.2.2.2.1))),(2000002, .v (.one (.ptr 0 0)))],mem:=[(0, .cells [.bool true]),(3, .over .ret),(9, .over .ret)],nx:=10}) (fun y8=>K (.exit 2) {regs:=[(0, .v (.one (.yld 9))),(2, .v (.one (.ptr 5 0))),(2000000, .v (.one (.str v.1.2.2.2.2.1))),(2000002, .v (.one (.ptr 0 0)))],mem:=[(0, .cells [.bool false]),(3, .loop true 13 121 3 [(2, .v (.one (.ptr 0 0)))]),(4, .cells [.yld 3]),(5, .cells [.str y8]),(9, .loop true 15 127 3 [(2, .v (.one (.ptr 4 0)))])],nx:=10}) q v.2.2.2.2.1.1
def qagx:List HV:=[.one (.str)]
def qagy:List HV:=[.one (.bool)]
def qagz:HP.V qagx→Str:=fun v=>(v.1)
def qag0:HX.V qagy→Bool:=fun v=>(v)
def qag1:Bool→HX.V qagy:=fun y=>(y)
def qag2:Str→Option (Bool):=fun x=>path_Long x
def qag3:Spec:=mkSpec qagx qagy qagz qag1 qag2
def qag4:Cfg:={T:=qab9,glob:=GlobL.G Tryz.prog,eqs:=qaca,N:=4,fuel:=64,fid:=103}
theorem qag5:CfgOK Tryz.prog qag4:=cfgC qacc qacd trivial
def qag6 {R:Type}:Inl R:= .mk 103 qag4 [] qaci Tryz.f103.results.toList []
def qag7:Cfg:={T:=qab9,glob:=GlobL.G Tryz.prog,eqs:=qaca,N:=8,fuel:=64,fid:=146}
theorem qag8:CfgOK Tryz.prog qag7:=cfgC qacc qacd trivial
def qag9 {R:Type}:Inl R:= .mk 146 qag7 [] qacx Tryz.f146.results.toList []
def qaha {R:Type}:List (Nat×Hd R):= []
def qahb {R:Type}:List (Nat×Inl R):=[(7,qag9)]
def qahc:Cfg:={T:=qab9,glob:=GlobL.G Tryz.prog,eqs:=qaca,N:=8,fuel:=64,fid:=128}
theorem qahd:CfgOK Tryz.prog qahc:=cfgC qacc qacd trivial
theorem qahe {R:Type}:SubsOK Tryz.prog (R:=R) 2 qahb:=subsOK_0 Tryz.f146 qag8 (subsOK_nil _ _)
theorem qahf {R:Type}:LoopsOK (R:=R) (hnd 2 qahb) qahc qaha qacq:=loopsOK_of (l:= []) (by kernel_rfl) (trivial)
def qahg {R:Type}:Inl R:= .mk 128 qahc qaha qacq Tryz.f128.results.toList qahb
def qahh {R:Type}:List (Nat×Hd R):= []
def qahi {R:Type}:List (Nat×Inl R):= []
def qahj:Cfg:={T:=qab9,spec:=[(131,stringslite_IndexByte_sp)],glob:=GlobL.G Tryz.prog,eqs:=qaca,N:=143,fuel:=64,retA:=some ⟨[4,2000000,2000001,2000002,2000003,4000000,4000002], [],[0,3,4,5,6,7,9],10, [], [], [], []⟩,fid:=108}
theorem qahk:CfgOK Tryz.prog qahj:=cfgC qacc qacd ⟨stringslite_IndexByte_ok,trivial⟩
theorem qahl {R:Type}:SubsOK Tryz.prog (R:=R) 0 qahi:=subsOK_nil _ _
theorem qahm {R:Type}:LoopsOK (R:=R) (hnd 0 qahi) qahj qahh qacl:=loopsOK_of (l:=[sub [1,1,1,1,1,1,1,1,0,0,0] qacl]) (by kernel_rfl) (loopsL_skip (b:=sub [1,1,1,1,1,1,1,1,0,0,0] qacl) (rid:=15) (by kernel_rfl) (by kernel_rfl) (trivial))
def qahn {R:Type}:Inl R:= .mk 108 qahj qahh qacl Tryz.f108.results.toList qahi
def qaho {R:Type}:List (Nat×Hd R):= []
def qahp {R:Type}:List (Nat×Inl R):=[(7,qahn)]
def qahq:Cfg:={T:=qab9,glob:=GlobL.G Tryz.prog,eqs:=qaca,N:=8,fuel:=64,fid:=82}
theorem qahr:CfgOK Tryz.prog qahq:=cfgC qacc qacd trivial
theorem qahs {R:Type}:SubsOK Tryz.prog (R:=R) 1 qahp:=subsOK_a Tryz.f108 qahk qahm (rngs0 (by kernel_rfl)) qahl (subsOK_nil _ _)
theorem qaht {R:Type}:LoopsOK (R:=R) (hnd 1 qahp) qahq qaho qacf:=loopsOK_of (l:= []) (by kernel_rfl) (trivial)
def qahu {R:Type}:Inl R:= .mk 82 qahq qaho qacf Tryz.f82.results.toList qahp
def qahv:Code:=(rngGet 3 qacn).2.1
def qahw:Code:=(rngGet 3 qacn).2.2
def qahx {R:Type}:List (Nat×Hd R):= []
def qahy {R:Type}:List (Nat×Inl R):= []
def qahz:Cfg:={T:=qab9,glob:=GlobL.G Tryz.prog,eqs:=qaca,N:=13,fuel:=64,fid:=121,rnd:=true}
theorem qah0:CfgOK Tryz.prog qahz:=cfgC qacc qacd trivial
theorem qah1 {R:Type}:SubsOK Tryz.prog (R:=R) 0 qahy:=subsOK_nil _ _
theorem qah2 {R:Type}:LoopsOK (R:=R) (hnd 0 qahy) qahz qahx qahv:=loopsOK_of (l:= []) (by kernel_rfl) (trivial)
theorem qah3 {R:Type}:LoopsOK (R:=R) (hnd 0 qahy) qahz qahx qahw:=loopsOK_of (l:= []) (by kernel_rfl) (trivial)
def qah4 {R:Type}:Inl R:= .rnd 121 3 qahz qahx [6] qahv qahw qahy
def qah5:Code:=(rngGet 3 qacp).2.1
def qah6:Code:=(rngGet 3 qacp).2.2
def qah7 {R:Type}:List (Nat×Hd R):= []
def qah8 {R:Type}:List (Nat×Inl R):=[(12,qah4)]
def qah9:Cfg:={T:=qab9,glob:=GlobL.G Tryz.prog,eqs:=qaca,N:=15,fuel:=64,fid:=127,rnd:=true}
theorem qaia:CfgOK Tryz.prog qah9:=cfgC qacc qacd trivial
theorem qaib {R:Type}:SubsOK Tryz.prog (R:=R) 1 qah8:=subsOK_round (by kernel_rfl) qah0 qah2 qah3 qah1 (subsOK_nil _ _)
theorem qaic {R:Type}:LoopsOK (R:=R) (hnd 1 qah8) qah9 qah7 qah5:=loopsOK_of (l:= []) (by kernel_rfl) (trivial)
theorem qaid {R:Type}:LoopsOK (R:=R) (hnd 1 qah8) qah9 qah7 qah6:=loopsOK_of (l:= []) (by kernel_rfl) (trivial)
def qaie {R:Type}:Inl R:= .rnd 127 3 qah9 qah7 [6] qah5 qah6 qah8
def qaif:Code:=(rngGet 3 qacn).2.1
def qaig:Code:=(rngGet 3 qacn).2.2
def qaih {R:Type}:List (Nat×Hd R):= []
def qaii {R:Type}:List (Nat×Inl R):= []
def qaij:Cfg:={T:=qab9,glob:=GlobL.G Tryz.prog,eqs:=qaca,N:=13,fuel:=64,fid:=121,rnd:=true}
theorem qaik:CfgOK Tryz.prog qaij:=cfgC qacc qacd trivial
theorem qail {R:Type}:SubsOK Tryz.prog (R:=R) 0 qaii:=subsOK_nil _ _
theorem qaim {R:Type}:LoopsOK (R:=R) (hnd 0 qaii) qaij qaih qaif:=loopsOK_of (l:= []) (by kernel_rfl) (trivial)
theorem qain {R:Type}:LoopsOK (R:=R) (hnd 0 qaii) qaij qaih qaig:=loopsOK_of (l:= []) (by kernel_rfl) (trivial)
def qaio {R:Type}:Inl R:= .rnd 121 3 qaij qaih [6] qaif qaig qaii
def qaip:Code:=(rngGet 3 qacp).2.1
def qaiq:Code:=(rngGet 3 qacp).2.2
def qair {R:Type}:List (Nat×Hd R):= []
def qais {R:Type}:List (Nat×Inl R):=[(12,qaio)]
def qait:Cfg:={T:=qab9,glob:=GlobL.G Tryz.prog,eqs:=qaca,N:=15,fuel:=64,fid:=127,rnd:=true}
theorem qaiu:CfgOK Tryz.prog qait:=cfgC qacc qacd trivial
theorem qaiv {R:Type}:SubsOK Tryz.prog (R:=R) 1 qais:=subsOK_round (by kernel_rfl) qaik qaim qain qail (subsOK_nil _ _)
theorem qaiw {R:Type}:LoopsOK (R:=R) (hnd 1 qais) qait qair qaip:=loopsOK_of (l:= []) (by kernel_rfl) (trivial)
theorem qaix {R:Type}:LoopsOK (R:=R) (hnd 1 qais) qait qair qaiq:=loopsOK_of (l:= []) (by kernel_rfl) (trivial)
def qaiy {R:Type}:Inl R:= .rnd 127 3 qait qair [6] qaip qaiq qais
def qaiz {R:Type}:List (Nat×Hd R):=[(5,hdOf qagv qagw)]
def qai0 {R:Type}:List (Nat×Inl R):=[(31,qahu),(41,qaie),(51,qaiy)]
def qai1:Cfg:={T:=qab9,glob:=GlobL.G Tryz.prog,eqs:=qaca,N:=52,fuel:=64,loops:=[(5,⟨[0,1,2,3,2000000,2000002], [],[0,3,4,5,6,7,9],10, [], [], [], []⟩)],blocks:=[(2,⟨[0,2,2000000,2000002], [],[0,3,4,5,9],10, [], [], [], []⟩)],retA:=some ⟨[2000000,2000002], [],[0,3,9],10, [], [], [], []⟩,fid:=157}
theorem qai2:CfgOK Tryz.prog qai1:=cfgC qacc qacd trivial
theorem qai3 {R:Type}:SubsOK Tryz.prog (R:=R) 2 qai0:=subsOK_a Tryz.f82 qahr qaht (rngs0 (by kernel_rfl)) qahs (subsOK_round (by kernel_rfl) qaia qaic qaid qaib (subsOK_round (by kernel_rfl) qaiu qaiw qaix qaiv (subsOK_nil _ _)))
theorem qai4 {R:Type}:LoopOK (R:=R) (hnd 2 qai0) qai1 qaiz (sub [1,0,0,0] qac0) (HS.V qagv) (HS.st qagv) (HS.sh qagv) qagw (hdOf qagv qagw):=loopOK_of qagv qagw (fun _ _=>rfl) (by intro q v K;kernel_rfl)
theorem qai5 {R:Type}:LoopsOK (R:=R) (hnd 2 qai0) qai1 qaiz qac0:=loopsOK_of (l:=[sub [0,1,0,0,0,0] qac0,sub [1,0,0,0] qac0]) (by kernel_rfl) (loopsL_skip (b:=sub [0,1,0,0,0,0] qac0) (rid:=1) (by kernel_rfl) (by kernel_rfl) (loopsL_cons (b:=sub [1,0,0,0] qac0) (rid:=5) (by kernel_rfl) (by kernel_rfl) qai4 (trivial)))
def qai6 {R:Type}:Inl R:= .mk 157 qai1 qaiz qac0 Tryz.f157.results.toList qai0
def qai7 {R:Type}:List (Nat×Hd R):= []
def qai8 {R:Type}:List (Nat×Inl R):=[(5,qahg),(1000003,qai6)]
def qai9:Cfg:={T:=qab9,glob:=GlobL.G Tryz.prog,eqs:=qaca,N:=15,fuel:=64,fid:=127,saves:=[(3,[2])]}
theorem qaja:CfgOK Tryz.prog qai9:=cfgC qacc qacd trivial
theorem qajb {R:Type}:SubsOK Tryz.prog (R:=R) 3 qai8:=subsOK_a Tryz.f128 qahd qahf (rngs0 (by kernel_rfl)) qahe (subsOK_a Tryz.f157 qai2 qai5 (rngs0 (by kernel_rfl)) qai3 (subsOK_nil _ _))
theorem qajc {R:Type}:LoopsOK (R:=R) (hnd 3 qai8) qai9 qai7 qacp:=loopsOK_of (l:= []) (by kernel_rfl) (trivial)
theorem qajd:RngsOK Tryz.prog qai9 qacp:=rngs1 (x:=rngGet 3 qacp) (by kernel_rfl) (by kernel_rfl)
def qaje {R:Type}:Inl R:= .mk 127 qai9 qai7 qacp Tryz.f127.results.toList qai8
def qajf {R:Type}:List (Nat×Hd R):= []
def qajg {R:Type}:List (Nat×Inl R):=[(5,qag6),(1000003,qaje)]
def qajh:Cfg:={T:=qab9,glob:=GlobL.G Tryz.prog,eqs:=qaca,N:=13,fuel:=64,fid:=121,saves:=[(3,[2])]}
theorem qaji:CfgOK Tryz.prog qajh:=cfgC qacc qacd trivial
theorem qajj {R:Type}:SubsOK Tryz.prog (R:=R) 4 qajg:=subsOK_0 Tryz.f103 qag5 (subsOK_a Tryz.f127 qaja qajc qajd qajb (subsOK_nil _ _))
theorem qajk {R:Type}:LoopsOK (R:=R) (hnd 4 qajg) qajh qajf qacn:=loopsOK_of (l:= []) (by kernel_rfl) (trivial)
theorem qajl:RngsOK Tryz.prog qajh qacn:=rngs1 (x:=rngGet 3 qacn) (by kernel_rfl) (by kernel_rfl)
theorem qajm:SpecOK Tryz.prog 121 qag3:=specOK_a Tryz.f121 qaji qacb (d:=4) qajj qajk qajl (toY:=qag0)
def qajn:List HV:=[.one (.sl .str)]
def qajo:List HV:=[.one (.str)]
def qajp:HP.V qajn→(List Str):=fun v=>(v.1)
def qajq:HX.V qajo→Str:=fun v=>(v)
def qajr:Str→HX.V qajo:=fun y=>(y)
def qajs:(List Str)→Option (Str):=fun x=>path_Join x
def qajt:Spec:=mkSpec qajn qajo qajp qajr qajs
def qaju:Cfg:={T:=qab9,spec:=[(164,strings_Join_sp)],glob:=GlobL.G Tryz.prog,eqs:=qaca,N:=9,fuel:=64,fid:=161}
theorem qajv:CfgOK Tryz.prog qaju:=cfgC qacc qacd ⟨strings_Join_ok,trivial⟩
theorem qajw:SpecOK Tryz.prog 161 qajt:=specOK_0 Tryz.f161 qajv qacb (toY:=qajq)
def qajx:HS:=⟨[(0, .one (.str)),(6, .one (.ptr 1 0)),(8, .one (.int .i64))],[(1, .cells [.boolk true, .boolk false, .boolk false, .boolk false, .boolk false, .boolk false, .boolk false, .boolk false, .boolk false, .boolk false, .boolk false, .boolk false, .boolk false, .boolk false, .boolk false, .boolk false, .boolk false, .boolk false, .boolk false, .boolk false, .boolk false, .boolk false, .boolk false, .boolk false, .boolk false, .boolk false, .boolk false, .boolk false, .boolk false, .boolk false, .boolk false, .boolk false, .boolk false, .boolk false, .boolk false, .boolk false, .boolk false, .boolk false, .boolk false, .boolk false, .boolk false, .boolk false, .boolk false, .boolk false, .boolk false, .boolk false, .boolk false, .boolk true, .boolk false, .boolk false, .boolk false, .boolk false, .boolk false, .boolk false, .boolk false, .boolk false, .boolk false, .boolk false, .boolk false, .boolk false, .boolk false, .boolk false, .boolk false, .boolk false, .boolk false, .boolk false, .boolk false, .boolk false, .boolk false, .boolk false, .boolk false, .boolk false, .boolk false, .boolk false, .boolk false, .boolk false, .boolk false, .boolk false, .boolk false, .boolk false, .boolk false, .boolk false, .boolk false, .boolk false, .boolk false, .boolk false, .boolk false, .boolk false, .boolk false, .boolk false, .boolk false, .boolk false, .boolk false, .boolk false, .boolk false, .boolk false, .boolk false, .boolk false, .boolk false, .boolk false, .boolk false, .boolk false, .boolk false, .boolk false, .boolk false, .boolk false, .boolk false, .boolk false, .boolk false, .boolk false, .boolk false, .boolk false, .boolk false, .boolk false, .boolk false, .boolk false, .boolk false, .boolk false, .boolk false, .boolk false, .boolk false, .boolk false, .boolk false, .boolk false, .boolk false, .boolk false, .boolk false, .boolk false, .boolk false, .boolk false, .boolk false, .boolk false, .boolk false, .boolk false, .boolk false, .boolk false, .boolk false, .boolk false, .boolk false, .boolk false, .boolk false, .boolk false, .boolk false, .boolk false, .boolk false, .boolk false, .boolk false, .boolk false, .boolk false, .boolk false, .boolk false, .boolk false, .boolk false, .boolk false, .boolk false, .boolk false, .boolk false, .boolk false, .boolk false, .boolk false, .boolk false, .boolk false, .boolk false, .boolk false, .boolk false, .boolk false, .boolk false, .boolk false, .boolk false, .boolk false, .boolk false, .boolk false, .boolk false, .boolk false, .boolk false, .boolk false, .boolk false, .boolk false, .boolk false, .boolk false, .boolk false, .boolk false, .boolk false, .boolk false, .boolk false, .boolk false, .boolk false, .boolk false, .boolk false, .boolk false, .boolk false, .boolk false, .boolk false, .boolk false, .boolk false, .boolk false, .boolk false, .boolk false, .boolk false, .boolk false, .boolk false, .boolk false, .boolk false, .boolk false, .boolk false, .boolk false, .boolk false, .boolk false, .boolk false, .boolk false, .boolk false, .boolk false, .boolk false, .boolk false, .boolk false, .boolk false, .boolk false, .boolk false, .boolk false, .boolk false, .boolk false, .boolk false, .boolk false, .boolk false, .boolk false, .boolk false, .boolk false, .boolk false, .boolk false, .boolk false, .boolk false, .boolk false, .boolk false, .boolk false, .boolk false, .boolk false, .boolk false, .boolk false, .boolk false, .boolk false, .boolk false, .boolk false, .boolk false, .boolk false, .boolk false, .boolk false, .boolk false, .boolk false, .boolk false, .boolk false, .boolk false, .boolk false, .boolk false, .boolk false, .boolk false, .boolk false])],2⟩
def qajy {R:Type}:Nat→HS.V qajx→(Ex→St→Option R)→Option R:=fun q v K=>
 strings_ContainsAny_7_L12 v.1.1 (fun y5=>K .ret {regs:=[(4, .v (.one (.int .i64 y5)))],mem:= [],nx:=0}) (K (.exit 0) {regs:= [],mem:= [],nx:=0}) q v.1.2.2.1
def qajz:HS:=⟨[(175, .one (.iter 1)),(1000001, .one (.strk ([47,0]:Str))),(1000009, .one (.int .i64)),(1000045, .one (.iter 0))],[(0, .iter),(1, .iter)],2⟩
def qaj0 {R:Type}:Nat→HS.V qajz→(Ex→St→Option R)→Option R:=fun q v K=>
 strings_ContainsAny_7_52_L38 v.2.2.1.1 (fun y15=>K .ret {regs:=[(4, .v (.one (.int .i64 y15))),(1000001, .v (.one (.str ([47,0]:Str)))),(1000009, .v (.one (.int .i64 v.1.2.2.1))),(1000045, .v (.one (.iter 0)))],mem:=[(0, .iter v.2.1.1 v.2.1.2)],nx:=1}) (K (.exit 9) {regs:=[(1000001, .v (.one (.str ([47,0]:Str)))),(1000009, .v (.one (.int .i64 v.1.2.2.1))),(1000045, .v (.one (.iter 0)))],mem:=[(0, .iter v.2.1.1 v.2.1.2)],nx:=1}) q v.2.2.1.2
def qaj1:HS:=⟨[(0, .one (.strk ([47,0]:Str))),(7, .one (.str)),(8, .one (.int .i64)),(9, .one (.int .i64)),(12, .one (.int .i64)),(1000001, .one (.strk ([47,0]:Str))),(1000009, .one (.int .i64)),(1000045, .one (.iter 0))],[(0, .iter)],1⟩
def qaj2 {R:Type}:Nat→HS.V qaj1→(Ex→St→Option R)→Option R:=fun q v K=>
 strings_ContainsAny_7_52_L12 v.1.2.1 v.1.2.2.1 v.1.2.2.2.1 (K (.exit 3) {regs:=[(8, .v (.one (.int .i64 v.1.2.2.1))),(9, .v (.one (.int .i64 v.1.2.2.2.1))),(1000001, .v (.one (.str ([47,0]:Str)))),(1000009, .v (.one (.int .i64 v.1.2.2.2.2.2.2.1))),(1000045, .v (.one (.iter 0)))],mem:=[(0, .iter v.2.1.1 v.2.1.2)],nx:=1}) q v.1.2.2.2.2.1
def qaj3:HS:=⟨[(0, .one (.strk ([47,0]:Str))),(7, .one (.str)),(8, .one (.int .i64)),(9, .one (.int .i64)),(1000001, .one (.strk ([47,0]:Str))),(1000009, .one (.int .i64)),(1000045, .one (.iter 0))],[(0, .iter)],1⟩
def qaj4 {R:Type}:Nat→HS.V qaj3→(Ex→St→Option R)→Option R:=fun q v K=>
 strings_ContainsAny_7_52_L5 v.1.2.1 v.1.2.2.1 v.1.2.2.2.1 (fun y50=>K .ret {regs:=[(4, .v (.one (.int .i64 y50))),(1000001, .v (.one (.str ([47,0]:Str)))),(1000009, .v (.one (.int .i64 v.1.2.2.2.2.2.1))),(1000045, .v (.one (.iter 0)))],mem:=[(0, .iter v.2.1.1 v.2.1.2)],nx:=1}) (K (.exit 1) {regs:=[(1000001, .v (.one (.str ([47,0]:Str)))),(1000009, .v (.one (.int .i64 v.1.2.2.2.2.2.1))),(1000045, .v (.one (.iter 0)))],mem:=[(0, .iter v.2.1.1 v.2.1.2)],nx:=1}) q
def qaj5:HS:=⟨[(1, .one (.strk ([47,0]:Str))),(45, .one (.iter 0))],[(0, .iter)],1⟩
def qaj6 {R:Type}:Nat→HS.V qaj5→(Ex→St→Option R)→Option R:=fun q v K=>
 strings_ContainsAny_7_L18 v.2.1.1 (fun y66=>K .ret {regs:=[(4, .v (.one (.int .i64 y66)))],mem:= [],nx:=0}) (K (.exit 2) {regs:= [],mem:= [],nx:=0}) q v.2.1.2
def qaj7:List HV:=[.one (.str), .one (.strk ([47,0]:Str))]
def qaj8:List HV:=[.one (.bool)]
def qaj9:HP.V qaj7→Str:=fun v=>(v.1)
def qaka:HX.V qaj8→Bool:=fun v=>(v)
def qakb:Bool→HX.V qaj8:=fun y=>(y)
def qakc:Str→Option (Bool):=fun x=>strings_ContainsAny x
def qakd:Spec:=mkSpec qaj7 qaj8 qaj9 qakb qakc
def qake:Cfg:={T:=qab9,glob:=GlobL.G Tryz.prog,eqs:=qaca,N:=5,fuel:=64,fid:=137}
theorem qakf:CfgOK Tryz.prog qake:=cfgC qacc qacd trivial
def qakg {R:Type}:Inl R:= .mk 137 qake [] qacu Tryz.f137.results.toList []
def qakh {R:Type}:List (Nat×Hd R):= []
def qaki {R:Type}:List (Nat×Inl R):= []
def qakj:Cfg:={T:=qab9,glob:=GlobL.G Tryz.prog,eqs:=qaca,N:=21,fuel:=64,loops:=[(2,⟨[0,2,4,1000000,1000001], [],[0],1, [], [], [], []⟩)],blocks:=[(0,⟨[2,1000000,1000001], [],[0],1, [], [], [], []⟩)],retA:=some ⟨[2,3,1000000,1000001], [],[0],1, [], [], [], []⟩,fid:=138}
theorem qakk:CfgOK Tryz.prog qakj:=cfgC qacc qacd trivial
theorem qakl {R:Type}:SubsOK Tryz.prog (R:=R) 1 qaki:=subsOK_nil _ _
theorem qakm {R:Type}:LoopsOK (R:=R) (hnd 1 qaki) qakj qakh qacv:=loopsOK_of (l:=[sub [1,0,1,0,0] qacv]) (by kernel_rfl) (loopsL_skip (b:=sub [1,0,1,0,0] qacv) (rid:=2) (by kernel_rfl) (by kernel_rfl) (trivial))
def qakn {R:Type}:Inl R:= .mk 138 qakj qakh qacv Tryz.f138.results.toList qaki
def qako:Cfg:={T:=qab9,glob:=GlobL.G Tryz.prog,eqs:=qaca,N:=10,fuel:=64,fid:=139}
theorem qakp:CfgOK Tryz.prog qako:=cfgC qacc qacd trivial
def qakq {R:Type}:Inl R:= .mk 139 qako [] qacw Tryz.f139.results.toList []
def qakr:Cfg:={T:=qab9,spec:=[(131,stringslite_IndexByte_sp)],glob:=GlobL.G Tryz.prog,eqs:=qaca,N:=8,fuel:=64,fid:=150}
theorem qaks:CfgOK Tryz.prog qakr:=cfgC qacc qacd ⟨stringslite_IndexByte_ok,trivial⟩
def qakt {R:Type}:Inl R:= .mk 150 qakr [] qacy Tryz.f150.results.toList []
def qaku:Cfg:={T:=qab9,glob:=GlobL.G Tryz.prog,eqs:=qaca,N:=17,fuel:=64,fid:=151}
theorem qakv:CfgOK Tryz.prog qaku:=cfgC qacc qacd trivial
def qakw {R:Type}:Inl R:= .mk 151 qaku [] qacz Tryz.f151.results.toList []
def qakx:Cfg:={T:=qab9,spec:=[(131,stringslite_IndexByte_sp)],glob:=GlobL.G Tryz.prog,eqs:=qaca,N:=8,fuel:=64,fid:=150}
theorem qaky:CfgOK Tryz.prog qakx:=cfgC qacc qacd ⟨stringslite_IndexByte_ok,trivial⟩
def qakz {R:Type}:Inl R:= .mk 150 qakx [] qacy Tryz.f150.results.toList []
def qak0 {R:Type}:List (Nat×Hd R):=[(38,hdOf qajz qaj0),(5,hdOf qaj3 qaj4),(12,hdOf qaj1 qaj2)]
def qak1 {R:Type}:List (Nat×Inl R):=[(170,qakt),(185,qakw),(41,qakz)]
def qak2:Cfg:={T:=qab9,glob:=GlobL.G Tryz.prog,eqs:=qaca,N:=187,fuel:=64,loops:=[(38,⟨[175,1000001,1000009,1000045], [],[0,1],2, [], [], [], []⟩),(12,⟨[0,7,8,9,12,1000001,1000009,1000045], [],[0],1, [], [], [], []⟩),(5,⟨[0,7,8,9,1000001,1000009,1000045], [],[0],1, [], [], [], []⟩)],blocks:=[(9,⟨[1000001,1000009,1000045], [],[0],1, [], [], [], []⟩),(1,⟨[1000001,1000009,1000045], [],[0],1, [], [], [], []⟩),(3,⟨[8,9,1000001,1000009,1000045], [],[0],1, [], [], [], []⟩)],retA:=some ⟨[4,1000001,1000009,1000045], [],[0],1, [], [], [], []⟩,fid:=136}
theorem qak3:CfgOK Tryz.prog qak2:=cfgC qacc qacd trivial
theorem qak4 {R:Type}:SubsOK Tryz.prog (R:=R) 1 qak1:=subsOK_0 Tryz.f150 qaks (subsOK_0 Tryz.f151 qakv (subsOK_0 Tryz.f150 qaky (subsOK_nil _ _)))
theorem qak5 {R:Type}:LoopOK (R:=R) (hnd 1 qak1) qak2 qak0 (sub [1,0,1,1,1,0,0,1,0,0] qact) (HS.V qajz) (HS.st qajz) (HS.sh qajz) qaj0 (hdOf qajz qaj0):=loopOK_of qajz qaj0 (fun _ _=>rfl) (by intro q v K;kernel_rfl)
theorem qak6 {R:Type}:LoopOK (R:=R) (hnd 1 qak1) qak2 qak0 (sub [1,0,1,1,1,1,1,1,0,1,1,1,1,0,0,0] qact) (HS.V qaj3) (HS.st qaj3) (HS.sh qaj3) qaj4 (hdOf qaj3 qaj4):=loopOK_of qaj3 qaj4 (fun _ _=>rfl) (by intro q v K;kernel_rfl)
theorem qak7 {R:Type}:LoopOK (R:=R) (hnd 1 qak1) qak2 qak0 (sub [1,0,1,1,1,1,1,1,0,1,1,1,1,0,0,0,1,0,0,1,0,1,0,0] qact) (HS.V qaj1) (HS.st qaj1) (HS.sh qaj1) qaj2 (hdOf qaj1 qaj2):=loopOK_of qaj1 qaj2 (fun _ _=>rfl) (by intro q v K;kernel_rfl)
theorem qak8 {R:Type}:LoopsOK (R:=R) (hnd 1 qak1) qak2 qak0 qact:=loopsOK_of (l:=[sub [1,0,1,1,1,0,0,1,0,0] qact,sub [1,0,1,1,1,1,1,1,0,1,1,1,1,0,0,0] qact,sub [1,0,1,1,1,1,1,1,0,1,1,1,1,0,0,0,1,0,0,1,0,1,0,0] qact,sub [1,0,1,1,1,1,1,1,0,1,1,1,1,1,1,1,0,1,0,1,1,1,0,0] qact,sub [1,0,1,1,1,1,1,1,0,1,1,1,1,1,1,1,0,1,0,1,1,1,0,0,1,0,0,1,0,0,1,0,0] qact]) (by kernel_rfl) (loopsL_cons (b:=sub [1,0,1,1,1,0,0,1,0,0] qact) (rid:=38) (by kernel_rfl) (by kernel_rfl) qak5 (loopsL_cons (b:=sub [1,0,1,1,1,1,1,1,0,1,1,1,1,0,0,0] qact) (rid:=5) (by kernel_rfl) (by kernel_rfl) qak6 (loopsL_cons (b:=sub [1,0,1,1,1,1,1,1,0,1,1,1,1,0,0,0,1,0,0,1,0,1,0,0] qact) (rid:=12) (by kernel_rfl) (by kernel_rfl) qak7 (loopsL_skip (b:=sub [1,0,1,1,1,1,1,1,0,1,1,1,1,1,1,1,0,1,0,1,1,1,0,0] qact) (rid:=25) (by kernel_rfl) (by kernel_rfl) (loopsL_skip (b:=sub [1,0,1,1,1,1,1,1,0,1,1,1,1,1,1,1,0,1,0,1,1,1,0,0,1,0,0,1,0,0,1,0,0] qact) (rid:=29) (by kernel_rfl) (by kernel_rfl) (trivial))))))
def qak9 {R:Type}:Inl R:= .mk 136 qak2 qak0 qact Tryz.f136.results.toList qak1
def qala {R:Type}:List (Nat×Hd R):=[(12,hdOf qajx qajy),(18,hdOf qaj5 qaj6)]
def qalb {R:Type}:List (Nat×Inl R):=[(26,qakg),(29,qakn),(42,qakq),(52,qak9)]
def qalc:Cfg:={T:=qab9,glob:=GlobL.G Tryz.prog,eqs:=qaca,N:=55,fuel:=64,loops:=[(18,⟨[1,45], [],[0],1, [], [], [], []⟩),(12,⟨[0,6,8], [],[1],2, [], [], [], []⟩)],blocks:=[(2,⟨[], [], [],0, [], [], [], []⟩),(0,⟨[], [], [],0, [], [], [], []⟩)],retA:=some ⟨[4], [], [],0, [], [], [], []⟩,fid:=110}
theorem qald:CfgOK Tryz.prog qalc:=cfgC qacc qacd trivial
theorem qale {R:Type}:SubsOK Tryz.prog (R:=R) 2 qalb:=subsOK_0 Tryz.f137 qakf (subsOK_a Tryz.f138 qakk qakm (rngs0 (by kernel_rfl)) qakl (subsOK_0 Tryz.f139 qakp (subsOK_a Tryz.f136 qak3 qak8 (rngs0 (by kernel_rfl)) qak4 (subsOK_nil _ _))))
theorem qalf {R:Type}:LoopOK (R:=R) (hnd 2 qalb) qalc qala (sub [1,1,1,0,1,0,1,1,0,0,1,0,0] qacm) (HS.V qajx) (HS.st qajx) (HS.sh qajx) qajy (hdOf qajx qajy):=loopOK_of qajx qajy (fun _ _=>rfl) (by intro q v K;kernel_rfl)
theorem qalg {R:Type}:LoopOK (R:=R) (hnd 2 qalb) qalc qala (sub [1,1,1,1,0,1,0,0] qacm) (HS.V qaj5) (HS.st qaj5) (HS.sh qaj5) qaj6 (hdOf qaj5 qaj6):=loopOK_of qaj5 qaj6 (fun _ _=>rfl) (by intro q v K;kernel_rfl)
theorem qalh {R:Type}:LoopsOK (R:=R) (hnd 2 qalb) qalc qala qacm:=loopsOK_of (l:=[sub [1,1,1,0,1,0,1,1,0,0,1,0,0] qacm,sub [1,1,1,1,0,1,0,0] qacm]) (by kernel_rfl) (loopsL_cons (b:=sub [1,1,1,0,1,0,1,1,0,0,1,0,0] qacm) (rid:=12) (by kernel_rfl) (by kernel_rfl) qalf (loopsL_cons (b:=sub [1,1,1,1,0,1,0,0] qacm) (rid:=18) (by kernel_rfl) (by kernel_rfl) qalg (trivial)))
def qali {R:Type}:Inl R:= .mk 110 qalc qala qacm Tryz.f110.results.toList qalb
def qalj {R:Type}:List (Nat×Hd R):= []
def qalk {R:Type}:List (Nat×Inl R):=[(7,qali)]
def qall:Cfg:={T:=qab9,glob:=GlobL.G Tryz.prog,eqs:=qaca,N:=9,fuel:=64,fid:=86}
theorem qalm:CfgOK Tryz.prog qall:=cfgC qacc qacd trivial
theorem qaln {R:Type}:SubsOK Tryz.prog (R:=R) 3 qalk:=subsOK_a Tryz.f110 qald qalh (rngs0 (by kernel_rfl)) qale (subsOK_nil _ _)
theorem qalo {R:Type}:LoopsOK (R:=R) (hnd 3 qalk) qall qalj qacg:=loopsOK_of (l:= []) (by kernel_rfl) (trivial)
theorem qalp:SpecOK Tryz.prog 86 qakd:=specOK_a Tryz.f86 qalm qacb (d:=3) qaln qalo (rngs0 (by kernel_rfl)) (toY:=qaka)
def qalq:List HV:=[.one (.str)]
def qalr:List HV:=[.one (.bool)]
def qals:HP.V qalq→Str:=fun v=>(v.1)
def qalt:HX.V qalr→Bool:=fun v=>(v)
def qalu:Bool→HX.V qalr:=fun y=>(y)
def qalv:Str→Option (Bool):=fun x=>path_May x
def qalw:Spec:=mkSpec qalq qalr qals qalu qalv
def qalx:Cfg:={T:=qab9,spec:=[(86,qakd)],glob:=GlobL.G Tryz.prog,eqs:=qaca,N:=23,fuel:=64,fid:=57}
theorem qaly:CfgOK Tryz.prog qalx:=cfgC qacc qacd ⟨qalp,trivial⟩
theorem qalz:SpecOK Tryz.prog 57 qalw:=specOK_0 Tryz.f57 qaly qacb (toY:=qalt)
def qal0:HS:=⟨[(0, .one (.yld 9)),(1, .one (.ptr 6 0)),(2, .one (.ptr 5 0)),(3, .one (.ptr 7 0)),(2000002, .one (.ptr 2 0)),(4000000, .one (.str))],[(2, .cells [.own 10]),(3, .loop true 13 126 3 [(2, .one (.ptr 2 0))]),(4, .cells [.yld 3]),(5, .cells [.str]),(6, .cells [.strk ([47]:Str)]),(7, .cells [.intk .i64 (0:Int)]),(9, .loop true 15 127 3 [(2, .one (.ptr 4 0))]),(10, .row .str)],11⟩
def qal1 {R:Type}:Nat→HS.V qal0→(Ex→St→Option R)→Option R:=fun q v K=>
 path_Plain_7_4_1000003_1000003_L5 (fun y6 y7=>K (.exit 2) {regs:=[(0, .v (.one (.yld 9))),(2, .v (.one (.ptr 5 0))),(2000002, .v (.one (.ptr 2 0))),(4000000, .v (.one (.str v.1.2.2.2.2.2.1)))],mem:=[(2, .cells [.own 10]),(3, .loop true 13 126 3 [(2, .v (.one (.ptr 2 0)))]),(4, .cells [.yld 3]),(5, .cells [.str y6]),(9, .loop true 15 127 3 [(2, .v (.one (.ptr 4 0)))]),(10, .row .str y7)],nx:=11}) q v.2.2.2.2.1.1 v.2.2.2.2.2.2.2.2.1
def qal2:HS:=⟨[(0, .one (.own 10)),(1, .one (.fnc 163)),(7, .one (.int .i64)),(8, .one (.int .i64)),(2000004, .one (.own 10)),(2000012, .one (.bool))],[(10, .row .str)],11⟩
def qal3 {R:Type}:Nat→HS.V qal2→(Ex→St→Option R)→Option R:=fun q v K=>
 path_Plain_14_7_L2 v.1.2.2.1 v.2.1 (fun y17=>K .ret {regs:=[(4, .v (.one (.int .i64 y17))),(2000004, .v (.one (.own 10))),(2000012, .v (.one (.bool v.1.2.2.2.2.2.1)))],mem:=[(10, .row .str v.2.1)],nx:=11}) (K (.exit 0) {regs:=[(2000004, .v (.one (.own 10))),(2000012, .v (.one (.bool v.1.2.2.2.2.2.1)))],mem:=[(10, .row .str v.2.1)],nx:=11}) q v.1.2.2.2.1
def qal4:List HV:=[.one (.str)]
def qal5:List HV:=[.one (.sl .str), .one (.bool)]
def qal6:HP.V qal4→Str:=fun v=>(v.1)
def qal7:HX.V qal5→(List Str)×Bool:=fun v=>(v.1,v.2)
def qal8:(List Str)×Bool→HX.V qal5:=fun y=>(y.1,y.2)
def qal9:Str→Option ((List Str)×Bool):=fun x=>path_Plain x
def qama:Spec:=mkSpec qal4 qal5 qal6 qal8 qal9
def qamb:Cfg:={T:=qab9,spec:=[(161,qajt)],glob:=GlobL.G Tryz.prog,eqs:=qaca,N:=4,fuel:=64,fid:=103}
theorem qamc:CfgOK Tryz.prog qamb:=cfgC qacc qacd ⟨qajw,trivial⟩
def qamd {R:Type}:Inl R:= .mk 103 qamb [] qaci Tryz.f103.results.toList []
def qame:Cfg:={T:=qab9,spec:=[(161,qajt)],glob:=GlobL.G Tryz.prog,eqs:=qaca,N:=8,fuel:=64,fid:=146}
theorem qamf:CfgOK Tryz.prog qame:=cfgC qacc qacd ⟨qajw,trivial⟩
def qamg {R:Type}:Inl R:= .mk 146 qame [] qacx Tryz.f146.results.toList []
def qamh {R:Type}:List (Nat×Hd R):= []
def qami {R:Type}:List (Nat×Inl R):=[(7,qamg)]
def qamj:Cfg:={T:=qab9,spec:=[(161,qajt)],glob:=GlobL.G Tryz.prog,eqs:=qaca,N:=8,fuel:=64,fid:=128}
theorem qamk:CfgOK Tryz.prog qamj:=cfgC qacc qacd ⟨qajw,trivial⟩
theorem qaml {R:Type}:SubsOK Tryz.prog (R:=R) 2 qami:=subsOK_0 Tryz.f146 qamf (subsOK_nil _ _)
theorem qamm {R:Type}:LoopsOK (R:=R) (hnd 2 qami) qamj qamh qacq:=loopsOK_of (l:= []) (by kernel_rfl) (trivial)
def qamn {R:Type}:Inl R:= .mk 128 qamj qamh qacq Tryz.f128.results.toList qami
def qamo {R:Type}:List (Nat×Hd R):= []
def qamp {R:Type}:List (Nat×Inl R):= []
def qamq:Cfg:={T:=qab9,spec:=[(131,stringslite_IndexByte_sp),(161,qajt)],glob:=GlobL.G Tryz.prog,eqs:=qaca,N:=143,fuel:=64,retA:=some ⟨[4,2000000,2000001,2000002,2000003,4000002,6000000], [],[2,3,4,5,6,7,9,10],11, [], [], [], []⟩,fid:=108}
theorem qamr:CfgOK Tryz.prog qamq:=cfgC qacc qacd ⟨stringslite_IndexByte_ok,⟨qajw,trivial⟩⟩
theorem qams {R:Type}:SubsOK Tryz.prog (R:=R) 0 qamp:=subsOK_nil _ _
theorem qamt {R:Type}:LoopsOK (R:=R) (hnd 0 qamp) qamq qamo qacl:=loopsOK_of (l:=[sub [1,1,1,1,1,1,1,1,0,0,0] qacl]) (by kernel_rfl) (loopsL_skip (b:=sub [1,1,1,1,1,1,1,1,0,0,0] qacl) (rid:=15) (by kernel_rfl) (by kernel_rfl) (trivial))
def qamu {R:Type}:Inl R:= .mk 108 qamq qamo qacl Tryz.f108.results.toList qamp
def qamv {R:Type}:List (Nat×Hd R):= []
def qamw {R:Type}:List (Nat×Inl R):=[(7,qamu)]
def qamx:Cfg:={T:=qab9,spec:=[(161,qajt)],glob:=GlobL.G Tryz.prog,eqs:=qaca,N:=8,fuel:=64,fid:=82}
theorem qamy:CfgOK Tryz.prog qamx:=cfgC qacc qacd ⟨qajw,trivial⟩
theorem qamz {R:Type}:SubsOK Tryz.prog (R:=R) 1 qamw:=subsOK_a Tryz.f108 qamr qamt (rngs0 (by kernel_rfl)) qams (subsOK_nil _ _)
theorem qam0 {R:Type}:LoopsOK (R:=R) (hnd 1 qamw) qamx qamv qacf:=loopsOK_of (l:= []) (by kernel_rfl) (trivial)
def qam1 {R:Type}:Inl R:= .mk 82 qamx qamv qacf Tryz.f82.results.toList qamw
def qam2:Code:=(rngGet 3 qaco).2.1
def qam3:Code:=(rngGet 3 qaco).2.2
def qam4 {R:Type}:List (Nat×Hd R):= []
def qam5 {R:Type}:List (Nat×Inl R):= []
def qam6:Cfg:={T:=qab9,spec:=[(161,qajt)],glob:=GlobL.G Tryz.prog,eqs:=qaca,N:=13,fuel:=64,fid:=126,rnd:=true}
theorem qam7:CfgOK Tryz.prog qam6:=cfgC qacc qacd ⟨qajw,trivial⟩
theorem qam8 {R:Type}:SubsOK Tryz.prog (R:=R) 0 qam5:=subsOK_nil _ _
theorem qam9 {R:Type}:LoopsOK (R:=R) (hnd 0 qam5) qam6 qam4 qam2:=loopsOK_of (l:= []) (by kernel_rfl) (trivial)
theorem qana {R:Type}:LoopsOK (R:=R) (hnd 0 qam5) qam6 qam4 qam3:=loopsOK_of (l:= []) (by kernel_rfl) (trivial)
def qanb {R:Type}:Inl R:= .rnd 126 3 qam6 qam4 [7] qam2 qam3 qam5
def qanc:Code:=(rngGet 3 qacp).2.1
def qand:Code:=(rngGet 3 qacp).2.2
def qane {R:Type}:List (Nat×Hd R):= []
def qanf {R:Type}:List (Nat×Inl R):=[(12,qanb)]
def qang:Cfg:={T:=qab9,spec:=[(161,qajt)],glob:=GlobL.G Tryz.prog,eqs:=qaca,N:=15,fuel:=64,fid:=127,rnd:=true}
theorem qanh:CfgOK Tryz.prog qang:=cfgC qacc qacd ⟨qajw,trivial⟩
theorem qani {R:Type}:SubsOK Tryz.prog (R:=R) 1 qanf:=subsOK_round (by kernel_rfl) qam7 qam9 qana qam8 (subsOK_nil _ _)
theorem qanj {R:Type}:LoopsOK (R:=R) (hnd 1 qanf) qang qane qanc:=loopsOK_of (l:= []) (by kernel_rfl) (trivial)
theorem qank {R:Type}:LoopsOK (R:=R) (hnd 1 qanf) qang qane qand:=loopsOK_of (l:= []) (by kernel_rfl) (trivial)
def qanl {R:Type}:Inl R:= .rnd 127 3 qang qane [6] qanc qand qanf
def qanm:Code:=(rngGet 3 qaco).2.1
def qann:Code:=(rngGet 3 qaco).2.2
def qano {R:Type}:List (Nat×Hd R):= []
def qanp {R:Type}:List (Nat×Inl R):= []
def qanq:Cfg:={T:=qab9,spec:=[(161,qajt)],glob:=GlobL.G Tryz.prog,eqs:=qaca,N:=13,fuel:=64,fid:=126,rnd:=true}
theorem qanr:CfgOK Tryz.prog qanq:=cfgC qacc qacd ⟨qajw,trivial⟩
theorem qans {R:Type}:SubsOK Tryz.prog (R:=R) 0 qanp:=subsOK_nil _ _
theorem qant {R:Type}:LoopsOK (R:=R) (hnd 0 qanp) qanq qano qanm:=loopsOK_of (l:= []) (by kernel_rfl) (trivial)
theorem qanu {R:Type}:LoopsOK (R:=R) (hnd 0 qanp) qanq qano qann:=loopsOK_of (l:= []) (by kernel_rfl) (trivial)
def qanv {R:Type}:Inl R:= .rnd 126 3 qanq qano [7] qanm qann qanp
def qanw:Code:=(rngGet 3 qacp).2.1
def qanx:Code:=(rngGet 3 qacp).2.2
def qany {R:Type}:List (Nat×Hd R):= []
def qanz {R:Type}:List (Nat×Inl R):=[(12,qanv)]
def qan0:Cfg:={T:=qab9,spec:=[(161,qajt)],glob:=GlobL.G Tryz.prog,eqs:=qaca,N:=15,fuel:=64,fid:=127,rnd:=true}
theorem qan1:CfgOK Tryz.prog qan0:=cfgC qacc qacd ⟨qajw,trivial⟩
theorem qan2 {R:Type}:SubsOK Tryz.prog (R:=R) 1 qanz:=subsOK_round (by kernel_rfl) qanr qant qanu qans (subsOK_nil _ _)
theorem qan3 {R:Type}:LoopsOK (R:=R) (hnd 1 qanz) qan0 qany qanw:=loopsOK_of (l:= []) (by kernel_rfl) (trivial)
theorem qan4 {R:Type}:LoopsOK (R:=R) (hnd 1 qanz) qan0 qany qanx:=loopsOK_of (l:= []) (by kernel_rfl) (trivial)
def qan5 {R:Type}:Inl R:= .rnd 127 3 qan0 qany [6] qanw qanx qanz
def qan6 {R:Type}:List (Nat×Hd R):=[(5,hdOf qal0 qal1)]
def qan7 {R:Type}:List (Nat×Inl R):=[(31,qam1),(41,qanl),(51,qan5)]
def qan8:Cfg:={T:=qab9,spec:=[(161,qajt)],glob:=GlobL.G Tryz.prog,eqs:=qaca,N:=52,fuel:=64,loops:=[(5,⟨[0,1,2,3,2000002,4000000], [],[2,3,4,5,6,7,9,10],11, [], [],[(2,0,10, .str)], []⟩)],blocks:=[(2,⟨[0,2,2000002,4000000], [],[2,3,4,5,9,10],11, [], [], [], []⟩)],fid:=157}
theorem qan9:CfgOK Tryz.prog qan8:=cfgC qacc qacd ⟨qajw,trivial⟩
theorem qaoa {R:Type}:SubsOK Tryz.prog (R:=R) 2 qan7:=subsOK_a Tryz.f82 qamy qam0 (rngs0 (by kernel_rfl)) qamz (subsOK_round (by kernel_rfl) qanh qanj qank qani (subsOK_round (by kernel_rfl) qan1 qan3 qan4 qan2 (subsOK_nil _ _)))
theorem qaob {R:Type}:LoopOK (R:=R) (hnd 2 qan7) qan8 qan6 (sub [1,0,0,0] qac0) (HS.V qal0) (HS.st qal0) (HS.sh qal0) qal1 (hdOf qal0 qal1):=loopOK_of qal0 qal1 (fun _ _=>rfl) (by intro q v K;kernel_rfl)
theorem qaoc {R:Type}:LoopsOK (R:=R) (hnd 2 qan7) qan8 qan6 qac0:=loopsOK_of (l:=[sub [0,1,0,0,0,0] qac0,sub [1,0,0,0] qac0]) (by kernel_rfl) (loopsL_skip (b:=sub [0,1,0,0,0,0] qac0) (rid:=1) (by kernel_rfl) (by kernel_rfl) (loopsL_cons (b:=sub [1,0,0,0] qac0) (rid:=5) (by kernel_rfl) (by kernel_rfl) qaob (trivial)))
def qaod {R:Type}:Inl R:= .mk 157 qan8 qan6 qac0 Tryz.f157.results.toList qan7
def qaoe {R:Type}:List (Nat×Hd R):= []
def qaof {R:Type}:List (Nat×Inl R):=[(5,qamn),(1000003,qaod)]
def qaog:Cfg:={T:=qab9,spec:=[(161,qajt)],glob:=GlobL.G Tryz.prog,eqs:=qaca,N:=15,fuel:=64,fid:=127,saves:=[(3,[2])]}
theorem qaoh:CfgOK Tryz.prog qaog:=cfgC qacc qacd ⟨qajw,trivial⟩
theorem qaoi {R:Type}:SubsOK Tryz.prog (R:=R) 3 qaof:=subsOK_a Tryz.f128 qamk qamm (rngs0 (by kernel_rfl)) qaml (subsOK_a Tryz.f157 qan9 qaoc (rngs0 (by kernel_rfl)) qaoa (subsOK_nil _ _))
theorem qaoj {R:Type}:LoopsOK (R:=R) (hnd 3 qaof) qaog qaoe qacp:=loopsOK_of (l:= []) (by kernel_rfl) (trivial)
theorem qaok:RngsOK Tryz.prog qaog qacp:=rngs1 (x:=rngGet 3 qacp) (by kernel_rfl) (by kernel_rfl)
def qaol {R:Type}:Inl R:= .mk 127 qaog qaoe qacp Tryz.f127.results.toList qaof
def qaom {R:Type}:List (Nat×Hd R):= []
def qaon {R:Type}:List (Nat×Inl R):=[(1000003,qaol)]
def qaoo:Cfg:={T:=qab9,spec:=[(161,qajt)],glob:=GlobL.G Tryz.prog,eqs:=qaca,N:=13,fuel:=64,fid:=126,saves:=[(3,[2])]}
theorem qaop:CfgOK Tryz.prog qaoo:=cfgC qacc qacd ⟨qajw,trivial⟩
theorem qaoq {R:Type}:SubsOK Tryz.prog (R:=R) 4 qaon:=subsOK_a Tryz.f127 qaoh qaoj qaok qaoi (subsOK_nil _ _)
theorem qaor {R:Type}:LoopsOK (R:=R) (hnd 4 qaon) qaoo qaom qaco:=loopsOK_of (l:= []) (by kernel_rfl) (trivial)
theorem qaos:RngsOK Tryz.prog qaoo qaco:=rngs1 (x:=rngGet 3 qaco) (by kernel_rfl) (by kernel_rfl)
def qaot {R:Type}:Inl R:= .mk 126 qaoo qaom qaco Tryz.f126.results.toList qaon
def qaou {R:Type}:List (Nat×Hd R):= []
def qaov {R:Type}:List (Nat×Inl R):=[(4,qaot)]
def qaow:Cfg:={T:=qab9,spec:=[(161,qajt)],glob:=GlobL.G Tryz.prog,eqs:=qaca,N:=5,fuel:=64,fid:=102}
theorem qaox:CfgOK Tryz.prog qaow:=cfgC qacc qacd ⟨qajw,trivial⟩
theorem qaoy {R:Type}:SubsOK Tryz.prog (R:=R) 5 qaov:=subsOK_a Tryz.f126 qaop qaor qaos qaoq (subsOK_nil _ _)
theorem qaoz {R:Type}:LoopsOK (R:=R) (hnd 5 qaov) qaow qaou qach:=loopsOK_of (l:= []) (by kernel_rfl) (trivial)
def qao0 {R:Type}:Inl R:= .mk 102 qaow qaou qach Tryz.f102.results.toList qaov
def qao1:Cfg:={T:=qab9,spec:=[(57,qalw),(161,qajt)],glob:=GlobL.G Tryz.prog,eqs:=qaca,N:=6,fuel:=64,fid:=163}
theorem qao2:CfgOK Tryz.prog qao1:=cfgC qacc qacd ⟨qalz,⟨qajw,trivial⟩⟩
def qao3 {R:Type}:Inl R:= .mk 163 qao1 [] qac3 Tryz.f163.results.toList []
def qao4 {R:Type}:List (Nat×Hd R):=[(2,hdOf qal2 qal3)]
def qao5 {R:Type}:List (Nat×Inl R):=[(16,qao3)]
def qao6:Cfg:={T:=qab9,spec:=[(161,qajt)],glob:=GlobL.G Tryz.prog,eqs:=qaca,N:=19,fuel:=64,loops:=[(2,⟨[0,1,7,8,2000004,2000012], [],[10],11, [], [], [], []⟩)],blocks:=[(0,⟨[2000004,2000012], [],[10],11, [], [], [], []⟩)],retA:=some ⟨[4,2000004,2000012], [],[10],11, [], [], [], []⟩,fid:=165}
theorem qao7:CfgOK Tryz.prog qao6:=cfgC qacc qacd ⟨qajw,trivial⟩
theorem qao8 {R:Type}:SubsOK Tryz.prog (R:=R) 4 qao5:=subsOK_0 Tryz.f163 qao2 (subsOK_nil _ _)
theorem qao9 {R:Type}:LoopOK (R:=R) (hnd 4 qao5) qao6 qao4 (sub [1,0,1,0,0] qac4) (HS.V qal2) (HS.st qal2) (HS.sh qal2) qal3 (hdOf qal2 qal3):=loopOK_of qal2 qal3 (fun _ _=>rfl) (by intro q v K;kernel_rfl)
theorem qapa {R:Type}:LoopsOK (R:=R) (hnd 4 qao5) qao6 qao4 qac4:=loopsOK_of (l:=[sub [1,0,1,0,0] qac4]) (by kernel_rfl) (loopsL_cons (b:=sub [1,0,1,0,0] qac4) (rid:=2) (by kernel_rfl) (by kernel_rfl) qao9 (trivial))
def qapb {R:Type}:Inl R:= .mk 165 qao6 qao4 qac4 Tryz.f165.results.toList qao5
def qapc {R:Type}:List (Nat×Hd R):= []
def qapd {R:Type}:List (Nat×Inl R):=[(7,qapb)]
def qape:Cfg:={T:=qab9,spec:=[(161,qajt)],glob:=GlobL.G Tryz.prog,eqs:=qaca,N:=9,fuel:=64,fid:=162}
theorem qapf:CfgOK Tryz.prog qape:=cfgC qacc qacd ⟨qajw,trivial⟩
theorem qapg {R:Type}:SubsOK Tryz.prog (R:=R) 5 qapd:=subsOK_a Tryz.f165 qao7 qapa (rngs0 (by kernel_rfl)) qao8 (subsOK_nil _ _)
theorem qaph {R:Type}:LoopsOK (R:=R) (hnd 5 qapd) qape qapc qac2:=loopsOK_of (l:= []) (by kernel_rfl) (trivial)
def qapi {R:Type}:Inl R:= .mk 162 qape qapc qac2 Tryz.f162.results.toList qapd
def qapj {R:Type}:List (Nat×Hd R):= []
def qapk {R:Type}:List (Nat×Inl R):=[(6,qamd),(7,qao0),(14,qapi)]
def qapl:Cfg:={T:=qab9,spec:=[(161,qajt)],glob:=GlobL.G Tryz.prog,eqs:=qaca,N:=17,fuel:=64,fid:=159}
theorem qapm:CfgOK Tryz.prog qapl:=cfgC qacc qacd ⟨qajw,trivial⟩
theorem qapn {R:Type}:SubsOK Tryz.prog (R:=R) 6 qapk:=subsOK_0 Tryz.f103 qamc (subsOK_a Tryz.f102 qaox qaoz (rngs0 (by kernel_rfl)) qaoy (subsOK_a Tryz.f162 qapf qaph (rngs0 (by kernel_rfl)) qapg (subsOK_nil _ _)))
theorem qapo {R:Type}:LoopsOK (R:=R) (hnd 6 qapk) qapl qapj qac1:=loopsOK_of (l:= []) (by kernel_rfl) (trivial)
theorem qapp:SpecOK Tryz.prog 159 qama:=specOK_a Tryz.f159 qapm qacb (d:=6) qapn qapo (rngs0 (by kernel_rfl)) (toY:=qal7)
end
end Go.Eng
set_option linter.unusedVariables false
set_option maxRecDepth 100000
namespace Go.Eng
noncomputable section
open Go Go.Proofs
def qapq:List (Nat×TI):=[(3,⟨false,1, .one (.int .i64 0), .int .i64⟩),(9,⟨false,1, .one (.str []), .str⟩),(22,⟨false,1, .one (.clip .inode []), .slice .inode 45⟩),(24,⟨true,4, .agg [.int .i64 0, .int .i64 0, .int .i64 0, .clip .inode []], .struct [(0,3),(1,3),(2,3),(3,22)]⟩),(45,⟨true,6, .agg [.int .i64 0, .int .i64 0, .int .i64 0, .str [], .int .i64 0, .clip .entry []], .struct [(0,3),(1,3),(2,3),(3,9),(4,3),(5,43)]⟩)]
def qapr:List (Nat×List EK):= []
theorem qaps:Tryz.prog.follows .mixedOrders=true:=by kernel_rfl
theorem qapt:(qapq.all fun x=>tiB Tryz.prog x.1 x.2)=true:=by kernel_rfl
theorem qapu:(qapr.all fun x=>eqB Tryz.prog x.1 x.2)=true:=by kernel_rfl
def qapv:Code:=bd Tryz.f88
def qapw:List HV:=[.agg hFs]
def qapx:List HV:=[.one (.int .i64)]
def qapy:HP.V qapw→Fs:=fun v=>((cFs v.1))
def qapz:HX.V qapx→Int:=fun v=>(v)
def qap0:Int→HX.V qapx:=fun y=>(y)
def qap1:Fs→Option (Int):=fun x=>room_Inodes x
def qap2:Spec:=mkSpec qapw qapx qapy qap0 qap1
def qap3:Cfg:={T:=qapq,glob:=GlobL.G Tryz.prog,eqs:=qapr,N:=6,fuel:=64,fid:=87}
theorem qap4:CfgOK Tryz.prog qap3:=cfgC qapt qapu trivial
theorem qap5:SpecOK Tryz.prog 87 qap2:=specOK_0 Tryz.f87 qap4 qaps (toY:=qapz)
def qap6:HS:=⟨[(1, .one (.ptr 0 0)),(3, .one (.int .i64)),(7, .one (.int .i64)),(8, .one (.int .i64))],[(0, .cells hFs)],1⟩
def qap7 {R:Type}:Nat→HS.V qap6→(Ex→St→Option R)→Option R:=fun q v K=>
 room_Bytes_L3 v.1.2.2.1 (cFs v.2.1) (fun y7=>K (.exit 0) {regs:=[(3, .v (.one (.int .i64 y7)))],mem:= [],nx:=0}) q v.1.2.1 v.1.2.2.2.1
def qap8:List HV:=[.agg hFs]
def qap9:List HV:=[.one (.int .i64)]
def qaqa:HP.V qap8→Fs:=fun v=>((cFs v.1))
def qaqb:HX.V qap9→Int:=fun v=>(v)
def qaqc:Int→HX.V qap9:=fun y=>(y)
def qaqd:Fs→Option (Int):=fun x=>room_Bytes x
def qaqe:Spec:=mkSpec qap8 qap9 qaqa qaqc qaqd
def qaqf {R:Type}:List (Nat×Hd R):=[(3,hdOf qap6 qap7)]
def qaqg {R:Type}:List (Nat×Inl R):= []
def qaqh:Cfg:={T:=qapq,glob:=GlobL.G Tryz.prog,eqs:=qapr,N:=29,fuel:=64,loops:=[(3,⟨[1,3,7,8], [],[0],1, [], [], [], []⟩)],blocks:=[(0,⟨[3], [], [],0, [], [], [], []⟩)],fid:=88}
theorem qaqi:CfgOK Tryz.prog qaqh:=cfgC qapt qapu trivial
theorem qaqj {R:Type}:SubsOK Tryz.prog (R:=R) 0 qaqg:=subsOK_nil _ _
theorem qaqk {R:Type}:LoopOK (R:=R) (hnd 0 qaqg) qaqh qaqf (sub [1,1,0,1,0,0] qapv) (HS.V qap6) (HS.st qap6) (HS.sh qap6) qap7 (hdOf qap6 qap7):=loopOK_of qap6 qap7 (fun _ _=>rfl) (by intro q v K;kernel_rfl)
theorem qaql {R:Type}:LoopsOK (R:=R) (hnd 0 qaqg) qaqh qaqf qapv:=loopsOK_of (l:=[sub [1,1,0,1,0,0] qapv]) (by kernel_rfl) (loopsL_cons (b:=sub [1,1,0,1,0,0] qapv) (rid:=3) (by kernel_rfl) (by kernel_rfl) qaqk (trivial))
theorem qaqm:SpecOK Tryz.prog 88 qaqe:=specOK_a Tryz.f88 qaqi qaps (d:=0) qaqj qaql (rngs0 (by kernel_rfl)) (toY:=qaqb)
def qaqn:List HV:=[.agg hFs, .one (.int .i64), .one (.int .i64)]
def qaqo:List HV:=[.one (.bool)]
def qaqp:HP.V qaqn→Fs×Int×Int:=fun v=>((cFs v.1),v.2.1,v.2.2.1)
def qaqq:HX.V qaqo→Bool:=fun v=>(v)
def qaqr:Bool→HX.V qaqo:=fun y=>(y)
def qaqs:(Fs×Int×Int)→Option (Bool):=fun x=>room_Fits x.1 x.2.1 x.2.2
def qaqt:Spec:=mkSpec qaqn qaqo qaqp qaqr qaqs
def qaqu:Cfg:={T:=qapq,spec:=[(87,qap2),(88,qaqe)],glob:=GlobL.G Tryz.prog,eqs:=qapr,N:=23,fuel:=64,fid:=58}
theorem qaqv:CfgOK Tryz.prog qaqu:=cfgC qapt qapu ⟨qap5,⟨qaqm,trivial⟩⟩
theorem qaqw:SpecOK Tryz.prog 58 qaqt:=specOK_0 Tryz.f58 qaqv qaps (toY:=qaqq)
end
end Go.Eng
set_option linter.unusedVariables false
set_option maxRecDepth 100000
namespace Go.Eng
noncomputable section
open Go Go.Proofs
def qaqx:List (Nat×TI):=[(3,⟨false,1, .one (.int .i64 0), .int .i64⟩),(22,⟨false,1, .one (.clip .inode []), .slice .inode 45⟩),(24,⟨true,4, .agg [.int .i64 0, .int .i64 0, .int .i64 0, .clip .inode []], .struct [(0,3),(1,3),(2,3),(3,22)]⟩),(45,⟨true,6, .agg [.int .i64 0, .int .i64 0, .int .i64 0, .str [], .int .i64 0, .clip .entry []], .struct [(0,3),(1,3),(2,3),(3,9),(4,3),(5,43)]⟩),(129,⟨false,1, .one (.int .u64 0), .int .u64⟩)]
def qaqy:List (Nat×List EK):= []
theorem qaqz:Tryz.prog.follows .mixedOrders=true:=by kernel_rfl
theorem qaq0:(qaqx.all fun x=>tiB Tryz.prog x.1 x.2)=true:=by kernel_rfl
theorem qaq1:(qaqy.all fun x=>eqB Tryz.prog x.1 x.2)=true:=by kernel_rfl
def qaq2:Code:=bd Tryz.f60
def qaq3:Code:=bd Tryz.f62
def qaq4:Code:=bd Tryz.f89
def qaq5:Code:=bd Tryz.f90
def qaq6:Code:=bd Tryz.f94
def qaq7:Code:=bd Tryz.f111
def qaq8:Code:=bd Tryz.f112
def qaq9:Code:=bd Tryz.f113
def qara:Code:=bd Tryz.f140
def qarb:HS:=⟨[(0, .one (.sl .inode)),(1, .one (.int .i64)),(2, .one (.fnc 112)),(8, .one (.int .i64)),(9, .one (.int .i64)),(10, .one (.int .i64))], [],0⟩
def qarc {R:Type}:Nat→HS.V qarb→(Ex→St→Option R)→Option R:=fun q v K=>
 table_at_9_L3 v.1.1 v.1.2.1 (fun y10=>K (.exit 0) {regs:=[(0, .v (.one (.sl .inode v.1.1))),(1, .v (.one (.int .i64 v.1.2.1))),(2, .v (.one (.fnc 112))),(8, .v (.one (.int .i64 v.1.2.2.2.1))),(9, .v (.one (.int .i64 y10)))],mem:= [],nx:=0}) q v.1.2.2.2.2.1 v.1.2.2.2.2.2.1
def qard:List HV:=[.agg hFs, .one (.int .i64)]
def qare:List HV:=[.one (.int .i64), .one (.bool)]
def qarf:HP.V qard→Fs×Int:=fun v=>((cFs v.1),v.2.1)
def qarg:HX.V qare→Int×Bool:=fun v=>(v.1,v.2)
def qarh:(Int×Bool)→HX.V qare:=fun y=>(y.1,y.2)
def qari:(Fs×Int)→Option (Int×Bool):=fun x=>table_at x.1 x.2
def qarj:Spec:=mkSpec qard qare qarf qarh qari
def qark:Cfg:={T:=qaqx,glob:=GlobL.G Tryz.prog,eqs:=qaqy,N:=6,fuel:=64,fid:=140}
theorem qarl:CfgOK Tryz.prog qark:=cfgC qaq0 qaq1 trivial
def qarm {R:Type}:Inl R:= .mk 140 qark [] qara Tryz.f140.results.toList []
def qarn:Cfg:={T:=qaqx,glob:=GlobL.G Tryz.prog,eqs:=qaqy,N:=6,fuel:=64,fid:=140}
theorem qaro:CfgOK Tryz.prog qarn:=cfgC qaq0 qaq1 trivial
def qarp {R:Type}:Inl R:= .mk 140 qarn [] qara Tryz.f140.results.toList []
def qarq {R:Type}:List (Nat×Hd R):= []
def qarr {R:Type}:List (Nat×Inl R):=[(8,qarm),(10,qarp)]
def qars:Cfg:={T:=qaqx,glob:=GlobL.G Tryz.prog,eqs:=qaqy,N:=20,fuel:=64,fid:=113}
theorem qart:CfgOK Tryz.prog qars:=cfgC qaq0 qaq1 trivial
theorem qaru {R:Type}:SubsOK Tryz.prog (R:=R) 1 qarr:=subsOK_0 Tryz.f140 qarl (subsOK_0 Tryz.f140 qaro (subsOK_nil _ _))
theorem qarv {R:Type}:LoopsOK (R:=R) (hnd 1 qarr) qars qarq qaq9:=loopsOK_of (l:= []) (by kernel_rfl) (trivial)
def qarw {R:Type}:Inl R:= .mk 113 qars qarq qaq9 Tryz.f113.results.toList qarr
def qarx {R:Type}:List (Nat×Hd R):= []
def qary {R:Type}:List (Nat×Inl R):=[(8,qarw)]
def qarz:Cfg:={T:=qaqx,glob:=GlobL.G Tryz.prog,eqs:=qaqy,N:=9,fuel:=64,fid:=112}
theorem qar0:CfgOK Tryz.prog qarz:=cfgC qaq0 qaq1 trivial
theorem qar1 {R:Type}:SubsOK Tryz.prog (R:=R) 2 qary:=subsOK_a Tryz.f113 qart qarv (rngs0 (by kernel_rfl)) qaru (subsOK_nil _ _)
theorem qar2 {R:Type}:LoopsOK (R:=R) (hnd 2 qary) qarz qarx qaq8:=loopsOK_of (l:= []) (by kernel_rfl) (trivial)
def qar3 {R:Type}:Inl R:= .mk 112 qarz qarx qaq8 Tryz.f112.results.toList qary
def qar4:Cfg:={T:=qaqx,glob:=GlobL.G Tryz.prog,eqs:=qaqy,N:=6,fuel:=64,fid:=140}
theorem qar5:CfgOK Tryz.prog qar4:=cfgC qaq0 qaq1 trivial
def qar6 {R:Type}:Inl R:= .mk 140 qar4 [] qara Tryz.f140.results.toList []
def qar7:Cfg:={T:=qaqx,glob:=GlobL.G Tryz.prog,eqs:=qaqy,N:=6,fuel:=64,fid:=140}
theorem qar8:CfgOK Tryz.prog qar7:=cfgC qaq0 qaq1 trivial
def qar9 {R:Type}:Inl R:= .mk 140 qar7 [] qara Tryz.f140.results.toList []
def qasa {R:Type}:List (Nat×Hd R):= []
def qasb {R:Type}:List (Nat×Inl R):=[(8,qar6),(10,qar9)]
def qasc:Cfg:={T:=qaqx,glob:=GlobL.G Tryz.prog,eqs:=qaqy,N:=20,fuel:=64,fid:=113}
theorem qasd:CfgOK Tryz.prog qasc:=cfgC qaq0 qaq1 trivial
theorem qase {R:Type}:SubsOK Tryz.prog (R:=R) 1 qasb:=subsOK_0 Tryz.f140 qar5 (subsOK_0 Tryz.f140 qar8 (subsOK_nil _ _))
theorem qasf {R:Type}:LoopsOK (R:=R) (hnd 1 qasb) qasc qasa qaq9:=loopsOK_of (l:= []) (by kernel_rfl) (trivial)
def qasg {R:Type}:Inl R:= .mk 113 qasc qasa qaq9 Tryz.f113.results.toList qasb
def qash {R:Type}:List (Nat×Hd R):= []
def qasi {R:Type}:List (Nat×Inl R):=[(8,qasg)]
def qasj:Cfg:={T:=qaqx,glob:=GlobL.G Tryz.prog,eqs:=qaqy,N:=9,fuel:=64,fid:=112}
theorem qask:CfgOK Tryz.prog qasj:=cfgC qaq0 qaq1 trivial
theorem qasl {R:Type}:SubsOK Tryz.prog (R:=R) 2 qasi:=subsOK_a Tryz.f113 qasd qasf (rngs0 (by kernel_rfl)) qase (subsOK_nil _ _)
theorem qasm {R:Type}:LoopsOK (R:=R) (hnd 2 qasi) qasj qash qaq8:=loopsOK_of (l:= []) (by kernel_rfl) (trivial)
def qasn {R:Type}:Inl R:= .mk 112 qasj qash qaq8 Tryz.f112.results.toList qasi
def qaso {R:Type}:List (Nat×Hd R):=[(3,hdOf qarb qarc)]
def qasp {R:Type}:List (Nat×Inl R):=[(30,qar3),(46,qasn)]
def qasq:Cfg:={T:=qaqx,glob:=GlobL.G Tryz.prog,eqs:=qaqy,N:=49,fuel:=64,loops:=[(3,⟨[0,1,2,8,9,10], [], [],0, [], [], [], []⟩)],blocks:=[(0,⟨[0,1,2,8,9], [], [],0, [], [], [], []⟩)],fid:=111}
theorem qasr:CfgOK Tryz.prog qasq:=cfgC qaq0 qaq1 trivial
theorem qass {R:Type}:SubsOK Tryz.prog (R:=R) 3 qasp:=subsOK_a Tryz.f112 qar0 qar2 (rngs0 (by kernel_rfl)) qar1 (subsOK_a Tryz.f112 qask qasm (rngs0 (by kernel_rfl)) qasl (subsOK_nil _ _))
theorem qast {R:Type}:LoopOK (R:=R) (hnd 3 qasp) qasq qaso (sub [1,1,1,0,0,0] qaq7) (HS.V qarb) (HS.st qarb) (HS.sh qarb) qarc (hdOf qarb qarc):=loopOK_of qarb qarc (fun _ _=>rfl) (by intro q v K;kernel_rfl)
theorem qasu {R:Type}:LoopsOK (R:=R) (hnd 3 qasp) qasq qaso qaq7:=loopsOK_of (l:=[sub [1,1,1,0,0,0] qaq7]) (by kernel_rfl) (loopsL_cons (b:=sub [1,1,1,0,0,0] qaq7) (rid:=3) (by kernel_rfl) (by kernel_rfl) qast (trivial))
def qasv {R:Type}:Inl R:= .mk 111 qasq qaso qaq7 Tryz.f111.results.toList qasp
def qasw {R:Type}:List (Nat×Hd R):= []
def qasx {R:Type}:List (Nat×Inl R):=[(9,qasv)]
def qasy:Cfg:={T:=qaqx,glob:=GlobL.G Tryz.prog,eqs:=qaqy,N:=12,fuel:=64,fid:=89}
theorem qasz:CfgOK Tryz.prog qasy:=cfgC qaq0 qaq1 trivial
theorem qas0 {R:Type}:SubsOK Tryz.prog (R:=R) 4 qasx:=subsOK_a Tryz.f111 qasr qasu (rngs0 (by kernel_rfl)) qass (subsOK_nil _ _)
theorem qas1 {R:Type}:LoopsOK (R:=R) (hnd 4 qasx) qasy qasw qaq4:=loopsOK_of (l:= []) (by kernel_rfl) (trivial)
theorem qas2:SpecOK Tryz.prog 89 qarj:=specOK_a Tryz.f89 qasz qaqz (d:=4) qas0 qas1 (rngs0 (by kernel_rfl)) (toY:=qarg)
def qas3:List HV:=[.agg hFs, .one (.int .i64)]
def qas4:List HV:=[.agg hIn, .one (.bool)]
def qas5:HP.V qas3→Fs×Int:=fun v=>((cFs v.1),v.2.1)
def qas6:HX.V qas4→Inode×Bool:=fun v=>((cIn v.1),v.2)
def qas7:(Inode×Bool)→HX.V qas4:=fun y=>((y.1.ino,(y.1.kind,(y.1.links,(y.1.data,(y.1.parent,(y.1.entries,())))))),y.2)
def qas8:(Fs×Int)→Option (Inode×Bool):=fun x=>table_Get x.1 x.2
def qas9:Spec:=mkSpec qas3 qas4 qas5 qas7 qas8
def qata:Cfg:={T:=qaqx,spec:=[(89,qarj)],glob:=GlobL.G Tryz.prog,eqs:=qaqy,N:=22,fuel:=64,fid:=59}
theorem qatb:CfgOK Tryz.prog qata:=cfgC qaq0 qaq1 ⟨qas2,trivial⟩
theorem qatc:SpecOK Tryz.prog 59 qas9:=specOK_0 Tryz.f59 qatb qaqz (toY:=qas6)
def qatd:List HV:=[.agg hFs]
def qate:List HV:=[.agg hFs, .one (.int .i64)]
def qatf:HP.V qatd→Fs:=fun v=>((cFs v.1))
def qatg:HX.V qate→Fs×Int:=fun v=>((cFs v.1),v.2)
def qath:(Fs×Int)→HX.V qate:=fun y=>((y.1.maxInodes,(y.1.maxBytes,(y.1.next,(y.1.inodes,())))),y.2)
def qati:Fs→Option (Fs×Int):=fun x=>table_Take x
def qatj:Spec:=mkSpec qatd qate qatf qath qati
def qatk:Cfg:={T:=qaqx,glob:=GlobL.G Tryz.prog,eqs:=qaqy,N:=8,fuel:=64,fid:=90}
theorem qatl:CfgOK Tryz.prog qatk:=cfgC qaq0 qaq1 trivial
def qatm {R:Type}:Inl R:= .mk 90 qatk [] qaq5 Tryz.f90.results.toList []
def qatn {R:Type}:List (Nat×Hd R):= []
def qato {R:Type}:List (Nat×Inl R):=[(13,qatm)]
def qatp:Cfg:={T:=qaqx,glob:=GlobL.G Tryz.prog,eqs:=qaqy,N:=17,fuel:=64,fid:=60}
theorem qatq:CfgOK Tryz.prog qatp:=cfgC qaq0 qaq1 trivial
theorem qatr {R:Type}:SubsOK Tryz.prog (R:=R) 1 qato:=subsOK_0 Tryz.f90 qatl (subsOK_nil _ _)
theorem qats {R:Type}:LoopsOK (R:=R) (hnd 1 qato) qatp qatn qaq2:=loopsOK_of (l:= []) (by kernel_rfl) (trivial)
theorem qatt:SpecOK Tryz.prog 60 qatj:=specOK_a Tryz.f60 qatq qaqz (d:=1) qatr qats (rngs0 (by kernel_rfl)) (toY:=qatg)
def qatu:List HV:=[.agg hFs, .agg hIn]
def qatv:List HV:=[.agg hFs]
def qatw:HP.V qatu→Fs×Inode:=fun v=>((cFs v.1),(cIn v.2.1))
def qatx:HX.V qatv→Fs:=fun v=>((cFs v))
def qaty:Fs→HX.V qatv:=fun y=>((y.maxInodes,(y.maxBytes,(y.next,(y.inodes,())))))
def qatz:(Fs×Inode)→Option (Fs):=fun x=>table_Set x.1 x.2
def qat0:Spec:=mkSpec qatu qatv qatw qaty qatz
def qat1:Cfg:={T:=qaqx,spec:=[(89,qarj)],glob:=GlobL.G Tryz.prog,eqs:=qaqy,N:=8,fuel:=64,ovl:=[119],fid:=90}
theorem qat2:CfgOK Tryz.prog qat1:=cfgC qaq0 qaq1 ⟨qas2,trivial⟩ (ov:=⟨ovl119,trivial⟩)
def qat3 {R:Type}:Inl R:= .mk 90 qat1 [] qaq5 Tryz.f90.results.toList []
def qat4:Cfg:={T:=qaqx,spec:=[(89,qarj)],glob:=GlobL.G Tryz.prog,eqs:=qaqy,N:=95,fuel:=64,ovl:=[119],fid:=94}
theorem qat5:CfgOK Tryz.prog qat4:=cfgC qaq0 qaq1 ⟨qas2,trivial⟩ (ov:=⟨ovl119,trivial⟩)
def qat6 {R:Type}:Inl R:= .mk 94 qat4 [] qaq6 Tryz.f94.results.toList []
def qat7 {R:Type}:List (Nat×Hd R):= []
def qat8 {R:Type}:List (Nat×Inl R):=[(16,qat3),(30,qat6)]
def qat9:Cfg:={T:=qaqx,spec:=[(89,qarj)],glob:=GlobL.G Tryz.prog,eqs:=qaqy,N:=33,fuel:=64,ovl:=[119],fid:=62}
theorem qaua:CfgOK Tryz.prog qat9:=cfgC qaq0 qaq1 ⟨qas2,trivial⟩ (ov:=⟨ovl119,trivial⟩)
theorem qaub {R:Type}:SubsOK Tryz.prog (R:=R) 1 qat8:=subsOK_0 Tryz.f90 qat2 (subsOK_0 Tryz.f94 qat5 (subsOK_nil _ _))
theorem qauc {R:Type}:LoopsOK (R:=R) (hnd 1 qat8) qat9 qat7 qaq3:=loopsOK_of (l:= []) (by kernel_rfl) (trivial)
theorem qaud:SpecOK Tryz.prog 62 qat0:=specOK_a Tryz.f62 qaua qaqz (d:=1) qaub qauc (rngs0 (by kernel_rfl)) (toY:=qatx)
end
end Go.Eng
set_option linter.unusedVariables false
set_option maxRecDepth 100000
namespace Go.Eng
noncomputable section
open Go Go.Proofs
def qaue:List (Nat×TI):=[(3,⟨false,1, .one (.int .i64 0), .int .i64⟩),(9,⟨false,1, .one (.str []), .str⟩),(24,⟨true,4, .agg [.int .i64 0, .int .i64 0, .int .i64 0, .clip .inode []], .struct [(0,3),(1,3),(2,3),(3,22)]⟩),(37,⟨true,3, .agg [.int .i64 0, .str [], .int .i64 0], .struct [(0,3),(1,9),(2,3)]⟩),(43,⟨false,1, .one (.clip .entry []), .slice .entry 95⟩),(45,⟨true,6, .agg [.int .i64 0, .int .i64 0, .int .i64 0, .str [], .int .i64 0, .clip .entry []], .struct [(0,3),(1,3),(2,3),(3,9),(4,3),(5,43)]⟩),(65,⟨false,1, .one (.clip .str []), .slice .str 9⟩)]
def qauf:List (Nat×List EK):= []
theorem qaug:Tryz.prog.follows .mixedOrders=true:=by kernel_rfl
theorem qauh:(qaue.all fun x=>tiB Tryz.prog x.1 x.2)=true:=by kernel_rfl
theorem qaui:(qauf.all fun x=>eqB Tryz.prog x.1 x.2)=true:=by kernel_rfl
def qauj:Code:=bd Tryz.f155
def qauk:HS:=⟨[(2, .one (.ptr 0 0)),(4, .one (.ptr 1 0)),(8, .one (.ptr 2 0)),(24, .one (.sl .str)),(25, .one (.int .i64)),(26, .one (.int .i64))],[(0, .cells hFs),(1, .cells [.int .i64, .str, .int .i64]),(2, .cells [.int .i64, .str, .int .i64])],3⟩
def qaul {R:Type}:Nat→HS.V qauk→(Ex→St→Option R)→Option R:=fun q v K=>
 place_At_L6 v.1.2.2.2.1 v.1.2.2.2.2.1 (cFs v.2.1) (fun y11=>K .ret {regs:=[(4, .v (.one (.ptr 1 0))),(5, .v (.one (.int .i64 y11)))],mem:=[(1, .cells [.int .i64 ((⟨0, [],0⟩:Spotted).dir), .str ((⟨0, [],0⟩:Spotted).name), .int .i64 ((⟨0, [],0⟩:Spotted).ino)])],nx:=2}) (fun y14=>K (.exit 0) {regs:=[(4, .v (.one (.ptr 1 0))),(8, .v (.one (.ptr 2 0)))],mem:=[(1, .cells [.int .i64 ((⟨v.2.2.1.1,v.2.2.1.2.1,v.2.2.1.2.2.1⟩:Spotted).dir), .str ((⟨v.2.2.1.1,v.2.2.1.2.1,v.2.2.1.2.2.1⟩:Spotted).name), .int .i64 ((⟨v.2.2.1.1,v.2.2.1.2.1,v.2.2.1.2.2.1⟩:Spotted).ino)]),(2, .cells [.int .i64 y14.dir, .str y14.name, .int .i64 y14.ino])],nx:=3}) q v.1.2.2.2.2.2.1 (⟨v.2.2.2.1.1,v.2.2.2.1.2.1,v.2.2.2.1.2.2.1⟩:Spotted)
def qaum:List HV:=[.agg hFs, .one (.str)]
def qaun:List HV:=[.agg [.int .i64, .str, .int .i64], .one (.int .i64)]
def qauo:HP.V qaum→Fs×Str:=fun v=>((cFs v.1),v.2.1)
def qaup:HX.V qaun→Spotted×Int:=fun v=>((⟨v.1.1,v.1.2.1,v.1.2.2.1⟩:Spotted),v.2)
def qauq:(Spotted×Int)→HX.V qaun:=fun y=>((y.1.dir,(y.1.name,(y.1.ino,()))),y.2)
def qaur:(Fs×Str)→Option (Spotted×Int):=fun x=>place_At x.1 x.2
def qaus:Spec:=mkSpec qaum qaun qauo qauq qaur
def qaut {R:Type}:List (Nat×Hd R):=[(6,hdOf qauk qaul)]
def qauu {R:Type}:List (Nat×Inl R):= []
def qauv:Cfg:={T:=qaue,spec:=[(59,qas9),(123,qabl),(159,qama)],glob:=GlobL.G Tryz.prog,eqs:=qauf,N:=60,fuel:=64,loops:=[(6,⟨[2,4,8,24,25,26], [],[0,1,2],3, [], [], [], []⟩)],blocks:=[(0,⟨[4,8], [],[1,2],3, [], [], [], []⟩)],retA:=some ⟨[4,5], [],[1],2, [], [], [], []⟩,fid:=155}
theorem qauw:CfgOK Tryz.prog qauv:=cfgC qauh qaui ⟨qatc,⟨qabo,⟨qapp,trivial⟩⟩⟩
theorem qaux {R:Type}:SubsOK Tryz.prog (R:=R) 0 qauu:=subsOK_nil _ _
theorem qauy {R:Type}:LoopOK (R:=R) (hnd 0 qauu) qauv qaut (sub [1,1,1,1,0,1,0,0] qauj) (HS.V qauk) (HS.st qauk) (HS.sh qauk) qaul (hdOf qauk qaul):=loopOK_of qauk qaul (fun _ _=>rfl) (by intro q v K;kernel_rfl)
theorem qauz {R:Type}:LoopsOK (R:=R) (hnd 0 qauu) qauv qaut qauj:=loopsOK_of (l:=[sub [1,1,1,1,0,1,0,0] qauj]) (by kernel_rfl) (loopsL_cons (b:=sub [1,1,1,1,0,1,0,0] qauj) (rid:=6) (by kernel_rfl) (by kernel_rfl) qauy (trivial))
theorem qau0:SpecOK Tryz.prog 155 qaus:=specOK_a Tryz.f155 qauw qaug (d:=0) qaux qauz (rngs0 (by kernel_rfl)) (toY:=qaup)
def qau1:List HV:=[.agg hFs, .one (.str)]
def qau2:List HV:=[.agg hIn, .one (.int .i64)]
def qau3:HP.V qau1→Fs×Str:=fun v=>((cFs v.1),v.2.1)
def qau4:HX.V qau2→Inode×Int:=fun v=>((cIn v.1),v.2)
def qau5:(Inode×Int)→HX.V qau2:=fun y=>((y.1.ino,(y.1.kind,(y.1.links,(y.1.data,(y.1.parent,(y.1.entries,())))))),y.2)
def qau6:(Fs×Str)→Option (Inode×Int):=fun x=>place_Get x.1 x.2
def qau7:Spec:=mkSpec qau1 qau2 qau3 qau5 qau6
def qau8:Cfg:={T:=qaue,spec:=[(59,qas9),(155,qaus)],glob:=GlobL.G Tryz.prog,eqs:=qauf,N:=31,fuel:=64,fid:=144}
theorem qau9:CfgOK Tryz.prog qau8:=cfgC qauh qaui ⟨qatc,⟨qau0,trivial⟩⟩
theorem qava:SpecOK Tryz.prog 144 qau7:=specOK_0 Tryz.f144 qau9 qaug (toY:=qau4)
end
end Go.Eng
set_option linter.unusedVariables false
set_option maxRecDepth 100000
namespace Go.Eng
noncomputable section
open Go Go.Proofs
def qavb:List (Nat×TI):=[(3,⟨false,1, .one (.int .i64 0), .int .i64⟩),(9,⟨false,1, .one (.str []), .str⟩),(65,⟨false,1, .one (.clip .str []), .slice .str 9⟩),(152,⟨false,1, .one (.clip .strs []), .slice .strs 65⟩)]
def qavc:List (Nat×List EK):= []
theorem qavd:Tryz.prog.follows .mixedOrders=true:=by kernel_rfl
theorem qave:(qavb.all fun x=>tiB Tryz.prog x.1 x.2)=true:=by kernel_rfl
theorem qavf:(qavc.all fun x=>eqB Tryz.prog x.1 x.2)=true:=by kernel_rfl
def qavg:Code:=bd Tryz.f145
def qavh:Code:=bd Tryz.f156
def qavi:HS:=⟨[(0, .one (.sl .strs)),(3, .one (.int .i64)),(9, .one (.sl .strs)),(10, .one (.int .i64)),(11, .one (.int .i64))], [],0⟩
def qavj {R:Type}:Nat→HS.V qavi→(Ex→St→Option R)→Option R:=fun q v K=>
 slices_Concat_string_L3 v.1.2.2.1 v.1.2.2.2.1 (fun y8=>K (.exit 0) {regs:=[(0, .v (.one (.sl .strs v.1.1))),(3, .v (.one (.int .i64 y8)))],mem:= [],nx:=0}) q v.1.2.1 v.1.2.2.2.2.1
def qavk:HS:=⟨[(6, .one (.sub 0)),(25, .one (.sl .strs)),(26, .one (.int .i64)),(27, .one (.int .i64))],[(0, .row .str)],1⟩
def qavl {R:Type}:Nat→HS.V qavk→(Ex→St→Option R)→Option R:=fun q v K=>
 slices_Concat_string_L11 v.1.1.1 v.1.2.1 v.1.2.2.1 (fun y18 y19=>K (.exit 2) {regs:=[(6, .v (.one (.sub 0 v.1.1.1 y18)))],mem:=[(0, .row .str y19)],nx:=1}) q v.1.1.2 v.1.2.2.2.1 v.2.1
def qavm:List HV:=[.one (.sl .strs)]
def qavn:List HV:=[.one (.sl .str)]
def qavo:HP.V qavm→(List (List Str)):=fun v=>(v.1)
def qavp:HX.V qavn→(List Str):=fun v=>(v)
def qavq:(List Str)→HX.V qavn:=fun y=>(y)
def qavr:(List (List Str))→Option ((List Str)):=fun x=>slices_Concat_string x
def qavs:Spec:=mkSpec qavm qavn qavo qavq qavr
def qavt:Cfg:={T:=qavb,glob:=GlobL.G Tryz.prog,eqs:=qavc,N:=27,fuel:=64,fid:=156,nilc:=true}
theorem qavu:CfgOK Tryz.prog qavt:=cfgC qave qavf trivial
def qavv {R:Type}:Inl R:= .mk 156 qavt [] qavh Tryz.f156.results.toList []
def qavw {R:Type}:List (Nat×Hd R):=[(3,hdOf qavi qavj),(11,hdOf qavk qavl)]
def qavx {R:Type}:List (Nat×Inl R):=[(24,qavv)]
def qavy:Cfg:={T:=qavb,glob:=GlobL.G Tryz.prog,eqs:=qavc,N:=36,fuel:=64,loops:=[(11,⟨[6,25,26,27], [],[0],1, [], [], [],[(6,0, .str)]⟩),(3,⟨[0,3,9,10,11], [], [],0, [], [], [], []⟩)],blocks:=[(2,⟨[6], [],[0],1, [], [], [], []⟩),(0,⟨[0,3], [], [],0, [], [], [], []⟩)],fid:=145,nilc:=true}
theorem qavz:CfgOK Tryz.prog qavy:=cfgC qave qavf trivial
theorem qav0 {R:Type}:SubsOK Tryz.prog (R:=R) 1 qavx:=subsOK_0 Tryz.f156 qavu (subsOK_nil _ _)
theorem qav1 {R:Type}:LoopOK (R:=R) (hnd 1 qavx) qavy qavw (sub [1,1,0,1,0,0] qavg) (HS.V qavi) (HS.st qavi) (HS.sh qavi) qavj (hdOf qavi qavj):=loopOK_of qavi qavj (fun _ _=>rfl) (by intro q v K;kernel_rfl)
theorem qav2 {R:Type}:LoopOK (R:=R) (hnd 1 qavx) qavy qavw (sub [1,1,1,1,0,1,0,0] qavg) (HS.V qavk) (HS.st qavk) (HS.sh qavk) qavl (hdOf qavk qavl):=loopOK_of qavk qavl (fun _ _=>rfl) (by intro q v K;kernel_rfl)
theorem qav3 {R:Type}:LoopsOK (R:=R) (hnd 1 qavx) qavy qavw qavg:=loopsOK_of (l:=[sub [1,1,0,1,0,0] qavg,sub [1,1,1,1,0,1,0,0] qavg]) (by kernel_rfl) (loopsL_cons (b:=sub [1,1,0,1,0,0] qavg) (rid:=3) (by kernel_rfl) (by kernel_rfl) qav1 (loopsL_cons (b:=sub [1,1,1,1,0,1,0,0] qavg) (rid:=11) (by kernel_rfl) (by kernel_rfl) qav2 (trivial)))
theorem qav4:SpecOK Tryz.prog 145 qavs:=specOK_a Tryz.f145 qavz qavd (d:=1) qav0 qav3 (rngs0 (by kernel_rfl)) (toY:=qavp)
end
end Go.Eng
set_option linter.unusedVariables false
set_option maxRecDepth 100000
namespace Go.Eng
noncomputable section
open Go Go.Proofs
def qav5:List (Nat×TI):=[(3,⟨false,1, .one (.int .i64 0), .int .i64⟩),(4,⟨false,1, .one (.bool false), .bool⟩),(9,⟨false,1, .one (.str []), .str⟩),(24,⟨true,4, .agg [.int .i64 0, .int .i64 0, .int .i64 0, .clip .inode []], .struct [(0,3),(1,3),(2,3),(3,22)]⟩),(37,⟨true,3, .agg [.int .i64 0, .str [], .int .i64 0], .struct [(0,3),(1,9),(2,3)]⟩),(43,⟨false,1, .one (.clip .entry []), .slice .entry 95⟩),(45,⟨true,6, .agg [.int .i64 0, .int .i64 0, .int .i64 0, .str [], .int .i64 0, .clip .entry []], .struct [(0,3),(1,3),(2,3),(3,9),(4,3),(5,43)]⟩),(65,⟨false,1, .one (.clip .str []), .slice .str 9⟩),(67,⟨true,3, .agg [.bool false, .clip .str [], .bool false], .struct [(0,4),(1,65),(2,4)]⟩),(121,⟨true,11, .agg [.int .i64 0, .int .i64 0, .int .i64 0, .clip .inode [], .bool false, .bool false, .clip .str [], .int .i64 0, .str [], .int .i64 0, .int .i64 0], .struct [(0,24),(4,4),(5,4),(6,65),(7,37),(10,3)]⟩),(152,⟨false,1, .one (.clip .strs []), .slice .strs 65⟩)]
def qav6:List (Nat×List EK):= []
theorem qav7:Tryz.prog.follows .mixedOrders=true:=by kernel_rfl
theorem qav8:(qav5.all fun x=>tiB Tryz.prog x.1 x.2)=true:=by kernel_rfl
theorem qav9:(qav6.all fun x=>eqB Tryz.prog x.1 x.2)=true:=by kernel_rfl
def qawa:Code:=bd Tryz.f74
def qawb:Code:=bd Tryz.f100
def qawc:Code:=bd Tryz.f101
def qawd:Code:=bd Tryz.f124
def qawe:Code:=bd Tryz.f125
def qawf:List HV:=[.agg hFs, .one (.str)]
def qawg:List HV:=[.one (.int .i64), .one (.int .i64)]
def qawh:HP.V qawf→Fs×Str:=fun v=>((cFs v.1),v.2.1)
def qawi:HX.V qawg→Int×Int:=fun v=>(v.1,v.2)
def qawj:(Int×Int)→HX.V qawg:=fun y=>(y.1,y.2)
def qawk:(Fs×Str)→Option (Int×Int):=fun x=>seek_Home x.1 x.2
def qawl:Spec:=mkSpec qawf qawg qawh qawj qawk
def qawm:Cfg:={T:=qav5,spec:=[(144,qau7)],glob:=GlobL.G Tryz.prog,eqs:=qav6,N:=24,fuel:=64,fid:=122}
theorem qawn:CfgOK Tryz.prog qawm:=cfgC qav8 qav9 ⟨qava,trivial⟩
theorem qawo:SpecOK Tryz.prog 122 qawl:=specOK_0 Tryz.f122 qawn qav7 (toY:=qawi)
def qawp:HS:=⟨[(0, .one (.ptr 4 0)),(2, .one (.ptr 5 0)),(1000008, .one (.ptr 1 0))],[(1, .cells [.int .i64, .str, .int .i64]),(4, .cells [.int .i64, .int .i64, .int .i64, .sl .inode, .bool, .bool, .sl .str, .int .i64, .str, .int .i64, .int .i64]),(5, .cells [.int .i64, .str, .int .i64])],6⟩
def qawq {R:Type}:Nat→HS.V qawp→(Ex→St→Option R)→Option R:=fun q v K=>
 seek_Seek_25_L1 v.2.2.1.1 v.2.2.1.2.1 v.2.2.1.2.2.1 v.2.2.1.2.2.2.1 v.2.2.1.2.2.2.2.1 (fun y36=>K .ret {regs:=[(2, .v (.one (.ptr 5 0))),(3, .v (.one (.int .i64 y36))),(1000008, .v (.one (.ptr 1 0)))],mem:=[(1, .cells [.int .i64 ((⟨v.2.1.1,v.2.1.2.1,v.2.1.2.2.1⟩:Spotted).dir), .str ((⟨v.2.1.1,v.2.1.2.1,v.2.1.2.2.1⟩:Spotted).name), .int .i64 ((⟨v.2.1.1,v.2.1.2.1,v.2.1.2.2.1⟩:Spotted).ino)]),(5, .cells [.int .i64 ((⟨0, [],0⟩:Spotted).dir), .str ((⟨0, [],0⟩:Spotted).name), .int .i64 ((⟨0, [],0⟩:Spotted).ino)])],nx:=6}) (fun y45 y46 y47 y48 y49 y50=>K (.exit 0) {regs:=[(0, .v (.one (.ptr 4 0))),(2, .v (.one (.ptr 5 0))),(1000008, .v (.one (.ptr 1 0)))],mem:=[(1, .cells [.int .i64 ((⟨v.2.1.1,v.2.1.2.1,v.2.1.2.2.1⟩:Spotted).dir), .str ((⟨v.2.1.1,v.2.1.2.1,v.2.1.2.2.1⟩:Spotted).name), .int .i64 ((⟨v.2.1.1,v.2.1.2.1,v.2.1.2.2.1⟩:Spotted).ino)]),(4, .cells [.int .i64 v.2.2.1.1, .int .i64 v.2.2.1.2.1, .int .i64 v.2.2.1.2.2.1, .sl .inode v.2.2.1.2.2.2.1, .bool v.2.2.1.2.2.2.2.1, .bool y45, .sl .str y46, .int .i64 y47, .str y48, .int .i64 y49, .int .i64 y50]),(5, .cells [.int .i64 ((⟨v.2.2.2.1.1,v.2.2.2.1.2.1,v.2.2.2.1.2.2.1⟩:Spotted).dir), .str ((⟨v.2.2.2.1.1,v.2.2.2.1.2.1,v.2.2.2.1.2.2.1⟩:Spotted).name), .int .i64 ((⟨v.2.2.2.1.1,v.2.2.2.1.2.1,v.2.2.2.1.2.2.1⟩:Spotted).ino)])],nx:=6}) q v.2.2.1.2.2.2.2.2.1 v.2.2.1.2.2.2.2.2.2.1 v.2.2.1.2.2.2.2.2.2.2.1 v.2.2.1.2.2.2.2.2.2.2.2.1 v.2.2.1.2.2.2.2.2.2.2.2.2.1 v.2.2.1.2.2.2.2.2.2.2.2.2.2.1
def qawr:List HV:=[.agg hFs, .one (.str), .one (.str), .one (.bool)]
def qaws:List HV:=[.agg [.int .i64, .str, .int .i64], .one (.int .i64)]
def qawt:HP.V qawr→Fs×Str×Str×Bool:=fun v=>((cFs v.1),v.2.1,v.2.2.1,v.2.2.2.1)
def qawu:HX.V qaws→Spotted×Int:=fun v=>((⟨v.1.1,v.1.2.1,v.1.2.2.1⟩:Spotted),v.2)
def qawv:(Spotted×Int)→HX.V qaws:=fun y=>((y.1.dir,(y.1.name,(y.1.ino,()))),y.2)
def qaww:(Fs×Str×Str×Bool)→Option (Spotted×Int):=fun x=>seek_Seek x.1 x.2.1 x.2.2.1 x.2.2.2
def qawx:Spec:=mkSpec qawr qaws qawt qawv qaww
def qawy:Cfg:={T:=qav5,spec:=[(75,qadd),(121,qag3),(122,qawl)],glob:=GlobL.G Tryz.prog,eqs:=qav6,N:=49,fuel:=64,fid:=100}
theorem qawz:CfgOK Tryz.prog qawy:=cfgC qav8 qav9 ⟨qagu,⟨qajm,⟨qawo,trivial⟩⟩⟩
def qaw0 {R:Type}:Inl R:= .mk 100 qawy [] qawb Tryz.f100.results.toList []
def qaw1:Cfg:={T:=qav5,spec:=[(59,qas9),(75,qadd),(121,qag3),(123,qabl)],glob:=GlobL.G Tryz.prog,eqs:=qav6,N:=70,fuel:=64,fid:=124,gns:=[(145,qavs)]}
theorem qaw2:CfgOK Tryz.prog qaw1:=cfgC qav8 qav9 ⟨qatc,⟨qagu,⟨qajm,⟨qabo,trivial⟩⟩⟩⟩ (gn:=⟨qav4,trivial⟩)
def qaw3 {R:Type}:Inl R:= .mk 124 qaw1 [] qawd Tryz.f124.results.toList []
def qaw4:Cfg:={T:=qav5,spec:=[(59,qas9),(123,qabl)],glob:=GlobL.G Tryz.prog,eqs:=qav6,N:=36,fuel:=64,fid:=125}
theorem qaw5:CfgOK Tryz.prog qaw4:=cfgC qav8 qav9 ⟨qatc,⟨qabo,trivial⟩⟩
def qaw6 {R:Type}:Inl R:= .mk 125 qaw4 [] qawe Tryz.f125.results.toList []
def qaw7 {R:Type}:List (Nat×Hd R):=[(1,hdOf qawp qawq)]
def qaw8 {R:Type}:List (Nat×Inl R):=[(114,qaw3),(128,qaw6)]
def qaw9:Cfg:={T:=qav5,spec:=[(59,qas9),(123,qabl)],glob:=GlobL.G Tryz.prog,eqs:=qav6,N:=131,fuel:=64,loops:=[(1,⟨[0,2,1000008], [],[1,4,5],6, [], [], [], []⟩)],blocks:=[(0,⟨[0,2,1000008], [],[1,4,5],6, [], [], [], []⟩)],retA:=some ⟨[2,3,1000008], [],[1,5],6, [], [], [], []⟩,fid:=101}
theorem qaxa:CfgOK Tryz.prog qaw9:=cfgC qav8 qav9 ⟨qatc,⟨qabo,trivial⟩⟩
theorem qaxb {R:Type}:SubsOK Tryz.prog (R:=R) 1 qaw8:=subsOK_0 Tryz.f124 qaw2 (subsOK_0 Tryz.f125 qaw5 (subsOK_nil _ _))
theorem qaxc {R:Type}:LoopOK (R:=R) (hnd 1 qaw8) qaw9 qaw7 (sub [1,0,1,0,0,0] qawc) (HS.V qawp) (HS.st qawp) (HS.sh qawp) qawq (hdOf qawp qawq):=loopOK_of qawp qawq (fun _ _=>rfl) (by intro q v K;kernel_rfl)
theorem qaxd {R:Type}:LoopsOK (R:=R) (hnd 1 qaw8) qaw9 qaw7 qawc:=loopsOK_of (l:=[sub [1,0,1,0,0,0] qawc]) (by kernel_rfl) (loopsL_cons (b:=sub [1,0,1,0,0,0] qawc) (rid:=1) (by kernel_rfl) (by kernel_rfl) qaxc (trivial))
def qaxe {R:Type}:Inl R:= .mk 101 qaw9 qaw7 qawc Tryz.f101.results.toList qaw8
def qaxf {R:Type}:List (Nat×Hd R):= []
def qaxg {R:Type}:List (Nat×Inl R):=[(17,qaw0),(25,qaxe)]
def qaxh:Cfg:={T:=qav5,glob:=GlobL.G Tryz.prog,eqs:=qav6,N:=28,fuel:=64,fid:=74}
theorem qaxi:CfgOK Tryz.prog qaxh:=cfgC qav8 qav9 trivial
theorem qaxj {R:Type}:SubsOK Tryz.prog (R:=R) 2 qaxg:=subsOK_0 Tryz.f100 qawz (subsOK_a Tryz.f101 qaxa qaxd (rngs0 (by kernel_rfl)) qaxb (subsOK_nil _ _))
theorem qaxk {R:Type}:LoopsOK (R:=R) (hnd 2 qaxg) qaxh qaxf qawa:=loopsOK_of (l:= []) (by kernel_rfl) (trivial)
theorem qaxl:SpecOK Tryz.prog 74 qawx:=specOK_a Tryz.f74 qaxi qav7 (d:=2) qaxj qaxk (rngs0 (by kernel_rfl)) (toY:=qawu)
end
end Go.Eng
set_option linter.unusedVariables false
set_option maxRecDepth 100000
namespace Go.Eng
noncomputable section
open Go Go.Proofs
def qaxm:List (Nat×TI):=[(3,⟨false,1, .one (.int .i64 0), .int .i64⟩),(4,⟨false,1, .one (.bool false), .bool⟩),(9,⟨false,1, .one (.str []), .str⟩),(24,⟨true,4, .agg [.int .i64 0, .int .i64 0, .int .i64 0, .clip .inode []], .struct [(0,3),(1,3),(2,3),(3,22)]⟩),(37,⟨true,3, .agg [.int .i64 0, .str [], .int .i64 0], .struct [(0,3),(1,9),(2,3)]⟩),(43,⟨false,1, .one (.clip .entry []), .slice .entry 95⟩),(45,⟨true,6, .agg [.int .i64 0, .int .i64 0, .int .i64 0, .str [], .int .i64 0, .clip .entry []], .struct [(0,3),(1,3),(2,3),(3,9),(4,3),(5,43)]⟩),(67,⟨true,3, .agg [.bool false, .clip .str [], .bool false], .struct [(0,4),(1,65),(2,4)]⟩)]
def qaxn:List (Nat×List EK):= []
theorem qaxo:Tryz.prog.follows .mixedOrders=true:=by kernel_rfl
theorem qaxp:(qaxm.all fun x=>tiB Tryz.prog x.1 x.2)=true:=by kernel_rfl
theorem qaxq:(qaxn.all fun x=>eqB Tryz.prog x.1 x.2)=true:=by kernel_rfl
def qaxr:Code:=bd Tryz.f17
def qaxs:Code:=bd Tryz.f20
def qaxt:Code:=bd Tryz.f22
def qaxu:Code:=bd Tryz.f46
def qaxv:Code:=bd Tryz.f47
def qaxw:Code:=bd Tryz.f50
def qaxx:Code:=bd Tryz.f51
def qaxy:Code:=bd Tryz.f52
def qaxz:Code:=bd Tryz.f82
def qax0:Code:=bd Tryz.f108
def qax1:List HV:=[.agg hFs, .agg [.int .i64, .str, .int .i64], .one (.int .i64), .one (.str)]
def qax2:List HV:=[.agg hFs, .one (.int .i64)]
def qax3:HP.V qax1→Fs×Spotted×Int×Str:=fun v=>((cFs v.1),(⟨v.2.1.1,v.2.1.2.1,v.2.1.2.2.1⟩:Spotted),v.2.2.1,v.2.2.2.1)
def qax4:HX.V qax2→Fs×Int:=fun v=>((cFs v.1),v.2)
def qax5:(Fs×Int)→HX.V qax2:=fun y=>((y.1.maxInodes,(y.1.maxBytes,(y.1.next,(y.1.inodes,())))),y.2)
def qax6:(Fs×Spotted×Int×Str)→Option (Fs×Int):=fun x=>create_New x.1 x.2.1 x.2.2.1 x.2.2.2
def qax7:Spec:=mkSpec qax1 qax2 qax3 qax5 qax6
def qax8:Cfg:={T:=qaxm,spec:=[(57,qalw),(58,qaqt),(59,qas9),(60,qatj),(61,qabv),(62,qat0)],glob:=GlobL.G Tryz.prog,eqs:=qaxn,N:=65,fuel:=64,fid:=25}
theorem qax9:CfgOK Tryz.prog qax8:=cfgC qaxp qaxq ⟨qalz,⟨qaqw,⟨qatc,⟨qatt,⟨qab8,⟨qaud,trivial⟩⟩⟩⟩⟩⟩
theorem qaya:SpecOK Tryz.prog 25 qax7:=specOK_0 Tryz.f25 qax9 qaxo (toY:=qax4)
def qayb:List HV:=[.agg hFs, .one (.str), .one (.str)]
def qayc:List HV:=[.agg hFs, .one (.int .i64)]
def qayd:HP.V qayb→Fs×Str×Str:=fun v=>((cFs v.1),v.2.1,v.2.2.1)
def qaye:HX.V qayc→Fs×Int:=fun v=>((cFs v.1),v.2)
def qayf:(Fs×Int)→HX.V qayc:=fun y=>((y.1.maxInodes,(y.1.maxBytes,(y.1.next,(y.1.inodes,())))),y.2)
def qayg:(Fs×Str×Str)→Option (Fs×Int):=fun x=>create_Mkdir x.1 x.2.1 x.2.2
def qayh:Spec:=mkSpec qayb qayc qayd qayf qayg
def qayi:Cfg:={T:=qaxm,spec:=[(25,qax7),(74,qawx)],glob:=GlobL.G Tryz.prog,eqs:=qaxn,N:=10,fuel:=64,fid:=47}
theorem qayj:CfgOK Tryz.prog qayi:=cfgC qaxp qaxq ⟨qaya,⟨qaxl,trivial⟩⟩
def qayk {R:Type}:Inl R:= .mk 47 qayi [] qaxv Tryz.f47.results.toList []
def qayl {R:Type}:List (Nat×Hd R):= []
def qaym {R:Type}:List (Nat×Inl R):=[(43,qayk)]
def qayn:Cfg:={T:=qaxm,spec:=[(74,qawx)],glob:=GlobL.G Tryz.prog,eqs:=qaxn,N:=46,fuel:=64,fid:=46}
theorem qayo:CfgOK Tryz.prog qayn:=cfgC qaxp qaxq ⟨qaxl,trivial⟩
theorem qayp {R:Type}:SubsOK Tryz.prog (R:=R) 1 qaym:=subsOK_0 Tryz.f47 qayj (subsOK_nil _ _)
theorem qayq {R:Type}:LoopsOK (R:=R) (hnd 1 qaym) qayn qayl qaxu:=loopsOK_of (l:= []) (by kernel_rfl) (trivial)
def qayr {R:Type}:Inl R:= .mk 46 qayn qayl qaxu Tryz.f46.results.toList qaym
def qays {R:Type}:List (Nat×Hd R):= []
def qayt {R:Type}:List (Nat×Inl R):=[(12,qayr)]
def qayu:Cfg:={T:=qaxm,glob:=GlobL.G Tryz.prog,eqs:=qaxn,N:=15,fuel:=64,fid:=17}
theorem qayv:CfgOK Tryz.prog qayu:=cfgC qaxp qaxq trivial
theorem qayw {R:Type}:SubsOK Tryz.prog (R:=R) 2 qayt:=subsOK_a Tryz.f46 qayo qayq (rngs0 (by kernel_rfl)) qayp (subsOK_nil _ _)
theorem qayx {R:Type}:LoopsOK (R:=R) (hnd 2 qayt) qayu qays qaxr:=loopsOK_of (l:= []) (by kernel_rfl) (trivial)
theorem qayy:SpecOK Tryz.prog 17 qayh:=specOK_a Tryz.f17 qayv qaxo (d:=2) qayw qayx (rngs0 (by kernel_rfl)) (toY:=qaye)
def qayz:List HV:=[.agg hFs, .one (.str), .one (.str), .one (.str)]
def qay0:List HV:=[.agg hFs, .one (.int .i64)]
def qay1:HP.V qayz→Fs×Str×Str×Str:=fun v=>((cFs v.1),v.2.1,v.2.2.1,v.2.2.2.1)
def qay2:HX.V qay0→Fs×Int:=fun v=>((cFs v.1),v.2)
def qay3:(Fs×Int)→HX.V qay0:=fun y=>((y.1.maxInodes,(y.1.maxBytes,(y.1.next,(y.1.inodes,())))),y.2)
def qay4:(Fs×Str×Str×Str)→Option (Fs×Int):=fun x=>create_Create x.1 x.2.1 x.2.2.1 x.2.2.2
def qay5:Spec:=mkSpec qayz qay0 qay1 qay3 qay4
def qay6:Cfg:={T:=qaxm,spec:=[(25,qax7),(74,qawx),(75,qadd)],glob:=GlobL.G Tryz.prog,eqs:=qaxn,N:=12,fuel:=64,fid:=50}
theorem qay7:CfgOK Tryz.prog qay6:=cfgC qaxp qaxq ⟨qaya,⟨qaxl,⟨qagu,trivial⟩⟩⟩
def qay8 {R:Type}:Inl R:= .mk 50 qay6 [] qaxw Tryz.f50.results.toList []
def qay9 {R:Type}:List (Nat×Hd R):= []
def qaza {R:Type}:List (Nat×Inl R):=[(43,qay8)]
def qazb:Cfg:={T:=qaxm,spec:=[(74,qawx),(75,qadd)],glob:=GlobL.G Tryz.prog,eqs:=qaxn,N:=46,fuel:=64,fid:=46}
theorem qazc:CfgOK Tryz.prog qazb:=cfgC qaxp qaxq ⟨qaxl,⟨qagu,trivial⟩⟩
theorem qazd {R:Type}:SubsOK Tryz.prog (R:=R) 1 qaza:=subsOK_0 Tryz.f50 qay7 (subsOK_nil _ _)
theorem qaze {R:Type}:LoopsOK (R:=R) (hnd 1 qaza) qazb qay9 qaxu:=loopsOK_of (l:= []) (by kernel_rfl) (trivial)
def qazf {R:Type}:Inl R:= .mk 46 qazb qay9 qaxu Tryz.f46.results.toList qaza
def qazg {R:Type}:List (Nat×Hd R):= []
def qazh {R:Type}:List (Nat×Inl R):=[(14,qazf)]
def qazi:Cfg:={T:=qaxm,glob:=GlobL.G Tryz.prog,eqs:=qaxn,N:=17,fuel:=64,fid:=20}
theorem qazj:CfgOK Tryz.prog qazi:=cfgC qaxp qaxq trivial
theorem qazk {R:Type}:SubsOK Tryz.prog (R:=R) 2 qazh:=subsOK_a Tryz.f46 qazc qaze (rngs0 (by kernel_rfl)) qazd (subsOK_nil _ _)
theorem qazl {R:Type}:LoopsOK (R:=R) (hnd 2 qazh) qazi qazg qaxs:=loopsOK_of (l:= []) (by kernel_rfl) (trivial)
theorem qazm:SpecOK Tryz.prog 20 qay5:=specOK_a Tryz.f20 qazj qaxo (d:=2) qazk qazl (rngs0 (by kernel_rfl)) (toY:=qay2)
def qazn:List HV:=[.agg hFs, .one (.str), .one (.str), .one (.str)]
def qazo:List HV:=[.agg hFs, .one (.int .i64)]
def qazp:HP.V qazn→Fs×Str×Str×Str:=fun v=>((cFs v.1),v.2.1,v.2.2.1,v.2.2.2.1)
def qazq:HX.V qazo→Fs×Int:=fun v=>((cFs v.1),v.2)
def qazr:(Fs×Int)→HX.V qazo:=fun y=>((y.1.maxInodes,(y.1.maxBytes,(y.1.next,(y.1.inodes,())))),y.2)
def qazs:(Fs×Str×Str×Str)→Option (Fs×Int):=fun x=>create_Symlink x.1 x.2.1 x.2.2.1 x.2.2.2
def qazt:Spec:=mkSpec qazn qazo qazp qazr qazs
def qazu {R:Type}:List (Nat×Hd R):= []
def qazv {R:Type}:List (Nat×Inl R):= []
def qazw:Cfg:={T:=qaxm,spec:=[(131,stringslite_IndexByte_sp)],glob:=GlobL.G Tryz.prog,eqs:=qaxn,N:=143,fuel:=64,retA:=some ⟨[4,3000001,3000003,3000004,3000006,3000008], [],[0,1,2],3, [],[2], [], []⟩,fid:=108}
theorem qazx:CfgOK Tryz.prog qazw:=cfgC qaxp qaxq ⟨stringslite_IndexByte_ok,trivial⟩
theorem qazy {R:Type}:SubsOK Tryz.prog (R:=R) 0 qazv:=subsOK_nil _ _
theorem qazz {R:Type}:LoopsOK (R:=R) (hnd 0 qazv) qazw qazu qax0:=loopsOK_of (l:=[sub [1,1,1,1,1,1,1,1,0,0,0] qax0]) (by kernel_rfl) (loopsL_skip (b:=sub [1,1,1,1,1,1,1,1,0,0,0] qax0) (rid:=15) (by kernel_rfl) (by kernel_rfl) (trivial))
def qaz0 {R:Type}:Inl R:= .mk 108 qazw qazu qax0 Tryz.f108.results.toList qazv
def qaz1 {R:Type}:List (Nat×Hd R):= []
def qaz2 {R:Type}:List (Nat×Inl R):=[(7,qaz0)]
def qaz3:Cfg:={T:=qaxm,glob:=GlobL.G Tryz.prog,eqs:=qaxn,N:=8,fuel:=64,fid:=82}
theorem qaz4:CfgOK Tryz.prog qaz3:=cfgC qaxp qaxq trivial
theorem qaz5 {R:Type}:SubsOK Tryz.prog (R:=R) 1 qaz2:=subsOK_a Tryz.f108 qazx qazz (rngs0 (by kernel_rfl)) qazy (subsOK_nil _ _)
theorem qaz6 {R:Type}:LoopsOK (R:=R) (hnd 1 qaz2) qaz3 qaz1 qaxz:=loopsOK_of (l:= []) (by kernel_rfl) (trivial)
def qaz7 {R:Type}:Inl R:= .mk 82 qaz3 qaz1 qaxz Tryz.f82.results.toList qaz2
def qaz8 {R:Type}:List (Nat×Hd R):= []
def qaz9 {R:Type}:List (Nat×Inl R):=[(7,qaz7)]
def qa0a:Cfg:={T:=qaxm,glob:=GlobL.G Tryz.prog,eqs:=qaxn,N:=9,fuel:=64,fid:=51}
theorem qa0b:CfgOK Tryz.prog qa0a:=cfgC qaxp qaxq trivial
theorem qa0c {R:Type}:SubsOK Tryz.prog (R:=R) 2 qaz9:=subsOK_a Tryz.f82 qaz4 qaz6 (rngs0 (by kernel_rfl)) qaz5 (subsOK_nil _ _)
theorem qa0d {R:Type}:LoopsOK (R:=R) (hnd 2 qaz9) qa0a qaz8 qaxx:=loopsOK_of (l:= []) (by kernel_rfl) (trivial)
def qa0e {R:Type}:Inl R:= .mk 51 qa0a qaz8 qaxx Tryz.f51.results.toList qaz9
def qa0f:Cfg:={T:=qaxm,spec:=[(25,qax7),(74,qawx),(75,qadd)],glob:=GlobL.G Tryz.prog,eqs:=qaxn,N:=12,fuel:=64,fid:=52}
theorem qa0g:CfgOK Tryz.prog qa0f:=cfgC qaxp qaxq ⟨qaya,⟨qaxl,⟨qagu,trivial⟩⟩⟩
def qa0h {R:Type}:Inl R:= .mk 52 qa0f [] qaxy Tryz.f52.results.toList []
def qa0i {R:Type}:List (Nat×Hd R):= []
def qa0j {R:Type}:List (Nat×Inl R):=[(43,qa0h)]
def qa0k:Cfg:={T:=qaxm,spec:=[(74,qawx),(75,qadd)],glob:=GlobL.G Tryz.prog,eqs:=qaxn,N:=46,fuel:=64,fid:=46}
theorem qa0l:CfgOK Tryz.prog qa0k:=cfgC qaxp qaxq ⟨qaxl,⟨qagu,trivial⟩⟩
theorem qa0m {R:Type}:SubsOK Tryz.prog (R:=R) 2 qa0j:=subsOK_0 Tryz.f52 qa0g (subsOK_nil _ _)
theorem qa0n {R:Type}:LoopsOK (R:=R) (hnd 2 qa0j) qa0k qa0i qaxu:=loopsOK_of (l:= []) (by kernel_rfl) (trivial)
def qa0o {R:Type}:Inl R:= .mk 46 qa0k qa0i qaxu Tryz.f46.results.toList qa0j
def qa0p {R:Type}:List (Nat×Hd R):= []
def qa0q {R:Type}:List (Nat×Inl R):=[(21,qa0e),(27,qa0o)]
def qa0r:Cfg:={T:=qaxm,glob:=GlobL.G Tryz.prog,eqs:=qaxn,N:=30,fuel:=64,fid:=22}
theorem qa0s:CfgOK Tryz.prog qa0r:=cfgC qaxp qaxq trivial
theorem qa0t {R:Type}:SubsOK Tryz.prog (R:=R) 3 qa0q:=subsOK_a Tryz.f51 qa0b qa0d (rngs0 (by kernel_rfl)) qa0c (subsOK_a Tryz.f46 qa0l qa0n (rngs0 (by kernel_rfl)) qa0m (subsOK_nil _ _))
theorem qa0u {R:Type}:LoopsOK (R:=R) (hnd 3 qa0q) qa0r qa0p qaxt:=loopsOK_of (l:= []) (by kernel_rfl) (trivial)
theorem qa0v:SpecOK Tryz.prog 22 qazt:=specOK_a Tryz.f22 qa0s qaxo (d:=3) qa0t qa0u (rngs0 (by kernel_rfl)) (toY:=qazq)
end
end Go.Eng
set_option linter.unusedVariables false
set_option maxRecDepth 100000
namespace Go.Eng
noncomputable section
open Go Go.Proofs
def qa0w:List (Nat×TI):=[(4,⟨false,1, .one (.bool false), .bool⟩),(9,⟨false,1, .one (.str []), .str⟩),(65,⟨false,1, .one (.clip .str []), .slice .str 9⟩),(67,⟨true,3, .agg [.bool false, .clip .str [], .bool false], .struct [(0,4),(1,65),(2,4)]⟩)]
def qa0x:List (Nat×List EK):= []
theorem qa0y:Tryz.prog.follows .mixedOrders=true:=by kernel_rfl
theorem qa0z:(qa0w.all fun x=>tiB Tryz.prog x.1 x.2)=true:=by kernel_rfl
theorem qa00:(qa0x.all fun x=>eqB Tryz.prog x.1 x.2)=true:=by kernel_rfl
def qa01:Code:=bd Tryz.f40
def qa02:Code:=bd Tryz.f53
def qa03:Code:=bd Tryz.f83
def qa04:Code:=bd Tryz.f135
def qa05:Code:=bd Tryz.f149
def qa06:HS:=⟨[(0, .one (.str)),(3, .one (.int .i64))], [],0⟩
def qa07 {R:Type}:Nat→HS.V qa06→(Ex→St→Option R)→Option R:=fun q v K=>
 ref03_May_L2 v.1.1 (K .ret {regs:=[(2, .v (.one (.bool false)))],mem:= [],nx:=0}) (K (.exit 0) {regs:=[(0, .v (.one (.str v.1.1)))],mem:= [],nx:=0}) q v.1.2.1
def qa08:List HV:=[.one (.str)]
def qa09:List HV:=[.one (.bool)]
def qa1a:HP.V qa08→Str:=fun v=>(v.1)
def qa1b:HX.V qa09→Bool:=fun v=>(v)
def qa1c:Bool→HX.V qa09:=fun y=>(y)
def qa1d:Str→Option (Bool):=fun x=>ref03_May x
def qa1e:Spec:=mkSpec qa08 qa09 qa1a qa1c qa1d
def qa1f {R:Type}:List (Nat×Hd R):=[(2,hdOf qa06 qa07)]
def qa1g {R:Type}:List (Nat×Inl R):= []
def qa1h:Cfg:={T:=qa0w,glob:=GlobL.G Tryz.prog,eqs:=qa0x,N:=36,fuel:=64,loops:=[(2,⟨[0,3], [], [],0, [], [], [], []⟩)],blocks:=[(0,⟨[0], [], [],0, [], [], [], []⟩)],retA:=some ⟨[2], [], [],0, [], [], [], []⟩,fid:=40}
theorem qa1i:CfgOK Tryz.prog qa1h:=cfgC qa0z qa00 trivial
theorem qa1j {R:Type}:SubsOK Tryz.prog (R:=R) 0 qa1g:=subsOK_nil _ _
theorem qa1k {R:Type}:LoopOK (R:=R) (hnd 0 qa1g) qa1h qa1f (sub [1,0,1,0,0] qa01) (HS.V qa06) (HS.st qa06) (HS.sh qa06) qa07 (hdOf qa06 qa07):=loopOK_of qa06 qa07 (fun _ _=>rfl) (by intro q v K;kernel_rfl)
theorem qa1l {R:Type}:LoopsOK (R:=R) (hnd 0 qa1g) qa1h qa1f qa01:=loopsOK_of (l:=[sub [1,0,1,0,0] qa01]) (by kernel_rfl) (loopsL_cons (b:=sub [1,0,1,0,0] qa01) (rid:=2) (by kernel_rfl) (by kernel_rfl) qa1k (trivial))
theorem qa1m:SpecOK Tryz.prog 40 qa1e:=specOK_a Tryz.f40 qa1i qa0y (d:=0) qa1j qa1l (rngs0 (by kernel_rfl)) (toY:=qa1b)
def qa1n:HS:=⟨[(0, .one (.str)),(3, .one (.own 0)),(4, .one (.str)),(5, .one (.int .i64))],[(0, .row .str)],1⟩
def qa1o {R:Type}:Nat→HS.V qa1n→(Ex→St→Option R)→Option R:=fun q v K=>
 ref03_Names_L4 v.1.1 (fun y6=>K (.exit 0) {regs:=[(3, .v (.one (.own 0)))],mem:=[(0, .row .str y6)],nx:=1}) q v.1.2.2.1 v.1.2.2.2.1 v.2.1
def qa1p:List HV:=[.one (.str)]
def qa1q:List HV:=[.one (.sl .str)]
def qa1r:HP.V qa1p→Str:=fun v=>(v.1)
def qa1s:HX.V qa1q→(List Str):=fun v=>(v)
def qa1t:(List Str)→HX.V qa1q:=fun y=>(y)
def qa1u:Str→Option ((List Str)):=fun x=>ref03_Names x
def qa1v:Spec:=mkSpec qa1p qa1q qa1r qa1t qa1u
def qa1w {R:Type}:List (Nat×Hd R):=[(4,hdOf qa1n qa1o)]
def qa1x {R:Type}:List (Nat×Inl R):= []
def qa1y:Cfg:={T:=qa0w,glob:=GlobL.G Tryz.prog,eqs:=qa0x,N:=36,fuel:=64,loops:=[(4,⟨[0,3,4,5],[(3,0, .str)],[0],1, [], [], [], []⟩)],blocks:=[(0,⟨[3], [],[0],1, [], [], [], []⟩)],fid:=83}
theorem qa1z:CfgOK Tryz.prog qa1y:=cfgC qa0z qa00 trivial
theorem qa10 {R:Type}:SubsOK Tryz.prog (R:=R) 0 qa1x:=subsOK_nil _ _
theorem qa11 {R:Type}:LoopOK (R:=R) (hnd 0 qa1x) qa1y qa1w (sub [1,1,1,0,1,0,0] qa03) (HS.V qa1n) (HS.st qa1n) (HS.sh qa1n) qa1o (hdOf qa1n qa1o):=loopOK_of qa1n qa1o (fun _ _=>rfl) (by intro q v K;kernel_rfl)
theorem qa12 {R:Type}:LoopsOK (R:=R) (hnd 0 qa1x) qa1y qa1w qa03:=loopsOK_of (l:=[sub [1,1,1,0,1,0,0] qa03]) (by kernel_rfl) (loopsL_cons (b:=sub [1,1,1,0,1,0,0] qa03) (rid:=4) (by kernel_rfl) (by kernel_rfl) qa11 (trivial))
theorem qa13:SpecOK Tryz.prog 83 qa1v:=specOK_a Tryz.f83 qa1z qa0y (d:=0) qa10 qa12 (rngs0 (by kernel_rfl)) (toY:=qa1s)
def qa14:HS:=⟨[(0, .one (.str)),(3, .one (.sl .str)),(4, .one (.int .i64))], [],0⟩
def qa15 {R:Type}:Nat→HS.V qa14→(Ex→St→Option R)→Option R:=fun q v K=>
 ref03_Long_L3 v.1.2.1 (K .ret {regs:=[(2, .v (.one (.bool true)))],mem:= [],nx:=0}) (K (.exit 0) {regs:=[(0, .v (.one (.str v.1.1)))],mem:= [],nx:=0}) q v.1.2.2.1
def qa16:List HV:=[.one (.str)]
def qa17:List HV:=[.one (.bool)]
def qa18:HP.V qa16→Str:=fun v=>(v.1)
def qa19:HX.V qa17→Bool:=fun v=>(v)
def qa2a:Bool→HX.V qa17:=fun y=>(y)
def qa2b:Str→Option (Bool):=fun x=>ref03_Long x
def qa2c:Spec:=mkSpec qa16 qa17 qa18 qa2a qa2b
def qa2d {R:Type}:List (Nat×Hd R):=[(3,hdOf qa14 qa15)]
def qa2e {R:Type}:List (Nat×Inl R):= []
def qa2f:Cfg:={T:=qa0w,spec:=[(83,qa1v)],glob:=GlobL.G Tryz.prog,eqs:=qa0x,N:=22,fuel:=64,loops:=[(3,⟨[0,3,4], [], [],0, [], [], [], []⟩)],blocks:=[(0,⟨[0], [], [],0, [], [], [], []⟩)],retA:=some ⟨[2], [], [],0, [], [], [], []⟩,fid:=53}
theorem qa2g:CfgOK Tryz.prog qa2f:=cfgC qa0z qa00 ⟨qa13,trivial⟩
theorem qa2h {R:Type}:SubsOK Tryz.prog (R:=R) 0 qa2e:=subsOK_nil _ _
theorem qa2i {R:Type}:LoopOK (R:=R) (hnd 0 qa2e) qa2f qa2d (sub [1,1,0,1,0,0] qa02) (HS.V qa14) (HS.st qa14) (HS.sh qa14) qa15 (hdOf qa14 qa15):=loopOK_of qa14 qa15 (fun _ _=>rfl) (by intro q v K;kernel_rfl)
theorem qa2j {R:Type}:LoopsOK (R:=R) (hnd 0 qa2e) qa2f qa2d qa02:=loopsOK_of (l:=[sub [1,1,0,1,0,0] qa02]) (by kernel_rfl) (loopsL_cons (b:=sub [1,1,0,1,0,0] qa02) (rid:=3) (by kernel_rfl) (by kernel_rfl) qa2i (trivial))
theorem qa2k:SpecOK Tryz.prog 53 qa2c:=specOK_a Tryz.f53 qa2g qa0y (d:=0) qa2h qa2j (rngs0 (by kernel_rfl)) (toY:=qa19)
def qa2l:List HV:=[.one (.str)]
def qa2m:List HV:=[.agg [.bool, .sl .str, .bool]]
def qa2n:HP.V qa2l→Str:=fun v=>(v.1)
def qa2o:HX.V qa2m→Pth:=fun v=>((⟨v.1,v.2.1,v.2.2.1⟩:Pth))
def qa2p:Pth→HX.V qa2m:=fun y=>((y.abs,(y.names,(y.slash,()))))
def qa2q:Str→Option (Pth):=fun x=>ref03_Read x
def qa2r:Spec:=mkSpec qa2l qa2m qa2n qa2p qa2q
def qa2s:Cfg:={T:=qa0w,spec:=[(83,qa1v)],glob:=GlobL.G Tryz.prog,eqs:=qa0x,N:=30,fuel:=64,fid:=54}
theorem qa2t:CfgOK Tryz.prog qa2s:=cfgC qa0z qa00 ⟨qa13,trivial⟩
theorem qa2u:SpecOK Tryz.prog 54 qa2r:=specOK_0 Tryz.f54 qa2t qa0y (toY:=qa2o)
def qa2v:HS:=⟨[(0, .one (.sl .str)),(3, .one (.str)),(4, .one (.int .i64))], [],0⟩
def qa2w {R:Type}:Nat→HS.V qa2v→(Ex→St→Option R)→Option R:=fun q v K=>
 ref03_Join_L5 v.1.1 (fun y5=>K (.exit 0) {regs:=[(3, .v (.one (.str y5)))],mem:= [],nx:=0}) q v.1.2.1 v.1.2.2.1
def qa2x:List HV:=[.one (.sl .str)]
def qa2y:List HV:=[.one (.str)]
def qa2z:HP.V qa2x→(List Str):=fun v=>(v.1)
def qa20:HX.V qa2y→Str:=fun v=>(v)
def qa21:Str→HX.V qa2y:=fun y=>(y)
def qa22:(List Str)→Option (Str):=fun x=>ref03_Join x
def qa23:Spec:=mkSpec qa2x qa2y qa2z qa21 qa22
def qa24 {R:Type}:List (Nat×Hd R):=[(5,hdOf qa2v qa2w)]
def qa25 {R:Type}:List (Nat×Inl R):= []
def qa26:Cfg:={T:=qa0w,glob:=GlobL.G Tryz.prog,eqs:=qa0x,N:=22,fuel:=64,loops:=[(5,⟨[0,3,4], [], [],0, [], [], [], []⟩)],blocks:=[(0,⟨[3], [], [],0, [], [], [], []⟩)],fid:=149}
theorem qa27:CfgOK Tryz.prog qa26:=cfgC qa0z qa00 trivial
theorem qa28 {R:Type}:SubsOK Tryz.prog (R:=R) 0 qa25:=subsOK_nil _ _
theorem qa29 {R:Type}:LoopOK (R:=R) (hnd 0 qa25) qa26 qa24 (sub [1,1,1,0,1,0,0] qa05) (HS.V qa2v) (HS.st qa2v) (HS.sh qa2v) qa2w (hdOf qa2v qa2w):=loopOK_of qa2v qa2w (fun _ _=>rfl) (by intro q v K;kernel_rfl)
theorem qa3a {R:Type}:LoopsOK (R:=R) (hnd 0 qa25) qa26 qa24 qa05:=loopsOK_of (l:=[sub [1,1,1,0,1,0,0] qa05]) (by kernel_rfl) (loopsL_cons (b:=sub [1,1,1,0,1,0,0] qa05) (rid:=5) (by kernel_rfl) (by kernel_rfl) qa29 (trivial))
theorem qa3b:SpecOK Tryz.prog 149 qa23:=specOK_a Tryz.f149 qa27 qa0y (d:=0) qa28 qa3a (rngs0 (by kernel_rfl)) (toY:=qa20)
def qa3c:HS:=⟨[(0, .one (.str)),(4, .one (.sl .str)),(5, .one (.int .i64))], [],0⟩
def qa3d {R:Type}:Nat→HS.V qa3c→(Ex→St→Option R)→Option R:=fun q v K=>
 ref03_Plain_L3 v.1.2.1 (K .ret {regs:=[(2, .v (.one (.clip .str ([] :List Str)))),(3, .v (.one (.bool false)))],mem:= [],nx:=0}) (K (.exit 0) {regs:=[(0, .v (.one (.str v.1.1))),(4, .v (.one (.sl .str v.1.2.1)))],mem:= [],nx:=0}) q v.1.2.2.1
def qa3e:List HV:=[.one (.str)]
def qa3f:List HV:=[.one (.sl .str), .one (.bool)]
def qa3g:HP.V qa3e→Str:=fun v=>(v.1)
def qa3h:HX.V qa3f→(List Str)×Bool:=fun v=>(v.1,v.2)
def qa3i:(List Str)×Bool→HX.V qa3f:=fun y=>(y.1,y.2)
def qa3j:Str→Option ((List Str)×Bool):=fun x=>ref03_Plain x
def qa3k:Spec:=mkSpec qa3e qa3f qa3g qa3i qa3j
def qa3l {R:Type}:List (Nat×Hd R):=[(3,hdOf qa3c qa3d)]
def qa3m {R:Type}:List (Nat×Inl R):= []
def qa3n:Cfg:={T:=qa0w,spec:=[(40,qa1e),(83,qa1v),(149,qa23)],glob:=GlobL.G Tryz.prog,eqs:=qa0x,N:=25,fuel:=64,loops:=[(3,⟨[0,4,5], [], [],0, [], [], [], []⟩)],blocks:=[(0,⟨[0,4], [], [],0, [], [], [], []⟩)],retA:=some ⟨[2,3], [], [],0, [], [], [], []⟩,fid:=135}
theorem qa3o:CfgOK Tryz.prog qa3n:=cfgC qa0z qa00 ⟨qa1m,⟨qa13,⟨qa3b,trivial⟩⟩⟩
theorem qa3p {R:Type}:SubsOK Tryz.prog (R:=R) 0 qa3m:=subsOK_nil _ _
theorem qa3q {R:Type}:LoopOK (R:=R) (hnd 0 qa3m) qa3n qa3l (sub [1,1,0,1,0,0] qa04) (HS.V qa3c) (HS.st qa3c) (HS.sh qa3c) qa3d (hdOf qa3c qa3d):=loopOK_of qa3c qa3d (fun _ _=>rfl) (by intro q v K;kernel_rfl)
theorem qa3r {R:Type}:LoopsOK (R:=R) (hnd 0 qa3m) qa3n qa3l qa04:=loopsOK_of (l:=[sub [1,1,0,1,0,0] qa04]) (by kernel_rfl) (loopsL_cons (b:=sub [1,1,0,1,0,0] qa04) (rid:=3) (by kernel_rfl) (by kernel_rfl) qa3q (trivial))
theorem qa3s:SpecOK Tryz.prog 135 qa3k:=specOK_a Tryz.f135 qa3o qa0y (d:=0) qa3p qa3r (rngs0 (by kernel_rfl)) (toY:=qa3h)
end
end Go.Eng
set_option linter.unusedVariables false
set_option maxRecDepth 100000
namespace Go.Eng
noncomputable section
open Go Go.Proofs
def qa3t:List (Nat×TI):=[(3,⟨false,1, .one (.int .i64 0), .int .i64⟩),(9,⟨false,1, .one (.str []), .str⟩),(43,⟨false,1, .one (.clip .entry []), .slice .entry 95⟩),(95,⟨true,2, .agg [.str [], .int .i64 0], .struct [(0,9),(1,3)]⟩)]
def qa3u:List (Nat×List EK):=[(95,[.s, .i])]
theorem qa3v:Tryz.prog.follows .mixedOrders=true:=by kernel_rfl
theorem qa3w:(qa3t.all fun x=>tiB Tryz.prog x.1 x.2)=true:=by kernel_rfl
theorem qa3x:(qa3u.all fun x=>eqB Tryz.prog x.1 x.2)=true:=by kernel_rfl
def qa3y:Code:=bd Tryz.f64
def qa3z:Code:=bd Tryz.f78
def qa30:Code:=bd Tryz.f85
def qa31:Code:=bd Tryz.f97
def qa32:Code:=bd Tryz.f107
def qa33:HS:=⟨[(0, .one (.sl .entry)),(3, .one (.int .i64))], [],0⟩
def qa34 {R:Type}:Nat→HS.V qa33→(Ex→St→Option R)→Option R:=fun q v K=>
 ref04_Right_L2 v.1.1 (K .ret {regs:=[(2, .v (.one (.bool false)))],mem:= [],nx:=0}) (K (.exit 0) {regs:= [],mem:= [],nx:=0}) q v.1.2.1
def qa35:List HV:=[.one (.sl .entry)]
def qa36:List HV:=[.one (.bool)]
def qa37:HP.V qa35→(List Entry):=fun v=>(v.1)
def qa38:HX.V qa36→Bool:=fun v=>(v)
def qa39:Bool→HX.V qa36:=fun y=>(y)
def qa4a:(List Entry)→Option (Bool):=fun x=>ref04_Right x
def qa4b:Spec:=mkSpec qa35 qa36 qa37 qa39 qa4a
def qa4c {R:Type}:List (Nat×Hd R):=[(2,hdOf qa33 qa34)]
def qa4d {R:Type}:List (Nat×Inl R):= []
def qa4e:Cfg:={T:=qa3t,spec:=[(40,qa1e)],glob:=GlobL.G Tryz.prog,eqs:=qa3u,N:=41,fuel:=64,loops:=[(2,⟨[0,3], [], [],0, [], [], [], []⟩)],blocks:=[(0,⟨[], [], [],0, [], [], [], []⟩)],retA:=some ⟨[2], [], [],0, [], [], [], []⟩,fid:=97}
theorem qa4f:CfgOK Tryz.prog qa4e:=cfgC qa3w qa3x ⟨qa1m,trivial⟩
theorem qa4g {R:Type}:SubsOK Tryz.prog (R:=R) 0 qa4d:=subsOK_nil _ _
theorem qa4h {R:Type}:LoopOK (R:=R) (hnd 0 qa4d) qa4e qa4c (sub [1,0,1,0,0] qa31) (HS.V qa33) (HS.st qa33) (HS.sh qa33) qa34 (hdOf qa33 qa34):=loopOK_of qa33 qa34 (fun _ _=>rfl) (by intro q v K;kernel_rfl)
theorem qa4i {R:Type}:LoopsOK (R:=R) (hnd 0 qa4d) qa4e qa4c qa31:=loopsOK_of (l:=[sub [1,0,1,0,0] qa31]) (by kernel_rfl) (loopsL_cons (b:=sub [1,0,1,0,0] qa31) (rid:=2) (by kernel_rfl) (by kernel_rfl) qa4h (trivial))
theorem qa4j:SpecOK Tryz.prog 97 qa4b:=specOK_a Tryz.f97 qa4f qa3v (d:=0) qa4g qa4i (rngs0 (by kernel_rfl)) (toY:=qa38)
def qa4k:HS:=⟨[(0, .one (.sl .entry)),(1, .one (.str)),(6, .one (.int .i64))], [],0⟩
def qa4l {R:Type}:Nat→HS.V qa4k→(Ex→St→Option R)→Option R:=fun q v K=>
 ref04_Find_L2 v.1.1 v.1.2.1 (fun y6=>K .ret {regs:=[(4, .v (.one (.int .i64 y6))),(5, .v (.one (.bool true)))],mem:= [],nx:=0}) (K (.exit 0) {regs:= [],mem:= [],nx:=0}) q v.1.2.2.1
def qa4m:List HV:=[.one (.sl .entry), .one (.str)]
def qa4n:List HV:=[.one (.int .i64), .one (.bool)]
def qa4o:HP.V qa4m→(List Entry)×Str:=fun v=>(v.1,v.2.1)
def qa4p:HX.V qa4n→Int×Bool:=fun v=>(v.1,v.2)
def qa4q:(Int×Bool)→HX.V qa4n:=fun y=>(y.1,y.2)
def qa4r:(List Entry)×Str→Option (Int×Bool):=fun x=>ref04_Find x.1 x.2
def qa4s:Spec:=mkSpec qa4m qa4n qa4o qa4q qa4r
def qa4t {R:Type}:List (Nat×Hd R):=[(2,hdOf qa4k qa4l)]
def qa4u {R:Type}:List (Nat×Inl R):= []
def qa4v:Cfg:={T:=qa3t,glob:=GlobL.G Tryz.prog,eqs:=qa3u,N:=25,fuel:=64,loops:=[(2,⟨[0,1,6], [], [],0, [], [], [], []⟩)],blocks:=[(0,⟨[], [], [],0, [], [], [], []⟩)],retA:=some ⟨[4,5], [], [],0, [], [], [], []⟩,fid:=85}
theorem qa4w:CfgOK Tryz.prog qa4v:=cfgC qa3w qa3x trivial
theorem qa4x {R:Type}:SubsOK Tryz.prog (R:=R) 0 qa4u:=subsOK_nil _ _
theorem qa4y {R:Type}:LoopOK (R:=R) (hnd 0 qa4u) qa4v qa4t (sub [1,0,1,0,0] qa30) (HS.V qa4k) (HS.st qa4k) (HS.sh qa4k) qa4l (hdOf qa4k qa4l):=loopOK_of qa4k qa4l (fun _ _=>rfl) (by intro q v K;kernel_rfl)
theorem qa4z {R:Type}:LoopsOK (R:=R) (hnd 0 qa4u) qa4v qa4t qa30:=loopsOK_of (l:=[sub [1,0,1,0,0] qa30]) (by kernel_rfl) (loopsL_cons (b:=sub [1,0,1,0,0] qa30) (rid:=2) (by kernel_rfl) (by kernel_rfl) qa4y (trivial))
theorem qa40:SpecOK Tryz.prog 85 qa4s:=specOK_a Tryz.f85 qa4w qa3v (d:=0) qa4x qa4z (rngs0 (by kernel_rfl)) (toY:=qa4p)
def qa41:HS:=⟨[(0, .one (.sl .entry)),(1, .one (.str)),(5, .one (.own 0)),(6, .one (.int .i64))],[(0, .row .entry)],1⟩
def qa42 {R:Type}:Nat→HS.V qa41→(Ex→St→Option R)→Option R:=fun q v K=>
 ref04_Without_L3 v.1.1 v.1.2.1 (fun y7=>K (.exit 0) {regs:=[(5, .v (.one (.own 0)))],mem:=[(0, .row .entry y7)],nx:=1}) q v.1.2.2.2.1 v.2.1
def qa43:List HV:=[.one (.sl .entry), .one (.str)]
def qa44:List HV:=[.one (.sl .entry)]
def qa45:HP.V qa43→(List Entry)×Str:=fun v=>(v.1,v.2.1)
def qa46:HX.V qa44→(List Entry):=fun v=>(v)
def qa47:(List Entry)→HX.V qa44:=fun y=>(y)
def qa48:(List Entry)×Str→Option ((List Entry)):=fun x=>ref04_Without x.1 x.2
def qa49:Spec:=mkSpec qa43 qa44 qa45 qa47 qa48
def qa5a {R:Type}:List (Nat×Hd R):=[(3,hdOf qa41 qa42)]
def qa5b {R:Type}:List (Nat×Inl R):= []
def qa5c:Cfg:={T:=qa3t,glob:=GlobL.G Tryz.prog,eqs:=qa3u,N:=28,fuel:=64,loops:=[(3,⟨[0,1,5,6],[(5,0, .entry)],[0],1, [], [], [], []⟩)],blocks:=[(0,⟨[5], [],[0],1, [], [], [], []⟩)],fid:=78}
theorem qa5d:CfgOK Tryz.prog qa5c:=cfgC qa3w qa3x trivial
theorem qa5e {R:Type}:SubsOK Tryz.prog (R:=R) 0 qa5b:=subsOK_nil _ _
theorem qa5f {R:Type}:LoopOK (R:=R) (hnd 0 qa5b) qa5c qa5a (sub [1,1,0,1,0,0] qa3z) (HS.V qa41) (HS.st qa41) (HS.sh qa41) qa42 (hdOf qa41 qa42):=loopOK_of qa41 qa42 (fun _ _=>rfl) (by intro q v K;kernel_rfl)
theorem qa5g {R:Type}:LoopsOK (R:=R) (hnd 0 qa5b) qa5c qa5a qa3z:=loopsOK_of (l:=[sub [1,1,0,1,0,0] qa3z]) (by kernel_rfl) (loopsL_cons (b:=sub [1,1,0,1,0,0] qa3z) (rid:=3) (by kernel_rfl) (by kernel_rfl) qa5f (trivial))
theorem qa5h:SpecOK Tryz.prog 78 qa49:=specOK_a Tryz.f78 qa5d qa3v (d:=0) qa5e qa5g (rngs0 (by kernel_rfl)) (toY:=qa46)
def qa5i:HS:=⟨[(1, .one (.str)),(2, .one (.int .i64)),(7, .one (.sl .entry)),(8, .one (.own 0)),(9, .one (.bool)),(10, .one (.int .i64))],[(0, .row .entry)],1⟩
def qa5j {R:Type}:Nat→HS.V qa5i→(Ex→St→Option R)→Option R:=fun q v K=>
 ref04_With_L5 v.1.1 v.1.2.1 v.1.2.2.1 (fun y14 y15=>K (.exit 0) {regs:=[(1, .v (.one (.str v.1.1))),(2, .v (.one (.int .i64 v.1.2.1))),(8, .v (.one (.own 0))),(9, .v (.one (.bool y14)))],mem:=[(0, .row .entry y15)],nx:=1}) q v.1.2.2.2.2.1 v.1.2.2.2.2.2.1 v.2.1
def qa5k:List HV:=[.one (.sl .entry), .one (.str), .one (.int .i64)]
def qa5l:List HV:=[.one (.sl .entry)]
def qa5m:HP.V qa5k→(List Entry)×Str×Int:=fun v=>(v.1,v.2.1,v.2.2.1)
def qa5n:HX.V qa5l→(List Entry):=fun v=>(v)
def qa5o:(List Entry)→HX.V qa5l:=fun y=>(y)
def qa5p:(List Entry)×Str×Int→Option ((List Entry)):=fun x=>ref04_With x.1 x.2.1 x.2.2
def qa5q:Spec:=mkSpec qa5k qa5l qa5m qa5o qa5p
def qa5r {R:Type}:List (Nat×Hd R):=[(5,hdOf qa5i qa5j)]
def qa5s {R:Type}:List (Nat×Inl R):= []
def qa5t:Cfg:={T:=qa3t,spec:=[(78,qa49)],glob:=GlobL.G Tryz.prog,eqs:=qa3u,N:=53,fuel:=64,loops:=[(5,⟨[1,2,7,8,9,10],[(8,0, .entry)],[0],1, [], [], [], []⟩)],blocks:=[(0,⟨[1,2,8,9], [],[0],1, [], [], [], []⟩)],fid:=64}
theorem qa5u:CfgOK Tryz.prog qa5t:=cfgC qa3w qa3x ⟨qa5h,trivial⟩
theorem qa5v {R:Type}:SubsOK Tryz.prog (R:=R) 0 qa5s:=subsOK_nil _ _
theorem qa5w {R:Type}:LoopOK (R:=R) (hnd 0 qa5s) qa5t qa5r (sub [1,1,1,1,0,1,0,0] qa3y) (HS.V qa5i) (HS.st qa5i) (HS.sh qa5i) qa5j (hdOf qa5i qa5j):=loopOK_of qa5i qa5j (fun _ _=>rfl) (by intro q v K;kernel_rfl)
theorem qa5x {R:Type}:LoopsOK (R:=R) (hnd 0 qa5s) qa5t qa5r qa3y:=loopsOK_of (l:=[sub [1,1,1,1,0,1,0,0] qa3y]) (by kernel_rfl) (loopsL_cons (b:=sub [1,1,1,1,0,1,0,0] qa3y) (rid:=5) (by kernel_rfl) (by kernel_rfl) qa5w (trivial))
theorem qa5y:SpecOK Tryz.prog 64 qa5q:=specOK_a Tryz.f64 qa5u qa3v (d:=0) qa5v qa5x (rngs0 (by kernel_rfl)) (toY:=qa5n)
def qa5z:HS:=⟨[(0, .one (.sl .entry)),(1, .one (.sl .entry)),(5, .one (.int .i64))], [],0⟩
def qa50 {R:Type}:Nat→HS.V qa5z→(Ex→St→Option R)→Option R:=fun q v K=>
 ref04_Same_L4 v.1.1 v.1.2.1 (K .ret {regs:=[(4, .v (.one (.bool false)))],mem:= [],nx:=0}) (K (.exit 0) {regs:= [],mem:= [],nx:=0}) q v.1.2.2.1
def qa51:List HV:=[.one (.sl .entry), .one (.sl .entry)]
def qa52:List HV:=[.one (.bool)]
def qa53:HP.V qa51→(List Entry)×(List Entry):=fun v=>(v.1,v.2.1)
def qa54:HX.V qa52→Bool:=fun v=>(v)
def qa55:Bool→HX.V qa52:=fun y=>(y)
def qa56:(List Entry)×(List Entry)→Option (Bool):=fun x=>ref04_Same x.1 x.2
def qa57:Spec:=mkSpec qa51 qa52 qa53 qa55 qa56
def qa58 {R:Type}:List (Nat×Hd R):=[(4,hdOf qa5z qa50)]
def qa59 {R:Type}:List (Nat×Inl R):= []
def qa6a:Cfg:={T:=qa3t,glob:=GlobL.G Tryz.prog,eqs:=qa3u,N:=26,fuel:=64,loops:=[(4,⟨[0,1,5], [], [],0, [], [], [], []⟩)],blocks:=[(0,⟨[], [], [],0, [], [], [], []⟩)],retA:=some ⟨[4], [], [],0, [], [], [], []⟩,fid:=107}
theorem qa6b:CfgOK Tryz.prog qa6a:=cfgC qa3w qa3x trivial
theorem qa6c {R:Type}:SubsOK Tryz.prog (R:=R) 0 qa59:=subsOK_nil _ _
theorem qa6d {R:Type}:LoopOK (R:=R) (hnd 0 qa59) qa6a qa58 (sub [1,1,0,1,0,0] qa32) (HS.V qa5z) (HS.st qa5z) (HS.sh qa5z) qa50 (hdOf qa5z qa50):=loopOK_of qa5z qa50 (fun _ _=>rfl) (by intro q v K;kernel_rfl)
theorem qa6e {R:Type}:LoopsOK (R:=R) (hnd 0 qa59) qa6a qa58 qa32:=loopsOK_of (l:=[sub [1,1,0,1,0,0] qa32]) (by kernel_rfl) (loopsL_cons (b:=sub [1,1,0,1,0,0] qa32) (rid:=4) (by kernel_rfl) (by kernel_rfl) qa6d (trivial))
theorem qa6f:SpecOK Tryz.prog 107 qa57:=specOK_a Tryz.f107 qa6b qa3v (d:=0) qa6c qa6e (rngs0 (by kernel_rfl)) (toY:=qa54)
end
end Go.Eng
set_option linter.unusedVariables false
set_option maxRecDepth 100000
namespace Go.Eng
noncomputable section
open Go Go.Proofs
def qa6g:List (Nat×TI):=[(3,⟨false,1, .one (.int .i64 0), .int .i64⟩),(9,⟨false,1, .one (.str []), .str⟩),(22,⟨false,1, .one (.clip .inode []), .slice .inode 45⟩),(24,⟨true,4, .agg [.int .i64 0, .int .i64 0, .int .i64 0, .clip .inode []], .struct [(0,3),(1,3),(2,3),(3,22)]⟩),(43,⟨false,1, .one (.clip .entry []), .slice .entry 95⟩),(45,⟨true,6, .agg [.int .i64 0, .int .i64 0, .int .i64 0, .str [], .int .i64 0, .clip .entry []], .struct [(0,3),(1,3),(2,3),(3,9),(4,3),(5,43)]⟩),(95,⟨true,2, .agg [.str [], .int .i64 0], .struct [(0,9),(1,3)]⟩)]
def qa6h:List (Nat×List EK):= []
theorem qa6i:Tryz.prog.follows .mixedOrders=true:=by kernel_rfl
theorem qa6j:(qa6g.all fun x=>tiB Tryz.prog x.1 x.2)=true:=by kernel_rfl
theorem qa6k:(qa6h.all fun x=>eqB Tryz.prog x.1 x.2)=true:=by kernel_rfl
def qa6l:Code:=bd Tryz.f27
def qa6m:Code:=bd Tryz.f49
def qa6n:Code:=bd Tryz.f65
def qa6o:Code:=bd Tryz.f79
def qa6p:Code:=bd Tryz.f80
def qa6q:Code:=bd Tryz.f96
def qa6r:HS:=⟨[(1, .one (.int .i64)),(2, .one (.ptr 0 0)),(4, .one (.ptr 1 0)),(6, .one (.int .i64))],[(0, .cells hFs),(1, .cells hIn)],2⟩
def qa6s {R:Type}:Nat→HS.V qa6r→(Ex→St→Option R)→Option R:=fun q v K=>
 ref05_Get_L2 v.1.1 (cFs v.2.1) (fun y8=>K .ret {regs:=[(4, .v (.one (.ptr 1 0))),(5, .v (.one (.bool true)))],mem:=[(1, .cells [.int .i64 y8.ino, .int .i64 y8.kind, .int .i64 y8.links, .str y8.data, .int .i64 y8.parent, .sl .entry y8.entries])],nx:=2}) (K (.exit 0) {regs:=[(4, .v (.one (.ptr 1 0)))],mem:=[(1, .cells (rIn (cIn v.2.2.1)))],nx:=2}) q v.1.2.2.2.1
def qa6t:List HV:=[.agg hFs, .one (.int .i64)]
def qa6u:List HV:=[.agg hIn, .one (.bool)]
def qa6v:HP.V qa6t→Fs×Int:=fun v=>((cFs v.1),v.2.1)
def qa6w:HX.V qa6u→Inode×Bool:=fun v=>((cIn v.1),v.2)
def qa6x:(Inode×Bool)→HX.V qa6u:=fun y=>((y.1.ino,(y.1.kind,(y.1.links,(y.1.data,(y.1.parent,(y.1.entries,())))))),y.2)
def qa6y:(Fs×Int)→Option (Inode×Bool):=fun x=>ref05_Get x.1 x.2
def qa6z:Spec:=mkSpec qa6t qa6u qa6v qa6x qa6y
def qa60 {R:Type}:List (Nat×Hd R):=[(2,hdOf qa6r qa6s)]
def qa61 {R:Type}:List (Nat×Inl R):= []
def qa62:Cfg:={T:=qa6g,glob:=GlobL.G Tryz.prog,eqs:=qa6h,N:=28,fuel:=64,loops:=[(2,⟨[1,2,4,6], [],[0,1],2, [],[1], [], []⟩)],blocks:=[(0,⟨[4], [],[1],2, [], [], [], []⟩)],retA:=some ⟨[4,5], [],[1],2, [],[1], [], []⟩,fid:=27}
theorem qa63:CfgOK Tryz.prog qa62:=cfgC qa6j qa6k trivial
theorem qa64 {R:Type}:SubsOK Tryz.prog (R:=R) 0 qa61:=subsOK_nil _ _
theorem qa65 {R:Type}:LoopOK (R:=R) (hnd 0 qa61) qa62 qa60 (sub [1,0,1,0,0] qa6l) (HS.V qa6r) (HS.st qa6r) (HS.sh qa6r) qa6s (hdOf qa6r qa6s):=loopOK_of qa6r qa6s (fun _ _=>rfl) (by intro q v K;kernel_rfl)
theorem qa66 {R:Type}:LoopsOK (R:=R) (hnd 0 qa61) qa62 qa60 qa6l:=loopsOK_of (l:=[sub [1,0,1,0,0] qa6l]) (by kernel_rfl) (loopsL_cons (b:=sub [1,0,1,0,0] qa6l) (rid:=2) (by kernel_rfl) (by kernel_rfl) qa65 (trivial))
theorem qa67:SpecOK Tryz.prog 27 qa6z:=specOK_a Tryz.f27 qa63 qa6i (d:=0) qa64 qa66 (rngs0 (by kernel_rfl)) (toY:=qa6w)
def qa68:List HV:=[.one (.int .i64), .one (.int .i64)]
def qa69:List HV:=[.agg hFs]
def qa7a:HP.V qa68→Int×Int:=fun v=>(v.1,v.2.1)
def qa7b:HX.V qa69→Fs:=fun v=>((cFs v))
def qa7c:Fs→HX.V qa69:=fun y=>((y.maxInodes,(y.maxBytes,(y.next,(y.inodes,())))))
def qa7d:(Int×Int)→Option (Fs):=fun x=>ref05_New x.1 x.2
def qa7e:Spec:=mkSpec qa68 qa69 qa7a qa7c qa7d
def qa7f:Cfg:={T:=qa6g,glob:=GlobL.G Tryz.prog,eqs:=qa6h,N:=10,fuel:=64,fid:=43}
theorem qa7g:CfgOK Tryz.prog qa7f:=cfgC qa6j qa6k trivial
theorem qa7h:SpecOK Tryz.prog 43 qa7e:=specOK_0 Tryz.f43 qa7g qa6i (toY:=qa7b)
def qa7i:HS:=⟨[(1, .one (.ptr 0 0)),(3, .one (.int .i64))],[(0, .cells hFs)],1⟩
def qa7j {R:Type}:Nat→HS.V qa7i→(Ex→St→Option R)→Option R:=fun q v K=>
 ref05_Rise_L2 (cFs v.2.1) (K .ret {regs:=[(2, .v (.one (.bool false)))],mem:= [],nx:=0}) (K (.exit 0) {regs:= [],mem:= [],nx:=0}) q v.1.2.1
def qa7k:List HV:=[.agg hFs]
def qa7l:List HV:=[.one (.bool)]
def qa7m:HP.V qa7k→Fs:=fun v=>((cFs v.1))
def qa7n:HX.V qa7l→Bool:=fun v=>(v)
def qa7o:Bool→HX.V qa7l:=fun y=>(y)
def qa7p:Fs→Option (Bool):=fun x=>ref05_Rise x
def qa7q:Spec:=mkSpec qa7k qa7l qa7m qa7o qa7p
def qa7r {R:Type}:List (Nat×Hd R):=[(2,hdOf qa7i qa7j)]
def qa7s {R:Type}:List (Nat×Inl R):= []
def qa7t:Cfg:={T:=qa6g,glob:=GlobL.G Tryz.prog,eqs:=qa6h,N:=25,fuel:=64,loops:=[(2,⟨[1,3], [],[0],1, [], [], [], []⟩)],blocks:=[(0,⟨[], [], [],0, [], [], [], []⟩)],retA:=some ⟨[2], [], [],0, [], [], [], []⟩,fid:=96}
theorem qa7u:CfgOK Tryz.prog qa7t:=cfgC qa6j qa6k trivial
theorem qa7v {R:Type}:SubsOK Tryz.prog (R:=R) 0 qa7s:=subsOK_nil _ _
theorem qa7w {R:Type}:LoopOK (R:=R) (hnd 0 qa7s) qa7t qa7r (sub [1,0,1,0,0] qa6q) (HS.V qa7i) (HS.st qa7i) (HS.sh qa7i) qa7j (hdOf qa7i qa7j):=loopOK_of qa7i qa7j (fun _ _=>rfl) (by intro q v K;kernel_rfl)
theorem qa7x {R:Type}:LoopsOK (R:=R) (hnd 0 qa7s) qa7t qa7r qa6q:=loopsOK_of (l:=[sub [1,0,1,0,0] qa6q]) (by kernel_rfl) (loopsL_cons (b:=sub [1,0,1,0,0] qa6q) (rid:=2) (by kernel_rfl) (by kernel_rfl) qa7w (trivial))
theorem qa7y:SpecOK Tryz.prog 96 qa7q:=specOK_a Tryz.f96 qa7u qa6i (d:=0) qa7v qa7x (rngs0 (by kernel_rfl)) (toY:=qa7n)
def qa7z:HS:=⟨[(1, .one (.ptr 0 0)),(3, .one (.int .i64)),(4, .one (.ptr 1 0)),(5, .one (.int .i64))],[(0, .cells hFs),(1, .cells hIn)],2⟩
def qa70 {R:Type}:Nat→HS.V qa7z→(Ex→St→Option R)→Option R:=fun q v K=>
 ref05_Few_L8 (cIn v.2.2.1) (K .ret {regs:=[(2, .v (.one (.bool false)))],mem:= [],nx:=0}) (K (.exit 2) {regs:=[(1, .v (.one (.ptr 0 0))),(3, .v (.one (.int .i64 v.1.2.1)))],mem:=[(0, .cells (rFs (cFs v.2.1)))],nx:=1}) q v.1.2.2.2.1
def qa71:HS:=⟨[(1, .one (.ptr 0 0)),(3, .one (.int .i64))],[(0, .cells hFs)],1⟩
def qa72 {R:Type}:Nat→HS.V qa71→(Ex→St→Option R)→Option R:=fun q v K=>
 ref05_Few_L2 (cFs v.2.1) (K .ret {regs:=[(2, .v (.one (.bool false)))],mem:= [],nx:=0}) (K (.exit 0) {regs:=[(1, .v (.one (.ptr 0 0)))],mem:=[(0, .cells (rFs (cFs v.2.1)))],nx:=1}) q v.1.2.1
def qa73:List HV:=[.agg hFs]
def qa74:List HV:=[.one (.bool)]
def qa75:HP.V qa73→Fs:=fun v=>((cFs v.1))
def qa76:HX.V qa74→Bool:=fun v=>(v)
def qa77:Bool→HX.V qa74:=fun y=>(y)
def qa78:Fs→Option (Bool):=fun x=>ref05_Few x
def qa79:Spec:=mkSpec qa73 qa74 qa75 qa77 qa78
def qa8a {R:Type}:List (Nat×Hd R):=[(2,hdOf qa71 qa72),(8,hdOf qa7z qa70)]
def qa8b {R:Type}:List (Nat×Inl R):= []
def qa8c:Cfg:={T:=qa6g,glob:=GlobL.G Tryz.prog,eqs:=qa6h,N:=51,fuel:=64,loops:=[(8,⟨[1,3,4,5], [],[0,1],2, [], [], [], []⟩),(2,⟨[1,3], [],[0],1, [], [], [], []⟩)],blocks:=[(0,⟨[1], [],[0],1, [], [], [], []⟩),(1,⟨[1,3], [],[0],1, [], [], [], []⟩),(2,⟨[1,3], [],[0],1, [], [], [], []⟩)],retA:=some ⟨[2], [], [],0, [], [], [], []⟩,fid:=80}
theorem qa8d:CfgOK Tryz.prog qa8c:=cfgC qa6j qa6k trivial
theorem qa8e {R:Type}:SubsOK Tryz.prog (R:=R) 0 qa8b:=subsOK_nil _ _
theorem qa8f {R:Type}:LoopOK (R:=R) (hnd 0 qa8b) qa8c qa8a (sub [1,0,1,0,0] qa6p) (HS.V qa71) (HS.st qa71) (HS.sh qa71) qa72 (hdOf qa71 qa72):=loopOK_of qa71 qa72 (fun _ _=>rfl) (by intro q v K;kernel_rfl)
theorem qa8g {R:Type}:LoopOK (R:=R) (hnd 0 qa8b) qa8c qa8a (sub [1,0,1,0,0,1,0,0,1,1,1,0,0] qa6p) (HS.V qa7z) (HS.st qa7z) (HS.sh qa7z) qa70 (hdOf qa7z qa70):=loopOK_of qa7z qa70 (fun _ _=>rfl) (by intro q v K;kernel_rfl)
theorem qa8h {R:Type}:LoopsOK (R:=R) (hnd 0 qa8b) qa8c qa8a qa6p:=loopsOK_of (l:=[sub [1,0,1,0,0] qa6p,sub [1,0,1,0,0,1,0,0,1,1,1,0,0] qa6p]) (by kernel_rfl) (loopsL_cons (b:=sub [1,0,1,0,0] qa6p) (rid:=2) (by kernel_rfl) (by kernel_rfl) qa8f (loopsL_cons (b:=sub [1,0,1,0,0,1,0,0,1,1,1,0,0] qa6p) (rid:=8) (by kernel_rfl) (by kernel_rfl) qa8g (trivial)))
theorem qa8i:SpecOK Tryz.prog 80 qa79:=specOK_a Tryz.f80 qa8d qa6i (d:=0) qa8e qa8h (rngs0 (by kernel_rfl)) (toY:=qa76)
def qa8j:HS:=⟨[(1, .one (.int .i64)),(2, .one (.ptr 0 0)),(4, .one (.ptr 1 0)),(5, .one (.own 2)),(6, .one (.int .i64))],[(0, .cells hFs),(1, .cells hFs),(2, .row .inode)],3⟩
def qa8k {R:Type}:Nat→HS.V qa8j→(Ex→St→Option R)→Option R:=fun q v K=>
 ref05_Drop_L3 v.1.1 (cFs v.2.1) (fun y10=>K (.exit 0) {regs:=[(2, .v (.one (.ptr 0 0))),(4, .v (.one (.ptr 1 0))),(5, .v (.one (.own 2)))],mem:=[(0, .cells (rFs (cFs v.2.1))),(1, .cells (rFs (cFs v.2.2.1))),(2, .row .inode y10)],nx:=3}) q v.1.2.2.2.2.1 v.2.2.2.1
def qa8l:List HV:=[.agg hFs, .one (.int .i64)]
def qa8m:List HV:=[.agg hFs]
def qa8n:HP.V qa8l→Fs×Int:=fun v=>((cFs v.1),v.2.1)
def qa8o:HX.V qa8m→Fs:=fun v=>((cFs v))
def qa8p:Fs→HX.V qa8m:=fun y=>((y.maxInodes,(y.maxBytes,(y.next,(y.inodes,())))))
def qa8q:(Fs×Int)→Option (Fs):=fun x=>ref05_Drop x.1 x.2
def qa8r:Spec:=mkSpec qa8l qa8m qa8n qa8p qa8q
def qa8s {R:Type}:List (Nat×Hd R):=[(3,hdOf qa8j qa8k)]
def qa8t {R:Type}:List (Nat×Inl R):= []
def qa8u:Cfg:={T:=qa6g,glob:=GlobL.G Tryz.prog,eqs:=qa6h,N:=33,fuel:=64,loops:=[(3,⟨[1,2,4,5,6],[(5,2, .inode)],[0,1,2],3, [],[1], [], []⟩)],blocks:=[(0,⟨[2,4,5], [],[0,1,2],3, [], [], [], []⟩)],fid:=79}
theorem qa8v:CfgOK Tryz.prog qa8u:=cfgC qa6j qa6k trivial
theorem qa8w {R:Type}:SubsOK Tryz.prog (R:=R) 0 qa8t:=subsOK_nil _ _
theorem qa8x {R:Type}:LoopOK (R:=R) (hnd 0 qa8t) qa8u qa8s (sub [1,1,0,1,0,0] qa6o) (HS.V qa8j) (HS.st qa8j) (HS.sh qa8j) qa8k (hdOf qa8j qa8k):=loopOK_of qa8j qa8k (fun _ _=>rfl) (by intro q v K;kernel_rfl)
theorem qa8y {R:Type}:LoopsOK (R:=R) (hnd 0 qa8t) qa8u qa8s qa6o:=loopsOK_of (l:=[sub [1,1,0,1,0,0] qa6o]) (by kernel_rfl) (loopsL_cons (b:=sub [1,1,0,1,0,0] qa6o) (rid:=3) (by kernel_rfl) (by kernel_rfl) qa8x (trivial))
theorem qa8z:SpecOK Tryz.prog 79 qa8r:=specOK_a Tryz.f79 qa8v qa6i (d:=0) qa8w qa8y (rngs0 (by kernel_rfl)) (toY:=qa8o)
def qa80:HS:=⟨[(2, .one (.ptr 0 0)),(3, .one (.ptr 1 0)),(4, .one (.ptr 2 0)),(5, .one (.sl .inode)),(6, .one (.own 3)),(7, .one (.bool)),(8, .one (.int .i64))],[(0, .cells hFs),(1, .cells hIn),(2, .cells hFs),(3, .row .inode)],4⟩
def qa81 {R:Type}:Nat→HS.V qa80→(Ex→St→Option R)→Option R:=fun q v K=>
 ref05_Set_L5 v.1.2.2.2.1 (cIn v.2.2.1) (fun y13 y17=>K (.exit 0) {regs:=[(2, .v (.one (.ptr 0 0))),(3, .v (.one (.ptr 1 0))),(4, .v (.one (.ptr 2 0))),(6, .v (.one (.own 3))),(7, .v (.one (.bool y13)))],mem:=[(0, .cells (rFs (cFs v.2.1))),(1, .cells (rIn (cIn v.2.2.1))),(2, .cells (rFs (cFs v.2.2.2.1))),(3, .row .inode y17)],nx:=4}) q v.1.2.2.2.2.2.1 v.1.2.2.2.2.2.2.1 v.2.2.2.2.1
def qa82:List HV:=[.agg hFs, .agg hIn]
def qa83:List HV:=[.agg hFs]
def qa84:HP.V qa82→Fs×Inode:=fun v=>((cFs v.1),(cIn v.2.1))
def qa85:HX.V qa83→Fs:=fun v=>((cFs v))
def qa86:Fs→HX.V qa83:=fun y=>((y.maxInodes,(y.maxBytes,(y.next,(y.inodes,())))))
def qa87:(Fs×Inode)→Option (Fs):=fun x=>ref05_Set x.1 x.2
def qa88:Spec:=mkSpec qa82 qa83 qa84 qa86 qa87
def qa89 {R:Type}:List (Nat×Hd R):=[(5,hdOf qa80 qa81)]
def qa9a {R:Type}:List (Nat×Inl R):= []
def qa9b:Cfg:={T:=qa6g,spec:=[(79,qa8r)],glob:=GlobL.G Tryz.prog,eqs:=qa6h,N:=52,fuel:=64,loops:=[(5,⟨[2,3,4,5,6,7,8],[(6,3, .inode)],[0,1,2,3],4, [],[2], [], []⟩)],blocks:=[(0,⟨[2,3,4,6,7], [],[0,1,2,3],4, [], [], [], []⟩)],fid:=65}
theorem qa9c:CfgOK Tryz.prog qa9b:=cfgC qa6j qa6k ⟨qa8z,trivial⟩
theorem qa9d {R:Type}:SubsOK Tryz.prog (R:=R) 0 qa9a:=subsOK_nil _ _
theorem qa9e {R:Type}:LoopOK (R:=R) (hnd 0 qa9a) qa9b qa89 (sub [1,1,1,1,0,1,0,0] qa6n) (HS.V qa80) (HS.st qa80) (HS.sh qa80) qa81 (hdOf qa80 qa81):=loopOK_of qa80 qa81 (fun _ _=>rfl) (by intro q v K;kernel_rfl)
theorem qa9f {R:Type}:LoopsOK (R:=R) (hnd 0 qa9a) qa9b qa89 qa6n:=loopsOK_of (l:=[sub [1,1,1,1,0,1,0,0] qa6n]) (by kernel_rfl) (loopsL_cons (b:=sub [1,1,1,1,0,1,0,0] qa6n) (rid:=5) (by kernel_rfl) (by kernel_rfl) qa9e (trivial))
theorem qa9g:SpecOK Tryz.prog 65 qa88:=specOK_a Tryz.f65 qa9c qa6i (d:=0) qa9d qa9f (rngs0 (by kernel_rfl)) (toY:=qa85)
def qa9h:List HV:=[.agg hIn, .agg hIn]
def qa9i:List HV:=[.one (.bool)]
def qa9j:HP.V qa9h→Inode×Inode:=fun v=>((cIn v.1),(cIn v.2.1))
def qa9k:HX.V qa9i→Bool:=fun v=>(v)
def qa9l:Bool→HX.V qa9i:=fun y=>(y)
def qa9m:(Inode×Inode)→Option (Bool):=fun x=>ref05_One x.1 x.2
def qa9n:Spec:=mkSpec qa9h qa9i qa9j qa9l qa9m
def qa9o:Cfg:={T:=qa6g,spec:=[(107,qa57)],glob:=GlobL.G Tryz.prog,eqs:=qa6h,N:=45,fuel:=64,fid:=81}
theorem qa9p:CfgOK Tryz.prog qa9o:=cfgC qa6j qa6k ⟨qa6f,trivial⟩
theorem qa9q:SpecOK Tryz.prog 81 qa9n:=specOK_0 Tryz.f81 qa9p qa6i (toY:=qa9k)
def qa9r:HS:=⟨[(0, .one (.sl .inode)),(1, .one (.sl .inode)),(5, .one (.int .i64))], [],0⟩
def qa9s {R:Type}:Nat→HS.V qa9r→(Ex→St→Option R)→Option R:=fun q v K=>
 ref05_Ones_L4 v.1.1 v.1.2.1 (K .ret {regs:=[(4, .v (.one (.bool false)))],mem:= [],nx:=0}) (K (.exit 0) {regs:= [],mem:= [],nx:=0}) q v.1.2.2.1
def qa9t:List HV:=[.one (.sl .inode), .one (.sl .inode)]
def qa9u:List HV:=[.one (.bool)]
def qa9v:HP.V qa9t→(List Inode)×(List Inode):=fun v=>(v.1,v.2.1)
def qa9w:HX.V qa9u→Bool:=fun v=>(v)
def qa9x:Bool→HX.V qa9u:=fun y=>(y)
def qa9y:(List Inode)×(List Inode)→Option (Bool):=fun x=>ref05_Ones x.1 x.2
def qa9z:Spec:=mkSpec qa9t qa9u qa9v qa9x qa9y
def qa90 {R:Type}:List (Nat×Hd R):=[(4,hdOf qa9r qa9s)]
def qa91 {R:Type}:List (Nat×Inl R):= []
def qa92:Cfg:={T:=qa6g,spec:=[(81,qa9n)],glob:=GlobL.G Tryz.prog,eqs:=qa6h,N:=27,fuel:=64,loops:=[(4,⟨[0,1,5], [], [],0, [], [], [], []⟩)],blocks:=[(0,⟨[], [], [],0, [], [], [], []⟩)],retA:=some ⟨[4], [], [],0, [], [], [], []⟩,fid:=49}
theorem qa93:CfgOK Tryz.prog qa92:=cfgC qa6j qa6k ⟨qa9q,trivial⟩
theorem qa94 {R:Type}:SubsOK Tryz.prog (R:=R) 0 qa91:=subsOK_nil _ _
theorem qa95 {R:Type}:LoopOK (R:=R) (hnd 0 qa91) qa92 qa90 (sub [1,1,0,1,0,0] qa6m) (HS.V qa9r) (HS.st qa9r) (HS.sh qa9r) qa9s (hdOf qa9r qa9s):=loopOK_of qa9r qa9s (fun _ _=>rfl) (by intro q v K;kernel_rfl)
theorem qa96 {R:Type}:LoopsOK (R:=R) (hnd 0 qa91) qa92 qa90 qa6m:=loopsOK_of (l:=[sub [1,1,0,1,0,0] qa6m]) (by kernel_rfl) (loopsL_cons (b:=sub [1,1,0,1,0,0] qa6m) (rid:=4) (by kernel_rfl) (by kernel_rfl) qa95 (trivial))
theorem qa97:SpecOK Tryz.prog 49 qa9z:=specOK_a Tryz.f49 qa93 qa6i (d:=0) qa94 qa96 (rngs0 (by kernel_rfl)) (toY:=qa9w)
def qa98:List HV:=[.agg hFs, .agg hFs]
def qa99:List HV:=[.one (.bool)]
def qbaa:HP.V qa98→Fs×Fs:=fun v=>((cFs v.1),(cFs v.2.1))
def qbab:HX.V qa99→Bool:=fun v=>(v)
def qbac:Bool→HX.V qa99:=fun y=>(y)
def qbad:(Fs×Fs)→Option (Bool):=fun x=>ref05_Same x.1 x.2
def qbae:Spec:=mkSpec qa98 qa99 qbaa qbac qbad
def qbaf:Cfg:={T:=qa6g,spec:=[(49,qa9z)],glob:=GlobL.G Tryz.prog,eqs:=qa6h,N:=31,fuel:=64,fid:=19}
theorem qbag:CfgOK Tryz.prog qbaf:=cfgC qa6j qa6k ⟨qa97,trivial⟩
theorem qbah:SpecOK Tryz.prog 19 qbae:=specOK_0 Tryz.f19 qbag qa6i (toY:=qbab)
end
end Go.Eng
set_option linter.unusedVariables false
set_option maxRecDepth 100000
namespace Go.Eng
noncomputable section
open Go Go.Proofs
def qbai:List (Nat×TI):=[(3,⟨false,1, .one (.int .i64 0), .int .i64⟩),(9,⟨false,1, .one (.str []), .str⟩),(22,⟨false,1, .one (.clip .inode []), .slice .inode 45⟩),(24,⟨true,4, .agg [.int .i64 0, .int .i64 0, .int .i64 0, .clip .inode []], .struct [(0,3),(1,3),(2,3),(3,22)]⟩),(45,⟨true,6, .agg [.int .i64 0, .int .i64 0, .int .i64 0, .str [], .int .i64 0, .clip .entry []], .struct [(0,3),(1,3),(2,3),(3,9),(4,3),(5,43)]⟩)]
def qbaj:List (Nat×List EK):= []
theorem qbak:Tryz.prog.follows .mixedOrders=true:=by kernel_rfl
theorem qbal:(qbai.all fun x=>tiB Tryz.prog x.1 x.2)=true:=by kernel_rfl
theorem qbam:(qbaj.all fun x=>eqB Tryz.prog x.1 x.2)=true:=by kernel_rfl
def qban:Code:=bd Tryz.f95
def qbao:HS:=⟨[(1, .one (.ptr 0 0)),(3, .one (.int .i64)),(4, .one (.int .i64))],[(0, .cells hFs)],1⟩
def qbap {R:Type}:Nat→HS.V qbao→(Ex→St→Option R)→Option R:=fun q v K=>
 ref06_Bytes_L3 (cFs v.2.1) (fun y6=>K (.exit 0) {regs:=[(3, .v (.one (.int .i64 y6)))],mem:= [],nx:=0}) q v.1.2.1 v.1.2.2.1
def qbaq:List HV:=[.agg hFs]
def qbar:List HV:=[.one (.int .i64)]
def qbas:HP.V qbaq→Fs:=fun v=>((cFs v.1))
def qbat:HX.V qbar→Int:=fun v=>(v)
def qbau:Int→HX.V qbar:=fun y=>(y)
def qbav:Fs→Option (Int):=fun x=>ref06_Bytes x
def qbaw:Spec:=mkSpec qbaq qbar qbas qbau qbav
def qbax {R:Type}:List (Nat×Hd R):=[(3,hdOf qbao qbap)]
def qbay {R:Type}:List (Nat×Inl R):= []
def qbaz:Cfg:={T:=qbai,glob:=GlobL.G Tryz.prog,eqs:=qbaj,N:=29,fuel:=64,loops:=[(3,⟨[1,3,4], [],[0],1, [], [], [], []⟩)],blocks:=[(0,⟨[3], [], [],0, [], [], [], []⟩)],fid:=95}
theorem qba0:CfgOK Tryz.prog qbaz:=cfgC qbal qbam trivial
theorem qba1 {R:Type}:SubsOK Tryz.prog (R:=R) 0 qbay:=subsOK_nil _ _
theorem qba2 {R:Type}:LoopOK (R:=R) (hnd 0 qbay) qbaz qbax (sub [1,1,0,1,0,0] qban) (HS.V qbao) (HS.st qbao) (HS.sh qbao) qbap (hdOf qbao qbap):=loopOK_of qbao qbap (fun _ _=>rfl) (by intro q v K;kernel_rfl)
theorem qba3 {R:Type}:LoopsOK (R:=R) (hnd 0 qbay) qbaz qbax qban:=loopsOK_of (l:=[sub [1,1,0,1,0,0] qban]) (by kernel_rfl) (loopsL_cons (b:=sub [1,1,0,1,0,0] qban) (rid:=3) (by kernel_rfl) (by kernel_rfl) qba2 (trivial))
theorem qba4:SpecOK Tryz.prog 95 qbaw:=specOK_a Tryz.f95 qba0 qbak (d:=0) qba1 qba3 (rngs0 (by kernel_rfl)) (toY:=qbat)
def qba5:List HV:=[.agg hFs, .one (.int .i64), .one (.int .i64)]
def qba6:List HV:=[.one (.bool)]
def qba7:HP.V qba5→Fs×Int×Int:=fun v=>((cFs v.1),v.2.1,v.2.2.1)
def qba8:HX.V qba6→Bool:=fun v=>(v)
def qba9:Bool→HX.V qba6:=fun y=>(y)
def qbba:(Fs×Int×Int)→Option (Bool):=fun x=>ref06_Fits x.1 x.2.1 x.2.2
def qbbb:Spec:=mkSpec qba5 qba6 qba7 qba9 qbba
def qbbc:Cfg:={T:=qbai,spec:=[(95,qbaw)],glob:=GlobL.G Tryz.prog,eqs:=qbaj,N:=22,fuel:=64,fid:=63}
theorem qbbd:CfgOK Tryz.prog qbbc:=cfgC qbal qbam ⟨qba4,trivial⟩
theorem qbbe:SpecOK Tryz.prog 63 qbbb:=specOK_0 Tryz.f63 qbbd qbak (toY:=qba8)
end
end Go.Eng
