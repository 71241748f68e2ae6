/- A part of the proofs of the laws of this seat: the engine that reads the program's code, plain functions, or facts of the program's functions. Conditions: none. -/
import Derived.Ground.NamesProg
import Derived.Shelf.Small.Strs
import Derived.Shelf.Strings.Search1
import Derived.Shelf.Strings.OnBuilder
import Derived.Test.YtmhkgpaphifdpaaGreatDoorProg
import Derived.Test.YtmhkgpaphifdpaaGreatDoorP1
import Derived.Test.YtmhkgpaphifdpaaGreatDoorE4
set_option linter.unusedSectionVars false
set_option linter.unusedVariables false
set_option linter.unusedSimpArgs false
set_option linter.unnecessarySimpa false
namespace Go.Proofs
open Go.Shelf
def Tryz.lays106_ren:Go.Shelf.Ren:=⟨fun|106=>116|213=>141|265=>152|n=>n,fun|9=>9|3=>3|n=>n,fun|n=>n⟩
theorem Tryz.lays106:Go.Proofs.Lays.n106 Tryz.prog Tryz.lays106_ren:={
 mixed:=by kernel_rfl
 f106:=Tryz.func116.trans (congrArg some (by kernel_rfl))
 f213:=Tryz.func141.trans (congrArg some (by kernel_rfl))
 f265:=Tryz.func152.trans (congrArg some (by kernel_rfl))
 t3:=Tryz.underlying3
 a3:=Tryz.isAgg3
 z3:=Tryz.sizeOf3
 v3:=Tryz.zeroValue3
 t9:=Tryz.underlying9
 a9:=Tryz.isAgg9
 z9:=Tryz.sizeOf9
 v9:=Tryz.zeroValue9}
def Tryz.lays217_ren:Go.Shelf.Ren:=⟨fun|217=>131|266=>147|n=>n,fun|9=>9|5=>5|3=>3|n=>n,fun|n=>n⟩
theorem Tryz.lays217:Go.Proofs.Lays.n217 Tryz.prog Tryz.lays217_ren:={
 mixed:=by kernel_rfl
 f217:=Tryz.func131.trans (congrArg some (by kernel_rfl))
 f266:=Tryz.func147.trans (congrArg some (by kernel_rfl))
 t3:=Tryz.underlying3
 a3:=Tryz.isAgg3
 z3:=Tryz.sizeOf3
 v3:=Tryz.zeroValue3
 t5:=Tryz.underlying5
 a5:=Tryz.isAgg5
 z5:=Tryz.sizeOf5
 v5:=Tryz.zeroValue5
 t9:=Tryz.underlying9
 a9:=Tryz.isAgg9
 z9:=Tryz.sizeOf9
 v9:=Tryz.zeroValue9}
def Tryz.lays156_ren:Go.Shelf.Ren:=⟨fun|156=>164|165=>166|166=>167|169=>168|240=>169|241=>170|276=>171|277=>172|n=>n,fun|31=>65|9=>9|3=>3|4=>4|0=>0|20=>20|72=>167|76=>171|70=>164|37=>165|75=>170|127=>174|164=>175|5=>5|80=>173|n=>n,fun|n=>n⟩
theorem Tryz.lays156:Go.Proofs.Lays.n156 Tryz.prog Tryz.lays156_ren:={
 mixed:=by kernel_rfl
 f156:=Tryz.func164.trans (congrArg some (by kernel_rfl))
 f165:=Tryz.func166.trans (congrArg some (by kernel_rfl))
 f166:=Tryz.func167.trans (congrArg some (by kernel_rfl))
 f169:=Tryz.func168.trans (congrArg some (by kernel_rfl))
 f240:=Tryz.func169.trans (congrArg some (by kernel_rfl))
 f241:=Tryz.func170.trans (congrArg some (by kernel_rfl))
 f276:=Tryz.func171.trans (congrArg some (by kernel_rfl))
 f277:=Tryz.func172.trans (congrArg some (by kernel_rfl))
 t0:=Tryz.underlying0
 a0:=Tryz.isAgg0
 z0:=Tryz.sizeOf0
 v0:=Tryz.zeroValue0
 t3:=Tryz.underlying3
 a3:=Tryz.isAgg3
 z3:=Tryz.sizeOf3
 v3:=Tryz.zeroValue3
 t4:=Tryz.underlying4
 a4:=Tryz.isAgg4
 z4:=Tryz.sizeOf4
 v4:=Tryz.zeroValue4
 t9:=Tryz.underlying9
 a9:=Tryz.isAgg9
 z9:=Tryz.sizeOf9
 v9:=Tryz.zeroValue9
 t20:=Tryz.underlying20
 a20:=Tryz.isAgg20
 z20:=Tryz.sizeOf20
 v20:=Tryz.zeroValue20
 t31:=Tryz.underlying65
 a31:=Tryz.isAgg65
 z31:=Tryz.sizeOf65
 v31:=Tryz.zeroValue65
 t37:=Tryz.underlying165
 a37:=Tryz.isAgg165
 z37:=Tryz.sizeOf165
 v37:=Tryz.zeroValue165
 t70:=Tryz.underlying164
 a70:=Tryz.isAgg164
 z70:=Tryz.sizeOf164
 v70:=Tryz.zeroValue164
 t72:=Tryz.underlying167
 a72:=Tryz.isAgg167
 z72:=Tryz.sizeOf167
 v72:=Tryz.zeroValue167
 t75:=Tryz.underlying170
 a75:=Tryz.isAgg170
 z75:=Tryz.sizeOf170
 v75:=Tryz.zeroValue170
 t76:=Tryz.underlying171
 a76:=Tryz.isAgg171
 z76:=Tryz.sizeOf171
 v76:=Tryz.zeroValue171
 t127:=Tryz.underlying174
 a127:=Tryz.isAgg174
 z127:=Tryz.sizeOf174
 v127:=Tryz.zeroValue174
 t164:=Tryz.underlying175
 a164:=Tryz.isAgg175
 z164:=Tryz.sizeOf175
 v164:=Tryz.zeroValue175}
end Go.Proofs
set_option linter.unusedVariables false
set_option maxRecDepth 100000
namespace Go.Eng
open Go Go.Proofs Go.Shelf
noncomputable instance:GlobL Tryz.prog:=⟨[]⟩
noncomputable def strings_Compare_sp:Spec:=mkSpec (X:=Str×Str) (Y:=Int) [.one .str, .one .str] [.one (.int .i64)] (fun v=>(v.1,v.2.1)) (fun y=>y) (fun x=>strings_Compare x.1 x.2)
theorem strings_Compare_ok:SpecOK Tryz.prog 116 strings_Compare_sp where
 enters:=enters_of Tryz.func116 (by kernel_rfl) rfl
 calls:=by
  intro S w args vs x y hS _ hal hp hf;simp only[strings_Compare_sp,mkSpec] at hp hf⊢;split at hp
  ·rename_i v hv
   cases hp;cases hf;rw[HP.eq hv] at hal;cases hal with
   |cons h1 h2=>
    cases h2 with
    |cons h2 h3=>
     cases h3;rename_i v1 v2;cases (show VA _ w (.str v.1) v1 from h1) with
     |str _ b1 e1=>
      cases (show VA _ w (.str v.2.1) v2 from h2) with
      |str _ b2 e2=>
       refine(Any.strings_Compare Tryz.lays106 b1 b2 w).mono ?_;rintro e w' ⟨rfl,rfl⟩;refine⟨_,rfl,Go.RowKit.Below.refl _ _, ?_⟩;rw[e1,e2];exact VA.int _ _
  ·cases hp
noncomputable def stringslite_IndexByte_sp:Spec:=mkSpec (X:=Str×Int) (Y:=Int) [.one .str, .one (.int .u8)] [.one (.int .i64)] (fun v=>(v.1,v.2.1)) (fun y=>y) (fun x=>stringslite_IndexByte x.1 x.2)
theorem stringslite_IndexByte_ok:SpecOK Tryz.prog 131 stringslite_IndexByte_sp where
 enters:=enters_of Tryz.func131 (by kernel_rfl) rfl
 calls:=by
  intro S w args vs x y hS _ hal hp hf;simp only[stringslite_IndexByte_sp,mkSpec] at hp hf⊢;split at hp
  ·rename_i v hv
   cases hp;cases hf;rw[HP.eq hv] at hal;cases hal with
   |cons h1 h2=>
    cases h2 with
    |cons h2 h3=>
     cases h3;rename_i v1 v2;cases (show VA _ w (.str v.1) v1 from h1) with
     |str _ b1 e1=>
      cases (show VA _ w (.int .u8 v.2.1) v2 from h2) with
      |int _ _=>
       refine(Any.stringslite_IndexByte Tryz.lays217 b1 v.2.1 w).mono ?_;rintro e w' ⟨rfl,rfl⟩;refine⟨_,rfl,Go.RowKit.Below.refl _ _, ?_⟩;rw[e1];exact VA.int _ _
  ·cases hp
theorem bx156:Go.Proofs.Builder.Extra Tryz.prog Tryz.lays156_ren where
 sizeBuilder:=by kernel_rfl
 liesBuilder:=by kernel_rfl
 t5:=Tryz.underlying5
 a5:=Tryz.isAgg5
 z5:=Tryz.sizeOf5
 v5:=Tryz.zeroValue5
 infoByte:=by kernel_rfl
 cellsByte:=by kernel_rfl
 sizeByte:=by kernel_rfl
 neB5:=by decide
noncomputable def strings_Join_sp:Spec:=mkSpec (X:=List Str×Str) (Y:=Str) [.one (.sl .str), .one .str] [.one .str] (fun v=>(v.1,v.2.1)) (fun y=>y) (fun x=>strings_Join x.1 x.2)
theorem strings_Join_ok:SpecOK Tryz.prog 164 strings_Join_sp where
 enters:=enters_of Tryz.func164 (by kernel_rfl) rfl
 calls:=by
  intro S w args vs x y hS _ hal hp hf;simp only[strings_Join_sp,mkSpec] at hp hf⊢;split at hp
  ·rename_i v hv
   cases hp;unfold strings_Join at hf;split at hf
   rotate_left
   ·cases hf
   rename_i hlen;have hlen:(Lib.join v.1 v.2.1).length+List.length v.1≤67108864:=hlen;cases hf;rw[HP.eq hv] at hal;cases hal with
   |cons h1 h2=>
    cases h2 with
    |cons h2 h3=>
     cases h3;rename_i v1 v2;cases (show VA _ w (.sl .str v.1) v1 from h1) with
     |sl _ _ ad len cap bk of f hn hc ha hcell hff=>
      cases (show VA _ w (.str v.2.1) v2 from h2) with
      |str _ b2 e2=>
       by_cases hne:v.1= []
       ·have hlen0:len=0:=by rw[hn,hne];rfl
        subst hlen0;refine(Any.strings_Join_none Tryz.lays156 bx156 ad cap b2 w).mono ?_;rintro e w' ⟨rfl,rfl⟩;refine⟨_,rfl,Go.RowKit.Below.refl _ _, ?_⟩;rw[hne];exact VA.str _ _ rfl
       ·obtain⟨rfl,hSb⟩:=ha hne
        obtain⟨xs,hxl,hxs,hxd⟩:=texts_of (w:=w) (bk:=bk) (of:=of) v.1 (fun i hi=>by
         have:=hcell i 0 hi (by decide);have h9:=hff i v.1[i] 0 (.str v.1[i]) (by simp [hi]) rfl;generalize f i 0=u at this h9;cases h9 with
         |str _ b e=>exact⟨b,by simpa [Ty.n] using this,e⟩)
        subst hn;have:=Any.strings_Join Tryz.lays156 bx156 bk of cap xs b2 w hxs (hS bk hSb) (by
         rw[hxl];omega) (by rw[hxl];exact hc) (by
         rw[hxd,e2];omega)
        rw[hxl] at this;refine this.mono ?_;rintro e w' ⟨rfl,hb⟩;refine⟨_,rfl,hb, ?_⟩;rw[hxd,e2];exact VA.str _ _ (by simp)
  ·cases hp
theorem ovl117:OvlOK Tryz.prog 117:=ovlOK_of Tryz.func117 (by kernel_rfl) (by kernel_rfl) (tS:=43) (tR:=4) (e:=95) (size:=2) (by kernel_rfl) (by kernel_rfl) (by kernel_rfl) Tryz.sizeOf95
theorem ovl119:OvlOK Tryz.prog 119:=ovlOK_of Tryz.func119 (by kernel_rfl) (by kernel_rfl) (tS:=22) (tR:=4) (e:=45) (size:=6) (by kernel_rfl) (by kernel_rfl) (by kernel_rfl) Tryz.sizeOf45
end Go.Eng
set_option linter.unusedVariables false
set_option maxRecDepth 100000
namespace Go.Eng
noncomputable section
open Go Go.Proofs
def qaaa:List (Nat×TI):=[(3,⟨false,1, .one (.int .i64 0), .int .i64⟩),(9,⟨false,1, .one (.str []), .str⟩),(43,⟨false,1, .one (.clip .entry []), .slice .entry 95⟩),(95,⟨true,2, .agg [.str [], .int .i64 0], .struct [(0,9),(1,3)]⟩),(129,⟨false,1, .one (.int .u64 0), .int .u64⟩)]
def qaab:List (Nat×List EK):= []
theorem qaac:Tryz.prog.follows .mixedOrders=true:=by kernel_rfl
theorem qaad:(qaaa.all fun x=>tiB Tryz.prog x.1 x.2)=true:=by kernel_rfl
theorem qaae:(qaab.all fun x=>eqB Tryz.prog x.1 x.2)=true:=by kernel_rfl
def qaaf:Code:=bd Tryz.f61
def qaag:Code:=bd Tryz.f76
def qaah:Code:=bd Tryz.f91
def qaai:Code:=bd Tryz.f92
def qaaj:Code:=bd Tryz.f93
def qaak:Code:=bd Tryz.f114
def qaal:Code:=bd Tryz.f115
def qaam:HS:=⟨[(0, .one (.sl .entry)),(1, .one (.str)),(2, .one (.fnc 115)),(8, .one (.int .i64)),(9, .one (.int .i64)),(10, .one (.int .i64))], [],0⟩
def qaan {R:Type}:Nat→HS.V qaam→(Ex→St→Option R)→Option R:=fun q v K=>
 entry_at_8_L3 v.1.1 v.1.2.1 (fun y11=>K (.exit 0) {regs:=[(0, .v (.one (.sl .entry v.1.1))),(1, .v (.one (.str v.1.2.1))),(2, .v (.one (.fnc 115))),(8, .v (.one (.int .i64 v.1.2.2.2.1))),(9, .v (.one (.int .i64 y11)))],mem:= [],nx:=0}) q v.1.2.2.2.2.1 v.1.2.2.2.2.2.1
def qaao:List HV:=[.one (.sl .entry), .one (.str)]
def qaap:List HV:=[.one (.int .i64), .one (.bool)]
def qaaq:HP.V qaao→(List Entry)×Str:=fun v=>(v.1,v.2.1)
def qaar:HX.V qaap→Int×Bool:=fun v=>(v.1,v.2)
def qaas:(Int×Bool)→HX.V qaap:=fun y=>(y.1,y.2)
def qaat:(List Entry)×Str→Option (Int×Bool):=fun x=>entry_at x.1 x.2
def qaau:Spec:=mkSpec qaao qaap qaaq qaas qaat
def qaav:Cfg:={T:=qaaa,spec:=[(116,strings_Compare_sp)],glob:=GlobL.G Tryz.prog,eqs:=qaab,N:=9,fuel:=64,fid:=115}
theorem qaaw:CfgOK Tryz.prog qaav:=cfgC qaad qaae ⟨strings_Compare_ok,trivial⟩
def qaax {R:Type}:Inl R:= .mk 115 qaav [] qaal Tryz.f115.results.toList []
def qaay:Cfg:={T:=qaaa,spec:=[(116,strings_Compare_sp)],glob:=GlobL.G Tryz.prog,eqs:=qaab,N:=9,fuel:=64,fid:=115}
theorem qaaz:CfgOK Tryz.prog qaay:=cfgC qaad qaae ⟨strings_Compare_ok,trivial⟩
def qaa0 {R:Type}:Inl R:= .mk 115 qaay [] qaal Tryz.f115.results.toList []
def qaa1 {R:Type}:List (Nat×Hd R):=[(3,hdOf qaam qaan)]
def qaa2 {R:Type}:List (Nat×Inl R):=[(30,qaax),(46,qaa0)]
def qaa3:Cfg:={T:=qaaa,glob:=GlobL.G Tryz.prog,eqs:=qaab,N:=49,fuel:=64,loops:=[(3,⟨[0,1,2,8,9,10], [], [],0, [], [], [], []⟩)],blocks:=[(0,⟨[0,1,2,8,9], [], [],0, [], [], [], []⟩)],fid:=114}
theorem qaa4:CfgOK Tryz.prog qaa3:=cfgC qaad qaae trivial
theorem qaa5 {R:Type}:SubsOK Tryz.prog (R:=R) 1 qaa2:=subsOK_0 Tryz.f115 qaaw (subsOK_0 Tryz.f115 qaaz (subsOK_nil _ _))
theorem qaa6 {R:Type}:LoopOK (R:=R) (hnd 1 qaa2) qaa3 qaa1 (sub [1,1,1,0,0,0] qaak) (HS.V qaam) (HS.st qaam) (HS.sh qaam) qaan (hdOf qaam qaan):=loopOK_of qaam qaan (fun _ _=>rfl) (by intro q v K;kernel_rfl)
theorem qaa7 {R:Type}:LoopsOK (R:=R) (hnd 1 qaa2) qaa3 qaa1 qaak:=loopsOK_of (l:=[sub [1,1,1,0,0,0] qaak]) (by kernel_rfl) (loopsL_cons (b:=sub [1,1,1,0,0,0] qaak) (rid:=3) (by kernel_rfl) (by kernel_rfl) qaa6 (trivial))
def qaa8 {R:Type}:Inl R:= .mk 114 qaa3 qaa1 qaak Tryz.f114.results.toList qaa2
def qaa9 {R:Type}:List (Nat×Hd R):= []
def qaba {R:Type}:List (Nat×Inl R):=[(8,qaa8)]
def qabb:Cfg:={T:=qaaa,glob:=GlobL.G Tryz.prog,eqs:=qaab,N:=11,fuel:=64,fid:=91}
theorem qabc:CfgOK Tryz.prog qabb:=cfgC qaad qaae trivial
theorem qabd {R:Type}:SubsOK Tryz.prog (R:=R) 2 qaba:=subsOK_a Tryz.f114 qaa4 qaa7 (rngs0 (by kernel_rfl)) qaa5 (subsOK_nil _ _)
theorem qabe {R:Type}:LoopsOK (R:=R) (hnd 2 qaba) qabb qaa9 qaah:=loopsOK_of (l:= []) (by kernel_rfl) (trivial)
theorem qabf:SpecOK Tryz.prog 91 qaau:=specOK_a Tryz.f91 qabc qaac (d:=2) qabd qabe (rngs0 (by kernel_rfl)) (toY:=qaar)
def qabg:List HV:=[.one (.sl .entry), .one (.str)]
def qabh:List HV:=[.one (.int .i64), .one (.bool)]
def qabi:HP.V qabg→(List Entry)×Str:=fun v=>(v.1,v.2.1)
def qabj:HX.V qabh→Int×Bool:=fun v=>(v.1,v.2)
def qabk:(Int×Bool)→HX.V qabh:=fun y=>(y.1,y.2)
def qabl:(List Entry)×Str→Option (Int×Bool):=fun x=>entry_Find x.1 x.2
def qabm:Spec:=mkSpec qabg qabh qabi qabk qabl
def qabn:Cfg:={T:=qaaa,spec:=[(91,qaau)],glob:=GlobL.G Tryz.prog,eqs:=qaab,N:=21,fuel:=64,fid:=123}
theorem qabo:CfgOK Tryz.prog qabn:=cfgC qaad qaae ⟨qabf,trivial⟩
theorem qabp:SpecOK Tryz.prog 123 qabm:=specOK_0 Tryz.f123 qabo qaac (toY:=qabj)
def qabq:List HV:=[.one (.sl .entry), .one (.str), .one (.int .i64)]
def qabr:List HV:=[.one (.sl .entry)]
def qabs:HP.V qabq→(List Entry)×Str×Int:=fun v=>(v.1,v.2.1,v.2.2.1)
def qabt:HX.V qabr→(List Entry):=fun v=>(v)
def qabu:(List Entry)→HX.V qabr:=fun y=>(y)
def qabv:(List Entry)×Str×Int→Option ((List Entry)):=fun x=>entry_With x.1 x.2.1 x.2.2
def qabw:Spec:=mkSpec qabq qabr qabs qabu qabv
def qabx:Cfg:={T:=qaaa,spec:=[(91,qaau)],glob:=GlobL.G Tryz.prog,eqs:=qaab,N:=8,fuel:=64,ovl:=[117],fid:=92}
theorem qaby:CfgOK Tryz.prog qabx:=cfgC qaad qaae ⟨qabf,trivial⟩ (ov:=⟨ovl117,trivial⟩)
def qabz {R:Type}:Inl R:= .mk 92 qabx [] qaai Tryz.f92.results.toList []
def qab0:Cfg:={T:=qaaa,spec:=[(91,qaau)],glob:=GlobL.G Tryz.prog,eqs:=qaab,N:=95,fuel:=64,ovl:=[117],fid:=93}
theorem qab1:CfgOK Tryz.prog qab0:=cfgC qaad qaae ⟨qabf,trivial⟩ (ov:=⟨ovl117,trivial⟩)
def qab2 {R:Type}:Inl R:= .mk 93 qab0 [] qaaj Tryz.f93.results.toList []
def qab3 {R:Type}:List (Nat×Hd R):= []
def qab4 {R:Type}:List (Nat×Inl R):=[(17,qabz),(31,qab2)]
def qab5:Cfg:={T:=qaaa,spec:=[(91,qaau)],glob:=GlobL.G Tryz.prog,eqs:=qaab,N:=32,fuel:=64,ovl:=[117],fid:=61}
theorem qab6:CfgOK Tryz.prog qab5:=cfgC qaad qaae ⟨qabf,trivial⟩ (ov:=⟨ovl117,trivial⟩)
theorem qab7 {R:Type}:SubsOK Tryz.prog (R:=R) 1 qab4:=subsOK_0 Tryz.f92 qaby (subsOK_0 Tryz.f93 qab1 (subsOK_nil _ _))
theorem qab8 {R:Type}:LoopsOK (R:=R) (hnd 1 qab4) qab5 qab3 qaaf:=loopsOK_of (l:= []) (by kernel_rfl) (trivial)
theorem qab9:SpecOK Tryz.prog 61 qabw:=specOK_a Tryz.f61 qab6 qaac (d:=1) qab7 qab8 (rngs0 (by kernel_rfl)) (toY:=qabt)
def qaca:List HV:=[.one (.sl .entry), .one (.str)]
def qacb:List HV:=[.one (.sl .entry)]
def qacc:HP.V qaca→(List Entry)×Str:=fun v=>(v.1,v.2.1)
def qacd:HX.V qacb→(List Entry):=fun v=>(v)
def qace:(List Entry)→HX.V qacb:=fun y=>(y)
def qacf:(List Entry)×Str→Option ((List Entry)):=fun x=>entry_Without x.1 x.2
def qacg:Spec:=mkSpec qaca qacb qacc qace qacf
def qach:Cfg:={T:=qaaa,spec:=[(91,qaau)],glob:=GlobL.G Tryz.prog,eqs:=qaab,N:=8,fuel:=64,fid:=92}
theorem qaci:CfgOK Tryz.prog qach:=cfgC qaad qaae ⟨qabf,trivial⟩
def qacj {R:Type}:Inl R:= .mk 92 qach [] qaai Tryz.f92.results.toList []
def qack {R:Type}:List (Nat×Hd R):= []
def qacl {R:Type}:List (Nat×Inl R):=[(17,qacj)]
def qacm:Cfg:={T:=qaaa,spec:=[(91,qaau)],glob:=GlobL.G Tryz.prog,eqs:=qaab,N:=35,fuel:=64,fid:=76}
theorem qacn:CfgOK Tryz.prog qacm:=cfgC qaad qaae ⟨qabf,trivial⟩
theorem qaco {R:Type}:SubsOK Tryz.prog (R:=R) 1 qacl:=subsOK_0 Tryz.f92 qaci (subsOK_nil _ _)
theorem qacp {R:Type}:LoopsOK (R:=R) (hnd 1 qacl) qacm qack qaag:=loopsOK_of (l:= []) (by kernel_rfl) (trivial)
theorem qacq:SpecOK Tryz.prog 76 qacg:=specOK_a Tryz.f76 qacn qaac (d:=1) qaco qacp (rngs0 (by kernel_rfl)) (toY:=qacd)
end
end Go.Eng
set_option linter.unusedVariables false
set_option maxRecDepth 100000
namespace Go.Eng
noncomputable section
open Go Go.Proofs
def qacr:List (Nat×TI):=[(3,⟨false,1, .one (.int .i64 0), .int .i64⟩),(4,⟨false,1, .one (.bool false), .bool⟩),(5,⟨false,1, .one (.int .u8 0), .int .u8⟩),(9,⟨false,1, .one (.str []), .str⟩),(21,⟨false,1, .one (.int .i32 0), .int .i32⟩),(55,⟨false,1, .one (.nilf), .other⟩),(65,⟨false,1, .one (.clip .str []), .slice .str 9⟩),(67,⟨true,3, .agg [.bool false, .clip .str [], .bool false], .struct [(0,4),(1,65),(2,4)]⟩),(135,⟨true,256, .agg [.bool false, .bool false, .bool false, .bool false, .bool false, .bool false, .bool false, .bool false, .bool false, .bool false, .bool false, .bool false, .bool false, .bool false, .bool false, .bool false, .bool false, .bool false, .bool false, .bool false, .bool false, .bool false, .bool false, .bool false, .bool false, .bool false, .bool false, .bool false, .bool false, .bool false, .bool false, .bool false, .bool false, .bool false, .bool false, .bool false, .bool false, .bool false, .bool false, .bool false, .bool false, .bool false, .bool false, .bool false, .bool false, .bool false, .bool false, .bool false, .bool false, .bool false, .bool false, .bool false, .bool false, .bool false, .bool false, .bool false, .bool false, .bool false, .bool false, .bool false, .bool false, .bool false, .bool false, .bool false, .bool false, .bool false, .bool false, .bool false, .bool false, .bool false, .bool false, .bool false, .bool false, .bool false, .bool false, .bool false, .bool false, .bool false, .bool false, .bool false, .bool false, .bool false, .bool false, .bool false, .bool false, .bool false, .bool false, .bool false, .bool false, .bool false, .bool false, .bool false, .bool false, .bool false, .bool false, .bool false, .bool false, .bool false, .bool false, .bool false, .bool false, .bool false, .bool false, .bool false, .bool false, .bool false, .bool false, .bool false, .bool false, .bool false, .bool false, .bool false, .bool false, .bool false, .bool false, .bool false, .bool false, .bool false, .bool false, .bool false, .bool false, .bool false, .bool false, .bool false, .bool false, .bool false, .bool false, .bool false, .bool false, .bool false, .bool false, .bool false, .bool false, .bool false, .bool false, .bool false, .bool false, .bool false, .bool false, .bool false, .bool false, .bool false, .bool false, .bool false, .bool false, .bool false, .bool false, .bool false, .bool false, .bool false, .bool false, .bool false, .bool false, .bool false, .bool false, .bool false, .bool false, .bool false, .bool false, .bool false, .bool false, .bool false, .bool false, .bool false, .bool false, .bool false, .bool false, .bool false, .bool false, .bool false, .bool false, .bool false, .bool false, .bool false, .bool false, .bool false, .bool false, .bool false, .bool false, .bool false, .bool false, .bool false, .bool false, .bool false, .bool false, .bool false, .bool false, .bool false, .bool false, .bool false, .bool false, .bool false, .bool false, .bool false, .bool false, .bool false, .bool false, .bool false, .bool false, .bool false, .bool false, .bool false, .bool false, .bool false, .bool false, .bool false, .bool false, .bool false, .bool false, .bool false, .bool false, .bool false, .bool false, .bool false, .bool false, .bool false, .bool false, .bool false, .bool false, .bool false, .bool false, .bool false, .bool false, .bool false, .bool false, .bool false, .bool false, .bool false, .bool false, .bool false, .bool false, .bool false, .bool false, .bool false, .bool false, .bool false, .bool false, .bool false, .bool false, .bool false, .bool false, .bool false, .bool false, .bool false, .bool false, .bool false, .bool false, .bool false, .bool false, .bool false, .bool false, .bool false, .bool false, .bool false, .bool false, .bool false], .array 256 4⟩)]
def qacs:List (Nat×List EK):= []
theorem qact:Tryz.prog.follows .mixedOrders=true:=by kernel_rfl
theorem qacu:(qacr.all fun x=>tiB Tryz.prog x.1 x.2)=true:=by kernel_rfl
theorem qacv:(qacs.all fun x=>eqB Tryz.prog x.1 x.2)=true:=by kernel_rfl
def qacw:Code:=bd Tryz.f75
def qacx:Code:=bd Tryz.f82
def qacy:Code:=bd Tryz.f86
def qacz:Code:=bd Tryz.f102
def qac0:Code:=bd Tryz.f103
def qac1:Code:=bd Tryz.f104
def qac2:Code:=bd Tryz.f105
def qac3:Code:=bd Tryz.f108
def qac4:Code:=bd Tryz.f110
def qac5:Code:=bd Tryz.f121
def qac6:Code:=bd Tryz.f126
def qac7:Code:=bd Tryz.f127
def qac8:Code:=bd Tryz.f128
def qac9:Code:=bd Tryz.f129
def qada:Code:=bd Tryz.f130
def qadb:Code:=bd Tryz.f136
def qadc:Code:=bd Tryz.f137
def qadd:Code:=bd Tryz.f138
def qade:Code:=bd Tryz.f139
def qadf:Code:=bd Tryz.f146
def qadg:Code:=bd Tryz.f150
def qadh:Code:=bd Tryz.f151
def qadi:Code:=bd Tryz.f157
def qadj:Code:=bd Tryz.f159
def qadk:Code:=bd Tryz.f162
def qadl:Code:=bd Tryz.f163
def qadm:Code:=bd Tryz.f165
def qadn:HS:=⟨[(0, .one (.yld 10)),(1, .one (.ptr 7 0)),(2, .one (.ptr 6 0)),(3, .one (.ptr 8 0)),(2000002, .one (.ptr 3 0)),(4000000, .one (.str)),(4000002, .one (.ptr 0 0))],[(0, .cells [.bool, .sl .str, .bool]),(3, .cells [.own 11]),(4, .loop true 13 126 3 [(2, .one (.ptr 3 0))]),(5, .cells [.yld 4]),(6, .cells [.str]),(7, .cells [.strk ([47]:Str)]),(8, .cells [.intk .i64 (0:Int)]),(10, .loop true 15 127 3 [(2, .one (.ptr 5 0))]),(11, .row .str)],12⟩
def qado {R:Type}:Nat→HS.V qadn→(Ex→St→Option R)→Option R:=fun q v K=>
 path_Read_6_4_1000003_1000003_L5 (fun y8 y9=>K (.exit 2) {regs:=[(0, .v (.one (.yld 10))),(2, .v (.one (.ptr 6 0))),(2000002, .v (.one (.ptr 3 0))),(4000000, .v (.one (.str v.1.2.2.2.2.2.1))),(4000002, .v (.one (.ptr 0 0)))],mem:=[(0, .cells [.bool ((⟨v.2.1.1,v.2.1.2.1,v.2.1.2.2.1⟩:Pth).abs), .sl .str ((⟨v.2.1.1,v.2.1.2.1,v.2.1.2.2.1⟩:Pth).names), .bool ((⟨v.2.1.1,v.2.1.2.1,v.2.1.2.2.1⟩:Pth).slash)]),(3, .cells [.own 11]),(4, .loop true 13 126 3 [(2, .v (.one (.ptr 3 0)))]),(5, .cells [.yld 4]),(6, .cells [.str y8]),(10, .loop true 15 127 3 [(2, .v (.one (.ptr 5 0)))]),(11, .row .str y9)],nx:=12}) q v.2.2.2.2.2.1.1 v.2.2.2.2.2.2.2.2.2.1
def qadp:List HV:=[.one (.str)]
def qadq:List HV:=[.agg [.bool, .sl .str, .bool]]
def qadr:HP.V qadp→Str:=fun v=>(v.1)
def qads:HX.V qadq→Pth:=fun v=>((⟨v.1,v.2.1,v.2.2.1⟩:Pth))
def qadt:Pth→HX.V qadq:=fun y=>((y.abs,(y.names,(y.slash,()))))
def qadu:Str→Option (Pth):=fun x=>path_Read x
def qadv:Spec:=mkSpec qadp qadq qadr qadt qadu
def qadw:Cfg:={T:=qacr,glob:=GlobL.G Tryz.prog,eqs:=qacs,N:=4,fuel:=64,fid:=103}
theorem qadx:CfgOK Tryz.prog qadw:=cfgC qacu qacv trivial
def qady {R:Type}:Inl R:= .mk 103 qadw [] qac0 Tryz.f103.results.toList []
def qadz:Cfg:={T:=qacr,glob:=GlobL.G Tryz.prog,eqs:=qacs,N:=8,fuel:=64,fid:=146}
theorem qad0:CfgOK Tryz.prog qadz:=cfgC qacu qacv trivial
def qad1 {R:Type}:Inl R:= .mk 146 qadz [] qadf Tryz.f146.results.toList []
def qad2 {R:Type}:List (Nat×Hd R):= []
def qad3 {R:Type}:List (Nat×Inl R):=[(7,qad1)]
def qad4:Cfg:={T:=qacr,glob:=GlobL.G Tryz.prog,eqs:=qacs,N:=8,fuel:=64,fid:=128}
theorem qad5:CfgOK Tryz.prog qad4:=cfgC qacu qacv trivial
theorem qad6 {R:Type}:SubsOK Tryz.prog (R:=R) 2 qad3:=subsOK_0 Tryz.f146 qad0 (subsOK_nil _ _)
theorem qad7 {R:Type}:LoopsOK (R:=R) (hnd 2 qad3) qad4 qad2 qac8:=loopsOK_of (l:= []) (by kernel_rfl) (trivial)
def qad8 {R:Type}:Inl R:= .mk 128 qad4 qad2 qac8 Tryz.f128.results.toList qad3
def qad9 {R:Type}:List (Nat×Hd R):= []
def qaea {R:Type}:List (Nat×Inl R):= []
def qaeb:Cfg:={T:=qacr,spec:=[(131,stringslite_IndexByte_sp)],glob:=GlobL.G Tryz.prog,eqs:=qacs,N:=143,fuel:=64,retA:=some ⟨[4,2000000,2000001,2000002,2000003,4000002,6000000,6000002], [],[0,3,4,5,6,7,8,10,11],12, [], [], [], []⟩,fid:=108}
theorem qaec:CfgOK Tryz.prog qaeb:=cfgC qacu qacv ⟨stringslite_IndexByte_ok,trivial⟩
theorem qaed {R:Type}:SubsOK Tryz.prog (R:=R) 0 qaea:=subsOK_nil _ _
theorem qaee {R:Type}:LoopsOK (R:=R) (hnd 0 qaea) qaeb qad9 qac3:=loopsOK_of (l:=[sub [1,1,1,1,1,1,1,1,0,0,0] qac3]) (by kernel_rfl) (loopsL_skip (b:=sub [1,1,1,1,1,1,1,1,0,0,0] qac3) (rid:=15) (by kernel_rfl) (by kernel_rfl) (trivial))
def qaef {R:Type}:Inl R:= .mk 108 qaeb qad9 qac3 Tryz.f108.results.toList qaea
def qaeg {R:Type}:List (Nat×Hd R):= []
def qaeh {R:Type}:List (Nat×Inl R):=[(7,qaef)]
def qaei:Cfg:={T:=qacr,glob:=GlobL.G Tryz.prog,eqs:=qacs,N:=8,fuel:=64,fid:=82}
theorem qaej:CfgOK Tryz.prog qaei:=cfgC qacu qacv trivial
theorem qaek {R:Type}:SubsOK Tryz.prog (R:=R) 1 qaeh:=subsOK_a Tryz.f108 qaec qaee (rngs0 (by kernel_rfl)) qaed (subsOK_nil _ _)
theorem qael {R:Type}:LoopsOK (R:=R) (hnd 1 qaeh) qaei qaeg qacx:=loopsOK_of (l:= []) (by kernel_rfl) (trivial)
def qaem {R:Type}:Inl R:= .mk 82 qaei qaeg qacx Tryz.f82.results.toList qaeh
def qaen:Code:=(rngGet 3 qac6).2.1
def qaeo:Code:=(rngGet 3 qac6).2.2
def qaep {R:Type}:List (Nat×Hd R):= []
def qaeq {R:Type}:List (Nat×Inl R):= []
def qaer:Cfg:={T:=qacr,glob:=GlobL.G Tryz.prog,eqs:=qacs,N:=13,fuel:=64,fid:=126,rnd:=true}
theorem qaes:CfgOK Tryz.prog qaer:=cfgC qacu qacv trivial
theorem qaet {R:Type}:SubsOK Tryz.prog (R:=R) 0 qaeq:=subsOK_nil _ _
theorem qaeu {R:Type}:LoopsOK (R:=R) (hnd 0 qaeq) qaer qaep qaen:=loopsOK_of (l:= []) (by kernel_rfl) (trivial)
theorem qaev {R:Type}:LoopsOK (R:=R) (hnd 0 qaeq) qaer qaep qaeo:=loopsOK_of (l:= []) (by kernel_rfl) (trivial)
def qaew {R:Type}:Inl R:= .rnd 126 3 qaer qaep [7] qaen qaeo qaeq
def qaex:Code:=(rngGet 3 qac7).2.1
def qaey:Code:=(rngGet 3 qac7).2.2
def qaez {R:Type}:List (Nat×Hd R):= []
def qae0 {R:Type}:List (Nat×Inl R):=[(12,qaew)]
def qae1:Cfg:={T:=qacr,glob:=GlobL.G Tryz.prog,eqs:=qacs,N:=15,fuel:=64,fid:=127,rnd:=true}
theorem qae2:CfgOK Tryz.prog qae1:=cfgC qacu qacv trivial
theorem qae3 {R:Type}:SubsOK Tryz.prog (R:=R) 1 qae0:=subsOK_round (by kernel_rfl) qaes qaeu qaev qaet (subsOK_nil _ _)
theorem qae4 {R:Type}:LoopsOK (R:=R) (hnd 1 qae0) qae1 qaez qaex:=loopsOK_of (l:= []) (by kernel_rfl) (trivial)
theorem qae5 {R:Type}:LoopsOK (R:=R) (hnd 1 qae0) qae1 qaez qaey:=loopsOK_of (l:= []) (by kernel_rfl) (trivial)
def qae6 {R:Type}:Inl R:= .rnd 127 3 qae1 qaez [6] qaex qaey qae0
def qae7:Code:=(rngGet 3 qac6).2.1
def qae8:Code:=(rngGet 3 qac6).2.2
def qae9 {R:Type}:List (Nat×Hd R):= []
def qafa {R:Type}:List (Nat×Inl R):= []
def qafb:Cfg:={T:=qacr,glob:=GlobL.G Tryz.prog,eqs:=qacs,N:=13,fuel:=64,fid:=126,rnd:=true}
theorem qafc:CfgOK Tryz.prog qafb:=cfgC qacu qacv trivial
theorem qafd {R:Type}:SubsOK Tryz.prog (R:=R) 0 qafa:=subsOK_nil _ _
theorem qafe {R:Type}:LoopsOK (R:=R) (hnd 0 qafa) qafb qae9 qae7:=loopsOK_of (l:= []) (by kernel_rfl) (trivial)
theorem qaff {R:Type}:LoopsOK (R:=R) (hnd 0 qafa) qafb qae9 qae8:=loopsOK_of (l:= []) (by kernel_rfl) (trivial)
def qafg {R:Type}:Inl R:= .rnd 126 3 qafb qae9 [7] qae7 qae8 qafa
def qafh:Code:=(rngGet 3 qac7).2.1
def qafi:Code:=(rngGet 3 qac7).2.2
def qafj {R:Type}:List (Nat×Hd R):= []
def qafk {R:Type}:List (Nat×Inl R):=[(12,qafg)]
def qafl:Cfg:={T:=qacr,glob:=GlobL.G Tryz.prog,eqs:=qacs,N:=15,fuel:=64,fid:=127,rnd:=true}
theorem qafm:CfgOK Tryz.prog qafl:=cfgC qacu qacv trivial
theorem qafn {R:Type}:SubsOK Tryz.prog (R:=R) 1 qafk:=subsOK_round (by kernel_rfl) qafc qafe qaff qafd (subsOK_nil _ _)
theorem qafo {R:Type}:LoopsOK (R:=R) (hnd 1 qafk) qafl qafj qafh:=loopsOK_of (l:= []) (by kernel_rfl) (trivial)
theorem qafp {R:Type}:LoopsOK (R:=R) (hnd 1 qafk) qafl qafj qafi:=loopsOK_of (l:= []) (by kernel_rfl) (trivial)
def qafq {R:Type}:Inl R:= .rnd 127 3 qafl qafj [6] qafh qafi qafk
def qafr {R:Type}:List (Nat×Hd R):=[(5,hdOf qadn qado)]
def qafs {R:Type}:List (Nat×Inl R):=[(31,qaem),(41,qae6),(51,qafq)]
def qaft:Cfg:={T:=qacr,glob:=GlobL.G Tryz.prog,eqs:=qacs,N:=52,fuel:=64,loops:=[(5,⟨[0,1,2,3,2000002,4000000,4000002], [],[0,3,4,5,6,7,8,10,11],12, [],[0],[(3,0,11, .str)], []⟩)],blocks:=[(2,⟨[0,2,2000002,4000000,4000002], [],[0,3,4,5,6,10,11],12, [], [], [], []⟩)],fid:=157}
theorem qafu:CfgOK Tryz.prog qaft:=cfgC qacu qacv trivial
theorem qafv {R:Type}:SubsOK Tryz.prog (R:=R) 2 qafs:=subsOK_a Tryz.f82 qaej qael (rngs0 (by kernel_rfl)) qaek (subsOK_round (by kernel_rfl) qae2 qae4 qae5 qae3 (subsOK_round (by kernel_rfl) qafm qafo qafp qafn (subsOK_nil _ _)))
theorem qafw {R:Type}:LoopOK (R:=R) (hnd 2 qafs) qaft qafr (sub [1,0,0,0] qadi) (HS.V qadn) (HS.st qadn) (HS.sh qadn) qado (hdOf qadn qado):=loopOK_of qadn qado (fun _ _=>rfl) (by intro q v K;kernel_rfl)
theorem qafx {R:Type}:LoopsOK (R:=R) (hnd 2 qafs) qaft qafr qadi:=loopsOK_of (l:=[sub [0,1,0,0,0,0] qadi,sub [1,0,0,0] qadi]) (by kernel_rfl) (loopsL_skip (b:=sub [0,1,0,0,0,0] qadi) (rid:=1) (by kernel_rfl) (by kernel_rfl) (loopsL_cons (b:=sub [1,0,0,0] qadi) (rid:=5) (by kernel_rfl) (by kernel_rfl) qafw (trivial)))
def qafy {R:Type}:Inl R:= .mk 157 qaft qafr qadi Tryz.f157.results.toList qafs
def qafz {R:Type}:List (Nat×Hd R):= []
def qaf0 {R:Type}:List (Nat×Inl R):=[(5,qad8),(1000003,qafy)]
def qaf1:Cfg:={T:=qacr,glob:=GlobL.G Tryz.prog,eqs:=qacs,N:=15,fuel:=64,fid:=127,saves:=[(3,[2])]}
theorem qaf2:CfgOK Tryz.prog qaf1:=cfgC qacu qacv trivial
theorem qaf3 {R:Type}:SubsOK Tryz.prog (R:=R) 3 qaf0:=subsOK_a Tryz.f128 qad5 qad7 (rngs0 (by kernel_rfl)) qad6 (subsOK_a Tryz.f157 qafu qafx (rngs0 (by kernel_rfl)) qafv (subsOK_nil _ _))
theorem qaf4 {R:Type}:LoopsOK (R:=R) (hnd 3 qaf0) qaf1 qafz qac7:=loopsOK_of (l:= []) (by kernel_rfl) (trivial)
theorem qaf5:RngsOK Tryz.prog qaf1 qac7:=rngs1 (x:=rngGet 3 qac7) (by kernel_rfl) (by kernel_rfl)
def qaf6 {R:Type}:Inl R:= .mk 127 qaf1 qafz qac7 Tryz.f127.results.toList qaf0
def qaf7 {R:Type}:List (Nat×Hd R):= []
def qaf8 {R:Type}:List (Nat×Inl R):=[(1000003,qaf6)]
def qaf9:Cfg:={T:=qacr,glob:=GlobL.G Tryz.prog,eqs:=qacs,N:=13,fuel:=64,fid:=126,saves:=[(3,[2])]}
theorem qaga:CfgOK Tryz.prog qaf9:=cfgC qacu qacv trivial
theorem qagb {R:Type}:SubsOK Tryz.prog (R:=R) 4 qaf8:=subsOK_a Tryz.f127 qaf2 qaf4 qaf5 qaf3 (subsOK_nil _ _)
theorem qagc {R:Type}:LoopsOK (R:=R) (hnd 4 qaf8) qaf9 qaf7 qac6:=loopsOK_of (l:= []) (by kernel_rfl) (trivial)
theorem qagd:RngsOK Tryz.prog qaf9 qac6:=rngs1 (x:=rngGet 3 qac6) (by kernel_rfl) (by kernel_rfl)
def qage {R:Type}:Inl R:= .mk 126 qaf9 qaf7 qac6 Tryz.f126.results.toList qaf8
def qagf {R:Type}:List (Nat×Hd R):= []
def qagg {R:Type}:List (Nat×Inl R):=[(4,qage)]
def qagh:Cfg:={T:=qacr,glob:=GlobL.G Tryz.prog,eqs:=qacs,N:=5,fuel:=64,fid:=102}
theorem qagi:CfgOK Tryz.prog qagh:=cfgC qacu qacv trivial
theorem qagj {R:Type}:SubsOK Tryz.prog (R:=R) 5 qagg:=subsOK_a Tryz.f126 qaga qagc qagd qagb (subsOK_nil _ _)
theorem qagk {R:Type}:LoopsOK (R:=R) (hnd 5 qagg) qagh qagf qacz:=loopsOK_of (l:= []) (by kernel_rfl) (trivial)
def qagl {R:Type}:Inl R:= .mk 102 qagh qagf qacz Tryz.f102.results.toList qagg
def qagm:Cfg:={T:=qacr,glob:=GlobL.G Tryz.prog,eqs:=qacs,N:=18,fuel:=64,fid:=129}
theorem qagn:CfgOK Tryz.prog qagm:=cfgC qacu qacv trivial
def qago {R:Type}:Inl R:= .mk 129 qagm [] qac9 Tryz.f129.results.toList []
def qagp {R:Type}:List (Nat×Hd R):= []
def qagq {R:Type}:List (Nat×Inl R):=[(7,qago)]
def qagr:Cfg:={T:=qacr,glob:=GlobL.G Tryz.prog,eqs:=qacs,N:=8,fuel:=64,fid:=104}
theorem qags:CfgOK Tryz.prog qagr:=cfgC qacu qacv trivial
theorem qagt {R:Type}:SubsOK Tryz.prog (R:=R) 5 qagq:=subsOK_0 Tryz.f129 qagn (subsOK_nil _ _)
theorem qagu {R:Type}:LoopsOK (R:=R) (hnd 5 qagq) qagr qagp qac1:=loopsOK_of (l:= []) (by kernel_rfl) (trivial)
def qagv {R:Type}:Inl R:= .mk 104 qagr qagp qac1 Tryz.f104.results.toList qagq
def qagw:Cfg:={T:=qacr,glob:=GlobL.G Tryz.prog,eqs:=qacs,N:=21,fuel:=64,fid:=130}
theorem qagx:CfgOK Tryz.prog qagw:=cfgC qacu qacv trivial
def qagy {R:Type}:Inl R:= .mk 130 qagw [] qada Tryz.f130.results.toList []
def qagz {R:Type}:List (Nat×Hd R):= []
def qag0 {R:Type}:List (Nat×Inl R):=[(7,qagy)]
def qag1:Cfg:={T:=qacr,glob:=GlobL.G Tryz.prog,eqs:=qacs,N:=8,fuel:=64,fid:=105}
theorem qag2:CfgOK Tryz.prog qag1:=cfgC qacu qacv trivial
theorem qag3 {R:Type}:SubsOK Tryz.prog (R:=R) 5 qag0:=subsOK_0 Tryz.f130 qagx (subsOK_nil _ _)
theorem qag4 {R:Type}:LoopsOK (R:=R) (hnd 5 qag0) qag1 qagz qac2:=loopsOK_of (l:= []) (by kernel_rfl) (trivial)
def qag5 {R:Type}:Inl R:= .mk 105 qag1 qagz qac2 Tryz.f105.results.toList qag0
def qag6 {R:Type}:List (Nat×Hd R):= []
def qag7 {R:Type}:List (Nat×Inl R):=[(5,qady),(6,qagl),(8,qagv),(15,qag5)]
def qag8:Cfg:={T:=qacr,glob:=GlobL.G Tryz.prog,eqs:=qacs,N:=18,fuel:=64,fid:=75}
theorem qag9:CfgOK Tryz.prog qag8:=cfgC qacu qacv trivial
theorem qaha {R:Type}:SubsOK Tryz.prog (R:=R) 6 qag7:=subsOK_0 Tryz.f103 qadx (subsOK_a Tryz.f102 qagi qagk (rngs0 (by kernel_rfl)) qagj (subsOK_a Tryz.f104 qags qagu (rngs0 (by kernel_rfl)) qagt (subsOK_a Tryz.f105 qag2 qag4 (rngs0 (by kernel_rfl)) qag3 (subsOK_nil _ _))))
theorem qahb {R:Type}:LoopsOK (R:=R) (hnd 6 qag7) qag8 qag6 qacw:=loopsOK_of (l:= []) (by kernel_rfl) (trivial)
theorem qahc:SpecOK Tryz.prog 75 qadv:=specOK_a Tryz.f75 qag9 qact (d:=6) qaha qahb (rngs0 (by kernel_rfl)) (toY:=qads)
def qahd:HS:=⟨[(0, .one (.yld 9)),(1, .one (.ptr 6 0)),(2, .one (.ptr 5 0)),(3, .one (.ptr 7 0)),(2000000, .one (.str)),(2000002, .one (.ptr 0 0))],[(0, .cells [.boolk false]),(3, .loop true 13 121 3 [(2, .one (.ptr 0 0))]),(4, .cells [.yld 3]),(5, .cells [.str]),(6, .cells [.strk ([47]:Str)]),(7, .cells [.intk .i64 (0:Int)]),(9, .loop true 15 127 3 [(2, .one (.ptr 4 0))])],10⟩
def qahe {R:Type}:Nat→HS.V qahd→(Ex→St→Option R)→Option R:=fun q v K=>
 path_Long_1000003_1000003_L5 (K .ret {regs:=[(2000000, .v (.one (.str v.1.2.2.2.2.1))),(2000002, .v (.one (.ptr 0 0)))],mem:=[(0, .cells [.bool true]),(3, .over .ret),(9, .over .ret)],nx:=10}) (fun y8=>K (.exit 2) {regs:=[(0, .v (.one (.yld 9))),(2, .v (.one (.ptr 5 0))),(2000000, .v (.one (.str v.1.2.2.2.2.1))),(2000002, .v (.one (.ptr 0 0)))],mem:=[(0, .cells [.bool false]),(3, .loop true 13 121 3 [(2, .v (.one (.ptr 0 0)))]),(4, .cells [.yld 3]),(5, .cells [.str y8]),(9, .loop true 15 127 3 [(2, .v (.one (.ptr 4 0)))])],nx:=10}) q v.2.2.2.2.1.1
def qahf:List HV:=[.one (.str)]
def qahg:List HV:=[.one (.bool)]
def qahh:HP.V qahf→Str:=fun v=>(v.1)
def qahi:HX.V qahg→Bool:=fun v=>(v)
def qahj:Bool→HX.V qahg:=fun y=>(y)
def qahk:Str→Option (Bool):=fun x=>path_Long x
def qahl:Spec:=mkSpec qahf qahg qahh qahj qahk
def qahm:Cfg:={T:=qacr,glob:=GlobL.G Tryz.prog,eqs:=qacs,N:=4,fuel:=64,fid:=103}
theorem qahn:CfgOK Tryz.prog qahm:=cfgC qacu qacv trivial
def qaho {R:Type}:Inl R:= .mk 103 qahm [] qac0 Tryz.f103.results.toList []
def qahp:Cfg:={T:=qacr,glob:=GlobL.G Tryz.prog,eqs:=qacs,N:=8,fuel:=64,fid:=146}
theorem qahq:CfgOK Tryz.prog qahp:=cfgC qacu qacv trivial
def qahr {R:Type}:Inl R:= .mk 146 qahp [] qadf Tryz.f146.results.toList []
def qahs {R:Type}:List (Nat×Hd R):= []
def qaht {R:Type}:List (Nat×Inl R):=[(7,qahr)]
def qahu:Cfg:={T:=qacr,glob:=GlobL.G Tryz.prog,eqs:=qacs,N:=8,fuel:=64,fid:=128}
theorem qahv:CfgOK Tryz.prog qahu:=cfgC qacu qacv trivial
theorem qahw {R:Type}:SubsOK Tryz.prog (R:=R) 2 qaht:=subsOK_0 Tryz.f146 qahq (subsOK_nil _ _)
theorem qahx {R:Type}:LoopsOK (R:=R) (hnd 2 qaht) qahu qahs qac8:=loopsOK_of (l:= []) (by kernel_rfl) (trivial)
def qahy {R:Type}:Inl R:= .mk 128 qahu qahs qac8 Tryz.f128.results.toList qaht
def qahz {R:Type}:List (Nat×Hd R):= []
def qah0 {R:Type}:List (Nat×Inl R):= []
def qah1:Cfg:={T:=qacr,spec:=[(131,stringslite_IndexByte_sp)],glob:=GlobL.G Tryz.prog,eqs:=qacs,N:=143,fuel:=64,retA:=some ⟨[4,2000000,2000001,2000002,2000003,4000000,4000002], [],[0,3,4,5,6,7,9],10, [], [], [], []⟩,fid:=108}
theorem qah2:CfgOK Tryz.prog qah1:=cfgC qacu qacv ⟨stringslite_IndexByte_ok,trivial⟩
theorem qah3 {R:Type}:SubsOK Tryz.prog (R:=R) 0 qah0:=subsOK_nil _ _
theorem qah4 {R:Type}:LoopsOK (R:=R) (hnd 0 qah0) qah1 qahz qac3:=loopsOK_of (l:=[sub [1,1,1,1,1,1,1,1,0,0,0] qac3]) (by kernel_rfl) (loopsL_skip (b:=sub [1,1,1,1,1,1,1,1,0,0,0] qac3) (rid:=15) (by kernel_rfl) (by kernel_rfl) (trivial))
def qah5 {R:Type}:Inl R:= .mk 108 qah1 qahz qac3 Tryz.f108.results.toList qah0
def qah6 {R:Type}:List (Nat×Hd R):= []
def qah7 {R:Type}:List (Nat×Inl R):=[(7,qah5)]
def qah8:Cfg:={T:=qacr,glob:=GlobL.G Tryz.prog,eqs:=qacs,N:=8,fuel:=64,fid:=82}
theorem qah9:CfgOK Tryz.prog qah8:=cfgC qacu qacv trivial
theorem qaia {R:Type}:SubsOK Tryz.prog (R:=R) 1 qah7:=subsOK_a Tryz.f108 qah2 qah4 (rngs0 (by kernel_rfl)) qah3 (subsOK_nil _ _)
theorem qaib {R:Type}:LoopsOK (R:=R) (hnd 1 qah7) qah8 qah6 qacx:=loopsOK_of (l:= []) (by kernel_rfl) (trivial)
def qaic {R:Type}:Inl R:= .mk 82 qah8 qah6 qacx Tryz.f82.results.toList qah7
def qaid:Code:=(rngGet 3 qac5).2.1
def qaie:Code:=(rngGet 3 qac5).2.2
def qaif {R:Type}:List (Nat×Hd R):= []
def qaig {R:Type}:List (Nat×Inl R):= []
def qaih:Cfg:={T:=qacr,glob:=GlobL.G Tryz.prog,eqs:=qacs,N:=13,fuel:=64,fid:=121,rnd:=true}
theorem qaii:CfgOK Tryz.prog qaih:=cfgC qacu qacv trivial
theorem qaij {R:Type}:SubsOK Tryz.prog (R:=R) 0 qaig:=subsOK_nil _ _
theorem qaik {R:Type}:LoopsOK (R:=R) (hnd 0 qaig) qaih qaif qaid:=loopsOK_of (l:= []) (by kernel_rfl) (trivial)
theorem qail {R:Type}:LoopsOK (R:=R) (hnd 0 qaig) qaih qaif qaie:=loopsOK_of (l:= []) (by kernel_rfl) (trivial)
def qaim {R:Type}:Inl R:= .rnd 121 3 qaih qaif [6] qaid qaie qaig
def qain:Code:=(rngGet 3 qac7).2.1
def qaio:Code:=(rngGet 3 qac7).2.2
def qaip {R:Type}:List (Nat×Hd R):= []
def qaiq {R:Type}:List (Nat×Inl R):=[(12,qaim)]
def qair:Cfg:={T:=qacr,glob:=GlobL.G Tryz.prog,eqs:=qacs,N:=15,fuel:=64,fid:=127,rnd:=true}
theorem qais:CfgOK Tryz.prog qair:=cfgC qacu qacv trivial
theorem qait {R:Type}:SubsOK Tryz.prog (R:=R) 1 qaiq:=subsOK_round (by kernel_rfl) qaii qaik qail qaij (subsOK_nil _ _)
theorem qaiu {R:Type}:LoopsOK (R:=R) (hnd 1 qaiq) qair qaip qain:=loopsOK_of (l:= []) (by kernel_rfl) (trivial)
theorem qaiv {R:Type}:LoopsOK (R:=R) (hnd 1 qaiq) qair qaip qaio:=loopsOK_of (l:= []) (by kernel_rfl) (trivial)
def qaiw {R:Type}:Inl R:= .rnd 127 3 qair qaip [6] qain qaio qaiq
def qaix:Code:=(rngGet 3 qac5).2.1
def qaiy:Code:=(rngGet 3 qac5).2.2
def qaiz {R:Type}:List (Nat×Hd R):= []
def qai0 {R:Type}:List (Nat×Inl R):= []
def qai1:Cfg:={T:=qacr,glob:=GlobL.G Tryz.prog,eqs:=qacs,N:=13,fuel:=64,fid:=121,rnd:=true}
theorem qai2:CfgOK Tryz.prog qai1:=cfgC qacu qacv trivial
theorem qai3 {R:Type}:SubsOK Tryz.prog (R:=R) 0 qai0:=subsOK_nil _ _
theorem qai4 {R:Type}:LoopsOK (R:=R) (hnd 0 qai0) qai1 qaiz qaix:=loopsOK_of (l:= []) (by kernel_rfl) (trivial)
theorem qai5 {R:Type}:LoopsOK (R:=R) (hnd 0 qai0) qai1 qaiz qaiy:=loopsOK_of (l:= []) (by kernel_rfl) (trivial)
def qai6 {R:Type}:Inl R:= .rnd 121 3 qai1 qaiz [6] qaix qaiy qai0
def qai7:Code:=(rngGet 3 qac7).2.1
def qai8:Code:=(rngGet 3 qac7).2.2
def qai9 {R:Type}:List (Nat×Hd R):= []
def qaja {R:Type}:List (Nat×Inl R):=[(12,qai6)]
def qajb:Cfg:={T:=qacr,glob:=GlobL.G Tryz.prog,eqs:=qacs,N:=15,fuel:=64,fid:=127,rnd:=true}
theorem qajc:CfgOK Tryz.prog qajb:=cfgC qacu qacv trivial
theorem qajd {R:Type}:SubsOK Tryz.prog (R:=R) 1 qaja:=subsOK_round (by kernel_rfl) qai2 qai4 qai5 qai3 (subsOK_nil _ _)
theorem qaje {R:Type}:LoopsOK (R:=R) (hnd 1 qaja) qajb qai9 qai7:=loopsOK_of (l:= []) (by kernel_rfl) (trivial)
theorem qajf {R:Type}:LoopsOK (R:=R) (hnd 1 qaja) qajb qai9 qai8:=loopsOK_of (l:= []) (by kernel_rfl) (trivial)
def qajg {R:Type}:Inl R:= .rnd 127 3 qajb qai9 [6] qai7 qai8 qaja
def qajh {R:Type}:List (Nat×Hd R):=[(5,hdOf qahd qahe)]
def qaji {R:Type}:List (Nat×Inl R):=[(31,qaic),(41,qaiw),(51,qajg)]
def qajj:Cfg:={T:=qacr,glob:=GlobL.G Tryz.prog,eqs:=qacs,N:=52,fuel:=64,loops:=[(5,⟨[0,1,2,3,2000000,2000002], [],[0,3,4,5,6,7,9],10, [], [], [], []⟩)],blocks:=[(2,⟨[0,2,2000000,2000002], [],[0,3,4,5,9],10, [], [], [], []⟩)],retA:=some ⟨[2000000,2000002], [],[0,3,9],10, [], [], [], []⟩,fid:=157}
theorem qajk:CfgOK Tryz.prog qajj:=cfgC qacu qacv trivial
theorem qajl {R:Type}:SubsOK Tryz.prog (R:=R) 2 qaji:=subsOK_a Tryz.f82 qah9 qaib (rngs0 (by kernel_rfl)) qaia (subsOK_round (by kernel_rfl) qais qaiu qaiv qait (subsOK_round (by kernel_rfl) qajc qaje qajf qajd (subsOK_nil _ _)))
theorem qajm {R:Type}:LoopOK (R:=R) (hnd 2 qaji) qajj qajh (sub [1,0,0,0] qadi) (HS.V qahd) (HS.st qahd) (HS.sh qahd) qahe (hdOf qahd qahe):=loopOK_of qahd qahe (fun _ _=>rfl) (by intro q v K;kernel_rfl)
theorem qajn {R:Type}:LoopsOK (R:=R) (hnd 2 qaji) qajj qajh qadi:=loopsOK_of (l:=[sub [0,1,0,0,0,0] qadi,sub [1,0,0,0] qadi]) (by kernel_rfl) (loopsL_skip (b:=sub [0,1,0,0,0,0] qadi) (rid:=1) (by kernel_rfl) (by kernel_rfl) (loopsL_cons (b:=sub [1,0,0,0] qadi) (rid:=5) (by kernel_rfl) (by kernel_rfl) qajm (trivial)))
def qajo {R:Type}:Inl R:= .mk 157 qajj qajh qadi Tryz.f157.results.toList qaji
def qajp {R:Type}:List (Nat×Hd R):= []
def qajq {R:Type}:List (Nat×Inl R):=[(5,qahy),(1000003,qajo)]
def qajr:Cfg:={T:=qacr,glob:=GlobL.G Tryz.prog,eqs:=qacs,N:=15,fuel:=64,fid:=127,saves:=[(3,[2])]}
theorem qajs:CfgOK Tryz.prog qajr:=cfgC qacu qacv trivial
theorem qajt {R:Type}:SubsOK Tryz.prog (R:=R) 3 qajq:=subsOK_a Tryz.f128 qahv qahx (rngs0 (by kernel_rfl)) qahw (subsOK_a Tryz.f157 qajk qajn (rngs0 (by kernel_rfl)) qajl (subsOK_nil _ _))
theorem qaju {R:Type}:LoopsOK (R:=R) (hnd 3 qajq) qajr qajp qac7:=loopsOK_of (l:= []) (by kernel_rfl) (trivial)
theorem qajv:RngsOK Tryz.prog qajr qac7:=rngs1 (x:=rngGet 3 qac7) (by kernel_rfl) (by kernel_rfl)
def qajw {R:Type}:Inl R:= .mk 127 qajr qajp qac7 Tryz.f127.results.toList qajq
def qajx {R:Type}:List (Nat×Hd R):= []
def qajy {R:Type}:List (Nat×Inl R):=[(5,qaho),(1000003,qajw)]
def qajz:Cfg:={T:=qacr,glob:=GlobL.G Tryz.prog,eqs:=qacs,N:=13,fuel:=64,fid:=121,saves:=[(3,[2])]}
theorem qaj0:CfgOK Tryz.prog qajz:=cfgC qacu qacv trivial
theorem qaj1 {R:Type}:SubsOK Tryz.prog (R:=R) 4 qajy:=subsOK_0 Tryz.f103 qahn (subsOK_a Tryz.f127 qajs qaju qajv qajt (subsOK_nil _ _))
theorem qaj2 {R:Type}:LoopsOK (R:=R) (hnd 4 qajy) qajz qajx qac5:=loopsOK_of (l:= []) (by kernel_rfl) (trivial)
theorem qaj3:RngsOK Tryz.prog qajz qac5:=rngs1 (x:=rngGet 3 qac5) (by kernel_rfl) (by kernel_rfl)
theorem qaj4:SpecOK Tryz.prog 121 qahl:=specOK_a Tryz.f121 qaj0 qact (d:=4) qaj1 qaj2 qaj3 (toY:=qahi)
def qaj5:List HV:=[.one (.sl .str)]
def qaj6:List HV:=[.one (.str)]
def qaj7:HP.V qaj5→(List Str):=fun v=>(v.1)
def qaj8:HX.V qaj6→Str:=fun v=>(v)
def qaj9:Str→HX.V qaj6:=fun y=>(y)
def qaka:(List Str)→Option (Str):=fun x=>path_Join x
def qakb:Spec:=mkSpec qaj5 qaj6 qaj7 qaj9 qaka
def qakc:Cfg:={T:=qacr,spec:=[(164,strings_Join_sp)],glob:=GlobL.G Tryz.prog,eqs:=qacs,N:=9,fuel:=64,fid:=161}
theorem qakd:CfgOK Tryz.prog qakc:=cfgC qacu qacv ⟨strings_Join_ok,trivial⟩
theorem qake:SpecOK Tryz.prog 161 qakb:=specOK_0 Tryz.f161 qakd qact (toY:=qaj8)
def qakf:HS:=⟨[(0, .one (.str)),(6, .one (.ptr 1 0)),(8, .one (.int .i64))],[(1, .cells [.boolk true, .boolk false, .boolk false, .boolk false, .boolk false, .boolk false, .boolk false, .boolk false, .boolk false, .boolk false, .boolk false, .boolk false, .boolk false, .boolk false, .boolk false, .boolk false, .boolk false, .boolk false, .boolk false, .boolk false, .boolk false, .boolk false, .boolk false, .boolk false, .boolk false, .boolk false, .boolk false, .boolk false, .boolk false, .boolk false, .boolk false, .boolk false, .boolk false, .boolk false, .boolk false, .boolk false, .boolk false, .boolk false, .boolk false, .boolk false, .boolk false, .boolk false, .boolk false, .boolk false, .boolk false, .boolk false, .boolk false, .boolk true, .boolk false, .boolk false, .boolk false, .boolk false, .boolk false, .boolk false, .boolk false, .boolk false, .boolk false, .boolk false, .boolk false, .boolk false, .boolk false, .boolk false, .boolk false, .boolk false, .boolk false, .boolk false, .boolk false, .boolk false, .boolk false, .boolk false, .boolk false, .boolk false, .boolk false, .boolk false, .boolk false, .boolk false, .boolk false, .boolk false, .boolk false, .boolk false, .boolk false, .boolk false, .boolk false, .boolk false, .boolk false, .boolk false, .boolk false, .boolk false, .boolk false, .boolk false, .boolk false, .boolk false, .boolk false, .boolk false, .boolk false, .boolk false, .boolk false, .boolk false, .boolk false, .boolk false, .boolk false, .boolk false, .boolk false, .boolk false, .boolk false, .boolk false, .boolk false, .boolk false, .boolk false, .boolk false, .boolk false, .boolk false, .boolk false, .boolk false, .boolk false, .boolk false, .boolk false, .boolk false, .boolk false, .boolk false, .boolk false, .boolk false, .boolk false, .boolk false, .boolk false, .boolk false, .boolk false, .boolk false, .boolk false, .boolk false, .boolk false, .boolk false, .boolk false, .boolk false, .boolk false, .boolk false, .boolk false, .boolk false, .boolk false, .boolk false, .boolk false, .boolk false, .boolk false, .boolk false, .boolk false, .boolk false, .boolk false, .boolk false, .boolk false, .boolk false, .boolk false, .boolk false, .boolk false, .boolk false, .boolk false, .boolk false, .boolk false, .boolk false, .boolk false, .boolk false, .boolk false, .boolk false, .boolk false, .boolk false, .boolk false, .boolk false, .boolk false, .boolk false, .boolk false, .boolk false, .boolk false, .boolk false, .boolk false, .boolk false, .boolk false, .boolk false, .boolk false, .boolk false, .boolk false, .boolk false, .boolk false, .boolk false, .boolk false, .boolk false, .boolk false, .boolk false, .boolk false, .boolk false, .boolk false, .boolk false, .boolk false, .boolk false, .boolk false, .boolk false, .boolk false, .boolk false, .boolk false, .boolk false, .boolk false, .boolk false, .boolk false, .boolk false, .boolk false, .boolk false, .boolk false, .boolk false, .boolk false, .boolk false, .boolk false, .boolk false, .boolk false, .boolk false, .boolk false, .boolk false, .boolk false, .boolk false, .boolk false, .boolk false, .boolk false, .boolk false, .boolk false, .boolk false, .boolk false, .boolk false, .boolk false, .boolk false, .boolk false, .boolk false, .boolk false, .boolk false, .boolk false, .boolk false, .boolk false, .boolk false, .boolk false, .boolk false, .boolk false, .boolk false, .boolk false, .boolk false, .boolk false, .boolk false, .boolk false, .boolk false, .boolk false, .boolk false, .boolk false, .boolk false, .boolk false, .boolk false, .boolk false, .boolk false, .boolk false, .boolk false, .boolk false, .boolk false])],2⟩
def qakg {R:Type}:Nat→HS.V qakf→(Ex→St→Option R)→Option R:=fun q v K=>
 strings_ContainsAny_7_L12 v.1.1 (fun y5=>K .ret {regs:=[(4, .v (.one (.int .i64 y5)))],mem:= [],nx:=0}) (K (.exit 0) {regs:= [],mem:= [],nx:=0}) q v.1.2.2.1
def qakh:HS:=⟨[(175, .one (.iter 1)),(1000001, .one (.strk ([47,0]:Str))),(1000009, .one (.int .i64)),(1000045, .one (.iter 0))],[(0, .iter),(1, .iter)],2⟩
def qaki {R:Type}:Nat→HS.V qakh→(Ex→St→Option R)→Option R:=fun q v K=>
 strings_ContainsAny_7_52_L38 v.2.2.1.1 (fun y15=>K .ret {regs:=[(4, .v (.one (.int .i64 y15))),(1000001, .v (.one (.str ([47,0]:Str)))),(1000009, .v (.one (.int .i64 v.1.2.2.1))),(1000045, .v (.one (.iter 0)))],mem:=[(0, .iter v.2.1.1 v.2.1.2)],nx:=1}) (K (.exit 9) {regs:=[(1000001, .v (.one (.str ([47,0]:Str)))),(1000009, .v (.one (.int .i64 v.1.2.2.1))),(1000045, .v (.one (.iter 0)))],mem:=[(0, .iter v.2.1.1 v.2.1.2)],nx:=1}) q v.2.2.1.2
def qakj:HS:=⟨[(0, .one (.strk ([47,0]:Str))),(7, .one (.str)),(8, .one (.int .i64)),(9, .one (.int .i64)),(12, .one (.int .i64)),(1000001, .one (.strk ([47,0]:Str))),(1000009, .one (.int .i64)),(1000045, .one (.iter 0))],[(0, .iter)],1⟩
def qakk {R:Type}:Nat→HS.V qakj→(Ex→St→Option R)→Option R:=fun q v K=>
 strings_ContainsAny_7_52_L12 v.1.2.1 v.1.2.2.1 v.1.2.2.2.1 (K (.exit 3) {regs:=[(8, .v (.one (.int .i64 v.1.2.2.1))),(9, .v (.one (.int .i64 v.1.2.2.2.1))),(1000001, .v (.one (.str ([47,0]:Str)))),(1000009, .v (.one (.int .i64 v.1.2.2.2.2.2.2.1))),(1000045, .v (.one (.iter 0)))],mem:=[(0, .iter v.2.1.1 v.2.1.2)],nx:=1}) q v.1.2.2.2.2.1
def qakl:HS:=⟨[(0, .one (.strk ([47,0]:Str))),(7, .one (.str)),(8, .one (.int .i64)),(9, .one (.int .i64)),(1000001, .one (.strk ([47,0]:Str))),(1000009, .one (.int .i64)),(1000045, .one (.iter 0))],[(0, .iter)],1⟩
def qakm {R:Type}:Nat→HS.V qakl→(Ex→St→Option R)→Option R:=fun q v K=>
 strings_ContainsAny_7_52_L5 v.1.2.1 v.1.2.2.1 v.1.2.2.2.1 (fun y50=>K .ret {regs:=[(4, .v (.one (.int .i64 y50))),(1000001, .v (.one (.str ([47,0]:Str)))),(1000009, .v (.one (.int .i64 v.1.2.2.2.2.2.1))),(1000045, .v (.one (.iter 0)))],mem:=[(0, .iter v.2.1.1 v.2.1.2)],nx:=1}) (K (.exit 1) {regs:=[(1000001, .v (.one (.str ([47,0]:Str)))),(1000009, .v (.one (.int .i64 v.1.2.2.2.2.2.1))),(1000045, .v (.one (.iter 0)))],mem:=[(0, .iter v.2.1.1 v.2.1.2)],nx:=1}) q
def qakn:HS:=⟨[(1, .one (.strk ([47,0]:Str))),(45, .one (.iter 0))],[(0, .iter)],1⟩
def qako {R:Type}:Nat→HS.V qakn→(Ex→St→Option R)→Option R:=fun q v K=>
 strings_ContainsAny_7_L18 v.2.1.1 (fun y66=>K .ret {regs:=[(4, .v (.one (.int .i64 y66)))],mem:= [],nx:=0}) (K (.exit 2) {regs:= [],mem:= [],nx:=0}) q v.2.1.2
def qakp:List HV:=[.one (.str), .one (.strk ([47,0]:Str))]
def qakq:List HV:=[.one (.bool)]
def qakr:HP.V qakp→Str:=fun v=>(v.1)
def qaks:HX.V qakq→Bool:=fun v=>(v)
def qakt:Bool→HX.V qakq:=fun y=>(y)
def qaku:Str→Option (Bool):=fun x=>strings_ContainsAny x
def qakv:Spec:=mkSpec qakp qakq qakr qakt qaku
def qakw:Cfg:={T:=qacr,glob:=GlobL.G Tryz.prog,eqs:=qacs,N:=5,fuel:=64,fid:=137}
theorem qakx:CfgOK Tryz.prog qakw:=cfgC qacu qacv trivial
def qaky {R:Type}:Inl R:= .mk 137 qakw [] qadc Tryz.f137.results.toList []
def qakz {R:Type}:List (Nat×Hd R):= []
def qak0 {R:Type}:List (Nat×Inl R):= []
def qak1:Cfg:={T:=qacr,glob:=GlobL.G Tryz.prog,eqs:=qacs,N:=21,fuel:=64,loops:=[(2,⟨[0,2,4,1000000,1000001], [],[0],1, [], [], [], []⟩)],blocks:=[(0,⟨[2,1000000,1000001], [],[0],1, [], [], [], []⟩)],retA:=some ⟨[2,3,1000000,1000001], [],[0],1, [], [], [], []⟩,fid:=138}
theorem qak2:CfgOK Tryz.prog qak1:=cfgC qacu qacv trivial
theorem qak3 {R:Type}:SubsOK Tryz.prog (R:=R) 1 qak0:=subsOK_nil _ _
theorem qak4 {R:Type}:LoopsOK (R:=R) (hnd 1 qak0) qak1 qakz qadd:=loopsOK_of (l:=[sub [1,0,1,0,0] qadd]) (by kernel_rfl) (loopsL_skip (b:=sub [1,0,1,0,0] qadd) (rid:=2) (by kernel_rfl) (by kernel_rfl) (trivial))
def qak5 {R:Type}:Inl R:= .mk 138 qak1 qakz qadd Tryz.f138.results.toList qak0
def qak6:Cfg:={T:=qacr,glob:=GlobL.G Tryz.prog,eqs:=qacs,N:=10,fuel:=64,fid:=139}
theorem qak7:CfgOK Tryz.prog qak6:=cfgC qacu qacv trivial
def qak8 {R:Type}:Inl R:= .mk 139 qak6 [] qade Tryz.f139.results.toList []
def qak9:Cfg:={T:=qacr,spec:=[(131,stringslite_IndexByte_sp)],glob:=GlobL.G Tryz.prog,eqs:=qacs,N:=8,fuel:=64,fid:=150}
theorem qala:CfgOK Tryz.prog qak9:=cfgC qacu qacv ⟨stringslite_IndexByte_ok,trivial⟩
def qalb {R:Type}:Inl R:= .mk 150 qak9 [] qadg Tryz.f150.results.toList []
def qalc:Cfg:={T:=qacr,glob:=GlobL.G Tryz.prog,eqs:=qacs,N:=17,fuel:=64,fid:=151}
theorem qald:CfgOK Tryz.prog qalc:=cfgC qacu qacv trivial
def qale {R:Type}:Inl R:= .mk 151 qalc [] qadh Tryz.f151.results.toList []
def qalf:Cfg:={T:=qacr,spec:=[(131,stringslite_IndexByte_sp)],glob:=GlobL.G Tryz.prog,eqs:=qacs,N:=8,fuel:=64,fid:=150}
theorem qalg:CfgOK Tryz.prog qalf:=cfgC qacu qacv ⟨stringslite_IndexByte_ok,trivial⟩
def qalh {R:Type}:Inl R:= .mk 150 qalf [] qadg Tryz.f150.results.toList []
def qali {R:Type}:List (Nat×Hd R):=[(38,hdOf qakh qaki),(5,hdOf qakl qakm),(12,hdOf qakj qakk)]
def qalj {R:Type}:List (Nat×Inl R):=[(170,qalb),(185,qale),(41,qalh)]
def qalk:Cfg:={T:=qacr,glob:=GlobL.G Tryz.prog,eqs:=qacs,N:=187,fuel:=64,loops:=[(38,⟨[175,1000001,1000009,1000045], [],[0,1],2, [], [], [], []⟩),(12,⟨[0,7,8,9,12,1000001,1000009,1000045], [],[0],1, [], [], [], []⟩),(5,⟨[0,7,8,9,1000001,1000009,1000045], [],[0],1, [], [], [], []⟩)],blocks:=[(9,⟨[1000001,1000009,1000045], [],[0],1, [], [], [], []⟩),(1,⟨[1000001,1000009,1000045], [],[0],1, [], [], [], []⟩),(3,⟨[8,9,1000001,1000009,1000045], [],[0],1, [], [], [], []⟩)],retA:=some ⟨[4,1000001,1000009,1000045], [],[0],1, [], [], [], []⟩,fid:=136}
theorem qall:CfgOK Tryz.prog qalk:=cfgC qacu qacv trivial
theorem qalm {R:Type}:SubsOK Tryz.prog (R:=R) 1 qalj:=subsOK_0 Tryz.f150 qala (subsOK_0 Tryz.f151 qald (subsOK_0 Tryz.f150 qalg (subsOK_nil _ _)))
theorem qaln {R:Type}:LoopOK (R:=R) (hnd 1 qalj) qalk qali (sub [1,0,1,1,1,0,0,1,0,0] qadb) (HS.V qakh) (HS.st qakh) (HS.sh qakh) qaki (hdOf qakh qaki):=loopOK_of qakh qaki (fun _ _=>rfl) (by intro q v K;kernel_rfl)
theorem qalo {R:Type}:LoopOK (R:=R) (hnd 1 qalj) qalk qali (sub [1,0,1,1,1,1,1,1,0,1,1,1,1,0,0,0] qadb) (HS.V qakl) (HS.st qakl) (HS.sh qakl) qakm (hdOf qakl qakm):=loopOK_of qakl qakm (fun _ _=>rfl) (by intro q v K;kernel_rfl)
theorem qalp {R:Type}:LoopOK (R:=R) (hnd 1 qalj) qalk qali (sub [1,0,1,1,1,1,1,1,0,1,1,1,1,0,0,0,1,0,0,1,0,1,0,0] qadb) (HS.V qakj) (HS.st qakj) (HS.sh qakj) qakk (hdOf qakj qakk):=loopOK_of qakj qakk (fun _ _=>rfl) (by intro q v K;kernel_rfl)
theorem qalq {R:Type}:LoopsOK (R:=R) (hnd 1 qalj) qalk qali qadb:=loopsOK_of (l:=[sub [1,0,1,1,1,0,0,1,0,0] qadb,sub [1,0,1,1,1,1,1,1,0,1,1,1,1,0,0,0] qadb,sub [1,0,1,1,1,1,1,1,0,1,1,1,1,0,0,0,1,0,0,1,0,1,0,0] qadb,sub [1,0,1,1,1,1,1,1,0,1,1,1,1,1,1,1,0,1,0,1,1,1,0,0] qadb,sub [1,0,1,1,1,1,1,1,0,1,1,1,1,1,1,1,0,1,0,1,1,1,0,0,1,0,0,1,0,0,1,0,0] qadb]) (by kernel_rfl) (loopsL_cons (b:=sub [1,0,1,1,1,0,0,1,0,0] qadb) (rid:=38) (by kernel_rfl) (by kernel_rfl) qaln (loopsL_cons (b:=sub [1,0,1,1,1,1,1,1,0,1,1,1,1,0,0,0] qadb) (rid:=5) (by kernel_rfl) (by kernel_rfl) qalo (loopsL_cons (b:=sub [1,0,1,1,1,1,1,1,0,1,1,1,1,0,0,0,1,0,0,1,0,1,0,0] qadb) (rid:=12) (by kernel_rfl) (by kernel_rfl) qalp (loopsL_skip (b:=sub [1,0,1,1,1,1,1,1,0,1,1,1,1,1,1,1,0,1,0,1,1,1,0,0] qadb) (rid:=25) (by kernel_rfl) (by kernel_rfl) (loopsL_skip (b:=sub [1,0,1,1,1,1,1,1,0,1,1,1,1,1,1,1,0,1,0,1,1,1,0,0,1,0,0,1,0,0,1,0,0] qadb) (rid:=29) (by kernel_rfl) (by kernel_rfl) (trivial))))))
def qalr {R:Type}:Inl R:= .mk 136 qalk qali qadb Tryz.f136.results.toList qalj
def qals {R:Type}:List (Nat×Hd R):=[(12,hdOf qakf qakg),(18,hdOf qakn qako)]
def qalt {R:Type}:List (Nat×Inl R):=[(26,qaky),(29,qak5),(42,qak8),(52,qalr)]
def qalu:Cfg:={T:=qacr,glob:=GlobL.G Tryz.prog,eqs:=qacs,N:=55,fuel:=64,loops:=[(18,⟨[1,45], [],[0],1, [], [], [], []⟩),(12,⟨[0,6,8], [],[1],2, [], [], [], []⟩)],blocks:=[(2,⟨[], [], [],0, [], [], [], []⟩),(0,⟨[], [], [],0, [], [], [], []⟩)],retA:=some ⟨[4], [], [],0, [], [], [], []⟩,fid:=110}
theorem qalv:CfgOK Tryz.prog qalu:=cfgC qacu qacv trivial
theorem qalw {R:Type}:SubsOK Tryz.prog (R:=R) 2 qalt:=subsOK_0 Tryz.f137 qakx (subsOK_a Tryz.f138 qak2 qak4 (rngs0 (by kernel_rfl)) qak3 (subsOK_0 Tryz.f139 qak7 (subsOK_a Tryz.f136 qall qalq (rngs0 (by kernel_rfl)) qalm (subsOK_nil _ _))))
theorem qalx {R:Type}:LoopOK (R:=R) (hnd 2 qalt) qalu qals (sub [1,1,1,0,1,0,1,1,0,0,1,0,0] qac4) (HS.V qakf) (HS.st qakf) (HS.sh qakf) qakg (hdOf qakf qakg):=loopOK_of qakf qakg (fun _ _=>rfl) (by intro q v K;kernel_rfl)
theorem qaly {R:Type}:LoopOK (R:=R) (hnd 2 qalt) qalu qals (sub [1,1,1,1,0,1,0,0] qac4) (HS.V qakn) (HS.st qakn) (HS.sh qakn) qako (hdOf qakn qako):=loopOK_of qakn qako (fun _ _=>rfl) (by intro q v K;kernel_rfl)
theorem qalz {R:Type}:LoopsOK (R:=R) (hnd 2 qalt) qalu qals qac4:=loopsOK_of (l:=[sub [1,1,1,0,1,0,1,1,0,0,1,0,0] qac4,sub [1,1,1,1,0,1,0,0] qac4]) (by kernel_rfl) (loopsL_cons (b:=sub [1,1,1,0,1,0,1,1,0,0,1,0,0] qac4) (rid:=12) (by kernel_rfl) (by kernel_rfl) qalx (loopsL_cons (b:=sub [1,1,1,1,0,1,0,0] qac4) (rid:=18) (by kernel_rfl) (by kernel_rfl) qaly (trivial)))
def qal0 {R:Type}:Inl R:= .mk 110 qalu qals qac4 Tryz.f110.results.toList qalt
def qal1 {R:Type}:List (Nat×Hd R):= []
def qal2 {R:Type}:List (Nat×Inl R):=[(7,qal0)]
def qal3:Cfg:={T:=qacr,glob:=GlobL.G Tryz.prog,eqs:=qacs,N:=9,fuel:=64,fid:=86}
theorem qal4:CfgOK Tryz.prog qal3:=cfgC qacu qacv trivial
theorem qal5 {R:Type}:SubsOK Tryz.prog (R:=R) 3 qal2:=subsOK_a Tryz.f110 qalv qalz (rngs0 (by kernel_rfl)) qalw (subsOK_nil _ _)
theorem qal6 {R:Type}:LoopsOK (R:=R) (hnd 3 qal2) qal3 qal1 qacy:=loopsOK_of (l:= []) (by kernel_rfl) (trivial)
theorem qal7:SpecOK Tryz.prog 86 qakv:=specOK_a Tryz.f86 qal4 qact (d:=3) qal5 qal6 (rngs0 (by kernel_rfl)) (toY:=qaks)
def qal8:List HV:=[.one (.str)]
def qal9:List HV:=[.one (.bool)]
def qama:HP.V qal8→Str:=fun v=>(v.1)
def qamb:HX.V qal9→Bool:=fun v=>(v)
def qamc:Bool→HX.V qal9:=fun y=>(y)
def qamd:Str→Option (Bool):=fun x=>path_May x
def qame:Spec:=mkSpec qal8 qal9 qama qamc qamd
def qamf:Cfg:={T:=qacr,spec:=[(86,qakv)],glob:=GlobL.G Tryz.prog,eqs:=qacs,N:=23,fuel:=64,fid:=57}
theorem qamg:CfgOK Tryz.prog qamf:=cfgC qacu qacv ⟨qal7,trivial⟩
theorem qamh:SpecOK Tryz.prog 57 qame:=specOK_0 Tryz.f57 qamg qact (toY:=qamb)
def qami:HS:=⟨[(0, .one (.yld 9)),(1, .one (.ptr 6 0)),(2, .one (.ptr 5 0)),(3, .one (.ptr 7 0)),(2000002, .one (.ptr 2 0)),(4000000, .one (.str))],[(2, .cells [.own 10]),(3, .loop true 13 126 3 [(2, .one (.ptr 2 0))]),(4, .cells [.yld 3]),(5, .cells [.str]),(6, .cells [.strk ([47]:Str)]),(7, .cells [.intk .i64 (0:Int)]),(9, .loop true 15 127 3 [(2, .one (.ptr 4 0))]),(10, .row .str)],11⟩
def qamj {R:Type}:Nat→HS.V qami→(Ex→St→Option R)→Option R:=fun q v K=>
 path_Plain_7_4_1000003_1000003_L5 (fun y6 y7=>K (.exit 2) {regs:=[(0, .v (.one (.yld 9))),(2, .v (.one (.ptr 5 0))),(2000002, .v (.one (.ptr 2 0))),(4000000, .v (.one (.str v.1.2.2.2.2.2.1)))],mem:=[(2, .cells [.own 10]),(3, .loop true 13 126 3 [(2, .v (.one (.ptr 2 0)))]),(4, .cells [.yld 3]),(5, .cells [.str y6]),(9, .loop true 15 127 3 [(2, .v (.one (.ptr 4 0)))]),(10, .row .str y7)],nx:=11}) q v.2.2.2.2.1.1 v.2.2.2.2.2.2.2.2.1
def qamk:HS:=⟨[(0, .one (.own 10)),(1, .one (.fnc 163)),(7, .one (.int .i64)),(8, .one (.int .i64)),(2000004, .one (.own 10)),(2000012, .one (.bool))],[(10, .row .str)],11⟩
def qaml {R:Type}:Nat→HS.V qamk→(Ex→St→Option R)→Option R:=fun q v K=>
 path_Plain_14_7_L2 v.1.2.2.1 v.2.1 (fun y17=>K .ret {regs:=[(4, .v (.one (.int .i64 y17))),(2000004, .v (.one (.own 10))),(2000012, .v (.one (.bool v.1.2.2.2.2.2.1)))],mem:=[(10, .row .str v.2.1)],nx:=11}) (K (.exit 0) {regs:=[(2000004, .v (.one (.own 10))),(2000012, .v (.one (.bool v.1.2.2.2.2.2.1)))],mem:=[(10, .row .str v.2.1)],nx:=11}) q v.1.2.2.2.1
def qamm:List HV:=[.one (.str)]
def qamn:List HV:=[.one (.sl .str), .one (.bool)]
def qamo:HP.V qamm→Str:=fun v=>(v.1)
def qamp:HX.V qamn→(List Str)×Bool:=fun v=>(v.1,v.2)
def qamq:(List Str)×Bool→HX.V qamn:=fun y=>(y.1,y.2)
def qamr:Str→Option ((List Str)×Bool):=fun x=>path_Plain x
def qams:Spec:=mkSpec qamm qamn qamo qamq qamr
def qamt:Cfg:={T:=qacr,spec:=[(161,qakb)],glob:=GlobL.G Tryz.prog,eqs:=qacs,N:=4,fuel:=64,fid:=103}
theorem qamu:CfgOK Tryz.prog qamt:=cfgC qacu qacv ⟨qake,trivial⟩
def qamv {R:Type}:Inl R:= .mk 103 qamt [] qac0 Tryz.f103.results.toList []
def qamw:Cfg:={T:=qacr,spec:=[(161,qakb)],glob:=GlobL.G Tryz.prog,eqs:=qacs,N:=8,fuel:=64,fid:=146}
theorem qamx:CfgOK Tryz.prog qamw:=cfgC qacu qacv ⟨qake,trivial⟩
def qamy {R:Type}:Inl R:= .mk 146 qamw [] qadf Tryz.f146.results.toList []
def qamz {R:Type}:List (Nat×Hd R):= []
def qam0 {R:Type}:List (Nat×Inl R):=[(7,qamy)]
def qam1:Cfg:={T:=qacr,spec:=[(161,qakb)],glob:=GlobL.G Tryz.prog,eqs:=qacs,N:=8,fuel:=64,fid:=128}
theorem qam2:CfgOK Tryz.prog qam1:=cfgC qacu qacv ⟨qake,trivial⟩
theorem qam3 {R:Type}:SubsOK Tryz.prog (R:=R) 2 qam0:=subsOK_0 Tryz.f146 qamx (subsOK_nil _ _)
theorem qam4 {R:Type}:LoopsOK (R:=R) (hnd 2 qam0) qam1 qamz qac8:=loopsOK_of (l:= []) (by kernel_rfl) (trivial)
def qam5 {R:Type}:Inl R:= .mk 128 qam1 qamz qac8 Tryz.f128.results.toList qam0
def qam6 {R:Type}:List (Nat×Hd R):= []
def qam7 {R:Type}:List (Nat×Inl R):= []
def qam8:Cfg:={T:=qacr,spec:=[(131,stringslite_IndexByte_sp),(161,qakb)],glob:=GlobL.G Tryz.prog,eqs:=qacs,N:=143,fuel:=64,retA:=some ⟨[4,2000000,2000001,2000002,2000003,4000002,6000000], [],[2,3,4,5,6,7,9,10],11, [], [], [], []⟩,fid:=108}
theorem qam9:CfgOK Tryz.prog qam8:=cfgC qacu qacv ⟨stringslite_IndexByte_ok,⟨qake,trivial⟩⟩
theorem qana {R:Type}:SubsOK Tryz.prog (R:=R) 0 qam7:=subsOK_nil _ _
theorem qanb {R:Type}:LoopsOK (R:=R) (hnd 0 qam7) qam8 qam6 qac3:=loopsOK_of (l:=[sub [1,1,1,1,1,1,1,1,0,0,0] qac3]) (by kernel_rfl) (loopsL_skip (b:=sub [1,1,1,1,1,1,1,1,0,0,0] qac3) (rid:=15) (by kernel_rfl) (by kernel_rfl) (trivial))
def qanc {R:Type}:Inl R:= .mk 108 qam8 qam6 qac3 Tryz.f108.results.toList qam7
def qand {R:Type}:List (Nat×Hd R):= []
def qane {R:Type}:List (Nat×Inl R):=[(7,qanc)]
def qanf:Cfg:={T:=qacr,spec:=[(161,qakb)],glob:=GlobL.G Tryz.prog,eqs:=qacs,N:=8,fuel:=64,fid:=82}
theorem qang:CfgOK Tryz.prog qanf:=cfgC qacu qacv ⟨qake,trivial⟩
theorem qanh {R:Type}:SubsOK Tryz.prog (R:=R) 1 qane:=subsOK_a Tryz.f108 qam9 qanb (rngs0 (by kernel_rfl)) qana (subsOK_nil _ _)
theorem qani {R:Type}:LoopsOK (R:=R) (hnd 1 qane) qanf qand qacx:=loopsOK_of (l:= []) (by kernel_rfl) (trivial)
def qanj {R:Type}:Inl R:= .mk 82 qanf qand qacx Tryz.f82.results.toList qane
def qank:Code:=(rngGet 3 qac6).2.1
def qanl:Code:=(rngGet 3 qac6).2.2
def qanm {R:Type}:List (Nat×Hd R):= []
def qann {R:Type}:List (Nat×Inl R):= []
def qano:Cfg:={T:=qacr,spec:=[(161,qakb)],glob:=GlobL.G Tryz.prog,eqs:=qacs,N:=13,fuel:=64,fid:=126,rnd:=true}
theorem qanp:CfgOK Tryz.prog qano:=cfgC qacu qacv ⟨qake,trivial⟩
theorem qanq {R:Type}:SubsOK Tryz.prog (R:=R) 0 qann:=subsOK_nil _ _
theorem qanr {R:Type}:LoopsOK (R:=R) (hnd 0 qann) qano qanm qank:=loopsOK_of (l:= []) (by kernel_rfl) (trivial)
theorem qans {R:Type}:LoopsOK (R:=R) (hnd 0 qann) qano qanm qanl:=loopsOK_of (l:= []) (by kernel_rfl) (trivial)
def qant {R:Type}:Inl R:= .rnd 126 3 qano qanm [7] qank qanl qann
def qanu:Code:=(rngGet 3 qac7).2.1
def qanv:Code:=(rngGet 3 qac7).2.2
def qanw {R:Type}:List (Nat×Hd R):= []
def qanx {R:Type}:List (Nat×Inl R):=[(12,qant)]
def qany:Cfg:={T:=qacr,spec:=[(161,qakb)],glob:=GlobL.G Tryz.prog,eqs:=qacs,N:=15,fuel:=64,fid:=127,rnd:=true}
theorem qanz:CfgOK Tryz.prog qany:=cfgC qacu qacv ⟨qake,trivial⟩
theorem qan0 {R:Type}:SubsOK Tryz.prog (R:=R) 1 qanx:=subsOK_round (by kernel_rfl) qanp qanr qans qanq (subsOK_nil _ _)
theorem qan1 {R:Type}:LoopsOK (R:=R) (hnd 1 qanx) qany qanw qanu:=loopsOK_of (l:= []) (by kernel_rfl) (trivial)
theorem qan2 {R:Type}:LoopsOK (R:=R) (hnd 1 qanx) qany qanw qanv:=loopsOK_of (l:= []) (by kernel_rfl) (trivial)
def qan3 {R:Type}:Inl R:= .rnd 127 3 qany qanw [6] qanu qanv qanx
def qan4:Code:=(rngGet 3 qac6).2.1
def qan5:Code:=(rngGet 3 qac6).2.2
def qan6 {R:Type}:List (Nat×Hd R):= []
def qan7 {R:Type}:List (Nat×Inl R):= []
def qan8:Cfg:={T:=qacr,spec:=[(161,qakb)],glob:=GlobL.G Tryz.prog,eqs:=qacs,N:=13,fuel:=64,fid:=126,rnd:=true}
theorem qan9:CfgOK Tryz.prog qan8:=cfgC qacu qacv ⟨qake,trivial⟩
theorem qaoa {R:Type}:SubsOK Tryz.prog (R:=R) 0 qan7:=subsOK_nil _ _
theorem qaob {R:Type}:LoopsOK (R:=R) (hnd 0 qan7) qan8 qan6 qan4:=loopsOK_of (l:= []) (by kernel_rfl) (trivial)
theorem qaoc {R:Type}:LoopsOK (R:=R) (hnd 0 qan7) qan8 qan6 qan5:=loopsOK_of (l:= []) (by kernel_rfl) (trivial)
def qaod {R:Type}:Inl R:= .rnd 126 3 qan8 qan6 [7] qan4 qan5 qan7
def qaoe:Code:=(rngGet 3 qac7).2.1
def qaof:Code:=(rngGet 3 qac7).2.2
def qaog {R:Type}:List (Nat×Hd R):= []
def qaoh {R:Type}:List (Nat×Inl R):=[(12,qaod)]
def qaoi:Cfg:={T:=qacr,spec:=[(161,qakb)],glob:=GlobL.G Tryz.prog,eqs:=qacs,N:=15,fuel:=64,fid:=127,rnd:=true}
theorem qaoj:CfgOK Tryz.prog qaoi:=cfgC qacu qacv ⟨qake,trivial⟩
theorem qaok {R:Type}:SubsOK Tryz.prog (R:=R) 1 qaoh:=subsOK_round (by kernel_rfl) qan9 qaob qaoc qaoa (subsOK_nil _ _)
theorem qaol {R:Type}:LoopsOK (R:=R) (hnd 1 qaoh) qaoi qaog qaoe:=loopsOK_of (l:= []) (by kernel_rfl) (trivial)
theorem qaom {R:Type}:LoopsOK (R:=R) (hnd 1 qaoh) qaoi qaog qaof:=loopsOK_of (l:= []) (by kernel_rfl) (trivial)
def qaon {R:Type}:Inl R:= .rnd 127 3 qaoi qaog [6] qaoe qaof qaoh
def qaoo {R:Type}:List (Nat×Hd R):=[(5,hdOf qami qamj)]
def qaop {R:Type}:List (Nat×Inl R):=[(31,qanj),(41,qan3),(51,qaon)]
def qaoq:Cfg:={T:=qacr,spec:=[(161,qakb)],glob:=GlobL.G Tryz.prog,eqs:=qacs,N:=52,fuel:=64,loops:=[(5,⟨[0,1,2,3,2000002,4000000], [],[2,3,4,5,6,7,9,10],11, [], [],[(2,0,10, .str)], []⟩)],blocks:=[(2,⟨[0,2,2000002,4000000], [],[2,3,4,5,9,10],11, [], [], [], []⟩)],fid:=157}
theorem qaor:CfgOK Tryz.prog qaoq:=cfgC qacu qacv ⟨qake,trivial⟩
theorem qaos {R:Type}:SubsOK Tryz.prog (R:=R) 2 qaop:=subsOK_a Tryz.f82 qang qani (rngs0 (by kernel_rfl)) qanh (subsOK_round (by kernel_rfl) qanz qan1 qan2 qan0 (subsOK_round (by kernel_rfl) qaoj qaol qaom qaok (subsOK_nil _ _)))
theorem qaot {R:Type}:LoopOK (R:=R) (hnd 2 qaop) qaoq qaoo (sub [1,0,0,0] qadi) (HS.V qami) (HS.st qami) (HS.sh qami) qamj (hdOf qami qamj):=loopOK_of qami qamj (fun _ _=>rfl) (by intro q v K;kernel_rfl)
theorem qaou {R:Type}:LoopsOK (R:=R) (hnd 2 qaop) qaoq qaoo qadi:=loopsOK_of (l:=[sub [0,1,0,0,0,0] qadi,sub [1,0,0,0] qadi]) (by kernel_rfl) (loopsL_skip (b:=sub [0,1,0,0,0,0] qadi) (rid:=1) (by kernel_rfl) (by kernel_rfl) (loopsL_cons (b:=sub [1,0,0,0] qadi) (rid:=5) (by kernel_rfl) (by kernel_rfl) qaot (trivial)))
def qaov {R:Type}:Inl R:= .mk 157 qaoq qaoo qadi Tryz.f157.results.toList qaop
def qaow {R:Type}:List (Nat×Hd R):= []
def qaox {R:Type}:List (Nat×Inl R):=[(5,qam5),(1000003,qaov)]
def qaoy:Cfg:={T:=qacr,spec:=[(161,qakb)],glob:=GlobL.G Tryz.prog,eqs:=qacs,N:=15,fuel:=64,fid:=127,saves:=[(3,[2])]}
theorem qaoz:CfgOK Tryz.prog qaoy:=cfgC qacu qacv ⟨qake,trivial⟩
theorem qao0 {R:Type}:SubsOK Tryz.prog (R:=R) 3 qaox:=subsOK_a Tryz.f128 qam2 qam4 (rngs0 (by kernel_rfl)) qam3 (subsOK_a Tryz.f157 qaor qaou (rngs0 (by kernel_rfl)) qaos (subsOK_nil _ _))
theorem qao1 {R:Type}:LoopsOK (R:=R) (hnd 3 qaox) qaoy qaow qac7:=loopsOK_of (l:= []) (by kernel_rfl) (trivial)
theorem qao2:RngsOK Tryz.prog qaoy qac7:=rngs1 (x:=rngGet 3 qac7) (by kernel_rfl) (by kernel_rfl)
def qao3 {R:Type}:Inl R:= .mk 127 qaoy qaow qac7 Tryz.f127.results.toList qaox
def qao4 {R:Type}:List (Nat×Hd R):= []
def qao5 {R:Type}:List (Nat×Inl R):=[(1000003,qao3)]
def qao6:Cfg:={T:=qacr,spec:=[(161,qakb)],glob:=GlobL.G Tryz.prog,eqs:=qacs,N:=13,fuel:=64,fid:=126,saves:=[(3,[2])]}
theorem qao7:CfgOK Tryz.prog qao6:=cfgC qacu qacv ⟨qake,trivial⟩
theorem qao8 {R:Type}:SubsOK Tryz.prog (R:=R) 4 qao5:=subsOK_a Tryz.f127 qaoz qao1 qao2 qao0 (subsOK_nil _ _)
theorem qao9 {R:Type}:LoopsOK (R:=R) (hnd 4 qao5) qao6 qao4 qac6:=loopsOK_of (l:= []) (by kernel_rfl) (trivial)
theorem qapa:RngsOK Tryz.prog qao6 qac6:=rngs1 (x:=rngGet 3 qac6) (by kernel_rfl) (by kernel_rfl)
def qapb {R:Type}:Inl R:= .mk 126 qao6 qao4 qac6 Tryz.f126.results.toList qao5
def qapc {R:Type}:List (Nat×Hd R):= []
def qapd {R:Type}:List (Nat×Inl R):=[(4,qapb)]
def qape:Cfg:={T:=qacr,spec:=[(161,qakb)],glob:=GlobL.G Tryz.prog,eqs:=qacs,N:=5,fuel:=64,fid:=102}
theorem qapf:CfgOK Tryz.prog qape:=cfgC qacu qacv ⟨qake,trivial⟩
theorem qapg {R:Type}:SubsOK Tryz.prog (R:=R) 5 qapd:=subsOK_a Tryz.f126 qao7 qao9 qapa qao8 (subsOK_nil _ _)
theorem qaph {R:Type}:LoopsOK (R:=R) (hnd 5 qapd) qape qapc qacz:=loopsOK_of (l:= []) (by kernel_rfl) (trivial)
def qapi {R:Type}:Inl R:= .mk 102 qape qapc qacz Tryz.f102.results.toList qapd
def qapj:Cfg:={T:=qacr,spec:=[(57,qame),(161,qakb)],glob:=GlobL.G Tryz.prog,eqs:=qacs,N:=6,fuel:=64,fid:=163}
theorem qapk:CfgOK Tryz.prog qapj:=cfgC qacu qacv ⟨qamh,⟨qake,trivial⟩⟩
def qapl {R:Type}:Inl R:= .mk 163 qapj [] qadl Tryz.f163.results.toList []
def qapm {R:Type}:List (Nat×Hd R):=[(2,hdOf qamk qaml)]
def qapn {R:Type}:List (Nat×Inl R):=[(16,qapl)]
def qapo:Cfg:={T:=qacr,spec:=[(161,qakb)],glob:=GlobL.G Tryz.prog,eqs:=qacs,N:=19,fuel:=64,loops:=[(2,⟨[0,1,7,8,2000004,2000012], [],[10],11, [], [], [], []⟩)],blocks:=[(0,⟨[2000004,2000012], [],[10],11, [], [], [], []⟩)],retA:=some ⟨[4,2000004,2000012], [],[10],11, [], [], [], []⟩,fid:=165}
theorem qapp:CfgOK Tryz.prog qapo:=cfgC qacu qacv ⟨qake,trivial⟩
theorem qapq {R:Type}:SubsOK Tryz.prog (R:=R) 4 qapn:=subsOK_0 Tryz.f163 qapk (subsOK_nil _ _)
theorem qapr {R:Type}:LoopOK (R:=R) (hnd 4 qapn) qapo qapm (sub [1,0,1,0,0] qadm) (HS.V qamk) (HS.st qamk) (HS.sh qamk) qaml (hdOf qamk qaml):=loopOK_of qamk qaml (fun _ _=>rfl) (by intro q v K;kernel_rfl)
theorem qaps {R:Type}:LoopsOK (R:=R) (hnd 4 qapn) qapo qapm qadm:=loopsOK_of (l:=[sub [1,0,1,0,0] qadm]) (by kernel_rfl) (loopsL_cons (b:=sub [1,0,1,0,0] qadm) (rid:=2) (by kernel_rfl) (by kernel_rfl) qapr (trivial))
def qapt {R:Type}:Inl R:= .mk 165 qapo qapm qadm Tryz.f165.results.toList qapn
def qapu {R:Type}:List (Nat×Hd R):= []
def qapv {R:Type}:List (Nat×Inl R):=[(7,qapt)]
def qapw:Cfg:={T:=qacr,spec:=[(161,qakb)],glob:=GlobL.G Tryz.prog,eqs:=qacs,N:=9,fuel:=64,fid:=162}
theorem qapx:CfgOK Tryz.prog qapw:=cfgC qacu qacv ⟨qake,trivial⟩
theorem qapy {R:Type}:SubsOK Tryz.prog (R:=R) 5 qapv:=subsOK_a Tryz.f165 qapp qaps (rngs0 (by kernel_rfl)) qapq (subsOK_nil _ _)
theorem qapz {R:Type}:LoopsOK (R:=R) (hnd 5 qapv) qapw qapu qadk:=loopsOK_of (l:= []) (by kernel_rfl) (trivial)
def qap0 {R:Type}:Inl R:= .mk 162 qapw qapu qadk Tryz.f162.results.toList qapv
def qap1 {R:Type}:List (Nat×Hd R):= []
def qap2 {R:Type}:List (Nat×Inl R):=[(6,qamv),(7,qapi),(14,qap0)]
def qap3:Cfg:={T:=qacr,spec:=[(161,qakb)],glob:=GlobL.G Tryz.prog,eqs:=qacs,N:=17,fuel:=64,fid:=159}
theorem qap4:CfgOK Tryz.prog qap3:=cfgC qacu qacv ⟨qake,trivial⟩
theorem qap5 {R:Type}:SubsOK Tryz.prog (R:=R) 6 qap2:=subsOK_0 Tryz.f103 qamu (subsOK_a Tryz.f102 qapf qaph (rngs0 (by kernel_rfl)) qapg (subsOK_a Tryz.f162 qapx qapz (rngs0 (by kernel_rfl)) qapy (subsOK_nil _ _)))
theorem qap6 {R:Type}:LoopsOK (R:=R) (hnd 6 qap2) qap3 qap1 qadj:=loopsOK_of (l:= []) (by kernel_rfl) (trivial)
theorem qap7:SpecOK Tryz.prog 159 qams:=specOK_a Tryz.f159 qap4 qact (d:=6) qap5 qap6 (rngs0 (by kernel_rfl)) (toY:=qamp)
end
end Go.Eng
set_option linter.unusedVariables false
set_option maxRecDepth 100000
namespace Go.Eng
noncomputable section
open Go Go.Proofs
def qap8:List (Nat×TI):=[(3,⟨false,1, .one (.int .i64 0), .int .i64⟩),(22,⟨false,1, .one (.clip .inode []), .slice .inode 45⟩),(24,⟨true,4, .agg [.int .i64 0, .int .i64 0, .int .i64 0, .clip .inode []], .struct [(0,3),(1,3),(2,3),(3,22)]⟩),(45,⟨true,6, .agg [.int .i64 0, .int .i64 0, .int .i64 0, .str [], .int .i64 0, .clip .entry []], .struct [(0,3),(1,3),(2,3),(3,9),(4,3),(5,43)]⟩),(129,⟨false,1, .one (.int .u64 0), .int .u64⟩)]
def qap9:List (Nat×List EK):= []
theorem qaqa:Tryz.prog.follows .mixedOrders=true:=by kernel_rfl
theorem qaqb:(qap8.all fun x=>tiB Tryz.prog x.1 x.2)=true:=by kernel_rfl
theorem qaqc:(qap9.all fun x=>eqB Tryz.prog x.1 x.2)=true:=by kernel_rfl
def qaqd:Code:=bd Tryz.f62
def qaqe:Code:=bd Tryz.f77
def qaqf:Code:=bd Tryz.f89
def qaqg:Code:=bd Tryz.f90
def qaqh:Code:=bd Tryz.f94
def qaqi:Code:=bd Tryz.f106
def qaqj:Code:=bd Tryz.f111
def qaqk:Code:=bd Tryz.f112
def qaql:Code:=bd Tryz.f113
def qaqm:Code:=bd Tryz.f140
def qaqn:HS:=⟨[(0, .one (.sl .inode)),(1, .one (.int .i64)),(2, .one (.fnc 112)),(8, .one (.int .i64)),(9, .one (.int .i64)),(10, .one (.int .i64))], [],0⟩
def qaqo {R:Type}:Nat→HS.V qaqn→(Ex→St→Option R)→Option R:=fun q v K=>
 table_at_9_L3 v.1.1 v.1.2.1 (fun y10=>K (.exit 0) {regs:=[(0, .v (.one (.sl .inode v.1.1))),(1, .v (.one (.int .i64 v.1.2.1))),(2, .v (.one (.fnc 112))),(8, .v (.one (.int .i64 v.1.2.2.2.1))),(9, .v (.one (.int .i64 y10)))],mem:= [],nx:=0}) q v.1.2.2.2.2.1 v.1.2.2.2.2.2.1
def qaqp:List HV:=[.agg hFs, .one (.int .i64)]
def qaqq:List HV:=[.one (.int .i64), .one (.bool)]
def qaqr:HP.V qaqp→Fs×Int:=fun v=>((cFs v.1),v.2.1)
def qaqs:HX.V qaqq→Int×Bool:=fun v=>(v.1,v.2)
def qaqt:(Int×Bool)→HX.V qaqq:=fun y=>(y.1,y.2)
def qaqu:(Fs×Int)→Option (Int×Bool):=fun x=>table_at x.1 x.2
def qaqv:Spec:=mkSpec qaqp qaqq qaqr qaqt qaqu
def qaqw:Cfg:={T:=qap8,glob:=GlobL.G Tryz.prog,eqs:=qap9,N:=6,fuel:=64,fid:=140}
theorem qaqx:CfgOK Tryz.prog qaqw:=cfgC qaqb qaqc trivial
def qaqy {R:Type}:Inl R:= .mk 140 qaqw [] qaqm Tryz.f140.results.toList []
def qaqz:Cfg:={T:=qap8,glob:=GlobL.G Tryz.prog,eqs:=qap9,N:=6,fuel:=64,fid:=140}
theorem qaq0:CfgOK Tryz.prog qaqz:=cfgC qaqb qaqc trivial
def qaq1 {R:Type}:Inl R:= .mk 140 qaqz [] qaqm Tryz.f140.results.toList []
def qaq2 {R:Type}:List (Nat×Hd R):= []
def qaq3 {R:Type}:List (Nat×Inl R):=[(8,qaqy),(10,qaq1)]
def qaq4:Cfg:={T:=qap8,glob:=GlobL.G Tryz.prog,eqs:=qap9,N:=20,fuel:=64,fid:=113}
theorem qaq5:CfgOK Tryz.prog qaq4:=cfgC qaqb qaqc trivial
theorem qaq6 {R:Type}:SubsOK Tryz.prog (R:=R) 1 qaq3:=subsOK_0 Tryz.f140 qaqx (subsOK_0 Tryz.f140 qaq0 (subsOK_nil _ _))
theorem qaq7 {R:Type}:LoopsOK (R:=R) (hnd 1 qaq3) qaq4 qaq2 qaql:=loopsOK_of (l:= []) (by kernel_rfl) (trivial)
def qaq8 {R:Type}:Inl R:= .mk 113 qaq4 qaq2 qaql Tryz.f113.results.toList qaq3
def qaq9 {R:Type}:List (Nat×Hd R):= []
def qara {R:Type}:List (Nat×Inl R):=[(8,qaq8)]
def qarb:Cfg:={T:=qap8,glob:=GlobL.G Tryz.prog,eqs:=qap9,N:=9,fuel:=64,fid:=112}
theorem qarc:CfgOK Tryz.prog qarb:=cfgC qaqb qaqc trivial
theorem qard {R:Type}:SubsOK Tryz.prog (R:=R) 2 qara:=subsOK_a Tryz.f113 qaq5 qaq7 (rngs0 (by kernel_rfl)) qaq6 (subsOK_nil _ _)
theorem qare {R:Type}:LoopsOK (R:=R) (hnd 2 qara) qarb qaq9 qaqk:=loopsOK_of (l:= []) (by kernel_rfl) (trivial)
def qarf {R:Type}:Inl R:= .mk 112 qarb qaq9 qaqk Tryz.f112.results.toList qara
def qarg:Cfg:={T:=qap8,glob:=GlobL.G Tryz.prog,eqs:=qap9,N:=6,fuel:=64,fid:=140}
theorem qarh:CfgOK Tryz.prog qarg:=cfgC qaqb qaqc trivial
def qari {R:Type}:Inl R:= .mk 140 qarg [] qaqm Tryz.f140.results.toList []
def qarj:Cfg:={T:=qap8,glob:=GlobL.G Tryz.prog,eqs:=qap9,N:=6,fuel:=64,fid:=140}
theorem qark:CfgOK Tryz.prog qarj:=cfgC qaqb qaqc trivial
def qarl {R:Type}:Inl R:= .mk 140 qarj [] qaqm Tryz.f140.results.toList []
def qarm {R:Type}:List (Nat×Hd R):= []
def qarn {R:Type}:List (Nat×Inl R):=[(8,qari),(10,qarl)]
def qaro:Cfg:={T:=qap8,glob:=GlobL.G Tryz.prog,eqs:=qap9,N:=20,fuel:=64,fid:=113}
theorem qarp:CfgOK Tryz.prog qaro:=cfgC qaqb qaqc trivial
theorem qarq {R:Type}:SubsOK Tryz.prog (R:=R) 1 qarn:=subsOK_0 Tryz.f140 qarh (subsOK_0 Tryz.f140 qark (subsOK_nil _ _))
theorem qarr {R:Type}:LoopsOK (R:=R) (hnd 1 qarn) qaro qarm qaql:=loopsOK_of (l:= []) (by kernel_rfl) (trivial)
def qars {R:Type}:Inl R:= .mk 113 qaro qarm qaql Tryz.f113.results.toList qarn
def qart {R:Type}:List (Nat×Hd R):= []
def qaru {R:Type}:List (Nat×Inl R):=[(8,qars)]
def qarv:Cfg:={T:=qap8,glob:=GlobL.G Tryz.prog,eqs:=qap9,N:=9,fuel:=64,fid:=112}
theorem qarw:CfgOK Tryz.prog qarv:=cfgC qaqb qaqc trivial
theorem qarx {R:Type}:SubsOK Tryz.prog (R:=R) 2 qaru:=subsOK_a Tryz.f113 qarp qarr (rngs0 (by kernel_rfl)) qarq (subsOK_nil _ _)
theorem qary {R:Type}:LoopsOK (R:=R) (hnd 2 qaru) qarv qart qaqk:=loopsOK_of (l:= []) (by kernel_rfl) (trivial)
def qarz {R:Type}:Inl R:= .mk 112 qarv qart qaqk Tryz.f112.results.toList qaru
def qar0 {R:Type}:List (Nat×Hd R):=[(3,hdOf qaqn qaqo)]
def qar1 {R:Type}:List (Nat×Inl R):=[(30,qarf),(46,qarz)]
def qar2:Cfg:={T:=qap8,glob:=GlobL.G Tryz.prog,eqs:=qap9,N:=49,fuel:=64,loops:=[(3,⟨[0,1,2,8,9,10], [], [],0, [], [], [], []⟩)],blocks:=[(0,⟨[0,1,2,8,9], [], [],0, [], [], [], []⟩)],fid:=111}
theorem qar3:CfgOK Tryz.prog qar2:=cfgC qaqb qaqc trivial
theorem qar4 {R:Type}:SubsOK Tryz.prog (R:=R) 3 qar1:=subsOK_a Tryz.f112 qarc qare (rngs0 (by kernel_rfl)) qard (subsOK_a Tryz.f112 qarw qary (rngs0 (by kernel_rfl)) qarx (subsOK_nil _ _))
theorem qar5 {R:Type}:LoopOK (R:=R) (hnd 3 qar1) qar2 qar0 (sub [1,1,1,0,0,0] qaqj) (HS.V qaqn) (HS.st qaqn) (HS.sh qaqn) qaqo (hdOf qaqn qaqo):=loopOK_of qaqn qaqo (fun _ _=>rfl) (by intro q v K;kernel_rfl)
theorem qar6 {R:Type}:LoopsOK (R:=R) (hnd 3 qar1) qar2 qar0 qaqj:=loopsOK_of (l:=[sub [1,1,1,0,0,0] qaqj]) (by kernel_rfl) (loopsL_cons (b:=sub [1,1,1,0,0,0] qaqj) (rid:=3) (by kernel_rfl) (by kernel_rfl) qar5 (trivial))
def qar7 {R:Type}:Inl R:= .mk 111 qar2 qar0 qaqj Tryz.f111.results.toList qar1
def qar8 {R:Type}:List (Nat×Hd R):= []
def qar9 {R:Type}:List (Nat×Inl R):=[(9,qar7)]
def qasa:Cfg:={T:=qap8,glob:=GlobL.G Tryz.prog,eqs:=qap9,N:=12,fuel:=64,fid:=89}
theorem qasb:CfgOK Tryz.prog qasa:=cfgC qaqb qaqc trivial
theorem qasc {R:Type}:SubsOK Tryz.prog (R:=R) 4 qar9:=subsOK_a Tryz.f111 qar3 qar6 (rngs0 (by kernel_rfl)) qar4 (subsOK_nil _ _)
theorem qasd {R:Type}:LoopsOK (R:=R) (hnd 4 qar9) qasa qar8 qaqf:=loopsOK_of (l:= []) (by kernel_rfl) (trivial)
theorem qase:SpecOK Tryz.prog 89 qaqv:=specOK_a Tryz.f89 qasb qaqa (d:=4) qasc qasd (rngs0 (by kernel_rfl)) (toY:=qaqs)
def qasf:List HV:=[.agg hFs, .one (.int .i64)]
def qasg:List HV:=[.agg hIn, .one (.bool)]
def qash:HP.V qasf→Fs×Int:=fun v=>((cFs v.1),v.2.1)
def qasi:HX.V qasg→Inode×Bool:=fun v=>((cIn v.1),v.2)
def qasj:(Inode×Bool)→HX.V qasg:=fun y=>((y.1.ino,(y.1.kind,(y.1.links,(y.1.data,(y.1.parent,(y.1.entries,())))))),y.2)
def qask:(Fs×Int)→Option (Inode×Bool):=fun x=>table_Get x.1 x.2
def qasl:Spec:=mkSpec qasf qasg qash qasj qask
def qasm:Cfg:={T:=qap8,spec:=[(89,qaqv)],glob:=GlobL.G Tryz.prog,eqs:=qap9,N:=22,fuel:=64,fid:=59}
theorem qasn:CfgOK Tryz.prog qasm:=cfgC qaqb qaqc ⟨qase,trivial⟩
theorem qaso:SpecOK Tryz.prog 59 qasl:=specOK_0 Tryz.f59 qasn qaqa (toY:=qasi)
def qasp:List HV:=[.agg hFs, .agg hIn]
def qasq:List HV:=[.agg hFs]
def qasr:HP.V qasp→Fs×Inode:=fun v=>((cFs v.1),(cIn v.2.1))
def qass:HX.V qasq→Fs:=fun v=>((cFs v))
def qast:Fs→HX.V qasq:=fun y=>((y.maxInodes,(y.maxBytes,(y.next,(y.inodes,())))))
def qasu:(Fs×Inode)→Option (Fs):=fun x=>table_Set x.1 x.2
def qasv:Spec:=mkSpec qasp qasq qasr qast qasu
def qasw:Cfg:={T:=qap8,spec:=[(89,qaqv)],glob:=GlobL.G Tryz.prog,eqs:=qap9,N:=8,fuel:=64,ovl:=[119],fid:=90}
theorem qasx:CfgOK Tryz.prog qasw:=cfgC qaqb qaqc ⟨qase,trivial⟩ (ov:=⟨ovl119,trivial⟩)
def qasy {R:Type}:Inl R:= .mk 90 qasw [] qaqg Tryz.f90.results.toList []
def qasz:Cfg:={T:=qap8,spec:=[(89,qaqv)],glob:=GlobL.G Tryz.prog,eqs:=qap9,N:=95,fuel:=64,ovl:=[119],fid:=94}
theorem qas0:CfgOK Tryz.prog qasz:=cfgC qaqb qaqc ⟨qase,trivial⟩ (ov:=⟨ovl119,trivial⟩)
def qas1 {R:Type}:Inl R:= .mk 94 qasz [] qaqh Tryz.f94.results.toList []
def qas2 {R:Type}:List (Nat×Hd R):= []
def qas3 {R:Type}:List (Nat×Inl R):=[(16,qasy),(30,qas1)]
def qas4:Cfg:={T:=qap8,spec:=[(89,qaqv)],glob:=GlobL.G Tryz.prog,eqs:=qap9,N:=33,fuel:=64,ovl:=[119],fid:=62}
theorem qas5:CfgOK Tryz.prog qas4:=cfgC qaqb qaqc ⟨qase,trivial⟩ (ov:=⟨ovl119,trivial⟩)
theorem qas6 {R:Type}:SubsOK Tryz.prog (R:=R) 1 qas3:=subsOK_0 Tryz.f90 qasx (subsOK_0 Tryz.f94 qas0 (subsOK_nil _ _))
theorem qas7 {R:Type}:LoopsOK (R:=R) (hnd 1 qas3) qas4 qas2 qaqd:=loopsOK_of (l:= []) (by kernel_rfl) (trivial)
theorem qas8:SpecOK Tryz.prog 62 qasv:=specOK_a Tryz.f62 qas5 qaqa (d:=1) qas6 qas7 (rngs0 (by kernel_rfl)) (toY:=qass)
def qas9:List HV:=[.agg hFs, .one (.int .i64)]
def qata:List HV:=[.agg hFs]
def qatb:HP.V qas9→Fs×Int:=fun v=>((cFs v.1),v.2.1)
def qatc:HX.V qata→Fs:=fun v=>((cFs v))
def qatd:Fs→HX.V qata:=fun y=>((y.maxInodes,(y.maxBytes,(y.next,(y.inodes,())))))
def qate:(Fs×Int)→Option (Fs):=fun x=>table_Drop x.1 x.2
def qatf:Spec:=mkSpec qas9 qata qatb qatd qate
def qatg:Cfg:={T:=qap8,spec:=[(89,qaqv)],glob:=GlobL.G Tryz.prog,eqs:=qap9,N:=8,fuel:=64,fid:=90}
theorem qath:CfgOK Tryz.prog qatg:=cfgC qaqb qaqc ⟨qase,trivial⟩
def qati {R:Type}:Inl R:= .mk 90 qatg [] qaqg Tryz.f90.results.toList []
def qatj:Cfg:={T:=qap8,spec:=[(89,qaqv)],glob:=GlobL.G Tryz.prog,eqs:=qap9,N:=33,fuel:=64,fid:=106}
theorem qatk:CfgOK Tryz.prog qatj:=cfgC qaqb qaqc ⟨qase,trivial⟩
def qatl {R:Type}:Inl R:= .mk 106 qatj [] qaqi Tryz.f106.results.toList []
def qatm {R:Type}:List (Nat×Hd R):= []
def qatn {R:Type}:List (Nat×Inl R):=[(15,qati),(23,qatl)]
def qato:Cfg:={T:=qap8,spec:=[(89,qaqv)],glob:=GlobL.G Tryz.prog,eqs:=qap9,N:=26,fuel:=64,fid:=77}
theorem qatp:CfgOK Tryz.prog qato:=cfgC qaqb qaqc ⟨qase,trivial⟩
theorem qatq {R:Type}:SubsOK Tryz.prog (R:=R) 1 qatn:=subsOK_0 Tryz.f90 qath (subsOK_0 Tryz.f106 qatk (subsOK_nil _ _))
theorem qatr {R:Type}:LoopsOK (R:=R) (hnd 1 qatn) qato qatm qaqe:=loopsOK_of (l:= []) (by kernel_rfl) (trivial)
theorem qats:SpecOK Tryz.prog 77 qatf:=specOK_a Tryz.f77 qatp qaqa (d:=1) qatq qatr (rngs0 (by kernel_rfl)) (toY:=qatc)
end
end Go.Eng
set_option linter.unusedVariables false
set_option maxRecDepth 100000
namespace Go.Eng
noncomputable section
open Go Go.Proofs
def qatt:List (Nat×TI):=[(3,⟨false,1, .one (.int .i64 0), .int .i64⟩),(9,⟨false,1, .one (.str []), .str⟩),(24,⟨true,4, .agg [.int .i64 0, .int .i64 0, .int .i64 0, .clip .inode []], .struct [(0,3),(1,3),(2,3),(3,22)]⟩),(37,⟨true,3, .agg [.int .i64 0, .str [], .int .i64 0], .struct [(0,3),(1,9),(2,3)]⟩),(43,⟨false,1, .one (.clip .entry []), .slice .entry 95⟩),(45,⟨true,6, .agg [.int .i64 0, .int .i64 0, .int .i64 0, .str [], .int .i64 0, .clip .entry []], .struct [(0,3),(1,3),(2,3),(3,9),(4,3),(5,43)]⟩),(65,⟨false,1, .one (.clip .str []), .slice .str 9⟩)]
def qatu:List (Nat×List EK):= []
theorem qatv:Tryz.prog.follows .mixedOrders=true:=by kernel_rfl
theorem qatw:(qatt.all fun x=>tiB Tryz.prog x.1 x.2)=true:=by kernel_rfl
theorem qatx:(qatu.all fun x=>eqB Tryz.prog x.1 x.2)=true:=by kernel_rfl
def qaty:Code:=bd Tryz.f155
def qatz:HS:=⟨[(2, .one (.ptr 0 0)),(4, .one (.ptr 1 0)),(8, .one (.ptr 2 0)),(24, .one (.sl .str)),(25, .one (.int .i64)),(26, .one (.int .i64))],[(0, .cells hFs),(1, .cells [.int .i64, .str, .int .i64]),(2, .cells [.int .i64, .str, .int .i64])],3⟩
def qat0 {R:Type}:Nat→HS.V qatz→(Ex→St→Option R)→Option R:=fun q v K=>
 place_At_L6 v.1.2.2.2.1 v.1.2.2.2.2.1 (cFs v.2.1) (fun y11=>K .ret {regs:=[(4, .v (.one (.ptr 1 0))),(5, .v (.one (.int .i64 y11)))],mem:=[(1, .cells [.int .i64 ((⟨0, [],0⟩:Spotted).dir), .str ((⟨0, [],0⟩:Spotted).name), .int .i64 ((⟨0, [],0⟩:Spotted).ino)])],nx:=2}) (fun y14=>K (.exit 0) {regs:=[(4, .v (.one (.ptr 1 0))),(8, .v (.one (.ptr 2 0)))],mem:=[(1, .cells [.int .i64 ((⟨v.2.2.1.1,v.2.2.1.2.1,v.2.2.1.2.2.1⟩:Spotted).dir), .str ((⟨v.2.2.1.1,v.2.2.1.2.1,v.2.2.1.2.2.1⟩:Spotted).name), .int .i64 ((⟨v.2.2.1.1,v.2.2.1.2.1,v.2.2.1.2.2.1⟩:Spotted).ino)]),(2, .cells [.int .i64 y14.dir, .str y14.name, .int .i64 y14.ino])],nx:=3}) q v.1.2.2.2.2.2.1 (⟨v.2.2.2.1.1,v.2.2.2.1.2.1,v.2.2.2.1.2.2.1⟩:Spotted)
def qat1:List HV:=[.agg hFs, .one (.str)]
def qat2:List HV:=[.agg [.int .i64, .str, .int .i64], .one (.int .i64)]
def qat3:HP.V qat1→Fs×Str:=fun v=>((cFs v.1),v.2.1)
def qat4:HX.V qat2→Spotted×Int:=fun v=>((⟨v.1.1,v.1.2.1,v.1.2.2.1⟩:Spotted),v.2)
def qat5:(Spotted×Int)→HX.V qat2:=fun y=>((y.1.dir,(y.1.name,(y.1.ino,()))),y.2)
def qat6:(Fs×Str)→Option (Spotted×Int):=fun x=>place_At x.1 x.2
def qat7:Spec:=mkSpec qat1 qat2 qat3 qat5 qat6
def qat8 {R:Type}:List (Nat×Hd R):=[(6,hdOf qatz qat0)]
def qat9 {R:Type}:List (Nat×Inl R):= []
def qaua:Cfg:={T:=qatt,spec:=[(59,qasl),(123,qabm),(159,qams)],glob:=GlobL.G Tryz.prog,eqs:=qatu,N:=60,fuel:=64,loops:=[(6,⟨[2,4,8,24,25,26], [],[0,1,2],3, [], [], [], []⟩)],blocks:=[(0,⟨[4,8], [],[1,2],3, [], [], [], []⟩)],retA:=some ⟨[4,5], [],[1],2, [], [], [], []⟩,fid:=155}
theorem qaub:CfgOK Tryz.prog qaua:=cfgC qatw qatx ⟨qaso,⟨qabp,⟨qap7,trivial⟩⟩⟩
theorem qauc {R:Type}:SubsOK Tryz.prog (R:=R) 0 qat9:=subsOK_nil _ _
theorem qaud {R:Type}:LoopOK (R:=R) (hnd 0 qat9) qaua qat8 (sub [1,1,1,1,0,1,0,0] qaty) (HS.V qatz) (HS.st qatz) (HS.sh qatz) qat0 (hdOf qatz qat0):=loopOK_of qatz qat0 (fun _ _=>rfl) (by intro q v K;kernel_rfl)
theorem qaue {R:Type}:LoopsOK (R:=R) (hnd 0 qat9) qaua qat8 qaty:=loopsOK_of (l:=[sub [1,1,1,1,0,1,0,0] qaty]) (by kernel_rfl) (loopsL_cons (b:=sub [1,1,1,1,0,1,0,0] qaty) (rid:=6) (by kernel_rfl) (by kernel_rfl) qaud (trivial))
theorem qauf:SpecOK Tryz.prog 155 qat7:=specOK_a Tryz.f155 qaub qatv (d:=0) qauc qaue (rngs0 (by kernel_rfl)) (toY:=qat4)
def qaug:List HV:=[.agg hFs, .one (.str)]
def qauh:List HV:=[.agg hIn, .one (.int .i64)]
def qaui:HP.V qaug→Fs×Str:=fun v=>((cFs v.1),v.2.1)
def qauj:HX.V qauh→Inode×Int:=fun v=>((cIn v.1),v.2)
def qauk:(Inode×Int)→HX.V qauh:=fun y=>((y.1.ino,(y.1.kind,(y.1.links,(y.1.data,(y.1.parent,(y.1.entries,())))))),y.2)
def qaul:(Fs×Str)→Option (Inode×Int):=fun x=>place_Get x.1 x.2
def qaum:Spec:=mkSpec qaug qauh qaui qauk qaul
def qaun:Cfg:={T:=qatt,spec:=[(59,qasl),(155,qat7)],glob:=GlobL.G Tryz.prog,eqs:=qatu,N:=31,fuel:=64,fid:=144}
theorem qauo:CfgOK Tryz.prog qaun:=cfgC qatw qatx ⟨qaso,⟨qauf,trivial⟩⟩
theorem qaup:SpecOK Tryz.prog 144 qaum:=specOK_0 Tryz.f144 qauo qatv (toY:=qauj)
end
end Go.Eng
set_option linter.unusedVariables false
set_option maxRecDepth 100000
namespace Go.Eng
noncomputable section
open Go Go.Proofs
def qauq:List (Nat×TI):=[(3,⟨false,1, .one (.int .i64 0), .int .i64⟩),(9,⟨false,1, .one (.str []), .str⟩),(65,⟨false,1, .one (.clip .str []), .slice .str 9⟩),(152,⟨false,1, .one (.clip .strs []), .slice .strs 65⟩)]
def qaur:List (Nat×List EK):= []
theorem qaus:Tryz.prog.follows .mixedOrders=true:=by kernel_rfl
theorem qaut:(qauq.all fun x=>tiB Tryz.prog x.1 x.2)=true:=by kernel_rfl
theorem qauu:(qaur.all fun x=>eqB Tryz.prog x.1 x.2)=true:=by kernel_rfl
def qauv:Code:=bd Tryz.f145
def qauw:Code:=bd Tryz.f156
def qaux:HS:=⟨[(0, .one (.sl .strs)),(3, .one (.int .i64)),(9, .one (.sl .strs)),(10, .one (.int .i64)),(11, .one (.int .i64))], [],0⟩
def qauy {R:Type}:Nat→HS.V qaux→(Ex→St→Option R)→Option R:=fun q v K=>
 slices_Concat_string_L3 v.1.2.2.1 v.1.2.2.2.1 (fun y8=>K (.exit 0) {regs:=[(0, .v (.one (.sl .strs v.1.1))),(3, .v (.one (.int .i64 y8)))],mem:= [],nx:=0}) q v.1.2.1 v.1.2.2.2.2.1
def qauz:HS:=⟨[(6, .one (.sub 0)),(25, .one (.sl .strs)),(26, .one (.int .i64)),(27, .one (.int .i64))],[(0, .row .str)],1⟩
def qau0 {R:Type}:Nat→HS.V qauz→(Ex→St→Option R)→Option R:=fun q v K=>
 slices_Concat_string_L11 v.1.1.1 v.1.2.1 v.1.2.2.1 (fun y18 y19=>K (.exit 2) {regs:=[(6, .v (.one (.sub 0 v.1.1.1 y18)))],mem:=[(0, .row .str y19)],nx:=1}) q v.1.1.2 v.1.2.2.2.1 v.2.1
def qau1:List HV:=[.one (.sl .strs)]
def qau2:List HV:=[.one (.sl .str)]
def qau3:HP.V qau1→(List (List Str)):=fun v=>(v.1)
def qau4:HX.V qau2→(List Str):=fun v=>(v)
def qau5:(List Str)→HX.V qau2:=fun y=>(y)
def qau6:(List (List Str))→Option ((List Str)):=fun x=>slices_Concat_string x
def qau7:Spec:=mkSpec qau1 qau2 qau3 qau5 qau6
def qau8:Cfg:={T:=qauq,glob:=GlobL.G Tryz.prog,eqs:=qaur,N:=27,fuel:=64,fid:=156,nilc:=true}
theorem qau9:CfgOK Tryz.prog qau8:=cfgC qaut qauu trivial
def qava {R:Type}:Inl R:= .mk 156 qau8 [] qauw Tryz.f156.results.toList []
def qavb {R:Type}:List (Nat×Hd R):=[(3,hdOf qaux qauy),(11,hdOf qauz qau0)]
def qavc {R:Type}:List (Nat×Inl R):=[(24,qava)]
def qavd:Cfg:={T:=qauq,glob:=GlobL.G Tryz.prog,eqs:=qaur,N:=36,fuel:=64,loops:=[(11,⟨[6,25,26,27], [],[0],1, [], [], [],[(6,0, .str)]⟩),(3,⟨[0,3,9,10,11], [], [],0, [], [], [], []⟩)],blocks:=[(2,⟨[6], [],[0],1, [], [], [], []⟩),(0,⟨[0,3], [], [],0, [], [], [], []⟩)],fid:=145,nilc:=true}
theorem qave:CfgOK Tryz.prog qavd:=cfgC qaut qauu trivial
theorem qavf {R:Type}:SubsOK Tryz.prog (R:=R) 1 qavc:=subsOK_0 Tryz.f156 qau9 (subsOK_nil _ _)
theorem qavg {R:Type}:LoopOK (R:=R) (hnd 1 qavc) qavd qavb (sub [1,1,0,1,0,0] qauv) (HS.V qaux) (HS.st qaux) (HS.sh qaux) qauy (hdOf qaux qauy):=loopOK_of qaux qauy (fun _ _=>rfl) (by intro q v K;kernel_rfl)
theorem qavh {R:Type}:LoopOK (R:=R) (hnd 1 qavc) qavd qavb (sub [1,1,1,1,0,1,0,0] qauv) (HS.V qauz) (HS.st qauz) (HS.sh qauz) qau0 (hdOf qauz qau0):=loopOK_of qauz qau0 (fun _ _=>rfl) (by intro q v K;kernel_rfl)
theorem qavi {R:Type}:LoopsOK (R:=R) (hnd 1 qavc) qavd qavb qauv:=loopsOK_of (l:=[sub [1,1,0,1,0,0] qauv,sub [1,1,1,1,0,1,0,0] qauv]) (by kernel_rfl) (loopsL_cons (b:=sub [1,1,0,1,0,0] qauv) (rid:=3) (by kernel_rfl) (by kernel_rfl) qavg (loopsL_cons (b:=sub [1,1,1,1,0,1,0,0] qauv) (rid:=11) (by kernel_rfl) (by kernel_rfl) qavh (trivial)))
theorem qavj:SpecOK Tryz.prog 145 qau7:=specOK_a Tryz.f145 qave qaus (d:=1) qavf qavi (rngs0 (by kernel_rfl)) (toY:=qau4)
end
end Go.Eng
set_option linter.unusedVariables false
set_option maxRecDepth 100000
namespace Go.Eng
noncomputable section
open Go Go.Proofs
def qavk:List (Nat×TI):=[(3,⟨false,1, .one (.int .i64 0), .int .i64⟩),(4,⟨false,1, .one (.bool false), .bool⟩),(9,⟨false,1, .one (.str []), .str⟩),(24,⟨true,4, .agg [.int .i64 0, .int .i64 0, .int .i64 0, .clip .inode []], .struct [(0,3),(1,3),(2,3),(3,22)]⟩),(37,⟨true,3, .agg [.int .i64 0, .str [], .int .i64 0], .struct [(0,3),(1,9),(2,3)]⟩),(43,⟨false,1, .one (.clip .entry []), .slice .entry 95⟩),(45,⟨true,6, .agg [.int .i64 0, .int .i64 0, .int .i64 0, .str [], .int .i64 0, .clip .entry []], .struct [(0,3),(1,3),(2,3),(3,9),(4,3),(5,43)]⟩),(65,⟨false,1, .one (.clip .str []), .slice .str 9⟩),(67,⟨true,3, .agg [.bool false, .clip .str [], .bool false], .struct [(0,4),(1,65),(2,4)]⟩),(121,⟨true,11, .agg [.int .i64 0, .int .i64 0, .int .i64 0, .clip .inode [], .bool false, .bool false, .clip .str [], .int .i64 0, .str [], .int .i64 0, .int .i64 0], .struct [(0,24),(4,4),(5,4),(6,65),(7,37),(10,3)]⟩),(152,⟨false,1, .one (.clip .strs []), .slice .strs 65⟩)]
def qavl:List (Nat×List EK):= []
theorem qavm:Tryz.prog.follows .mixedOrders=true:=by kernel_rfl
theorem qavn:(qavk.all fun x=>tiB Tryz.prog x.1 x.2)=true:=by kernel_rfl
theorem qavo:(qavl.all fun x=>eqB Tryz.prog x.1 x.2)=true:=by kernel_rfl
def qavp:Code:=bd Tryz.f74
def qavq:Code:=bd Tryz.f100
def qavr:Code:=bd Tryz.f101
def qavs:Code:=bd Tryz.f124
def qavt:Code:=bd Tryz.f125
def qavu:List HV:=[.agg hFs, .one (.str)]
def qavv:List HV:=[.one (.int .i64), .one (.int .i64)]
def qavw:HP.V qavu→Fs×Str:=fun v=>((cFs v.1),v.2.1)
def qavx:HX.V qavv→Int×Int:=fun v=>(v.1,v.2)
def qavy:(Int×Int)→HX.V qavv:=fun y=>(y.1,y.2)
def qavz:(Fs×Str)→Option (Int×Int):=fun x=>seek_Home x.1 x.2
def qav0:Spec:=mkSpec qavu qavv qavw qavy qavz
def qav1:Cfg:={T:=qavk,spec:=[(144,qaum)],glob:=GlobL.G Tryz.prog,eqs:=qavl,N:=24,fuel:=64,fid:=122}
theorem qav2:CfgOK Tryz.prog qav1:=cfgC qavn qavo ⟨qaup,trivial⟩
theorem qav3:SpecOK Tryz.prog 122 qav0:=specOK_0 Tryz.f122 qav2 qavm (toY:=qavx)
def qav4:HS:=⟨[(0, .one (.ptr 4 0)),(2, .one (.ptr 5 0)),(1000008, .one (.ptr 1 0))],[(1, .cells [.int .i64, .str, .int .i64]),(4, .cells [.int .i64, .int .i64, .int .i64, .sl .inode, .bool, .bool, .sl .str, .int .i64, .str, .int .i64, .int .i64]),(5, .cells [.int .i64, .str, .int .i64])],6⟩
def qav5 {R:Type}:Nat→HS.V qav4→(Ex→St→Option R)→Option R:=fun q v K=>
 seek_Seek_25_L1 v.2.2.1.1 v.2.2.1.2.1 v.2.2.1.2.2.1 v.2.2.1.2.2.2.1 v.2.2.1.2.2.2.2.1 (fun y36=>K .ret {regs:=[(2, .v (.one (.ptr 5 0))),(3, .v (.one (.int .i64 y36))),(1000008, .v (.one (.ptr 1 0)))],mem:=[(1, .cells [.int .i64 ((⟨v.2.1.1,v.2.1.2.1,v.2.1.2.2.1⟩:Spotted).dir), .str ((⟨v.2.1.1,v.2.1.2.1,v.2.1.2.2.1⟩:Spotted).name), .int .i64 ((⟨v.2.1.1,v.2.1.2.1,v.2.1.2.2.1⟩:Spotted).ino)]),(5, .cells [.int .i64 ((⟨0, [],0⟩:Spotted).dir), .str ((⟨0, [],0⟩:Spotted).name), .int .i64 ((⟨0, [],0⟩:Spotted).ino)])],nx:=6}) (fun y45 y46 y47 y48 y49 y50=>K (.exit 0) {regs:=[(0, .v (.one (.ptr 4 0))),(2, .v (.one (.ptr 5 0))),(1000008, .v (.one (.ptr 1 0)))],mem:=[(1, .cells [.int .i64 ((⟨v.2.1.1,v.2.1.2.1,v.2.1.2.2.1⟩:Spotted).dir), .str ((⟨v.2.1.1,v.2.1.2.1,v.2.1.2.2.1⟩:Spotted).name), .int .i64 ((⟨v.2.1.1,v.2.1.2.1,v.2.1.2.2.1⟩:Spotted).ino)]),(4, .cells [.int .i64 v.2.2.1.1, .int .i64 v.2.2.1.2.1, .int .i64 v.2.2.1.2.2.1, .sl .inode v.2.2.1.2.2.2.1, .bool v.2.2.1.2.2.2.2.1, .bool y45, .sl .str y46, .int .i64 y47, .str y48, .int .i64 y49, .int .i64 y50]),(5, .cells [.int .i64 ((⟨v.2.2.2.1.1,v.2.2.2.1.2.1,v.2.2.2.1.2.2.1⟩:Spotted).dir), .str ((⟨v.2.2.2.1.1,v.2.2.2.1.2.1,v.2.2.2.1.2.2.1⟩:Spotted).name), .int .i64 ((⟨v.2.2.2.1.1,v.2.2.2.1.2.1,v.2.2.2.1.2.2.1⟩:Spotted).ino)])],nx:=6}) q v.2.2.1.2.2.2.2.2.1 v.2.2.1.2.2.2.2.2.2.1 v.2.2.1.2.2.2.2.2.2.2.1 v.2.2.1.2.2.2.2.2.2.2.2.1 v.2.2.1.2.2.2.2.2.2.2.2.2.1 v.2.2.1.2.2.2.2.2.2.2.2.2.2.1
def qav6:List HV:=[.agg hFs, .one (.str), .one (.str), .one (.bool)]
def qav7:List HV:=[.agg [.int .i64, .str, .int .i64], .one (.int .i64)]
def qav8:HP.V qav6→Fs×Str×Str×Bool:=fun v=>((cFs v.1),v.2.1,v.2.2.1,v.2.2.2.1)
def qav9:HX.V qav7→Spotted×Int:=fun v=>((⟨v.1.1,v.1.2.1,v.1.2.2.1⟩:Spotted),v.2)
def qawa:(Spotted×Int)→HX.V qav7:=fun y=>((y.1.dir,(y.1.name,(y.1.ino,()))),y.2)
def qawb:(Fs×Str×Str×Bool)→Option (Spotted×Int):=fun x=>seek_Seek x.1 x.2.1 x.2.2.1 x.2.2.2
def qawc:Spec:=mkSpec qav6 qav7 qav8 qawa qawb
def qawd:Cfg:={T:=qavk,spec:=[(75,qadv),(121,qahl),(122,qav0)],glob:=GlobL.G Tryz.prog,eqs:=qavl,N:=49,fuel:=64,fid:=100}
theorem qawe:CfgOK Tryz.prog qawd:=cfgC qavn qavo ⟨qahc,⟨qaj4,⟨qav3,trivial⟩⟩⟩
def qawf {R:Type}:Inl R:= .mk 100 qawd [] qavq Tryz.f100.results.toList []
def qawg:Cfg:={T:=qavk,spec:=[(59,qasl),(75,qadv),(121,qahl),(123,qabm)],glob:=GlobL.G Tryz.prog,eqs:=qavl,N:=70,fuel:=64,fid:=124,gns:=[(145,qau7)]}
theorem qawh:CfgOK Tryz.prog qawg:=cfgC qavn qavo ⟨qaso,⟨qahc,⟨qaj4,⟨qabp,trivial⟩⟩⟩⟩ (gn:=⟨qavj,trivial⟩)
def qawi {R:Type}:Inl R:= .mk 124 qawg [] qavs Tryz.f124.results.toList []
def qawj:Cfg:={T:=qavk,spec:=[(59,qasl),(123,qabm)],glob:=GlobL.G Tryz.prog,eqs:=qavl,N:=36,fuel:=64,fid:=125}
theorem qawk:CfgOK Tryz.prog qawj:=cfgC qavn qavo ⟨qaso,⟨qabp,trivial⟩⟩
def qawl {R:Type}:Inl R:= .mk 125 qawj [] qavt Tryz.f125.results.toList []
def qawm {R:Type}:List (Nat×Hd R):=[(1,hdOf qav4 qav5)]
def qawn {R:Type}:List (Nat×Inl R):=[(114,qawi),(128,qawl)]
def qawo:Cfg:={T:=qavk,spec:=[(59,qasl),(123,qabm)],glob:=GlobL.G Tryz.prog,eqs:=qavl,N:=131,fuel:=64,loops:=[(1,⟨[0,2,1000008], [],[1,4,5],6, [], [], [], []⟩)],blocks:=[(0,⟨[0,2,1000008], [],[1,4,5],6, [], [], [], []⟩)],retA:=some ⟨[2,3,1000008], [],[1,5],6, [], [], [], []⟩,fid:=101}
theorem qawp:CfgOK Tryz.prog qawo:=cfgC qavn qavo ⟨qaso,⟨qabp,trivial⟩⟩
theorem qawq {R:Type}:SubsOK Tryz.prog (R:=R) 1 qawn:=subsOK_0 Tryz.f124 qawh (subsOK_0 Tryz.f125 qawk (subsOK_nil _ _))
theorem qawr {R:Type}:LoopOK (R:=R) (hnd 1 qawn) qawo qawm (sub [1,0,1,0,0,0] qavr) (HS.V qav4) (HS.st qav4) (HS.sh qav4) qav5 (hdOf qav4 qav5):=loopOK_of qav4 qav5 (fun _ _=>rfl) (by intro q v K;kernel_rfl)
theorem qaws {R:Type}:LoopsOK (R:=R) (hnd 1 qawn) qawo qawm qavr:=loopsOK_of (l:=[sub [1,0,1,0,0,0] qavr]) (by kernel_rfl) (loopsL_cons (b:=sub [1,0,1,0,0,0] qavr) (rid:=1) (by kernel_rfl) (by kernel_rfl) qawr (trivial))
def qawt {R:Type}:Inl R:= .mk 101 qawo qawm qavr Tryz.f101.results.toList qawn
def qawu {R:Type}:List (Nat×Hd R):= []
def qawv {R:Type}:List (Nat×Inl R):=[(17,qawf),(25,qawt)]
def qaww:Cfg:={T:=qavk,glob:=GlobL.G Tryz.prog,eqs:=qavl,N:=28,fuel:=64,fid:=74}
theorem qawx:CfgOK Tryz.prog qaww:=cfgC qavn qavo trivial
theorem qawy {R:Type}:SubsOK Tryz.prog (R:=R) 2 qawv:=subsOK_0 Tryz.f100 qawe (subsOK_a Tryz.f101 qawp qaws (rngs0 (by kernel_rfl)) qawq (subsOK_nil _ _))
theorem qawz {R:Type}:LoopsOK (R:=R) (hnd 2 qawv) qaww qawu qavp:=loopsOK_of (l:= []) (by kernel_rfl) (trivial)
theorem qaw0:SpecOK Tryz.prog 74 qawc:=specOK_a Tryz.f74 qawx qavm (d:=2) qawy qawz (rngs0 (by kernel_rfl)) (toY:=qav9)
end
end Go.Eng
set_option linter.unusedVariables false
set_option maxRecDepth 100000
namespace Go.Eng
noncomputable section
open Go Go.Proofs
def qaw1:List (Nat×TI):=[(3,⟨false,1, .one (.int .i64 0), .int .i64⟩),(4,⟨false,1, .one (.bool false), .bool⟩),(9,⟨false,1, .one (.str []), .str⟩),(24,⟨true,4, .agg [.int .i64 0, .int .i64 0, .int .i64 0, .clip .inode []], .struct [(0,3),(1,3),(2,3),(3,22)]⟩),(37,⟨true,3, .agg [.int .i64 0, .str [], .int .i64 0], .struct [(0,3),(1,9),(2,3)]⟩),(43,⟨false,1, .one (.clip .entry []), .slice .entry 95⟩),(45,⟨true,6, .agg [.int .i64 0, .int .i64 0, .int .i64 0, .str [], .int .i64 0, .clip .entry []], .struct [(0,3),(1,3),(2,3),(3,9),(4,3),(5,43)]⟩),(67,⟨true,3, .agg [.bool false, .clip .str [], .bool false], .struct [(0,4),(1,65),(2,4)]⟩)]
def qaw2:List (Nat×List EK):= []
theorem qaw3:Tryz.prog.follows .mixedOrders=true:=by kernel_rfl
theorem qaw4:(qaw1.all fun x=>tiB Tryz.prog x.1 x.2)=true:=by kernel_rfl
theorem qaw5:(qaw2.all fun x=>eqB Tryz.prog x.1 x.2)=true:=by kernel_rfl
def qaw6:List HV:=[.agg hFs, .agg [.int .i64, .str, .int .i64], .one (.int .i64)]
def qaw7:List HV:=[.agg hFs]
def qaw8:HP.V qaw6→Fs×Spotted×Int:=fun v=>((cFs v.1),(⟨v.2.1.1,v.2.1.2.1,v.2.1.2.2.1⟩:Spotted),v.2.2.1)
def qaw9:HX.V qaw7→Fs:=fun v=>((cFs v))
def qaxa:Fs→HX.V qaw7:=fun y=>((y.maxInodes,(y.maxBytes,(y.next,(y.inodes,())))))
def qaxb:(Fs×Spotted×Int)→Option (Fs):=fun x=>drop_Name x.1 x.2.1 x.2.2
def qaxc:Spec:=mkSpec qaw6 qaw7 qaw8 qaxa qaxb
def qaxd:Cfg:={T:=qaw1,spec:=[(59,qasl),(61,qabw),(62,qasv)],glob:=GlobL.G Tryz.prog,eqs:=qaw2,N:=41,fuel:=64,fid:=41}
theorem qaxe:CfgOK Tryz.prog qaxd:=cfgC qaw4 qaw5 ⟨qaso,⟨qab9,⟨qas8,trivial⟩⟩⟩
theorem qaxf:SpecOK Tryz.prog 41 qaxc:=specOK_0 Tryz.f41 qaxe qaw3 (toY:=qaw9)
def qaxg:List HV:=[.agg hFs, .one (.str), .one (.str)]
def qaxh:List HV:=[.agg [.int .i64, .str, .int .i64], .agg hIn, .one (.int .i64)]
def qaxi:HP.V qaxg→Fs×Str×Str:=fun v=>((cFs v.1),v.2.1,v.2.2.1)
def qaxj:HX.V qaxh→Spotted×Inode×Int:=fun v=>((⟨v.1.1,v.1.2.1,v.1.2.2.1⟩:Spotted),(cIn v.2.1),v.2.2)
def qaxk:(Spotted×Inode×Int)→HX.V qaxh:=fun y=>((y.1.dir,(y.1.name,(y.1.ino,()))),(y.2.1.ino,(y.2.1.kind,(y.2.1.links,(y.2.1.data,(y.2.1.parent,(y.2.1.entries,())))))),y.2.2)
def qaxl:(Fs×Str×Str)→Option (Spotted×Inode×Int):=fun x=>drop_found x.1 x.2.1 x.2.2
def qaxm:Spec:=mkSpec qaxg qaxh qaxi qaxk qaxl
def qaxn:Cfg:={T:=qaw1,spec:=[(59,qasl),(74,qawc)],glob:=GlobL.G Tryz.prog,eqs:=qaw2,N:=38,fuel:=64,fid:=73}
theorem qaxo:CfgOK Tryz.prog qaxn:=cfgC qaw4 qaw5 ⟨qaso,⟨qaw0,trivial⟩⟩
theorem qaxp:SpecOK Tryz.prog 73 qaxm:=specOK_0 Tryz.f73 qaxo qaw3 (toY:=qaxj)
def qaxq:List HV:=[.agg hFs, .one (.str), .one (.str), .one (.str)]
def qaxr:List HV:=[.agg hFs, .one (.int .i64)]
def qaxs:HP.V qaxq→Fs×Str×Str×Str:=fun v=>((cFs v.1),v.2.1,v.2.2.1,v.2.2.2.1)
def qaxt:HX.V qaxr→Fs×Int:=fun v=>((cFs v.1),v.2)
def qaxu:(Fs×Int)→HX.V qaxr:=fun y=>((y.1.maxInodes,(y.1.maxBytes,(y.1.next,(y.1.inodes,())))),y.2)
def qaxv:(Fs×Str×Str×Str)→Option (Fs×Int):=fun x=>drop_Link x.1 x.2.1 x.2.2.1 x.2.2.2
def qaxw:Spec:=mkSpec qaxq qaxr qaxs qaxu qaxv
def qaxx:Cfg:={T:=qaw1,spec:=[(41,qaxc),(57,qame),(73,qaxm),(74,qawc),(75,qadv)],glob:=GlobL.G Tryz.prog,eqs:=qaw2,N:=65,fuel:=64,fid:=32}
theorem qaxy:CfgOK Tryz.prog qaxx:=cfgC qaw4 qaw5 ⟨qaxf,⟨qamh,⟨qaxp,⟨qaw0,⟨qahc,trivial⟩⟩⟩⟩⟩
theorem qaxz:SpecOK Tryz.prog 32 qaxw:=specOK_0 Tryz.f32 qaxy qaw3 (toY:=qaxt)
def qax0:List HV:=[.agg hFs, .agg [.int .i64, .str, .int .i64]]
def qax1:List HV:=[.agg hFs]
def qax2:HP.V qax0→Fs×Spotted:=fun v=>((cFs v.1),(⟨v.2.1.1,v.2.1.2.1,v.2.1.2.2.1⟩:Spotted))
def qax3:HX.V qax1→Fs:=fun v=>((cFs v))
def qax4:Fs→HX.V qax1:=fun y=>((y.maxInodes,(y.maxBytes,(y.next,(y.inodes,())))))
def qax5:(Fs×Spotted)→Option (Fs):=fun x=>drop_Unname x.1 x.2
def qax6:Spec:=mkSpec qax0 qax1 qax2 qax4 qax5
def qax7:Cfg:={T:=qaw1,spec:=[(59,qasl),(62,qasv),(76,qacg),(77,qatf)],glob:=GlobL.G Tryz.prog,eqs:=qaw2,N:=46,fuel:=64,fid:=38}
theorem qax8:CfgOK Tryz.prog qax7:=cfgC qaw4 qaw5 ⟨qaso,⟨qas8,⟨qacq,⟨qats,trivial⟩⟩⟩⟩
theorem qax9:SpecOK Tryz.prog 38 qax6:=specOK_0 Tryz.f38 qax8 qaw3 (toY:=qax3)
def qaya:List HV:=[.agg hFs, .one (.str), .one (.str)]
def qayb:List HV:=[.agg hFs, .one (.int .i64)]
def qayc:HP.V qaya→Fs×Str×Str:=fun v=>((cFs v.1),v.2.1,v.2.2.1)
def qayd:HX.V qayb→Fs×Int:=fun v=>((cFs v.1),v.2)
def qaye:(Fs×Int)→HX.V qayb:=fun y=>((y.1.maxInodes,(y.1.maxBytes,(y.1.next,(y.1.inodes,())))),y.2)
def qayf:(Fs×Str×Str)→Option (Fs×Int):=fun x=>drop_Unlink x.1 x.2.1 x.2.2
def qayg:Spec:=mkSpec qaya qayb qayc qaye qayf
def qayh:Cfg:={T:=qaw1,spec:=[(38,qax6),(73,qaxm)],glob:=GlobL.G Tryz.prog,eqs:=qaw2,N:=32,fuel:=64,fid:=34}
theorem qayi:CfgOK Tryz.prog qayh:=cfgC qaw4 qaw5 ⟨qax9,⟨qaxp,trivial⟩⟩
theorem qayj:SpecOK Tryz.prog 34 qayg:=specOK_0 Tryz.f34 qayi qaw3 (toY:=qayd)
def qayk:List HV:=[.agg hFs, .one (.str), .one (.str)]
def qayl:List HV:=[.agg hFs, .one (.int .i64)]
def qaym:HP.V qayk→Fs×Str×Str:=fun v=>((cFs v.1),v.2.1,v.2.2.1)
def qayn:HX.V qayl→Fs×Int:=fun v=>((cFs v.1),v.2)
def qayo:(Fs×Int)→HX.V qayl:=fun y=>((y.1.maxInodes,(y.1.maxBytes,(y.1.next,(y.1.inodes,())))),y.2)
def qayp:(Fs×Str×Str)→Option (Fs×Int):=fun x=>drop_Rmdir x.1 x.2.1 x.2.2
def qayq:Spec:=mkSpec qayk qayl qaym qayo qayp
def qayr:Cfg:={T:=qaw1,spec:=[(38,qax6),(73,qaxm)],glob:=GlobL.G Tryz.prog,eqs:=qaw2,N:=48,fuel:=64,fid:=36}
theorem qays:CfgOK Tryz.prog qayr:=cfgC qaw4 qaw5 ⟨qax9,⟨qaxp,trivial⟩⟩
theorem qayt:SpecOK Tryz.prog 36 qayq:=specOK_0 Tryz.f36 qays qaw3 (toY:=qayn)
end
end Go.Eng
set_option linter.unusedVariables false
set_option maxRecDepth 100000
namespace Go.Eng
noncomputable section
open Go Go.Proofs
def qayu:List (Nat×TI):=[(4,⟨false,1, .one (.bool false), .bool⟩),(9,⟨false,1, .one (.str []), .str⟩),(65,⟨false,1, .one (.clip .str []), .slice .str 9⟩),(67,⟨true,3, .agg [.bool false, .clip .str [], .bool false], .struct [(0,4),(1,65),(2,4)]⟩)]
def qayv:List (Nat×List EK):= []
theorem qayw:Tryz.prog.follows .mixedOrders=true:=by kernel_rfl
theorem qayx:(qayu.all fun x=>tiB Tryz.prog x.1 x.2)=true:=by kernel_rfl
theorem qayy:(qayv.all fun x=>eqB Tryz.prog x.1 x.2)=true:=by kernel_rfl
def qayz:Code:=bd Tryz.f40
def qay0:Code:=bd Tryz.f53
def qay1:Code:=bd Tryz.f83
def qay2:Code:=bd Tryz.f135
def qay3:Code:=bd Tryz.f149
def qay4:HS:=⟨[(0, .one (.str)),(3, .one (.int .i64))], [],0⟩
def qay5 {R:Type}:Nat→HS.V qay4→(Ex→St→Option R)→Option R:=fun q v K=>
 ref03_May_L2 v.1.1 (K .ret {regs:=[(2, .v (.one (.bool false)))],mem:= [],nx:=0}) (K (.exit 0) {regs:=[(0, .v (.one (.str v.1.1)))],mem:= [],nx:=0}) q v.1.2.1
def qay6:List HV:=[.one (.str)]
def qay7:List HV:=[.one (.bool)]
def qay8:HP.V qay6→Str:=fun v=>(v.1)
def qay9:HX.V qay7→Bool:=fun v=>(v)
def qaza:Bool→HX.V qay7:=fun y=>(y)
def qazb:Str→Option (Bool):=fun x=>ref03_May x
def qazc:Spec:=mkSpec qay6 qay7 qay8 qaza qazb
def qazd {R:Type}:List (Nat×Hd R):=[(2,hdOf qay4 qay5)]
def qaze {R:Type}:List (Nat×Inl R):= []
def qazf:Cfg:={T:=qayu,glob:=GlobL.G Tryz.prog,eqs:=qayv,N:=36,fuel:=64,loops:=[(2,⟨[0,3], [], [],0, [], [], [], []⟩)],blocks:=[(0,⟨[0], [], [],0, [], [], [], []⟩)],retA:=some ⟨[2], [], [],0, [], [], [], []⟩,fid:=40}
theorem qazg:CfgOK Tryz.prog qazf:=cfgC qayx qayy trivial
theorem qazh {R:Type}:SubsOK Tryz.prog (R:=R) 0 qaze:=subsOK_nil _ _
theorem qazi {R:Type}:LoopOK (R:=R) (hnd 0 qaze) qazf qazd (sub [1,0,1,0,0] qayz) (HS.V qay4) (HS.st qay4) (HS.sh qay4) qay5 (hdOf qay4 qay5):=loopOK_of qay4 qay5 (fun _ _=>rfl) (by intro q v K;kernel_rfl)
theorem qazj {R:Type}:LoopsOK (R:=R) (hnd 0 qaze) qazf qazd qayz:=loopsOK_of (l:=[sub [1,0,1,0,0] qayz]) (by kernel_rfl) (loopsL_cons (b:=sub [1,0,1,0,0] qayz) (rid:=2) (by kernel_rfl) (by kernel_rfl) qazi (trivial))
theorem qazk:SpecOK Tryz.prog 40 qazc:=specOK_a Tryz.f40 qazg qayw (d:=0) qazh qazj (rngs0 (by kernel_rfl)) (toY:=qay9)
def qazl:HS:=⟨[(0, .one (.str)),(3, .one (.own 0)),(4, .one (.str)),(5, .one (.int .i64))],[(0, .row .str)],1⟩
def qazm {R:Type}:Nat→HS.V qazl→(Ex→St→Option R)→Option R:=fun q v K=>
 ref03_Names_L4 v.1.1 (fun y6=>K (.exit 0) {regs:=[(3, .v (.one (.own 0)))],mem:=[(0, .row .str y6)],nx:=1}) q v.1.2.2.1 v.1.2.2.2.1 v.2.1
def qazn:List HV:=[.one (.str)]
def qazo:List HV:=[.one (.sl .str)]
def qazp:HP.V qazn→Str:=fun v=>(v.1)
def qazq:HX.V qazo→(List Str):=fun v=>(v)
def qazr:(List Str)→HX.V qazo:=fun y=>(y)
def qazs:Str→Option ((List Str)):=fun x=>ref03_Names x
def qazt:Spec:=mkSpec qazn qazo qazp qazr qazs
def qazu {R:Type}:List (Nat×Hd R):=[(4,hdOf qazl qazm)]
def qazv {R:Type}:List (Nat×Inl R):= []
def qazw:Cfg:={T:=qayu,glob:=GlobL.G Tryz.prog,eqs:=qayv,N:=36,fuel:=64,loops:=[(4,⟨[0,3,4,5],[(3,0, .str)],[0],1, [], [], [], []⟩)],blocks:=[(0,⟨[3], [],[0],1, [], [], [], []⟩)],fid:=83}
theorem qazx:CfgOK Tryz.prog qazw:=cfgC qayx qayy trivial
theorem qazy {R:Type}:SubsOK Tryz.prog (R:=R) 0 qazv:=subsOK_nil _ _
theorem qazz {R:Type}:LoopOK (R:=R) (hnd 0 qazv) qazw qazu (sub [1,1,1,0,1,0,0] qay1) (HS.V qazl) (HS.st qazl) (HS.sh qazl) qazm (hdOf qazl qazm):=loopOK_of qazl qazm (fun _ _=>rfl) (by intro q v K;kernel_rfl)
theorem qaz0 {R:Type}:LoopsOK (R:=R) (hnd 0 qazv) qazw qazu qay1:=loopsOK_of (l:=[sub [1,1,1,0,1,0,0] qay1]) (by kernel_rfl) (loopsL_cons (b:=sub [1,1,1,0,1,0,0] qay1) (rid:=4) (by kernel_rfl) (by kernel_rfl) qazz (trivial))
theorem qaz1:SpecOK Tryz.prog 83 qazt:=specOK_a Tryz.f83 qazx qayw (d:=0) qazy qaz0 (rngs0 (by kernel_rfl)) (toY:=qazq)
def qaz2:HS:=⟨[(0, .one (.str)),(3, .one (.sl .str)),(4, .one (.int .i64))], [],0⟩
def qaz3 {R:Type}:Nat→HS.V qaz2→(Ex→St→Option R)→Option R:=fun q v K=>
 ref03_Long_L3 v.1.2.1 (K .ret {regs:=[(2, .v (.one (.bool true)))],mem:= [],nx:=0}) (K (.exit 0) {regs:=[(0, .v (.one (.str v.1.1)))],mem:= [],nx:=0}) q v.1.2.2.1
def qaz4:List HV:=[.one (.str)]
def qaz5:List HV:=[.one (.bool)]
def qaz6:HP.V qaz4→Str:=fun v=>(v.1)
def qaz7:HX.V qaz5→Bool:=fun v=>(v)
def qaz8:Bool→HX.V qaz5:=fun y=>(y)
def qaz9:Str→Option (Bool):=fun x=>ref03_Long x
def qa0a:Spec:=mkSpec qaz4 qaz5 qaz6 qaz8 qaz9
def qa0b {R:Type}:List (Nat×Hd R):=[(3,hdOf qaz2 qaz3)]
def qa0c {R:Type}:List (Nat×Inl R):= []
def qa0d:Cfg:={T:=qayu,spec:=[(83,qazt)],glob:=GlobL.G Tryz.prog,eqs:=qayv,N:=22,fuel:=64,loops:=[(3,⟨[0,3,4], [], [],0, [], [], [], []⟩)],blocks:=[(0,⟨[0], [], [],0, [], [], [], []⟩)],retA:=some ⟨[2], [], [],0, [], [], [], []⟩,fid:=53}
theorem qa0e:CfgOK Tryz.prog qa0d:=cfgC qayx qayy ⟨qaz1,trivial⟩
theorem qa0f {R:Type}:SubsOK Tryz.prog (R:=R) 0 qa0c:=subsOK_nil _ _
theorem qa0g {R:Type}:LoopOK (R:=R) (hnd 0 qa0c) qa0d qa0b (sub [1,1,0,1,0,0] qay0) (HS.V qaz2) (HS.st qaz2) (HS.sh qaz2) qaz3 (hdOf qaz2 qaz3):=loopOK_of qaz2 qaz3 (fun _ _=>rfl) (by intro q v K;kernel_rfl)
theorem qa0h {R:Type}:LoopsOK (R:=R) (hnd 0 qa0c) qa0d qa0b qay0:=loopsOK_of (l:=[sub [1,1,0,1,0,0] qay0]) (by kernel_rfl) (loopsL_cons (b:=sub [1,1,0,1,0,0] qay0) (rid:=3) (by kernel_rfl) (by kernel_rfl) qa0g (trivial))
theorem qa0i:SpecOK Tryz.prog 53 qa0a:=specOK_a Tryz.f53 qa0e qayw (d:=0) qa0f qa0h (rngs0 (by kernel_rfl)) (toY:=qaz7)
def qa0j:List HV:=[.one (.str)]
def qa0k:List HV:=[.agg [.bool, .sl .str, .bool]]
def qa0l:HP.V qa0j→Str:=fun v=>(v.1)
def qa0m:HX.V qa0k→Pth:=fun v=>((⟨v.1,v.2.1,v.2.2.1⟩:Pth))
def qa0n:Pth→HX.V qa0k:=fun y=>((y.abs,(y.names,(y.slash,()))))
def qa0o:Str→Option (Pth):=fun x=>ref03_Read x
def qa0p:Spec:=mkSpec qa0j qa0k qa0l qa0n qa0o
def qa0q:Cfg:={T:=qayu,spec:=[(83,qazt)],glob:=GlobL.G Tryz.prog,eqs:=qayv,N:=30,fuel:=64,fid:=54}
theorem qa0r:CfgOK Tryz.prog qa0q:=cfgC qayx qayy ⟨qaz1,trivial⟩
theorem qa0s:SpecOK Tryz.prog 54 qa0p:=specOK_0 Tryz.f54 qa0r qayw (toY:=qa0m)
def qa0t:HS:=⟨[(0, .one (.sl .str)),(3, .one (.str)),(4, .one (.int .i64))], [],0⟩
def qa0u {R:Type}:Nat→HS.V qa0t→(Ex→St→Option R)→Option R:=fun q v K=>
 ref03_Join_L5 v.1.1 (fun y5=>K (.exit 0) {regs:=[(3, .v (.one (.str y5)))],mem:= [],nx:=0}) q v.1.2.1 v.1.2.2.1
def qa0v:List HV:=[.one (.sl .str)]
def qa0w:List HV:=[.one (.str)]
def qa0x:HP.V qa0v→(List Str):=fun v=>(v.1)
def qa0y:HX.V qa0w→Str:=fun v=>(v)
def qa0z:Str→HX.V qa0w:=fun y=>(y)
def qa00:(List Str)→Option (Str):=fun x=>ref03_Join x
def qa01:Spec:=mkSpec qa0v qa0w qa0x qa0z qa00
def qa02 {R:Type}:List (Nat×Hd R):=[(5,hdOf qa0t qa0u)]
def qa03 {R:Type}:List (Nat×Inl R):= []
def qa04:Cfg:={T:=qayu,glob:=GlobL.G Tryz.prog,eqs:=qayv,N:=22,fuel:=64,loops:=[(5,⟨[0,3,4], [], [],0, [], [], [], []⟩)],blocks:=[(0,⟨[3], [], [],0, [], [], [], []⟩)],fid:=149}
theorem qa05:CfgOK Tryz.prog qa04:=cfgC qayx qayy trivial
theorem qa06 {R:Type}:SubsOK Tryz.prog (R:=R) 0 qa03:=subsOK_nil _ _
theorem qa07 {R:Type}:LoopOK (R:=R) (hnd 0 qa03) qa04 qa02 (sub [1,1,1,0,1,0,0] qay3) (HS.V qa0t) (HS.st qa0t) (HS.sh qa0t) qa0u (hdOf qa0t qa0u):=loopOK_of qa0t qa0u (fun _ _=>rfl) (by intro q v K;kernel_rfl)
theorem qa08 {R:Type}:LoopsOK (R:=R) (hnd 0 qa03) qa04 qa02 qay3:=loopsOK_of (l:=[sub [1,1,1,0,1,0,0] qay3]) (by kernel_rfl) (loopsL_cons (b:=sub [1,1,1,0,1,0,0] qay3) (rid:=5) (by kernel_rfl) (by kernel_rfl) qa07 (trivial))
theorem qa09:SpecOK Tryz.prog 149 qa01:=specOK_a Tryz.f149 qa05 qayw (d:=0) qa06 qa08 (rngs0 (by kernel_rfl)) (toY:=qa0y)
def qa1a:HS:=⟨[(0, .one (.str)),(4, .one (.sl .str)),(5, .one (.int .i64))], [],0⟩
def qa1b {R:Type}:Nat→HS.V qa1a→(Ex→St→Option R)→Option R:=fun q v K=>
 ref03_Plain_L3 v.1.2.1 (K .ret {regs:=[(2, .v (.one (.clip .str ([] :List Str)))),(3, .v (.one (.bool false)))],mem:= [],nx:=0}) (K (.exit 0) {regs:=[(0, .v (.one (.str v.1.1))),(4, .v (.one (.sl .str v.1.2.1)))],mem:= [],nx:=0}) q v.1.2.2.1
def qa1c:List HV:=[.one (.str)]
def qa1d:List HV:=[.one (.sl .str), .one (.bool)]
def qa1e:HP.V qa1c→Str:=fun v=>(v.1)
def qa1f:HX.V qa1d→(List Str)×Bool:=fun v=>(v.1,v.2)
def qa1g:(List Str)×Bool→HX.V qa1d:=fun y=>(y.1,y.2)
def qa1h:Str→Option ((List Str)×Bool):=fun x=>ref03_Plain x
def qa1i:Spec:=mkSpec qa1c qa1d qa1e qa1g qa1h
def qa1j {R:Type}:List (Nat×Hd R):=[(3,hdOf qa1a qa1b)]
def qa1k {R:Type}:List (Nat×Inl R):= []
def qa1l:Cfg:={T:=qayu,spec:=[(40,qazc),(83,qazt),(149,qa01)],glob:=GlobL.G Tryz.prog,eqs:=qayv,N:=25,fuel:=64,loops:=[(3,⟨[0,4,5], [], [],0, [], [], [], []⟩)],blocks:=[(0,⟨[0,4], [], [],0, [], [], [], []⟩)],retA:=some ⟨[2,3], [], [],0, [], [], [], []⟩,fid:=135}
theorem qa1m:CfgOK Tryz.prog qa1l:=cfgC qayx qayy ⟨qazk,⟨qaz1,⟨qa09,trivial⟩⟩⟩
theorem qa1n {R:Type}:SubsOK Tryz.prog (R:=R) 0 qa1k:=subsOK_nil _ _
theorem qa1o {R:Type}:LoopOK (R:=R) (hnd 0 qa1k) qa1l qa1j (sub [1,1,0,1,0,0] qay2) (HS.V qa1a) (HS.st qa1a) (HS.sh qa1a) qa1b (hdOf qa1a qa1b):=loopOK_of qa1a qa1b (fun _ _=>rfl) (by intro q v K;kernel_rfl)
theorem qa1p {R:Type}:LoopsOK (R:=R) (hnd 0 qa1k) qa1l qa1j qay2:=loopsOK_of (l:=[sub [1,1,0,1,0,0] qay2]) (by kernel_rfl) (loopsL_cons (b:=sub [1,1,0,1,0,0] qay2) (rid:=3) (by kernel_rfl) (by kernel_rfl) qa1o (trivial))
theorem qa1q:SpecOK Tryz.prog 135 qa1i:=specOK_a Tryz.f135 qa1m qayw (d:=0) qa1n qa1p (rngs0 (by kernel_rfl)) (toY:=qa1f)
end
end Go.Eng
set_option linter.unusedVariables false
set_option maxRecDepth 100000
namespace Go.Eng
noncomputable section
open Go Go.Proofs
def qa1r:List (Nat×TI):=[(3,⟨false,1, .one (.int .i64 0), .int .i64⟩),(9,⟨false,1, .one (.str []), .str⟩),(43,⟨false,1, .one (.clip .entry []), .slice .entry 95⟩),(95,⟨true,2, .agg [.str [], .int .i64 0], .struct [(0,9),(1,3)]⟩)]
def qa1s:List (Nat×List EK):=[(95,[.s, .i])]
theorem qa1t:Tryz.prog.follows .mixedOrders=true:=by kernel_rfl
theorem qa1u:(qa1r.all fun x=>tiB Tryz.prog x.1 x.2)=true:=by kernel_rfl
theorem qa1v:(qa1s.all fun x=>eqB Tryz.prog x.1 x.2)=true:=by kernel_rfl
def qa1w:Code:=bd Tryz.f64
def qa1x:Code:=bd Tryz.f78
def qa1y:Code:=bd Tryz.f85
def qa1z:Code:=bd Tryz.f97
def qa10:Code:=bd Tryz.f107
def qa11:HS:=⟨[(0, .one (.sl .entry)),(3, .one (.int .i64))], [],0⟩
def qa12 {R:Type}:Nat→HS.V qa11→(Ex→St→Option R)→Option R:=fun q v K=>
 ref04_Right_L2 v.1.1 (K .ret {regs:=[(2, .v (.one (.bool false)))],mem:= [],nx:=0}) (K (.exit 0) {regs:= [],mem:= [],nx:=0}) q v.1.2.1
def qa13:List HV:=[.one (.sl .entry)]
def qa14:List HV:=[.one (.bool)]
def qa15:HP.V qa13→(List Entry):=fun v=>(v.1)
def qa16:HX.V qa14→Bool:=fun v=>(v)
def qa17:Bool→HX.V qa14:=fun y=>(y)
def qa18:(List Entry)→Option (Bool):=fun x=>ref04_Right x
def qa19:Spec:=mkSpec qa13 qa14 qa15 qa17 qa18
def qa2a {R:Type}:List (Nat×Hd R):=[(2,hdOf qa11 qa12)]
def qa2b {R:Type}:List (Nat×Inl R):= []
def qa2c:Cfg:={T:=qa1r,spec:=[(40,qazc)],glob:=GlobL.G Tryz.prog,eqs:=qa1s,N:=41,fuel:=64,loops:=[(2,⟨[0,3], [], [],0, [], [], [], []⟩)],blocks:=[(0,⟨[], [], [],0, [], [], [], []⟩)],retA:=some ⟨[2], [], [],0, [], [], [], []⟩,fid:=97}
theorem qa2d:CfgOK Tryz.prog qa2c:=cfgC qa1u qa1v ⟨qazk,trivial⟩
theorem qa2e {R:Type}:SubsOK Tryz.prog (R:=R) 0 qa2b:=subsOK_nil _ _
theorem qa2f {R:Type}:LoopOK (R:=R) (hnd 0 qa2b) qa2c qa2a (sub [1,0,1,0,0] qa1z) (HS.V qa11) (HS.st qa11) (HS.sh qa11) qa12 (hdOf qa11 qa12):=loopOK_of qa11 qa12 (fun _ _=>rfl) (by intro q v K;kernel_rfl)
theorem qa2g {R:Type}:LoopsOK (R:=R) (hnd 0 qa2b) qa2c qa2a qa1z:=loopsOK_of (l:=[sub [1,0,1,0,0] qa1z]) (by kernel_rfl) (loopsL_cons (b:=sub [1,0,1,0,0] qa1z) (rid:=2) (by kernel_rfl) (by kernel_rfl) qa2f (trivial))
theorem qa2h:SpecOK Tryz.prog 97 qa19:=specOK_a Tryz.f97 qa2d qa1t (d:=0) qa2e qa2g (rngs0 (by kernel_rfl)) (toY:=qa16)
def qa2i:HS:=⟨[(0, .one (.sl .entry)),(1, .one (.str)),(6, .one (.int .i64))], [],0⟩
def qa2j {R:Type}:Nat→HS.V qa2i→(Ex→St→Option R)→Option R:=fun q v K=>
 ref04_Find_L2 v.1.1 v.1.2.1 (fun y6=>K .ret {regs:=[(4, .v (.one (.int .i64 y6))),(5, .v (.one (.bool true)))],mem:= [],nx:=0}) (K (.exit 0) {regs:= [],mem:= [],nx:=0}) q v.1.2.2.1
def qa2k:List HV:=[.one (.sl .entry), .one (.str)]
def qa2l:List HV:=[.one (.int .i64), .one (.bool)]
def qa2m:HP.V qa2k→(List Entry)×Str:=fun v=>(v.1,v.2.1)
def qa2n:HX.V qa2l→Int×Bool:=fun v=>(v.1,v.2)
def qa2o:(Int×Bool)→HX.V qa2l:=fun y=>(y.1,y.2)
def qa2p:(List Entry)×Str→Option (Int×Bool):=fun x=>ref04_Find x.1 x.2
def qa2q:Spec:=mkSpec qa2k qa2l qa2m qa2o qa2p
def qa2r {R:Type}:List (Nat×Hd R):=[(2,hdOf qa2i qa2j)]
def qa2s {R:Type}:List (Nat×Inl R):= []
def qa2t:Cfg:={T:=qa1r,glob:=GlobL.G Tryz.prog,eqs:=qa1s,N:=25,fuel:=64,loops:=[(2,⟨[0,1,6], [], [],0, [], [], [], []⟩)],blocks:=[(0,⟨[], [], [],0, [], [], [], []⟩)],retA:=some ⟨[4,5], [], [],0, [], [], [], []⟩,fid:=85}
theorem qa2u:CfgOK Tryz.prog qa2t:=cfgC qa1u qa1v trivial
theorem qa2v {R:Type}:SubsOK Tryz.prog (R:=R) 0 qa2s:=subsOK_nil _ _
theorem qa2w {R:Type}:LoopOK (R:=R) (hnd 0 qa2s) qa2t qa2r (sub [1,0,1,0,0] qa1y) (HS.V qa2i) (HS.st qa2i) (HS.sh qa2i) qa2j (hdOf qa2i qa2j):=loopOK_of qa2i qa2j (fun _ _=>rfl) (by intro q v K;kernel_rfl)
theorem qa2x {R:Type}:LoopsOK (R:=R) (hnd 0 qa2s) qa2t qa2r qa1y:=loopsOK_of (l:=[sub [1,0,1,0,0] qa1y]) (by kernel_rfl) (loopsL_cons (b:=sub [1,0,1,0,0] qa1y) (rid:=2) (by kernel_rfl) (by kernel_rfl) qa2w (trivial))
theorem qa2y:SpecOK Tryz.prog 85 qa2q:=specOK_a Tryz.f85 qa2u qa1t (d:=0) qa2v qa2x (rngs0 (by kernel_rfl)) (toY:=qa2n)
def qa2z:HS:=⟨[(0, .one (.sl .entry)),(1, .one (.str)),(5, .one (.own 0)),(6, .one (.int .i64))],[(0, .row .entry)],1⟩
def qa20 {R:Type}:Nat→HS.V qa2z→(Ex→St→Option R)→Option R:=fun q v K=>
 ref04_Without_L3 v.1.1 v.1.2.1 (fun y7=>K (.exit 0) {regs:=[(5, .v (.one (.own 0)))],mem:=[(0, .row .entry y7)],nx:=1}) q v.1.2.2.2.1 v.2.1
def qa21:List HV:=[.one (.sl .entry), .one (.str)]
def qa22:List HV:=[.one (.sl .entry)]
def qa23:HP.V qa21→(List Entry)×Str:=fun v=>(v.1,v.2.1)
def qa24:HX.V qa22→(List Entry):=fun v=>(v)
def qa25:(List Entry)→HX.V qa22:=fun y=>(y)
def qa26:(List Entry)×Str→Option ((List Entry)):=fun x=>ref04_Without x.1 x.2
def qa27:Spec:=mkSpec qa21 qa22 qa23 qa25 qa26
def qa28 {R:Type}:List (Nat×Hd R):=[(3,hdOf qa2z qa20)]
def qa29 {R:Type}:List (Nat×Inl R):= []
def qa3a:Cfg:={T:=qa1r,glob:=GlobL.G Tryz.prog,eqs:=qa1s,N:=28,fuel:=64,loops:=[(3,⟨[0,1,5,6],[(5,0, .entry)],[0],1, [], [], [], []⟩)],blocks:=[(0,⟨[5], [],[0],1, [], [], [], []⟩)],fid:=78}
theorem qa3b:CfgOK Tryz.prog qa3a:=cfgC qa1u qa1v trivial
theorem qa3c {R:Type}:SubsOK Tryz.prog (R:=R) 0 qa29:=subsOK_nil _ _
theorem qa3d {R:Type}:LoopOK (R:=R) (hnd 0 qa29) qa3a qa28 (sub [1,1,0,1,0,0] qa1x) (HS.V qa2z) (HS.st qa2z) (HS.sh qa2z) qa20 (hdOf qa2z qa20):=loopOK_of qa2z qa20 (fun _ _=>rfl) (by intro q v K;kernel_rfl)
theorem qa3e {R:Type}:LoopsOK (R:=R) (hnd 0 qa29) qa3a qa28 qa1x:=loopsOK_of (l:=[sub [1,1,0,1,0,0] qa1x]) (by kernel_rfl) (loopsL_cons (b:=sub [1,1,0,1,0,0] qa1x) (rid:=3) (by kernel_rfl) (by kernel_rfl) qa3d (trivial))
theorem qa3f:SpecOK Tryz.prog 78 qa27:=specOK_a Tryz.f78 qa3b qa1t (d:=0) qa3c qa3e (rngs0 (by kernel_rfl)) (toY:=qa24)
def qa3g:HS:=⟨[(1, .one (.str)),(2, .one (.int .i64)),(7, .one (.sl .entry)),(8, .one (.own 0)),(9, .one (.bool)),(10, .one (.int .i64))],[(0, .row .entry)],1⟩
def qa3h {R:Type}:Nat→HS.V qa3g→(Ex→St→Option R)→Option R:=fun q v K=>
 ref04_With_L5 v.1.1 v.1.2.1 v.1.2.2.1 (fun y14 y15=>K (.exit 0) {regs:=[(1, .v (.one (.str v.1.1))),(2, .v (.one (.int .i64 v.1.2.1))),(8, .v (.one (.own 0))),(9, .v (.one (.bool y14)))],mem:=[(0, .row .entry y15)],nx:=1}) q v.1.2.2.2.2.1 v.1.2.2.2.2.2.1 v.2.1
def qa3i:List HV:=[.one (.sl .entry), .one (.str), .one (.int .i64)]
def qa3j:List HV:=[.one (.sl .entry)]
def qa3k:HP.V qa3i→(List Entry)×Str×Int:=fun v=>(v.1,v.2.1,v.2.2.1)
def qa3l:HX.V qa3j→(List Entry):=fun v=>(v)
def qa3m:(List Entry)→HX.V qa3j:=fun y=>(y)
def qa3n:(List Entry)×Str×Int→Option ((List Entry)):=fun x=>ref04_With x.1 x.2.1 x.2.2
def qa3o:Spec:=mkSpec qa3i qa3j qa3k qa3m qa3n
def qa3p {R:Type}:List (Nat×Hd R):=[(5,hdOf qa3g qa3h)]
def qa3q {R:Type}:List (Nat×Inl R):= []
def qa3r:Cfg:={T:=qa1r,spec:=[(78,qa27)],glob:=GlobL.G Tryz.prog,eqs:=qa1s,N:=53,fuel:=64,loops:=[(5,⟨[1,2,7,8,9,10],[(8,0, .entry)],[0],1, [], [], [], []⟩)],blocks:=[(0,⟨[1,2,8,9], [],[0],1, [], [], [], []⟩)],fid:=64}
theorem qa3s:CfgOK Tryz.prog qa3r:=cfgC qa1u qa1v ⟨qa3f,trivial⟩
theorem qa3t {R:Type}:SubsOK Tryz.prog (R:=R) 0 qa3q:=subsOK_nil _ _
theorem qa3u {R:Type}:LoopOK (R:=R) (hnd 0 qa3q) qa3r qa3p (sub [1,1,1,1,0,1,0,0] qa1w) (HS.V qa3g) (HS.st qa3g) (HS.sh qa3g) qa3h (hdOf qa3g qa3h):=loopOK_of qa3g qa3h (fun _ _=>rfl) (by intro q v K;kernel_rfl)
theorem qa3v {R:Type}:LoopsOK (R:=R) (hnd 0 qa3q) qa3r qa3p qa1w:=loopsOK_of (l:=[sub [1,1,1,1,0,1,0,0] qa1w]) (by kernel_rfl) (loopsL_cons (b:=sub [1,1,1,1,0,1,0,0] qa1w) (rid:=5) (by kernel_rfl) (by kernel_rfl) qa3u (trivial))
theorem qa3w:SpecOK Tryz.prog 64 qa3o:=specOK_a Tryz.f64 qa3s qa1t (d:=0) qa3t qa3v (rngs0 (by kernel_rfl)) (toY:=qa3l)
def qa3x:HS:=⟨[(0, .one (.sl .entry)),(1, .one (.sl .entry)),(5, .one (.int .i64))], [],0⟩
def qa3y {R:Type}:Nat→HS.V qa3x→(Ex→St→Option R)→Option R:=fun q v K=>
 ref04_Same_L4 v.1.1 v.1.2.1 (K .ret {regs:=[(4, .v (.one (.bool false)))],mem:= [],nx:=0}) (K (.exit 0) {regs:= [],mem:= [],nx:=0}) q v.1.2.2.1
def qa3z:List HV:=[.one (.sl .entry), .one (.sl .entry)]
def qa30:List HV:=[.one (.bool)]
def qa31:HP.V qa3z→(List Entry)×(List Entry):=fun v=>(v.1,v.2.1)
def qa32:HX.V qa30→Bool:=fun v=>(v)
def qa33:Bool→HX.V qa30:=fun y=>(y)
def qa34:(List Entry)×(List Entry)→Option (Bool):=fun x=>ref04_Same x.1 x.2
def qa35:Spec:=mkSpec qa3z qa30 qa31 qa33 qa34
def qa36 {R:Type}:List (Nat×Hd R):=[(4,hdOf qa3x qa3y)]
def qa37 {R:Type}:List (Nat×Inl R):= []
def qa38:Cfg:={T:=qa1r,glob:=GlobL.G Tryz.prog,eqs:=qa1s,N:=26,fuel:=64,loops:=[(4,⟨[0,1,5], [], [],0, [], [], [], []⟩)],blocks:=[(0,⟨[], [], [],0, [], [], [], []⟩)],retA:=some ⟨[4], [], [],0, [], [], [], []⟩,fid:=107}
theorem qa39:CfgOK Tryz.prog qa38:=cfgC qa1u qa1v trivial
theorem qa4a {R:Type}:SubsOK Tryz.prog (R:=R) 0 qa37:=subsOK_nil _ _
theorem qa4b {R:Type}:LoopOK (R:=R) (hnd 0 qa37) qa38 qa36 (sub [1,1,0,1,0,0] qa10) (HS.V qa3x) (HS.st qa3x) (HS.sh qa3x) qa3y (hdOf qa3x qa3y):=loopOK_of qa3x qa3y (fun _ _=>rfl) (by intro q v K;kernel_rfl)
theorem qa4c {R:Type}:LoopsOK (R:=R) (hnd 0 qa37) qa38 qa36 qa10:=loopsOK_of (l:=[sub [1,1,0,1,0,0] qa10]) (by kernel_rfl) (loopsL_cons (b:=sub [1,1,0,1,0,0] qa10) (rid:=4) (by kernel_rfl) (by kernel_rfl) qa4b (trivial))
theorem qa4d:SpecOK Tryz.prog 107 qa35:=specOK_a Tryz.f107 qa39 qa1t (d:=0) qa4a qa4c (rngs0 (by kernel_rfl)) (toY:=qa32)
end
end Go.Eng
set_option linter.unusedVariables false
set_option maxRecDepth 100000
namespace Go.Eng
noncomputable section
open Go Go.Proofs
def qa4e:List (Nat×TI):=[(3,⟨false,1, .one (.int .i64 0), .int .i64⟩),(9,⟨false,1, .one (.str []), .str⟩),(22,⟨false,1, .one (.clip .inode []), .slice .inode 45⟩),(24,⟨true,4, .agg [.int .i64 0, .int .i64 0, .int .i64 0, .clip .inode []], .struct [(0,3),(1,3),(2,3),(3,22)]⟩),(43,⟨false,1, .one (.clip .entry []), .slice .entry 95⟩),(45,⟨true,6, .agg [.int .i64 0, .int .i64 0, .int .i64 0, .str [], .int .i64 0, .clip .entry []], .struct [(0,3),(1,3),(2,3),(3,9),(4,3),(5,43)]⟩),(95,⟨true,2, .agg [.str [], .int .i64 0], .struct [(0,9),(1,3)]⟩)]
def qa4f:List (Nat×List EK):= []
theorem qa4g:Tryz.prog.follows .mixedOrders=true:=by kernel_rfl
theorem qa4h:(qa4e.all fun x=>tiB Tryz.prog x.1 x.2)=true:=by kernel_rfl
theorem qa4i:(qa4f.all fun x=>eqB Tryz.prog x.1 x.2)=true:=by kernel_rfl
def qa4j:Code:=bd Tryz.f27
def qa4k:Code:=bd Tryz.f49
def qa4l:Code:=bd Tryz.f65
def qa4m:Code:=bd Tryz.f79
def qa4n:Code:=bd Tryz.f80
def qa4o:Code:=bd Tryz.f96
def qa4p:HS:=⟨[(1, .one (.int .i64)),(2, .one (.ptr 0 0)),(4, .one (.ptr 1 0)),(6, .one (.int .i64))],[(0, .cells hFs),(1, .cells hIn)],2⟩
def qa4q {R:Type}:Nat→HS.V qa4p→(Ex→St→Option R)→Option R:=fun q v K=>
 ref05_Get_L2 v.1.1 (cFs v.2.1) (fun y8=>K .ret {regs:=[(4, .v (.one (.ptr 1 0))),(5, .v (.one (.bool true)))],mem:=[(1, .cells [.int .i64 y8.ino, .int .i64 y8.kind, .int .i64 y8.links, .str y8.data, .int .i64 y8.parent, .sl .entry y8.entries])],nx:=2}) (K (.exit 0) {regs:=[(4, .v (.one (.ptr 1 0)))],mem:=[(1, .cells (rIn (cIn v.2.2.1)))],nx:=2}) q v.1.2.2.2.1
def qa4r:List HV:=[.agg hFs, .one (.int .i64)]
def qa4s:List HV:=[.agg hIn, .one (.bool)]
def qa4t:HP.V qa4r→Fs×Int:=fun v=>((cFs v.1),v.2.1)
def qa4u:HX.V qa4s→Inode×Bool:=fun v=>((cIn v.1),v.2)
def qa4v:(Inode×Bool)→HX.V qa4s:=fun y=>((y.1.ino,(y.1.kind,(y.1.links,(y.1.data,(y.1.parent,(y.1.entries,())))))),y.2)
def qa4w:(Fs×Int)→Option (Inode×Bool):=fun x=>ref05_Get x.1 x.2
def qa4x:Spec:=mkSpec qa4r qa4s qa4t qa4v qa4w
def qa4y {R:Type}:List (Nat×Hd R):=[(2,hdOf qa4p qa4q)]
def qa4z {R:Type}:List (Nat×Inl R):= []
def qa40:Cfg:={T:=qa4e,glob:=GlobL.G Tryz.prog,eqs:=qa4f,N:=28,fuel:=64,loops:=[(2,⟨[1,2,4,6], [],[0,1],2, [],[1], [], []⟩)],blocks:=[(0,⟨[4], [],[1],2, [], [], [], []⟩)],retA:=some ⟨[4,5], [],[1],2, [],[1], [], []⟩,fid:=27}
theorem qa41:CfgOK Tryz.prog qa40:=cfgC qa4h qa4i trivial
theorem qa42 {R:Type}:SubsOK Tryz.prog (R:=R) 0 qa4z:=subsOK_nil _ _
theorem qa43 {R:Type}:LoopOK (R:=R) (hnd 0 qa4z) qa40 qa4y (sub [1,0,1,0,0] qa4j) (HS.V qa4p) (HS.st qa4p) (HS.sh qa4p) qa4q (hdOf qa4p qa4q):=loopOK_of qa4p qa4q (fun _ _=>rfl) (by intro q v K;kernel_rfl)
theorem qa44 {R:Type}:LoopsOK (R:=R) (hnd 0 qa4z) qa40 qa4y qa4j:=loopsOK_of (l:=[sub [1,0,1,0,0] qa4j]) (by kernel_rfl) (loopsL_cons (b:=sub [1,0,1,0,0] qa4j) (rid:=2) (by kernel_rfl) (by kernel_rfl) qa43 (trivial))
theorem qa45:SpecOK Tryz.prog 27 qa4x:=specOK_a Tryz.f27 qa41 qa4g (d:=0) qa42 qa44 (rngs0 (by kernel_rfl)) (toY:=qa4u)
def qa46:List HV:=[.one (.int .i64), .one (.int .i64)]
def qa47:List HV:=[.agg hFs]
def qa48:HP.V qa46→Int×Int:=fun v=>(v.1,v.2.1)
def qa49:HX.V qa47→Fs:=fun v=>((cFs v))
def qa5a:Fs→HX.V qa47:=fun y=>((y.maxInodes,(y.maxBytes,(y.next,(y.inodes,())))))
def qa5b:(Int×Int)→Option (Fs):=fun x=>ref05_New x.1 x.2
def qa5c:Spec:=mkSpec qa46 qa47 qa48 qa5a qa5b
def qa5d:Cfg:={T:=qa4e,glob:=GlobL.G Tryz.prog,eqs:=qa4f,N:=10,fuel:=64,fid:=43}
theorem qa5e:CfgOK Tryz.prog qa5d:=cfgC qa4h qa4i trivial
theorem qa5f:SpecOK Tryz.prog 43 qa5c:=specOK_0 Tryz.f43 qa5e qa4g (toY:=qa49)
def qa5g:HS:=⟨[(1, .one (.ptr 0 0)),(3, .one (.int .i64))],[(0, .cells hFs)],1⟩
def qa5h {R:Type}:Nat→HS.V qa5g→(Ex→St→Option R)→Option R:=fun q v K=>
 ref05_Rise_L2 (cFs v.2.1) (K .ret {regs:=[(2, .v (.one (.bool false)))],mem:= [],nx:=0}) (K (.exit 0) {regs:= [],mem:= [],nx:=0}) q v.1.2.1
def qa5i:List HV:=[.agg hFs]
def qa5j:List HV:=[.one (.bool)]
def qa5k:HP.V qa5i→Fs:=fun v=>((cFs v.1))
def qa5l:HX.V qa5j→Bool:=fun v=>(v)
def qa5m:Bool→HX.V qa5j:=fun y=>(y)
def qa5n:Fs→Option (Bool):=fun x=>ref05_Rise x
def qa5o:Spec:=mkSpec qa5i qa5j qa5k qa5m qa5n
def qa5p {R:Type}:List (Nat×Hd R):=[(2,hdOf qa5g qa5h)]
def qa5q {R:Type}:List (Nat×Inl R):= []
def qa5r:Cfg:={T:=qa4e,glob:=GlobL.G Tryz.prog,eqs:=qa4f,N:=25,fuel:=64,loops:=[(2,⟨[1,3], [],[0],1, [], [], [], []⟩)],blocks:=[(0,⟨[], [], [],0, [], [], [], []⟩)],retA:=some ⟨[2], [], [],0, [], [], [], []⟩,fid:=96}
theorem qa5s:CfgOK Tryz.prog qa5r:=cfgC qa4h qa4i trivial
theorem qa5t {R:Type}:SubsOK Tryz.prog (R:=R) 0 qa5q:=subsOK_nil _ _
theorem qa5u {R:Type}:LoopOK (R:=R) (hnd 0 qa5q) qa5r qa5p (sub [1,0,1,0,0] qa4o) (HS.V qa5g) (HS.st qa5g) (HS.sh qa5g) qa5h (hdOf qa5g qa5h):=loopOK_of qa5g qa5h (fun _ _=>rfl) (by intro q v K;kernel_rfl)
theorem qa5v {R:Type}:LoopsOK (R:=R) (hnd 0 qa5q) qa5r qa5p qa4o:=loopsOK_of (l:=[sub [1,0,1,0,0] qa4o]) (by kernel_rfl) (loopsL_cons (b:=sub [1,0,1,0,0] qa4o) (rid:=2) (by kernel_rfl) (by kernel_rfl) qa5u (trivial))
theorem qa5w:SpecOK Tryz.prog 96 qa5o:=specOK_a Tryz.f96 qa5s qa4g (d:=0) qa5t qa5v (rngs0 (by kernel_rfl)) (toY:=qa5l)
def qa5x:HS:=⟨[(1, .one (.ptr 0 0)),(3, .one (.int .i64)),(4, .one (.ptr 1 0)),(5, .one (.int .i64))],[(0, .cells hFs),(1, .cells hIn)],2⟩
def qa5y {R:Type}:Nat→HS.V qa5x→(Ex→St→Option R)→Option R:=fun q v K=>
 ref05_Few_L8 (cIn v.2.2.1) (K .ret {regs:=[(2, .v (.one (.bool false)))],mem:= [],nx:=0}) (K (.exit 2) {regs:=[(1, .v (.one (.ptr 0 0))),(3, .v (.one (.int .i64 v.1.2.1)))],mem:=[(0, .cells (rFs (cFs v.2.1)))],nx:=1}) q v.1.2.2.2.1
def qa5z:HS:=⟨[(1, .one (.ptr 0 0)),(3, .one (.int .i64))],[(0, .cells hFs)],1⟩
def qa50 {R:Type}:Nat→HS.V qa5z→(Ex→St→Option R)→Option R:=fun q v K=>
 ref05_Few_L2 (cFs v.2.1) (K .ret {regs:=[(2, .v (.one (.bool false)))],mem:= [],nx:=0}) (K (.exit 0) {regs:=[(1, .v (.one (.ptr 0 0)))],mem:=[(0, .cells (rFs (cFs v.2.1)))],nx:=1}) q v.1.2.1
def qa51:List HV:=[.agg hFs]
def qa52:List HV:=[.one (.bool)]
def qa53:HP.V qa51→Fs:=fun v=>((cFs v.1))
def qa54:HX.V qa52→Bool:=fun v=>(v)
def qa55:Bool→HX.V qa52:=fun y=>(y)
def qa56:Fs→Option (Bool):=fun x=>ref05_Few x
def qa57:Spec:=mkSpec qa51 qa52 qa53 qa55 qa56
def qa58 {R:Type}:List (Nat×Hd R):=[(2,hdOf qa5z qa50),(8,hdOf qa5x qa5y)]
def qa59 {R:Type}:List (Nat×Inl R):= []
def qa6a:Cfg:={T:=qa4e,glob:=GlobL.G Tryz.prog,eqs:=qa4f,N:=51,fuel:=64,loops:=[(8,⟨[1,3,4,5], [],[0,1],2, [], [], [], []⟩),(2,⟨[1,3], [],[0],1, [], [], [], []⟩)],blocks:=[(0,⟨[1], [],[0],1, [], [], [], []⟩),(1,⟨[1,3], [],[0],1, [], [], [], []⟩),(2,⟨[1,3], [],[0],1, [], [], [], []⟩)],retA:=some ⟨[2], [], [],0, [], [], [], []⟩,fid:=80}
theorem qa6b:CfgOK Tryz.prog qa6a:=cfgC qa4h qa4i trivial
theorem qa6c {R:Type}:SubsOK Tryz.prog (R:=R) 0 qa59:=subsOK_nil _ _
theorem qa6d {R:Type}:LoopOK (R:=R) (hnd 0 qa59) qa6a qa58 (sub [1,0,1,0,0] qa4n) (HS.V qa5z) (HS.st qa5z) (HS.sh qa5z) qa50 (hdOf qa5z qa50):=loopOK_of qa5z qa50 (fun _ _=>rfl) (by intro q v K;kernel_rfl)
theorem qa6e {R:Type}:LoopOK (R:=R) (hnd 0 qa59) qa6a qa58 (sub [1,0,1,0,0,1,0,0,1,1,1,0,0] qa4n) (HS.V qa5x) (HS.st qa5x) (HS.sh qa5x) qa5y (hdOf qa5x qa5y):=loopOK_of qa5x qa5y (fun _ _=>rfl) (by intro q v K;kernel_rfl)
theorem qa6f {R:Type}:LoopsOK (R:=R) (hnd 0 qa59) qa6a qa58 qa4n:=loopsOK_of (l:=[sub [1,0,1,0,0] qa4n,sub [1,0,1,0,0,1,0,0,1,1,1,0,0] qa4n]) (by kernel_rfl) (loopsL_cons (b:=sub [1,0,1,0,0] qa4n) (rid:=2) (by kernel_rfl) (by kernel_rfl) qa6d (loopsL_cons (b:=sub [1,0,1,0,0,1,0,0,1,1,1,0,0] qa4n) (rid:=8) (by kernel_rfl) (by kernel_rfl) qa6e (trivial)))
theorem qa6g:SpecOK Tryz.prog 80 qa57:=specOK_a Tryz.f80 qa6b qa4g (d:=0) qa6c qa6f (rngs0 (by kernel_rfl)) (toY:=qa54)
def qa6h:HS:=⟨[(1, .one (.int .i64)),(2, .one (.ptr 0 0)),(4, .one (.ptr 1 0)),(5, .one (.own 2)),(6, .one (.int .i64))],[(0, .cells hFs),(1, .cells hFs),(2, .row .inode)],3⟩
def qa6i {R:Type}:Nat→HS.V qa6h→(Ex→St→Option R)→Option R:=fun q v K=>
 ref05_Drop_L3 v.1.1 (cFs v.2.1) (fun y10=>K (.exit 0) {regs:=[(2, .v (.one (.ptr 0 0))),(4, .v (.one (.ptr 1 0))),(5, .v (.one (.own 2)))],mem:=[(0, .cells (rFs (cFs v.2.1))),(1, .cells (rFs (cFs v.2.2.1))),(2, .row .inode y10)],nx:=3}) q v.1.2.2.2.2.1 v.2.2.2.1
def qa6j:List HV:=[.agg hFs, .one (.int .i64)]
def qa6k:List HV:=[.agg hFs]
def qa6l:HP.V qa6j→Fs×Int:=fun v=>((cFs v.1),v.2.1)
def qa6m:HX.V qa6k→Fs:=fun v=>((cFs v))
def qa6n:Fs→HX.V qa6k:=fun y=>((y.maxInodes,(y.maxBytes,(y.next,(y.inodes,())))))
def qa6o:(Fs×Int)→Option (Fs):=fun x=>ref05_Drop x.1 x.2
def qa6p:Spec:=mkSpec qa6j qa6k qa6l qa6n qa6o
def qa6q {R:Type}:List (Nat×Hd R):=[(3,hdOf qa6h qa6i)]
def qa6r {R:Type}:List (Nat×Inl R):= []
def qa6s:Cfg:={T:=qa4e,glob:=GlobL.G Tryz.prog,eqs:=qa4f,N:=33,fuel:=64,loops:=[(3,⟨[1,2,4,5,6],[(5,2, .inode)],[0,1,2],3, [],[1], [], []⟩)],blocks:=[(0,⟨[2,4,5], [],[0,1,2],3, [], [], [], []⟩)],fid:=79}
theorem qa6t:CfgOK Tryz.prog qa6s:=cfgC qa4h qa4i trivial
theorem qa6u {R:Type}:SubsOK Tryz.prog (R:=R) 0 qa6r:=subsOK_nil _ _
theorem qa6v {R:Type}:LoopOK (R:=R) (hnd 0 qa6r) qa6s qa6q (sub [1,1,0,1,0,0] qa4m) (HS.V qa6h) (HS.st qa6h) (HS.sh qa6h) qa6i (hdOf qa6h qa6i):=loopOK_of qa6h qa6i (fun _ _=>rfl) (by intro q v K;kernel_rfl)
theorem qa6w {R:Type}:LoopsOK (R:=R) (hnd 0 qa6r) qa6s qa6q qa4m:=loopsOK_of (l:=[sub [1,1,0,1,0,0] qa4m]) (by kernel_rfl) (loopsL_cons (b:=sub [1,1,0,1,0,0] qa4m) (rid:=3) (by kernel_rfl) (by kernel_rfl) qa6v (trivial))
theorem qa6x:SpecOK Tryz.prog 79 qa6p:=specOK_a Tryz.f79 qa6t qa4g (d:=0) qa6u qa6w (rngs0 (by kernel_rfl)) (toY:=qa6m)
def qa6y:HS:=⟨[(2, .one (.ptr 0 0)),(3, .one (.ptr 1 0)),(4, .one (.ptr 2 0)),(5, .one (.sl .inode)),(6, .one (.own 3)),(7, .one (.bool)),(8, .one (.int .i64))],[(0, .cells hFs),(1, .cells hIn),(2, .cells hFs),(3, .row .inode)],4⟩
def qa6z {R:Type}:Nat→HS.V qa6y→(Ex→St→Option R)→Option R:=fun q v K=>
 ref05_Set_L5 v.1.2.2.2.1 (cIn v.2.2.1) (fun y13 y17=>K (.exit 0) {regs:=[(2, .v (.one (.ptr 0 0))),(3, .v (.one (.ptr 1 0))),(4, .v (.one (.ptr 2 0))),(6, .v (.one (.own 3))),(7, .v (.one (.bool y13)))],mem:=[(0, .cells (rFs (cFs v.2.1))),(1, .cells (rIn (cIn v.2.2.1))),(2, .cells (rFs (cFs v.2.2.2.1))),(3, .row .inode y17)],nx:=4}) q v.1.2.2.2.2.2.1 v.1.2.2.2.2.2.2.1 v.2.2.2.2.1
def qa60:List HV:=[.agg hFs, .agg hIn]
def qa61:List HV:=[.agg hFs]
def qa62:HP.V qa60→Fs×Inode:=fun v=>((cFs v.1),(cIn v.2.1))
def qa63:HX.V qa61→Fs:=fun v=>((cFs v))
def qa64:Fs→HX.V qa61:=fun y=>((y.maxInodes,(y.maxBytes,(y.next,(y.inodes,())))))
def qa65:(Fs×Inode)→Option (Fs):=fun x=>ref05_Set x.1 x.2
def qa66:Spec:=mkSpec qa60 qa61 qa62 qa64 qa65
def qa67 {R:Type}:List (Nat×Hd R):=[(5,hdOf qa6y qa6z)]
def qa68 {R:Type}:List (Nat×Inl R):= []
def qa69:Cfg:={T:=qa4e,spec:=[(79,qa6p)],glob:=GlobL.G Tryz.prog,eqs:=qa4f,N:=52,fuel:=64,loops:=[(5,⟨[2,3,4,5,6,7,8],[(6,3, .inode)],[0,1,2,3],4, [],[2], [], []⟩)],blocks:=[(0,⟨[2,3,4,6,7], [],[0,1,2,3],4, [], [], [], []⟩)],fid:=65}
theorem qa7a:CfgOK Tryz.prog qa69:=cfgC qa4h qa4i ⟨qa6x,trivial⟩
theorem qa7b {R:Type}:SubsOK Tryz.prog (R:=R) 0 qa68:=subsOK_nil _ _
theorem qa7c {R:Type}:LoopOK (R:=R) (hnd 0 qa68) qa69 qa67 (sub [1,1,1,1,0,1,0,0] qa4l) (HS.V qa6y) (HS.st qa6y) (HS.sh qa6y) qa6z (hdOf qa6y qa6z):=loopOK_of qa6y qa6z (fun _ _=>rfl) (by intro q v K;kernel_rfl)
theorem qa7d {R:Type}:LoopsOK (R:=R) (hnd 0 qa68) qa69 qa67 qa4l:=loopsOK_of (l:=[sub [1,1,1,1,0,1,0,0] qa4l]) (by kernel_rfl) (loopsL_cons (b:=sub [1,1,1,1,0,1,0,0] qa4l) (rid:=5) (by kernel_rfl) (by kernel_rfl) qa7c (trivial))
theorem qa7e:SpecOK Tryz.prog 65 qa66:=specOK_a Tryz.f65 qa7a qa4g (d:=0) qa7b qa7d (rngs0 (by kernel_rfl)) (toY:=qa63)
def qa7f:List HV:=[.agg hIn, .agg hIn]
def qa7g:List HV:=[.one (.bool)]
def qa7h:HP.V qa7f→Inode×Inode:=fun v=>((cIn v.1),(cIn v.2.1))
def qa7i:HX.V qa7g→Bool:=fun v=>(v)
def qa7j:Bool→HX.V qa7g:=fun y=>(y)
def qa7k:(Inode×Inode)→Option (Bool):=fun x=>ref05_One x.1 x.2
def qa7l:Spec:=mkSpec qa7f qa7g qa7h qa7j qa7k
def qa7m:Cfg:={T:=qa4e,spec:=[(107,qa35)],glob:=GlobL.G Tryz.prog,eqs:=qa4f,N:=45,fuel:=64,fid:=81}
theorem qa7n:CfgOK Tryz.prog qa7m:=cfgC qa4h qa4i ⟨qa4d,trivial⟩
theorem qa7o:SpecOK Tryz.prog 81 qa7l:=specOK_0 Tryz.f81 qa7n qa4g (toY:=qa7i)
def qa7p:HS:=⟨[(0, .one (.sl .inode)),(1, .one (.sl .inode)),(5, .one (.int .i64))], [],0⟩
def qa7q {R:Type}:Nat→HS.V qa7p→(Ex→St→Option R)→Option R:=fun q v K=>
 ref05_Ones_L4 v.1.1 v.1.2.1 (K .ret {regs:=[(4, .v (.one (.bool false)))],mem:= [],nx:=0}) (K (.exit 0) {regs:= [],mem:= [],nx:=0}) q v.1.2.2.1
def qa7r:List HV:=[.one (.sl .inode), .one (.sl .inode)]
def qa7s:List HV:=[.one (.bool)]
def qa7t:HP.V qa7r→(List Inode)×(List Inode):=fun v=>(v.1,v.2.1)
def qa7u:HX.V qa7s→Bool:=fun v=>(v)
def qa7v:Bool→HX.V qa7s:=fun y=>(y)
def qa7w:(List Inode)×(List Inode)→Option (Bool):=fun x=>ref05_Ones x.1 x.2
def qa7x:Spec:=mkSpec qa7r qa7s qa7t qa7v qa7w
def qa7y {R:Type}:List (Nat×Hd R):=[(4,hdOf qa7p qa7q)]
def qa7z {R:Type}:List (Nat×Inl R):= []
def qa70:Cfg:={T:=qa4e,spec:=[(81,qa7l)],glob:=GlobL.G Tryz.prog,eqs:=qa4f,N:=27,fuel:=64,loops:=[(4,⟨[0,1,5], [], [],0, [], [], [], []⟩)],blocks:=[(0,⟨[], [], [],0, [], [], [], []⟩)],retA:=some ⟨[4], [], [],0, [], [], [], []⟩,fid:=49}
theorem qa71:CfgOK Tryz.prog qa70:=cfgC qa4h qa4i ⟨qa7o,trivial⟩
theorem qa72 {R:Type}:SubsOK Tryz.prog (R:=R) 0 qa7z:=subsOK_nil _ _
theorem qa73 {R:Type}:LoopOK (R:=R) (hnd 0 qa7z) qa70 qa7y (sub [1,1,0,1,0,0] qa4k) (HS.V qa7p) (HS.st qa7p) (HS.sh qa7p) qa7q (hdOf qa7p qa7q):=loopOK_of qa7p qa7q (fun _ _=>rfl) (by intro q v K;kernel_rfl)
theorem qa74 {R:Type}:LoopsOK (R:=R) (hnd 0 qa7z) qa70 qa7y qa4k:=loopsOK_of (l:=[sub [1,1,0,1,0,0] qa4k]) (by kernel_rfl) (loopsL_cons (b:=sub [1,1,0,1,0,0] qa4k) (rid:=4) (by kernel_rfl) (by kernel_rfl) qa73 (trivial))
theorem qa75:SpecOK Tryz.prog 49 qa7x:=specOK_a Tryz.f49 qa71 qa4g (d:=0) qa72 qa74 (rngs0 (by kernel_rfl)) (toY:=qa7u)
def qa76:List HV:=[.agg hFs, .agg hFs]
def qa77:List HV:=[.one (.bool)]
def qa78:HP.V qa76→Fs×Fs:=fun v=>((cFs v.1),(cFs v.2.1))
def qa79:HX.V qa77→Bool:=fun v=>(v)
def qa8a:Bool→HX.V qa77:=fun y=>(y)
def qa8b:(Fs×Fs)→Option (Bool):=fun x=>ref05_Same x.1 x.2
def qa8c:Spec:=mkSpec qa76 qa77 qa78 qa8a qa8b
def qa8d:Cfg:={T:=qa4e,spec:=[(49,qa7x)],glob:=GlobL.G Tryz.prog,eqs:=qa4f,N:=31,fuel:=64,fid:=19}
theorem qa8e:CfgOK Tryz.prog qa8d:=cfgC qa4h qa4i ⟨qa75,trivial⟩
theorem qa8f:SpecOK Tryz.prog 19 qa8c:=specOK_0 Tryz.f19 qa8e qa4g (toY:=qa79)
end
end Go.Eng
set_option linter.unusedVariables false
set_option maxRecDepth 100000
namespace Go.Eng
noncomputable section
open Go Go.Proofs
def qa8g:List (Nat×TI):=[(3,⟨false,1, .one (.int .i64 0), .int .i64⟩),(9,⟨false,1, .one (.str []), .str⟩),(22,⟨false,1, .one (.clip .inode []), .slice .inode 45⟩),(24,⟨true,4, .agg [.int .i64 0, .int .i64 0, .int .i64 0, .clip .inode []], .struct [(0,3),(1,3),(2,3),(3,22)]⟩),(45,⟨true,6, .agg [.int .i64 0, .int .i64 0, .int .i64 0, .str [], .int .i64 0, .clip .entry []], .struct [(0,3),(1,3),(2,3),(3,9),(4,3),(5,43)]⟩)]
def qa8h:List (Nat×List EK):= []
theorem qa8i:Tryz.prog.follows .mixedOrders=true:=by kernel_rfl
theorem qa8j:(qa8g.all fun x=>tiB Tryz.prog x.1 x.2)=true:=by kernel_rfl
theorem qa8k:(qa8h.all fun x=>eqB Tryz.prog x.1 x.2)=true:=by kernel_rfl
def qa8l:Code:=bd Tryz.f95
def qa8m:HS:=⟨[(1, .one (.ptr 0 0)),(3, .one (.int .i64)),(4, .one (.int .i64))],[(0, .cells hFs)],1⟩
def qa8n {R:Type}:Nat→HS.V qa8m→(Ex→St→Option R)→Option R:=fun q v K=>
 ref06_Bytes_L3 (cFs v.2.1) (fun y6=>K (.exit 0) {regs:=[(3, .v (.one (.int .i64 y6)))],mem:= [],nx:=0}) q v.1.2.1 v.1.2.2.1
def qa8o:List HV:=[.agg hFs]
def qa8p:List HV:=[.one (.int .i64)]
def qa8q:HP.V qa8o→Fs:=fun v=>((cFs v.1))
def qa8r:HX.V qa8p→Int:=fun v=>(v)
def qa8s:Int→HX.V qa8p:=fun y=>(y)
def qa8t:Fs→Option (Int):=fun x=>ref06_Bytes x
def qa8u:Spec:=mkSpec qa8o qa8p qa8q qa8s qa8t
def qa8v {R:Type}:List (Nat×Hd R):=[(3,hdOf qa8m qa8n)]
def qa8w {R:Type}:List (Nat×Inl R):= []
def qa8x:Cfg:={T:=qa8g,glob:=GlobL.G Tryz.prog,eqs:=qa8h,N:=29,fuel:=64,loops:=[(3,⟨[1,3,4], [],[0],1, [], [], [], []⟩)],blocks:=[(0,⟨[3], [], [],0, [], [], [], []⟩)],fid:=95}
theorem qa8y:CfgOK Tryz.prog qa8x:=cfgC qa8j qa8k trivial
theorem qa8z {R:Type}:SubsOK Tryz.prog (R:=R) 0 qa8w:=subsOK_nil _ _
theorem qa80 {R:Type}:LoopOK (R:=R) (hnd 0 qa8w) qa8x qa8v (sub [1,1,0,1,0,0] qa8l) (HS.V qa8m) (HS.st qa8m) (HS.sh qa8m) qa8n (hdOf qa8m qa8n):=loopOK_of qa8m qa8n (fun _ _=>rfl) (by intro q v K;kernel_rfl)
theorem qa81 {R:Type}:LoopsOK (R:=R) (hnd 0 qa8w) qa8x qa8v qa8l:=loopsOK_of (l:=[sub [1,1,0,1,0,0] qa8l]) (by kernel_rfl) (loopsL_cons (b:=sub [1,1,0,1,0,0] qa8l) (rid:=3) (by kernel_rfl) (by kernel_rfl) qa80 (trivial))
theorem qa82:SpecOK Tryz.prog 95 qa8u:=specOK_a Tryz.f95 qa8y qa8i (d:=0) qa8z qa81 (rngs0 (by kernel_rfl)) (toY:=qa8r)
def qa83:List HV:=[.agg hFs, .one (.int .i64), .one (.int .i64)]
def qa84:List HV:=[.one (.bool)]
def qa85:HP.V qa83→Fs×Int×Int:=fun v=>((cFs v.1),v.2.1,v.2.2.1)
def qa86:HX.V qa84→Bool:=fun v=>(v)
def qa87:Bool→HX.V qa84:=fun y=>(y)
def qa88:(Fs×Int×Int)→Option (Bool):=fun x=>ref06_Fits x.1 x.2.1 x.2.2
def qa89:Spec:=mkSpec qa83 qa84 qa85 qa87 qa88
def qa9a:Cfg:={T:=qa8g,spec:=[(95,qa8u)],glob:=GlobL.G Tryz.prog,eqs:=qa8h,N:=22,fuel:=64,fid:=63}
theorem qa9b:CfgOK Tryz.prog qa9a:=cfgC qa8j qa8k ⟨qa82,trivial⟩
theorem qa9c:SpecOK Tryz.prog 63 qa89:=specOK_0 Tryz.f63 qa9b qa8i (toY:=qa86)
end
end Go.Eng
set_option linter.unusedVariables false
set_option maxRecDepth 100000
namespace Go.Eng
noncomputable section
open Go Go.Proofs
def qa9d:List (Nat×TI):=[(3,⟨false,1, .one (.int .i64 0), .int .i64⟩),(9,⟨false,1, .one (.str []), .str⟩),(22,⟨false,1, .one (.clip .inode []), .slice .inode 45⟩),(24,⟨true,4, .agg [.int .i64 0, .int .i64 0, .int .i64 0, .clip .inode []], .struct [(0,3),(1,3),(2,3),(3,22)]⟩),(43,⟨false,1, .one (.clip .entry []), .slice .entry 95⟩),(45,⟨true,6, .agg [.int .i64 0, .int .i64 0, .int .i64 0, .str [], .int .i64 0, .clip .entry []], .struct [(0,3),(1,3),(2,3),(3,9),(4,3),(5,43)]⟩),(95,⟨true,2, .agg [.str [], .int .i64 0], .struct [(0,9),(1,3)]⟩),(100,⟨false,1, .one (.clip .int []), .slice .int 3⟩)]
def qa9e:List (Nat×List EK):= []
theorem qa9f:Tryz.prog.follows .mixedOrders=true:=by kernel_rfl
theorem qa9g:(qa9d.all fun x=>tiB Tryz.prog x.1 x.2)=true:=by kernel_rfl
theorem qa9h:(qa9e.all fun x=>eqB Tryz.prog x.1 x.2)=true:=by kernel_rfl
def qa9i:Code:=bd Tryz.f66
def qa9j:Code:=bd Tryz.f67
def qa9k:Code:=bd Tryz.f68
def qa9l:Code:=bd Tryz.f69
def qa9m:Code:=bd Tryz.f70
def qa9n:Code:=bd Tryz.f98
def qa9o:HS:=⟨[(1, .one (.ptr 0 0)),(3, .one (.int .i64))],[(0, .cells hFs)],1⟩
def qa9p {R:Type}:Nat→HS.V qa9o→(Ex→St→Option R)→Option R:=fun q v K=>
 ref07_first_L4 (cFs v.2.1) (K .ret {regs:=[(2, .v (.one (.bool false)))],mem:= [],nx:=0}) (K (.exit 0) {regs:=[(1, .v (.one (.ptr 0 0)))],mem:=[(0, .cells (rFs (cFs v.2.1)))],nx:=1}) q v.1.2.1
def qa9q:List HV:=[.agg hFs]
def qa9r:List HV:=[.one (.bool)]
def qa9s:HP.V qa9q→Fs:=fun v=>((cFs v.1))
def qa9t:HX.V qa9r→Bool:=fun v=>(v)
def qa9u:Bool→HX.V qa9r:=fun y=>(y)
def qa9v:Fs→Option (Bool):=fun x=>ref07_first x
def qa9w:Spec:=mkSpec qa9q qa9r qa9s qa9u qa9v
def qa9x {R:Type}:List (Nat×Hd R):=[(4,hdOf qa9o qa9p)]
def qa9y {R:Type}:List (Nat×Inl R):= []
def qa9z:Cfg:={T:=qa9d,spec:=[(27,qa4x),(96,qa5o)],glob:=GlobL.G Tryz.prog,eqs:=qa9e,N:=69,fuel:=64,loops:=[(4,⟨[1,3], [],[0],1, [], [], [], []⟩)],blocks:=[(0,⟨[1], [],[0],1, [], [], [], []⟩)],retA:=some ⟨[2], [], [],0, [], [], [], []⟩,fid:=66}
theorem qa90:CfgOK Tryz.prog qa9z:=cfgC qa9g qa9h ⟨qa45,⟨qa5w,trivial⟩⟩
theorem qa91 {R:Type}:SubsOK Tryz.prog (R:=R) 0 qa9y:=subsOK_nil _ _
theorem qa92 {R:Type}:LoopOK (R:=R) (hnd 0 qa9y) qa9z qa9x (sub [1,1,0,1,0,0] qa9i) (HS.V qa9o) (HS.st qa9o) (HS.sh qa9o) qa9p (hdOf qa9o qa9p):=loopOK_of qa9o qa9p (fun _ _=>rfl) (by intro q v K;kernel_rfl)
theorem qa93 {R:Type}:LoopsOK (R:=R) (hnd 0 qa9y) qa9z qa9x qa9i:=loopsOK_of (l:=[sub [1,1,0,1,0,0] qa9i]) (by kernel_rfl) (loopsL_cons (b:=sub [1,1,0,1,0,0] qa9i) (rid:=4) (by kernel_rfl) (by kernel_rfl) qa92 (trivial))
theorem qa94:SpecOK Tryz.prog 66 qa9w:=specOK_a Tryz.f66 qa90 qa9f (d:=0) qa91 qa93 (rngs0 (by kernel_rfl)) (toY:=qa9t)
def qa95:HS:=⟨[(1, .one (.ptr 0 0)),(3, .one (.int .i64)),(4, .one (.ptr 1 0)),(5, .one (.int .i64))],[(0, .cells hFs),(1, .cells hIn)],2⟩
def qa96 {R:Type}:Nat→HS.V qa95→(Ex→St→Option R)→Option R:=fun q v K=>
 ref07_second_L14 (cIn v.2.2.1) (K .ret {regs:=[(2, .v (.one (.bool false)))],mem:= [],nx:=0}) (K (.exit 2) {regs:=[(1, .v (.one (.ptr 0 0))),(3, .v (.one (.int .i64 v.1.2.1)))],mem:=[(0, .cells (rFs (cFs v.2.1)))],nx:=1}) q v.1.2.2.2.1
def qa97:HS:=⟨[(1, .one (.ptr 0 0)),(3, .one (.int .i64))],[(0, .cells hFs)],1⟩
def qa98 {R:Type}:Nat→HS.V qa97→(Ex→St→Option R)→Option R:=fun q v K=>
 ref07_second_L2 (cFs v.2.1) (K .ret {regs:=[(2, .v (.one (.bool false)))],mem:= [],nx:=0}) (K (.exit 0) {regs:= [],mem:= [],nx:=0}) q v.1.2.1
def qa99:List HV:=[.agg hFs]
def qbaa:List HV:=[.one (.bool)]
def qbab:HP.V qa99→Fs:=fun v=>((cFs v.1))
def qbac:HX.V qbaa→Bool:=fun v=>(v)
def qbad:Bool→HX.V qbaa:=fun y=>(y)
def qbae:Fs→Option (Bool):=fun x=>ref07_second x
def qbaf:Spec:=mkSpec qa99 qbaa qbab qbad qbae
def qbag {R:Type}:List (Nat×Hd R):=[(2,hdOf qa97 qa98),(14,hdOf qa95 qa96)]
def qbah {R:Type}:List (Nat×Inl R):= []
def qbai:Cfg:={T:=qa9d,spec:=[(97,qa19)],glob:=GlobL.G Tryz.prog,eqs:=qa9e,N:=91,fuel:=64,loops:=[(14,⟨[1,3,4,5], [],[0,1],2, [], [], [], []⟩),(2,⟨[1,3], [],[0],1, [], [], [], []⟩)],blocks:=[(0,⟨[], [], [],0, [], [], [], []⟩),(1,⟨[1,3], [],[0],1, [], [], [], []⟩),(2,⟨[1,3], [],[0],1, [], [], [], []⟩)],retA:=some ⟨[2], [], [],0, [], [], [], []⟩,fid:=67}
theorem qbaj:CfgOK Tryz.prog qbai:=cfgC qa9g qa9h ⟨qa2h,trivial⟩
theorem qbak {R:Type}:SubsOK Tryz.prog (R:=R) 0 qbah:=subsOK_nil _ _
theorem qbal {R:Type}:LoopOK (R:=R) (hnd 0 qbah) qbai qbag (sub [1,0,1,0,0] qa9j) (HS.V qa97) (HS.st qa97) (HS.sh qa97) qa98 (hdOf qa97 qa98):=loopOK_of qa97 qa98 (fun _ _=>rfl) (by intro q v K;kernel_rfl)
theorem qbam {R:Type}:LoopOK (R:=R) (hnd 0 qbah) qbai qbag (sub [1,0,1,0,0,1,0,0,1,1,1,1,1,1,0,0] qa9j) (HS.V qa95) (HS.st qa95) (HS.sh qa95) qa96 (hdOf qa95 qa96):=loopOK_of qa95 qa96 (fun _ _=>rfl) (by intro q v K;kernel_rfl)
theorem qban {R:Type}:LoopsOK (R:=R) (hnd 0 qbah) qbai qbag qa9j:=loopsOK_of (l:=[sub [1,0,1,0,0] qa9j,sub [1,0,1,0,0,1,0,0,1,1,1,1,1,1,0,0] qa9j]) (by kernel_rfl) (loopsL_cons (b:=sub [1,0,1,0,0] qa9j) (rid:=2) (by kernel_rfl) (by kernel_rfl) qbal (loopsL_cons (b:=sub [1,0,1,0,0,1,0,0,1,1,1,1,1,1,0,0] qa9j) (rid:=14) (by kernel_rfl) (by kernel_rfl) qbam (trivial)))
theorem qbao:SpecOK Tryz.prog 67 qbaf:=specOK_a Tryz.f67 qbaj qa9f (d:=0) qbak qban (rngs0 (by kernel_rfl)) (toY:=qbac)
def qbap:HS:=⟨[(1, .one (.ptr 0 0)),(3, .one (.int .i64)),(4, .one (.int .i64))],[(0, .cells hFs)],1⟩
def qbaq {R:Type}:Nat→HS.V qbap→(Ex→St→Option R)→Option R:=fun q v K=>
 ref07_third_L5 v.1.2.1 (cFs v.2.1) (K .ret {regs:=[(2, .v (.one (.bool false)))],mem:= [],nx:=0}) (K (.exit 2) {regs:=[(1, .v (.one (.ptr 0 0))),(3, .v (.one (.int .i64 v.1.2.1)))],mem:=[(0, .cells (rFs (cFs v.2.1)))],nx:=1}) q v.1.2.2.1
def qbar:HS:=⟨[(1, .one (.ptr 0 0)),(3, .one (.int .i64))],[(0, .cells hFs)],1⟩
def qbas {R:Type}:Nat→HS.V qbar→(Ex→St→Option R)→Option R:=fun q v K=>
 ref07_third_L2 (cFs v.2.1) (K .ret {regs:=[(2, .v (.one (.bool false)))],mem:= [],nx:=0}) (K (.exit 0) {regs:= [],mem:= [],nx:=0}) q v.1.2.1
def qbat:List HV:=[.agg hFs]
def qbau:List HV:=[.one (.bool)]
def qbav:HP.V qbat→Fs:=fun v=>((cFs v.1))
def qbaw:HX.V qbau→Bool:=fun v=>(v)
def qbax:Bool→HX.V qbau:=fun y=>(y)
def qbay:Fs→Option (Bool):=fun x=>ref07_third x
def qbaz:Spec:=mkSpec qbat qbau qbav qbax qbay
def qba0 {R:Type}:List (Nat×Hd R):=[(2,hdOf qbar qbas),(5,hdOf qbap qbaq)]
def qba1 {R:Type}:List (Nat×Inl R):= []
def qba2:Cfg:={T:=qa9d,spec:=[(27,qa4x)],glob:=GlobL.G Tryz.prog,eqs:=qa9e,N:=42,fuel:=64,loops:=[(5,⟨[1,3,4], [],[0],1, [], [], [], []⟩),(2,⟨[1,3], [],[0],1, [], [], [], []⟩)],blocks:=[(0,⟨[], [], [],0, [], [], [], []⟩),(1,⟨[1,3], [],[0],1, [], [], [], []⟩),(2,⟨[1,3], [],[0],1, [], [], [], []⟩)],retA:=some ⟨[2], [], [],0, [], [], [], []⟩,fid:=68}
theorem qba3:CfgOK Tryz.prog qba2:=cfgC qa9g qa9h ⟨qa45,trivial⟩
theorem qba4 {R:Type}:SubsOK Tryz.prog (R:=R) 0 qba1:=subsOK_nil _ _
theorem qba5 {R:Type}:LoopOK (R:=R) (hnd 0 qba1) qba2 qba0 (sub [1,0,1,0,0] qa9k) (HS.V qbar) (HS.st qbar) (HS.sh qbar) qbas (hdOf qbar qbas):=loopOK_of qbar qbas (fun _ _=>rfl) (by intro q v K;kernel_rfl)
theorem qba6 {R:Type}:LoopOK (R:=R) (hnd 0 qba1) qba2 qba0 (sub [1,0,1,0,0,1,0,0,1,0,0] qa9k) (HS.V qbap) (HS.st qbap) (HS.sh qbap) qbaq (hdOf qbap qbaq):=loopOK_of qbap qbaq (fun _ _=>rfl) (by intro q v K;kernel_rfl)
theorem qba7 {R:Type}:LoopsOK (R:=R) (hnd 0 qba1) qba2 qba0 qa9k:=loopsOK_of (l:=[sub [1,0,1,0,0] qa9k,sub [1,0,1,0,0,1,0,0,1,0,0] qa9k]) (by kernel_rfl) (loopsL_cons (b:=sub [1,0,1,0,0] qa9k) (rid:=2) (by kernel_rfl) (by kernel_rfl) qba5 (loopsL_cons (b:=sub [1,0,1,0,0,1,0,0,1,0,0] qa9k) (rid:=5) (by kernel_rfl) (by kernel_rfl) qba6 (trivial)))
theorem qba8:SpecOK Tryz.prog 68 qbaz:=specOK_a Tryz.f68 qba3 qa9f (d:=0) qba4 qba7 (rngs0 (by kernel_rfl)) (toY:=qbaw)
def qba9:HS:=⟨[(1, .one (.int .i64)),(2, .one (.ptr 0 0)),(6, .one (.int .i64)),(7, .one (.int .i64)),(8, .one (.int .i64)),(9, .one (.int .i64))],[(0, .cells hFs)],1⟩
def qbba {R:Type}:Nat→HS.V qba9→(Ex→St→Option R)→Option R:=fun q v K=>
 ref07_Names_L7 v.1.1 v.1.2.2.2.2.1 (cFs v.2.1) (fun y17 y18=>K (.exit 2) {regs:=[(1, .v (.one (.int .i64 v.1.1))),(2, .v (.one (.ptr 0 0))),(6, .v (.one (.int .i64 y17))),(7, .v (.one (.int .i64 y18))),(8, .v (.one (.int .i64 v.1.2.2.2.2.1)))],mem:=[(0, .cells (rFs (cFs v.2.1)))],nx:=1}) q v.1.2.2.1 v.1.2.2.2.1 v.1.2.2.2.2.2.1
def qbbb:HS:=⟨[(1, .one (.int .i64)),(2, .one (.ptr 0 0)),(6, .one (.int .i64)),(7, .one (.int .i64)),(8, .one (.int .i64))],[(0, .cells hFs)],1⟩
def qbbc {R:Type}:Nat→HS.V qbbb→(Ex→St→Option R)→Option R:=fun q v K=>
 ref07_Names_L4 v.1.1 (cFs v.2.1) (fun y23 y24=>K (.exit 0) {regs:=[(6, .v (.one (.int .i64 y23))),(7, .v (.one (.int .i64 y24)))],mem:= [],nx:=0}) q v.1.2.2.1 v.1.2.2.2.1 v.1.2.2.2.2.1
def qbbd:List HV:=[.agg hFs, .one (.int .i64)]
def qbbe:List HV:=[.one (.int .i64), .one (.int .i64)]
def qbbf:HP.V qbbd→Fs×Int:=fun v=>((cFs v.1),v.2.1)
def qbbg:HX.V qbbe→Int×Int:=fun v=>(v.1,v.2)
def qbbh:(Int×Int)→HX.V qbbe:=fun y=>(y.1,y.2)
def qbbi:(Fs×Int)→Option (Int×Int):=fun x=>ref07_Names x.1 x.2
def qbbj:Spec:=mkSpec qbbd qbbe qbbf qbbh qbbi
def qbbk {R:Type}:List (Nat×Hd R):=[(4,hdOf qbbb qbbc),(7,hdOf qba9 qbba)]
def qbbl {R:Type}:List (Nat×Inl R):= []
def qbbm:Cfg:={T:=qa9d,glob:=GlobL.G Tryz.prog,eqs:=qa9e,N:=50,fuel:=64,loops:=[(7,⟨[1,2,6,7,8,9], [],[0],1, [], [], [], []⟩),(4,⟨[1,2,6,7,8], [],[0],1, [], [], [], []⟩)],blocks:=[(0,⟨[6,7], [], [],0, [], [], [], []⟩),(1,⟨[1,2,6,7,8], [],[0],1, [], [], [], []⟩),(2,⟨[1,2,6,7,8], [],[0],1, [], [], [], []⟩)],fid:=98}
theorem qbbn:CfgOK Tryz.prog qbbm:=cfgC qa9g qa9h trivial
theorem qbbo {R:Type}:SubsOK Tryz.prog (R:=R) 0 qbbl:=subsOK_nil _ _
theorem qbbp {R:Type}:LoopOK (R:=R) (hnd 0 qbbl) qbbm qbbk (sub [1,1,1,0,1,0,0] qa9n) (HS.V qbbb) (HS.st qbbb) (HS.sh qbbb) qbbc (hdOf qbbb qbbc):=loopOK_of qbbb qbbc (fun _ _=>rfl) (by intro q v K;kernel_rfl)
theorem qbbq {R:Type}:LoopOK (R:=R) (hnd 0 qbbl) qbbm qbbk (sub [1,1,1,0,1,0,0,1,0,0,1,0,0] qa9n) (HS.V qba9) (HS.st qba9) (HS.sh qba9) qbba (hdOf qba9 qbba):=loopOK_of qba9 qbba (fun _ _=>rfl) (by intro q v K;kernel_rfl)
theorem qbbr {R:Type}:LoopsOK (R:=R) (hnd 0 qbbl) qbbm qbbk qa9n:=loopsOK_of (l:=[sub [1,1,1,0,1,0,0] qa9n,sub [1,1,1,0,1,0,0,1,0,0,1,0,0] qa9n]) (by kernel_rfl) (loopsL_cons (b:=sub [1,1,1,0,1,0,0] qa9n) (rid:=4) (by kernel_rfl) (by kernel_rfl) qbbp (loopsL_cons (b:=sub [1,1,1,0,1,0,0,1,0,0,1,0,0] qa9n) (rid:=7) (by kernel_rfl) (by kernel_rfl) qbbq (trivial)))
theorem qbbs:SpecOK Tryz.prog 98 qbbj:=specOK_a Tryz.f98 qbbn qa9f (d:=0) qbbo qbbr (rngs0 (by kernel_rfl)) (toY:=qbbg)
def qbbt:HS:=⟨[(1, .one (.ptr 0 0)),(3, .one (.int .i64))],[(0, .cells hFs)],1⟩
def qbbu {R:Type}:Nat→HS.V qbbt→(Ex→St→Option R)→Option R:=fun q v K=>
 ref07_fourth_L2 (cFs v.2.1) (K .ret {regs:=[(2, .v (.one (.bool false)))],mem:= [],nx:=0}) (K (.exit 0) {regs:= [],mem:= [],nx:=0}) q v.1.2.1
def qbbv:List HV:=[.agg hFs]
def qbbw:List HV:=[.one (.bool)]
def qbbx:HP.V qbbv→Fs:=fun v=>((cFs v.1))
def qbby:HX.V qbbw→Bool:=fun v=>(v)
def qbbz:Bool→HX.V qbbw:=fun y=>(y)
def qbb0:Fs→Option (Bool):=fun x=>ref07_fourth x
def qbb1:Spec:=mkSpec qbbv qbbw qbbx qbbz qbb0
def qbb2 {R:Type}:List (Nat×Hd R):=[(2,hdOf qbbt qbbu)]
def qbb3 {R:Type}:List (Nat×Inl R):= []
def qbb4:Cfg:={T:=qa9d,spec:=[(98,qbbj)],glob:=GlobL.G Tryz.prog,eqs:=qa9e,N:=57,fuel:=64,loops:=[(2,⟨[1,3], [],[0],1, [], [], [], []⟩)],blocks:=[(0,⟨[], [], [],0, [], [], [], []⟩)],retA:=some ⟨[2], [], [],0, [], [], [], []⟩,fid:=69}
theorem qbb5:CfgOK Tryz.prog qbb4:=cfgC qa9g qa9h ⟨qbbs,trivial⟩
theorem qbb6 {R:Type}:SubsOK Tryz.prog (R:=R) 0 qbb3:=subsOK_nil _ _
theorem qbb7 {R:Type}:LoopOK (R:=R) (hnd 0 qbb3) qbb4 qbb2 (sub [1,0,1,0,0] qa9l) (HS.V qbbt) (HS.st qbbt) (HS.sh qbbt) qbbu (hdOf qbbt qbbu):=loopOK_of qbbt qbbu (fun _ _=>rfl) (by intro q v K;kernel_rfl)
theorem qbb8 {R:Type}:LoopsOK (R:=R) (hnd 0 qbb3) qbb4 qbb2 qa9l:=loopsOK_of (l:=[sub [1,0,1,0,0] qa9l]) (by kernel_rfl) (loopsL_cons (b:=sub [1,0,1,0,0] qa9l) (rid:=2) (by kernel_rfl) (by kernel_rfl) qbb7 (trivial))
theorem qbb9:SpecOK Tryz.prog 69 qbb1:=specOK_a Tryz.f69 qbb5 qa9f (d:=0) qbb6 qbb8 (rngs0 (by kernel_rfl)) (toY:=qbby)
def qbca:HS:=⟨[(1, .one (.ptr 0 0)),(3, .one (.own 1)),(4, .one (.int .i64)),(5, .one (.ptr 2 0)),(7, .one (.int .i64)),(8, .one (.bool)),(9, .one (.int .i64))],[(0, .cells hFs),(1, .row .int),(2, .cells hIn)],3⟩
def qbcb {R:Type}:Nat→HS.V qbca→(Ex→St→Option R)→Option R:=fun q v K=>
 ref07_fifth_L11 v.1.2.2.2.2.1 v.2.2.1 (cIn v.2.2.2.1) (fun y22=>K (.exit 4) {regs:=[(1, .v (.one (.ptr 0 0))),(3, .v (.one (.own 1))),(4, .v (.one (.int .i64 v.1.2.2.1))),(5, .v (.one (.ptr 2 0))),(7, .v (.one (.int .i64 v.1.2.2.2.2.1))),(8, .v (.one (.bool y22)))],mem:=[(0, .cells (rFs (cFs v.2.1))),(1, .row .int v.2.2.1),(2, .cells (rIn (cIn v.2.2.2.1)))],nx:=3}) q v.1.2.2.2.2.2.1 v.1.2.2.2.2.2.2.1
def qbcc:HS:=⟨[(1, .one (.ptr 0 0)),(3, .one (.own 1)),(4, .one (.int .i64)),(5, .one (.ptr 2 0)),(7, .one (.int .i64))],[(0, .cells hFs),(1, .row .int),(2, .cells hIn)],3⟩
def qbcd {R:Type}:Nat→HS.V qbcc→(Ex→St→Option R)→Option R:=fun q v K=>
 ref07_fifth_L7 (cIn v.2.2.2.1) (fun y30=>K (.exit 2) {regs:=[(1, .v (.one (.ptr 0 0))),(3, .v (.one (.own 1))),(4, .v (.one (.int .i64 v.1.2.2.1)))],mem:=[(0, .cells (rFs (cFs v.2.1))),(1, .row .int y30)],nx:=2}) q v.1.2.2.2.2.1 v.2.2.1
def qbce:HS:=⟨[(1, .one (.ptr 0 0)),(3, .one (.own 1)),(4, .one (.int .i64))],[(0, .cells hFs),(1, .row .int)],2⟩
def qbcf {R:Type}:Nat→HS.V qbce→(Ex→St→Option R)→Option R:=fun q v K=>
 ref07_fifth_L3 (cFs v.2.1) (fun y33=>K (.exit 0) {regs:=[(1, .v (.one (.ptr 0 0))),(3, .v (.one (.own 1)))],mem:=[(0, .cells (rFs (cFs v.2.1))),(1, .row .int y33)],nx:=2}) q v.1.2.2.1 v.2.2.1
def qbcg:List HV:=[.agg hFs]
def qbch:List HV:=[.one (.bool)]
def qbci:HP.V qbcg→Fs:=fun v=>((cFs v.1))
def qbcj:HX.V qbch→Bool:=fun v=>(v)
def qbck:Bool→HX.V qbch:=fun y=>(y)
def qbcl:Fs→Option (Bool):=fun x=>ref07_fifth x
def qbcm:Spec:=mkSpec qbcg qbch qbci qbck qbcl
def qbcn {R:Type}:List (Nat×Hd R):=[(3,hdOf qbce qbcf),(7,hdOf qbcc qbcd),(11,hdOf qbca qbcb)]
def qbco {R:Type}:List (Nat×Inl R):= []
def qbcp:Cfg:={T:=qa9d,spec:=[(27,qa4x)],glob:=GlobL.G Tryz.prog,eqs:=qa9e,N:=70,fuel:=64,loops:=[(11,⟨[1,3,4,5,7,8,9], [],[0,1,2],3, [], [], [], []⟩),(7,⟨[1,3,4,5,7], [],[0,1,2],3, [], [], [], []⟩),(3,⟨[1,3,4], [],[0,1],2, [], [], [], []⟩)],blocks:=[(0,⟨[1,3], [],[0,1],2, [], [], [], []⟩),(1,⟨[1,3,4], [],[0,1],2, [], [], [], []⟩),(2,⟨[1,3,4], [],[0,1],2, [], [], [], []⟩),(3,⟨[1,3,4,5,7], [],[0,1,2],3, [], [], [], []⟩),(4,⟨[1,3,4,5,7,8], [],[0,1,2],3, [], [], [], []⟩)],fid:=70}
theorem qbcq:CfgOK Tryz.prog qbcp:=cfgC qa9g qa9h ⟨qa45,trivial⟩
theorem qbcr {R:Type}:SubsOK Tryz.prog (R:=R) 0 qbco:=subsOK_nil _ _
theorem qbcs {R:Type}:LoopOK (R:=R) (hnd 0 qbco) qbcp qbcn (sub [1,1,0,1,0,0] qa9m) (HS.V qbce) (HS.st qbce) (HS.sh qbce) qbcf (hdOf qbce qbcf):=loopOK_of qbce qbcf (fun _ _=>rfl) (by intro q v K;kernel_rfl)
theorem qbct {R:Type}:LoopOK (R:=R) (hnd 0 qbco) qbcp qbcn (sub [1,1,0,1,0,0,1,0,0,1,1,0,0] qa9m) (HS.V qbcc) (HS.st qbcc) (HS.sh qbcc) qbcd (hdOf qbcc qbcd):=loopOK_of qbcc qbcd (fun _ _=>rfl) (by intro q v K;kernel_rfl)
theorem qbcu {R:Type}:LoopOK (R:=R) (hnd 0 qbco) qbcp qbcn (sub [1,1,0,1,0,0,1,0,0,1,1,0,0,1,0,0,1,0,1,0,0] qa9m) (HS.V qbca) (HS.st qbca) (HS.sh qbca) qbcb (hdOf qbca qbcb):=loopOK_of qbca qbcb (fun _ _=>rfl) (by intro q v K;kernel_rfl)
theorem qbcv {R:Type}:LoopsOK (R:=R) (hnd 0 qbco) qbcp qbcn qa9m:=loopsOK_of (l:=[sub [1,1,0,1,0,0] qa9m,sub [1,1,0,1,0,0,1,0,0,1,1,0,0] qa9m,sub [1,1,0,1,0,0,1,0,0,1,1,0,0,1,0,0,1,0,1,0,0] qa9m]) (by kernel_rfl) (loopsL_cons (b:=sub [1,1,0,1,0,0] qa9m) (rid:=3) (by kernel_rfl) (by kernel_rfl) qbcs (loopsL_cons (b:=sub [1,1,0,1,0,0,1,0,0,1,1,0,0] qa9m) (rid:=7) (by kernel_rfl) (by kernel_rfl) qbct (loopsL_cons (b:=sub [1,1,0,1,0,0,1,0,0,1,1,0,0,1,0,0,1,0,1,0,0] qa9m) (rid:=11) (by kernel_rfl) (by kernel_rfl) qbcu (trivial))))
theorem qbcw:SpecOK Tryz.prog 70 qbcm:=specOK_a Tryz.f70 qbcq qa9f (d:=0) qbcr qbcv (rngs0 (by kernel_rfl)) (toY:=qbcj)
def qbcx:List HV:=[.agg hFs]
def qbcy:List HV:=[.one (.int .i64)]
def qbcz:HP.V qbcx→Fs:=fun v=>((cFs v.1))
def qbc0:HX.V qbcy→Int:=fun v=>(v)
def qbc1:Int→HX.V qbcy:=fun y=>(y)
def qbc2:Fs→Option (Int):=fun x=>ref07_Check x
def qbc3:Spec:=mkSpec qbcx qbcy qbcz qbc1 qbc2
def qbc4:Cfg:={T:=qa9d,spec:=[(63,qa89),(66,qa9w),(67,qbaf),(68,qbaz),(69,qbb1),(70,qbcm)],glob:=GlobL.G Tryz.prog,eqs:=qa9e,N:=21,fuel:=64,fid:=28}
theorem qbc5:CfgOK Tryz.prog qbc4:=cfgC qa9g qa9h ⟨qa9c,⟨qa94,⟨qbao,⟨qba8,⟨qbb9,⟨qbcw,trivial⟩⟩⟩⟩⟩⟩
theorem qbc6:SpecOK Tryz.prog 28 qbc3:=specOK_0 Tryz.f28 qbc5 qa9f (toY:=qbc0)
def qbc7:List HV:=[.agg hFs]
def qbc8:List HV:=[.one (.bool)]
def qbc9:HP.V qbc7→Fs:=fun v=>((cFs v.1))
def qbda:HX.V qbc8→Bool:=fun v=>(v)
def qbdb:Bool→HX.V qbc8:=fun y=>(y)
def qbdc:Fs→Option (Bool):=fun x=>ref07_Ok x
def qbdd:Spec:=mkSpec qbc7 qbc8 qbc9 qbdb qbdc
def qbde:Cfg:={T:=qa9d,spec:=[(28,qbc3),(80,qa57)],glob:=GlobL.G Tryz.prog,eqs:=qa9e,N:=10,fuel:=64,fid:=44}
theorem qbdf:CfgOK Tryz.prog qbde:=cfgC qa9g qa9h ⟨qbc6,⟨qa6g,trivial⟩⟩
theorem qbdg:SpecOK Tryz.prog 44 qbdd:=specOK_0 Tryz.f44 qbdf qa9f (toY:=qbda)
end
end Go.Eng
set_option linter.unusedVariables false
set_option maxRecDepth 100000
namespace Go.Eng
noncomputable section
open Go Go.Proofs
def qbdh:List (Nat×TI):=[(3,⟨false,1, .one (.int .i64 0), .int .i64⟩),(9,⟨false,1, .one (.str []), .str⟩),(22,⟨false,1, .one (.clip .inode []), .slice .inode 45⟩),(24,⟨true,4, .agg [.int .i64 0, .int .i64 0, .int .i64 0, .clip .inode []], .struct [(0,3),(1,3),(2,3),(3,22)]⟩),(43,⟨false,1, .one (.clip .entry []), .slice .entry 95⟩),(45,⟨true,6, .agg [.int .i64 0, .int .i64 0, .int .i64 0, .str [], .int .i64 0, .clip .entry []], .struct [(0,3),(1,3),(2,3),(3,9),(4,3),(5,43)]⟩),(49,⟨false,1, .one (.clip .seen []), .slice .seen 52⟩),(52,⟨true,2, .agg [.str [], .int .i64 0], .struct [(0,9),(1,3)]⟩),(95,⟨true,2, .agg [.str [], .int .i64 0], .struct [(0,9),(1,3)]⟩)]
def qbdi:List (Nat×List EK):= []
theorem qbdj:Tryz.prog.follows .mixedOrders=true:=by kernel_rfl
theorem qbdk:(qbdh.all fun x=>tiB Tryz.prog x.1 x.2)=true:=by kernel_rfl
theorem qbdl:(qbdi.all fun x=>eqB Tryz.prog x.1 x.2)=true:=by kernel_rfl
def qbdm:Code:=bd Tryz.f71
def qbdn:List HV:=[.one (.str), .one (.str)]
def qbdo:List HV:=[.one (.str)]
def qbdp:HP.V qbdn→Str×Str:=fun v=>(v.1,v.2.1)
def qbdq:HX.V qbdo→Str:=fun v=>(v)
def qbdr:Str→HX.V qbdo:=fun y=>(y)
def qbds:(Str×Str)→Option (Str):=fun x=>ref08_under x.1 x.2
def qbdt:Spec:=mkSpec qbdn qbdo qbdp qbdr qbds
def qbdu:Cfg:={T:=qbdh,glob:=GlobL.G Tryz.prog,eqs:=qbdi,N:=14,fuel:=64,fid:=99}
theorem qbdv:CfgOK Tryz.prog qbdu:=cfgC qbdk qbdl trivial
theorem qbdw:SpecOK Tryz.prog 99 qbdt:=specOK_0 Tryz.f99 qbdv qbdj (toY:=qbdq)
def qbdx:HS:=⟨[(2, .one (.str)),(3, .one (.int .i64)),(4, .one (.ptr 0 0)),(9, .one (.ptr 1 0)),(11, .one (.own 2)),(12, .one (.int .i64))],[(0, .cells hFs),(1, .cells hIn),(2, .row .seen)],3⟩
def qbdy {R:Type} (nn:Nat):Nat→HS.V qbdx→(Ex→St→Option R)→Option R:=fun q v K=>
 ref08_Below_L6 (ref08_Below_r nn) v.1.1 v.1.2.1 (cFs v.2.1) (cIn v.2.2.1) (fun y12=>K (.exit 0) {regs:=[(11, .v (.one (.own 2)))],mem:=[(2, .row .seen y12)],nx:=3}) q v.1.2.2.2.2.2.1 v.2.2.2.1
def qbdz:List HV:=[.agg hFs, .one (.int .i64), .one (.str), .one (.int .i64)]
def qbd0:List HV:=[.one (.sl .seen)]
def qbd1:HP.V qbdz→Fs×Int×Str×Int:=fun v=>((cFs v.1),v.2.1,v.2.2.1,v.2.2.2.1)
def qbd2:HX.V qbd0→(List Seen):=fun v=>(v)
def qbd3:(List Seen)→HX.V qbd0:=fun y=>(y)
def qbd4 (nn:Nat):(Fs×Int×Str×Int)→Option ((List Seen)):=fun x=>ref08_Below_r nn x.1 x.2.1 x.2.2.1 x.2.2.2
def qbd5 (nn:Nat):Spec:=mkSpec qbdz qbd0 qbd1 qbd3 (qbd4 nn)
def qbd6:(Fs×Int×Str×Int)→Option ((List Seen)):=fun x=>ref08_Below x.1 x.2.1 x.2.2.1 x.2.2.2
def qbd7:Spec:=mkSpec qbdz qbd0 qbd1 qbd3 qbd6
def qbd8 {R:Type} (nn:Nat):List (Nat×Hd R):=[(6,hdOf qbdx (qbdy nn))]
def qbd9 {R:Type} (nn:Nat):List (Nat×Inl R):= []
def qbea (nn:Nat):Cfg:={T:=qbdh,spec:=[(27,qa4x),(71,qbd5 nn),(99,qbdt)],glob:=GlobL.G Tryz.prog,eqs:=qbdi,N:=57,fuel:=64,loops:=[(6,⟨[2,3,4,9,11,12], [],[0,1,2],3, [], [], [], []⟩)],blocks:=[(0,⟨[11], [],[2],3, [], [], [], []⟩)],fid:=71}
theorem qbeb (nn:Nat) (hrec:SpecOK Tryz.prog 71 (qbd5 nn)):CfgOK Tryz.prog (qbea nn):=cfgC qbdk qbdl ⟨qa45,⟨hrec,⟨qbdw,trivial⟩⟩⟩
theorem qbec {R:Type} (nn:Nat):SubsOK Tryz.prog (R:=R) 0 (qbd9 nn):=subsOK_nil _ _
theorem qbed {R:Type} (nn:Nat):LoopOK (R:=R) (hnd 0 (qbd9 nn)) (qbea nn) (qbd8 nn) (sub [1,1,1,1,0,1,0,0] qbdm) (HS.V qbdx) (HS.st qbdx) (HS.sh qbdx) (qbdy nn) (hdOf qbdx (qbdy nn)):=loopOK_of qbdx (qbdy nn) (fun _ _=>rfl) (by intro q v K;kernel_rfl)
theorem qbee {R:Type} (nn:Nat):LoopsOK (R:=R) (hnd 0 (qbd9 nn)) (qbea nn) (qbd8 nn) qbdm:=loopsOK_of (l:=[sub [1,1,1,1,0,1,0,0] qbdm]) (by kernel_rfl) (loopsL_cons (b:=sub [1,1,1,1,0,1,0,0] qbdm) (rid:=6) (by kernel_rfl) (by kernel_rfl) (qbed nn) (trivial))
theorem qbef (nn:Nat):RngsOK Tryz.prog (qbea nn) qbdm:=rngs0 (by kernel_rfl)
theorem qbeg (nn:Nat):∀v,runFn (hnd 0 (qbd9 nn)) (qbea nn) (qbd8 nn) qbdm Tryz.f71.results.toList (HP.st qbdz v) (decOf qbd0 qbd2)=qbd4 (nn+1) (qbd1 v):=by intro v;kernel_rfl
theorem qbeh:∀nn,SpecOK Tryz.prog 71 (qbd5 nn)
 |0=>⟨enters_of (fn:=Tryz.f71) (body:=qbdm) (by kernel_rfl) (by kernel_rfl) (by kernel_rfl),fun S w args vs x y _ _ _ _ h=>by cases h⟩
 |nn+1=>specOK_mk (fn:=Tryz.f71) (by kernel_rfl) (by kernel_rfl) (by kernel_rfl) (qbeb nn (qbeh nn)) (by kernel_rfl) (by kernel_rfl) qbdj (by kernel_rfl) (fun _=>rfl) (d:=0) (qbec nn) (qbee nn) (qbef nn) (qbeg nn)
theorem qbei:SpecOK Tryz.prog 71 qbd7:=qbeh FUEL
def qbej:List HV:=[.agg hFs]
def qbek:List HV:=[.one (.sl .seen)]
def qbel:HP.V qbej→Fs:=fun v=>((cFs v.1))
def qbem:HX.V qbek→(List Seen):=fun v=>(v)
def qben:(List Seen)→HX.V qbek:=fun y=>(y)
def qbeo:Fs→Option ((List Seen)):=fun x=>ref08_List x
def qbep:Spec:=mkSpec qbej qbek qbel qben qbeo
def qbeq:Cfg:={T:=qbdh,spec:=[(71,qbd7)],glob:=GlobL.G Tryz.prog,eqs:=qbdi,N:=8,fuel:=64,fid:=29}
theorem qber:CfgOK Tryz.prog qbeq:=cfgC qbdk qbdl ⟨qbei,trivial⟩
theorem qbes:SpecOK Tryz.prog 29 qbep:=specOK_0 Tryz.f29 qber qbdj (toY:=qbem)
end
end Go.Eng
