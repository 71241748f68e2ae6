/- A part of the proofs of the laws of this seat: the engine that reads the program's code, plain functions, or facts of the program's functions. Conditions: none. -/
import Derived.Ground.NamesProg
import Derived.Shelf.Small.Strs
import Derived.Shelf.Strings.Search1
import Derived.Shelf.Strings.OnBuilder
import Derived.Test.YtkdpombpeoiafaaGreatDoorProg
import Derived.Test.YtkdpombpeoiafaaGreatDoorP1
import Derived.Test.YtkdpombpeoiafaaGreatDoorE4
set_option linter.unusedSectionVars false
set_option linter.unusedVariables false
set_option linter.unusedSimpArgs false
set_option linter.unnecessarySimpa false
namespace Go.Proofs
open Go.Shelf
def Tryz.lays106_ren:Go.Shelf.Ren:=⟨fun|106=>127|213=>156|265=>171|n=>n,fun|9=>9|3=>3|n=>n,fun|n=>n⟩
theorem Tryz.lays106:Go.Proofs.Lays.n106 Tryz.prog Tryz.lays106_ren:={
 mixed:=by kernel_rfl
 f106:=Tryz.func127.trans (congrArg some (by kernel_rfl))
 f213:=Tryz.func156.trans (congrArg some (by kernel_rfl))
 f265:=Tryz.func171.trans (congrArg some (by kernel_rfl))
 t3:=Tryz.underlying3
 a3:=Tryz.isAgg3
 z3:=Tryz.sizeOf3
 v3:=Tryz.zeroValue3
 t9:=Tryz.underlying9
 a9:=Tryz.isAgg9
 z9:=Tryz.sizeOf9
 v9:=Tryz.zeroValue9}
def Tryz.lays217_ren:Go.Shelf.Ren:=⟨fun|217=>184|266=>190|n=>n,fun|9=>9|5=>5|3=>3|n=>n,fun|n=>n⟩
theorem Tryz.lays217:Go.Proofs.Lays.n217 Tryz.prog Tryz.lays217_ren:={
 mixed:=by kernel_rfl
 f217:=Tryz.func184.trans (congrArg some (by kernel_rfl))
 f266:=Tryz.func190.trans (congrArg some (by kernel_rfl))
 t3:=Tryz.underlying3
 a3:=Tryz.isAgg3
 z3:=Tryz.sizeOf3
 v3:=Tryz.zeroValue3
 t5:=Tryz.underlying5
 a5:=Tryz.isAgg5
 z5:=Tryz.sizeOf5
 v5:=Tryz.zeroValue5
 t9:=Tryz.underlying9
 a9:=Tryz.isAgg9
 z9:=Tryz.sizeOf9
 v9:=Tryz.zeroValue9}
def Tryz.lays156_ren:Go.Shelf.Ren:=⟨fun|156=>192|165=>194|166=>195|169=>196|240=>197|241=>198|276=>199|277=>200|n=>n,fun|31=>46|9=>9|3=>3|4=>4|0=>0|20=>20|72=>194|76=>198|70=>191|37=>192|75=>197|127=>201|164=>202|5=>5|80=>200|n=>n,fun|n=>n⟩
theorem Tryz.lays156:Go.Proofs.Lays.n156 Tryz.prog Tryz.lays156_ren:={
 mixed:=by kernel_rfl
 f156:=Tryz.func192.trans (congrArg some (by kernel_rfl))
 f165:=Tryz.func194.trans (congrArg some (by kernel_rfl))
 f166:=Tryz.func195.trans (congrArg some (by kernel_rfl))
 f169:=Tryz.func196.trans (congrArg some (by kernel_rfl))
 f240:=Tryz.func197.trans (congrArg some (by kernel_rfl))
 f241:=Tryz.func198.trans (congrArg some (by kernel_rfl))
 f276:=Tryz.func199.trans (congrArg some (by kernel_rfl))
 f277:=Tryz.func200.trans (congrArg some (by kernel_rfl))
 t0:=Tryz.underlying0
 a0:=Tryz.isAgg0
 z0:=Tryz.sizeOf0
 v0:=Tryz.zeroValue0
 t3:=Tryz.underlying3
 a3:=Tryz.isAgg3
 z3:=Tryz.sizeOf3
 v3:=Tryz.zeroValue3
 t4:=Tryz.underlying4
 a4:=Tryz.isAgg4
 z4:=Tryz.sizeOf4
 v4:=Tryz.zeroValue4
 t9:=Tryz.underlying9
 a9:=Tryz.isAgg9
 z9:=Tryz.sizeOf9
 v9:=Tryz.zeroValue9
 t20:=Tryz.underlying20
 a20:=Tryz.isAgg20
 z20:=Tryz.sizeOf20
 v20:=Tryz.zeroValue20
 t31:=Tryz.underlying46
 a31:=Tryz.isAgg46
 z31:=Tryz.sizeOf46
 v31:=Tryz.zeroValue46
 t37:=Tryz.underlying192
 a37:=Tryz.isAgg192
 z37:=Tryz.sizeOf192
 v37:=Tryz.zeroValue192
 t70:=Tryz.underlying191
 a70:=Tryz.isAgg191
 z70:=Tryz.sizeOf191
 v70:=Tryz.zeroValue191
 t72:=Tryz.underlying194
 a72:=Tryz.isAgg194
 z72:=Tryz.sizeOf194
 v72:=Tryz.zeroValue194
 t75:=Tryz.underlying197
 a75:=Tryz.isAgg197
 z75:=Tryz.sizeOf197
 v75:=Tryz.zeroValue197
 t76:=Tryz.underlying198
 a76:=Tryz.isAgg198
 z76:=Tryz.sizeOf198
 v76:=Tryz.zeroValue198
 t127:=Tryz.underlying201
 a127:=Tryz.isAgg201
 z127:=Tryz.sizeOf201
 v127:=Tryz.zeroValue201
 t164:=Tryz.underlying202
 a164:=Tryz.isAgg202
 z164:=Tryz.sizeOf202
 v164:=Tryz.zeroValue202}
end Go.Proofs
set_option linter.unusedVariables false
set_option maxRecDepth 100000
namespace Go.Eng
open Go Go.Proofs Go.Shelf
noncomputable instance:GlobL Tryz.prog:=⟨[]⟩
noncomputable def strings_Compare_sp:Spec:=mkSpec (X:=Str×Str) (Y:=Int) [.one .str, .one .str] [.one (.int .i64)] (fun v=>(v.1,v.2.1)) (fun y=>y) (fun x=>strings_Compare x.1 x.2)
theorem strings_Compare_ok:SpecOK Tryz.prog 127 strings_Compare_sp where
 enters:=enters_of Tryz.func127 (by kernel_rfl) rfl
 calls:=by
  intro S w args vs x y hS _ hal hp hf;simp only[strings_Compare_sp,mkSpec] at hp hf⊢;split at hp
  ·rename_i v hv
   cases hp;cases hf;rw[HP.eq hv] at hal;cases hal with
   |cons h1 h2=>
    cases h2 with
    |cons h2 h3=>
     cases h3;rename_i v1 v2;cases (show VA _ w (.str v.1) v1 from h1) with
     |str _ b1 e1=>
      cases (show VA _ w (.str v.2.1) v2 from h2) with
      |str _ b2 e2=>
       refine(Any.strings_Compare Tryz.lays106 b1 b2 w).mono ?_;rintro e w' ⟨rfl,rfl⟩;refine⟨_,rfl,Go.RowKit.Below.refl _ _, ?_⟩;rw[e1,e2];exact VA.int _ _
  ·cases hp
noncomputable def stringslite_IndexByte_sp:Spec:=mkSpec (X:=Str×Int) (Y:=Int) [.one .str, .one (.int .u8)] [.one (.int .i64)] (fun v=>(v.1,v.2.1)) (fun y=>y) (fun x=>stringslite_IndexByte x.1 x.2)
theorem stringslite_IndexByte_ok:SpecOK Tryz.prog 184 stringslite_IndexByte_sp where
 enters:=enters_of Tryz.func184 (by kernel_rfl) rfl
 calls:=by
  intro S w args vs x y hS _ hal hp hf;simp only[stringslite_IndexByte_sp,mkSpec] at hp hf⊢;split at hp
  ·rename_i v hv
   cases hp;cases hf;rw[HP.eq hv] at hal;cases hal with
   |cons h1 h2=>
    cases h2 with
    |cons h2 h3=>
     cases h3;rename_i v1 v2;cases (show VA _ w (.str v.1) v1 from h1) with
     |str _ b1 e1=>
      cases (show VA _ w (.int .u8 v.2.1) v2 from h2) with
      |int _ _=>
       refine(Any.stringslite_IndexByte Tryz.lays217 b1 v.2.1 w).mono ?_;rintro e w' ⟨rfl,rfl⟩;refine⟨_,rfl,Go.RowKit.Below.refl _ _, ?_⟩;rw[e1];exact VA.int _ _
  ·cases hp
theorem bx156:Go.Proofs.Builder.Extra Tryz.prog Tryz.lays156_ren where
 sizeBuilder:=by kernel_rfl
 liesBuilder:=by kernel_rfl
 t5:=Tryz.underlying5
 a5:=Tryz.isAgg5
 z5:=Tryz.sizeOf5
 v5:=Tryz.zeroValue5
 infoByte:=by kernel_rfl
 cellsByte:=by kernel_rfl
 sizeByte:=by kernel_rfl
 neB5:=by decide
noncomputable def strings_Join_sp:Spec:=mkSpec (X:=List Str×Str) (Y:=Str) [.one (.sl .str), .one .str] [.one .str] (fun v=>(v.1,v.2.1)) (fun y=>y) (fun x=>strings_Join x.1 x.2)
theorem strings_Join_ok:SpecOK Tryz.prog 192 strings_Join_sp where
 enters:=enters_of Tryz.func192 (by kernel_rfl) rfl
 calls:=by
  intro S w args vs x y hS _ hal hp hf;simp only[strings_Join_sp,mkSpec] at hp hf⊢;split at hp
  ·rename_i v hv
   cases hp;unfold strings_Join at hf;split at hf
   rotate_left
   ·cases hf
   rename_i hlen;have hlen:(Lib.join v.1 v.2.1).length+List.length v.1≤67108864:=hlen;cases hf;rw[HP.eq hv] at hal;cases hal with
   |cons h1 h2=>
    cases h2 with
    |cons h2 h3=>
     cases h3;rename_i v1 v2;cases (show VA _ w (.sl .str v.1) v1 from h1) with
     |sl _ _ ad len cap bk of f hn hc ha hcell hff=>
      cases (show VA _ w (.str v.2.1) v2 from h2) with
      |str _ b2 e2=>
       by_cases hne:v.1= []
       ·have hlen0:len=0:=by rw[hn,hne];rfl
        subst hlen0;refine(Any.strings_Join_none Tryz.lays156 bx156 ad cap b2 w).mono ?_;rintro e w' ⟨rfl,rfl⟩;refine⟨_,rfl,Go.RowKit.Below.refl _ _, ?_⟩;rw[hne];exact VA.str _ _ rfl
       ·obtain⟨rfl,hSb⟩:=ha hne
        obtain⟨xs,hxl,hxs,hxd⟩:=texts_of (w:=w) (bk:=bk) (of:=of) v.1 (fun i hi=>by
         have:=hcell i 0 hi (by decide);have h9:=hff i v.1[i] 0 (.str v.1[i]) (by simp [hi]) rfl;generalize f i 0=u at this h9;cases h9 with
         |str _ b e=>exact⟨b,by simpa [Ty.n] using this,e⟩)
        subst hn;have:=Any.strings_Join Tryz.lays156 bx156 bk of cap xs b2 w hxs (hS bk hSb) (by
         rw[hxl];omega) (by rw[hxl];exact hc) (by
         rw[hxd,e2];omega)
        rw[hxl] at this;refine this.mono ?_;rintro e w' ⟨rfl,hb⟩;refine⟨_,rfl,hb, ?_⟩;rw[hxd,e2];exact VA.str _ _ (by simp)
  ·cases hp
theorem ovl128:OvlOK Tryz.prog 128:=ovlOK_of Tryz.func128 (by kernel_rfl) (by kernel_rfl) (tS:=22) (tR:=4) (e:=36) (size:=6) (by kernel_rfl) (by kernel_rfl) (by kernel_rfl) Tryz.sizeOf36
theorem ovl130:OvlOK Tryz.prog 130:=ovlOK_of Tryz.func130 (by kernel_rfl) (by kernel_rfl) (tS:=34) (tR:=4) (e:=94) (size:=2) (by kernel_rfl) (by kernel_rfl) (by kernel_rfl) Tryz.sizeOf94
end Go.Eng
set_option linter.unusedVariables false
set_option maxRecDepth 100000
namespace Go.Eng
noncomputable section
open Go Go.Proofs
def qaaa:List (Nat×TI):=[(3,⟨false,1, .one (.int .i64 0), .int .i64⟩),(9,⟨false,1, .one (.str []), .str⟩),(34,⟨false,1, .one (.clip .entry []), .slice .entry 94⟩),(94,⟨true,2, .agg [.str [], .int .i64 0], .struct [(0,9),(1,3)]⟩),(155,⟨false,1, .one (.int .u64 0), .int .u64⟩)]
def qaab:List (Nat×List EK):= []
theorem qaac:Tryz.prog.follows .mixedOrders=true:=by kernel_rfl
theorem qaad:(qaaa.all fun x=>tiB Tryz.prog x.1 x.2)=true:=by kernel_rfl
theorem qaae:(qaab.all fun x=>eqB Tryz.prog x.1 x.2)=true:=by kernel_rfl
def qaaf:Code:=bd Tryz.f49
def qaag:Code:=bd Tryz.f51
def qaah:Code:=bd Tryz.f78
def qaai:Code:=bd Tryz.f79
def qaaj:Code:=bd Tryz.f82
def qaak:Code:=bd Tryz.f125
def qaal:Code:=bd Tryz.f126
def qaam:HS:=⟨[(0, .one (.sl .entry)),(1, .one (.str)),(2, .one (.fnc 126)),(8, .one (.int .i64)),(9, .one (.int .i64)),(10, .one (.int .i64))], [],0⟩
def qaan {R:Type}:Nat→HS.V qaam→(Ex→St→Option R)→Option R:=fun q v K=>
 entry_at_8_L3 v.1.1 v.1.2.1 (fun y11=>K (.exit 0) {regs:=[(0, .v (.one (.sl .entry v.1.1))),(1, .v (.one (.str v.1.2.1))),(2, .v (.one (.fnc 126))),(8, .v (.one (.int .i64 v.1.2.2.2.1))),(9, .v (.one (.int .i64 y11)))],mem:= [],nx:=0}) q v.1.2.2.2.2.1 v.1.2.2.2.2.2.1
def qaao:List HV:=[.one (.sl .entry), .one (.str)]
def qaap:List HV:=[.one (.int .i64), .one (.bool)]
def qaaq:HP.V qaao→(List Entry)×Str:=fun v=>(v.1,v.2.1)
def qaar:HX.V qaap→Int×Bool:=fun v=>(v.1,v.2)
def qaas:(Int×Bool)→HX.V qaap:=fun y=>(y.1,y.2)
def qaat:(List Entry)×Str→Option (Int×Bool):=fun x=>entry_at x.1 x.2
def qaau:Spec:=mkSpec qaao qaap qaaq qaas qaat
def qaav:Cfg:={T:=qaaa,spec:=[(127,strings_Compare_sp)],glob:=GlobL.G Tryz.prog,eqs:=qaab,N:=9,fuel:=64,fid:=126}
theorem qaaw:CfgOK Tryz.prog qaav:=cfgC qaad qaae ⟨strings_Compare_ok,trivial⟩
def qaax {R:Type}:Inl R:= .mk 126 qaav [] qaal Tryz.f126.results.toList []
def qaay:Cfg:={T:=qaaa,spec:=[(127,strings_Compare_sp)],glob:=GlobL.G Tryz.prog,eqs:=qaab,N:=9,fuel:=64,fid:=126}
theorem qaaz:CfgOK Tryz.prog qaay:=cfgC qaad qaae ⟨strings_Compare_ok,trivial⟩
def qaa0 {R:Type}:Inl R:= .mk 126 qaay [] qaal Tryz.f126.results.toList []
def qaa1 {R:Type}:List (Nat×Hd R):=[(3,hdOf qaam qaan)]
def qaa2 {R:Type}:List (Nat×Inl R):=[(30,qaax),(46,qaa0)]
def qaa3:Cfg:={T:=qaaa,glob:=GlobL.G Tryz.prog,eqs:=qaab,N:=49,fuel:=64,loops:=[(3,⟨[0,1,2,8,9,10], [], [],0, [], [], [], []⟩)],blocks:=[(0,⟨[0,1,2,8,9], [], [],0, [], [], [], []⟩)],fid:=125}
theorem qaa4:CfgOK Tryz.prog qaa3:=cfgC qaad qaae trivial
theorem qaa5 {R:Type}:SubsOK Tryz.prog (R:=R) 1 qaa2:=subsOK_0 Tryz.f126 qaaw (subsOK_0 Tryz.f126 qaaz (subsOK_nil _ _))
theorem qaa6 {R:Type}:LoopOK (R:=R) (hnd 1 qaa2) qaa3 qaa1 (sub [1,1,1,0,0,0] qaak) (HS.V qaam) (HS.st qaam) (HS.sh qaam) qaan (hdOf qaam qaan):=loopOK_of qaam qaan (fun _ _=>rfl) (by intro q v K;kernel_rfl)
theorem qaa7 {R:Type}:LoopsOK (R:=R) (hnd 1 qaa2) qaa3 qaa1 qaak:=loopsOK_of (l:=[sub [1,1,1,0,0,0] qaak]) (by kernel_rfl) (loopsL_cons (b:=sub [1,1,1,0,0,0] qaak) (rid:=3) (by kernel_rfl) (by kernel_rfl) qaa6 (trivial))
def qaa8 {R:Type}:Inl R:= .mk 125 qaa3 qaa1 qaak Tryz.f125.results.toList qaa2
def qaa9 {R:Type}:List (Nat×Hd R):= []
def qaba {R:Type}:List (Nat×Inl R):=[(8,qaa8)]
def qabb:Cfg:={T:=qaaa,glob:=GlobL.G Tryz.prog,eqs:=qaab,N:=11,fuel:=64,fid:=78}
theorem qabc:CfgOK Tryz.prog qabb:=cfgC qaad qaae trivial
theorem qabd {R:Type}:SubsOK Tryz.prog (R:=R) 2 qaba:=subsOK_a Tryz.f125 qaa4 qaa7 (rngs0 (by kernel_rfl)) qaa5 (subsOK_nil _ _)
theorem qabe {R:Type}:LoopsOK (R:=R) (hnd 2 qaba) qabb qaa9 qaah:=loopsOK_of (l:= []) (by kernel_rfl) (trivial)
theorem qabf:SpecOK Tryz.prog 78 qaau:=specOK_a Tryz.f78 qabc qaac (d:=2) qabd qabe (rngs0 (by kernel_rfl)) (toY:=qaar)
def qabg:List HV:=[.one (.sl .entry), .one (.str)]
def qabh:List HV:=[.one (.sl .entry)]
def qabi:HP.V qabg→(List Entry)×Str:=fun v=>(v.1,v.2.1)
def qabj:HX.V qabh→(List Entry):=fun v=>(v)
def qabk:(List Entry)→HX.V qabh:=fun y=>(y)
def qabl:(List Entry)×Str→Option ((List Entry)):=fun x=>entry_Without x.1 x.2
def qabm:Spec:=mkSpec qabg qabh qabi qabk qabl
def qabn:Cfg:={T:=qaaa,spec:=[(78,qaau)],glob:=GlobL.G Tryz.prog,eqs:=qaab,N:=8,fuel:=64,fid:=79}
theorem qabo:CfgOK Tryz.prog qabn:=cfgC qaad qaae ⟨qabf,trivial⟩
def qabp {R:Type}:Inl R:= .mk 79 qabn [] qaai Tryz.f79.results.toList []
def qabq {R:Type}:List (Nat×Hd R):= []
def qabr {R:Type}:List (Nat×Inl R):=[(17,qabp)]
def qabs:Cfg:={T:=qaaa,spec:=[(78,qaau)],glob:=GlobL.G Tryz.prog,eqs:=qaab,N:=35,fuel:=64,fid:=49}
theorem qabt:CfgOK Tryz.prog qabs:=cfgC qaad qaae ⟨qabf,trivial⟩
theorem qabu {R:Type}:SubsOK Tryz.prog (R:=R) 1 qabr:=subsOK_0 Tryz.f79 qabo (subsOK_nil _ _)
theorem qabv {R:Type}:LoopsOK (R:=R) (hnd 1 qabr) qabs qabq qaaf:=loopsOK_of (l:= []) (by kernel_rfl) (trivial)
theorem qabw:SpecOK Tryz.prog 49 qabm:=specOK_a Tryz.f49 qabt qaac (d:=1) qabu qabv (rngs0 (by kernel_rfl)) (toY:=qabj)
def qabx:List HV:=[.one (.sl .entry), .one (.str), .one (.int .i64)]
def qaby:List HV:=[.one (.sl .entry)]
def qabz:HP.V qabx→(List Entry)×Str×Int:=fun v=>(v.1,v.2.1,v.2.2.1)
def qab0:HX.V qaby→(List Entry):=fun v=>(v)
def qab1:(List Entry)→HX.V qaby:=fun y=>(y)
def qab2:(List Entry)×Str×Int→Option ((List Entry)):=fun x=>entry_With x.1 x.2.1 x.2.2
def qab3:Spec:=mkSpec qabx qaby qabz qab1 qab2
def qab4:Cfg:={T:=qaaa,spec:=[(78,qaau)],glob:=GlobL.G Tryz.prog,eqs:=qaab,N:=8,fuel:=64,ovl:=[130],fid:=79}
theorem qab5:CfgOK Tryz.prog qab4:=cfgC qaad qaae ⟨qabf,trivial⟩ (ov:=⟨ovl130,trivial⟩)
def qab6 {R:Type}:Inl R:= .mk 79 qab4 [] qaai Tryz.f79.results.toList []
def qab7:Cfg:={T:=qaaa,spec:=[(78,qaau)],glob:=GlobL.G Tryz.prog,eqs:=qaab,N:=95,fuel:=64,ovl:=[130],fid:=82}
theorem qab8:CfgOK Tryz.prog qab7:=cfgC qaad qaae ⟨qabf,trivial⟩ (ov:=⟨ovl130,trivial⟩)
def qab9 {R:Type}:Inl R:= .mk 82 qab7 [] qaaj Tryz.f82.results.toList []
def qaca {R:Type}:List (Nat×Hd R):= []
def qacb {R:Type}:List (Nat×Inl R):=[(17,qab6),(31,qab9)]
def qacc:Cfg:={T:=qaaa,spec:=[(78,qaau)],glob:=GlobL.G Tryz.prog,eqs:=qaab,N:=32,fuel:=64,ovl:=[130],fid:=51}
theorem qacd:CfgOK Tryz.prog qacc:=cfgC qaad qaae ⟨qabf,trivial⟩ (ov:=⟨ovl130,trivial⟩)
theorem qace {R:Type}:SubsOK Tryz.prog (R:=R) 1 qacb:=subsOK_0 Tryz.f79 qab5 (subsOK_0 Tryz.f82 qab8 (subsOK_nil _ _))
theorem qacf {R:Type}:LoopsOK (R:=R) (hnd 1 qacb) qacc qaca qaag:=loopsOK_of (l:= []) (by kernel_rfl) (trivial)
theorem qacg:SpecOK Tryz.prog 51 qab3:=specOK_a Tryz.f51 qacd qaac (d:=1) qace qacf (rngs0 (by kernel_rfl)) (toY:=qab0)
def qach:List HV:=[.one (.sl .entry), .one (.str)]
def qaci:List HV:=[.one (.int .i64), .one (.bool)]
def qacj:HP.V qach→(List Entry)×Str:=fun v=>(v.1,v.2.1)
def qack:HX.V qaci→Int×Bool:=fun v=>(v.1,v.2)
def qacl:(Int×Bool)→HX.V qaci:=fun y=>(y.1,y.2)
def qacm:(List Entry)×Str→Option (Int×Bool):=fun x=>entry_Find x.1 x.2
def qacn:Spec:=mkSpec qach qaci qacj qacl qacm
def qaco:Cfg:={T:=qaaa,spec:=[(78,qaau)],glob:=GlobL.G Tryz.prog,eqs:=qaab,N:=21,fuel:=64,fid:=112}
theorem qacp:CfgOK Tryz.prog qaco:=cfgC qaad qaae ⟨qabf,trivial⟩
theorem qacq:SpecOK Tryz.prog 112 qacn:=specOK_0 Tryz.f112 qacp qaac (toY:=qack)
end
end Go.Eng
set_option linter.unusedVariables false
set_option maxRecDepth 100000
namespace Go.Eng
noncomputable section
open Go Go.Proofs
def qacr:List (Nat×TI):=[(3,⟨false,1, .one (.int .i64 0), .int .i64⟩),(4,⟨false,1, .one (.bool false), .bool⟩),(5,⟨false,1, .one (.int .u8 0), .int .u8⟩),(9,⟨false,1, .one (.str []), .str⟩),(21,⟨false,1, .one (.int .i32 0), .int .i32⟩),(46,⟨false,1, .one (.clip .str []), .slice .str 9⟩),(79,⟨true,3, .agg [.bool false, .clip .str [], .bool false], .struct [(0,4),(1,46),(2,4)]⟩),(81,⟨false,1, .one (.nilf), .other⟩),(168,⟨true,256, .agg [.bool false, .bool false, .bool false, .bool false, .bool false, .bool false, .bool false, .bool false, .bool false, .bool false, .bool false, .bool false, .bool false, .bool false, .bool false, .bool false, .bool false, .bool false, .bool false, .bool false, .bool false, .bool false, .bool false, .bool false, .bool false, .bool false, .bool false, .bool false, .bool false, .bool false, .bool false, .bool false, .bool false, .bool false, .bool false, .bool false, .bool false, .bool false, .bool false, .bool false, .bool false, .bool false, .bool false, .bool false, .bool false, .bool false, .bool false, .bool false, .bool false, .bool false, .bool false, .bool false, .bool false, .bool false, .bool false, .bool false, .bool false, .bool false, .bool false, .bool false, .bool false, .bool false, .bool false, .bool false, .bool false, .bool false, .bool false, .bool false, .bool false, .bool false, .bool false, .bool false, .bool false, .bool false, .bool false, .bool false, .bool false, .bool false, .bool false, .bool false, .bool false, .bool false, .bool false, .bool false, .bool false, .bool false, .bool false, .bool false, .bool false, .bool false, .bool false, .bool false, .bool false, .bool false, .bool false, .bool false, .bool false, .bool false, .bool false, .bool false, .bool false, .bool false, .bool false, .bool false, .bool false, .bool false, .bool false, .bool false, .bool false, .bool false, .bool false, .bool false, .bool false, .bool false, .bool false, .bool false, .bool false, .bool false, .bool false, .bool false, .bool false, .bool false, .bool false, .bool false, .bool false, .bool false, .bool false, .bool false, .bool false, .bool false, .bool false, .bool false, .bool false, .bool false, .bool false, .bool false, .bool false, .bool false, .bool false, .bool false, .bool false, .bool false, .bool false, .bool false, .bool false, .bool false, .bool false, .bool false, .bool false, .bool false, .bool false, .bool false, .bool false, .bool false, .bool false, .bool false, .bool false, .bool false, .bool false, .bool false, .bool false, .bool false, .bool false, .bool false, .bool false, .bool false, .bool false, .bool false, .bool false, .bool false, .bool false, .bool false, .bool false, .bool false, .bool false, .bool false, .bool false, .bool false, .bool false, .bool false, .bool false, .bool false, .bool false, .bool false, .bool false, .bool false, .bool false, .bool false, .bool false, .bool false, .bool false, .bool false, .bool false, .bool false, .bool false, .bool false, .bool false, .bool false, .bool false, .bool false, .bool false, .bool false, .bool false, .bool false, .bool false, .bool false, .bool false, .bool false, .bool false, .bool false, .bool false, .bool false, .bool false, .bool false, .bool false, .bool false, .bool false, .bool false, .bool false, .bool false, .bool false, .bool false, .bool false, .bool false, .bool false, .bool false, .bool false, .bool false, .bool false, .bool false, .bool false, .bool false, .bool false, .bool false, .bool false, .bool false, .bool false, .bool false, .bool false, .bool false, .bool false, .bool false, .bool false, .bool false, .bool false, .bool false, .bool false, .bool false, .bool false, .bool false, .bool false, .bool false, .bool false, .bool false, .bool false, .bool false], .array 256 4⟩)]
def qacs:List (Nat×List EK):= []
theorem qact:Tryz.prog.follows .mixedOrders=true:=by kernel_rfl
theorem qacu:(qacr.all fun x=>tiB Tryz.prog x.1 x.2)=true:=by kernel_rfl
theorem qacv:(qacs.all fun x=>eqB Tryz.prog x.1 x.2)=true:=by kernel_rfl
def qacw:Code:=bd Tryz.f71
def qacx:Code:=bd Tryz.f110
def qacy:Code:=bd Tryz.f118
def qacz:Code:=bd Tryz.f119
def qac0:Code:=bd Tryz.f120
def qac1:Code:=bd Tryz.f121
def qac2:Code:=bd Tryz.f122
def qac3:Code:=bd Tryz.f150
def qac4:Code:=bd Tryz.f151
def qac5:Code:=bd Tryz.f152
def qac6:Code:=bd Tryz.f153
def qac7:Code:=bd Tryz.f154
def qac8:Code:=bd Tryz.f155
def qac9:Code:=bd Tryz.f163
def qada:Code:=bd Tryz.f166
def qadb:Code:=bd Tryz.f167
def qadc:Code:=bd Tryz.f168
def qadd:Code:=bd Tryz.f169
def qade:Code:=bd Tryz.f170
def qadf:Code:=bd Tryz.f176
def qadg:Code:=bd Tryz.f177
def qadh:Code:=bd Tryz.f178
def qadi:Code:=bd Tryz.f180
def qadj:Code:=bd Tryz.f181
def qadk:Code:=bd Tryz.f187
def qadl:Code:=bd Tryz.f188
def qadm:Code:=bd Tryz.f193
def qadn:HS:=⟨[(0, .one (.yld 10)),(1, .one (.ptr 7 0)),(2, .one (.ptr 6 0)),(3, .one (.ptr 8 0)),(2000002, .one (.ptr 3 0)),(4000000, .one (.str)),(4000002, .one (.ptr 0 0))],[(0, .cells [.bool, .sl .str, .bool]),(3, .cells [.own 11]),(4, .loop true 13 150 3 [(2, .one (.ptr 3 0))]),(5, .cells [.yld 4]),(6, .cells [.str]),(7, .cells [.strk ([47]:Str)]),(8, .cells [.intk .i64 (0:Int)]),(10, .loop true 15 151 3 [(2, .one (.ptr 5 0))]),(11, .row .str)],12⟩
def qado {R:Type}:Nat→HS.V qadn→(Ex→St→Option R)→Option R:=fun q v K=>
 path_Read_6_4_1000003_1000003_L5 (fun y8 y9=>K (.exit 2) {regs:=[(0, .v (.one (.yld 10))),(2, .v (.one (.ptr 6 0))),(2000002, .v (.one (.ptr 3 0))),(4000000, .v (.one (.str v.1.2.2.2.2.2.1))),(4000002, .v (.one (.ptr 0 0)))],mem:=[(0, .cells [.bool ((⟨v.2.1.1,v.2.1.2.1,v.2.1.2.2.1⟩:Pth).abs), .sl .str ((⟨v.2.1.1,v.2.1.2.1,v.2.1.2.2.1⟩:Pth).names), .bool ((⟨v.2.1.1,v.2.1.2.1,v.2.1.2.2.1⟩:Pth).slash)]),(3, .cells [.own 11]),(4, .loop true 13 150 3 [(2, .v (.one (.ptr 3 0)))]),(5, .cells [.yld 4]),(6, .cells [.str y8]),(10, .loop true 15 151 3 [(2, .v (.one (.ptr 5 0)))]),(11, .row .str y9)],nx:=12}) q v.2.2.2.2.2.1.1 v.2.2.2.2.2.2.2.2.2.1
def qadp:List HV:=[.one (.str)]
def qadq:List HV:=[.agg [.bool, .sl .str, .bool]]
def qadr:HP.V qadp→Str:=fun v=>(v.1)
def qads:HX.V qadq→Pth:=fun v=>((⟨v.1,v.2.1,v.2.2.1⟩:Pth))
def qadt:Pth→HX.V qadq:=fun y=>((y.abs,(y.names,(y.slash,()))))
def qadu:Str→Option (Pth):=fun x=>path_Read x
def qadv:Spec:=mkSpec qadp qadq qadr qadt qadu
def qadw:Cfg:={T:=qacr,glob:=GlobL.G Tryz.prog,eqs:=qacs,N:=4,fuel:=64,fid:=119}
theorem qadx:CfgOK Tryz.prog qadw:=cfgC qacu qacv trivial
def qady {R:Type}:Inl R:= .mk 119 qadw [] qacz Tryz.f119.results.toList []
def qadz:Cfg:={T:=qacr,glob:=GlobL.G Tryz.prog,eqs:=qacs,N:=8,fuel:=64,fid:=166}
theorem qad0:CfgOK Tryz.prog qadz:=cfgC qacu qacv trivial
def qad1 {R:Type}:Inl R:= .mk 166 qadz [] qada Tryz.f166.results.toList []
def qad2 {R:Type}:List (Nat×Hd R):= []
def qad3 {R:Type}:List (Nat×Inl R):=[(7,qad1)]
def qad4:Cfg:={T:=qacr,glob:=GlobL.G Tryz.prog,eqs:=qacs,N:=8,fuel:=64,fid:=152}
theorem qad5:CfgOK Tryz.prog qad4:=cfgC qacu qacv trivial
theorem qad6 {R:Type}:SubsOK Tryz.prog (R:=R) 2 qad3:=subsOK_0 Tryz.f166 qad0 (subsOK_nil _ _)
theorem qad7 {R:Type}:LoopsOK (R:=R) (hnd 2 qad3) qad4 qad2 qac5:=loopsOK_of (l:= []) (by kernel_rfl) (trivial)
def qad8 {R:Type}:Inl R:= .mk 152 qad4 qad2 qac5 Tryz.f152.results.toList qad3
def qad9 {R:Type}:List (Nat×Hd R):= []
def qaea {R:Type}:List (Nat×Inl R):= []
def qaeb:Cfg:={T:=qacr,spec:=[(184,stringslite_IndexByte_sp)],glob:=GlobL.G Tryz.prog,eqs:=qacs,N:=143,fuel:=64,retA:=some ⟨[4,2000000,2000001,2000002,2000003,4000002,6000000,6000002], [],[0,3,4,5,6,7,8,10,11],12, [], [], [], []⟩,fid:=176}
theorem qaec:CfgOK Tryz.prog qaeb:=cfgC qacu qacv ⟨stringslite_IndexByte_ok,trivial⟩
theorem qaed {R:Type}:SubsOK Tryz.prog (R:=R) 0 qaea:=subsOK_nil _ _
theorem qaee {R:Type}:LoopsOK (R:=R) (hnd 0 qaea) qaeb qad9 qadf:=loopsOK_of (l:=[sub [1,1,1,1,1,1,1,1,0,0,0] qadf]) (by kernel_rfl) (loopsL_skip (b:=sub [1,1,1,1,1,1,1,1,0,0,0] qadf) (rid:=15) (by kernel_rfl) (by kernel_rfl) (trivial))
def qaef {R:Type}:Inl R:= .mk 176 qaeb qad9 qadf Tryz.f176.results.toList qaea
def qaeg {R:Type}:List (Nat×Hd R):= []
def qaeh {R:Type}:List (Nat×Inl R):=[(7,qaef)]
def qaei:Cfg:={T:=qacr,glob:=GlobL.G Tryz.prog,eqs:=qacs,N:=8,fuel:=64,fid:=163}
theorem qaej:CfgOK Tryz.prog qaei:=cfgC qacu qacv trivial
theorem qaek {R:Type}:SubsOK Tryz.prog (R:=R) 1 qaeh:=subsOK_a Tryz.f176 qaec qaee (rngs0 (by kernel_rfl)) qaed (subsOK_nil _ _)
theorem qael {R:Type}:LoopsOK (R:=R) (hnd 1 qaeh) qaei qaeg qac9:=loopsOK_of (l:= []) (by kernel_rfl) (trivial)
def qaem {R:Type}:Inl R:= .mk 163 qaei qaeg qac9 Tryz.f163.results.toList qaeh
def qaen:Code:=(rngGet 3 qac3).2.1
def qaeo:Code:=(rngGet 3 qac3).2.2
def qaep {R:Type}:List (Nat×Hd R):= []
def qaeq {R:Type}:List (Nat×Inl R):= []
def qaer:Cfg:={T:=qacr,glob:=GlobL.G Tryz.prog,eqs:=qacs,N:=13,fuel:=64,fid:=150,rnd:=true}
theorem qaes:CfgOK Tryz.prog qaer:=cfgC qacu qacv trivial
theorem qaet {R:Type}:SubsOK Tryz.prog (R:=R) 0 qaeq:=subsOK_nil _ _
theorem qaeu {R:Type}:LoopsOK (R:=R) (hnd 0 qaeq) qaer qaep qaen:=loopsOK_of (l:= []) (by kernel_rfl) (trivial)
theorem qaev {R:Type}:LoopsOK (R:=R) (hnd 0 qaeq) qaer qaep qaeo:=loopsOK_of (l:= []) (by kernel_rfl) (trivial)
def qaew {R:Type}:Inl R:= .rnd 150 3 qaer qaep [7] qaen qaeo qaeq
def qaex:Code:=(rngGet 3 qac4).2.1
def qaey:Code:=(rngGet 3 qac4).2.2
def qaez {R:Type}:List (Nat×Hd R):= []
def qae0 {R:Type}:List (Nat×Inl R):=[(12,qaew)]
def qae1:Cfg:={T:=qacr,glob:=GlobL.G Tryz.prog,eqs:=qacs,N:=15,fuel:=64,fid:=151,rnd:=true}
theorem qae2:CfgOK Tryz.prog qae1:=cfgC qacu qacv trivial
theorem qae3 {R:Type}:SubsOK Tryz.prog (R:=R) 1 qae0:=subsOK_round (by kernel_rfl) qaes qaeu qaev qaet (subsOK_nil _ _)
theorem qae4 {R:Type}:LoopsOK (R:=R) (hnd 1 qae0) qae1 qaez qaex:=loopsOK_of (l:= []) (by kernel_rfl) (trivial)
theorem qae5 {R:Type}:LoopsOK (R:=R) (hnd 1 qae0) qae1 qaez qaey:=loopsOK_of (l:= []) (by kernel_rfl) (trivial)
def qae6 {R:Type}:Inl R:= .rnd 151 3 qae1 qaez [6] qaex qaey qae0
def qae7:Code:=(rngGet 3 qac3).2.1
def qae8:Code:=(rngGet 3 qac3).2.2
def qae9 {R:Type}:List (Nat×Hd R):= []
def qafa {R:Type}:List (Nat×Inl R):= []
def qafb:Cfg:={T:=qacr,glob:=GlobL.G Tryz.prog,eqs:=qacs,N:=13,fuel:=64,fid:=150,rnd:=true}
theorem qafc:CfgOK Tryz.prog qafb:=cfgC qacu qacv trivial
theorem qafd {R:Type}:SubsOK Tryz.prog (R:=R) 0 qafa:=subsOK_nil _ _
theorem qafe {R:Type}:LoopsOK (R:=R) (hnd 0 qafa) qafb qae9 qae7:=loopsOK_of (l:= []) (by kernel_rfl) (trivial)
theorem qaff {R:Type}:LoopsOK (R:=R) (hnd 0 qafa) qafb qae9 qae8:=loopsOK_of (l:= []) (by kernel_rfl) (trivial)
def qafg {R:Type}:Inl R:= .rnd 150 3 qafb qae9 [7] qae7 qae8 qafa
def qafh:Code:=(rngGet 3 qac4).2.1
def qafi:Code:=(rngGet 3 qac4).2.2
def qafj {R:Type}:List (Nat×Hd R):= []
def qafk {R:Type}:List (Nat×Inl R):=[(12,qafg)]
def qafl:Cfg:={T:=qacr,glob:=GlobL.G Tryz.prog,eqs:=qacs,N:=15,fuel:=64,fid:=151,rnd:=true}
theorem qafm:CfgOK Tryz.prog qafl:=cfgC qacu qacv trivial
theorem qafn {R:Type}:SubsOK Tryz.prog (R:=R) 1 qafk:=subsOK_round (by kernel_rfl) qafc qafe qaff qafd (subsOK_nil _ _)
theorem qafo {R:Type}:LoopsOK (R:=R) (hnd 1 qafk) qafl qafj qafh:=loopsOK_of (l:= []) (by kernel_rfl) (trivial)
theorem qafp {R:Type}:LoopsOK (R:=R) (hnd 1 qafk) qafl qafj qafi:=loopsOK_of (l:= []) (by kernel_rfl) (trivial)
def qafq {R:Type}:Inl R:= .rnd 151 3 qafl qafj [6] qafh qafi qafk
def qafr {R:Type}:List (Nat×Hd R):=[(5,hdOf qadn qado)]
def qafs {R:Type}:List (Nat×Inl R):=[(31,qaem),(41,qae6),(51,qafq)]
def qaft:Cfg:={T:=qacr,glob:=GlobL.G Tryz.prog,eqs:=qacs,N:=52,fuel:=64,loops:=[(5,⟨[0,1,2,3,2000002,4000000,4000002], [],[0,3,4,5,6,7,8,10,11],12, [],[0],[(3,0,11, .str)], []⟩)],blocks:=[(2,⟨[0,2,2000002,4000000,4000002], [],[0,3,4,5,6,10,11],12, [], [], [], []⟩)],fid:=178}
theorem qafu:CfgOK Tryz.prog qaft:=cfgC qacu qacv trivial
theorem qafv {R:Type}:SubsOK Tryz.prog (R:=R) 2 qafs:=subsOK_a Tryz.f163 qaej qael (rngs0 (by kernel_rfl)) qaek (subsOK_round (by kernel_rfl) qae2 qae4 qae5 qae3 (subsOK_round (by kernel_rfl) qafm qafo qafp qafn (subsOK_nil _ _)))
theorem qafw {R:Type}:LoopOK (R:=R) (hnd 2 qafs) qaft qafr (sub [1,0,0,0] qadh) (HS.V qadn) (HS.st qadn) (HS.sh qadn) qado (hdOf qadn qado):=loopOK_of qadn qado (fun _ _=>rfl) (by intro q v K;kernel_rfl)
theorem qafx {R:Type}:LoopsOK (R:=R) (hnd 2 qafs) qaft qafr qadh:=loopsOK_of (l:=[sub [0,1,0,0,0,0] qadh,sub [1,0,0,0] qadh]) (by kernel_rfl) (loopsL_skip (b:=sub [0,1,0,0,0,0] qadh) (rid:=1) (by kernel_rfl) (by kernel_rfl) (loopsL_cons (b:=sub [1,0,0,0] qadh) (rid:=5) (by kernel_rfl) (by kernel_rfl) qafw (trivial)))
def qafy {R:Type}:Inl R:= .mk 178 qaft qafr qadh Tryz.f178.results.toList qafs
def qafz {R:Type}:List (Nat×Hd R):= []
def qaf0 {R:Type}:List (Nat×Inl R):=[(5,qad8),(1000003,qafy)]
def qaf1:Cfg:={T:=qacr,glob:=GlobL.G Tryz.prog,eqs:=qacs,N:=15,fuel:=64,fid:=151,saves:=[(3,[2])]}
theorem qaf2:CfgOK Tryz.prog qaf1:=cfgC qacu qacv trivial
theorem qaf3 {R:Type}:SubsOK Tryz.prog (R:=R) 3 qaf0:=subsOK_a Tryz.f152 qad5 qad7 (rngs0 (by kernel_rfl)) qad6 (subsOK_a Tryz.f178 qafu qafx (rngs0 (by kernel_rfl)) qafv (subsOK_nil _ _))
theorem qaf4 {R:Type}:LoopsOK (R:=R) (hnd 3 qaf0) qaf1 qafz qac4:=loopsOK_of (l:= []) (by kernel_rfl) (trivial)
theorem qaf5:RngsOK Tryz.prog qaf1 qac4:=rngs1 (x:=rngGet 3 qac4) (by kernel_rfl) (by kernel_rfl)
def qaf6 {R:Type}:Inl R:= .mk 151 qaf1 qafz qac4 Tryz.f151.results.toList qaf0
def qaf7 {R:Type}:List (Nat×Hd R):= []
def qaf8 {R:Type}:List (Nat×Inl R):=[(1000003,qaf6)]
def qaf9:Cfg:={T:=qacr,glob:=GlobL.G Tryz.prog,eqs:=qacs,N:=13,fuel:=64,fid:=150,saves:=[(3,[2])]}
theorem qaga:CfgOK Tryz.prog qaf9:=cfgC qacu qacv trivial
theorem qagb {R:Type}:SubsOK Tryz.prog (R:=R) 4 qaf8:=subsOK_a Tryz.f151 qaf2 qaf4 qaf5 qaf3 (subsOK_nil _ _)
theorem qagc {R:Type}:LoopsOK (R:=R) (hnd 4 qaf8) qaf9 qaf7 qac3:=loopsOK_of (l:= []) (by kernel_rfl) (trivial)
theorem qagd:RngsOK Tryz.prog qaf9 qac3:=rngs1 (x:=rngGet 3 qac3) (by kernel_rfl) (by kernel_rfl)
def qage {R:Type}:Inl R:= .mk 150 qaf9 qaf7 qac3 Tryz.f150.results.toList qaf8
def qagf {R:Type}:List (Nat×Hd R):= []
def qagg {R:Type}:List (Nat×Inl R):=[(4,qage)]
def qagh:Cfg:={T:=qacr,glob:=GlobL.G Tryz.prog,eqs:=qacs,N:=5,fuel:=64,fid:=118}
theorem qagi:CfgOK Tryz.prog qagh:=cfgC qacu qacv trivial
theorem qagj {R:Type}:SubsOK Tryz.prog (R:=R) 5 qagg:=subsOK_a Tryz.f150 qaga qagc qagd qagb (subsOK_nil _ _)
theorem qagk {R:Type}:LoopsOK (R:=R) (hnd 5 qagg) qagh qagf qacy:=loopsOK_of (l:= []) (by kernel_rfl) (trivial)
def qagl {R:Type}:Inl R:= .mk 118 qagh qagf qacy Tryz.f118.results.toList qagg
def qagm:Cfg:={T:=qacr,glob:=GlobL.G Tryz.prog,eqs:=qacs,N:=18,fuel:=64,fid:=153}
theorem qagn:CfgOK Tryz.prog qagm:=cfgC qacu qacv trivial
def qago {R:Type}:Inl R:= .mk 153 qagm [] qac6 Tryz.f153.results.toList []
def qagp {R:Type}:List (Nat×Hd R):= []
def qagq {R:Type}:List (Nat×Inl R):=[(7,qago)]
def qagr:Cfg:={T:=qacr,glob:=GlobL.G Tryz.prog,eqs:=qacs,N:=8,fuel:=64,fid:=120}
theorem qags:CfgOK Tryz.prog qagr:=cfgC qacu qacv trivial
theorem qagt {R:Type}:SubsOK Tryz.prog (R:=R) 5 qagq:=subsOK_0 Tryz.f153 qagn (subsOK_nil _ _)
theorem qagu {R:Type}:LoopsOK (R:=R) (hnd 5 qagq) qagr qagp qac0:=loopsOK_of (l:= []) (by kernel_rfl) (trivial)
def qagv {R:Type}:Inl R:= .mk 120 qagr qagp qac0 Tryz.f120.results.toList qagq
def qagw:Cfg:={T:=qacr,glob:=GlobL.G Tryz.prog,eqs:=qacs,N:=21,fuel:=64,fid:=154}
theorem qagx:CfgOK Tryz.prog qagw:=cfgC qacu qacv trivial
def qagy {R:Type}:Inl R:= .mk 154 qagw [] qac7 Tryz.f154.results.toList []
def qagz {R:Type}:List (Nat×Hd R):= []
def qag0 {R:Type}:List (Nat×Inl R):=[(7,qagy)]
def qag1:Cfg:={T:=qacr,glob:=GlobL.G Tryz.prog,eqs:=qacs,N:=8,fuel:=64,fid:=121}
theorem qag2:CfgOK Tryz.prog qag1:=cfgC qacu qacv trivial
theorem qag3 {R:Type}:SubsOK Tryz.prog (R:=R) 5 qag0:=subsOK_0 Tryz.f154 qagx (subsOK_nil _ _)
theorem qag4 {R:Type}:LoopsOK (R:=R) (hnd 5 qag0) qag1 qagz qac1:=loopsOK_of (l:= []) (by kernel_rfl) (trivial)
def qag5 {R:Type}:Inl R:= .mk 121 qag1 qagz qac1 Tryz.f121.results.toList qag0
def qag6 {R:Type}:List (Nat×Hd R):= []
def qag7 {R:Type}:List (Nat×Inl R):=[(5,qady),(6,qagl),(8,qagv),(15,qag5)]
def qag8:Cfg:={T:=qacr,glob:=GlobL.G Tryz.prog,eqs:=qacs,N:=18,fuel:=64,fid:=71}
theorem qag9:CfgOK Tryz.prog qag8:=cfgC qacu qacv trivial
theorem qaha {R:Type}:SubsOK Tryz.prog (R:=R) 6 qag7:=subsOK_0 Tryz.f119 qadx (subsOK_a Tryz.f118 qagi qagk (rngs0 (by kernel_rfl)) qagj (subsOK_a Tryz.f120 qags qagu (rngs0 (by kernel_rfl)) qagt (subsOK_a Tryz.f121 qag2 qag4 (rngs0 (by kernel_rfl)) qag3 (subsOK_nil _ _))))
theorem qahb {R:Type}:LoopsOK (R:=R) (hnd 6 qag7) qag8 qag6 qacw:=loopsOK_of (l:= []) (by kernel_rfl) (trivial)
theorem qahc:SpecOK Tryz.prog 71 qadv:=specOK_a Tryz.f71 qag9 qact (d:=6) qaha qahb (rngs0 (by kernel_rfl)) (toY:=qads)
def qahd:HS:=⟨[(0, .one (.yld 9)),(1, .one (.ptr 6 0)),(2, .one (.ptr 5 0)),(3, .one (.ptr 7 0)),(2000000, .one (.str)),(2000002, .one (.ptr 0 0))],[(0, .cells [.boolk false]),(3, .loop true 13 110 3 [(2, .one (.ptr 0 0))]),(4, .cells [.yld 3]),(5, .cells [.str]),(6, .cells [.strk ([47]:Str)]),(7, .cells [.intk .i64 (0:Int)]),(9, .loop true 15 151 3 [(2, .one (.ptr 4 0))])],10⟩
def qahe {R:Type}:Nat→HS.V qahd→(Ex→St→Option R)→Option R:=fun q v K=>
 path_Long_1000003_1000003_L5 (K .ret {regs:=[(2000000, .v (.one (.str v.1.2.2.2.2.1))),(2000002, .v (.one (.ptr 0 0)))],mem:=[(0, .cells [.bool true]),(3, .over .ret),(9, .over .ret)],nx:=10}) (fun y8=>K (.exit 2) {regs:=[(0, .v (.one (.yld 9))),(2, .v (.one (.ptr 5 0))),(2000000, .v (.one (.str v.1.2.2.2.2.1))),(2000002, .v (.one (.ptr 0 0)))],mem:=[(0, .cells [.bool false]),(3, .loop true 13 110 3 [(2, .v (.one (.ptr 0 0)))]),(4, .cells [.yld 3]),(5, .cells [.str y8]),(9, .loop true 15 151 3 [(2, .v (.one (.ptr 4 0)))])],nx:=10}) q v.2.2.2.2.1.1
def qahf:List HV:=[.one (.str)]
def qahg:List HV:=[.one (.bool)]
def qahh:HP.V qahf→Str:=fun v=>(v.1)
def qahi:HX.V qahg→Bool:=fun v=>(v)
def qahj:Bool→HX.V qahg:=fun y=>(y)
def qahk:Str→Option (Bool):=fun x=>path_Long x
def qahl:Spec:=mkSpec qahf qahg qahh qahj qahk
def qahm:Cfg:={T:=qacr,glob:=GlobL.G Tryz.prog,eqs:=qacs,N:=4,fuel:=64,fid:=119}
theorem qahn:CfgOK Tryz.prog qahm:=cfgC qacu qacv trivial
def qaho {R:Type}:Inl R:= .mk 119 qahm [] qacz Tryz.f119.results.toList []
def qahp:Cfg:={T:=qacr,glob:=GlobL.G Tryz.prog,eqs:=qacs,N:=8,fuel:=64,fid:=166}
theorem qahq:CfgOK Tryz.prog qahp:=cfgC qacu qacv trivial
def qahr {R:Type}:Inl R:= .mk 166 qahp [] qada Tryz.f166.results.toList []
def qahs {R:Type}:List (Nat×Hd R):= []
def qaht {R:Type}:List (Nat×Inl R):=[(7,qahr)]
def qahu:Cfg:={T:=qacr,glob:=GlobL.G Tryz.prog,eqs:=qacs,N:=8,fuel:=64,fid:=152}
theorem qahv:CfgOK Tryz.prog qahu:=cfgC qacu qacv trivial
theorem qahw {R:Type}:SubsOK Tryz.prog (R:=R) 2 qaht:=subsOK_0 Tryz.f166 qahq (subsOK_nil _ _)
theorem qahx {R:Type}:LoopsOK (R:=R) (hnd 2 qaht) qahu qahs qac5:=loopsOK_of (l:= []) (by kernel_rfl) (trivial)
def qahy {R:Type}:Inl R:= .mk 152 qahu qahs qac5 Tryz.f152.results.toList qaht
def qahz {R:Type}:List (Nat×Hd R):= []
def qah0 {R:Type}:List (Nat×Inl R):= []
def qah1:Cfg:={T:=qacr,spec:=[(184,stringslite_IndexByte_sp)],glob:=GlobL.G Tryz.prog,eqs:=qacs,N:=143,fuel:=64,retA:=some ⟨[4,2000000,2000001,2000002,2000003,4000000,4000002], [],[0,3,4,5,6,7,9],10, [], [], [], []⟩,fid:=176}
theorem qah2:CfgOK Tryz.prog qah1:=cfgC qacu qacv ⟨stringslite_IndexByte_ok,trivial⟩
theorem qah3 {R:Type}:SubsOK Tryz.prog (R:=R) 0 qah0:=subsOK_nil _ _
theorem qah4 {R:Type}:LoopsOK (R:=R) (hnd 0 qah0) qah1 qahz qadf:=loopsOK_of (l:=[sub [1,1,1,1,1,1,1,1,0,0,0] qadf]) (by kernel_rfl) (loopsL_skip (b:=sub [1,1,1,1,1,1,1,1,0,0,0] qadf) (rid:=15) (by kernel_rfl) (by kernel_rfl) (trivial))
def qah5 {R:Type}:Inl R:= .mk 176 qah1 qahz qadf Tryz.f176.results.toList qah0
def qah6 {R:Type}:List (Nat×Hd R):= []
def qah7 {R:Type}:List (Nat×Inl R):=[(7,qah5)]
def qah8:Cfg:={T:=qacr,glob:=GlobL.G Tryz.prog,eqs:=qacs,N:=8,fuel:=64,fid:=163}
theorem qah9:CfgOK Tryz.prog qah8:=cfgC qacu qacv trivial
theorem qaia {R:Type}:SubsOK Tryz.prog (R:=R) 1 qah7:=subsOK_a Tryz.f176 qah2 qah4 (rngs0 (by kernel_rfl)) qah3 (subsOK_nil _ _)
theorem qaib {R:Type}:LoopsOK (R:=R) (hnd 1 qah7) qah8 qah6 qac9:=loopsOK_of (l:= []) (by kernel_rfl) (trivial)
def qaic {R:Type}:Inl R:= .mk 163 qah8 qah6 qac9 Tryz.f163.results.toList qah7
def qaid:Code:=(rngGet 3 qacx).2.1
def qaie:Code:=(rngGet 3 qacx).2.2
def qaif {R:Type}:List (Nat×Hd R):= []
def qaig {R:Type}:List (Nat×Inl R):= []
def qaih:Cfg:={T:=qacr,glob:=GlobL.G Tryz.prog,eqs:=qacs,N:=13,fuel:=64,fid:=110,rnd:=true}
theorem qaii:CfgOK Tryz.prog qaih:=cfgC qacu qacv trivial
theorem qaij {R:Type}:SubsOK Tryz.prog (R:=R) 0 qaig:=subsOK_nil _ _
theorem qaik {R:Type}:LoopsOK (R:=R) (hnd 0 qaig) qaih qaif qaid:=loopsOK_of (l:= []) (by kernel_rfl) (trivial)
theorem qail {R:Type}:LoopsOK (R:=R) (hnd 0 qaig) qaih qaif qaie:=loopsOK_of (l:= []) (by kernel_rfl) (trivial)
def qaim {R:Type}:Inl R:= .rnd 110 3 qaih qaif [6] qaid qaie qaig
def qain:Code:=(rngGet 3 qac4).2.1
def qaio:Code:=(rngGet 3 qac4).2.2
def qaip {R:Type}:List (Nat×Hd R):= []
def qaiq {R:Type}:List (Nat×Inl R):=[(12,qaim)]
def qair:Cfg:={T:=qacr,glob:=GlobL.G Tryz.prog,eqs:=qacs,N:=15,fuel:=64,fid:=151,rnd:=true}
theorem qais:CfgOK Tryz.prog qair:=cfgC qacu qacv trivial
theorem qait {R:Type}:SubsOK Tryz.prog (R:=R) 1 qaiq:=subsOK_round (by kernel_rfl) qaii qaik qail qaij (subsOK_nil _ _)
theorem qaiu {R:Type}:LoopsOK (R:=R) (hnd 1 qaiq) qair qaip qain:=loopsOK_of (l:= []) (by kernel_rfl) (trivial)
theorem qaiv {R:Type}:LoopsOK (R:=R) (hnd 1 qaiq) qair qaip qaio:=loopsOK_of (l:= []) (by kernel_rfl) (trivial)
def qaiw {R:Type}:Inl R:= .rnd 151 3 qair qaip [6] qain qaio qaiq
def qaix:Code:=(rngGet 3 qacx).2.1
def qaiy:Code:=(rngGet 3 qacx).2.2
def qaiz {R:Type}:List (Nat×Hd R):= []
def qai0 {R:Type}:List (Nat×Inl R):= []
def qai1:Cfg:={T:=qacr,glob:=GlobL.G Tryz.prog,eqs:=qacs,N:=13,fuel:=64,fid:=110,rnd:=true}
theorem qai2:CfgOK Tryz.prog qai1:=cfgC qacu qacv trivial
theorem qai3 {R:Type}:SubsOK Tryz.prog (R:=R) 0 qai0:=subsOK_nil _ _
theorem qai4 {R:Type}:LoopsOK (R:=R) (hnd 0 qai0) qai1 qaiz qaix:=loopsOK_of (l:= []) (by kernel_rfl) (trivial)
theorem qai5 {R:Type}:LoopsOK (R:=R) (hnd 0 qai0) qai1 qaiz qaiy:=loopsOK_of (l:= []) (by kernel_rfl) (trivial)
def qai6 {R:Type}:Inl R:= .rnd 110 3 qai1 qaiz [6] qaix qaiy qai0
def qai7:Code:=(rngGet 3 qac4).2.1
def qai8:Code:=(rngGet 3 qac4).2.2
def qai9 {R:Type}:List (Nat×Hd R):= []
def qaja {R:Type}:List (Nat×Inl R):=[(12,qai6)]
def qajb:Cfg:={T:=qacr,glob:=GlobL.G Tryz.prog,eqs:=qacs,N:=15,fuel:=64,fid:=151,rnd:=true}
theorem qajc:CfgOK Tryz.prog qajb:=cfgC qacu qacv trivial
theorem qajd {R:Type}:SubsOK Tryz.prog (R:=R) 1 qaja:=subsOK_round (by kernel_rfl) qai2 qai4 qai5 qai3 (subsOK_nil _ _)
theorem qaje {R:Type}:LoopsOK (R:=R) (hnd 1 qaja) qajb qai9 qai7:=loopsOK_of (l:= []) (by kernel_rfl) (trivial)
theorem qajf {R:Type}:LoopsOK (R:=R) (hnd 1 qaja) qajb qai9 qai8:=loopsOK_of (l:= []) (by kernel_rfl) (trivial)
def qajg {R:Type}:Inl R:= .rnd 151 3 qajb qai9 [6] qai7 qai8 qaja
def qajh {R:Type}:List (Nat×Hd R):=[(5,hdOf qahd qahe)]
def qaji {R:Type}:List (Nat×Inl R):=[(31,qaic),(41,qaiw),(51,qajg)]
def qajj:Cfg:={T:=qacr,glob:=GlobL.G Tryz.prog,eqs:=qacs,N:=52,fuel:=64,loops:=[(5,⟨[0,1,2,3,2000000,2000002], [],[0,3,4,5,6,7,9],10, [], [], [], []⟩)],blocks:=[(2,⟨[0,2,2000000,2000002], [],[0,3,4,5,9],10, [], [], [], []⟩)],retA:=some ⟨[2000000,2000002], [],[0,3,9],10, [], [], [], []⟩,fid:=178}
theorem qajk:CfgOK Tryz.prog qajj:=cfgC qacu qacv trivial
theorem qajl {R:Type}:SubsOK Tryz.prog (R:=R) 2 qaji:=subsOK_a Tryz.f163 qah9 qaib (rngs0 (by kernel_rfl)) qaia (subsOK_round (by kernel_rfl) qais qaiu qaiv qait (subsOK_round (by kernel_rfl) qajc qaje qajf qajd (subsOK_nil _ _)))
theorem qajm {R:Type}:LoopOK (R:=R) (hnd 2 qaji) qajj qajh (sub [1,0,0,0] qadh) (HS.V qahd) (HS.st qahd) (HS.sh qahd) qahe (hdOf qahd qahe):=loopOK_of qahd qahe (fun _ _=>rfl) (by intro q v K;kernel_rfl)
theorem qajn {R:Type}:LoopsOK (R:=R) (hnd 2 qaji) qajj qajh qadh:=loopsOK_of (l:=[sub [0,1,0,0,0,0] qadh,sub [1,0,0,0] qadh]) (by kernel_rfl) (loopsL_skip (b:=sub [0,1,0,0,0,0] qadh) (rid:=1) (by kernel_rfl) (by kernel_rfl) (loopsL_cons (b:=sub [1,0,0,0] qadh) (rid:=5) (by kernel_rfl) (by kernel_rfl) qajm (trivial)))
def qajo {R:Type}:Inl R:= .mk 178 qajj qajh qadh Tryz.f178.results.toList qaji
def qajp {R:Type}:List (Nat×Hd R):= []
def qajq {R:Type}:List (Nat×Inl R):=[(5,qahy),(1000003,qajo)]
def qajr:Cfg:={T:=qacr,glob:=GlobL.G Tryz.prog,eqs:=qacs,N:=15,fuel:=64,fid:=151,saves:=[(3,[2])]}
theorem qajs:CfgOK Tryz.prog qajr:=cfgC qacu qacv trivial
theorem qajt {R:Type}:SubsOK Tryz.prog (R:=R) 3 qajq:=subsOK_a Tryz.f152 qahv qahx (rngs0 (by kernel_rfl)) qahw (subsOK_a Tryz.f178 qajk qajn (rngs0 (by kernel_rfl)) qajl (subsOK_nil _ _))
theorem qaju {R:Type}:LoopsOK (R:=R) (hnd 3 qajq) qajr qajp qac4:=loopsOK_of (l:= []) (by kernel_rfl) (trivial)
theorem qajv:RngsOK Tryz.prog qajr qac4:=rngs1 (x:=rngGet 3 qac4) (by kernel_rfl) (by kernel_rfl)
def qajw {R:Type}:Inl R:= .mk 151 qajr qajp qac4 Tryz.f151.results.toList qajq
def qajx {R:Type}:List (Nat×Hd R):= []
def qajy {R:Type}:List (Nat×Inl R):=[(5,qaho),(1000003,qajw)]
def qajz:Cfg:={T:=qacr,glob:=GlobL.G Tryz.prog,eqs:=qacs,N:=13,fuel:=64,fid:=110,saves:=[(3,[2])]}
theorem qaj0:CfgOK Tryz.prog qajz:=cfgC qacu qacv trivial
theorem qaj1 {R:Type}:SubsOK Tryz.prog (R:=R) 4 qajy:=subsOK_0 Tryz.f119 qahn (subsOK_a Tryz.f151 qajs qaju qajv qajt (subsOK_nil _ _))
theorem qaj2 {R:Type}:LoopsOK (R:=R) (hnd 4 qajy) qajz qajx qacx:=loopsOK_of (l:= []) (by kernel_rfl) (trivial)
theorem qaj3:RngsOK Tryz.prog qajz qacx:=rngs1 (x:=rngGet 3 qacx) (by kernel_rfl) (by kernel_rfl)
theorem qaj4:SpecOK Tryz.prog 110 qahl:=specOK_a Tryz.f110 qaj0 qact (d:=4) qaj1 qaj2 qaj3 (toY:=qahi)
def qaj5:List HV:=[.one (.sl .str)]
def qaj6:List HV:=[.one (.str)]
def qaj7:HP.V qaj5→(List Str):=fun v=>(v.1)
def qaj8:HX.V qaj6→Str:=fun v=>(v)
def qaj9:Str→HX.V qaj6:=fun y=>(y)
def qaka:(List Str)→Option (Str):=fun x=>path_Join x
def qakb:Spec:=mkSpec qaj5 qaj6 qaj7 qaj9 qaka
def qakc:Cfg:={T:=qacr,spec:=[(192,strings_Join_sp)],glob:=GlobL.G Tryz.prog,eqs:=qacs,N:=9,fuel:=64,fid:=186}
theorem qakd:CfgOK Tryz.prog qakc:=cfgC qacu qacv ⟨strings_Join_ok,trivial⟩
theorem qake:SpecOK Tryz.prog 186 qakb:=specOK_0 Tryz.f186 qakd qact (toY:=qaj8)
def qakf:HS:=⟨[(0, .one (.str)),(6, .one (.ptr 1 0)),(8, .one (.int .i64))],[(1, .cells [.boolk true, .boolk false, .boolk false, .boolk false, .boolk false, .boolk false, .boolk false, .boolk false, .boolk false, .boolk false, .boolk false, .boolk false, .boolk false, .boolk false, .boolk false, .boolk false, .boolk false, .boolk false, .boolk false, .boolk false, .boolk false, .boolk false, .boolk false, .boolk false, .boolk false, .boolk false, .boolk false, .boolk false, .boolk false, .boolk false, .boolk false, .boolk false, .boolk false, .boolk false, .boolk false, .boolk false, .boolk false, .boolk false, .boolk false, .boolk false, .boolk false, .boolk false, .boolk false, .boolk false, .boolk false, .boolk false, .boolk false, .boolk true, .boolk false, .boolk false, .boolk false, .boolk false, .boolk false, .boolk false, .boolk false, .boolk false, .boolk false, .boolk false, .boolk false, .boolk false, .boolk false, .boolk false, .boolk false, .boolk false, .boolk false, .boolk false, .boolk false, .boolk false, .boolk false, .boolk false, .boolk false, .boolk false, .boolk false, .boolk false, .boolk false, .boolk false, .boolk false, .boolk false, .boolk false, .boolk false, .boolk false, .boolk false, .boolk false, .boolk false, .boolk false, .boolk false, .boolk false, .boolk false, .boolk false, .boolk false, .boolk false, .boolk false, .boolk false, .boolk false, .boolk false, .boolk false, .boolk false, .boolk false, .boolk false, .boolk false, .boolk false, .boolk false, .boolk false, .boolk false, .boolk false, .boolk false, .boolk false, .boolk false, .boolk false, .boolk false, .boolk false, .boolk false, .boolk false, .boolk false, .boolk false, .boolk false, .boolk false, .boolk false, .boolk false, .boolk false, .boolk false, .boolk false, .boolk false, .boolk false, .boolk false, .boolk false, .boolk false, .boolk false, .boolk false, .boolk false, .boolk false, .boolk false, .boolk false, .boolk false, .boolk false, .boolk false, .boolk false, .boolk false, .boolk false, .boolk false, .boolk false, .boolk false, .boolk false, .boolk false, .boolk false, .boolk false, .boolk false, .boolk false, .boolk false, .boolk false, .boolk false, .boolk false, .boolk false, .boolk false, .boolk false, .boolk false, .boolk false, .boolk false, .boolk false, .boolk false, .boolk false, .boolk false, .boolk false, .boolk false, .boolk false, .boolk false, .boolk false, .boolk false, .boolk false, .boolk false, .boolk false, .boolk false, .boolk false, .boolk false, .boolk false, .boolk false, .boolk false, .boolk false, .boolk false, .boolk false, .boolk false, .boolk false, .boolk false, .boolk false, .boolk false, .boolk false, .boolk false, .boolk false, .boolk false, .boolk false, .boolk false, .boolk false, .boolk false, .boolk false, .boolk false, .boolk false, .boolk false, .boolk false, .boolk false, .boolk false, .boolk false, .boolk false, .boolk false, .boolk false, .boolk false, .boolk false, .boolk false, .boolk false, .boolk false, .boolk false, .boolk false, .boolk false, .boolk false, .boolk false, .boolk false, .boolk false, .boolk false, .boolk false, .boolk false, .boolk false, .boolk false, .boolk false, .boolk false, .boolk false, .boolk false, .boolk false, .boolk false, .boolk false, .boolk false, .boolk false, .boolk false, .boolk false, .boolk false, .boolk false, .boolk false, .boolk false, .boolk false, .boolk false, .boolk false, .boolk false, .boolk false, .boolk false, .boolk false, .boolk false, .boolk false, .boolk false, .boolk false, .boolk false, .boolk false, .boolk false, .boolk false, .boolk false, .boolk false, .boolk false, .boolk false, .boolk false])],2⟩
def qakg {R:Type}:Nat→HS.V qakf→(Ex→St→Option R)→Option R:=fun q v K=>
 strings_ContainsAny_7_L12 v.1.1 (fun y5=>K .ret {regs:=[(4, .v (.one (.int .i64 y5)))],mem:= [],nx:=0}) (K (.exit 0) {regs:= [],mem:= [],nx:=0}) q v.1.2.2.1
def qakh:HS:=⟨[(175, .one (.iter 1)),(1000001, .one (.strk ([47,0]:Str))),(1000009, .one (.int .i64)),(1000045, .one (.iter 0))],[(0, .iter),(1, .iter)],2⟩
def qaki {R:Type}:Nat→HS.V qakh→(Ex→St→Option R)→Option R:=fun q v K=>
 strings_ContainsAny_7_52_L38 v.2.2.1.1 (fun y15=>K .ret {regs:=[(4, .v (.one (.int .i64 y15))),(1000001, .v (.one (.str ([47,0]:Str)))),(1000009, .v (.one (.int .i64 v.1.2.2.1))),(1000045, .v (.one (.iter 0)))],mem:=[(0, .iter v.2.1.1 v.2.1.2)],nx:=1}) (K (.exit 9) {regs:=[(1000001, .v (.one (.str ([47,0]:Str)))),(1000009, .v (.one (.int .i64 v.1.2.2.1))),(1000045, .v (.one (.iter 0)))],mem:=[(0, .iter v.2.1.1 v.2.1.2)],nx:=1}) q v.2.2.1.2
def qakj:HS:=⟨[(0, .one (.strk ([47,0]:Str))),(7, .one (.str)),(8, .one (.int .i64)),(9, .one (.int .i64)),(12, .one (.int .i64)),(1000001, .one (.strk ([47,0]:Str))),(1000009, .one (.int .i64)),(1000045, .one (.iter 0))],[(0, .iter)],1⟩
def qakk {R:Type}:Nat→HS.V qakj→(Ex→St→Option R)→Option R:=fun q v K=>
 strings_ContainsAny_7_52_L12 v.1.2.1 v.1.2.2.1 v.1.2.2.2.1 (K (.exit 3) {regs:=[(8, .v (.one (.int .i64 v.1.2.2.1))),(9, .v (.one (.int .i64 v.1.2.2.2.1))),(1000001, .v (.one (.str ([47,0]:Str)))),(1000009, .v (.one (.int .i64 v.1.2.2.2.2.2.2.1))),(1000045, .v (.one (.iter 0)))],mem:=[(0, .iter v.2.1.1 v.2.1.2)],nx:=1}) q v.1.2.2.2.2.1
def qakl:HS:=⟨[(0, .one (.strk ([47,0]:Str))),(7, .one (.str)),(8, .one (.int .i64)),(9, .one (.int .i64)),(1000001, .one (.strk ([47,0]:Str))),(1000009, .one (.int .i64)),(1000045, .one (.iter 0))],[(0, .iter)],1⟩
def qakm {R:Type}:Nat→HS.V qakl→(Ex→St→Option R)→Option R:=fun q v K=>
 strings_ContainsAny_7_52_L5 v.1.2.1 v.1.2.2.1 v.1.2.2.2.1 (fun y50=>K .ret {regs:=[(4, .v (.one (.int .i64 y50))),(1000001, .v (.one (.str ([47,0]:Str)))),(1000009, .v (.one (.int .i64 v.1.2.2.2.2.2.1))),(1000045, .v (.one (.iter 0)))],mem:=[(0, .iter v.2.1.1 v.2.1.2)],nx:=1}) (K (.exit 1) {regs:=[(1000001, .v (.one (.str ([47,0]:Str)))),(1000009, .v (.one (.int .i64 v.1.2.2.2.2.2.1))),(1000045, .v (.one (.iter 0)))],mem:=[(0, .iter v.2.1.1 v.2.1.2)],nx:=1}) q
def qakn:HS:=⟨[(1, .one (.strk ([47,0]:Str))),(45, .one (.iter 0))],[(0, .iter)],1⟩
def qako {R:Type}:Nat→HS.V qakn→(Ex→St→Option R)→Option R:=fun q v K=>
 strings_ContainsAny_7_L18 v.2.1.1 (fun y66=>K .ret {regs:=[(4, .v (.one (.int .i64 y66)))],mem:= [],nx:=0}) (K (.exit 2) {regs:= [],mem:= [],nx:=0}) q v.2.1.2
def qakp:List HV:=[.one (.str), .one (.strk ([47,0]:Str))]
def qakq:List HV:=[.one (.bool)]
def qakr:HP.V qakp→Str:=fun v=>(v.1)
def qaks:HX.V qakq→Bool:=fun v=>(v)
def qakt:Bool→HX.V qakq:=fun y=>(y)
def qaku:Str→Option (Bool):=fun x=>strings_ContainsAny x
def qakv:Spec:=mkSpec qakp qakq qakr qakt qaku
def qakw:Cfg:={T:=qacr,glob:=GlobL.G Tryz.prog,eqs:=qacs,N:=5,fuel:=64,fid:=168}
theorem qakx:CfgOK Tryz.prog qakw:=cfgC qacu qacv trivial
def qaky {R:Type}:Inl R:= .mk 168 qakw [] qadc Tryz.f168.results.toList []
def qakz {R:Type}:List (Nat×Hd R):= []
def qak0 {R:Type}:List (Nat×Inl R):= []
def qak1:Cfg:={T:=qacr,glob:=GlobL.G Tryz.prog,eqs:=qacs,N:=21,fuel:=64,loops:=[(2,⟨[0,2,4,1000000,1000001], [],[0],1, [], [], [], []⟩)],blocks:=[(0,⟨[2,1000000,1000001], [],[0],1, [], [], [], []⟩)],retA:=some ⟨[2,3,1000000,1000001], [],[0],1, [], [], [], []⟩,fid:=169}
theorem qak2:CfgOK Tryz.prog qak1:=cfgC qacu qacv trivial
theorem qak3 {R:Type}:SubsOK Tryz.prog (R:=R) 1 qak0:=subsOK_nil _ _
theorem qak4 {R:Type}:LoopsOK (R:=R) (hnd 1 qak0) qak1 qakz qadd:=loopsOK_of (l:=[sub [1,0,1,0,0] qadd]) (by kernel_rfl) (loopsL_skip (b:=sub [1,0,1,0,0] qadd) (rid:=2) (by kernel_rfl) (by kernel_rfl) (trivial))
def qak5 {R:Type}:Inl R:= .mk 169 qak1 qakz qadd Tryz.f169.results.toList qak0
def qak6:Cfg:={T:=qacr,glob:=GlobL.G Tryz.prog,eqs:=qacs,N:=10,fuel:=64,fid:=170}
theorem qak7:CfgOK Tryz.prog qak6:=cfgC qacu qacv trivial
def qak8 {R:Type}:Inl R:= .mk 170 qak6 [] qade Tryz.f170.results.toList []
def qak9:Cfg:={T:=qacr,spec:=[(184,stringslite_IndexByte_sp)],glob:=GlobL.G Tryz.prog,eqs:=qacs,N:=8,fuel:=64,fid:=180}
theorem qala:CfgOK Tryz.prog qak9:=cfgC qacu qacv ⟨stringslite_IndexByte_ok,trivial⟩
def qalb {R:Type}:Inl R:= .mk 180 qak9 [] qadi Tryz.f180.results.toList []
def qalc:Cfg:={T:=qacr,glob:=GlobL.G Tryz.prog,eqs:=qacs,N:=17,fuel:=64,fid:=181}
theorem qald:CfgOK Tryz.prog qalc:=cfgC qacu qacv trivial
def qale {R:Type}:Inl R:= .mk 181 qalc [] qadj Tryz.f181.results.toList []
def qalf:Cfg:={T:=qacr,spec:=[(184,stringslite_IndexByte_sp)],glob:=GlobL.G Tryz.prog,eqs:=qacs,N:=8,fuel:=64,fid:=180}
theorem qalg:CfgOK Tryz.prog qalf:=cfgC qacu qacv ⟨stringslite_IndexByte_ok,trivial⟩
def qalh {R:Type}:Inl R:= .mk 180 qalf [] qadi Tryz.f180.results.toList []
def qali {R:Type}:List (Nat×Hd R):=[(38,hdOf qakh qaki),(5,hdOf qakl qakm),(12,hdOf qakj qakk)]
def qalj {R:Type}:List (Nat×Inl R):=[(170,qalb),(185,qale),(41,qalh)]
def qalk:Cfg:={T:=qacr,glob:=GlobL.G Tryz.prog,eqs:=qacs,N:=187,fuel:=64,loops:=[(38,⟨[175,1000001,1000009,1000045], [],[0,1],2, [], [], [], []⟩),(12,⟨[0,7,8,9,12,1000001,1000009,1000045], [],[0],1, [], [], [], []⟩),(5,⟨[0,7,8,9,1000001,1000009,1000045], [],[0],1, [], [], [], []⟩)],blocks:=[(9,⟨[1000001,1000009,1000045], [],[0],1, [], [], [], []⟩),(1,⟨[1000001,1000009,1000045], [],[0],1, [], [], [], []⟩),(3,⟨[8,9,1000001,1000009,1000045], [],[0],1, [], [], [], []⟩)],retA:=some ⟨[4,1000001,1000009,1000045], [],[0],1, [], [], [], []⟩,fid:=167}
theorem qall:CfgOK Tryz.prog qalk:=cfgC qacu qacv trivial
theorem qalm {R:Type}:SubsOK Tryz.prog (R:=R) 1 qalj:=subsOK_0 Tryz.f180 qala (subsOK_0 Tryz.f181 qald (subsOK_0 Tryz.f180 qalg (subsOK_nil _ _)))
theorem qaln {R:Type}:LoopOK (R:=R) (hnd 1 qalj) qalk qali (sub [1,0,1,1,1,0,0,1,0,0] qadb) (HS.V qakh) (HS.st qakh) (HS.sh qakh) qaki (hdOf qakh qaki):=loopOK_of qakh qaki (fun _ _=>rfl) (by intro q v K;kernel_rfl)
theorem qalo {R:Type}:LoopOK (R:=R) (hnd 1 qalj) qalk qali (sub [1,0,1,1,1,1,1,1,0,1,1,1,1,0,0,0] qadb) (HS.V qakl) (HS.st qakl) (HS.sh qakl) qakm (hdOf qakl qakm):=loopOK_of qakl qakm (fun _ _=>rfl) (by intro q v K;kernel_rfl)
theorem qalp {R:Type}:LoopOK (R:=R) (hnd 1 qalj) qalk qali (sub [1,0,1,1,1,1,1,1,0,1,1,1,1,0,0,0,1,0,0,1,0,1,0,0] qadb) (HS.V qakj) (HS.st qakj) (HS.sh qakj) qakk (hdOf qakj qakk):=loopOK_of qakj qakk (fun _ _=>rfl) (by intro q v K;kernel_rfl)
theorem qalq {R:Type}:LoopsOK (R:=R) (hnd 1 qalj) qalk qali qadb:=loopsOK_of (l:=[sub [1,0,1,1,1,0,0,1,0,0] qadb,sub [1,0,1,1,1,1,1,1,0,1,1,1,1,0,0,0] qadb,sub [1,0,1,1,1,1,1,1,0,1,1,1,1,0,0,0,1,0,0,1,0,1,0,0] qadb,sub [1,0,1,1,1,1,1,1,0,1,1,1,1,1,1,1,0,1,0,1,1,1,0,0] qadb,sub [1,0,1,1,1,1,1,1,0,1,1,1,1,1,1,1,0,1,0,1,1,1,0,0,1,0,0,1,0,0,1,0,0] qadb]) (by kernel_rfl) (loopsL_cons (b:=sub [1,0,1,1,1,0,0,1,0,0] qadb) (rid:=38) (by kernel_rfl) (by kernel_rfl) qaln (loopsL_cons (b:=sub [1,0,1,1,1,1,1,1,0,1,1,1,1,0,0,0] qadb) (rid:=5) (by kernel_rfl) (by kernel_rfl) qalo (loopsL_cons (b:=sub [1,0,1,1,1,1,1,1,0,1,1,1,1,0,0,0,1,0,0,1,0,1,0,0] qadb) (rid:=12) (by kernel_rfl) (by kernel_rfl) qalp (loopsL_skip (b:=sub [1,0,1,1,1,1,1,1,0,1,1,1,1,1,1,1,0,1,0,1,1,1,0,0] qadb) (rid:=25) (by kernel_rfl) (by kernel_rfl) (loopsL_skip (b:=sub [1,0,1,1,1,1,1,1,0,1,1,1,1,1,1,1,0,1,0,1,1,1,0,0,1,0,0,1,0,0,1,0,0] qadb) (rid:=29) (by kernel_rfl) (by kernel_rfl) (trivial))))))
def qalr {R:Type}:Inl R:= .mk 167 qalk qali qadb Tryz.f167.results.toList qalj
def qals {R:Type}:List (Nat×Hd R):=[(12,hdOf qakf qakg),(18,hdOf qakn qako)]
def qalt {R:Type}:List (Nat×Inl R):=[(26,qaky),(29,qak5),(42,qak8),(52,qalr)]
def qalu:Cfg:={T:=qacr,glob:=GlobL.G Tryz.prog,eqs:=qacs,N:=55,fuel:=64,loops:=[(18,⟨[1,45], [],[0],1, [], [], [], []⟩),(12,⟨[0,6,8], [],[1],2, [], [], [], []⟩)],blocks:=[(2,⟨[], [], [],0, [], [], [], []⟩),(0,⟨[], [], [],0, [], [], [], []⟩)],retA:=some ⟨[4], [], [],0, [], [], [], []⟩,fid:=155}
theorem qalv:CfgOK Tryz.prog qalu:=cfgC qacu qacv trivial
theorem qalw {R:Type}:SubsOK Tryz.prog (R:=R) 2 qalt:=subsOK_0 Tryz.f168 qakx (subsOK_a Tryz.f169 qak2 qak4 (rngs0 (by kernel_rfl)) qak3 (subsOK_0 Tryz.f170 qak7 (subsOK_a Tryz.f167 qall qalq (rngs0 (by kernel_rfl)) qalm (subsOK_nil _ _))))
theorem qalx {R:Type}:LoopOK (R:=R) (hnd 2 qalt) qalu qals (sub [1,1,1,0,1,0,1,1,0,0,1,0,0] qac8) (HS.V qakf) (HS.st qakf) (HS.sh qakf) qakg (hdOf qakf qakg):=loopOK_of qakf qakg (fun _ _=>rfl) (by intro q v K;kernel_rfl)
theorem qaly {R:Type}:LoopOK (R:=R) (hnd 2 qalt) qalu qals (sub [1,1,1,1,0,1,0,0] qac8) (HS.V qakn) (HS.st qakn) (HS.sh qakn) qako (hdOf qakn qako):=loopOK_of qakn qako (fun _ _=>rfl) (by intro q v K;kernel_rfl)
theorem qalz {R:Type}:LoopsOK (R:=R) (hnd 2 qalt) qalu qals qac8:=loopsOK_of (l:=[sub [1,1,1,0,1,0,1,1,0,0,1,0,0] qac8,sub [1,1,1,1,0,1,0,0] qac8]) (by kernel_rfl) (loopsL_cons (b:=sub [1,1,1,0,1,0,1,1,0,0,1,0,0] qac8) (rid:=12) (by kernel_rfl) (by kernel_rfl) qalx (loopsL_cons (b:=sub [1,1,1,1,0,1,0,0] qac8) (rid:=18) (by kernel_rfl) (by kernel_rfl) qaly (trivial)))
def qal0 {R:Type}:Inl R:= .mk 155 qalu qals qac8 Tryz.f155.results.toList qalt
def qal1 {R:Type}:List (Nat×Hd R):= []
def qal2 {R:Type}:List (Nat×Inl R):=[(7,qal0)]
def qal3:Cfg:={T:=qacr,glob:=GlobL.G Tryz.prog,eqs:=qacs,N:=9,fuel:=64,fid:=122}
theorem qal4:CfgOK Tryz.prog qal3:=cfgC qacu qacv trivial
theorem qal5 {R:Type}:SubsOK Tryz.prog (R:=R) 3 qal2:=subsOK_a Tryz.f155 qalv qalz (rngs0 (by kernel_rfl)) qalw (subsOK_nil _ _)
theorem qal6 {R:Type}:LoopsOK (R:=R) (hnd 3 qal2) qal3 qal1 qac2:=loopsOK_of (l:= []) (by kernel_rfl) (trivial)
theorem qal7:SpecOK Tryz.prog 122 qakv:=specOK_a Tryz.f122 qal4 qact (d:=3) qal5 qal6 (rngs0 (by kernel_rfl)) (toY:=qaks)
def qal8:List HV:=[.one (.str)]
def qal9:List HV:=[.one (.bool)]
def qama:HP.V qal8→Str:=fun v=>(v.1)
def qamb:HX.V qal9→Bool:=fun v=>(v)
def qamc:Bool→HX.V qal9:=fun y=>(y)
def qamd:Str→Option (Bool):=fun x=>path_May x
def qame:Spec:=mkSpec qal8 qal9 qama qamc qamd
def qamf:Cfg:={T:=qacr,spec:=[(122,qakv)],glob:=GlobL.G Tryz.prog,eqs:=qacs,N:=23,fuel:=64,fid:=72}
theorem qamg:CfgOK Tryz.prog qamf:=cfgC qacu qacv ⟨qal7,trivial⟩
theorem qamh:SpecOK Tryz.prog 72 qame:=specOK_0 Tryz.f72 qamg qact (toY:=qamb)
def qami:HS:=⟨[(0, .one (.yld 9)),(1, .one (.ptr 6 0)),(2, .one (.ptr 5 0)),(3, .one (.ptr 7 0)),(2000002, .one (.ptr 2 0)),(4000000, .one (.str))],[(2, .cells [.own 10]),(3, .loop true 13 150 3 [(2, .one (.ptr 2 0))]),(4, .cells [.yld 3]),(5, .cells [.str]),(6, .cells [.strk ([47]:Str)]),(7, .cells [.intk .i64 (0:Int)]),(9, .loop true 15 151 3 [(2, .one (.ptr 4 0))]),(10, .row .str)],11⟩
def qamj {R:Type}:Nat→HS.V qami→(Ex→St→Option R)→Option R:=fun q v K=>
 path_Plain_7_4_1000003_1000003_L5 (fun y6 y7=>K (.exit 2) {regs:=[(0, .v (.one (.yld 9))),(2, .v (.one (.ptr 5 0))),(2000002, .v (.one (.ptr 2 0))),(4000000, .v (.one (.str v.1.2.2.2.2.2.1)))],mem:=[(2, .cells [.own 10]),(3, .loop true 13 150 3 [(2, .v (.one (.ptr 2 0)))]),(4, .cells [.yld 3]),(5, .cells [.str y6]),(9, .loop true 15 151 3 [(2, .v (.one (.ptr 4 0)))]),(10, .row .str y7)],nx:=11}) q v.2.2.2.2.1.1 v.2.2.2.2.2.2.2.2.1
def qamk:HS:=⟨[(0, .one (.own 10)),(1, .one (.fnc 188)),(7, .one (.int .i64)),(8, .one (.int .i64)),(2000004, .one (.own 10)),(2000012, .one (.bool))],[(10, .row .str)],11⟩
def qaml {R:Type}:Nat→HS.V qamk→(Ex→St→Option R)→Option R:=fun q v K=>
 path_Plain_14_7_L2 v.1.2.2.1 v.2.1 (fun y17=>K .ret {regs:=[(4, .v (.one (.int .i64 y17))),(2000004, .v (.one (.own 10))),(2000012, .v (.one (.bool v.1.2.2.2.2.2.1)))],mem:=[(10, .row .str v.2.1)],nx:=11}) (K (.exit 0) {regs:=[(2000004, .v (.one (.own 10))),(2000012, .v (.one (.bool v.1.2.2.2.2.2.1)))],mem:=[(10, .row .str v.2.1)],nx:=11}) q v.1.2.2.2.1
def qamm:List HV:=[.one (.str)]
def qamn:List HV:=[.one (.sl .str), .one (.bool)]
def qamo:HP.V qamm→Str:=fun v=>(v.1)
def qamp:HX.V qamn→(List Str)×Bool:=fun v=>(v.1,v.2)
def qamq:(List Str)×Bool→HX.V qamn:=fun y=>(y.1,y.2)
def qamr:Str→Option ((List Str)×Bool):=fun x=>path_Plain x
def qams:Spec:=mkSpec qamm qamn qamo qamq qamr
def qamt:Cfg:={T:=qacr,spec:=[(186,qakb)],glob:=GlobL.G Tryz.prog,eqs:=qacs,N:=4,fuel:=64,fid:=119}
theorem qamu:CfgOK Tryz.prog qamt:=cfgC qacu qacv ⟨qake,trivial⟩
def qamv {R:Type}:Inl R:= .mk 119 qamt [] qacz Tryz.f119.results.toList []
def qamw:Cfg:={T:=qacr,spec:=[(186,qakb)],glob:=GlobL.G Tryz.prog,eqs:=qacs,N:=8,fuel:=64,fid:=166}
theorem qamx:CfgOK Tryz.prog qamw:=cfgC qacu qacv ⟨qake,trivial⟩
def qamy {R:Type}:Inl R:= .mk 166 qamw [] qada Tryz.f166.results.toList []
def qamz {R:Type}:List (Nat×Hd R):= []
def qam0 {R:Type}:List (Nat×Inl R):=[(7,qamy)]
def qam1:Cfg:={T:=qacr,spec:=[(186,qakb)],glob:=GlobL.G Tryz.prog,eqs:=qacs,N:=8,fuel:=64,fid:=152}
theorem qam2:CfgOK Tryz.prog qam1:=cfgC qacu qacv ⟨qake,trivial⟩
theorem qam3 {R:Type}:SubsOK Tryz.prog (R:=R) 2 qam0:=subsOK_0 Tryz.f166 qamx (subsOK_nil _ _)
theorem qam4 {R:Type}:LoopsOK (R:=R) (hnd 2 qam0) qam1 qamz qac5:=loopsOK_of (l:= []) (by kernel_rfl) (trivial)
def qam5 {R:Type}:Inl R:= .mk 152 qam1 qamz qac5 Tryz.f152.results.toList qam0
def qam6 {R:Type}:List (Nat×Hd R):= []
def qam7 {R:Type}:List (Nat×Inl R):= []
def qam8:Cfg:={T:=qacr,spec:=[(184,stringslite_IndexByte_sp),(186,qakb)],glob:=GlobL.G Tryz.prog,eqs:=qacs,N:=143,fuel:=64,retA:=some ⟨[4,2000000,2000001,2000002,2000003,4000002,6000000], [],[2,3,4,5,6,7,9,10],11, [], [], [], []⟩,fid:=176}
theorem qam9:CfgOK Tryz.prog qam8:=cfgC qacu qacv ⟨stringslite_IndexByte_ok,⟨qake,trivial⟩⟩
theorem qana {R:Type}:SubsOK Tryz.prog (R:=R) 0 qam7:=subsOK_nil _ _
theorem qanb {R:Type}:LoopsOK (R:=R) (hnd 0 qam7) qam8 qam6 qadf:=loopsOK_of (l:=[sub [1,1,1,1,1,1,1,1,0,0,0] qadf]) (by kernel_rfl) (loopsL_skip (b:=sub [1,1,1,1,1,1,1,1,0,0,0] qadf) (rid:=15) (by kernel_rfl) (by kernel_rfl) (trivial))
def qanc {R:Type}:Inl R:= .mk 176 qam8 qam6 qadf Tryz.f176.results.toList qam7
def qand {R:Type}:List (Nat×Hd R):= []
def qane {R:Type}:List (Nat×Inl R):=[(7,qanc)]
def qanf:Cfg:={T:=qacr,spec:=[(186,qakb)],glob:=GlobL.G Tryz.prog,eqs:=qacs,N:=8,fuel:=64,fid:=163}
theorem qang:CfgOK Tryz.prog qanf:=cfgC qacu qacv ⟨qake,trivial⟩
theorem qanh {R:Type}:SubsOK Tryz.prog (R:=R) 1 qane:=subsOK_a Tryz.f176 qam9 qanb (rngs0 (by kernel_rfl)) qana (subsOK_nil _ _)
theorem qani {R:Type}:LoopsOK (R:=R) (hnd 1 qane) qanf qand qac9:=loopsOK_of (l:= []) (by kernel_rfl) (trivial)
def qanj {R:Type}:Inl R:= .mk 163 qanf qand qac9 Tryz.f163.results.toList qane
def qank:Code:=(rngGet 3 qac3).2.1
def qanl:Code:=(rngGet 3 qac3).2.2
def qanm {R:Type}:List (Nat×Hd R):= []
def qann {R:Type}:List (Nat×Inl R):= []
def qano:Cfg:={T:=qacr,spec:=[(186,qakb)],glob:=GlobL.G Tryz.prog,eqs:=qacs,N:=13,fuel:=64,fid:=150,rnd:=true}
theorem qanp:CfgOK Tryz.prog qano:=cfgC qacu qacv ⟨qake,trivial⟩
theorem qanq {R:Type}:SubsOK Tryz.prog (R:=R) 0 qann:=subsOK_nil _ _
theorem qanr {R:Type}:LoopsOK (R:=R) (hnd 0 qann) qano qanm qank:=loopsOK_of (l:= []) (by kernel_rfl) (trivial)
theorem qans {R:Type}:LoopsOK (R:=R) (hnd 0 qann) qano qanm qanl:=loopsOK_of (l:= []) (by kernel_rfl) (trivial)
def qant {R:Type}:Inl R:= .rnd 150 3 qano qanm [7] qank qanl qann
def qanu:Code:=(rngGet 3 qac4).2.1
def qanv:Code:=(rngGet 3 qac4).2.2
def qanw {R:Type}:List (Nat×Hd R):= []
def qanx {R:Type}:List (Nat×Inl R):=[(12,qant)]
def qany:Cfg:={T:=qacr,spec:=[(186,qakb)],glob:=GlobL.G Tryz.prog,eqs:=qacs,N:=15,fuel:=64,fid:=151,rnd:=true}
theorem qanz:CfgOK Tryz.prog qany:=cfgC qacu qacv ⟨qake,trivial⟩
theorem qan0 {R:Type}:SubsOK Tryz.prog (R:=R) 1 qanx:=subsOK_round (by kernel_rfl) qanp qanr qans qanq (subsOK_nil _ _)
theorem qan1 {R:Type}:LoopsOK (R:=R) (hnd 1 qanx) qany qanw qanu:=loopsOK_of (l:= []) (by kernel_rfl) (trivial)
theorem qan2 {R:Type}:LoopsOK (R:=R) (hnd 1 qanx) qany qanw qanv:=loopsOK_of (l:= []) (by kernel_rfl) (trivial)
def qan3 {R:Type}:Inl R:= .rnd 151 3 qany qanw [6] qanu qanv qanx
def qan4:Code:=(rngGet 3 qac3).2.1
def qan5:Code:=(rngGet 3 qac3).2.2
def qan6 {R:Type}:List (Nat×Hd R):= []
def qan7 {R:Type}:List (Nat×Inl R):= []
def qan8:Cfg:={T:=qacr,spec:=[(186,qakb)],glob:=GlobL.G Tryz.prog,eqs:=qacs,N:=13,fuel:=64,fid:=150,rnd:=true}
theorem qan9:CfgOK Tryz.prog qan8:=cfgC qacu qacv ⟨qake,trivial⟩
theorem qaoa {R:Type}:SubsOK Tryz.prog (R:=R) 0 qan7:=subsOK_nil _ _
theorem qaob {R:Type}:LoopsOK (R:=R) (hnd 0 qan7) qan8 qan6 qan4:=loopsOK_of (l:= []) (by kernel_rfl) (trivial)
theorem qaoc {R:Type}:LoopsOK (R:=R) (hnd 0 qan7) qan8 qan6 qan5:=loopsOK_of (l:= []) (by kernel_rfl) (trivial)
def qaod {R:Type}:Inl R:= .rnd 150 3 qan8 qan6 [7] qan4 qan5 qan7
def qaoe:Code:=(rngGet 3 qac4).2.1
def qaof:Code:=(rngGet 3 qac4).2.2
def qaog {R:Type}:List (Nat×Hd R):= []
def qaoh {R:Type}:List (Nat×Inl R):=[(12,qaod)]
def qaoi:Cfg:={T:=qacr,spec:=[(186,qakb)],glob:=GlobL.G Tryz.prog,eqs:=qacs,N:=15,fuel:=64,fid:=151,rnd:=true}
theorem qaoj:CfgOK Tryz.prog qaoi:=cfgC qacu qacv ⟨qake,trivial⟩
theorem qaok {R:Type}:SubsOK Tryz.prog (R:=R) 1 qaoh:=subsOK_round (by kernel_rfl) qan9 qaob qaoc qaoa (subsOK_nil _ _)
theorem qaol {R:Type}:LoopsOK (R:=R) (hnd 1 qaoh) qaoi qaog qaoe:=loopsOK_of (l:= []) (by kernel_rfl) (trivial)
theorem qaom {R:Type}:LoopsOK (R:=R) (hnd 1 qaoh) qaoi qaog qaof:=loopsOK_of (l:= []) (by kernel_rfl) (trivial)
def qaon {R:Type}:Inl R:= .rnd 151 3 qaoi qaog [6] qaoe qaof qaoh
def qaoo {R:Type}:List (Nat×Hd R):=[(5,hdOf qami qamj)]
def qaop {R:Type}:List (Nat×Inl R):=[(31,qanj),(41,qan3),(51,qaon)]
def qaoq:Cfg:={T:=qacr,spec:=[(186,qakb)],glob:=GlobL.G Tryz.prog,eqs:=qacs,N:=52,fuel:=64,loops:=[(5,⟨[0,1,2,3,2000002,4000000], [],[2,3,4,5,6,7,9,10],11, [], [],[(2,0,10, .str)], []⟩)],blocks:=[(2,⟨[0,2,2000002,4000000], [],[2,3,4,5,9,10],11, [], [], [], []⟩)],fid:=178}
theorem qaor:CfgOK Tryz.prog qaoq:=cfgC qacu qacv ⟨qake,trivial⟩
theorem qaos {R:Type}:SubsOK Tryz.prog (R:=R) 2 qaop:=subsOK_a Tryz.f163 qang qani (rngs0 (by kernel_rfl)) qanh (subsOK_round (by kernel_rfl) qanz qan1 qan2 qan0 (subsOK_round (by kernel_rfl) qaoj qaol qaom qaok (subsOK_nil _ _)))
theorem qaot {R:Type}:LoopOK (R:=R) (hnd 2 qaop) qaoq qaoo (sub [1,0,0,0] qadh) (HS.V qami) (HS.st qami) (HS.sh qami) qamj (hdOf qami qamj):=loopOK_of qami qamj (fun _ _=>rfl) (by intro q v K;kernel_rfl)
theorem qaou {R:Type}:LoopsOK (R:=R) (hnd 2 qaop) qaoq qaoo qadh:=loopsOK_of (l:=[sub [0,1,0,0,0,0] qadh,sub [1,0,0,0] qadh]) (by kernel_rfl) (loopsL_skip (b:=sub [0,1,0,0,0,0] qadh) (rid:=1) (by kernel_rfl) (by kernel_rfl) (loopsL_cons (b:=sub [1,0,0,0] qadh) (rid:=5) (by kernel_rfl) (by kernel_rfl) qaot (trivial)))
def qaov {R:Type}:Inl R:= .mk 178 qaoq qaoo qadh Tryz.f178.results.toList qaop
def qaow {R:Type}:List (Nat×Hd R):= []
def qaox {R:Type}:List (Nat×Inl R):=[(5,qam5),(1000003,qaov)]
def qaoy:Cfg:={T:=qacr,spec:=[(186,qakb)],glob:=GlobL.G Tryz.prog,eqs:=qacs,N:=15,fuel:=64,fid:=151,saves:=[(3,[2])]}
theorem qaoz:CfgOK Tryz.prog qaoy:=cfgC qacu qacv ⟨qake,trivial⟩
theorem qao0 {R:Type}:SubsOK Tryz.prog (R:=R) 3 qaox:=subsOK_a Tryz.f152 qam2 qam4 (rngs0 (by kernel_rfl)) qam3 (subsOK_a Tryz.f178 qaor qaou (rngs0 (by kernel_rfl)) qaos (subsOK_nil _ _))
theorem qao1 {R:Type}:LoopsOK (R:=R) (hnd 3 qaox) qaoy qaow qac4:=loopsOK_of (l:= []) (by kernel_rfl) (trivial)
theorem qao2:RngsOK Tryz.prog qaoy qac4:=rngs1 (x:=rngGet 3 qac4) (by kernel_rfl) (by kernel_rfl)
def qao3 {R:Type}:Inl R:= .mk 151 qaoy qaow qac4 Tryz.f151.results.toList qaox
def qao4 {R:Type}:List (Nat×Hd R):= []
def qao5 {R:Type}:List (Nat×Inl R):=[(1000003,qao3)]
def qao6:Cfg:={T:=qacr,spec:=[(186,qakb)],glob:=GlobL.G Tryz.prog,eqs:=qacs,N:=13,fuel:=64,fid:=150,saves:=[(3,[2])]}
theorem qao7:CfgOK Tryz.prog qao6:=cfgC qacu qacv ⟨qake,trivial⟩
theorem qao8 {R:Type}:SubsOK Tryz.prog (R:=R) 4 qao5:=subsOK_a Tryz.f151 qaoz qao1 qao2 qao0 (subsOK_nil _ _)
theorem qao9 {R:Type}:LoopsOK (R:=R) (hnd 4 qao5) qao6 qao4 qac3:=loopsOK_of (l:= []) (by kernel_rfl) (trivial)
theorem qapa:RngsOK Tryz.prog qao6 qac3:=rngs1 (x:=rngGet 3 qac3) (by kernel_rfl) (by kernel_rfl)
def qapb {R:Type}:Inl R:= .mk 150 qao6 qao4 qac3 Tryz.f150.results.toList qao5
def qapc {R:Type}:List (Nat×Hd R):= []
def qapd {R:Type}:List (Nat×Inl R):=[(4,qapb)]
def qape:Cfg:={T:=qacr,spec:=[(186,qakb)],glob:=GlobL.G Tryz.prog,eqs:=qacs,N:=5,fuel:=64,fid:=118}
theorem qapf:CfgOK Tryz.prog qape:=cfgC qacu qacv ⟨qake,trivial⟩
theorem qapg {R:Type}:SubsOK Tryz.prog (R:=R) 5 qapd:=subsOK_a Tryz.f150 qao7 qao9 qapa qao8 (subsOK_nil _ _)
theorem qaph {R:Type}:LoopsOK (R:=R) (hnd 5 qapd) qape qapc qacy:=loopsOK_of (l:= []) (by kernel_rfl) (trivial)
def qapi {R:Type}:Inl R:= .mk 118 qape qapc qacy Tryz.f118.results.toList qapd
def qapj:Cfg:={T:=qacr,spec:=[(72,qame),(186,qakb)],glob:=GlobL.G Tryz.prog,eqs:=qacs,N:=6,fuel:=64,fid:=188}
theorem qapk:CfgOK Tryz.prog qapj:=cfgC qacu qacv ⟨qamh,⟨qake,trivial⟩⟩
def qapl {R:Type}:Inl R:= .mk 188 qapj [] qadl Tryz.f188.results.toList []
def qapm {R:Type}:List (Nat×Hd R):=[(2,hdOf qamk qaml)]
def qapn {R:Type}:List (Nat×Inl R):=[(16,qapl)]
def qapo:Cfg:={T:=qacr,spec:=[(186,qakb)],glob:=GlobL.G Tryz.prog,eqs:=qacs,N:=19,fuel:=64,loops:=[(2,⟨[0,1,7,8,2000004,2000012], [],[10],11, [], [], [], []⟩)],blocks:=[(0,⟨[2000004,2000012], [],[10],11, [], [], [], []⟩)],retA:=some ⟨[4,2000004,2000012], [],[10],11, [], [], [], []⟩,fid:=193}
theorem qapp:CfgOK Tryz.prog qapo:=cfgC qacu qacv ⟨qake,trivial⟩
theorem qapq {R:Type}:SubsOK Tryz.prog (R:=R) 4 qapn:=subsOK_0 Tryz.f188 qapk (subsOK_nil _ _)
theorem qapr {R:Type}:LoopOK (R:=R) (hnd 4 qapn) qapo qapm (sub [1,0,1,0,0] qadm) (HS.V qamk) (HS.st qamk) (HS.sh qamk) qaml (hdOf qamk qaml):=loopOK_of qamk qaml (fun _ _=>rfl) (by intro q v K;kernel_rfl)
theorem qaps {R:Type}:LoopsOK (R:=R) (hnd 4 qapn) qapo qapm qadm:=loopsOK_of (l:=[sub [1,0,1,0,0] qadm]) (by kernel_rfl) (loopsL_cons (b:=sub [1,0,1,0,0] qadm) (rid:=2) (by kernel_rfl) (by kernel_rfl) qapr (trivial))
def qapt {R:Type}:Inl R:= .mk 193 qapo qapm qadm Tryz.f193.results.toList qapn
def qapu {R:Type}:List (Nat×Hd R):= []
def qapv {R:Type}:List (Nat×Inl R):=[(7,qapt)]
def qapw:Cfg:={T:=qacr,spec:=[(186,qakb)],glob:=GlobL.G Tryz.prog,eqs:=qacs,N:=9,fuel:=64,fid:=187}
theorem qapx:CfgOK Tryz.prog qapw:=cfgC qacu qacv ⟨qake,trivial⟩
theorem qapy {R:Type}:SubsOK Tryz.prog (R:=R) 5 qapv:=subsOK_a Tryz.f193 qapp qaps (rngs0 (by kernel_rfl)) qapq (subsOK_nil _ _)
theorem qapz {R:Type}:LoopsOK (R:=R) (hnd 5 qapv) qapw qapu qadk:=loopsOK_of (l:= []) (by kernel_rfl) (trivial)
def qap0 {R:Type}:Inl R:= .mk 187 qapw qapu qadk Tryz.f187.results.toList qapv
def qap1 {R:Type}:List (Nat×Hd R):= []
def qap2 {R:Type}:List (Nat×Inl R):=[(6,qamv),(7,qapi),(14,qap0)]
def qap3:Cfg:={T:=qacr,spec:=[(186,qakb)],glob:=GlobL.G Tryz.prog,eqs:=qacs,N:=17,fuel:=64,fid:=177}
theorem qap4:CfgOK Tryz.prog qap3:=cfgC qacu qacv ⟨qake,trivial⟩
theorem qap5 {R:Type}:SubsOK Tryz.prog (R:=R) 6 qap2:=subsOK_0 Tryz.f119 qamu (subsOK_a Tryz.f118 qapf qaph (rngs0 (by kernel_rfl)) qapg (subsOK_a Tryz.f187 qapx qapz (rngs0 (by kernel_rfl)) qapy (subsOK_nil _ _)))
theorem qap6 {R:Type}:LoopsOK (R:=R) (hnd 6 qap2) qap3 qap1 qadg:=loopsOK_of (l:= []) (by kernel_rfl) (trivial)
theorem qap7:SpecOK Tryz.prog 177 qams:=specOK_a Tryz.f177 qap4 qact (d:=6) qap5 qap6 (rngs0 (by kernel_rfl)) (toY:=qamp)
end
end Go.Eng
set_option linter.unusedVariables false
set_option maxRecDepth 100000
namespace Go.Eng
noncomputable section
open Go Go.Proofs
def qap8:List (Nat×TI):=[(3,⟨false,1, .one (.int .i64 0), .int .i64⟩),(22,⟨false,1, .one (.clip .inode []), .slice .inode 36⟩),(24,⟨true,4, .agg [.int .i64 0, .int .i64 0, .int .i64 0, .clip .inode []], .struct [(0,3),(1,3),(2,3),(3,22)]⟩),(36,⟨true,6, .agg [.int .i64 0, .int .i64 0, .int .i64 0, .str [], .int .i64 0, .clip .entry []], .struct [(0,3),(1,3),(2,3),(3,9),(4,3),(5,34)]⟩),(155,⟨false,1, .one (.int .u64 0), .int .u64⟩)]
def qap9:List (Nat×List EK):= []
theorem qaqa:Tryz.prog.follows .mixedOrders=true:=by kernel_rfl
theorem qaqb:(qap8.all fun x=>tiB Tryz.prog x.1 x.2)=true:=by kernel_rfl
theorem qaqc:(qap9.all fun x=>eqB Tryz.prog x.1 x.2)=true:=by kernel_rfl
def qaqd:Code:=bd Tryz.f50
def qaqe:Code:=bd Tryz.f70
def qaqf:Code:=bd Tryz.f77
def qaqg:Code:=bd Tryz.f80
def qaqh:Code:=bd Tryz.f81
def qaqi:Code:=bd Tryz.f115
def qaqj:Code:=bd Tryz.f116
def qaqk:Code:=bd Tryz.f117
def qaql:Code:=bd Tryz.f124
def qaqm:Code:=bd Tryz.f149
def qaqn:HS:=⟨[(0, .one (.sl .inode)),(1, .one (.int .i64)),(2, .one (.fnc 116)),(8, .one (.int .i64)),(9, .one (.int .i64)),(10, .one (.int .i64))], [],0⟩
def qaqo {R:Type}:Nat→HS.V qaqn→(Ex→St→Option R)→Option R:=fun q v K=>
 table_at_9_L3 v.1.1 v.1.2.1 (fun y10=>K (.exit 0) {regs:=[(0, .v (.one (.sl .inode v.1.1))),(1, .v (.one (.int .i64 v.1.2.1))),(2, .v (.one (.fnc 116))),(8, .v (.one (.int .i64 v.1.2.2.2.1))),(9, .v (.one (.int .i64 y10)))],mem:= [],nx:=0}) q v.1.2.2.2.2.1 v.1.2.2.2.2.2.1
def qaqp:List HV:=[.agg hFs, .one (.int .i64)]
def qaqq:List HV:=[.one (.int .i64), .one (.bool)]
def qaqr:HP.V qaqp→Fs×Int:=fun v=>((cFs v.1),v.2.1)
def qaqs:HX.V qaqq→Int×Bool:=fun v=>(v.1,v.2)
def qaqt:(Int×Bool)→HX.V qaqq:=fun y=>(y.1,y.2)
def qaqu:(Fs×Int)→Option (Int×Bool):=fun x=>table_at x.1 x.2
def qaqv:Spec:=mkSpec qaqp qaqq qaqr qaqt qaqu
def qaqw:Cfg:={T:=qap8,glob:=GlobL.G Tryz.prog,eqs:=qap9,N:=6,fuel:=64,fid:=149}
theorem qaqx:CfgOK Tryz.prog qaqw:=cfgC qaqb qaqc trivial
def qaqy {R:Type}:Inl R:= .mk 149 qaqw [] qaqm Tryz.f149.results.toList []
def qaqz:Cfg:={T:=qap8,glob:=GlobL.G Tryz.prog,eqs:=qap9,N:=6,fuel:=64,fid:=149}
theorem qaq0:CfgOK Tryz.prog qaqz:=cfgC qaqb qaqc trivial
def qaq1 {R:Type}:Inl R:= .mk 149 qaqz [] qaqm Tryz.f149.results.toList []
def qaq2 {R:Type}:List (Nat×Hd R):= []
def qaq3 {R:Type}:List (Nat×Inl R):=[(8,qaqy),(10,qaq1)]
def qaq4:Cfg:={T:=qap8,glob:=GlobL.G Tryz.prog,eqs:=qap9,N:=20,fuel:=64,fid:=117}
theorem qaq5:CfgOK Tryz.prog qaq4:=cfgC qaqb qaqc trivial
theorem qaq6 {R:Type}:SubsOK Tryz.prog (R:=R) 1 qaq3:=subsOK_0 Tryz.f149 qaqx (subsOK_0 Tryz.f149 qaq0 (subsOK_nil _ _))
theorem qaq7 {R:Type}:LoopsOK (R:=R) (hnd 1 qaq3) qaq4 qaq2 qaqk:=loopsOK_of (l:= []) (by kernel_rfl) (trivial)
def qaq8 {R:Type}:Inl R:= .mk 117 qaq4 qaq2 qaqk Tryz.f117.results.toList qaq3
def qaq9 {R:Type}:List (Nat×Hd R):= []
def qara {R:Type}:List (Nat×Inl R):=[(8,qaq8)]
def qarb:Cfg:={T:=qap8,glob:=GlobL.G Tryz.prog,eqs:=qap9,N:=9,fuel:=64,fid:=116}
theorem qarc:CfgOK Tryz.prog qarb:=cfgC qaqb qaqc trivial
theorem qard {R:Type}:SubsOK Tryz.prog (R:=R) 2 qara:=subsOK_a Tryz.f117 qaq5 qaq7 (rngs0 (by kernel_rfl)) qaq6 (subsOK_nil _ _)
theorem qare {R:Type}:LoopsOK (R:=R) (hnd 2 qara) qarb qaq9 qaqj:=loopsOK_of (l:= []) (by kernel_rfl) (trivial)
def qarf {R:Type}:Inl R:= .mk 116 qarb qaq9 qaqj Tryz.f116.results.toList qara
def qarg:Cfg:={T:=qap8,glob:=GlobL.G Tryz.prog,eqs:=qap9,N:=6,fuel:=64,fid:=149}
theorem qarh:CfgOK Tryz.prog qarg:=cfgC qaqb qaqc trivial
def qari {R:Type}:Inl R:= .mk 149 qarg [] qaqm Tryz.f149.results.toList []
def qarj:Cfg:={T:=qap8,glob:=GlobL.G Tryz.prog,eqs:=qap9,N:=6,fuel:=64,fid:=149}
theorem qark:CfgOK Tryz.prog qarj:=cfgC qaqb qaqc trivial
def qarl {R:Type}:Inl R:= .mk 149 qarj [] qaqm Tryz.f149.results.toList []
def qarm {R:Type}:List (Nat×Hd R):= []
def qarn {R:Type}:List (Nat×Inl R):=[(8,qari),(10,qarl)]
def qaro:Cfg:={T:=qap8,glob:=GlobL.G Tryz.prog,eqs:=qap9,N:=20,fuel:=64,fid:=117}
theorem qarp:CfgOK Tryz.prog qaro:=cfgC qaqb qaqc trivial
theorem qarq {R:Type}:SubsOK Tryz.prog (R:=R) 1 qarn:=subsOK_0 Tryz.f149 qarh (subsOK_0 Tryz.f149 qark (subsOK_nil _ _))
theorem qarr {R:Type}:LoopsOK (R:=R) (hnd 1 qarn) qaro qarm qaqk:=loopsOK_of (l:= []) (by kernel_rfl) (trivial)
def qars {R:Type}:Inl R:= .mk 117 qaro qarm qaqk Tryz.f117.results.toList qarn
def qart {R:Type}:List (Nat×Hd R):= []
def qaru {R:Type}:List (Nat×Inl R):=[(8,qars)]
def qarv:Cfg:={T:=qap8,glob:=GlobL.G Tryz.prog,eqs:=qap9,N:=9,fuel:=64,fid:=116}
theorem qarw:CfgOK Tryz.prog qarv:=cfgC qaqb qaqc trivial
theorem qarx {R:Type}:SubsOK Tryz.prog (R:=R) 2 qaru:=subsOK_a Tryz.f117 qarp qarr (rngs0 (by kernel_rfl)) qarq (subsOK_nil _ _)
theorem qary {R:Type}:LoopsOK (R:=R) (hnd 2 qaru) qarv qart qaqj:=loopsOK_of (l:= []) (by kernel_rfl) (trivial)
def qarz {R:Type}:Inl R:= .mk 116 qarv qart qaqj Tryz.f116.results.toList qaru
def qar0 {R:Type}:List (Nat×Hd R):=[(3,hdOf qaqn qaqo)]
def qar1 {R:Type}:List (Nat×Inl R):=[(30,qarf),(46,qarz)]
def qar2:Cfg:={T:=qap8,glob:=GlobL.G Tryz.prog,eqs:=qap9,N:=49,fuel:=64,loops:=[(3,⟨[0,1,2,8,9,10], [], [],0, [], [], [], []⟩)],blocks:=[(0,⟨[0,1,2,8,9], [], [],0, [], [], [], []⟩)],fid:=115}
theorem qar3:CfgOK Tryz.prog qar2:=cfgC qaqb qaqc trivial
theorem qar4 {R:Type}:SubsOK Tryz.prog (R:=R) 3 qar1:=subsOK_a Tryz.f116 qarc qare (rngs0 (by kernel_rfl)) qard (subsOK_a Tryz.f116 qarw qary (rngs0 (by kernel_rfl)) qarx (subsOK_nil _ _))
theorem qar5 {R:Type}:LoopOK (R:=R) (hnd 3 qar1) qar2 qar0 (sub [1,1,1,0,0,0] qaqi) (HS.V qaqn) (HS.st qaqn) (HS.sh qaqn) qaqo (hdOf qaqn qaqo):=loopOK_of qaqn qaqo (fun _ _=>rfl) (by intro q v K;kernel_rfl)
theorem qar6 {R:Type}:LoopsOK (R:=R) (hnd 3 qar1) qar2 qar0 qaqi:=loopsOK_of (l:=[sub [1,1,1,0,0,0] qaqi]) (by kernel_rfl) (loopsL_cons (b:=sub [1,1,1,0,0,0] qaqi) (rid:=3) (by kernel_rfl) (by kernel_rfl) qar5 (trivial))
def qar7 {R:Type}:Inl R:= .mk 115 qar2 qar0 qaqi Tryz.f115.results.toList qar1
def qar8 {R:Type}:List (Nat×Hd R):= []
def qar9 {R:Type}:List (Nat×Inl R):=[(9,qar7)]
def qasa:Cfg:={T:=qap8,glob:=GlobL.G Tryz.prog,eqs:=qap9,N:=12,fuel:=64,fid:=70}
theorem qasb:CfgOK Tryz.prog qasa:=cfgC qaqb qaqc trivial
theorem qasc {R:Type}:SubsOK Tryz.prog (R:=R) 4 qar9:=subsOK_a Tryz.f115 qar3 qar6 (rngs0 (by kernel_rfl)) qar4 (subsOK_nil _ _)
theorem qasd {R:Type}:LoopsOK (R:=R) (hnd 4 qar9) qasa qar8 qaqe:=loopsOK_of (l:= []) (by kernel_rfl) (trivial)
theorem qase:SpecOK Tryz.prog 70 qaqv:=specOK_a Tryz.f70 qasb qaqa (d:=4) qasc qasd (rngs0 (by kernel_rfl)) (toY:=qaqs)
def qasf:List HV:=[.agg hFs, .one (.int .i64)]
def qasg:List HV:=[.agg hIn, .one (.bool)]
def qash:HP.V qasf→Fs×Int:=fun v=>((cFs v.1),v.2.1)
def qasi:HX.V qasg→Inode×Bool:=fun v=>((cIn v.1),v.2)
def qasj:(Inode×Bool)→HX.V qasg:=fun y=>((y.1.ino,(y.1.kind,(y.1.links,(y.1.data,(y.1.parent,(y.1.entries,())))))),y.2)
def qask:(Fs×Int)→Option (Inode×Bool):=fun x=>table_Get x.1 x.2
def qasl:Spec:=mkSpec qasf qasg qash qasj qask
def qasm:Cfg:={T:=qap8,spec:=[(70,qaqv)],glob:=GlobL.G Tryz.prog,eqs:=qap9,N:=22,fuel:=64,fid:=39}
theorem qasn:CfgOK Tryz.prog qasm:=cfgC qaqb qaqc ⟨qase,trivial⟩
theorem qaso:SpecOK Tryz.prog 39 qasl:=specOK_0 Tryz.f39 qasn qaqa (toY:=qasi)
def qasp:List HV:=[.agg hFs, .agg hIn]
def qasq:List HV:=[.agg hFs]
def qasr:HP.V qasp→Fs×Inode:=fun v=>((cFs v.1),(cIn v.2.1))
def qass:HX.V qasq→Fs:=fun v=>((cFs v))
def qast:Fs→HX.V qasq:=fun y=>((y.maxInodes,(y.maxBytes,(y.next,(y.inodes,())))))
def qasu:(Fs×Inode)→Option (Fs):=fun x=>table_Set x.1 x.2
def qasv:Spec:=mkSpec qasp qasq qasr qast qasu
def qasw:Cfg:={T:=qap8,spec:=[(70,qaqv)],glob:=GlobL.G Tryz.prog,eqs:=qap9,N:=8,fuel:=64,ovl:=[128],fid:=80}
theorem qasx:CfgOK Tryz.prog qasw:=cfgC qaqb qaqc ⟨qase,trivial⟩ (ov:=⟨ovl128,trivial⟩)
def qasy {R:Type}:Inl R:= .mk 80 qasw [] qaqg Tryz.f80.results.toList []
def qasz:Cfg:={T:=qap8,spec:=[(70,qaqv)],glob:=GlobL.G Tryz.prog,eqs:=qap9,N:=95,fuel:=64,ovl:=[128],fid:=81}
theorem qas0:CfgOK Tryz.prog qasz:=cfgC qaqb qaqc ⟨qase,trivial⟩ (ov:=⟨ovl128,trivial⟩)
def qas1 {R:Type}:Inl R:= .mk 81 qasz [] qaqh Tryz.f81.results.toList []
def qas2 {R:Type}:List (Nat×Hd R):= []
def qas3 {R:Type}:List (Nat×Inl R):=[(16,qasy),(30,qas1)]
def qas4:Cfg:={T:=qap8,spec:=[(70,qaqv)],glob:=GlobL.G Tryz.prog,eqs:=qap9,N:=33,fuel:=64,ovl:=[128],fid:=50}
theorem qas5:CfgOK Tryz.prog qas4:=cfgC qaqb qaqc ⟨qase,trivial⟩ (ov:=⟨ovl128,trivial⟩)
theorem qas6 {R:Type}:SubsOK Tryz.prog (R:=R) 1 qas3:=subsOK_0 Tryz.f80 qasx (subsOK_0 Tryz.f81 qas0 (subsOK_nil _ _))
theorem qas7 {R:Type}:LoopsOK (R:=R) (hnd 1 qas3) qas4 qas2 qaqd:=loopsOK_of (l:= []) (by kernel_rfl) (trivial)
theorem qas8:SpecOK Tryz.prog 50 qasv:=specOK_a Tryz.f50 qas5 qaqa (d:=1) qas6 qas7 (rngs0 (by kernel_rfl)) (toY:=qass)
def qas9:List HV:=[.agg hFs, .one (.int .i64)]
def qata:List HV:=[.agg hFs]
def qatb:HP.V qas9→Fs×Int:=fun v=>((cFs v.1),v.2.1)
def qatc:HX.V qata→Fs:=fun v=>((cFs v))
def qatd:Fs→HX.V qata:=fun y=>((y.maxInodes,(y.maxBytes,(y.next,(y.inodes,())))))
def qate:(Fs×Int)→Option (Fs):=fun x=>table_Drop x.1 x.2
def qatf:Spec:=mkSpec qas9 qata qatb qatd qate
def qatg:Cfg:={T:=qap8,spec:=[(70,qaqv)],glob:=GlobL.G Tryz.prog,eqs:=qap9,N:=8,fuel:=64,fid:=80}
theorem qath:CfgOK Tryz.prog qatg:=cfgC qaqb qaqc ⟨qase,trivial⟩
def qati {R:Type}:Inl R:= .mk 80 qatg [] qaqg Tryz.f80.results.toList []
def qatj:Cfg:={T:=qap8,spec:=[(70,qaqv)],glob:=GlobL.G Tryz.prog,eqs:=qap9,N:=33,fuel:=64,fid:=124}
theorem qatk:CfgOK Tryz.prog qatj:=cfgC qaqb qaqc ⟨qase,trivial⟩
def qatl {R:Type}:Inl R:= .mk 124 qatj [] qaql Tryz.f124.results.toList []
def qatm {R:Type}:List (Nat×Hd R):= []
def qatn {R:Type}:List (Nat×Inl R):=[(15,qati),(23,qatl)]
def qato:Cfg:={T:=qap8,spec:=[(70,qaqv)],glob:=GlobL.G Tryz.prog,eqs:=qap9,N:=26,fuel:=64,fid:=77}
theorem qatp:CfgOK Tryz.prog qato:=cfgC qaqb qaqc ⟨qase,trivial⟩
theorem qatq {R:Type}:SubsOK Tryz.prog (R:=R) 1 qatn:=subsOK_0 Tryz.f80 qath (subsOK_0 Tryz.f124 qatk (subsOK_nil _ _))
theorem qatr {R:Type}:LoopsOK (R:=R) (hnd 1 qatn) qato qatm qaqf:=loopsOK_of (l:= []) (by kernel_rfl) (trivial)
theorem qats:SpecOK Tryz.prog 77 qatf:=specOK_a Tryz.f77 qatp qaqa (d:=1) qatq qatr (rngs0 (by kernel_rfl)) (toY:=qatc)
end
end Go.Eng
set_option linter.unusedVariables false
set_option maxRecDepth 100000
namespace Go.Eng
noncomputable section
open Go Go.Proofs
def qatt:List (Nat×TI):=[(3,⟨false,1, .one (.int .i64 0), .int .i64⟩),(9,⟨false,1, .one (.str []), .str⟩),(24,⟨true,4, .agg [.int .i64 0, .int .i64 0, .int .i64 0, .clip .inode []], .struct [(0,3),(1,3),(2,3),(3,22)]⟩),(34,⟨false,1, .one (.clip .entry []), .slice .entry 94⟩),(36,⟨true,6, .agg [.int .i64 0, .int .i64 0, .int .i64 0, .str [], .int .i64 0, .clip .entry []], .struct [(0,3),(1,3),(2,3),(3,9),(4,3),(5,34)]⟩),(41,⟨true,3, .agg [.int .i64 0, .str [], .int .i64 0], .struct [(0,3),(1,9),(2,3)]⟩),(46,⟨false,1, .one (.clip .str []), .slice .str 9⟩)]
def qatu:List (Nat×List EK):= []
theorem qatv:Tryz.prog.follows .mixedOrders=true:=by kernel_rfl
theorem qatw:(qatt.all fun x=>tiB Tryz.prog x.1 x.2)=true:=by kernel_rfl
theorem qatx:(qatu.all fun x=>eqB Tryz.prog x.1 x.2)=true:=by kernel_rfl
def qaty:Code:=bd Tryz.f164
def qatz:HS:=⟨[(2, .one (.ptr 0 0)),(4, .one (.ptr 1 0)),(8, .one (.ptr 2 0)),(24, .one (.sl .str)),(25, .one (.int .i64)),(26, .one (.int .i64))],[(0, .cells hFs),(1, .cells [.int .i64, .str, .int .i64]),(2, .cells [.int .i64, .str, .int .i64])],3⟩
def qat0 {R:Type}:Nat→HS.V qatz→(Ex→St→Option R)→Option R:=fun q v K=>
 place_At_L6 v.1.2.2.2.1 v.1.2.2.2.2.1 (cFs v.2.1) (fun y11=>K .ret {regs:=[(4, .v (.one (.ptr 1 0))),(5, .v (.one (.int .i64 y11)))],mem:=[(1, .cells [.int .i64 ((⟨0, [],0⟩:Spotted).dir), .str ((⟨0, [],0⟩:Spotted).name), .int .i64 ((⟨0, [],0⟩:Spotted).ino)])],nx:=2}) (fun y14=>K (.exit 0) {regs:=[(4, .v (.one (.ptr 1 0))),(8, .v (.one (.ptr 2 0)))],mem:=[(1, .cells [.int .i64 ((⟨v.2.2.1.1,v.2.2.1.2.1,v.2.2.1.2.2.1⟩:Spotted).dir), .str ((⟨v.2.2.1.1,v.2.2.1.2.1,v.2.2.1.2.2.1⟩:Spotted).name), .int .i64 ((⟨v.2.2.1.1,v.2.2.1.2.1,v.2.2.1.2.2.1⟩:Spotted).ino)]),(2, .cells [.int .i64 y14.dir, .str y14.name, .int .i64 y14.ino])],nx:=3}) q v.1.2.2.2.2.2.1 (⟨v.2.2.2.1.1,v.2.2.2.1.2.1,v.2.2.2.1.2.2.1⟩:Spotted)
def qat1:List HV:=[.agg hFs, .one (.str)]
def qat2:List HV:=[.agg [.int .i64, .str, .int .i64], .one (.int .i64)]
def qat3:HP.V qat1→Fs×Str:=fun v=>((cFs v.1),v.2.1)
def qat4:HX.V qat2→Spotted×Int:=fun v=>((⟨v.1.1,v.1.2.1,v.1.2.2.1⟩:Spotted),v.2)
def qat5:(Spotted×Int)→HX.V qat2:=fun y=>((y.1.dir,(y.1.name,(y.1.ino,()))),y.2)
def qat6:(Fs×Str)→Option (Spotted×Int):=fun x=>place_At x.1 x.2
def qat7:Spec:=mkSpec qat1 qat2 qat3 qat5 qat6
def qat8 {R:Type}:List (Nat×Hd R):=[(6,hdOf qatz qat0)]
def qat9 {R:Type}:List (Nat×Inl R):= []
def qaua:Cfg:={T:=qatt,spec:=[(39,qasl),(112,qacn),(177,qams)],glob:=GlobL.G Tryz.prog,eqs:=qatu,N:=60,fuel:=64,loops:=[(6,⟨[2,4,8,24,25,26], [],[0,1,2],3, [], [], [], []⟩)],blocks:=[(0,⟨[4,8], [],[1,2],3, [], [], [], []⟩)],retA:=some ⟨[4,5], [],[1],2, [], [], [], []⟩,fid:=164}
theorem qaub:CfgOK Tryz.prog qaua:=cfgC qatw qatx ⟨qaso,⟨qacq,⟨qap7,trivial⟩⟩⟩
theorem qauc {R:Type}:SubsOK Tryz.prog (R:=R) 0 qat9:=subsOK_nil _ _
theorem qaud {R:Type}:LoopOK (R:=R) (hnd 0 qat9) qaua qat8 (sub [1,1,1,1,0,1,0,0] qaty) (HS.V qatz) (HS.st qatz) (HS.sh qatz) qat0 (hdOf qatz qat0):=loopOK_of qatz qat0 (fun _ _=>rfl) (by intro q v K;kernel_rfl)
theorem qaue {R:Type}:LoopsOK (R:=R) (hnd 0 qat9) qaua qat8 qaty:=loopsOK_of (l:=[sub [1,1,1,1,0,1,0,0] qaty]) (by kernel_rfl) (loopsL_cons (b:=sub [1,1,1,1,0,1,0,0] qaty) (rid:=6) (by kernel_rfl) (by kernel_rfl) qaud (trivial))
theorem qauf:SpecOK Tryz.prog 164 qat7:=specOK_a Tryz.f164 qaub qatv (d:=0) qauc qaue (rngs0 (by kernel_rfl)) (toY:=qat4)
def qaug:List HV:=[.agg hFs, .one (.str)]
def qauh:List HV:=[.agg hIn, .one (.int .i64)]
def qaui:HP.V qaug→Fs×Str:=fun v=>((cFs v.1),v.2.1)
def qauj:HX.V qauh→Inode×Int:=fun v=>((cIn v.1),v.2)
def qauk:(Inode×Int)→HX.V qauh:=fun y=>((y.1.ino,(y.1.kind,(y.1.links,(y.1.data,(y.1.parent,(y.1.entries,())))))),y.2)
def qaul:(Fs×Str)→Option (Inode×Int):=fun x=>place_Get x.1 x.2
def qaum:Spec:=mkSpec qaug qauh qaui qauk qaul
def qaun:Cfg:={T:=qatt,spec:=[(39,qasl),(164,qat7)],glob:=GlobL.G Tryz.prog,eqs:=qatu,N:=31,fuel:=64,fid:=147}
theorem qauo:CfgOK Tryz.prog qaun:=cfgC qatw qatx ⟨qaso,⟨qauf,trivial⟩⟩
theorem qaup:SpecOK Tryz.prog 147 qaum:=specOK_0 Tryz.f147 qauo qatv (toY:=qauj)
end
end Go.Eng
set_option linter.unusedVariables false
set_option maxRecDepth 100000
namespace Go.Eng
noncomputable section
open Go Go.Proofs
def qauq:List (Nat×TI):=[(3,⟨false,1, .one (.int .i64 0), .int .i64⟩),(9,⟨false,1, .one (.str []), .str⟩),(46,⟨false,1, .one (.clip .str []), .slice .str 9⟩),(163,⟨false,1, .one (.clip .strs []), .slice .strs 46⟩)]
def qaur:List (Nat×List EK):= []
theorem qaus:Tryz.prog.follows .mixedOrders=true:=by kernel_rfl
theorem qaut:(qauq.all fun x=>tiB Tryz.prog x.1 x.2)=true:=by kernel_rfl
theorem qauu:(qaur.all fun x=>eqB Tryz.prog x.1 x.2)=true:=by kernel_rfl
def qauv:Code:=bd Tryz.f148
def qauw:Code:=bd Tryz.f165
def qaux:HS:=⟨[(0, .one (.sl .strs)),(3, .one (.int .i64)),(9, .one (.sl .strs)),(10, .one (.int .i64)),(11, .one (.int .i64))], [],0⟩
def qauy {R:Type}:Nat→HS.V qaux→(Ex→St→Option R)→Option R:=fun q v K=>
 slices_Concat_string_L3 v.1.2.2.1 v.1.2.2.2.1 (fun y8=>K (.exit 0) {regs:=[(0, .v (.one (.sl .strs v.1.1))),(3, .v (.one (.int .i64 y8)))],mem:= [],nx:=0}) q v.1.2.1 v.1.2.2.2.2.1
def qauz:HS:=⟨[(6, .one (.sub 0)),(25, .one (.sl .strs)),(26, .one (.int .i64)),(27, .one (.int .i64))],[(0, .row .str)],1⟩
def qau0 {R:Type}:Nat→HS.V qauz→(Ex→St→Option R)→Option R:=fun q v K=>
 slices_Concat_string_L11 v.1.1.1 v.1.2.1 v.1.2.2.1 (fun y18 y19=>K (.exit 2) {regs:=[(6, .v (.one (.sub 0 v.1.1.1 y18)))],mem:=[(0, .row .str y19)],nx:=1}) q v.1.1.2 v.1.2.2.2.1 v.2.1
def qau1:List HV:=[.one (.sl .strs)]
def qau2:List HV:=[.one (.sl .str)]
def qau3:HP.V qau1→(List (List Str)):=fun v=>(v.1)
def qau4:HX.V qau2→(List Str):=fun v=>(v)
def qau5:(List Str)→HX.V qau2:=fun y=>(y)
def qau6:(List (List Str))→Option ((List Str)):=fun x=>slices_Concat_string x
def qau7:Spec:=mkSpec qau1 qau2 qau3 qau5 qau6
def qau8:Cfg:={T:=qauq,glob:=GlobL.G Tryz.prog,eqs:=qaur,N:=27,fuel:=64,fid:=165,nilc:=true}
theorem qau9:CfgOK Tryz.prog qau8:=cfgC qaut qauu trivial
def qava {R:Type}:Inl R:= .mk 165 qau8 [] qauw Tryz.f165.results.toList []
def qavb {R:Type}:List (Nat×Hd R):=[(3,hdOf qaux qauy),(11,hdOf qauz qau0)]
def qavc {R:Type}:List (Nat×Inl R):=[(24,qava)]
def qavd:Cfg:={T:=qauq,glob:=GlobL.G Tryz.prog,eqs:=qaur,N:=36,fuel:=64,loops:=[(11,⟨[6,25,26,27], [],[0],1, [], [], [],[(6,0, .str)]⟩),(3,⟨[0,3,9,10,11], [], [],0, [], [], [], []⟩)],blocks:=[(2,⟨[6], [],[0],1, [], [], [], []⟩),(0,⟨[0,3], [], [],0, [], [], [], []⟩)],fid:=148,nilc:=true}
theorem qave:CfgOK Tryz.prog qavd:=cfgC qaut qauu trivial
theorem qavf {R:Type}:SubsOK Tryz.prog (R:=R) 1 qavc:=subsOK_0 Tryz.f165 qau9 (subsOK_nil _ _)
theorem qavg {R:Type}:LoopOK (R:=R) (hnd 1 qavc) qavd qavb (sub [1,1,0,1,0,0] qauv) (HS.V qaux) (HS.st qaux) (HS.sh qaux) qauy (hdOf qaux qauy):=loopOK_of qaux qauy (fun _ _=>rfl) (by intro q v K;kernel_rfl)
theorem qavh {R:Type}:LoopOK (R:=R) (hnd 1 qavc) qavd qavb (sub [1,1,1,1,0,1,0,0] qauv) (HS.V qauz) (HS.st qauz) (HS.sh qauz) qau0 (hdOf qauz qau0):=loopOK_of qauz qau0 (fun _ _=>rfl) (by intro q v K;kernel_rfl)
theorem qavi {R:Type}:LoopsOK (R:=R) (hnd 1 qavc) qavd qavb qauv:=loopsOK_of (l:=[sub [1,1,0,1,0,0] qauv,sub [1,1,1,1,0,1,0,0] qauv]) (by kernel_rfl) (loopsL_cons (b:=sub [1,1,0,1,0,0] qauv) (rid:=3) (by kernel_rfl) (by kernel_rfl) qavg (loopsL_cons (b:=sub [1,1,1,1,0,1,0,0] qauv) (rid:=11) (by kernel_rfl) (by kernel_rfl) qavh (trivial)))
theorem qavj:SpecOK Tryz.prog 148 qau7:=specOK_a Tryz.f148 qave qaus (d:=1) qavf qavi (rngs0 (by kernel_rfl)) (toY:=qau4)
end
end Go.Eng
set_option linter.unusedVariables false
set_option maxRecDepth 100000
namespace Go.Eng
noncomputable section
open Go Go.Proofs
def qavk:List (Nat×TI):=[(3,⟨false,1, .one (.int .i64 0), .int .i64⟩),(4,⟨false,1, .one (.bool false), .bool⟩),(9,⟨false,1, .one (.str []), .str⟩),(24,⟨true,4, .agg [.int .i64 0, .int .i64 0, .int .i64 0, .clip .inode []], .struct [(0,3),(1,3),(2,3),(3,22)]⟩),(34,⟨false,1, .one (.clip .entry []), .slice .entry 94⟩),(36,⟨true,6, .agg [.int .i64 0, .int .i64 0, .int .i64 0, .str [], .int .i64 0, .clip .entry []], .struct [(0,3),(1,3),(2,3),(3,9),(4,3),(5,34)]⟩),(41,⟨true,3, .agg [.int .i64 0, .str [], .int .i64 0], .struct [(0,3),(1,9),(2,3)]⟩),(46,⟨false,1, .one (.clip .str []), .slice .str 9⟩),(79,⟨true,3, .agg [.bool false, .clip .str [], .bool false], .struct [(0,4),(1,46),(2,4)]⟩),(121,⟨true,11, .agg [.int .i64 0, .int .i64 0, .int .i64 0, .clip .inode [], .bool false, .bool false, .clip .str [], .int .i64 0, .str [], .int .i64 0, .int .i64 0], .struct [(0,24),(4,4),(5,4),(6,46),(7,41),(10,3)]⟩),(163,⟨false,1, .one (.clip .strs []), .slice .strs 46⟩)]
def qavl:List (Nat×List EK):= []
theorem qavm:Tryz.prog.follows .mixedOrders=true:=by kernel_rfl
theorem qavn:(qavk.all fun x=>tiB Tryz.prog x.1 x.2)=true:=by kernel_rfl
theorem qavo:(qavl.all fun x=>eqB Tryz.prog x.1 x.2)=true:=by kernel_rfl
def qavp:Code:=bd Tryz.f38
def qavq:Code:=bd Tryz.f68
def qavr:Code:=bd Tryz.f69
def qavs:Code:=bd Tryz.f113
def qavt:Code:=bd Tryz.f114
def qavu:List HV:=[.agg hFs, .one (.str)]
def qavv:List HV:=[.one (.int .i64), .one (.int .i64)]
def qavw:HP.V qavu→Fs×Str:=fun v=>((cFs v.1),v.2.1)
def qavx:HX.V qavv→Int×Int:=fun v=>(v.1,v.2)
def qavy:(Int×Int)→HX.V qavv:=fun y=>(y.1,y.2)
def qavz:(Fs×Str)→Option (Int×Int):=fun x=>seek_Home x.1 x.2
def qav0:Spec:=mkSpec qavu qavv qavw qavy qavz
def qav1:Cfg:={T:=qavk,spec:=[(147,qaum)],glob:=GlobL.G Tryz.prog,eqs:=qavl,N:=24,fuel:=64,fid:=111}
theorem qav2:CfgOK Tryz.prog qav1:=cfgC qavn qavo ⟨qaup,trivial⟩
theorem qav3:SpecOK Tryz.prog 111 qav0:=specOK_0 Tryz.f111 qav2 qavm (toY:=qavx)
def qav4:HS:=⟨[(0, .one (.ptr 4 0)),(2, .one (.ptr 5 0)),(1000008, .one (.ptr 1 0))],[(1, .cells [.int .i64, .str, .int .i64]),(4, .cells [.int .i64, .int .i64, .int .i64, .sl .inode, .bool, .bool, .sl .str, .int .i64, .str, .int .i64, .int .i64]),(5, .cells [.int .i64, .str, .int .i64])],6⟩
def qav5 {R:Type}:Nat→HS.V qav4→(Ex→St→Option R)→Option R:=fun q v K=>
 seek_Seek_25_L1 v.2.2.1.1 v.2.2.1.2.1 v.2.2.1.2.2.1 v.2.2.1.2.2.2.1 v.2.2.1.2.2.2.2.1 (fun y36=>K .ret {regs:=[(2, .v (.one (.ptr 5 0))),(3, .v (.one (.int .i64 y36))),(1000008, .v (.one (.ptr 1 0)))],mem:=[(1, .cells [.int .i64 ((⟨v.2.1.1,v.2.1.2.1,v.2.1.2.2.1⟩:Spotted).dir), .str ((⟨v.2.1.1,v.2.1.2.1,v.2.1.2.2.1⟩:Spotted).name), .int .i64 ((⟨v.2.1.1,v.2.1.2.1,v.2.1.2.2.1⟩:Spotted).ino)]),(5, .cells [.int .i64 ((⟨0, [],0⟩:Spotted).dir), .str ((⟨0, [],0⟩:Spotted).name), .int .i64 ((⟨0, [],0⟩:Spotted).ino)])],nx:=6}) (fun y45 y46 y47 y48 y49 y50=>K (.exit 0) {regs:=[(0, .v (.one (.ptr 4 0))),(2, .v (.one (.ptr 5 0))),(1000008, .v (.one (.ptr 1 0)))],mem:=[(1, .cells [.int .i64 ((⟨v.2.1.1,v.2.1.2.1,v.2.1.2.2.1⟩:Spotted).dir), .str ((⟨v.2.1.1,v.2.1.2.1,v.2.1.2.2.1⟩:Spotted).name), .int .i64 ((⟨v.2.1.1,v.2.1.2.1,v.2.1.2.2.1⟩:Spotted).ino)]),(4, .cells [.int .i64 v.2.2.1.1, .int .i64 v.2.2.1.2.1, .int .i64 v.2.2.1.2.2.1, .sl .inode v.2.2.1.2.2.2.1, .bool v.2.2.1.2.2.2.2.1, .bool y45, .sl .str y46, .int .i64 y47, .str y48, .int .i64 y49, .int .i64 y50]),(5, .cells [.int .i64 ((⟨v.2.2.2.1.1,v.2.2.2.1.2.1,v.2.2.2.1.2.2.1⟩:Spotted).dir), .str ((⟨v.2.2.2.1.1,v.2.2.2.1.2.1,v.2.2.2.1.2.2.1⟩:Spotted).name), .int .i64 ((⟨v.2.2.2.1.1,v.2.2.2.1.2.1,v.2.2.2.1.2.2.1⟩:Spotted).ino)])],nx:=6}) q v.2.2.1.2.2.2.2.2.1 v.2.2.1.2.2.2.2.2.2.1 v.2.2.1.2.2.2.2.2.2.2.1 v.2.2.1.2.2.2.2.2.2.2.2.1 v.2.2.1.2.2.2.2.2.2.2.2.2.1 v.2.2.1.2.2.2.2.2.2.2.2.2.2.1
def qav6:List HV:=[.agg hFs, .one (.str), .one (.str), .one (.bool)]
def qav7:List HV:=[.agg [.int .i64, .str, .int .i64], .one (.int .i64)]
def qav8:HP.V qav6→Fs×Str×Str×Bool:=fun v=>((cFs v.1),v.2.1,v.2.2.1,v.2.2.2.1)
def qav9:HX.V qav7→Spotted×Int:=fun v=>((⟨v.1.1,v.1.2.1,v.1.2.2.1⟩:Spotted),v.2)
def qawa:(Spotted×Int)→HX.V qav7:=fun y=>((y.1.dir,(y.1.name,(y.1.ino,()))),y.2)
def qawb:(Fs×Str×Str×Bool)→Option (Spotted×Int):=fun x=>seek_Seek x.1 x.2.1 x.2.2.1 x.2.2.2
def qawc:Spec:=mkSpec qav6 qav7 qav8 qawa qawb
def qawd:Cfg:={T:=qavk,spec:=[(71,qadv),(110,qahl),(111,qav0)],glob:=GlobL.G Tryz.prog,eqs:=qavl,N:=49,fuel:=64,fid:=68}
theorem qawe:CfgOK Tryz.prog qawd:=cfgC qavn qavo ⟨qahc,⟨qaj4,⟨qav3,trivial⟩⟩⟩
def qawf {R:Type}:Inl R:= .mk 68 qawd [] qavq Tryz.f68.results.toList []
def qawg:Cfg:={T:=qavk,spec:=[(39,qasl),(71,qadv),(110,qahl),(112,qacn)],glob:=GlobL.G Tryz.prog,eqs:=qavl,N:=70,fuel:=64,fid:=113,gns:=[(148,qau7)]}
theorem qawh:CfgOK Tryz.prog qawg:=cfgC qavn qavo ⟨qaso,⟨qahc,⟨qaj4,⟨qacq,trivial⟩⟩⟩⟩ (gn:=⟨qavj,trivial⟩)
def qawi {R:Type}:Inl R:= .mk 113 qawg [] qavs Tryz.f113.results.toList []
def qawj:Cfg:={T:=qavk,spec:=[(39,qasl),(112,qacn)],glob:=GlobL.G Tryz.prog,eqs:=qavl,N:=36,fuel:=64,fid:=114}
theorem qawk:CfgOK Tryz.prog qawj:=cfgC qavn qavo ⟨qaso,⟨qacq,trivial⟩⟩
def qawl {R:Type}:Inl R:= .mk 114 qawj [] qavt Tryz.f114.results.toList []
def qawm {R:Type}:List (Nat×Hd R):=[(1,hdOf qav4 qav5)]
def qawn {R:Type}:List (Nat×Inl R):=[(114,qawi),(128,qawl)]
def qawo:Cfg:={T:=qavk,spec:=[(39,qasl),(112,qacn)],glob:=GlobL.G Tryz.prog,eqs:=qavl,N:=131,fuel:=64,loops:=[(1,⟨[0,2,1000008], [],[1,4,5],6, [], [], [], []⟩)],blocks:=[(0,⟨[0,2,1000008], [],[1,4,5],6, [], [], [], []⟩)],retA:=some ⟨[2,3,1000008], [],[1,5],6, [], [], [], []⟩,fid:=69}
theorem qawp:CfgOK Tryz.prog qawo:=cfgC qavn qavo ⟨qaso,⟨qacq,trivial⟩⟩
theorem qawq {R:Type}:SubsOK Tryz.prog (R:=R) 1 qawn:=subsOK_0 Tryz.f113 qawh (subsOK_0 Tryz.f114 qawk (subsOK_nil _ _))
theorem qawr {R:Type}:LoopOK (R:=R) (hnd 1 qawn) qawo qawm (sub [1,0,1,0,0,0] qavr) (HS.V qav4) (HS.st qav4) (HS.sh qav4) qav5 (hdOf qav4 qav5):=loopOK_of qav4 qav5 (fun _ _=>rfl) (by intro q v K;kernel_rfl)
theorem qaws {R:Type}:LoopsOK (R:=R) (hnd 1 qawn) qawo qawm qavr:=loopsOK_of (l:=[sub [1,0,1,0,0,0] qavr]) (by kernel_rfl) (loopsL_cons (b:=sub [1,0,1,0,0,0] qavr) (rid:=1) (by kernel_rfl) (by kernel_rfl) qawr (trivial))
def qawt {R:Type}:Inl R:= .mk 69 qawo qawm qavr Tryz.f69.results.toList qawn
def qawu {R:Type}:List (Nat×Hd R):= []
def qawv {R:Type}:List (Nat×Inl R):=[(17,qawf),(25,qawt)]
def qaww:Cfg:={T:=qavk,glob:=GlobL.G Tryz.prog,eqs:=qavl,N:=28,fuel:=64,fid:=38}
theorem qawx:CfgOK Tryz.prog qaww:=cfgC qavn qavo trivial
theorem qawy {R:Type}:SubsOK Tryz.prog (R:=R) 2 qawv:=subsOK_0 Tryz.f68 qawe (subsOK_a Tryz.f69 qawp qaws (rngs0 (by kernel_rfl)) qawq (subsOK_nil _ _))
theorem qawz {R:Type}:LoopsOK (R:=R) (hnd 2 qawv) qaww qawu qavp:=loopsOK_of (l:= []) (by kernel_rfl) (trivial)
theorem qaw0:SpecOK Tryz.prog 38 qawc:=specOK_a Tryz.f38 qawx qavm (d:=2) qawy qawz (rngs0 (by kernel_rfl)) (toY:=qav9)
end
end Go.Eng
set_option linter.unusedVariables false
set_option maxRecDepth 100000
namespace Go.Eng
noncomputable section
open Go Go.Proofs
def qaw1:List (Nat×TI):=[(3,⟨false,1, .one (.int .i64 0), .int .i64⟩),(4,⟨false,1, .one (.bool false), .bool⟩),(9,⟨false,1, .one (.str []), .str⟩),(24,⟨true,4, .agg [.int .i64 0, .int .i64 0, .int .i64 0, .clip .inode []], .struct [(0,3),(1,3),(2,3),(3,22)]⟩),(34,⟨false,1, .one (.clip .entry []), .slice .entry 94⟩),(36,⟨true,6, .agg [.int .i64 0, .int .i64 0, .int .i64 0, .str [], .int .i64 0, .clip .entry []], .struct [(0,3),(1,3),(2,3),(3,9),(4,3),(5,34)]⟩),(41,⟨true,3, .agg [.int .i64 0, .str [], .int .i64 0], .struct [(0,3),(1,9),(2,3)]⟩),(79,⟨true,3, .agg [.bool false, .clip .str [], .bool false], .struct [(0,4),(1,46),(2,4)]⟩)]
def qaw2:List (Nat×List EK):= []
theorem qaw3:Tryz.prog.follows .mixedOrders=true:=by kernel_rfl
theorem qaw4:(qaw1.all fun x=>tiB Tryz.prog x.1 x.2)=true:=by kernel_rfl
theorem qaw5:(qaw2.all fun x=>eqB Tryz.prog x.1 x.2)=true:=by kernel_rfl
def qaw6:List HV:=[.agg hFs, .agg [.int .i64, .str, .int .i64]]
def qaw7:List HV:=[.agg hFs]
def qaw8:HP.V qaw6→Fs×Spotted:=fun v=>((cFs v.1),(⟨v.2.1.1,v.2.1.2.1,v.2.1.2.2.1⟩:Spotted))
def qaw9:HX.V qaw7→Fs:=fun v=>((cFs v))
def qaxa:Fs→HX.V qaw7:=fun y=>((y.maxInodes,(y.maxBytes,(y.next,(y.inodes,())))))
def qaxb:(Fs×Spotted)→Option (Fs):=fun x=>drop_Unname x.1 x.2
def qaxc:Spec:=mkSpec qaw6 qaw7 qaw8 qaxa qaxb
def qaxd:Cfg:={T:=qaw1,spec:=[(39,qasl),(49,qabm),(50,qasv),(77,qatf)],glob:=GlobL.G Tryz.prog,eqs:=qaw2,N:=46,fuel:=64,fid:=48}
theorem qaxe:CfgOK Tryz.prog qaxd:=cfgC qaw4 qaw5 ⟨qaso,⟨qabw,⟨qas8,⟨qats,trivial⟩⟩⟩⟩
theorem qaxf:SpecOK Tryz.prog 48 qaxc:=specOK_0 Tryz.f48 qaxe qaw3 (toY:=qaw9)
end
end Go.Eng
set_option linter.unusedVariables false
set_option maxRecDepth 100000
namespace Go.Eng
noncomputable section
open Go Go.Proofs
def qaxg:List (Nat×TI):=[(3,⟨false,1, .one (.int .i64 0), .int .i64⟩),(4,⟨false,1, .one (.bool false), .bool⟩),(9,⟨false,1, .one (.str []), .str⟩),(22,⟨false,1, .one (.clip .inode []), .slice .inode 36⟩),(24,⟨true,4, .agg [.int .i64 0, .int .i64 0, .int .i64 0, .clip .inode []], .struct [(0,3),(1,3),(2,3),(3,22)]⟩),(34,⟨false,1, .one (.clip .entry []), .slice .entry 94⟩),(36,⟨true,6, .agg [.int .i64 0, .int .i64 0, .int .i64 0, .str [], .int .i64 0, .clip .entry []], .struct [(0,3),(1,3),(2,3),(3,9),(4,3),(5,34)]⟩),(41,⟨true,3, .agg [.int .i64 0, .str [], .int .i64 0], .struct [(0,3),(1,9),(2,3)]⟩),(79,⟨true,3, .agg [.bool false, .clip .str [], .bool false], .struct [(0,4),(1,46),(2,4)]⟩)]
def qaxh:List (Nat×List EK):= []
theorem qaxi:Tryz.prog.follows .mixedOrders=true:=by kernel_rfl
theorem qaxj:(qaxg.all fun x=>tiB Tryz.prog x.1 x.2)=true:=by kernel_rfl
theorem qaxk:(qaxh.all fun x=>eqB Tryz.prog x.1 x.2)=true:=by kernel_rfl
def qaxl:Code:=bd Tryz.f19
def qaxm:HS:=⟨[(1, .one (.int .i64)),(2, .one (.int .i64)),(3, .one (.ptr 0 0)),(7, .one (.bool)),(12, .one (.int .i64)),(13, .one (.int .i64))],[(0, .cells hFs)],1⟩
def qaxn {R:Type}:Nat→HS.V qaxm→(Ex→St→Option R)→Option R:=fun q v K=>
 move_Inside_L3 v.1.2.1 v.1.2.2.2.1 v.1.2.2.2.2.1 (cFs v.2.1) (fun y8=>K (.exit 0) {regs:=[(7, .v (.one (.bool y8)))],mem:= [],nx:=0}) q v.1.1 v.1.2.2.2.2.2.1
def qaxo:List HV:=[.agg hFs, .one (.int .i64), .one (.int .i64)]
def qaxp:List HV:=[.one (.bool)]
def qaxq:HP.V qaxo→Fs×Int×Int:=fun v=>((cFs v.1),v.2.1,v.2.2.1)
def qaxr:HX.V qaxp→Bool:=fun v=>(v)
def qaxs:Bool→HX.V qaxp:=fun y=>(y)
def qaxt:(Fs×Int×Int)→Option (Bool):=fun x=>move_Inside x.1 x.2.1 x.2.2
def qaxu:Spec:=mkSpec qaxo qaxp qaxq qaxs qaxt
def qaxv {R:Type}:List (Nat×Hd R):=[(3,hdOf qaxm qaxn)]
def qaxw {R:Type}:List (Nat×Inl R):= []
def qaxx:Cfg:={T:=qaxg,spec:=[(39,qasl)],glob:=GlobL.G Tryz.prog,eqs:=qaxh,N:=32,fuel:=64,loops:=[(3,⟨[1,2,3,7,12,13], [],[0],1, [], [], [], []⟩)],blocks:=[(0,⟨[7], [], [],0, [], [], [], []⟩)],fid:=19}
theorem qaxy:CfgOK Tryz.prog qaxx:=cfgC qaxj qaxk ⟨qaso,trivial⟩
theorem qaxz {R:Type}:SubsOK Tryz.prog (R:=R) 0 qaxw:=subsOK_nil _ _
theorem qax0 {R:Type}:LoopOK (R:=R) (hnd 0 qaxw) qaxx qaxv (sub [1,0,1,1,0,1,0,0] qaxl) (HS.V qaxm) (HS.st qaxm) (HS.sh qaxm) qaxn (hdOf qaxm qaxn):=loopOK_of qaxm qaxn (fun _ _=>rfl) (by intro q v K;kernel_rfl)
theorem qax1 {R:Type}:LoopsOK (R:=R) (hnd 0 qaxw) qaxx qaxv qaxl:=loopsOK_of (l:=[sub [1,0,1,1,0,1,0,0] qaxl]) (by kernel_rfl) (loopsL_cons (b:=sub [1,0,1,1,0,1,0,0] qaxl) (rid:=3) (by kernel_rfl) (by kernel_rfl) qax0 (trivial))
theorem qax2:SpecOK Tryz.prog 19 qaxu:=specOK_a Tryz.f19 qaxy qaxi (d:=0) qaxz qax1 (rngs0 (by kernel_rfl)) (toY:=qaxr)
def qax3:List HV:=[.agg hFs, .agg [.int .i64, .str, .int .i64], .agg [.int .i64, .str, .int .i64]]
def qax4:List HV:=[.agg hFs]
def qax5:HP.V qax3→Fs×Spotted×Spotted:=fun v=>((cFs v.1),(⟨v.2.1.1,v.2.1.2.1,v.2.1.2.2.1⟩:Spotted),(⟨v.2.2.1.1,v.2.2.1.2.1,v.2.2.1.2.2.1⟩:Spotted))
def qax6:HX.V qax4→Fs:=fun v=>((cFs v))
def qax7:Fs→HX.V qax4:=fun y=>((y.maxInodes,(y.maxBytes,(y.next,(y.inodes,())))))
def qax8:(Fs×Spotted×Spotted)→Option (Fs):=fun x=>move_Move x.1 x.2.1 x.2.2
def qax9:Spec:=mkSpec qax3 qax4 qax5 qax7 qax8
def qaya:Cfg:={T:=qaxg,spec:=[(39,qasl),(48,qaxc),(49,qabm),(50,qasv),(51,qab3)],glob:=GlobL.G Tryz.prog,eqs:=qaxh,N:=69,fuel:=64,fid:=22}
theorem qayb:CfgOK Tryz.prog qaya:=cfgC qaxj qaxk ⟨qaso,⟨qaxf,⟨qabw,⟨qas8,⟨qacg,trivial⟩⟩⟩⟩⟩
theorem qayc:SpecOK Tryz.prog 22 qax9:=specOK_0 Tryz.f22 qayb qaxi (toY:=qax6)
def qayd:List HV:=[.agg hIn, .agg hIn]
def qaye:List HV:=[.one (.int .i64)]
def qayf:HP.V qayd→Inode×Inode:=fun v=>((cIn v.1),(cIn v.2.1))
def qayg:HX.V qaye→Int:=fun v=>(v)
def qayh:Int→HX.V qaye:=fun y=>(y)
def qayi:(Inode×Inode)→Option (Int):=fun x=>move_over x.1 x.2
def qayj:Spec:=mkSpec qayd qaye qayf qayh qayi
def qayk:Cfg:={T:=qaxg,glob:=GlobL.G Tryz.prog,eqs:=qaxh,N:=28,fuel:=64,fid:=40}
theorem qayl:CfgOK Tryz.prog qayk:=cfgC qaxj qaxk trivial
theorem qaym:SpecOK Tryz.prog 40 qayj:=specOK_0 Tryz.f40 qayl qaxi (toY:=qayg)
def qayn:List HV:=[.agg hIn, .one (.str), .one (.str)]
def qayo:List HV:=[.one (.int .i64)]
def qayp:HP.V qayn→Inode×Str×Str:=fun v=>((cIn v.1),v.2.1,v.2.2.1)
def qayq:HX.V qayo→Int:=fun v=>(v)
def qayr:Int→HX.V qayo:=fun y=>(y)
def qays:(Inode×Str×Str)→Option (Int):=fun x=>move_fresh x.1 x.2.1 x.2.2
def qayt:Spec:=mkSpec qayn qayo qayp qayr qays
def qayu:Cfg:={T:=qaxg,spec:=[(71,qadv),(72,qame)],glob:=GlobL.G Tryz.prog,eqs:=qaxh,N:=20,fuel:=64,fid:=41}
theorem qayv:CfgOK Tryz.prog qayu:=cfgC qaxj qaxk ⟨qahc,⟨qamh,trivial⟩⟩
theorem qayw:SpecOK Tryz.prog 41 qayt:=specOK_0 Tryz.f41 qayv qaxi (toY:=qayq)
def qayx:List HV:=[.agg hFs, .one (.str), .one (.str), .one (.str)]
def qayy:List HV:=[.agg hFs, .one (.int .i64)]
def qayz:HP.V qayx→Fs×Str×Str×Str:=fun v=>((cFs v.1),v.2.1,v.2.2.1,v.2.2.2.1)
def qay0:HX.V qayy→Fs×Int:=fun v=>((cFs v.1),v.2)
def qay1:(Fs×Int)→HX.V qayy:=fun y=>((y.1.maxInodes,(y.1.maxBytes,(y.1.next,(y.1.inodes,())))),y.2)
def qay2:(Fs×Str×Str×Str)→Option (Fs×Int):=fun x=>move_Rename x.1 x.2.1 x.2.2.1 x.2.2.2
def qay3:Spec:=mkSpec qayx qayy qayz qay1 qay2
def qay4:Cfg:={T:=qaxg,spec:=[(19,qaxu),(22,qax9),(38,qawc),(39,qasl),(40,qayj),(41,qayt)],glob:=GlobL.G Tryz.prog,eqs:=qaxh,N:=107,fuel:=64,fid:=14}
theorem qay5:CfgOK Tryz.prog qay4:=cfgC qaxj qaxk ⟨qax2,⟨qayc,⟨qaw0,⟨qaso,⟨qaym,⟨qayw,trivial⟩⟩⟩⟩⟩⟩
theorem qay6:SpecOK Tryz.prog 14 qay3:=specOK_0 Tryz.f14 qay5 qaxi (toY:=qay0)
end
end Go.Eng
set_option linter.unusedVariables false
set_option maxRecDepth 100000
namespace Go.Eng
noncomputable section
open Go Go.Proofs
def qay7:List (Nat×TI):=[(4,⟨false,1, .one (.bool false), .bool⟩),(9,⟨false,1, .one (.str []), .str⟩),(46,⟨false,1, .one (.clip .str []), .slice .str 9⟩),(79,⟨true,3, .agg [.bool false, .clip .str [], .bool false], .struct [(0,4),(1,46),(2,4)]⟩)]
def qay8:List (Nat×List EK):= []
theorem qay9:Tryz.prog.follows .mixedOrders=true:=by kernel_rfl
theorem qaza:(qay7.all fun x=>tiB Tryz.prog x.1 x.2)=true:=by kernel_rfl
theorem qazb:(qay8.all fun x=>eqB Tryz.prog x.1 x.2)=true:=by kernel_rfl
def qazc:Code:=bd Tryz.f24
def qazd:Code:=bd Tryz.f44
def qaze:Code:=bd Tryz.f56
def qazf:Code:=bd Tryz.f57
def qazg:Code:=bd Tryz.f73
def qazh:HS:=⟨[(0, .one (.str)),(3, .one (.int .i64))], [],0⟩
def qazi {R:Type}:Nat→HS.V qazh→(Ex→St→Option R)→Option R:=fun q v K=>
 ref03_May_L2 v.1.1 (K .ret {regs:=[(2, .v (.one (.bool false)))],mem:= [],nx:=0}) (K (.exit 0) {regs:=[(0, .v (.one (.str v.1.1)))],mem:= [],nx:=0}) q v.1.2.1
def qazj:List HV:=[.one (.str)]
def qazk:List HV:=[.one (.bool)]
def qazl:HP.V qazj→Str:=fun v=>(v.1)
def qazm:HX.V qazk→Bool:=fun v=>(v)
def qazn:Bool→HX.V qazk:=fun y=>(y)
def qazo:Str→Option (Bool):=fun x=>ref03_May x
def qazp:Spec:=mkSpec qazj qazk qazl qazn qazo
def qazq {R:Type}:List (Nat×Hd R):=[(2,hdOf qazh qazi)]
def qazr {R:Type}:List (Nat×Inl R):= []
def qazs:Cfg:={T:=qay7,glob:=GlobL.G Tryz.prog,eqs:=qay8,N:=36,fuel:=64,loops:=[(2,⟨[0,3], [], [],0, [], [], [], []⟩)],blocks:=[(0,⟨[0], [], [],0, [], [], [], []⟩)],retA:=some ⟨[2], [], [],0, [], [], [], []⟩,fid:=44}
theorem qazt:CfgOK Tryz.prog qazs:=cfgC qaza qazb trivial
theorem qazu {R:Type}:SubsOK Tryz.prog (R:=R) 0 qazr:=subsOK_nil _ _
theorem qazv {R:Type}:LoopOK (R:=R) (hnd 0 qazr) qazs qazq (sub [1,0,1,0,0] qazd) (HS.V qazh) (HS.st qazh) (HS.sh qazh) qazi (hdOf qazh qazi):=loopOK_of qazh qazi (fun _ _=>rfl) (by intro q v K;kernel_rfl)
theorem qazw {R:Type}:LoopsOK (R:=R) (hnd 0 qazr) qazs qazq qazd:=loopsOK_of (l:=[sub [1,0,1,0,0] qazd]) (by kernel_rfl) (loopsL_cons (b:=sub [1,0,1,0,0] qazd) (rid:=2) (by kernel_rfl) (by kernel_rfl) qazv (trivial))
theorem qazx:SpecOK Tryz.prog 44 qazp:=specOK_a Tryz.f44 qazt qay9 (d:=0) qazu qazw (rngs0 (by kernel_rfl)) (toY:=qazm)
def qazy:HS:=⟨[(0, .one (.str)),(3, .one (.own 0)),(4, .one (.str)),(5, .one (.int .i64))],[(0, .row .str)],1⟩
def qazz {R:Type}:Nat→HS.V qazy→(Ex→St→Option R)→Option R:=fun q v K=>
 ref03_Names_L4 v.1.1 (fun y6=>K (.exit 0) {regs:=[(3, .v (.one (.own 0)))],mem:=[(0, .row .str y6)],nx:=1}) q v.1.2.2.1 v.1.2.2.2.1 v.2.1
def qaz0:List HV:=[.one (.str)]
def qaz1:List HV:=[.one (.sl .str)]
def qaz2:HP.V qaz0→Str:=fun v=>(v.1)
def qaz3:HX.V qaz1→(List Str):=fun v=>(v)
def qaz4:(List Str)→HX.V qaz1:=fun y=>(y)
def qaz5:Str→Option ((List Str)):=fun x=>ref03_Names x
def qaz6:Spec:=mkSpec qaz0 qaz1 qaz2 qaz4 qaz5
def qaz7 {R:Type}:List (Nat×Hd R):=[(4,hdOf qazy qazz)]
def qaz8 {R:Type}:List (Nat×Inl R):= []
def qaz9:Cfg:={T:=qay7,glob:=GlobL.G Tryz.prog,eqs:=qay8,N:=36,fuel:=64,loops:=[(4,⟨[0,3,4,5],[(3,0, .str)],[0],1, [], [], [], []⟩)],blocks:=[(0,⟨[3], [],[0],1, [], [], [], []⟩)],fid:=56}
theorem qa0a:CfgOK Tryz.prog qaz9:=cfgC qaza qazb trivial
theorem qa0b {R:Type}:SubsOK Tryz.prog (R:=R) 0 qaz8:=subsOK_nil _ _
theorem qa0c {R:Type}:LoopOK (R:=R) (hnd 0 qaz8) qaz9 qaz7 (sub [1,1,1,0,1,0,0] qaze) (HS.V qazy) (HS.st qazy) (HS.sh qazy) qazz (hdOf qazy qazz):=loopOK_of qazy qazz (fun _ _=>rfl) (by intro q v K;kernel_rfl)
theorem qa0d {R:Type}:LoopsOK (R:=R) (hnd 0 qaz8) qaz9 qaz7 qaze:=loopsOK_of (l:=[sub [1,1,1,0,1,0,0] qaze]) (by kernel_rfl) (loopsL_cons (b:=sub [1,1,1,0,1,0,0] qaze) (rid:=4) (by kernel_rfl) (by kernel_rfl) qa0c (trivial))
theorem qa0e:SpecOK Tryz.prog 56 qaz6:=specOK_a Tryz.f56 qa0a qay9 (d:=0) qa0b qa0d (rngs0 (by kernel_rfl)) (toY:=qaz3)
def qa0f:HS:=⟨[(0, .one (.sl .str)),(3, .one (.str)),(4, .one (.int .i64))], [],0⟩
def qa0g {R:Type}:Nat→HS.V qa0f→(Ex→St→Option R)→Option R:=fun q v K=>
 ref03_Join_L5 v.1.1 (fun y5=>K (.exit 0) {regs:=[(3, .v (.one (.str y5)))],mem:= [],nx:=0}) q v.1.2.1 v.1.2.2.1
def qa0h:List HV:=[.one (.sl .str)]
def qa0i:List HV:=[.one (.str)]
def qa0j:HP.V qa0h→(List Str):=fun v=>(v.1)
def qa0k:HX.V qa0i→Str:=fun v=>(v)
def qa0l:Str→HX.V qa0i:=fun y=>(y)
def qa0m:(List Str)→Option (Str):=fun x=>ref03_Join x
def qa0n:Spec:=mkSpec qa0h qa0i qa0j qa0l qa0m
def qa0o {R:Type}:List (Nat×Hd R):=[(5,hdOf qa0f qa0g)]
def qa0p {R:Type}:List (Nat×Inl R):= []
def qa0q:Cfg:={T:=qay7,glob:=GlobL.G Tryz.prog,eqs:=qay8,N:=22,fuel:=64,loops:=[(5,⟨[0,3,4], [], [],0, [], [], [], []⟩)],blocks:=[(0,⟨[3], [], [],0, [], [], [], []⟩)],fid:=57}
theorem qa0r:CfgOK Tryz.prog qa0q:=cfgC qaza qazb trivial
theorem qa0s {R:Type}:SubsOK Tryz.prog (R:=R) 0 qa0p:=subsOK_nil _ _
theorem qa0t {R:Type}:LoopOK (R:=R) (hnd 0 qa0p) qa0q qa0o (sub [1,1,1,0,1,0,0] qazf) (HS.V qa0f) (HS.st qa0f) (HS.sh qa0f) qa0g (hdOf qa0f qa0g):=loopOK_of qa0f qa0g (fun _ _=>rfl) (by intro q v K;kernel_rfl)
theorem qa0u {R:Type}:LoopsOK (R:=R) (hnd 0 qa0p) qa0q qa0o qazf:=loopsOK_of (l:=[sub [1,1,1,0,1,0,0] qazf]) (by kernel_rfl) (loopsL_cons (b:=sub [1,1,1,0,1,0,0] qazf) (rid:=5) (by kernel_rfl) (by kernel_rfl) qa0t (trivial))
theorem qa0v:SpecOK Tryz.prog 57 qa0n:=specOK_a Tryz.f57 qa0r qay9 (d:=0) qa0s qa0u (rngs0 (by kernel_rfl)) (toY:=qa0k)
def qa0w:HS:=⟨[(0, .one (.str)),(4, .one (.sl .str)),(5, .one (.int .i64))], [],0⟩
def qa0x {R:Type}:Nat→HS.V qa0w→(Ex→St→Option R)→Option R:=fun q v K=>
 ref03_Plain_L3 v.1.2.1 (K .ret {regs:=[(2, .v (.one (.clip .str ([] :List Str)))),(3, .v (.one (.bool false)))],mem:= [],nx:=0}) (K (.exit 0) {regs:=[(0, .v (.one (.str v.1.1))),(4, .v (.one (.sl .str v.1.2.1)))],mem:= [],nx:=0}) q v.1.2.2.1
def qa0y:List HV:=[.one (.str)]
def qa0z:List HV:=[.one (.sl .str), .one (.bool)]
def qa00:HP.V qa0y→Str:=fun v=>(v.1)
def qa01:HX.V qa0z→(List Str)×Bool:=fun v=>(v.1,v.2)
def qa02:(List Str)×Bool→HX.V qa0z:=fun y=>(y.1,y.2)
def qa03:Str→Option ((List Str)×Bool):=fun x=>ref03_Plain x
def qa04:Spec:=mkSpec qa0y qa0z qa00 qa02 qa03
def qa05 {R:Type}:List (Nat×Hd R):=[(3,hdOf qa0w qa0x)]
def qa06 {R:Type}:List (Nat×Inl R):= []
def qa07:Cfg:={T:=qay7,spec:=[(44,qazp),(56,qaz6),(57,qa0n)],glob:=GlobL.G Tryz.prog,eqs:=qay8,N:=25,fuel:=64,loops:=[(3,⟨[0,4,5], [], [],0, [], [], [], []⟩)],blocks:=[(0,⟨[0,4], [], [],0, [], [], [], []⟩)],retA:=some ⟨[2,3], [], [],0, [], [], [], []⟩,fid:=24}
theorem qa08:CfgOK Tryz.prog qa07:=cfgC qaza qazb ⟨qazx,⟨qa0e,⟨qa0v,trivial⟩⟩⟩
theorem qa09 {R:Type}:SubsOK Tryz.prog (R:=R) 0 qa06:=subsOK_nil _ _
theorem qa1a {R:Type}:LoopOK (R:=R) (hnd 0 qa06) qa07 qa05 (sub [1,1,0,1,0,0] qazc) (HS.V qa0w) (HS.st qa0w) (HS.sh qa0w) qa0x (hdOf qa0w qa0x):=loopOK_of qa0w qa0x (fun _ _=>rfl) (by intro q v K;kernel_rfl)
theorem qa1b {R:Type}:LoopsOK (R:=R) (hnd 0 qa06) qa07 qa05 qazc:=loopsOK_of (l:=[sub [1,1,0,1,0,0] qazc]) (by kernel_rfl) (loopsL_cons (b:=sub [1,1,0,1,0,0] qazc) (rid:=3) (by kernel_rfl) (by kernel_rfl) qa1a (trivial))
theorem qa1c:SpecOK Tryz.prog 24 qa04:=specOK_a Tryz.f24 qa08 qay9 (d:=0) qa09 qa1b (rngs0 (by kernel_rfl)) (toY:=qa01)
def qa1d:List HV:=[.one (.str)]
def qa1e:List HV:=[.agg [.bool, .sl .str, .bool]]
def qa1f:HP.V qa1d→Str:=fun v=>(v.1)
def qa1g:HX.V qa1e→Pth:=fun v=>((⟨v.1,v.2.1,v.2.2.1⟩:Pth))
def qa1h:Pth→HX.V qa1e:=fun y=>((y.abs,(y.names,(y.slash,()))))
def qa1i:Str→Option (Pth):=fun x=>ref03_Read x
def qa1j:Spec:=mkSpec qa1d qa1e qa1f qa1h qa1i
def qa1k:Cfg:={T:=qay7,spec:=[(56,qaz6)],glob:=GlobL.G Tryz.prog,eqs:=qay8,N:=30,fuel:=64,fid:=43}
theorem qa1l:CfgOK Tryz.prog qa1k:=cfgC qaza qazb ⟨qa0e,trivial⟩
theorem qa1m:SpecOK Tryz.prog 43 qa1j:=specOK_0 Tryz.f43 qa1l qay9 (toY:=qa1g)
def qa1n:HS:=⟨[(0, .one (.str)),(3, .one (.sl .str)),(4, .one (.int .i64))], [],0⟩
def qa1o {R:Type}:Nat→HS.V qa1n→(Ex→St→Option R)→Option R:=fun q v K=>
 ref03_Long_L3 v.1.2.1 (K .ret {regs:=[(2, .v (.one (.bool true)))],mem:= [],nx:=0}) (K (.exit 0) {regs:=[(0, .v (.one (.str v.1.1)))],mem:= [],nx:=0}) q v.1.2.2.1
def qa1p:List HV:=[.one (.str)]
def qa1q:List HV:=[.one (.bool)]
def qa1r:HP.V qa1p→Str:=fun v=>(v.1)
def qa1s:HX.V qa1q→Bool:=fun v=>(v)
def qa1t:Bool→HX.V qa1q:=fun y=>(y)
def qa1u:Str→Option (Bool):=fun x=>ref03_Long x
def qa1v:Spec:=mkSpec qa1p qa1q qa1r qa1t qa1u
def qa1w {R:Type}:List (Nat×Hd R):=[(3,hdOf qa1n qa1o)]
def qa1x {R:Type}:List (Nat×Inl R):= []
def qa1y:Cfg:={T:=qay7,spec:=[(56,qaz6)],glob:=GlobL.G Tryz.prog,eqs:=qay8,N:=22,fuel:=64,loops:=[(3,⟨[0,3,4], [], [],0, [], [], [], []⟩)],blocks:=[(0,⟨[0], [], [],0, [], [], [], []⟩)],retA:=some ⟨[2], [], [],0, [], [], [], []⟩,fid:=73}
theorem qa1z:CfgOK Tryz.prog qa1y:=cfgC qaza qazb ⟨qa0e,trivial⟩
theorem qa10 {R:Type}:SubsOK Tryz.prog (R:=R) 0 qa1x:=subsOK_nil _ _
theorem qa11 {R:Type}:LoopOK (R:=R) (hnd 0 qa1x) qa1y qa1w (sub [1,1,0,1,0,0] qazg) (HS.V qa1n) (HS.st qa1n) (HS.sh qa1n) qa1o (hdOf qa1n qa1o):=loopOK_of qa1n qa1o (fun _ _=>rfl) (by intro q v K;kernel_rfl)
theorem qa12 {R:Type}:LoopsOK (R:=R) (hnd 0 qa1x) qa1y qa1w qazg:=loopsOK_of (l:=[sub [1,1,0,1,0,0] qazg]) (by kernel_rfl) (loopsL_cons (b:=sub [1,1,0,1,0,0] qazg) (rid:=3) (by kernel_rfl) (by kernel_rfl) qa11 (trivial))
theorem qa13:SpecOK Tryz.prog 73 qa1v:=specOK_a Tryz.f73 qa1z qay9 (d:=0) qa10 qa12 (rngs0 (by kernel_rfl)) (toY:=qa1s)
end
end Go.Eng
set_option linter.unusedVariables false
set_option maxRecDepth 100000
namespace Go.Eng
noncomputable section
open Go Go.Proofs
def qa14:List (Nat×TI):=[(3,⟨false,1, .one (.int .i64 0), .int .i64⟩),(9,⟨false,1, .one (.str []), .str⟩),(34,⟨false,1, .one (.clip .entry []), .slice .entry 94⟩),(94,⟨true,2, .agg [.str [], .int .i64 0], .struct [(0,9),(1,3)]⟩)]
def qa15:List (Nat×List EK):=[(94,[.s, .i])]
theorem qa16:Tryz.prog.follows .mixedOrders=true:=by kernel_rfl
theorem qa17:(qa14.all fun x=>tiB Tryz.prog x.1 x.2)=true:=by kernel_rfl
theorem qa18:(qa15.all fun x=>eqB Tryz.prog x.1 x.2)=true:=by kernel_rfl
def qa19:Code:=bd Tryz.f47
def qa2a:Code:=bd Tryz.f53
def qa2b:Code:=bd Tryz.f55
def qa2c:Code:=bd Tryz.f85
def qa2d:Code:=bd Tryz.f123
def qa2e:HS:=⟨[(0, .one (.sl .entry)),(1, .one (.sl .entry)),(5, .one (.int .i64))], [],0⟩
def qa2f {R:Type}:Nat→HS.V qa2e→(Ex→St→Option R)→Option R:=fun q v K=>
 ref04_Same_L4 v.1.1 v.1.2.1 (K .ret {regs:=[(4, .v (.one (.bool false)))],mem:= [],nx:=0}) (K (.exit 0) {regs:= [],mem:= [],nx:=0}) q v.1.2.2.1
def qa2g:List HV:=[.one (.sl .entry), .one (.sl .entry)]
def qa2h:List HV:=[.one (.bool)]
def qa2i:HP.V qa2g→(List Entry)×(List Entry):=fun v=>(v.1,v.2.1)
def qa2j:HX.V qa2h→Bool:=fun v=>(v)
def qa2k:Bool→HX.V qa2h:=fun y=>(y)
def qa2l:(List Entry)×(List Entry)→Option (Bool):=fun x=>ref04_Same x.1 x.2
def qa2m:Spec:=mkSpec qa2g qa2h qa2i qa2k qa2l
def qa2n {R:Type}:List (Nat×Hd R):=[(4,hdOf qa2e qa2f)]
def qa2o {R:Type}:List (Nat×Inl R):= []
def qa2p:Cfg:={T:=qa14,glob:=GlobL.G Tryz.prog,eqs:=qa15,N:=26,fuel:=64,loops:=[(4,⟨[0,1,5], [], [],0, [], [], [], []⟩)],blocks:=[(0,⟨[], [], [],0, [], [], [], []⟩)],retA:=some ⟨[4], [], [],0, [], [], [], []⟩,fid:=123}
theorem qa2q:CfgOK Tryz.prog qa2p:=cfgC qa17 qa18 trivial
theorem qa2r {R:Type}:SubsOK Tryz.prog (R:=R) 0 qa2o:=subsOK_nil _ _
theorem qa2s {R:Type}:LoopOK (R:=R) (hnd 0 qa2o) qa2p qa2n (sub [1,1,0,1,0,0] qa2d) (HS.V qa2e) (HS.st qa2e) (HS.sh qa2e) qa2f (hdOf qa2e qa2f):=loopOK_of qa2e qa2f (fun _ _=>rfl) (by intro q v K;kernel_rfl)
theorem qa2t {R:Type}:LoopsOK (R:=R) (hnd 0 qa2o) qa2p qa2n qa2d:=loopsOK_of (l:=[sub [1,1,0,1,0,0] qa2d]) (by kernel_rfl) (loopsL_cons (b:=sub [1,1,0,1,0,0] qa2d) (rid:=4) (by kernel_rfl) (by kernel_rfl) qa2s (trivial))
theorem qa2u:SpecOK Tryz.prog 123 qa2m:=specOK_a Tryz.f123 qa2q qa16 (d:=0) qa2r qa2t (rngs0 (by kernel_rfl)) (toY:=qa2j)
def qa2v:HS:=⟨[(0, .one (.sl .entry)),(1, .one (.str)),(6, .one (.int .i64))], [],0⟩
def qa2w {R:Type}:Nat→HS.V qa2v→(Ex→St→Option R)→Option R:=fun q v K=>
 ref04_Find_L2 v.1.1 v.1.2.1 (fun y6=>K .ret {regs:=[(4, .v (.one (.int .i64 y6))),(5, .v (.one (.bool true)))],mem:= [],nx:=0}) (K (.exit 0) {regs:= [],mem:= [],nx:=0}) q v.1.2.2.1
def qa2x:List HV:=[.one (.sl .entry), .one (.str)]
def qa2y:List HV:=[.one (.int .i64), .one (.bool)]
def qa2z:HP.V qa2x→(List Entry)×Str:=fun v=>(v.1,v.2.1)
def qa20:HX.V qa2y→Int×Bool:=fun v=>(v.1,v.2)
def qa21:(Int×Bool)→HX.V qa2y:=fun y=>(y.1,y.2)
def qa22:(List Entry)×Str→Option (Int×Bool):=fun x=>ref04_Find x.1 x.2
def qa23:Spec:=mkSpec qa2x qa2y qa2z qa21 qa22
def qa24 {R:Type}:List (Nat×Hd R):=[(2,hdOf qa2v qa2w)]
def qa25 {R:Type}:List (Nat×Inl R):= []
def qa26:Cfg:={T:=qa14,glob:=GlobL.G Tryz.prog,eqs:=qa15,N:=25,fuel:=64,loops:=[(2,⟨[0,1,6], [], [],0, [], [], [], []⟩)],blocks:=[(0,⟨[], [], [],0, [], [], [], []⟩)],retA:=some ⟨[4,5], [], [],0, [], [], [], []⟩,fid:=47}
theorem qa27:CfgOK Tryz.prog qa26:=cfgC qa17 qa18 trivial
theorem qa28 {R:Type}:SubsOK Tryz.prog (R:=R) 0 qa25:=subsOK_nil _ _
theorem qa29 {R:Type}:LoopOK (R:=R) (hnd 0 qa25) qa26 qa24 (sub [1,0,1,0,0] qa19) (HS.V qa2v) (HS.st qa2v) (HS.sh qa2v) qa2w (hdOf qa2v qa2w):=loopOK_of qa2v qa2w (fun _ _=>rfl) (by intro q v K;kernel_rfl)
theorem qa3a {R:Type}:LoopsOK (R:=R) (hnd 0 qa25) qa26 qa24 qa19:=loopsOK_of (l:=[sub [1,0,1,0,0] qa19]) (by kernel_rfl) (loopsL_cons (b:=sub [1,0,1,0,0] qa19) (rid:=2) (by kernel_rfl) (by kernel_rfl) qa29 (trivial))
theorem qa3b:SpecOK Tryz.prog 47 qa23:=specOK_a Tryz.f47 qa27 qa16 (d:=0) qa28 qa3a (rngs0 (by kernel_rfl)) (toY:=qa20)
def qa3c:HS:=⟨[(0, .one (.sl .entry)),(3, .one (.int .i64))], [],0⟩
def qa3d {R:Type}:Nat→HS.V qa3c→(Ex→St→Option R)→Option R:=fun q v K=>
 ref04_Right_L2 v.1.1 (K .ret {regs:=[(2, .v (.one (.bool false)))],mem:= [],nx:=0}) (K (.exit 0) {regs:= [],mem:= [],nx:=0}) q v.1.2.1
def qa3e:List HV:=[.one (.sl .entry)]
def qa3f:List HV:=[.one (.bool)]
def qa3g:HP.V qa3e→(List Entry):=fun v=>(v.1)
def qa3h:HX.V qa3f→Bool:=fun v=>(v)
def qa3i:Bool→HX.V qa3f:=fun y=>(y)
def qa3j:(List Entry)→Option (Bool):=fun x=>ref04_Right x
def qa3k:Spec:=mkSpec qa3e qa3f qa3g qa3i qa3j
def qa3l {R:Type}:List (Nat×Hd R):=[(2,hdOf qa3c qa3d)]
def qa3m {R:Type}:List (Nat×Inl R):= []
def qa3n:Cfg:={T:=qa14,spec:=[(44,qazp)],glob:=GlobL.G Tryz.prog,eqs:=qa15,N:=41,fuel:=64,loops:=[(2,⟨[0,3], [], [],0, [], [], [], []⟩)],blocks:=[(0,⟨[], [], [],0, [], [], [], []⟩)],retA:=some ⟨[2], [], [],0, [], [], [], []⟩,fid:=85}
theorem qa3o:CfgOK Tryz.prog qa3n:=cfgC qa17 qa18 ⟨qazx,trivial⟩
theorem qa3p {R:Type}:SubsOK Tryz.prog (R:=R) 0 qa3m:=subsOK_nil _ _
theorem qa3q {R:Type}:LoopOK (R:=R) (hnd 0 qa3m) qa3n qa3l (sub [1,0,1,0,0] qa2c) (HS.V qa3c) (HS.st qa3c) (HS.sh qa3c) qa3d (hdOf qa3c qa3d):=loopOK_of qa3c qa3d (fun _ _=>rfl) (by intro q v K;kernel_rfl)
theorem qa3r {R:Type}:LoopsOK (R:=R) (hnd 0 qa3m) qa3n qa3l qa2c:=loopsOK_of (l:=[sub [1,0,1,0,0] qa2c]) (by kernel_rfl) (loopsL_cons (b:=sub [1,0,1,0,0] qa2c) (rid:=2) (by kernel_rfl) (by kernel_rfl) qa3q (trivial))
theorem qa3s:SpecOK Tryz.prog 85 qa3k:=specOK_a Tryz.f85 qa3o qa16 (d:=0) qa3p qa3r (rngs0 (by kernel_rfl)) (toY:=qa3h)
def qa3t:HS:=⟨[(0, .one (.sl .entry)),(1, .one (.str)),(5, .one (.own 0)),(6, .one (.int .i64))],[(0, .row .entry)],1⟩
def qa3u {R:Type}:Nat→HS.V qa3t→(Ex→St→Option R)→Option R:=fun q v K=>
 ref04_Without_L3 v.1.1 v.1.2.1 (fun y7=>K (.exit 0) {regs:=[(5, .v (.one (.own 0)))],mem:=[(0, .row .entry y7)],nx:=1}) q v.1.2.2.2.1 v.2.1
def qa3v:List HV:=[.one (.sl .entry), .one (.str)]
def qa3w:List HV:=[.one (.sl .entry)]
def qa3x:HP.V qa3v→(List Entry)×Str:=fun v=>(v.1,v.2.1)
def qa3y:HX.V qa3w→(List Entry):=fun v=>(v)
def qa3z:(List Entry)→HX.V qa3w:=fun y=>(y)
def qa30:(List Entry)×Str→Option ((List Entry)):=fun x=>ref04_Without x.1 x.2
def qa31:Spec:=mkSpec qa3v qa3w qa3x qa3z qa30
def qa32 {R:Type}:List (Nat×Hd R):=[(3,hdOf qa3t qa3u)]
def qa33 {R:Type}:List (Nat×Inl R):= []
def qa34:Cfg:={T:=qa14,glob:=GlobL.G Tryz.prog,eqs:=qa15,N:=28,fuel:=64,loops:=[(3,⟨[0,1,5,6],[(5,0, .entry)],[0],1, [], [], [], []⟩)],blocks:=[(0,⟨[5], [],[0],1, [], [], [], []⟩)],fid:=53}
theorem qa35:CfgOK Tryz.prog qa34:=cfgC qa17 qa18 trivial
theorem qa36 {R:Type}:SubsOK Tryz.prog (R:=R) 0 qa33:=subsOK_nil _ _
theorem qa37 {R:Type}:LoopOK (R:=R) (hnd 0 qa33) qa34 qa32 (sub [1,1,0,1,0,0] qa2a) (HS.V qa3t) (HS.st qa3t) (HS.sh qa3t) qa3u (hdOf qa3t qa3u):=loopOK_of qa3t qa3u (fun _ _=>rfl) (by intro q v K;kernel_rfl)
theorem qa38 {R:Type}:LoopsOK (R:=R) (hnd 0 qa33) qa34 qa32 qa2a:=loopsOK_of (l:=[sub [1,1,0,1,0,0] qa2a]) (by kernel_rfl) (loopsL_cons (b:=sub [1,1,0,1,0,0] qa2a) (rid:=3) (by kernel_rfl) (by kernel_rfl) qa37 (trivial))
theorem qa39:SpecOK Tryz.prog 53 qa31:=specOK_a Tryz.f53 qa35 qa16 (d:=0) qa36 qa38 (rngs0 (by kernel_rfl)) (toY:=qa3y)
def qa4a:HS:=⟨[(1, .one (.str)),(2, .one (.int .i64)),(7, .one (.sl .entry)),(8, .one (.own 0)),(9, .one (.bool)),(10, .one (.int .i64))],[(0, .row .entry)],1⟩
def qa4b {R:Type}:Nat→HS.V qa4a→(Ex→St→Option R)→Option R:=fun q v K=>
 ref04_With_L5 v.1.1 v.1.2.1 v.1.2.2.1 (fun y14 y15=>K (.exit 0) {regs:=[(1, .v (.one (.str v.1.1))),(2, .v (.one (.int .i64 v.1.2.1))),(8, .v (.one (.own 0))),(9, .v (.one (.bool y14)))],mem:=[(0, .row .entry y15)],nx:=1}) q v.1.2.2.2.2.1 v.1.2.2.2.2.2.1 v.2.1
def qa4c:List HV:=[.one (.sl .entry), .one (.str), .one (.int .i64)]
def qa4d:List HV:=[.one (.sl .entry)]
def qa4e:HP.V qa4c→(List Entry)×Str×Int:=fun v=>(v.1,v.2.1,v.2.2.1)
def qa4f:HX.V qa4d→(List Entry):=fun v=>(v)
def qa4g:(List Entry)→HX.V qa4d:=fun y=>(y)
def qa4h:(List Entry)×Str×Int→Option ((List Entry)):=fun x=>ref04_With x.1 x.2.1 x.2.2
def qa4i:Spec:=mkSpec qa4c qa4d qa4e qa4g qa4h
def qa4j {R:Type}:List (Nat×Hd R):=[(5,hdOf qa4a qa4b)]
def qa4k {R:Type}:List (Nat×Inl R):= []
def qa4l:Cfg:={T:=qa14,spec:=[(53,qa31)],glob:=GlobL.G Tryz.prog,eqs:=qa15,N:=53,fuel:=64,loops:=[(5,⟨[1,2,7,8,9,10],[(8,0, .entry)],[0],1, [], [], [], []⟩)],blocks:=[(0,⟨[1,2,8,9], [],[0],1, [], [], [], []⟩)],fid:=55}
theorem qa4m:CfgOK Tryz.prog qa4l:=cfgC qa17 qa18 ⟨qa39,trivial⟩
theorem qa4n {R:Type}:SubsOK Tryz.prog (R:=R) 0 qa4k:=subsOK_nil _ _
theorem qa4o {R:Type}:LoopOK (R:=R) (hnd 0 qa4k) qa4l qa4j (sub [1,1,1,1,0,1,0,0] qa2b) (HS.V qa4a) (HS.st qa4a) (HS.sh qa4a) qa4b (hdOf qa4a qa4b):=loopOK_of qa4a qa4b (fun _ _=>rfl) (by intro q v K;kernel_rfl)
theorem qa4p {R:Type}:LoopsOK (R:=R) (hnd 0 qa4k) qa4l qa4j qa2b:=loopsOK_of (l:=[sub [1,1,1,1,0,1,0,0] qa2b]) (by kernel_rfl) (loopsL_cons (b:=sub [1,1,1,1,0,1,0,0] qa2b) (rid:=5) (by kernel_rfl) (by kernel_rfl) qa4o (trivial))
theorem qa4q:SpecOK Tryz.prog 55 qa4i:=specOK_a Tryz.f55 qa4m qa16 (d:=0) qa4n qa4p (rngs0 (by kernel_rfl)) (toY:=qa4f)
end
end Go.Eng
set_option linter.unusedVariables false
set_option maxRecDepth 100000
namespace Go.Eng
noncomputable section
open Go Go.Proofs
def qa4r:List (Nat×TI):=[(3,⟨false,1, .one (.int .i64 0), .int .i64⟩),(9,⟨false,1, .one (.str []), .str⟩),(22,⟨false,1, .one (.clip .inode []), .slice .inode 36⟩),(24,⟨true,4, .agg [.int .i64 0, .int .i64 0, .int .i64 0, .clip .inode []], .struct [(0,3),(1,3),(2,3),(3,22)]⟩),(34,⟨false,1, .one (.clip .entry []), .slice .entry 94⟩),(36,⟨true,6, .agg [.int .i64 0, .int .i64 0, .int .i64 0, .str [], .int .i64 0, .clip .entry []], .struct [(0,3),(1,3),(2,3),(3,9),(4,3),(5,34)]⟩),(94,⟨true,2, .agg [.str [], .int .i64 0], .struct [(0,9),(1,3)]⟩)]
def qa4s:List (Nat×List EK):= []
theorem qa4t:Tryz.prog.follows .mixedOrders=true:=by kernel_rfl
theorem qa4u:(qa4r.all fun x=>tiB Tryz.prog x.1 x.2)=true:=by kernel_rfl
theorem qa4v:(qa4s.all fun x=>eqB Tryz.prog x.1 x.2)=true:=by kernel_rfl
def qa4w:Code:=bd Tryz.f18
def qa4x:Code:=bd Tryz.f45
def qa4y:Code:=bd Tryz.f46
def qa4z:Code:=bd Tryz.f54
def qa40:Code:=bd Tryz.f83
def qa41:Code:=bd Tryz.f84
def qa42:List HV:=[.agg hIn, .agg hIn]
def qa43:List HV:=[.one (.bool)]
def qa44:HP.V qa42→Inode×Inode:=fun v=>((cIn v.1),(cIn v.2.1))
def qa45:HX.V qa43→Bool:=fun v=>(v)
def qa46:Bool→HX.V qa43:=fun y=>(y)
def qa47:(Inode×Inode)→Option (Bool):=fun x=>ref05_One x.1 x.2
def qa48:Spec:=mkSpec qa42 qa43 qa44 qa46 qa47
def qa49:Cfg:={T:=qa4r,spec:=[(123,qa2m)],glob:=GlobL.G Tryz.prog,eqs:=qa4s,N:=45,fuel:=64,fid:=76}
theorem qa5a:CfgOK Tryz.prog qa49:=cfgC qa4u qa4v ⟨qa2u,trivial⟩
theorem qa5b:SpecOK Tryz.prog 76 qa48:=specOK_0 Tryz.f76 qa5a qa4t (toY:=qa45)
def qa5c:HS:=⟨[(0, .one (.sl .inode)),(1, .one (.sl .inode)),(5, .one (.int .i64))], [],0⟩
def qa5d {R:Type}:Nat→HS.V qa5c→(Ex→St→Option R)→Option R:=fun q v K=>
 ref05_Ones_L4 v.1.1 v.1.2.1 (K .ret {regs:=[(4, .v (.one (.bool false)))],mem:= [],nx:=0}) (K (.exit 0) {regs:= [],mem:= [],nx:=0}) q v.1.2.2.1
def qa5e:List HV:=[.one (.sl .inode), .one (.sl .inode)]
def qa5f:List HV:=[.one (.bool)]
def qa5g:HP.V qa5e→(List Inode)×(List Inode):=fun v=>(v.1,v.2.1)
def qa5h:HX.V qa5f→Bool:=fun v=>(v)
def qa5i:Bool→HX.V qa5f:=fun y=>(y)
def qa5j:(List Inode)×(List Inode)→Option (Bool):=fun x=>ref05_Ones x.1 x.2
def qa5k:Spec:=mkSpec qa5e qa5f qa5g qa5i qa5j
def qa5l {R:Type}:List (Nat×Hd R):=[(4,hdOf qa5c qa5d)]
def qa5m {R:Type}:List (Nat×Inl R):= []
def qa5n:Cfg:={T:=qa4r,spec:=[(76,qa48)],glob:=GlobL.G Tryz.prog,eqs:=qa4s,N:=27,fuel:=64,loops:=[(4,⟨[0,1,5], [], [],0, [], [], [], []⟩)],blocks:=[(0,⟨[], [], [],0, [], [], [], []⟩)],retA:=some ⟨[4], [], [],0, [], [], [], []⟩,fid:=45}
theorem qa5o:CfgOK Tryz.prog qa5n:=cfgC qa4u qa4v ⟨qa5b,trivial⟩
theorem qa5p {R:Type}:SubsOK Tryz.prog (R:=R) 0 qa5m:=subsOK_nil _ _
theorem qa5q {R:Type}:LoopOK (R:=R) (hnd 0 qa5m) qa5n qa5l (sub [1,1,0,1,0,0] qa4x) (HS.V qa5c) (HS.st qa5c) (HS.sh qa5c) qa5d (hdOf qa5c qa5d):=loopOK_of qa5c qa5d (fun _ _=>rfl) (by intro q v K;kernel_rfl)
theorem qa5r {R:Type}:LoopsOK (R:=R) (hnd 0 qa5m) qa5n qa5l qa4x:=loopsOK_of (l:=[sub [1,1,0,1,0,0] qa4x]) (by kernel_rfl) (loopsL_cons (b:=sub [1,1,0,1,0,0] qa4x) (rid:=4) (by kernel_rfl) (by kernel_rfl) qa5q (trivial))
theorem qa5s:SpecOK Tryz.prog 45 qa5k:=specOK_a Tryz.f45 qa5o qa4t (d:=0) qa5p qa5r (rngs0 (by kernel_rfl)) (toY:=qa5h)
def qa5t:List HV:=[.agg hFs, .agg hFs]
def qa5u:List HV:=[.one (.bool)]
def qa5v:HP.V qa5t→Fs×Fs:=fun v=>((cFs v.1),(cFs v.2.1))
def qa5w:HX.V qa5u→Bool:=fun v=>(v)
def qa5x:Bool→HX.V qa5u:=fun y=>(y)
def qa5y:(Fs×Fs)→Option (Bool):=fun x=>ref05_Same x.1 x.2
def qa5z:Spec:=mkSpec qa5t qa5u qa5v qa5x qa5y
def qa50:Cfg:={T:=qa4r,spec:=[(45,qa5k)],glob:=GlobL.G Tryz.prog,eqs:=qa4s,N:=31,fuel:=64,fid:=16}
theorem qa51:CfgOK Tryz.prog qa50:=cfgC qa4u qa4v ⟨qa5s,trivial⟩
theorem qa52:SpecOK Tryz.prog 16 qa5z:=specOK_0 Tryz.f16 qa51 qa4t (toY:=qa5w)
def qa53:HS:=⟨[(1, .one (.int .i64)),(2, .one (.ptr 0 0)),(4, .one (.ptr 1 0)),(6, .one (.int .i64))],[(0, .cells hFs),(1, .cells hIn)],2⟩
def qa54 {R:Type}:Nat→HS.V qa53→(Ex→St→Option R)→Option R:=fun q v K=>
 ref05_Get_L2 v.1.1 (cFs v.2.1) (fun y8=>K .ret {regs:=[(4, .v (.one (.ptr 1 0))),(5, .v (.one (.bool true)))],mem:=[(1, .cells [.int .i64 y8.ino, .int .i64 y8.kind, .int .i64 y8.links, .str y8.data, .int .i64 y8.parent, .sl .entry y8.entries])],nx:=2}) (K (.exit 0) {regs:=[(4, .v (.one (.ptr 1 0)))],mem:=[(1, .cells (rIn (cIn v.2.2.1)))],nx:=2}) q v.1.2.2.2.1
def qa55:List HV:=[.agg hFs, .one (.int .i64)]
def qa56:List HV:=[.agg hIn, .one (.bool)]
def qa57:HP.V qa55→Fs×Int:=fun v=>((cFs v.1),v.2.1)
def qa58:HX.V qa56→Inode×Bool:=fun v=>((cIn v.1),v.2)
def qa59:(Inode×Bool)→HX.V qa56:=fun y=>((y.1.ino,(y.1.kind,(y.1.links,(y.1.data,(y.1.parent,(y.1.entries,())))))),y.2)
def qa6a:(Fs×Int)→Option (Inode×Bool):=fun x=>ref05_Get x.1 x.2
def qa6b:Spec:=mkSpec qa55 qa56 qa57 qa59 qa6a
def qa6c {R:Type}:List (Nat×Hd R):=[(2,hdOf qa53 qa54)]
def qa6d {R:Type}:List (Nat×Inl R):= []
def qa6e:Cfg:={T:=qa4r,glob:=GlobL.G Tryz.prog,eqs:=qa4s,N:=28,fuel:=64,loops:=[(2,⟨[1,2,4,6], [],[0,1],2, [],[1], [], []⟩)],blocks:=[(0,⟨[4], [],[1],2, [], [], [], []⟩)],retA:=some ⟨[4,5], [],[1],2, [],[1], [], []⟩,fid:=18}
theorem qa6f:CfgOK Tryz.prog qa6e:=cfgC qa4u qa4v trivial
theorem qa6g {R:Type}:SubsOK Tryz.prog (R:=R) 0 qa6d:=subsOK_nil _ _
theorem qa6h {R:Type}:LoopOK (R:=R) (hnd 0 qa6d) qa6e qa6c (sub [1,0,1,0,0] qa4w) (HS.V qa53) (HS.st qa53) (HS.sh qa53) qa54 (hdOf qa53 qa54):=loopOK_of qa53 qa54 (fun _ _=>rfl) (by intro q v K;kernel_rfl)
theorem qa6i {R:Type}:LoopsOK (R:=R) (hnd 0 qa6d) qa6e qa6c qa4w:=loopsOK_of (l:=[sub [1,0,1,0,0] qa4w]) (by kernel_rfl) (loopsL_cons (b:=sub [1,0,1,0,0] qa4w) (rid:=2) (by kernel_rfl) (by kernel_rfl) qa6h (trivial))
theorem qa6j:SpecOK Tryz.prog 18 qa6b:=specOK_a Tryz.f18 qa6f qa4t (d:=0) qa6g qa6i (rngs0 (by kernel_rfl)) (toY:=qa58)
def qa6k:List HV:=[.one (.int .i64), .one (.int .i64)]
def qa6l:List HV:=[.agg hFs]
def qa6m:HP.V qa6k→Int×Int:=fun v=>(v.1,v.2.1)
def qa6n:HX.V qa6l→Fs:=fun v=>((cFs v))
def qa6o:Fs→HX.V qa6l:=fun y=>((y.maxInodes,(y.maxBytes,(y.next,(y.inodes,())))))
def qa6p:(Int×Int)→Option (Fs):=fun x=>ref05_New x.1 x.2
def qa6q:Spec:=mkSpec qa6k qa6l qa6m qa6o qa6p
def qa6r:Cfg:={T:=qa4r,glob:=GlobL.G Tryz.prog,eqs:=qa4s,N:=10,fuel:=64,fid:=31}
theorem qa6s:CfgOK Tryz.prog qa6r:=cfgC qa4u qa4v trivial
theorem qa6t:SpecOK Tryz.prog 31 qa6q:=specOK_0 Tryz.f31 qa6s qa4t (toY:=qa6n)
def qa6u:HS:=⟨[(1, .one (.int .i64)),(2, .one (.ptr 0 0)),(4, .one (.ptr 1 0)),(5, .one (.own 2)),(6, .one (.int .i64))],[(0, .cells hFs),(1, .cells hFs),(2, .row .inode)],3⟩
def qa6v {R:Type}:Nat→HS.V qa6u→(Ex→St→Option R)→Option R:=fun q v K=>
 ref05_Drop_L3 v.1.1 (cFs v.2.1) (fun y10=>K (.exit 0) {regs:=[(2, .v (.one (.ptr 0 0))),(4, .v (.one (.ptr 1 0))),(5, .v (.one (.own 2)))],mem:=[(0, .cells (rFs (cFs v.2.1))),(1, .cells (rFs (cFs v.2.2.1))),(2, .row .inode y10)],nx:=3}) q v.1.2.2.2.2.1 v.2.2.2.1
def qa6w:List HV:=[.agg hFs, .one (.int .i64)]
def qa6x:List HV:=[.agg hFs]
def qa6y:HP.V qa6w→Fs×Int:=fun v=>((cFs v.1),v.2.1)
def qa6z:HX.V qa6x→Fs:=fun v=>((cFs v))
def qa60:Fs→HX.V qa6x:=fun y=>((y.maxInodes,(y.maxBytes,(y.next,(y.inodes,())))))
def qa61:(Fs×Int)→Option (Fs):=fun x=>ref05_Drop x.1 x.2
def qa62:Spec:=mkSpec qa6w qa6x qa6y qa60 qa61
def qa63 {R:Type}:List (Nat×Hd R):=[(3,hdOf qa6u qa6v)]
def qa64 {R:Type}:List (Nat×Inl R):= []
def qa65:Cfg:={T:=qa4r,glob:=GlobL.G Tryz.prog,eqs:=qa4s,N:=33,fuel:=64,loops:=[(3,⟨[1,2,4,5,6],[(5,2, .inode)],[0,1,2],3, [],[1], [], []⟩)],blocks:=[(0,⟨[2,4,5], [],[0,1,2],3, [], [], [], []⟩)],fid:=83}
theorem qa66:CfgOK Tryz.prog qa65:=cfgC qa4u qa4v trivial
theorem qa67 {R:Type}:SubsOK Tryz.prog (R:=R) 0 qa64:=subsOK_nil _ _
theorem qa68 {R:Type}:LoopOK (R:=R) (hnd 0 qa64) qa65 qa63 (sub [1,1,0,1,0,0] qa40) (HS.V qa6u) (HS.st qa6u) (HS.sh qa6u) qa6v (hdOf qa6u qa6v):=loopOK_of qa6u qa6v (fun _ _=>rfl) (by intro q v K;kernel_rfl)
theorem qa69 {R:Type}:LoopsOK (R:=R) (hnd 0 qa64) qa65 qa63 qa40:=loopsOK_of (l:=[sub [1,1,0,1,0,0] qa40]) (by kernel_rfl) (loopsL_cons (b:=sub [1,1,0,1,0,0] qa40) (rid:=3) (by kernel_rfl) (by kernel_rfl) qa68 (trivial))
theorem qa7a:SpecOK Tryz.prog 83 qa62:=specOK_a Tryz.f83 qa66 qa4t (d:=0) qa67 qa69 (rngs0 (by kernel_rfl)) (toY:=qa6z)
def qa7b:HS:=⟨[(2, .one (.ptr 0 0)),(3, .one (.ptr 1 0)),(4, .one (.ptr 2 0)),(5, .one (.sl .inode)),(6, .one (.own 3)),(7, .one (.bool)),(8, .one (.int .i64))],[(0, .cells hFs),(1, .cells hIn),(2, .cells hFs),(3, .row .inode)],4⟩
def qa7c {R:Type}:Nat→HS.V qa7b→(Ex→St→Option R)→Option R:=fun q v K=>
 ref05_Set_L5 v.1.2.2.2.1 (cIn v.2.2.1) (fun y13 y17=>K (.exit 0) {regs:=[(2, .v (.one (.ptr 0 0))),(3, .v (.one (.ptr 1 0))),(4, .v (.one (.ptr 2 0))),(6, .v (.one (.own 3))),(7, .v (.one (.bool y13)))],mem:=[(0, .cells (rFs (cFs v.2.1))),(1, .cells (rIn (cIn v.2.2.1))),(2, .cells (rFs (cFs v.2.2.2.1))),(3, .row .inode y17)],nx:=4}) q v.1.2.2.2.2.2.1 v.1.2.2.2.2.2.2.1 v.2.2.2.2.1
def qa7d:List HV:=[.agg hFs, .agg hIn]
def qa7e:List HV:=[.agg hFs]
def qa7f:HP.V qa7d→Fs×Inode:=fun v=>((cFs v.1),(cIn v.2.1))
def qa7g:HX.V qa7e→Fs:=fun v=>((cFs v))
def qa7h:Fs→HX.V qa7e:=fun y=>((y.maxInodes,(y.maxBytes,(y.next,(y.inodes,())))))
def qa7i:(Fs×Inode)→Option (Fs):=fun x=>ref05_Set x.1 x.2
def qa7j:Spec:=mkSpec qa7d qa7e qa7f qa7h qa7i
def qa7k {R:Type}:List (Nat×Hd R):=[(5,hdOf qa7b qa7c)]
def qa7l {R:Type}:List (Nat×Inl R):= []
def qa7m:Cfg:={T:=qa4r,spec:=[(83,qa62)],glob:=GlobL.G Tryz.prog,eqs:=qa4s,N:=52,fuel:=64,loops:=[(5,⟨[2,3,4,5,6,7,8],[(6,3, .inode)],[0,1,2,3],4, [],[2], [], []⟩)],blocks:=[(0,⟨[2,3,4,6,7], [],[0,1,2,3],4, [], [], [], []⟩)],fid:=54}
theorem qa7n:CfgOK Tryz.prog qa7m:=cfgC qa4u qa4v ⟨qa7a,trivial⟩
theorem qa7o {R:Type}:SubsOK Tryz.prog (R:=R) 0 qa7l:=subsOK_nil _ _
theorem qa7p {R:Type}:LoopOK (R:=R) (hnd 0 qa7l) qa7m qa7k (sub [1,1,1,1,0,1,0,0] qa4z) (HS.V qa7b) (HS.st qa7b) (HS.sh qa7b) qa7c (hdOf qa7b qa7c):=loopOK_of qa7b qa7c (fun _ _=>rfl) (by intro q v K;kernel_rfl)
theorem qa7q {R:Type}:LoopsOK (R:=R) (hnd 0 qa7l) qa7m qa7k qa4z:=loopsOK_of (l:=[sub [1,1,1,1,0,1,0,0] qa4z]) (by kernel_rfl) (loopsL_cons (b:=sub [1,1,1,1,0,1,0,0] qa4z) (rid:=5) (by kernel_rfl) (by kernel_rfl) qa7p (trivial))
theorem qa7r:SpecOK Tryz.prog 54 qa7j:=specOK_a Tryz.f54 qa7n qa4t (d:=0) qa7o qa7q (rngs0 (by kernel_rfl)) (toY:=qa7g)
def qa7s:HS:=⟨[(1, .one (.ptr 0 0)),(3, .one (.int .i64))],[(0, .cells hFs)],1⟩
def qa7t {R:Type}:Nat→HS.V qa7s→(Ex→St→Option R)→Option R:=fun q v K=>
 ref05_Rise_L2 (cFs v.2.1) (K .ret {regs:=[(2, .v (.one (.bool false)))],mem:= [],nx:=0}) (K (.exit 0) {regs:= [],mem:= [],nx:=0}) q v.1.2.1
def qa7u:List HV:=[.agg hFs]
def qa7v:List HV:=[.one (.bool)]
def qa7w:HP.V qa7u→Fs:=fun v=>((cFs v.1))
def qa7x:HX.V qa7v→Bool:=fun v=>(v)
def qa7y:Bool→HX.V qa7v:=fun y=>(y)
def qa7z:Fs→Option (Bool):=fun x=>ref05_Rise x
def qa70:Spec:=mkSpec qa7u qa7v qa7w qa7y qa7z
def qa71 {R:Type}:List (Nat×Hd R):=[(2,hdOf qa7s qa7t)]
def qa72 {R:Type}:List (Nat×Inl R):= []
def qa73:Cfg:={T:=qa4r,glob:=GlobL.G Tryz.prog,eqs:=qa4s,N:=25,fuel:=64,loops:=[(2,⟨[1,3], [],[0],1, [], [], [], []⟩)],blocks:=[(0,⟨[], [], [],0, [], [], [], []⟩)],retA:=some ⟨[2], [], [],0, [], [], [], []⟩,fid:=84}
theorem qa74:CfgOK Tryz.prog qa73:=cfgC qa4u qa4v trivial
theorem qa75 {R:Type}:SubsOK Tryz.prog (R:=R) 0 qa72:=subsOK_nil _ _
theorem qa76 {R:Type}:LoopOK (R:=R) (hnd 0 qa72) qa73 qa71 (sub [1,0,1,0,0] qa41) (HS.V qa7s) (HS.st qa7s) (HS.sh qa7s) qa7t (hdOf qa7s qa7t):=loopOK_of qa7s qa7t (fun _ _=>rfl) (by intro q v K;kernel_rfl)
theorem qa77 {R:Type}:LoopsOK (R:=R) (hnd 0 qa72) qa73 qa71 qa41:=loopsOK_of (l:=[sub [1,0,1,0,0] qa41]) (by kernel_rfl) (loopsL_cons (b:=sub [1,0,1,0,0] qa41) (rid:=2) (by kernel_rfl) (by kernel_rfl) qa76 (trivial))
theorem qa78:SpecOK Tryz.prog 84 qa70:=specOK_a Tryz.f84 qa74 qa4t (d:=0) qa75 qa77 (rngs0 (by kernel_rfl)) (toY:=qa7x)
def qa79:HS:=⟨[(1, .one (.ptr 0 0)),(3, .one (.int .i64)),(4, .one (.ptr 1 0)),(5, .one (.int .i64))],[(0, .cells hFs),(1, .cells hIn)],2⟩
def qa8a {R:Type}:Nat→HS.V qa79→(Ex→St→Option R)→Option R:=fun q v K=>
 ref05_Few_L8 (cIn v.2.2.1) (K .ret {regs:=[(2, .v (.one (.bool false)))],mem:= [],nx:=0}) (K (.exit 2) {regs:=[(1, .v (.one (.ptr 0 0))),(3, .v (.one (.int .i64 v.1.2.1)))],mem:=[(0, .cells (rFs (cFs v.2.1)))],nx:=1}) q v.1.2.2.2.1
def qa8b:HS:=⟨[(1, .one (.ptr 0 0)),(3, .one (.int .i64))],[(0, .cells hFs)],1⟩
def qa8c {R:Type}:Nat→HS.V qa8b→(Ex→St→Option R)→Option R:=fun q v K=>
 ref05_Few_L2 (cFs v.2.1) (K .ret {regs:=[(2, .v (.one (.bool false)))],mem:= [],nx:=0}) (K (.exit 0) {regs:=[(1, .v (.one (.ptr 0 0)))],mem:=[(0, .cells (rFs (cFs v.2.1)))],nx:=1}) q v.1.2.1
def qa8d:List HV:=[.agg hFs]
def qa8e:List HV:=[.one (.bool)]
def qa8f:HP.V qa8d→Fs:=fun v=>((cFs v.1))
def qa8g:HX.V qa8e→Bool:=fun v=>(v)
def qa8h:Bool→HX.V qa8e:=fun y=>(y)
def qa8i:Fs→Option (Bool):=fun x=>ref05_Few x
def qa8j:Spec:=mkSpec qa8d qa8e qa8f qa8h qa8i
def qa8k {R:Type}:List (Nat×Hd R):=[(2,hdOf qa8b qa8c),(8,hdOf qa79 qa8a)]
def qa8l {R:Type}:List (Nat×Inl R):= []
def qa8m:Cfg:={T:=qa4r,glob:=GlobL.G Tryz.prog,eqs:=qa4s,N:=51,fuel:=64,loops:=[(8,⟨[1,3,4,5], [],[0,1],2, [], [], [], []⟩),(2,⟨[1,3], [],[0],1, [], [], [], []⟩)],blocks:=[(0,⟨[1], [],[0],1, [], [], [], []⟩),(1,⟨[1,3], [],[0],1, [], [], [], []⟩),(2,⟨[1,3], [],[0],1, [], [], [], []⟩)],retA:=some ⟨[2], [], [],0, [], [], [], []⟩,fid:=46}
theorem qa8n:CfgOK Tryz.prog qa8m:=cfgC qa4u qa4v trivial
theorem qa8o {R:Type}:SubsOK Tryz.prog (R:=R) 0 qa8l:=subsOK_nil _ _
theorem qa8p {R:Type}:LoopOK (R:=R) (hnd 0 qa8l) qa8m qa8k (sub [1,0,1,0,0] qa4y) (HS.V qa8b) (HS.st qa8b) (HS.sh qa8b) qa8c (hdOf qa8b qa8c):=loopOK_of qa8b qa8c (fun _ _=>rfl) (by intro q v K;kernel_rfl)
theorem qa8q {R:Type}:LoopOK (R:=R) (hnd 0 qa8l) qa8m qa8k (sub [1,0,1,0,0,1,0,0,1,1,1,0,0] qa4y) (HS.V qa79) (HS.st qa79) (HS.sh qa79) qa8a (hdOf qa79 qa8a):=loopOK_of qa79 qa8a (fun _ _=>rfl) (by intro q v K;kernel_rfl)
theorem qa8r {R:Type}:LoopsOK (R:=R) (hnd 0 qa8l) qa8m qa8k qa4y:=loopsOK_of (l:=[sub [1,0,1,0,0] qa4y,sub [1,0,1,0,0,1,0,0,1,1,1,0,0] qa4y]) (by kernel_rfl) (loopsL_cons (b:=sub [1,0,1,0,0] qa4y) (rid:=2) (by kernel_rfl) (by kernel_rfl) qa8p (loopsL_cons (b:=sub [1,0,1,0,0,1,0,0,1,1,1,0,0] qa4y) (rid:=8) (by kernel_rfl) (by kernel_rfl) qa8q (trivial)))
theorem qa8s:SpecOK Tryz.prog 46 qa8j:=specOK_a Tryz.f46 qa8n qa4t (d:=0) qa8o qa8r (rngs0 (by kernel_rfl)) (toY:=qa8g)
end
end Go.Eng
set_option linter.unusedVariables false
set_option maxRecDepth 100000
namespace Go.Eng
noncomputable section
open Go Go.Proofs
def qa8t:List (Nat×TI):=[(3,⟨false,1, .one (.int .i64 0), .int .i64⟩),(9,⟨false,1, .one (.str []), .str⟩),(22,⟨false,1, .one (.clip .inode []), .slice .inode 36⟩),(24,⟨true,4, .agg [.int .i64 0, .int .i64 0, .int .i64 0, .clip .inode []], .struct [(0,3),(1,3),(2,3),(3,22)]⟩),(36,⟨true,6, .agg [.int .i64 0, .int .i64 0, .int .i64 0, .str [], .int .i64 0, .clip .entry []], .struct [(0,3),(1,3),(2,3),(3,9),(4,3),(5,34)]⟩)]
def qa8u:List (Nat×List EK):= []
theorem qa8v:Tryz.prog.follows .mixedOrders=true:=by kernel_rfl
theorem qa8w:(qa8t.all fun x=>tiB Tryz.prog x.1 x.2)=true:=by kernel_rfl
theorem qa8x:(qa8u.all fun x=>eqB Tryz.prog x.1 x.2)=true:=by kernel_rfl
def qa8y:Code:=bd Tryz.f87
def qa8z:HS:=⟨[(1, .one (.ptr 0 0)),(3, .one (.int .i64)),(4, .one (.int .i64))],[(0, .cells hFs)],1⟩
def qa80 {R:Type}:Nat→HS.V qa8z→(Ex→St→Option R)→Option R:=fun q v K=>
 ref06_Bytes_L3 (cFs v.2.1) (fun y6=>K (.exit 0) {regs:=[(3, .v (.one (.int .i64 y6)))],mem:= [],nx:=0}) q v.1.2.1 v.1.2.2.1
def qa81:List HV:=[.agg hFs]
def qa82:List HV:=[.one (.int .i64)]
def qa83:HP.V qa81→Fs:=fun v=>((cFs v.1))
def qa84:HX.V qa82→Int:=fun v=>(v)
def qa85:Int→HX.V qa82:=fun y=>(y)
def qa86:Fs→Option (Int):=fun x=>ref06_Bytes x
def qa87:Spec:=mkSpec qa81 qa82 qa83 qa85 qa86
def qa88 {R:Type}:List (Nat×Hd R):=[(3,hdOf qa8z qa80)]
def qa89 {R:Type}:List (Nat×Inl R):= []
def qa9a:Cfg:={T:=qa8t,glob:=GlobL.G Tryz.prog,eqs:=qa8u,N:=29,fuel:=64,loops:=[(3,⟨[1,3,4], [],[0],1, [], [], [], []⟩)],blocks:=[(0,⟨[3], [], [],0, [], [], [], []⟩)],fid:=87}
theorem qa9b:CfgOK Tryz.prog qa9a:=cfgC qa8w qa8x trivial
theorem qa9c {R:Type}:SubsOK Tryz.prog (R:=R) 0 qa89:=subsOK_nil _ _
theorem qa9d {R:Type}:LoopOK (R:=R) (hnd 0 qa89) qa9a qa88 (sub [1,1,0,1,0,0] qa8y) (HS.V qa8z) (HS.st qa8z) (HS.sh qa8z) qa80 (hdOf qa8z qa80):=loopOK_of qa8z qa80 (fun _ _=>rfl) (by intro q v K;kernel_rfl)
theorem qa9e {R:Type}:LoopsOK (R:=R) (hnd 0 qa89) qa9a qa88 qa8y:=loopsOK_of (l:=[sub [1,1,0,1,0,0] qa8y]) (by kernel_rfl) (loopsL_cons (b:=sub [1,1,0,1,0,0] qa8y) (rid:=3) (by kernel_rfl) (by kernel_rfl) qa9d (trivial))
theorem qa9f:SpecOK Tryz.prog 87 qa87:=specOK_a Tryz.f87 qa9b qa8v (d:=0) qa9c qa9e (rngs0 (by kernel_rfl)) (toY:=qa84)
def qa9g:List HV:=[.agg hFs, .one (.int .i64), .one (.int .i64)]
def qa9h:List HV:=[.one (.bool)]
def qa9i:HP.V qa9g→Fs×Int×Int:=fun v=>((cFs v.1),v.2.1,v.2.2.1)
def qa9j:HX.V qa9h→Bool:=fun v=>(v)
def qa9k:Bool→HX.V qa9h:=fun y=>(y)
def qa9l:(Fs×Int×Int)→Option (Bool):=fun x=>ref06_Fits x.1 x.2.1 x.2.2
def qa9m:Spec:=mkSpec qa9g qa9h qa9i qa9k qa9l
def qa9n:Cfg:={T:=qa8t,spec:=[(87,qa87)],glob:=GlobL.G Tryz.prog,eqs:=qa8u,N:=22,fuel:=64,fid:=63}
theorem qa9o:CfgOK Tryz.prog qa9n:=cfgC qa8w qa8x ⟨qa9f,trivial⟩
theorem qa9p:SpecOK Tryz.prog 63 qa9m:=specOK_0 Tryz.f63 qa9o qa8v (toY:=qa9j)
end
end Go.Eng
set_option linter.unusedVariables false
set_option maxRecDepth 100000
namespace Go.Eng
noncomputable section
open Go Go.Proofs
def qa9q:List (Nat×TI):=[(3,⟨false,1, .one (.int .i64 0), .int .i64⟩),(9,⟨false,1, .one (.str []), .str⟩),(22,⟨false,1, .one (.clip .inode []), .slice .inode 36⟩),(24,⟨true,4, .agg [.int .i64 0, .int .i64 0, .int .i64 0, .clip .inode []], .struct [(0,3),(1,3),(2,3),(3,22)]⟩),(34,⟨false,1, .one (.clip .entry []), .slice .entry 94⟩),(36,⟨true,6, .agg [.int .i64 0, .int .i64 0, .int .i64 0, .str [], .int .i64 0, .clip .entry []], .struct [(0,3),(1,3),(2,3),(3,9),(4,3),(5,34)]⟩),(62,⟨false,1, .one (.clip .int []), .slice .int 3⟩),(94,⟨true,2, .agg [.str [], .int .i64 0], .struct [(0,9),(1,3)]⟩)]
def qa9r:List (Nat×List EK):= []
theorem qa9s:Tryz.prog.follows .mixedOrders=true:=by kernel_rfl
theorem qa9t:(qa9q.all fun x=>tiB Tryz.prog x.1 x.2)=true:=by kernel_rfl
theorem qa9u:(qa9r.all fun x=>eqB Tryz.prog x.1 x.2)=true:=by kernel_rfl
def qa9v:Code:=bd Tryz.f58
def qa9w:Code:=bd Tryz.f59
def qa9x:Code:=bd Tryz.f60
def qa9y:Code:=bd Tryz.f61
def qa9z:Code:=bd Tryz.f62
def qa90:Code:=bd Tryz.f86
def qa91:HS:=⟨[(1, .one (.ptr 0 0)),(3, .one (.int .i64))],[(0, .cells hFs)],1⟩
def qa92 {R:Type}:Nat→HS.V qa91→(Ex→St→Option R)→Option R:=fun q v K=>
 ref07_first_L4 (cFs v.2.1) (K .ret {regs:=[(2, .v (.one (.bool false)))],mem:= [],nx:=0}) (K (.exit 0) {regs:=[(1, .v (.one (.ptr 0 0)))],mem:=[(0, .cells (rFs (cFs v.2.1)))],nx:=1}) q v.1.2.1
def qa93:List HV:=[.agg hFs]
def qa94:List HV:=[.one (.bool)]
def qa95:HP.V qa93→Fs:=fun v=>((cFs v.1))
def qa96:HX.V qa94→Bool:=fun v=>(v)
def qa97:Bool→HX.V qa94:=fun y=>(y)
def qa98:Fs→Option (Bool):=fun x=>ref07_first x
def qa99:Spec:=mkSpec qa93 qa94 qa95 qa97 qa98
def qbaa {R:Type}:List (Nat×Hd R):=[(4,hdOf qa91 qa92)]
def qbab {R:Type}:List (Nat×Inl R):= []
def qbac:Cfg:={T:=qa9q,spec:=[(18,qa6b),(84,qa70)],glob:=GlobL.G Tryz.prog,eqs:=qa9r,N:=69,fuel:=64,loops:=[(4,⟨[1,3], [],[0],1, [], [], [], []⟩)],blocks:=[(0,⟨[1], [],[0],1, [], [], [], []⟩)],retA:=some ⟨[2], [], [],0, [], [], [], []⟩,fid:=58}
theorem qbad:CfgOK Tryz.prog qbac:=cfgC qa9t qa9u ⟨qa6j,⟨qa78,trivial⟩⟩
theorem qbae {R:Type}:SubsOK Tryz.prog (R:=R) 0 qbab:=subsOK_nil _ _
theorem qbaf {R:Type}:LoopOK (R:=R) (hnd 0 qbab) qbac qbaa (sub [1,1,0,1,0,0] qa9v) (HS.V qa91) (HS.st qa91) (HS.sh qa91) qa92 (hdOf qa91 qa92):=loopOK_of qa91 qa92 (fun _ _=>rfl) (by intro q v K;kernel_rfl)
theorem qbag {R:Type}:LoopsOK (R:=R) (hnd 0 qbab) qbac qbaa qa9v:=loopsOK_of (l:=[sub [1,1,0,1,0,0] qa9v]) (by kernel_rfl) (loopsL_cons (b:=sub [1,1,0,1,0,0] qa9v) (rid:=4) (by kernel_rfl) (by kernel_rfl) qbaf (trivial))
theorem qbah:SpecOK Tryz.prog 58 qa99:=specOK_a Tryz.f58 qbad qa9s (d:=0) qbae qbag (rngs0 (by kernel_rfl)) (toY:=qa96)
def qbai:HS:=⟨[(1, .one (.ptr 0 0)),(3, .one (.int .i64)),(4, .one (.ptr 1 0)),(5, .one (.int .i64))],[(0, .cells hFs),(1, .cells hIn)],2⟩
def qbaj {R:Type}:Nat→HS.V qbai→(Ex→St→Option R)→Option R:=fun q v K=>
 ref07_second_L14 (cIn v.2.2.1) (K .ret {regs:=[(2, .v (.one (.bool false)))],mem:= [],nx:=0}) (K (.exit 2) {regs:=[(1, .v (.one (.ptr 0 0))),(3, .v (.one (.int .i64 v.1.2.1)))],mem:=[(0, .cells (rFs (cFs v.2.1)))],nx:=1}) q v.1.2.2.2.1
def qbak:HS:=⟨[(1, .one (.ptr 0 0)),(3, .one (.int .i64))],[(0, .cells hFs)],1⟩
def qbal {R:Type}:Nat→HS.V qbak→(Ex→St→Option R)→Option R:=fun q v K=>
 ref07_second_L2 (cFs v.2.1) (K .ret {regs:=[(2, .v (.one (.bool false)))],mem:= [],nx:=0}) (K (.exit 0) {regs:= [],mem:= [],nx:=0}) q v.1.2.1
def qbam:List HV:=[.agg hFs]
def qban:List HV:=[.one (.bool)]
def qbao:HP.V qbam→Fs:=fun v=>((cFs v.1))
def qbap:HX.V qban→Bool:=fun v=>(v)
def qbaq:Bool→HX.V qban:=fun y=>(y)
def qbar:Fs→Option (Bool):=fun x=>ref07_second x
def qbas:Spec:=mkSpec qbam qban qbao qbaq qbar
def qbat {R:Type}:List (Nat×Hd R):=[(2,hdOf qbak qbal),(14,hdOf qbai qbaj)]
def qbau {R:Type}:List (Nat×Inl R):= []
def qbav:Cfg:={T:=qa9q,spec:=[(85,qa3k)],glob:=GlobL.G Tryz.prog,eqs:=qa9r,N:=91,fuel:=64,loops:=[(14,⟨[1,3,4,5], [],[0,1],2, [], [], [], []⟩),(2,⟨[1,3], [],[0],1, [], [], [], []⟩)],blocks:=[(0,⟨[], [], [],0, [], [], [], []⟩),(1,⟨[1,3], [],[0],1, [], [], [], []⟩),(2,⟨[1,3], [],[0],1, [], [], [], []⟩)],retA:=some ⟨[2], [], [],0, [], [], [], []⟩,fid:=59}
theorem qbaw:CfgOK Tryz.prog qbav:=cfgC qa9t qa9u ⟨qa3s,trivial⟩
theorem qbax {R:Type}:SubsOK Tryz.prog (R:=R) 0 qbau:=subsOK_nil _ _
theorem qbay {R:Type}:LoopOK (R:=R) (hnd 0 qbau) qbav qbat (sub [1,0,1,0,0] qa9w) (HS.V qbak) (HS.st qbak) (HS.sh qbak) qbal (hdOf qbak qbal):=loopOK_of qbak qbal (fun _ _=>rfl) (by intro q v K;kernel_rfl)
theorem qbaz {R:Type}:LoopOK (R:=R) (hnd 0 qbau) qbav qbat (sub [1,0,1,0,0,1,0,0,1,1,1,1,1,1,0,0] qa9w) (HS.V qbai) (HS.st qbai) (HS.sh qbai) qbaj (hdOf qbai qbaj):=loopOK_of qbai qbaj (fun _ _=>rfl) (by intro q v K;kernel_rfl)
theorem qba0 {R:Type}:LoopsOK (R:=R) (hnd 0 qbau) qbav qbat qa9w:=loopsOK_of (l:=[sub [1,0,1,0,0] qa9w,sub [1,0,1,0,0,1,0,0,1,1,1,1,1,1,0,0] qa9w]) (by kernel_rfl) (loopsL_cons (b:=sub [1,0,1,0,0] qa9w) (rid:=2) (by kernel_rfl) (by kernel_rfl) qbay (loopsL_cons (b:=sub [1,0,1,0,0,1,0,0,1,1,1,1,1,1,0,0] qa9w) (rid:=14) (by kernel_rfl) (by kernel_rfl) qbaz (trivial)))
theorem qba1:SpecOK Tryz.prog 59 qbas:=specOK_a Tryz.f59 qbaw qa9s (d:=0) qbax qba0 (rngs0 (by kernel_rfl)) (toY:=qbap)
def qba2:HS:=⟨[(1, .one (.ptr 0 0)),(3, .one (.int .i64)),(4, .one (.int .i64))],[(0, .cells hFs)],1⟩
def qba3 {R:Type}:Nat→HS.V qba2→(Ex→St→Option R)→Option R:=fun q v K=>
 ref07_third_L5 v.1.2.1 (cFs v.2.1) (K .ret {regs:=[(2, .v (.one (.bool false)))],mem:= [],nx:=0}) (K (.exit 2) {regs:=[(1, .v (.one (.ptr 0 0))),(3, .v (.one (.int .i64 v.1.2.1)))],mem:=[(0, .cells (rFs (cFs v.2.1)))],nx:=1}) q v.1.2.2.1
def qba4:HS:=⟨[(1, .one (.ptr 0 0)),(3, .one (.int .i64))],[(0, .cells hFs)],1⟩
def qba5 {R:Type}:Nat→HS.V qba4→(Ex→St→Option R)→Option R:=fun q v K=>
 ref07_third_L2 (cFs v.2.1) (K .ret {regs:=[(2, .v (.one (.bool false)))],mem:= [],nx:=0}) (K (.exit 0) {regs:= [],mem:= [],nx:=0}) q v.1.2.1
def qba6:List HV:=[.agg hFs]
def qba7:List HV:=[.one (.bool)]
def qba8:HP.V qba6→Fs:=fun v=>((cFs v.1))
def qba9:HX.V qba7→Bool:=fun v=>(v)
def qbba:Bool→HX.V qba7:=fun y=>(y)
def qbbb:Fs→Option (Bool):=fun x=>ref07_third x
def qbbc:Spec:=mkSpec qba6 qba7 qba8 qbba qbbb
def qbbd {R:Type}:List (Nat×Hd R):=[(2,hdOf qba4 qba5),(5,hdOf qba2 qba3)]
def qbbe {R:Type}:List (Nat×Inl R):= []
def qbbf:Cfg:={T:=qa9q,spec:=[(18,qa6b)],glob:=GlobL.G Tryz.prog,eqs:=qa9r,N:=42,fuel:=64,loops:=[(5,⟨[1,3,4], [],[0],1, [], [], [], []⟩),(2,⟨[1,3], [],[0],1, [], [], [], []⟩)],blocks:=[(0,⟨[], [], [],0, [], [], [], []⟩),(1,⟨[1,3], [],[0],1, [], [], [], []⟩),(2,⟨[1,3], [],[0],1, [], [], [], []⟩)],retA:=some ⟨[2], [], [],0, [], [], [], []⟩,fid:=60}
theorem qbbg:CfgOK Tryz.prog qbbf:=cfgC qa9t qa9u ⟨qa6j,trivial⟩
theorem qbbh {R:Type}:SubsOK Tryz.prog (R:=R) 0 qbbe:=subsOK_nil _ _
theorem qbbi {R:Type}:LoopOK (R:=R) (hnd 0 qbbe) qbbf qbbd (sub [1,0,1,0,0] qa9x) (HS.V qba4) (HS.st qba4) (HS.sh qba4) qba5 (hdOf qba4 qba5):=loopOK_of qba4 qba5 (fun _ _=>rfl) (by intro q v K;kernel_rfl)
theorem qbbj {R:Type}:LoopOK (R:=R) (hnd 0 qbbe) qbbf qbbd (sub [1,0,1,0,0,1,0,0,1,0,0] qa9x) (HS.V qba2) (HS.st qba2) (HS.sh qba2) qba3 (hdOf qba2 qba3):=loopOK_of qba2 qba3 (fun _ _=>rfl) (by intro q v K;kernel_rfl)
theorem qbbk {R:Type}:LoopsOK (R:=R) (hnd 0 qbbe) qbbf qbbd qa9x:=loopsOK_of (l:=[sub [1,0,1,0,0] qa9x,sub [1,0,1,0,0,1,0,0,1,0,0] qa9x]) (by kernel_rfl) (loopsL_cons (b:=sub [1,0,1,0,0] qa9x) (rid:=2) (by kernel_rfl) (by kernel_rfl) qbbi (loopsL_cons (b:=sub [1,0,1,0,0,1,0,0,1,0,0] qa9x) (rid:=5) (by kernel_rfl) (by kernel_rfl) qbbj (trivial)))
theorem qbbl:SpecOK Tryz.prog 60 qbbc:=specOK_a Tryz.f60 qbbg qa9s (d:=0) qbbh qbbk (rngs0 (by kernel_rfl)) (toY:=qba9)
def qbbm:HS:=⟨[(1, .one (.int .i64)),(2, .one (.ptr 0 0)),(6, .one (.int .i64)),(7, .one (.int .i64)),(8, .one (.int .i64)),(9, .one (.int .i64))],[(0, .cells hFs)],1⟩
def qbbn {R:Type}:Nat→HS.V qbbm→(Ex→St→Option R)→Option R:=fun q v K=>
 ref07_Names_L7 v.1.1 v.1.2.2.2.2.1 (cFs v.2.1) (fun y17 y18=>K (.exit 2) {regs:=[(1, .v (.one (.int .i64 v.1.1))),(2, .v (.one (.ptr 0 0))),(6, .v (.one (.int .i64 y17))),(7, .v (.one (.int .i64 y18))),(8, .v (.one (.int .i64 v.1.2.2.2.2.1)))],mem:=[(0, .cells (rFs (cFs v.2.1)))],nx:=1}) q v.1.2.2.1 v.1.2.2.2.1 v.1.2.2.2.2.2.1
def qbbo:HS:=⟨[(1, .one (.int .i64)),(2, .one (.ptr 0 0)),(6, .one (.int .i64)),(7, .one (.int .i64)),(8, .one (.int .i64))],[(0, .cells hFs)],1⟩
def qbbp {R:Type}:Nat→HS.V qbbo→(Ex→St→Option R)→Option R:=fun q v K=>
 ref07_Names_L4 v.1.1 (cFs v.2.1) (fun y23 y24=>K (.exit 0) {regs:=[(6, .v (.one (.int .i64 y23))),(7, .v (.one (.int .i64 y24)))],mem:= [],nx:=0}) q v.1.2.2.1 v.1.2.2.2.1 v.1.2.2.2.2.1
def qbbq:List HV:=[.agg hFs, .one (.int .i64)]
def qbbr:List HV:=[.one (.int .i64), .one (.int .i64)]
def qbbs:HP.V qbbq→Fs×Int:=fun v=>((cFs v.1),v.2.1)
def qbbt:HX.V qbbr→Int×Int:=fun v=>(v.1,v.2)
def qbbu:(Int×Int)→HX.V qbbr:=fun y=>(y.1,y.2)
def qbbv:(Fs×Int)→Option (Int×Int):=fun x=>ref07_Names x.1 x.2
def qbbw:Spec:=mkSpec qbbq qbbr qbbs qbbu qbbv
def qbbx {R:Type}:List (Nat×Hd R):=[(4,hdOf qbbo qbbp),(7,hdOf qbbm qbbn)]
def qbby {R:Type}:List (Nat×Inl R):= []
def qbbz:Cfg:={T:=qa9q,glob:=GlobL.G Tryz.prog,eqs:=qa9r,N:=50,fuel:=64,loops:=[(7,⟨[1,2,6,7,8,9], [],[0],1, [], [], [], []⟩),(4,⟨[1,2,6,7,8], [],[0],1, [], [], [], []⟩)],blocks:=[(0,⟨[6,7], [], [],0, [], [], [], []⟩),(1,⟨[1,2,6,7,8], [],[0],1, [], [], [], []⟩),(2,⟨[1,2,6,7,8], [],[0],1, [], [], [], []⟩)],fid:=86}
theorem qbb0:CfgOK Tryz.prog qbbz:=cfgC qa9t qa9u trivial
theorem qbb1 {R:Type}:SubsOK Tryz.prog (R:=R) 0 qbby:=subsOK_nil _ _
theorem qbb2 {R:Type}:LoopOK (R:=R) (hnd 0 qbby) qbbz qbbx (sub [1,1,1,0,1,0,0] qa90) (HS.V qbbo) (HS.st qbbo) (HS.sh qbbo) qbbp (hdOf qbbo qbbp):=loopOK_of qbbo qbbp (fun _ _=>rfl) (by intro q v K;kernel_rfl)
theorem qbb3 {R:Type}:LoopOK (R:=R) (hnd 0 qbby) qbbz qbbx (sub [1,1,1,0,1,0,0,1,0,0,1,0,0] qa90) (HS.V qbbm) (HS.st qbbm) (HS.sh qbbm) qbbn (hdOf qbbm qbbn):=loopOK_of qbbm qbbn (fun _ _=>rfl) (by intro q v K;kernel_rfl)
theorem qbb4 {R:Type}:LoopsOK (R:=R) (hnd 0 qbby) qbbz qbbx qa90:=loopsOK_of (l:=[sub [1,1,1,0,1,0,0] qa90,sub [1,1,1,0,1,0,0,1,0,0,1,0,0] qa90]) (by kernel_rfl) (loopsL_cons (b:=sub [1,1,1,0,1,0,0] qa90) (rid:=4) (by kernel_rfl) (by kernel_rfl) qbb2 (loopsL_cons (b:=sub [1,1,1,0,1,0,0,1,0,0,1,0,0] qa90) (rid:=7) (by kernel_rfl) (by kernel_rfl) qbb3 (trivial)))
theorem qbb5:SpecOK Tryz.prog 86 qbbw:=specOK_a Tryz.f86 qbb0 qa9s (d:=0) qbb1 qbb4 (rngs0 (by kernel_rfl)) (toY:=qbbt)
def qbb6:HS:=⟨[(1, .one (.ptr 0 0)),(3, .one (.int .i64))],[(0, .cells hFs)],1⟩
def qbb7 {R:Type}:Nat→HS.V qbb6→(Ex→St→Option R)→Option R:=fun q v K=>
 ref07_fourth_L2 (cFs v.2.1) (K .ret {regs:=[(2, .v (.one (.bool false)))],mem:= [],nx:=0}) (K (.exit 0) {regs:= [],mem:= [],nx:=0}) q v.1.2.1
def qbb8:List HV:=[.agg hFs]
def qbb9:List HV:=[.one (.bool)]
def qbca:HP.V qbb8→Fs:=fun v=>((cFs v.1))
def qbcb:HX.V qbb9→Bool:=fun v=>(v)
def qbcc:Bool→HX.V qbb9:=fun y=>(y)
def qbcd:Fs→Option (Bool):=fun x=>ref07_fourth x
def qbce:Spec:=mkSpec qbb8 qbb9 qbca qbcc qbcd
def qbcf {R:Type}:List (Nat×Hd R):=[(2,hdOf qbb6 qbb7)]
def qbcg {R:Type}:List (Nat×Inl R):= []
def qbch:Cfg:={T:=qa9q,spec:=[(86,qbbw)],glob:=GlobL.G Tryz.prog,eqs:=qa9r,N:=57,fuel:=64,loops:=[(2,⟨[1,3], [],[0],1, [], [], [], []⟩)],blocks:=[(0,⟨[], [], [],0, [], [], [], []⟩)],retA:=some ⟨[2], [], [],0, [], [], [], []⟩,fid:=61}
theorem qbci:CfgOK Tryz.prog qbch:=cfgC qa9t qa9u ⟨qbb5,trivial⟩
theorem qbcj {R:Type}:SubsOK Tryz.prog (R:=R) 0 qbcg:=subsOK_nil _ _
theorem qbck {R:Type}:LoopOK (R:=R) (hnd 0 qbcg) qbch qbcf (sub [1,0,1,0,0] qa9y) (HS.V qbb6) (HS.st qbb6) (HS.sh qbb6) qbb7 (hdOf qbb6 qbb7):=loopOK_of qbb6 qbb7 (fun _ _=>rfl) (by intro q v K;kernel_rfl)
theorem qbcl {R:Type}:LoopsOK (R:=R) (hnd 0 qbcg) qbch qbcf qa9y:=loopsOK_of (l:=[sub [1,0,1,0,0] qa9y]) (by kernel_rfl) (loopsL_cons (b:=sub [1,0,1,0,0] qa9y) (rid:=2) (by kernel_rfl) (by kernel_rfl) qbck (trivial))
theorem qbcm:SpecOK Tryz.prog 61 qbce:=specOK_a Tryz.f61 qbci qa9s (d:=0) qbcj qbcl (rngs0 (by kernel_rfl)) (toY:=qbcb)
def qbcn:HS:=⟨[(1, .one (.ptr 0 0)),(3, .one (.own 1)),(4, .one (.int .i64)),(5, .one (.ptr 2 0)),(7, .one (.int .i64)),(8, .one (.bool)),(9, .one (.int .i64))],[(0, .cells hFs),(1, .row .int),(2, .cells hIn)],3⟩
def qbco {R:Type}:Nat→HS.V qbcn→(Ex→St→Option R)→Option R:=fun q v K=>
 ref07_fifth_L11 v.1.2.2.2.2.1 v.2.2.1 (cIn v.2.2.2.1) (fun y22=>K (.exit 4) {regs:=[(1, .v (.one (.ptr 0 0))),(3, .v (.one (.own 1))),(4, .v (.one (.int .i64 v.1.2.2.1))),(5, .v (.one (.ptr 2 0))),(7, .v (.one (.int .i64 v.1.2.2.2.2.1))),(8, .v (.one (.bool y22)))],mem:=[(0, .cells (rFs (cFs v.2.1))),(1, .row .int v.2.2.1),(2, .cells (rIn (cIn v.2.2.2.1)))],nx:=3}) q v.1.2.2.2.2.2.1 v.1.2.2.2.2.2.2.1
def qbcp:HS:=⟨[(1, .one (.ptr 0 0)),(3, .one (.own 1)),(4, .one (.int .i64)),(5, .one (.ptr 2 0)),(7, .one (.int .i64))],[(0, .cells hFs),(1, .row .int),(2, .cells hIn)],3⟩
def qbcq {R:Type}:Nat→HS.V qbcp→(Ex→St→Option R)→Option R:=fun q v K=>
 ref07_fifth_L7 (cIn v.2.2.2.1) (fun y30=>K (.exit 2) {regs:=[(1, .v (.one (.ptr 0 0))),(3, .v (.one (.own 1))),(4, .v (.one (.int .i64 v.1.2.2.1)))],mem:=[(0, .cells (rFs (cFs v.2.1))),(1, .row .int y30)],nx:=2}) q v.1.2.2.2.2.1 v.2.2.1
def qbcr:HS:=⟨[(1, .one (.ptr 0 0)),(3, .one (.own 1)),(4, .one (.int .i64))],[(0, .cells hFs),(1, .row .int)],2⟩
def qbcs {R:Type}:Nat→HS.V qbcr→(Ex→St→Option R)→Option R:=fun q v K=>
 ref07_fifth_L3 (cFs v.2.1) (fun y33=>K (.exit 0) {regs:=[(1, .v (.one (.ptr 0 0))),(3, .v (.one (.own 1)))],mem:=[(0, .cells (rFs (cFs v.2.1))),(1, .row .int y33)],nx:=2}) q v.1.2.2.1 v.2.2.1
def qbct:List HV:=[.agg hFs]
def qbcu:List HV:=[.one (.bool)]
def qbcv:HP.V qbct→Fs:=fun v=>((cFs v.1))
def qbcw:HX.V qbcu→Bool:=fun v=>(v)
def qbcx:Bool→HX.V qbcu:=fun y=>(y)
def qbcy:Fs→Option (Bool):=fun x=>ref07_fifth x
def qbcz:Spec:=mkSpec qbct qbcu qbcv qbcx qbcy
def qbc0 {R:Type}:List (Nat×Hd R):=[(3,hdOf qbcr qbcs),(7,hdOf qbcp qbcq),(11,hdOf qbcn qbco)]
def qbc1 {R:Type}:List (Nat×Inl R):= []
def qbc2:Cfg:={T:=qa9q,spec:=[(18,qa6b)],glob:=GlobL.G Tryz.prog,eqs:=qa9r,N:=70,fuel:=64,loops:=[(11,⟨[1,3,4,5,7,8,9], [],[0,1,2],3, [], [], [], []⟩),(7,⟨[1,3,4,5,7], [],[0,1,2],3, [], [], [], []⟩),(3,⟨[1,3,4], [],[0,1],2, [], [], [], []⟩)],blocks:=[(0,⟨[1,3], [],[0,1],2, [], [], [], []⟩),(1,⟨[1,3,4], [],[0,1],2, [], [], [], []⟩),(2,⟨[1,3,4], [],[0,1],2, [], [], [], []⟩),(3,⟨[1,3,4,5,7], [],[0,1,2],3, [], [], [], []⟩),(4,⟨[1,3,4,5,7,8], [],[0,1,2],3, [], [], [], []⟩)],fid:=62}
theorem qbc3:CfgOK Tryz.prog qbc2:=cfgC qa9t qa9u ⟨qa6j,trivial⟩
theorem qbc4 {R:Type}:SubsOK Tryz.prog (R:=R) 0 qbc1:=subsOK_nil _ _
theorem qbc5 {R:Type}:LoopOK (R:=R) (hnd 0 qbc1) qbc2 qbc0 (sub [1,1,0,1,0,0] qa9z) (HS.V qbcr) (HS.st qbcr) (HS.sh qbcr) qbcs (hdOf qbcr qbcs):=loopOK_of qbcr qbcs (fun _ _=>rfl) (by intro q v K;kernel_rfl)
theorem qbc6 {R:Type}:LoopOK (R:=R) (hnd 0 qbc1) qbc2 qbc0 (sub [1,1,0,1,0,0,1,0,0,1,1,0,0] qa9z) (HS.V qbcp) (HS.st qbcp) (HS.sh qbcp) qbcq (hdOf qbcp qbcq):=loopOK_of qbcp qbcq (fun _ _=>rfl) (by intro q v K;kernel_rfl)
theorem qbc7 {R:Type}:LoopOK (R:=R) (hnd 0 qbc1) qbc2 qbc0 (sub [1,1,0,1,0,0,1,0,0,1,1,0,0,1,0,0,1,0,1,0,0] qa9z) (HS.V qbcn) (HS.st qbcn) (HS.sh qbcn) qbco (hdOf qbcn qbco):=loopOK_of qbcn qbco (fun _ _=>rfl) (by intro q v K;kernel_rfl)
theorem qbc8 {R:Type}:LoopsOK (R:=R) (hnd 0 qbc1) qbc2 qbc0 qa9z:=loopsOK_of (l:=[sub [1,1,0,1,0,0] qa9z,sub [1,1,0,1,0,0,1,0,0,1,1,0,0] qa9z,sub [1,1,0,1,0,0,1,0,0,1,1,0,0,1,0,0,1,0,1,0,0] qa9z]) (by kernel_rfl) (loopsL_cons (b:=sub [1,1,0,1,0,0] qa9z) (rid:=3) (by kernel_rfl) (by kernel_rfl) qbc5 (loopsL_cons (b:=sub [1,1,0,1,0,0,1,0,0,1,1,0,0] qa9z) (rid:=7) (by kernel_rfl) (by kernel_rfl) qbc6 (loopsL_cons (b:=sub [1,1,0,1,0,0,1,0,0,1,1,0,0,1,0,0,1,0,1,0,0] qa9z) (rid:=11) (by kernel_rfl) (by kernel_rfl) qbc7 (trivial))))
theorem qbc9:SpecOK Tryz.prog 62 qbcz:=specOK_a Tryz.f62 qbc3 qa9s (d:=0) qbc4 qbc8 (rngs0 (by kernel_rfl)) (toY:=qbcw)
def qbda:List HV:=[.agg hFs]
def qbdb:List HV:=[.one (.int .i64)]
def qbdc:HP.V qbda→Fs:=fun v=>((cFs v.1))
def qbdd:HX.V qbdb→Int:=fun v=>(v)
def qbde:Int→HX.V qbdb:=fun y=>(y)
def qbdf:Fs→Option (Int):=fun x=>ref07_Check x
def qbdg:Spec:=mkSpec qbda qbdb qbdc qbde qbdf
def qbdh:Cfg:={T:=qa9q,spec:=[(58,qa99),(59,qbas),(60,qbbc),(61,qbce),(62,qbcz),(63,qa9m)],glob:=GlobL.G Tryz.prog,eqs:=qa9r,N:=21,fuel:=64,fid:=25}
theorem qbdi:CfgOK Tryz.prog qbdh:=cfgC qa9t qa9u ⟨qbah,⟨qba1,⟨qbbl,⟨qbcm,⟨qbc9,⟨qa9p,trivial⟩⟩⟩⟩⟩⟩
theorem qbdj:SpecOK Tryz.prog 25 qbdg:=specOK_0 Tryz.f25 qbdi qa9s (toY:=qbdd)
def qbdk:List HV:=[.agg hFs]
def qbdl:List HV:=[.one (.bool)]
def qbdm:HP.V qbdk→Fs:=fun v=>((cFs v.1))
def qbdn:HX.V qbdl→Bool:=fun v=>(v)
def qbdo:Bool→HX.V qbdl:=fun y=>(y)
def qbdp:Fs→Option (Bool):=fun x=>ref07_Ok x
def qbdq:Spec:=mkSpec qbdk qbdl qbdm qbdo qbdp
def qbdr:Cfg:={T:=qa9q,spec:=[(25,qbdg),(46,qa8j)],glob:=GlobL.G Tryz.prog,eqs:=qa9r,N:=10,fuel:=64,fid:=17}
theorem qbds:CfgOK Tryz.prog qbdr:=cfgC qa9t qa9u ⟨qbdj,⟨qa8s,trivial⟩⟩
theorem qbdt:SpecOK Tryz.prog 17 qbdq:=specOK_0 Tryz.f17 qbds qa9s (toY:=qbdn)
end
end Go.Eng
