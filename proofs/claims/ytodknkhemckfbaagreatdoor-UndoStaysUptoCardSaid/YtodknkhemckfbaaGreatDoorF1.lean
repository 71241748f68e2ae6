/- A part of the proofs of the laws of this seat: the engine that reads the program's code, plain functions, or facts of the program's functions. Conditions: none. -/
import Derived.Ground.NamesProg
import Derived.Shelf.Small.Strs
import Derived.Shelf.Strings.Search1
import Derived.Shelf.Strings.OnBuilder
import Derived.Test.YtodknkhemckfbaaGreatDoorProg
import Derived.Test.YtodknkhemckfbaaGreatDoorP1
import Derived.Test.YtodknkhemckfbaaGreatDoorE4
set_option linter.unusedSectionVars false
set_option linter.unusedVariables false
set_option linter.unusedSimpArgs false
set_option linter.unnecessarySimpa false
set_option maxRecDepth 100000
namespace Go.Proofs
open Go.Shelf
def Tryz.FA:Go.Shelf.Ren:=⟨λ|106=>206|213=>221|265=>229|n=>n,λ|9=>9|3=>3|n=>n,λ|n=>n⟩
theorem Tryz.P9:Go.Proofs.Lays.n106 Tryz.prog Tryz.FA:={
 mixed:=by kernel_rfl
 f106:=Tryz.func206.trans (congrArg some (by kernel_rfl))
 f213:=Tryz.func221.trans (congrArg some (by kernel_rfl))
 f265:=Tryz.func229.trans (congrArg some (by kernel_rfl))
 t3:=Tryz.underlying3
 a3:=Tryz.isAgg3
 z3:=Tryz.sizeOf3
 v3:=Tryz.zeroValue3
 t9:=Tryz.underlying9
 a9:=Tryz.isAgg9
 z9:=Tryz.sizeOf9
 v9:=Tryz.zeroValue9}
def Tryz.Em:Go.Shelf.Ren:=⟨λ|217=>200|266=>219|n=>n,λ|9=>9|5=>5|3=>3|n=>n,λ|n=>n⟩
theorem Tryz.PB:Go.Proofs.Lays.n217 Tryz.prog Tryz.Em:={
 mixed:=by kernel_rfl
 f217:=Tryz.func200.trans (congrArg some (by kernel_rfl))
 f266:=Tryz.func219.trans (congrArg some (by kernel_rfl))
 t3:=Tryz.underlying3
 a3:=Tryz.isAgg3
 z3:=Tryz.sizeOf3
 v3:=Tryz.zeroValue3
 t5:=Tryz.underlying5
 a5:=Tryz.isAgg5
 z5:=Tryz.sizeOf5
 v5:=Tryz.zeroValue5
 t9:=Tryz.underlying9
 a9:=Tryz.isAgg9
 z9:=Tryz.sizeOf9
 v9:=Tryz.zeroValue9}
def Tryz.xy:Go.Shelf.Ren:=⟨λ|156=>175|165=>196|166=>197|169=>198|240=>213|241=>214|276=>225|277=>226|n=>n,λ|31=>131|9=>9|3=>3|4=>4|0=>0|20=>20|72=>192|76=>196|70=>189|37=>190|75=>195|127=>207|164=>218|5=>5|80=>198|n=>n,λ|n=>n⟩
theorem Tryz.IB:Go.Proofs.Lays.n156 Tryz.prog Tryz.xy:={
 mixed:=by kernel_rfl
 f156:=Tryz.func175.trans (congrArg some (by kernel_rfl))
 f165:=Tryz.func196.trans (congrArg some (by kernel_rfl))
 f166:=Tryz.func197.trans (congrArg some (by kernel_rfl))
 f169:=Tryz.func198.trans (congrArg some (by kernel_rfl))
 f240:=Tryz.func213.trans (congrArg some (by kernel_rfl))
 f241:=Tryz.func214.trans (congrArg some (by kernel_rfl))
 f276:=Tryz.func225.trans (congrArg some (by kernel_rfl))
 f277:=Tryz.func226.trans (congrArg some (by kernel_rfl))
 t0:=Tryz.underlying0
 a0:=Tryz.isAgg0
 z0:=Tryz.sizeOf0
 v0:=Tryz.zeroValue0
 t3:=Tryz.underlying3
 a3:=Tryz.isAgg3
 z3:=Tryz.sizeOf3
 v3:=Tryz.zeroValue3
 t4:=Tryz.underlying4
 a4:=Tryz.isAgg4
 z4:=Tryz.sizeOf4
 v4:=Tryz.zeroValue4
 t9:=Tryz.underlying9
 a9:=Tryz.isAgg9
 z9:=Tryz.sizeOf9
 v9:=Tryz.zeroValue9
 t20:=Tryz.underlying20
 a20:=Tryz.isAgg20
 z20:=Tryz.sizeOf20
 v20:=Tryz.zeroValue20
 t31:=Tryz.underlying131
 a31:=Tryz.isAgg131
 z31:=Tryz.sizeOf131
 v31:=Tryz.zeroValue131
 t37:=Tryz.underlying190
 a37:=Tryz.isAgg190
 z37:=Tryz.sizeOf190
 v37:=Tryz.zeroValue190
 t70:=Tryz.underlying189
 a70:=Tryz.isAgg189
 z70:=Tryz.sizeOf189
 v70:=Tryz.zeroValue189
 t72:=Tryz.underlying192
 a72:=Tryz.isAgg192
 z72:=Tryz.sizeOf192
 v72:=Tryz.zeroValue192
 t75:=Tryz.underlying195
 a75:=Tryz.isAgg195
 z75:=Tryz.sizeOf195
 v75:=Tryz.zeroValue195
 t76:=Tryz.underlying196
 a76:=Tryz.isAgg196
 z76:=Tryz.sizeOf196
 v76:=Tryz.zeroValue196
 t127:=Tryz.underlying207
 a127:=Tryz.isAgg207
 z127:=Tryz.sizeOf207
 v127:=Tryz.zeroValue207
 t164:=Tryz.underlying218
 a164:=Tryz.isAgg218
 z164:=Tryz.sizeOf218
 v164:=Tryz.zeroValue218}
end Go.Proofs
namespace Go.Eng
open Go Go.Proofs Go.Shelf
noncomputable instance:aD Tryz.prog:=⟨[(0,⟨.parts,oL⟩)]⟩
noncomputable def jC:Spec:=aL (X:=Str×Str) (Y:=Int) [.one .str, .one .str] [.one (.int .i64)] (λv=>(v.1,v.2.1)) (λy=>y) (λx=>strings_Compare x.1 x.2)
theorem ub:aK Tryz.prog 206 jC where
 enters:=enters_of Tryz.func206 (by kernel_rfl) rfl
 calls:=by
  intro S w args vs x y hS _ hal hp hf;simp only[jC,aL] at hp hf⊢;split at hp
  ·rename_i v hv
   cases hp;cases hf;rw[HP.eq hv] at hal;cases hal with
   |cons h1 h2=>
    cases h2 with
    |cons h2 h3=>
     cases h3;rename_i v1 v2;cases (show VA _ w (.str v.1) v1 from h1) with
     |str _ b1 e1=>
      cases (show VA _ w (.str v.2.1) v2 from h2) with
      |str _ b2 e2=>
       refine(Any.strings_Compare Tryz.P9 b1 b2 w).mono ?_;rintro e w' ⟨rfl,rfl⟩;refine⟨_,rfl,Go.RowKit.Below.refl _ _, ?_⟩;rw[e1,e2];exact VA.int _ _
  ·cases hp
noncomputable def di:Spec:=aL (X:=Str×Int) (Y:=Int) [.one .str, .one (.int .u8)] [.one (.int .i64)] (λv=>(v.1,v.2.1)) (λy=>y) (λx=>stringslite_IndexByte x.1 x.2)
theorem fP:aK Tryz.prog 200 di where
 enters:=enters_of Tryz.func200 (by kernel_rfl) rfl
 calls:=by
  intro S w args vs x y hS _ hal hp hf;simp only[di,aL] at hp hf⊢;split at hp
  ·rename_i v hv
   cases hp;cases hf;rw[HP.eq hv] at hal;cases hal with
   |cons h1 h2=>
    cases h2 with
    |cons h2 h3=>
     cases h3;rename_i v1 v2;cases (show VA _ w (.str v.1) v1 from h1) with
     |str _ b1 e1=>
      cases (show VA _ w (.int .u8 v.2.1) v2 from h2) with
      |int _ _=>
       refine(Any.stringslite_IndexByte Tryz.PB b1 v.2.1 w).mono ?_;rintro e w' ⟨rfl,rfl⟩;refine⟨_,rfl,Go.RowKit.Below.refl _ _, ?_⟩;rw[e1];exact VA.int _ _
  ·cases hp
theorem RG:Go.Proofs.Builder.Extra Tryz.prog Tryz.xy where
 sizeBuilder:=by kernel_rfl
 liesBuilder:=by kernel_rfl
 t5:=Tryz.underlying5
 a5:=Tryz.isAgg5
 z5:=Tryz.sizeOf5
 v5:=Tryz.zeroValue5
 infoByte:=by kernel_rfl
 cellsByte:=by kernel_rfl
 sizeByte:=by kernel_rfl
 neB5:=by decide
noncomputable def mn:Spec:=aL (X:=List Str×Str) (Y:=Str) [.one (.sl .str), .one .str] [.one .str] (λv=>(v.1,v.2.1)) (λy=>y) (λx=>strings_Join x.1 x.2)
theorem xJ:aK Tryz.prog 175 mn where
 enters:=enters_of Tryz.func175 (by kernel_rfl) rfl
 calls:=by
  intro S w args vs x y hS _ hal hp hf;simp only[mn,aL] at hp hf⊢;split at hp
  ·rename_i v hv
   cases hp;unfold strings_Join at hf;split at hf
   rotate_left
   ·cases hf
   rename_i hlen;have hlen:(Lib.join v.1 v.2.1).length+List.length v.1<=67108864:=hlen;cases hf;rw[HP.eq hv] at hal;cases hal with
   |cons h1 h2=>
    cases h2 with
    |cons h2 h3=>
     cases h3;rename_i v1 v2;cases (show VA _ w (.sl .str v.1) v1 from h1) with
     |sl _ _ ad len cap bk of f hn hc ha hcell hff=>
      cases (show VA _ w (.str v.2.1) v2 from h2) with
      |str _ b2 e2=>
       by_cases hne:v.1= []
       ·have hlen0:len=0:=by rw[hn,hne];rfl
        subst hlen0;refine(Any.strings_Join_none Tryz.IB RG ad cap b2 w).mono ?_;rintro e w' ⟨rfl,rfl⟩;refine⟨_,rfl,Go.RowKit.Below.refl _ _, ?_⟩;rw[hne];exact VA.str _ _ rfl
       ·obtain⟨rfl,hSb⟩:=ha hne
        obtain⟨xs,hxl,hxs,hxd⟩:=KS (w:=w) (bk:=bk) (of:=of) v.1 (λi hi=>by
         have:=hcell i 0 hi (by decide);have h9:=hff i v.1[i] 0 (.str v.1[i]) (by simp [hi]) rfl;generalize f i 0=u at this h9;cases h9 with
         |str _ b e=>exact⟨b,by simpa [Ty.n] using this,e⟩)
        subst hn;have:=Any.strings_Join Tryz.IB RG bk of cap xs b2 w hxs (hS bk hSb) (by
         rw[hxl];omega) (by rw[hxl];exact hc) (by
         rw[hxd,e2];omega)
        rw[hxl] at this;refine this.mono ?_;rintro e w' ⟨rfl,hb⟩;refine⟨_,rfl,hb, ?_⟩;rw[hxd,e2];exact VA.str _ _ (by simp)
  ·cases hp
theorem Ai:xH Tryz.prog 164:=Ag Tryz.func164 (by kernel_rfl) (by kernel_rfl) (tS:=22) (tR:=4) (e:=75) (size:=6) (by kernel_rfl) (by kernel_rfl) (by kernel_rfl) Tryz.sizeOf75
theorem K4:xH Tryz.prog 191:=Ag Tryz.func191 (by kernel_rfl) (by kernel_rfl) (tS:=25) (tR:=4) (e:=57) (size:=4) (by kernel_rfl) (by kernel_rfl) (by kernel_rfl) Tryz.sizeOf57
theorem FN:xH Tryz.prog 207:=Ag Tryz.func207 (by kernel_rfl) (by kernel_rfl) (tS:=73) (tR:=4) (e:=103) (size:=2) (by kernel_rfl) (by kernel_rfl) (by kernel_rfl) Tryz.sizeOf103
end Go.Eng
namespace Go.Eng
noncomputable section
open Go Go.Proofs
def Bi:List (Nat×TI):=[(3,⟨false,1, .one (.int .i64 0), .int .i64⟩),(9,⟨false,1, .one (.str []), .str⟩),(73,⟨false,1, .one (.clip .entry []), .slice .entry 103⟩),(103,⟨true,2, .agg [.str [], .int .i64 0], .struct [(0,9),(1,3)]⟩),(184,⟨false,1, .one (.int .u64 0), .int .u64⟩)]
def bc:List (Nat×List EK):= []
theorem bD:Tryz.prog.follows .mixedOrders=true:=by kernel_rfl
theorem Di:(Bi.all λx=>tiB Tryz.prog x.1 x.2)=true:=by kernel_rfl
theorem bg:(bc.all λx=>eqB Tryz.prog x.1 x.2)=true:=by kernel_rfl
def aat:Code:=bd Tryz.f154
def V_:Code:=bd Tryz.f156
def ajy:Code:=bd Tryz.f182
def Zo:Code:=bd Tryz.f183
def ajC:Code:=bd Tryz.f184
def M4:Code:=bd Tryz.f204
def akc:Code:=bd Tryz.f205
def GK:HS:=⟨[(0, .one (.sl .entry)),(1, .one (.str)),(2, .one (.fnc 205)),(8, .one (.int .i64)),(9, .one (.int .i64)),(10, .one (.int .i64))], [],0⟩
def Nd {R:Type}:Nat->HS.V GK->(Ex->St->Option R)->Option R:=λq v K=>
 eW v.1.1 v.1.2.1 (λy11=>K (.exit 0) {az:=[(0, .v (.one (.sl .entry v.1.1))),(1, .v (.one (.str v.1.2.1))),(2, .v (.one (.fnc 205))),(8, .v (.one (.int .i64 v.1.2.2.2.1))),(9, .v (.one (.int .i64 y11)))],mem:= [],nx:=0}) q v.1.2.2.2.2.1 v.1.2.2.2.2.2.1
def Kl:List HV:=[.one (.sl .entry), .one (.str)]
def D_:List HV:=[.one (.int .i64), .one (.bool)]
def LW:HP.V Kl->(List Entry)×Str:=λv=>(v.1,v.2.1)
def J3:HX.V D_->Int×Bool:=λv=>(v.1,v.2)
def Kt:(Int×Bool)->HX.V D_:=λy=>(y.1,y.2)
def aor:(List Entry)×Str->Option (Int×Bool):=λx=>o6 x.1 x.2
def G8:Spec:=aL Kl D_ LW Kt aor
def Ye:Cfg:={T:=Bi,spec:=[(206,jC)],aW:=aD.G Tryz.prog,eqs:=bc,N:=9,fuel:=64,fid:=205}
theorem VQ:aE Tryz.prog Ye:=aX Di bg ⟨ub,trivial⟩
def Xv {R:Type}:Inl R:= .mk 205 Ye [] akc Tryz.f205.results.toList []
def Tm {R:Type}:List (Nat×Hd R):=[(3,bw GK Nd)]
def Qa {R:Type}:List (Nat×Inl R):=[(30,Xv),(46,Xv)]
def NX:Cfg:={T:=Bi,aW:=aD.G Tryz.prog,eqs:=bc,N:=49,fuel:=64,loops:=[(3,⟨[0,1,2,8,9,10], [], [],0, [], [], [], []⟩)],blocks:=[(0,⟨[0,1,2,8,9], [], [],0, [], [], [], []⟩)],fid:=204}
theorem aeb:aE Tryz.prog NX:=aX Di bg trivial
theorem ady {R:Type}:bt Tryz.prog (R:=R) 1 Qa:=bQ Tryz.f205 VQ (bQ Tryz.f205 VQ (aR _ _))
theorem aoU {R:Type}:br (R:=R) (hnd 1 Qa) NX Tm (sub [1,1,1,0,0,0] M4) (HS.V GK) (HS.st GK) (HS.sh GK) Nd (bw GK Nd):=aN GK Nd (λ_ _=>rfl) (by intro q v K;kernel_rfl)
theorem afc {R:Type}:aI (R:=R) (hnd 1 Qa) NX Tm M4:=aA (l:=[sub [1,1,1,0,0,0] M4]) (by kernel_rfl) (aG (b:=sub [1,1,1,0,0,0] M4) (rid:=3) (by kernel_rfl) (by kernel_rfl) aoU (trivial))
def anb {R:Type}:Inl R:= .mk 204 NX Tm M4 Tryz.f204.results.toList Qa
def cw {R:Type}:List (Nat×Hd R):= []
def WR {R:Type}:List (Nat×Inl R):=[(8,anb)]
def aaa:Cfg:={T:=Bi,aW:=aD.G Tryz.prog,eqs:=bc,N:=11,fuel:=64,fid:=182}
theorem aoH:aE Tryz.prog aaa:=aX Di bg trivial
theorem al7 {R:Type}:bt Tryz.prog (R:=R) 2 WR:=bJ Tryz.f204 aeb afc (bh (by kernel_rfl)) ady (aR _ _)
theorem aen {R:Type}:aI (R:=R) (hnd 2 WR) aaa cw ajy:=aA (l:= []) (by kernel_rfl) (trivial)
theorem JS:aK Tryz.prog 182 G8:=aY Tryz.f182 aoH bD (d:=2) al7 aen (bh (by kernel_rfl)) (toY:=J3)
def alm:(List Entry)×Str->Option (Int×Bool):=λx=>na x.1 x.2
def YM:Spec:=aL Kl D_ LW Kt alm
def aer:Cfg:={T:=Bi,spec:=[(182,G8)],aW:=aD.G Tryz.prog,eqs:=bc,N:=21,fuel:=64,fid:=179}
theorem alX:aE Tryz.prog aer:=aX Di bg ⟨JS,trivial⟩
theorem aeG:aK Tryz.prog 179 YM:=aZ Tryz.f179 alX bD (toY:=J3)
def RM:List HV:=[.one (.sl .entry), .one (.str), .one (.int .i64)]
def EY:List HV:=[.one (.sl .entry)]
def Y1:HP.V RM->(List Entry)×Str×Int:=λv=>(v.1,v.2.1,v.2.2.1)
def Ng:HX.V EY->(List Entry):=λv=>(v)
def Nw:(List Entry)->HX.V EY:=λy=>(y)
def adM:(List Entry)×Str×Int->Option ((List Entry)):=λx=>fN x.1 x.2.1 x.2.2
def QJ:Spec:=aL RM EY Y1 Nw adM
def Y9:Cfg:={T:=Bi,spec:=[(182,G8)],aW:=aD.G Tryz.prog,eqs:=bc,N:=8,fuel:=64,ovl:=[207],fid:=183}
theorem anY:aE Tryz.prog Y9:=aX Di bg ⟨JS,trivial⟩ (ov:=⟨FN,trivial⟩)
def ad1 {R:Type}:Inl R:= .mk 183 Y9 [] Zo Tryz.f183.results.toList []
def WA:Cfg:={T:=Bi,spec:=[(182,G8)],aW:=aD.G Tryz.prog,eqs:=bc,N:=95,fuel:=64,ovl:=[207],fid:=184}
theorem afZ:aE Tryz.prog WA:=aX Di bg ⟨JS,trivial⟩ (ov:=⟨FN,trivial⟩)
def alc {R:Type}:Inl R:= .mk 184 WA [] ajC Tryz.f184.results.toList []
def VI {R:Type}:List (Nat×Inl R):=[(17,ad1),(31,alc)]
def UY:Cfg:={T:=Bi,spec:=[(182,G8)],aW:=aD.G Tryz.prog,eqs:=bc,N:=32,fuel:=64,ovl:=[207],fid:=154}
theorem ana:aE Tryz.prog UY:=aX Di bg ⟨JS,trivial⟩ (ov:=⟨FN,trivial⟩)
theorem adF {R:Type}:bt Tryz.prog (R:=R) 1 VI:=bQ Tryz.f183 anY (bQ Tryz.f184 afZ (aR _ _))
theorem adW {R:Type}:aI (R:=R) (hnd 1 VI) UY cw aat:=aA (l:= []) (by kernel_rfl) (trivial)
theorem al1:fe Tryz.prog UY aat:=bh (by kernel_rfl)
theorem Uw:aK Tryz.prog 154 QJ:=aY Tryz.f154 ana bD (d:=1) adF adW al1 (toY:=Ng)
def ag9:(List Entry)×Str->Option ((List Entry)):=λx=>fJ x.1 x.2
def TF:Spec:=aL Kl EY LW Nw ag9
def aaN:Cfg:={T:=Bi,spec:=[(182,G8)],aW:=aD.G Tryz.prog,eqs:=bc,N:=8,fuel:=64,fid:=183}
theorem adv:aE Tryz.prog aaN:=aX Di bg ⟨JS,trivial⟩
def akj {R:Type}:Inl R:= .mk 183 aaN [] Zo Tryz.f183.results.toList []
def W4 {R:Type}:List (Nat×Inl R):=[(17,akj)]
def Uj:Cfg:={T:=Bi,spec:=[(182,G8)],aW:=aD.G Tryz.prog,eqs:=bc,N:=35,fuel:=64,fid:=156}
theorem alB:aE Tryz.prog Uj:=aX Di bg ⟨JS,trivial⟩
theorem akV {R:Type}:bt Tryz.prog (R:=R) 1 W4:=bQ Tryz.f183 adv (aR _ _)
theorem ae4 {R:Type}:aI (R:=R) (hnd 1 W4) Uj cw V_:=aA (l:= []) (by kernel_rfl) (trivial)
theorem akB:fe Tryz.prog Uj V_:=bh (by kernel_rfl)
theorem Zc:aK Tryz.prog 156 TF:=aY Tryz.f156 alB bD (d:=1) akV ae4 akB (toY:=Ng)
end
end Go.Eng
namespace Go.Eng
noncomputable section
open Go Go.Proofs
def jV:List (Nat×TI):=[(3,⟨false,1, .one (.int .i64 0), .int .i64⟩),(4,⟨false,1, .one (.bool false), .bool⟩),(5,⟨false,1, .one (.int .u8 0), .int .u8⟩),(9,⟨false,1, .one (.str []), .str⟩),(21,⟨false,1, .one (.int .i32 0), .int .i32⟩),(99,⟨false,1, .one (.ng), .other⟩),(131,⟨false,1, .one (.clip .str []), .slice .str 9⟩),(210,⟨true,256, .agg [.bool false, .bool false, .bool false, .bool false, .bool false, .bool false, .bool false, .bool false, .bool false, .bool false, .bool false, .bool false, .bool false, .bool false, .bool false, .bool false, .bool false, .bool false, .bool false, .bool false, .bool false, .bool false, .bool false, .bool false, .bool false, .bool false, .bool false, .bool false, .bool false, .bool false, .bool false, .bool false, .bool false, .bool false, .bool false, .bool false, .bool false, .bool false, .bool false, .bool false, .bool false, .bool false, .bool false, .bool false, .bool false, .bool false, .bool false, .bool false, .bool false, .bool false, .bool false, .bool false, .bool false, .bool false, .bool false, .bool false, .bool false, .bool false, .bool false, .bool false, .bool false, .bool false, .bool false, .bool false, .bool false, .bool false, .bool false, .bool false, .bool false, .bool false, .bool false, .bool false, .bool false, .bool false, .bool false, .bool false, .bool false, .bool false, .bool false, .bool false, .bool false, .bool false, .bool false, .bool false, .bool false, .bool false, .bool false, .bool false, .bool false, .bool false, .bool false, .bool false, .bool false, .bool false, .bool false, .bool false, .bool false, .bool false, .bool false, .bool false, .bool false, .bool false, .bool false, .bool false, .bool false, .bool false, .bool false, .bool false, .bool false, .bool false, .bool false, .bool false, .bool false, .bool false, .bool false, .bool false, .bool false, .bool false, .bool false, .bool false, .bool false, .bool false, .bool false, .bool false, .bool false, .bool false, .bool false, .bool false, .bool false, .bool false, .bool false, .bool false, .bool false, .bool false, .bool false, .bool false, .bool false, .bool false, .bool false, .bool false, .bool false, .bool false, .bool false, .bool false, .bool false, .bool false, .bool false, .bool false, .bool false, .bool false, .bool false, .bool false, .bool false, .bool false, .bool false, .bool false, .bool false, .bool false, .bool false, .bool false, .bool false, .bool false, .bool false, .bool false, .bool false, .bool false, .bool false, .bool false, .bool false, .bool false, .bool false, .bool false, .bool false, .bool false, .bool false, .bool false, .bool false, .bool false, .bool false, .bool false, .bool false, .bool false, .bool false, .bool false, .bool false, .bool false, .bool false, .bool false, .bool false, .bool false, .bool false, .bool false, .bool false, .bool false, .bool false, .bool false, .bool false, .bool false, .bool false, .bool false, .bool false, .bool false, .bool false, .bool false, .bool false, .bool false, .bool false, .bool false, .bool false, .bool false, .bool false, .bool false, .bool false, .bool false, .bool false, .bool false, .bool false, .bool false, .bool false, .bool false, .bool false, .bool false, .bool false, .bool false, .bool false, .bool false, .bool false, .bool false, .bool false, .bool false, .bool false, .bool false, .bool false, .bool false, .bool false, .bool false, .bool false, .bool false, .bool false, .bool false, .bool false, .bool false, .bool false, .bool false, .bool false, .bool false, .bool false, .bool false, .bool false, .bool false, .bool false, .bool false, .bool false, .bool false, .bool false, .bool false], .array 256 4⟩)]
theorem kp:(jV.all λx=>tiB Tryz.prog x.1 x.2)=true:=by kernel_rfl
def adD:Code:=bd Tryz.f86
def afn:Code:=bd Tryz.f119
def Xz:Code:=bd Tryz.f121
def Z_:Code:=bd Tryz.f143
def anI:Code:=bd Tryz.f144
def Yo:Code:=bd Tryz.f146
def abF:Code:=bd Tryz.f147
def O2:Code:=bd Tryz.f149
def ah0:Code:=bd Tryz.f150
def Ku:Code:=bd Tryz.f172
def JR:Code:=bd Tryz.f173
def Ws:Code:=bd Tryz.f174
def L0:Code:=bd Tryz.f176
def adY:Code:=bd Tryz.f177
def EO:Code:=bd Tryz.f178
def aiG:Code:=bd Tryz.f195
def Fj:Code:=bd Tryz.f199
def Hw:Code:=bd Tryz.f211
def tv:Code:=bd Tryz.f215
def ahg:Code:=bd Tryz.f216
def Rm:Code:=bd Tryz.f217
def abv:Code:=bd Tryz.f218
def aiP:Code:=bd Tryz.f227
def aja:Code:=bd Tryz.f228
def J0:List HV:=[.one (.sl .str)]
def vl:List HV:=[.one (.str)]
def W1:HP.V J0->(List Str):=λv=>(v.1)
def Zg:HX.V vl->Str:=λv=>(v)
def Xo:Str->HX.V vl:=λy=>(y)
def alv:(List Str)->Option (Str):=λx=>mZ x
def sD:Spec:=aL J0 vl W1 Xo alv
def ahd:Cfg:={T:=jV,spec:=[(175,mn)],aW:=aD.G Tryz.prog,eqs:=bc,N:=9,fuel:=64,fid:=145}
theorem ahX:aE Tryz.prog ahd:=aX kp bg ⟨xJ,trivial⟩
theorem tF:aK Tryz.prog 145 sD:=aZ Tryz.f145 ahX bD (toY:=Zg)
def GS:HS:=⟨[(0, .one (.str)),(6, .one (.ptr 1 0)),(8, .one (.int .i64))],[(1, .cells [.aF true, .aF false, .aF false, .aF false, .aF false, .aF false, .aF false, .aF false, .aF false, .aF false, .aF false, .aF false, .aF false, .aF false, .aF false, .aF false, .aF false, .aF false, .aF false, .aF false, .aF false, .aF false, .aF false, .aF false, .aF false, .aF false, .aF false, .aF false, .aF false, .aF false, .aF false, .aF false, .aF false, .aF false, .aF false, .aF false, .aF false, .aF false, .aF false, .aF false, .aF false, .aF false, .aF false, .aF false, .aF false, .aF false, .aF false, .aF true, .aF false, .aF false, .aF false, .aF false, .aF false, .aF false, .aF false, .aF false, .aF false, .aF false, .aF false, .aF false, .aF false, .aF false, .aF false, .aF false, .aF false, .aF false, .aF false, .aF false, .aF false, .aF false, .aF false, .aF false, .aF false, .aF false, .aF false, .aF false, .aF false, .aF false, .aF false, .aF false, .aF false, .aF false, .aF false, .aF false, .aF false, .aF false, .aF false, .aF false, .aF false, .aF false, .aF false, .aF false, .aF false, .aF false, .aF false, .aF false, .aF false, .aF false, .aF false, .aF false, .aF false, .aF false, .aF false, .aF false, .aF false, .aF false, .aF false, .aF false, .aF false, .aF false, .aF false, .aF false, .aF false, .aF false, .aF false, .aF false, .aF false, .aF false, .aF false, .aF false, .aF false, .aF false, .aF false, .aF false, .aF false, .aF false, .aF false, .aF false, .aF false, .aF false, .aF false, .aF false, .aF false, .aF false, .aF false, .aF false, .aF false, .aF false, .aF false, .aF false, .aF false, .aF false, .aF false, .aF false, .aF false, .aF false, .aF false, .aF false, .aF false, .aF false, .aF false, .aF false, .aF false, .aF false, .aF false, .aF false, .aF false, .aF false, .aF false, .aF false, .aF false, .aF false, .aF false, .aF false, .aF false, .aF false, .aF false, .aF false, .aF false, .aF false, .aF false, .aF false, .aF false, .aF false, .aF false, .aF false, .aF false, .aF false, .aF false, .aF false, .aF false, .aF false, .aF false, .aF false, .aF false, .aF false, .aF false, .aF false, .aF false, .aF false, .aF false, .aF false, .aF false, .aF false, .aF false, .aF false, .aF false, .aF false, .aF false, .aF false, .aF false, .aF false, .aF false, .aF false, .aF false, .aF false, .aF false, .aF false, .aF false, .aF false, .aF false, .aF false, .aF false, .aF false, .aF false, .aF false, .aF false, .aF false, .aF false, .aF false, .aF false, .aF false, .aF false, .aF false, .aF false, .aF false, .aF false, .aF false, .aF false, .aF false, .aF false, .aF false, .aF false, .aF false, .aF false, .aF false, .aF false, .aF false, .aF false, .aF false, .aF false, .aF false, .aF false, .aF false, .aF false, .aF false, .aF false, .aF false, .aF false, .aF false, .aF false, .aF false, .aF false, .aF false, .aF false, .aF false])],2⟩
def OK {R:Type}:Nat->HS.V GS->(Ex->St->Option R)->Option R:=λq v K=>
 cn v.1.1 (λy5=>K .ret {az:=[(4, .v (.one (.int .i64 y5)))],mem:= [],nx:=0}) (K (.exit 0) {az:= [],mem:= [],nx:=0}) q v.1.2.2.1
def Hv:HS:=⟨[(175, .one (.iter 1)),(1000001, .one (.zu ([47,0]:Str))),(1000009, .one (.int .i64)),(1000045, .one (.iter 0))],[(0, .iter),(1, .iter)],2⟩
def NV {R:Type}:Nat->HS.V Hv->(Ex->St->Option R)->Option R:=λq v K=>
 dp v.2.2.1.1 (λy15=>K .ret {az:=[(4, .v (.one (.int .i64 y15))),(1000001, .v (.one (.str ([47,0]:Str)))),(1000009, .v (.one (.int .i64 v.1.2.2.1))),(1000045, .v (.one (.iter 0)))],mem:=[(0, .iter v.2.1.1 v.2.1.2)],nx:=1}) (K (.exit 9) {az:=[(1000001, .v (.one (.str ([47,0]:Str)))),(1000009, .v (.one (.int .i64 v.1.2.2.1))),(1000045, .v (.one (.iter 0)))],mem:=[(0, .iter v.2.1.1 v.2.1.2)],nx:=1}) q v.2.2.1.2
def F9:HS:=⟨[(0, .one (.zu ([47,0]:Str))),(7, .one (.str)),(8, .one (.int .i64)),(9, .one (.int .i64)),(12, .one (.int .i64)),(1000001, .one (.zu ([47,0]:Str))),(1000009, .one (.int .i64)),(1000045, .one (.iter 0))],[(0, .iter)],1⟩
def OV {R:Type}:Nat->HS.V F9->(Ex->St->Option R)->Option R:=λq v K=>
 dn v.1.2.1 v.1.2.2.1 v.1.2.2.2.1 (K (.exit 3) {az:=[(8, .v (.one (.int .i64 v.1.2.2.1))),(9, .v (.one (.int .i64 v.1.2.2.2.1))),(1000001, .v (.one (.str ([47,0]:Str)))),(1000009, .v (.one (.int .i64 v.1.2.2.2.2.2.2.1))),(1000045, .v (.one (.iter 0)))],mem:=[(0, .iter v.2.1.1 v.2.1.2)],nx:=1}) q v.1.2.2.2.2.1
def Hi:HS:=⟨[(0, .one (.zu ([47,0]:Str))),(7, .one (.str)),(8, .one (.int .i64)),(9, .one (.int .i64)),(1000001, .one (.zu ([47,0]:Str))),(1000009, .one (.int .i64)),(1000045, .one (.iter 0))],[(0, .iter)],1⟩
def OQ {R:Type}:Nat->HS.V Hi->(Ex->St->Option R)->Option R:=λq v K=>
 cK v.1.2.1 v.1.2.2.1 v.1.2.2.2.1 (λy50=>K .ret {az:=[(4, .v (.one (.int .i64 y50))),(1000001, .v (.one (.str ([47,0]:Str)))),(1000009, .v (.one (.int .i64 v.1.2.2.2.2.2.1))),(1000045, .v (.one (.iter 0)))],mem:=[(0, .iter v.2.1.1 v.2.1.2)],nx:=1}) (K (.exit 1) {az:=[(1000001, .v (.one (.str ([47,0]:Str)))),(1000009, .v (.one (.int .i64 v.1.2.2.2.2.2.1))),(1000045, .v (.one (.iter 0)))],mem:=[(0, .iter v.2.1.1 v.2.1.2)],nx:=1}) q
def Ir:HS:=⟨[(1, .one (.zu ([47,0]:Str))),(45, .one (.iter 0))],[(0, .iter)],1⟩
def OC {R:Type}:Nat->HS.V Ir->(Ex->St->Option R)->Option R:=λq v K=>
 cA v.2.1.1 (λy66=>K .ret {az:=[(4, .v (.one (.int .i64 y66)))],mem:= [],nx:=0}) (K (.exit 2) {az:= [],mem:= [],nx:=0}) q v.2.1.2
def X6:List HV:=[.one (.str), .one (.zu ([47,0]:Str))]
def eE:List HV:=[.one (.bool)]
def acV:HP.V X6->Str:=λv=>(v.1)
def eO:HX.V eE->Bool:=λv=>(v)
def dN:Bool->HX.V eE:=λy=>(y)
def aiN:Str->Option (Bool):=λx=>fZ x
def YI:Spec:=aL X6 eE acV dN aiN
def YB:Cfg:={T:=jV,aW:=aD.G Tryz.prog,eqs:=bc,N:=5,fuel:=64,fid:=216}
theorem am8:aE Tryz.prog YB:=aX kp bg trivial
def aho {R:Type}:Inl R:= .mk 216 YB [] ahg Tryz.f216.results.toList []
def bL {R:Type}:List (Nat×Inl R):= []
def Sq:Cfg:={T:=jV,aW:=aD.G Tryz.prog,eqs:=bc,N:=21,fuel:=64,loops:=[(2,⟨[0,2,4,1000000,1000001], [],[0],1, [], [], [], []⟩)],blocks:=[(0,⟨[2,1000000,1000001], [],[0],1, [], [], [], []⟩)],fq:=some ⟨[2,3,1000000,1000001], [],[0],1, [], [], [], []⟩,fid:=217}
theorem ahl:aE Tryz.prog Sq:=aX kp bg trivial
theorem acE {R:Type}:bt Tryz.prog (R:=R) 1 bL:=aR _ _
theorem aoR {R:Type}:aI (R:=R) (hnd 1 bL) Sq cw Rm:=aA (l:=[sub [1,0,1,0,0] Rm]) (by kernel_rfl) (jF (b:=sub [1,0,1,0,0] Rm) (rid:=2) (by kernel_rfl) (by kernel_rfl) (trivial))
def ajk {R:Type}:Inl R:= .mk 217 Sq cw Rm Tryz.f217.results.toList bL
def Wf:Cfg:={T:=jV,aW:=aD.G Tryz.prog,eqs:=bc,N:=10,fuel:=64,fid:=218}
theorem abl:aE Tryz.prog Wf:=aX kp bg trivial
def ack {R:Type}:Inl R:= .mk 218 Wf [] abv Tryz.f218.results.toList []
def ZB:Cfg:={T:=jV,spec:=[(200,di)],aW:=aD.G Tryz.prog,eqs:=bc,N:=8,fuel:=64,fid:=227}
theorem Xf:aE Tryz.prog ZB:=aX kp bg ⟨fP,trivial⟩
def VD {R:Type}:Inl R:= .mk 227 ZB [] aiP Tryz.f227.results.toList []
def Vg:Cfg:={T:=jV,aW:=aD.G Tryz.prog,eqs:=bc,N:=17,fuel:=64,fid:=228}
theorem abe:aE Tryz.prog Vg:=aX kp bg trivial
def adP {R:Type}:Inl R:= .mk 228 Vg [] aja Tryz.f228.results.toList []
def MZ {R:Type}:List (Nat×Hd R):=[(38,bw Hv NV),(5,bw Hi OQ),(12,bw F9 OV)]
def JH {R:Type}:List (Nat×Inl R):=[(170,VD),(185,adP),(41,VD)]
def JI:Cfg:={T:=jV,aW:=aD.G Tryz.prog,eqs:=bc,N:=187,fuel:=64,loops:=[(38,⟨[175,1000001,1000009,1000045], [],[0,1],2, [], [], [], []⟩),(12,⟨[0,7,8,9,12,1000001,1000009,1000045], [],[0],1, [], [], [], []⟩),(5,⟨[0,7,8,9,1000001,1000009,1000045], [],[0],1, [], [], [], []⟩)],blocks:=[(9,⟨[1000001,1000009,1000045], [],[0],1, [], [], [], []⟩),(1,⟨[1000001,1000009,1000045], [],[0],1, [], [], [], []⟩),(3,⟨[8,9,1000001,1000009,1000045], [],[0],1, [], [], [], []⟩)],fq:=some ⟨[4,1000001,1000009,1000045], [],[0],1, [], [], [], []⟩,fid:=215}
theorem abn:aE Tryz.prog JI:=aX kp bg trivial
theorem aox {R:Type}:bt Tryz.prog (R:=R) 1 JH:=bQ Tryz.f227 Xf (bQ Tryz.f228 abe (bQ Tryz.f227 Xf (aR _ _)))
theorem abB {R:Type}:br (R:=R) (hnd 1 JH) JI MZ (sub [1,0,1,1,1,0,0,1,0,0] tv) (HS.V Hv) (HS.st Hv) (HS.sh Hv) NV (bw Hv NV):=aN Hv NV (λ_ _=>rfl) (by intro q v K;kernel_rfl)
theorem af4 {R:Type}:br (R:=R) (hnd 1 JH) JI MZ (sub [1,0,1,1,1,1,1,1,0,1,1,1,1,0,0,0] tv) (HS.V Hi) (HS.st Hi) (HS.sh Hi) OQ (bw Hi OQ):=aN Hi OQ (λ_ _=>rfl) (by intro q v K;kernel_rfl)
theorem aba {R:Type}:br (R:=R) (hnd 1 JH) JI MZ (sub [1,0,1,1,1,1,1,1,0,1,1,1,1,0,0,0,1,0,0,1,0,1,0,0] tv) (HS.V F9) (HS.st F9) (HS.sh F9) OV (bw F9 OV):=aN F9 OV (λ_ _=>rfl) (by intro q v K;kernel_rfl)
theorem aia {R:Type}:aI (R:=R) (hnd 1 JH) JI MZ tv:=aA (l:=[sub [1,0,1,1,1,0,0,1,0,0] tv,sub [1,0,1,1,1,1,1,1,0,1,1,1,1,0,0,0] tv,sub [1,0,1,1,1,1,1,1,0,1,1,1,1,0,0,0,1,0,0,1,0,1,0,0] tv,sub [1,0,1,1,1,1,1,1,0,1,1,1,1,1,1,1,0,1,0,1,1,1,0,0] tv,sub [1,0,1,1,1,1,1,1,0,1,1,1,1,1,1,1,0,1,0,1,1,1,0,0,1,0,0,1,0,0,1,0,0] tv]) (by kernel_rfl) (aG (b:=sub [1,0,1,1,1,0,0,1,0,0] tv) (rid:=38) (by kernel_rfl) (by kernel_rfl) abB (aG (b:=sub [1,0,1,1,1,1,1,1,0,1,1,1,1,0,0,0] tv) (rid:=5) (by kernel_rfl) (by kernel_rfl) af4 (aG (b:=sub [1,0,1,1,1,1,1,1,0,1,1,1,1,0,0,0,1,0,0,1,0,1,0,0] tv) (rid:=12) (by kernel_rfl) (by kernel_rfl) aba (jF (b:=sub [1,0,1,1,1,1,1,1,0,1,1,1,1,1,1,1,0,1,0,1,1,1,0,0] tv) (rid:=25) (by kernel_rfl) (by kernel_rfl) (jF (b:=sub [1,0,1,1,1,1,1,1,0,1,1,1,1,1,1,1,0,1,0,1,1,1,0,0,1,0,0,1,0,0,1,0,0] tv) (rid:=29) (by kernel_rfl) (by kernel_rfl) (trivial))))))
def akL {R:Type}:Inl R:= .mk 215 JI MZ tv Tryz.f215.results.toList JH
def QQ {R:Type}:List (Nat×Hd R):=[(12,bw GS OK),(18,bw Ir OC)]
def Le {R:Type}:List (Nat×Inl R):=[(26,aho),(29,ajk),(42,ack),(52,akL)]
def MP:Cfg:={T:=jV,aW:=aD.G Tryz.prog,eqs:=bc,N:=55,fuel:=64,loops:=[(18,⟨[1,45], [],[0],1, [], [], [], []⟩),(12,⟨[0,6,8], [],[1],2, [], [], [], []⟩)],blocks:=[(2,⟨[], [], [],0, [], [], [], []⟩),(0,⟨[], [], [],0, [], [], [], []⟩)],fq:=some ⟨[4], [], [],0, [], [], [], []⟩,fid:=199}
theorem ai0:aE Tryz.prog MP:=aX kp bg trivial
theorem adr {R:Type}:bt Tryz.prog (R:=R) 2 Le:=bQ Tryz.f216 am8 (bJ Tryz.f217 ahl aoR (bh (by kernel_rfl)) acE (bQ Tryz.f218 abl (bJ Tryz.f215 abn aia (bh (by kernel_rfl)) aox (aR _ _))))
theorem afg {R:Type}:br (R:=R) (hnd 2 Le) MP QQ (sub [1,1,1,0,1,0,1,1,0,0,1,0,0] Fj) (HS.V GS) (HS.st GS) (HS.sh GS) OK (bw GS OK):=aN GS OK (λ_ _=>rfl) (by intro q v K;kernel_rfl)
theorem ak7 {R:Type}:br (R:=R) (hnd 2 Le) MP QQ (sub [1,1,1,1,0,1,0,0] Fj) (HS.V Ir) (HS.st Ir) (HS.sh Ir) OC (bw Ir OC):=aN Ir OC (λ_ _=>rfl) (by intro q v K;kernel_rfl)
theorem alx {R:Type}:aI (R:=R) (hnd 2 Le) MP QQ Fj:=aA (l:=[sub [1,1,1,0,1,0,1,1,0,0,1,0,0] Fj,sub [1,1,1,1,0,1,0,0] Fj]) (by kernel_rfl) (aG (b:=sub [1,1,1,0,1,0,1,1,0,0,1,0,0] Fj) (rid:=12) (by kernel_rfl) (by kernel_rfl) afg (aG (b:=sub [1,1,1,1,0,1,0,0] Fj) (rid:=18) (by kernel_rfl) (by kernel_rfl) ak7 (trivial)))
def aeE {R:Type}:Inl R:= .mk 199 MP QQ Fj Tryz.f199.results.toList Le
def aag {R:Type}:List (Nat×Inl R):=[(7,aeE)]
def aaF:Cfg:={T:=jV,aW:=aD.G Tryz.prog,eqs:=bc,N:=9,fuel:=64,fid:=177}
theorem akH:aE Tryz.prog aaF:=aX kp bg trivial
theorem abD {R:Type}:bt Tryz.prog (R:=R) 3 aag:=bJ Tryz.f199 ai0 alx (bh (by kernel_rfl)) adr (aR _ _)
theorem acs {R:Type}:aI (R:=R) (hnd 3 aag) aaF cw adY:=aA (l:= []) (by kernel_rfl) (trivial)
theorem agm:aK Tryz.prog 177 YI:=aY Tryz.f177 akH bD (d:=3) abD acs (bh (by kernel_rfl)) (toY:=eO)
def C8:HP.V vl->Str:=λv=>(v.1)
def aoE:Str->Option (Bool):=λx=>nk x
def H4:Spec:=aL vl eE C8 dN aoE
def ag4:Cfg:={T:=jV,spec:=[(177,YI)],aW:=aD.G Tryz.prog,eqs:=bc,N:=23,fuel:=64,fid:=148}
theorem aiz:aE Tryz.prog ag4:=aX kp bg ⟨agm,trivial⟩
theorem JP:aK Tryz.prog 148 H4:=aZ Tryz.f148 aiz bD (toY:=eO)
def Im:HS:=⟨[(0, .one (.yld 9)),(1, .one (.ptr 6 0)),(2, .one (.ptr 5 0)),(3, .one (.ptr 7 0)),(2000002, .one (.ptr 2 0)),(4000000, .one (.str))],[(2, .cells [.own 10]),(3, .loop true 13 172 3 [(2, .one (.ptr 2 0))]),(4, .cells [.yld 3]),(5, .cells [.str]),(6, .cells [.zu ([47]:Str)]),(7, .cells [.LV .i64 (0:Int)]),(9, .loop true 15 173 3 [(2, .one (.ptr 4 0))]),(10, .row .str)],11⟩
def Rk {R:Type}:Nat->HS.V Im->(Ex->St->Option R)->Option R:=λq v K=>
 bz (λy6 y7=>K (.exit 2) {az:=[(0, .v (.one (.yld 9))),(2, .v (.one (.ptr 5 0))),(2000002, .v (.one (.ptr 2 0))),(4000000, .v (.one (.str v.1.2.2.2.2.2.1)))],mem:=[(2, .cells [.own 10]),(3, .loop true 13 172 3 [(2, .v (.one (.ptr 2 0)))]),(4, .cells [.yld 3]),(5, .cells [.str y6]),(9, .loop true 15 173 3 [(2, .v (.one (.ptr 4 0)))]),(10, .row .str y7)],nx:=11}) q v.2.2.2.2.1.1 v.2.2.2.2.2.2.2.2.1
def H8:HS:=⟨[(0, .one (.own 10)),(1, .one (.fnc 147)),(7, .one (.int .i64)),(8, .one (.int .i64)),(2000004, .one (.own 10)),(2000012, .one (.bool))],[(10, .row .str)],11⟩
def QV {R:Type}:Nat->HS.V H8->(Ex->St->Option R)->Option R:=λq v K=>
 cB v.1.2.2.1 v.2.1 (λy17=>K .ret {az:=[(4, .v (.one (.int .i64 y17))),(2000004, .v (.one (.own 10))),(2000012, .v (.one (.bool v.1.2.2.2.2.2.1)))],mem:=[(10, .row .str v.2.1)],nx:=11}) (K (.exit 0) {az:=[(2000004, .v (.one (.own 10))),(2000012, .v (.one (.bool v.1.2.2.2.2.2.1)))],mem:=[(10, .row .str v.2.1)],nx:=11}) q v.1.2.2.2.1
def Nc:List HV:=[.one (.sl .str), .one (.bool)]
def WI:HX.V Nc->(List Str)×Bool:=λv=>(v.1,v.2)
def X9:(List Str)×Bool->HX.V Nc:=λy=>(y.1,y.2)
def ahu:Str->Option ((List Str)×Bool):=λx=>ny x
def Tu:Spec:=aL vl Nc C8 X9 ahu
def XL:Cfg:={T:=jV,spec:=[(145,sD)],aW:=aD.G Tryz.prog,eqs:=bc,N:=4,fuel:=64,fid:=144}
theorem ab1:aE Tryz.prog XL:=aX kp bg ⟨tF,trivial⟩
def amv {R:Type}:Inl R:= .mk 144 XL [] anI Tryz.f144.results.toList []
def YO:Cfg:={T:=jV,spec:=[(145,sD)],aW:=aD.G Tryz.prog,eqs:=bc,N:=8,fuel:=64,fid:=195}
theorem aoh:aE Tryz.prog YO:=aX kp bg ⟨tF,trivial⟩
def ach {R:Type}:Inl R:= .mk 195 YO [] aiG Tryz.f195.results.toList []
def R3 {R:Type}:List (Nat×Inl R):=[(7,ach)]
def Vb:Cfg:={T:=jV,spec:=[(145,sD)],aW:=aD.G Tryz.prog,eqs:=bc,N:=8,fuel:=64,fid:=174}
theorem adZ:aE Tryz.prog Vb:=aX kp bg ⟨tF,trivial⟩
theorem aiS {R:Type}:bt Tryz.prog (R:=R) 2 R3:=bQ Tryz.f195 aoh (aR _ _)
theorem aoB {R:Type}:aI (R:=R) (hnd 2 R3) Vb cw Ws:=aA (l:= []) (by kernel_rfl) (trivial)
def an2 {R:Type}:Inl R:= .mk 174 Vb cw Ws Tryz.f174.results.toList R3
def SP:Cfg:={T:=jV,spec:=[(145,sD),(200,di)],aW:=aD.G Tryz.prog,eqs:=bc,N:=143,fuel:=64,fq:=some ⟨[4,2000000,2000001,2000002,2000003,4000002,6000000], [],[2,3,4,5,6,7,9,10],11, [], [], [], []⟩,fid:=178}
theorem abC:aE Tryz.prog SP:=aX kp bg ⟨tF,⟨fP,trivial⟩⟩
theorem dU {R:Type}:bt Tryz.prog (R:=R) 0 bL:=aR _ _
theorem afw {R:Type}:aI (R:=R) (hnd 0 bL) SP cw EO:=aA (l:=[sub [1,1,1,1,1,1,1,1,0,0,0] EO]) (by kernel_rfl) (jF (b:=sub [1,1,1,1,1,1,1,1,0,0,0] EO) (rid:=15) (by kernel_rfl) (by kernel_rfl) (trivial))
def ae3 {R:Type}:Inl R:= .mk 178 SP cw EO Tryz.f178.results.toList bL
def Sg {R:Type}:List (Nat×Inl R):=[(7,ae3)]
def Uu:Cfg:={T:=jV,spec:=[(145,sD)],aW:=aD.G Tryz.prog,eqs:=bc,N:=8,fuel:=64,fid:=149}
theorem agN:aE Tryz.prog Uu:=aX kp bg ⟨tF,trivial⟩
theorem aly {R:Type}:bt Tryz.prog (R:=R) 1 Sg:=bJ Tryz.f178 abC afw (bh (by kernel_rfl)) dU (aR _ _)
theorem aiK {R:Type}:aI (R:=R) (hnd 1 Sg) Uu cw O2:=aA (l:= []) (by kernel_rfl) (trivial)
def aeT {R:Type}:Inl R:= .mk 149 Uu cw O2 Tryz.f149.results.toList Sg
def Zj:Code:=(qa 3 Ku).2.1
def Wp:Code:=(qa 3 Ku).2.2
def N4:Cfg:={T:=jV,spec:=[(145,sD)],aW:=aD.G Tryz.prog,eqs:=bc,N:=13,fuel:=64,fid:=172,rnd:=true}
theorem anp:aE Tryz.prog N4:=aX kp bg ⟨tF,trivial⟩
theorem akg {R:Type}:aI (R:=R) (hnd 0 bL) N4 cw Zj:=aA (l:= []) (by kernel_rfl) (trivial)
theorem ahD {R:Type}:aI (R:=R) (hnd 0 bL) N4 cw Wp:=aA (l:= []) (by kernel_rfl) (trivial)
def adf {R:Type}:Inl R:= .rnd 172 3 N4 cw [7] Zj Wp bL
def WG:Code:=(qa 3 JR).2.1
def Yc:Code:=(qa 3 JR).2.2
def Qi {R:Type}:List (Nat×Inl R):=[(12,adf)]
def PV:Cfg:={T:=jV,spec:=[(145,sD)],aW:=aD.G Tryz.prog,eqs:=bc,N:=15,fuel:=64,fid:=173,rnd:=true}
theorem VB:aE Tryz.prog PV:=aX kp bg ⟨tF,trivial⟩
theorem VR {R:Type}:bt Tryz.prog (R:=R) 1 Qi:=mO (by kernel_rfl) anp akg ahD dU (aR _ _)
theorem Vx {R:Type}:aI (R:=R) (hnd 1 Qi) PV cw WG:=aA (l:= []) (by kernel_rfl) (trivial)
theorem Wn {R:Type}:aI (R:=R) (hnd 1 Qi) PV cw Yc:=aA (l:= []) (by kernel_rfl) (trivial)
def ZJ {R:Type}:Inl R:= .rnd 173 3 PV cw [6] WG Yc Qi
def Sv {R:Type}:List (Nat×Hd R):=[(5,bw Im Rk)]
def Oi {R:Type}:List (Nat×Inl R):=[(31,aeT),(41,ZJ),(51,ZJ)]
def Pm:Cfg:={T:=jV,spec:=[(145,sD)],aW:=aD.G Tryz.prog,eqs:=bc,N:=52,fuel:=64,loops:=[(5,⟨[0,1,2,3,2000002,4000000], [],[2,3,4,5,6,7,9,10],11, [], [],[(2,0,10, .str)], []⟩)],blocks:=[(2,⟨[0,2,2000002,4000000], [],[2,3,4,5,9,10],11, [], [], [], []⟩)],fid:=211}
theorem aeg:aE Tryz.prog Pm:=aX kp bg ⟨tF,trivial⟩
theorem amp {R:Type}:bt Tryz.prog (R:=R) 2 Oi:=bJ Tryz.f149 agN aiK (bh (by kernel_rfl)) aly (mO (by kernel_rfl) VB Vx Wn VR (mO (by kernel_rfl) VB Vx Wn VR (aR _ _)))
theorem ajJ {R:Type}:br (R:=R) (hnd 2 Oi) Pm Sv (sub [1,0,0,0] Hw) (HS.V Im) (HS.st Im) (HS.sh Im) Rk (bw Im Rk):=aN Im Rk (λ_ _=>rfl) (by intro q v K;kernel_rfl)
theorem aii {R:Type}:aI (R:=R) (hnd 2 Oi) Pm Sv Hw:=aA (l:=[sub [0,1,0,0,0,0] Hw,sub [1,0,0,0] Hw]) (by kernel_rfl) (jF (b:=sub [0,1,0,0,0,0] Hw) (rid:=1) (by kernel_rfl) (by kernel_rfl) (aG (b:=sub [1,0,0,0] Hw) (rid:=5) (by kernel_rfl) (by kernel_rfl) ajJ (trivial)))
def ahi {R:Type}:Inl R:= .mk 211 Pm Sv Hw Tryz.f211.results.toList Oi
def TM {R:Type}:List (Nat×Inl R):=[(5,an2),(1000003,ahi)]
def ND:Cfg:={T:=jV,spec:=[(145,sD)],aW:=aD.G Tryz.prog,eqs:=bc,N:=15,fuel:=64,fid:=173,Iv:=[(3,[2])]}
theorem ahN:aE Tryz.prog ND:=aX kp bg ⟨tF,trivial⟩
theorem amH {R:Type}:bt Tryz.prog (R:=R) 3 TM:=bJ Tryz.f174 adZ aoB (bh (by kernel_rfl)) aiS (bJ Tryz.f211 aeg aii (bh (by kernel_rfl)) amp (aR _ _))
theorem afv {R:Type}:aI (R:=R) (hnd 3 TM) ND cw JR:=aA (l:= []) (by kernel_rfl) (trivial)
theorem amd:fe Tryz.prog ND JR:=MN (x:=qa 3 JR) (by kernel_rfl) (by kernel_rfl)
def amo {R:Type}:Inl R:= .mk 173 ND cw JR Tryz.f173.results.toList TM
def U4 {R:Type}:List (Nat×Inl R):=[(1000003,amo)]
def Nv:Cfg:={T:=jV,spec:=[(145,sD)],aW:=aD.G Tryz.prog,eqs:=bc,N:=13,fuel:=64,fid:=172,Iv:=[(3,[2])]}
theorem amK:aE Tryz.prog Nv:=aX kp bg ⟨tF,trivial⟩
theorem aiB {R:Type}:bt Tryz.prog (R:=R) 4 U4:=bJ Tryz.f173 ahN afv amd amH (aR _ _)
theorem aex {R:Type}:aI (R:=R) (hnd 4 U4) Nv cw Ku:=aA (l:= []) (by kernel_rfl) (trivial)
theorem aoG:fe Tryz.prog Nv Ku:=MN (x:=qa 3 Ku) (by kernel_rfl) (by kernel_rfl)
def al2 {R:Type}:Inl R:= .mk 172 Nv cw Ku Tryz.f172.results.toList U4
def Ut {R:Type}:List (Nat×Inl R):=[(4,al2)]
def Sp:Cfg:={T:=jV,spec:=[(145,sD)],aW:=aD.G Tryz.prog,eqs:=bc,N:=5,fuel:=64,fid:=143}
theorem af9:aE Tryz.prog Sp:=aX kp bg ⟨tF,trivial⟩
theorem aiD {R:Type}:bt Tryz.prog (R:=R) 5 Ut:=bJ Tryz.f172 amK aex aoG aiB (aR _ _)
theorem agc {R:Type}:aI (R:=R) (hnd 5 Ut) Sp cw Z_:=aA (l:= []) (by kernel_rfl) (trivial)
def akx {R:Type}:Inl R:= .mk 143 Sp cw Z_ Tryz.f143.results.toList Ut
def Zf:Cfg:={T:=jV,spec:=[(145,sD),(148,H4)],aW:=aD.G Tryz.prog,eqs:=bc,N:=6,fuel:=64,fid:=147}
theorem amR:aE Tryz.prog Zf:=aX kp bg ⟨tF,⟨JP,trivial⟩⟩
def aiT {R:Type}:Inl R:= .mk 147 Zf [] abF Tryz.f147.results.toList []
def UU {R:Type}:List (Nat×Hd R):=[(2,bw H8 QV)]
def Ql {R:Type}:List (Nat×Inl R):=[(16,aiT)]
def Px:Cfg:={T:=jV,spec:=[(145,sD)],aW:=aD.G Tryz.prog,eqs:=bc,N:=19,fuel:=64,loops:=[(2,⟨[0,1,7,8,2000004,2000012], [],[10],11, [], [], [], []⟩)],blocks:=[(0,⟨[2000004,2000012], [],[10],11, [], [], [], []⟩)],fq:=some ⟨[4,2000004,2000012], [],[10],11, [], [], [], []⟩,fid:=176}
theorem alH:aE Tryz.prog Px:=aX kp bg ⟨tF,trivial⟩
theorem acY {R:Type}:bt Tryz.prog (R:=R) 4 Ql:=bQ Tryz.f147 amR (aR _ _)
theorem anZ {R:Type}:br (R:=R) (hnd 4 Ql) Px UU (sub [1,0,1,0,0] L0) (HS.V H8) (HS.st H8) (HS.sh H8) QV (bw H8 QV):=aN H8 QV (λ_ _=>rfl) (by intro q v K;kernel_rfl)
theorem abf {R:Type}:aI (R:=R) (hnd 4 Ql) Px UU L0:=aA (l:=[sub [1,0,1,0,0] L0]) (by kernel_rfl) (aG (b:=sub [1,0,1,0,0] L0) (rid:=2) (by kernel_rfl) (by kernel_rfl) anZ (trivial))
def aiX {R:Type}:Inl R:= .mk 176 Px UU L0 Tryz.f176.results.toList Ql
def SE {R:Type}:List (Nat×Inl R):=[(7,aiX)]
def UR:Cfg:={T:=jV,spec:=[(145,sD)],aW:=aD.G Tryz.prog,eqs:=bc,N:=9,fuel:=64,fid:=146}
theorem ajH:aE Tryz.prog UR:=aX kp bg ⟨tF,trivial⟩
theorem aks {R:Type}:bt Tryz.prog (R:=R) 5 SE:=bJ Tryz.f176 alH abf (bh (by kernel_rfl)) acY (aR _ _)
theorem anS {R:Type}:aI (R:=R) (hnd 5 SE) UR cw Yo:=aA (l:= []) (by kernel_rfl) (trivial)
def adA {R:Type}:Inl R:= .mk 146 UR cw Yo Tryz.f146.results.toList SE
def Yj {R:Type}:List (Nat×Inl R):=[(6,amv),(7,akx),(14,adA)]
def V3:Cfg:={T:=jV,spec:=[(145,sD)],aW:=aD.G Tryz.prog,eqs:=bc,N:=17,fuel:=64,fid:=119}
theorem alw:aE Tryz.prog V3:=aX kp bg ⟨tF,trivial⟩
theorem abO {R:Type}:bt Tryz.prog (R:=R) 6 Yj:=bQ Tryz.f144 ab1 (bJ Tryz.f143 af9 agc (bh (by kernel_rfl)) aiD (bJ Tryz.f146 ajH anS (bh (by kernel_rfl)) aks (aR _ _)))
theorem ah2 {R:Type}:aI (R:=R) (hnd 6 Yj) V3 cw afn:=aA (l:= []) (by kernel_rfl) (trivial)
theorem YS:aK Tryz.prog 119 Tu:=aY Tryz.f119 alw bD (d:=6) abO ah2 (bh (by kernel_rfl)) (toY:=WI)
def RV:List HV:=[.one (.str), .one (.str)]
def W8:HP.V RV->Str×Str:=λv=>(v.1,v.2.1)
def amW:(Str×Str)->Option (Bool):=λx=>jE x.1 x.2
def X_:Spec:=aL RV eE W8 dN amW
def VC:Cfg:={T:=jV,aW:=aD.G Tryz.prog,eqs:=bc,N:=18,fuel:=64,fid:=150}
theorem agz:aE Tryz.prog VC:=aX kp bg trivial
def acB {R:Type}:Inl R:= .mk 150 VC [] ah0 Tryz.f150.results.toList []
def S6 {R:Type}:List (Nat×Inl R):=[(7,acB)]
def Uv:Cfg:={T:=jV,aW:=aD.G Tryz.prog,eqs:=bc,N:=8,fuel:=64,fid:=121}
theorem am1:aE Tryz.prog Uv:=aX kp bg trivial
theorem adU {R:Type}:bt Tryz.prog (R:=R) 1 S6:=bQ Tryz.f150 agz (aR _ _)
theorem agj {R:Type}:aI (R:=R) (hnd 1 S6) Uv cw Xz:=aA (l:= []) (by kernel_rfl) (trivial)
def air {R:Type}:Inl R:= .mk 121 Uv cw Xz Tryz.f121.results.toList S6
def aab {R:Type}:List (Nat×Inl R):=[(16,air)]
def Yp:Cfg:={T:=jV,aW:=aD.G Tryz.prog,eqs:=bc,N:=18,fuel:=64,fid:=86}
theorem ae5:aE Tryz.prog Yp:=aX kp bg trivial
theorem agk {R:Type}:bt Tryz.prog (R:=R) 2 aab:=bJ Tryz.f121 am1 agj (bh (by kernel_rfl)) adU (aR _ _)
theorem abx {R:Type}:aI (R:=R) (hnd 2 aab) Yp cw adD:=aA (l:= []) (by kernel_rfl) (trivial)
theorem abT:aK Tryz.prog 86 X_:=aY Tryz.f86 ae5 bD (d:=2) agk abx (bh (by kernel_rfl)) (toY:=eO)
end
end Go.Eng
namespace Go.Eng
noncomputable section
open Go Go.Proofs
def Kh:List (Nat×TI):=[(3,⟨false,1, .one (.int .i64 0), .int .i64⟩),(9,⟨false,1, .one (.str []), .str⟩),(22,⟨false,1, .one (.clip .aM []), .slice .aM 75⟩),(24,⟨true,4, .agg [.int .i64 0, .int .i64 0, .int .i64 0, .clip .aM []], .struct [(0,3),(1,3),(2,3),(3,22)]⟩),(75,⟨true,6, .agg [.int .i64 0, .int .i64 0, .int .i64 0, .str [], .int .i64 0, .clip .entry []], .struct [(0,3),(1,3),(2,3),(3,9),(4,3),(5,73)]⟩)]
theorem K9:(Kh.all λx=>tiB Tryz.prog x.1 x.2)=true:=by kernel_rfl
def O7:Code:=bd Tryz.f181
def kq:List HV:=[.agg hFs]
def Br:List HV:=[.one (.int .i64)]
def wN:HP.V kq->Fs:=λv=>((cFs v.1))
def JL:HX.V Br->Int:=λv=>(v)
def JF:Int->HX.V Br:=λy=>(y)
def aeP:Fs->Option (Int):=λx=>rj x
def ZM:Spec:=aL kq Br wN JF aeP
def aeo:Cfg:={T:=Kh,aW:=aD.G Tryz.prog,eqs:=bc,N:=6,fuel:=64,fid:=180}
theorem aeR:aE Tryz.prog aeo:=aX K9 bg trivial
theorem ad6:aK Tryz.prog 180 ZM:=aZ Tryz.f180 aeR bD (toY:=JL)
def GC:HS:=⟨[(1, .one (.ptr 0 0)),(3, .one (.int .i64)),(7, .one (.int .i64)),(8, .one (.int .i64))],[(0, .cells hFs)],1⟩
def OU {R:Type}:Nat->HS.V GC->(Ex->St->Option R)->Option R:=λq v K=>
 fI v.1.2.2.1 (cFs v.2.1) (λy7=>K (.exit 0) {az:=[(3, .v (.one (.int .i64 y7)))],mem:= [],nx:=0}) q v.1.2.1 v.1.2.2.2.1
def ag3:Fs->Option (Int):=λx=>pF x
def Y0:Spec:=aL kq Br wN JF ag3
def XH {R:Type}:List (Nat×Hd R):=[(3,bw GC OU)]
def RR:Cfg:={T:=Kh,aW:=aD.G Tryz.prog,eqs:=bc,N:=29,fuel:=64,loops:=[(3,⟨[1,3,7,8], [],[0],1, [], [], [], []⟩)],blocks:=[(0,⟨[3], [], [],0, [], [], [], []⟩)],fid:=181}
theorem am7:aE Tryz.prog RR:=aX K9 bg trivial
theorem aaV {R:Type}:br (R:=R) (hnd 0 bL) RR XH (sub [1,1,0,1,0,0] O7) (HS.V GC) (HS.st GC) (HS.sh GC) OU (bw GC OU):=aN GC OU (λ_ _=>rfl) (by intro q v K;kernel_rfl)
theorem amF {R:Type}:aI (R:=R) (hnd 0 bL) RR XH O7:=aA (l:=[sub [1,1,0,1,0,0] O7]) (by kernel_rfl) (aG (b:=sub [1,1,0,1,0,0] O7) (rid:=3) (by kernel_rfl) (by kernel_rfl) aaV (trivial))
theorem abc:aK Tryz.prog 181 Y0:=aY Tryz.f181 am7 bD (d:=0) dU amF (bh (by kernel_rfl)) (toY:=JL)
def SO:List HV:=[.agg hFs, .one (.int .i64), .one (.int .i64)]
def aan:HP.V SO->Fs×Int×Int:=λv=>((cFs v.1),v.2.1,v.2.2.1)
def aoK:(Fs×Int×Int)->Option (Bool):=λx=>iS x.1 x.2.1 x.2.2
def Eg:Spec:=aL SO eE aan dN aoK
def aoy:Cfg:={T:=Kh,spec:=[(180,ZM),(181,Y0)],aW:=aD.G Tryz.prog,eqs:=bc,N:=23,fuel:=64,fid:=152}
theorem acQ:aE Tryz.prog aoy:=aX K9 bg ⟨ad6,⟨abc,trivial⟩⟩
theorem H0:aK Tryz.prog 152 Eg:=aZ Tryz.f152 acQ bD (toY:=eO)
end
end Go.Eng
namespace Go.Eng
noncomputable section
open Go Go.Proofs
def tO:List (Nat×TI):=[(3,⟨false,1, .one (.int .i64 0), .int .i64⟩),(22,⟨false,1, .one (.clip .aM []), .slice .aM 75⟩),(24,⟨true,4, .agg [.int .i64 0, .int .i64 0, .int .i64 0, .clip .aM []], .struct [(0,3),(1,3),(2,3),(3,22)]⟩),(75,⟨true,6, .agg [.int .i64 0, .int .i64 0, .int .i64 0, .str [], .int .i64 0, .clip .entry []], .struct [(0,3),(1,3),(2,3),(3,9),(4,3),(5,73)]⟩),(184,⟨false,1, .one (.int .u64 0), .int .u64⟩)]
theorem uz:(tO.all λx=>tiB Tryz.prog x.1 x.2)=true:=by kernel_rfl
def X5:Code:=bd Tryz.f135
def KE:Code:=bd Tryz.f136
def afP:Code:=bd Tryz.f153
def aaZ:Code:=bd Tryz.f155
def ajm:Code:=bd Tryz.f159
def am6:Code:=bd Tryz.f160
def A4:Code:=bd Tryz.f161
def Q1:Code:=bd Tryz.f163
def aaE:Code:=bd Tryz.f187
def agl:Code:=bd Tryz.f188
def Zw:Code:=bd Tryz.f189
def G7:HS:=⟨[(0, .one (.sl .aM)),(1, .one (.int .i64)),(2, .one (.fnc 187)),(8, .one (.int .i64)),(9, .one (.int .i64)),(10, .one (.int .i64))], [],0⟩
def OP {R:Type}:Nat->HS.V G7->(Ex->St->Option R)->Option R:=λq v K=>
 eS v.1.1 v.1.2.1 (λy10=>K (.exit 0) {az:=[(0, .v (.one (.sl .aM v.1.1))),(1, .v (.one (.int .i64 v.1.2.1))),(2, .v (.one (.fnc 187))),(8, .v (.one (.int .i64 v.1.2.2.2.1))),(9, .v (.one (.int .i64 y10)))],mem:= [],nx:=0}) q v.1.2.2.2.2.1 v.1.2.2.2.2.2.1
def vk:List HV:=[.agg hFs, .one (.int .i64)]
def KH:HP.V vk->Fs×Int:=λv=>((cFs v.1),v.2.1)
def ahF:(Fs×Int)->Option (Int×Bool):=λx=>o_ x.1 x.2
def EP:Spec:=aL vk D_ KH Kt ahF
def ZL:Cfg:={T:=tO,aW:=aD.G Tryz.prog,eqs:=bc,N:=6,fuel:=64,fid:=189}
theorem Ve:aE Tryz.prog ZL:=aX uz bg trivial
def aaH {R:Type}:Inl R:= .mk 189 ZL [] Zw Tryz.f189.results.toList []
def Tx {R:Type}:List (Nat×Inl R):=[(8,aaH),(10,aaH)]
def Uh:Cfg:={T:=tO,aW:=aD.G Tryz.prog,eqs:=bc,N:=20,fuel:=64,fid:=163}
theorem ahk:aE Tryz.prog Uh:=aX uz bg trivial
theorem abr {R:Type}:bt Tryz.prog (R:=R) 1 Tx:=bQ Tryz.f189 Ve (bQ Tryz.f189 Ve (aR _ _))
theorem aht {R:Type}:aI (R:=R) (hnd 1 Tx) Uh cw Q1:=aA (l:= []) (by kernel_rfl) (trivial)
def an7 {R:Type}:Inl R:= .mk 163 Uh cw Q1 Tryz.f163.results.toList Tx
def RP {R:Type}:List (Nat×Inl R):=[(8,an7)]
def UM:Cfg:={T:=tO,aW:=aD.G Tryz.prog,eqs:=bc,N:=9,fuel:=64,fid:=187}
theorem Yq:aE Tryz.prog UM:=aX uz bg trivial
theorem V2 {R:Type}:bt Tryz.prog (R:=R) 2 RP:=bJ Tryz.f163 ahk aht (bh (by kernel_rfl)) abr (aR _ _)
theorem Yw {R:Type}:aI (R:=R) (hnd 2 RP) UM cw aaE:=aA (l:= []) (by kernel_rfl) (trivial)
def Wu {R:Type}:Inl R:= .mk 187 UM cw aaE Tryz.f187.results.toList RP
def Up {R:Type}:List (Nat×Hd R):=[(3,bw G7 OP)]
def Pw {R:Type}:List (Nat×Inl R):=[(30,Wu),(46,Wu)]
def PN:Cfg:={T:=tO,aW:=aD.G Tryz.prog,eqs:=bc,N:=49,fuel:=64,loops:=[(3,⟨[0,1,2,8,9,10], [], [],0, [], [], [], []⟩)],blocks:=[(0,⟨[0,1,2,8,9], [], [],0, [], [], [], []⟩)],fid:=161}
theorem an_:aE Tryz.prog PN:=aX uz bg trivial
theorem afS {R:Type}:bt Tryz.prog (R:=R) 3 Pw:=bJ Tryz.f187 Yq Yw (bh (by kernel_rfl)) V2 (bJ Tryz.f187 Yq Yw (bh (by kernel_rfl)) V2 (aR _ _))
theorem amg {R:Type}:br (R:=R) (hnd 3 Pw) PN Up (sub [1,1,1,0,0,0] A4) (HS.V G7) (HS.st G7) (HS.sh G7) OP (bw G7 OP):=aN G7 OP (λ_ _=>rfl) (by intro q v K;kernel_rfl)
theorem aoi {R:Type}:aI (R:=R) (hnd 3 Pw) PN Up A4:=aA (l:=[sub [1,1,1,0,0,0] A4]) (by kernel_rfl) (aG (b:=sub [1,1,1,0,0,0] A4) (rid:=3) (by kernel_rfl) (by kernel_rfl) amg (trivial))
def alg {R:Type}:Inl R:= .mk 161 PN Up A4 Tryz.f161.results.toList Pw
def XY {R:Type}:List (Nat×Inl R):=[(9,alg)]
def W9:Cfg:={T:=tO,aW:=aD.G Tryz.prog,eqs:=bc,N:=12,fuel:=64,fid:=159}
theorem ajb:aE Tryz.prog W9:=aX uz bg trivial
theorem akY {R:Type}:bt Tryz.prog (R:=R) 4 XY:=bJ Tryz.f161 an_ aoi (bh (by kernel_rfl)) afS (aR _ _)
theorem ahh {R:Type}:aI (R:=R) (hnd 4 XY) W9 cw ajm:=aA (l:= []) (by kernel_rfl) (trivial)
theorem Ik:aK Tryz.prog 159 EP:=aY Tryz.f159 ajb bD (d:=4) akY ahh (bh (by kernel_rfl)) (toY:=J3)
def MB:List HV:=[.agg hIn, .one (.bool)]
def T6:HX.V MB->ao×Bool:=λv=>((cIn v.1),v.2)
def TU:(ao×Bool)->HX.V MB:=λy=>(uIn y.1,y.2)
def akX:(Fs×Int)->Option (ao×Bool):=λx=>b7 x.1 x.2
def oz:Spec:=aL vk MB KH TU akX
def afu:Cfg:={T:=tO,spec:=[(159,EP)],aW:=aD.G Tryz.prog,eqs:=bc,N:=22,fuel:=64,fid:=131}
theorem aa8:aE Tryz.prog afu:=aX uz bg ⟨Ik,trivial⟩
theorem pj:aK Tryz.prog 131 oz:=aZ Tryz.f131 aa8 bD (toY:=T6)
def K3:HX.V vk->Fs×Int:=λv=>((cFs v.1),v.2)
def L1:(Fs×Int)->HX.V vk:=λy=>(uFs y.1,y.2)
def abJ:Fs->Option (Fs×Int):=λx=>nz x
def XQ:Spec:=aL kq vk wN L1 abJ
def aao:Cfg:={T:=tO,aW:=aD.G Tryz.prog,eqs:=bc,N:=8,fuel:=64,fid:=136}
theorem ab7:aE Tryz.prog aao:=aX uz bg trivial
def anT {R:Type}:Inl R:= .mk 136 aao [] KE Tryz.f136.results.toList []
def Zp {R:Type}:List (Nat×Inl R):=[(13,anT)]
def Vr:Cfg:={T:=tO,aW:=aD.G Tryz.prog,eqs:=bc,N:=17,fuel:=64,fid:=153}
theorem aic:aE Tryz.prog Vr:=aX uz bg trivial
theorem amQ {R:Type}:bt Tryz.prog (R:=R) 1 Zp:=bQ Tryz.f136 ab7 (aR _ _)
theorem ajD {R:Type}:aI (R:=R) (hnd 1 Zp) Vr cw afP:=aA (l:= []) (by kernel_rfl) (trivial)
theorem afb:aK Tryz.prog 153 XQ:=aY Tryz.f153 aic bD (d:=1) amQ ajD (bh (by kernel_rfl)) (toY:=K3)
def Tb:List HV:=[.agg hFs, .agg hIn]
def XM:HP.V Tb->Fs×ao:=λv=>((cFs v.1),(cIn v.2.1))
def xT:HX.V kq->Fs:=λv=>((cFs v))
def xP:Fs->HX.V kq:=λy=>(uFs y)
def agA:(Fs×ao)->Option (Fs):=λx=>bG x.1 x.2
def AL:Spec:=aL Tb kq XM xP agA
def W3:Cfg:={T:=tO,spec:=[(159,EP)],aW:=aD.G Tryz.prog,eqs:=bc,N:=8,fuel:=64,ovl:=[164],fid:=136}
theorem ajQ:aE Tryz.prog W3:=aX uz bg ⟨Ik,trivial⟩ (ov:=⟨Ai,trivial⟩)
def ak8 {R:Type}:Inl R:= .mk 136 W3 [] KE Tryz.f136.results.toList []
def Xu:Cfg:={T:=tO,spec:=[(159,EP)],aW:=aD.G Tryz.prog,eqs:=bc,N:=95,fuel:=64,ovl:=[164],fid:=135}
theorem ahs:aE Tryz.prog Xu:=aX uz bg ⟨Ik,trivial⟩ (ov:=⟨Ai,trivial⟩)
def afJ {R:Type}:Inl R:= .mk 135 Xu [] X5 Tryz.f135.results.toList []
def Zb {R:Type}:List (Nat×Inl R):=[(16,ak8),(30,afJ)]
def YL:Cfg:={T:=tO,spec:=[(159,EP)],aW:=aD.G Tryz.prog,eqs:=bc,N:=33,fuel:=64,ovl:=[164],fid:=155}
theorem af3:aE Tryz.prog YL:=aX uz bg ⟨Ik,trivial⟩ (ov:=⟨Ai,trivial⟩)
theorem alD {R:Type}:bt Tryz.prog (R:=R) 1 Zb:=bQ Tryz.f136 ajQ (bQ Tryz.f135 ahs (aR _ _))
theorem alP {R:Type}:aI (R:=R) (hnd 1 Zb) YL cw aaZ:=aA (l:= []) (by kernel_rfl) (trivial)
theorem Bw:aK Tryz.prog 155 AL:=aY Tryz.f155 af3 bD (d:=1) alD alP (bh (by kernel_rfl)) (toY:=xT)
def abz:(Fs×Int)->Option (Fs):=λx=>pY x.1 x.2
def aad:Spec:=aL vk kq KH xP abz
def Xi:Cfg:={T:=tO,spec:=[(159,EP)],aW:=aD.G Tryz.prog,eqs:=bc,N:=8,fuel:=64,fid:=136}
theorem amx:aE Tryz.prog Xi:=aX uz bg ⟨Ik,trivial⟩
def acb {R:Type}:Inl R:= .mk 136 Xi [] KE Tryz.f136.results.toList []
def Wg:Cfg:={T:=tO,spec:=[(159,EP)],aW:=aD.G Tryz.prog,eqs:=bc,N:=33,fuel:=64,fid:=188}
theorem agq:aE Tryz.prog Wg:=aX uz bg ⟨Ik,trivial⟩
def aio {R:Type}:Inl R:= .mk 188 Wg [] agl Tryz.f188.results.toList []
def VH {R:Type}:List (Nat×Inl R):=[(15,acb),(23,aio)]
def VE:Cfg:={T:=tO,spec:=[(159,EP)],aW:=aD.G Tryz.prog,eqs:=bc,N:=26,fuel:=64,fid:=160}
theorem aiq:aE Tryz.prog VE:=aX uz bg ⟨Ik,trivial⟩
theorem ajA {R:Type}:bt Tryz.prog (R:=R) 1 VH:=bQ Tryz.f136 amx (bQ Tryz.f188 agq (aR _ _))
theorem aeK {R:Type}:aI (R:=R) (hnd 1 VH) VE cw am6:=aA (l:= []) (by kernel_rfl) (trivial)
theorem amP:aK Tryz.prog 160 aad:=aY Tryz.f160 aiq bD (d:=1) ajA aeK (bh (by kernel_rfl)) (toY:=xT)
end
end Go.Eng
namespace Go.Eng
noncomputable section
open Go Go.Proofs
def CO:List (Nat×TI):=[(3,⟨false,1, .one (.int .i64 0), .int .i64⟩),(9,⟨false,1, .one (.str []), .str⟩),(24,⟨true,4, .agg [.int .i64 0, .int .i64 0, .int .i64 0, .clip .aM []], .struct [(0,3),(1,3),(2,3),(3,22)]⟩),(73,⟨false,1, .one (.clip .entry []), .slice .entry 103⟩),(75,⟨true,6, .agg [.int .i64 0, .int .i64 0, .int .i64 0, .str [], .int .i64 0, .clip .entry []], .struct [(0,3),(1,3),(2,3),(3,9),(4,3),(5,73)]⟩),(87,⟨true,3, .agg [.int .i64 0, .str [], .int .i64 0], .struct [(0,3),(1,9),(2,3)]⟩)]
theorem EF:(CO.all λx=>tiB Tryz.prog x.1 x.2)=true:=by kernel_rfl
def TD:List HV:=[.agg hFs, .agg [.int .i64, .str, .int .i64], .one (.int .i64), .one (.str)]
def WJ:HP.V TD->Fs×au×Int×Str:=λv=>((cFs v.1),(⟨v.2.1.1,v.2.1.2.1,v.2.1.2.2.1⟩:au),v.2.2.1,v.2.2.2.1)
def agJ:(Fs×au×Int×Str)->Option (Fs×Int):=λx=>nJ x.1 x.2.1 x.2.2.1 x.2.2.2
def Ya:Spec:=aL TD vk WJ L1 agJ
def afo:Cfg:={T:=CO,spec:=[(131,oz),(148,H4),(152,Eg),(153,XQ),(154,QJ),(155,AL)],aW:=aD.G Tryz.prog,eqs:=bc,N:=65,fuel:=64,fid:=123}
theorem akm:aE Tryz.prog afo:=aX EF bg ⟨pj,⟨JP,⟨H0,⟨afb,⟨Uw,⟨Bw,trivial⟩⟩⟩⟩⟩⟩
theorem anB:aK Tryz.prog 123 Ya:=aZ Tryz.f123 akm bD (toY:=K3)
end
end Go.Eng
namespace Go.Eng
noncomputable section
open Go Go.Proofs
def Th:List (Nat×TI):=[(3,⟨false,1, .one (.int .i64 0), .int .i64⟩),(9,⟨false,1, .one (.str []), .str⟩),(24,⟨true,4, .agg [.int .i64 0, .int .i64 0, .int .i64 0, .clip .aM []], .struct [(0,3),(1,3),(2,3),(3,22)]⟩),(75,⟨true,6, .agg [.int .i64 0, .int .i64 0, .int .i64 0, .str [], .int .i64 0, .clip .entry []], .struct [(0,3),(1,3),(2,3),(3,9),(4,3),(5,73)]⟩)]
theorem Xq:(Th.all λx=>tiB Tryz.prog x.1 x.2)=true:=by kernel_rfl
def Uq:List HV:=[.agg hFs, .one (.int .i64), .one (.str)]
def X1:HP.V Uq->Fs×Int×Str:=λv=>((cFs v.1),v.2.1,v.2.2.1)
def adn:(Fs×Int×Str)->Option (Fs×Int):=λx=>rL x.1 x.2.1 x.2.2
def XE:Spec:=aL Uq vk X1 L1 adn
def afd:Cfg:={T:=Th,spec:=[(131,oz),(152,Eg),(155,AL)],aW:=aD.G Tryz.prog,eqs:=bc,N:=31,fuel:=64,fid:=126}
theorem abm:aE Tryz.prog afd:=aX Xq bg ⟨pj,⟨H0,⟨Bw,trivial⟩⟩⟩
theorem ab8:aK Tryz.prog 126 XE:=aZ Tryz.f126 abm bD (toY:=K3)
end
end Go.Eng
namespace Go.Eng
noncomputable section
open Go Go.Proofs
def T9:List HV:=[.agg hFs, .agg [.int .i64, .str, .int .i64], .one (.int .i64)]
def aai:HP.V T9->Fs×au×Int:=λv=>((cFs v.1),(⟨v.2.1.1,v.2.1.2.1,v.2.1.2.2.1⟩:au),v.2.2.1)
def ab4:(Fs×au×Int)->Option (Fs):=λx=>dM x.1 x.2.1 x.2.2
def J2:Spec:=aL T9 kq aai xP ab4
def ag_:Cfg:={T:=CO,spec:=[(131,oz),(154,QJ),(155,AL)],aW:=aD.G Tryz.prog,eqs:=bc,N:=41,fuel:=64,fid:=128}
theorem aiI:aE Tryz.prog ag_:=aX EF bg ⟨pj,⟨Uw,⟨Bw,trivial⟩⟩⟩
theorem LA:aK Tryz.prog 128 J2:=aZ Tryz.f128 aiI bD (toY:=xT)
def T8:List HV:=[.agg hFs, .agg [.int .i64, .str, .int .i64]]
def Y6:HP.V T8->Fs×au:=λv=>((cFs v.1),(⟨v.2.1.1,v.2.1.2.1,v.2.1.2.2.1⟩:au))
def aa2:(Fs×au)->Option (Fs):=λx=>gE x.1 x.2
def DW:Spec:=aL T8 kq Y6 xP aa2
def abS:Cfg:={T:=CO,spec:=[(131,oz),(155,AL),(156,TF),(160,aad)],aW:=aD.G Tryz.prog,eqs:=bc,N:=46,fuel:=64,fid:=132}
theorem alY:aE Tryz.prog abS:=aX EF bg ⟨pj,⟨Bw,⟨Zc,⟨amP,trivial⟩⟩⟩⟩
theorem FW:aK Tryz.prog 132 DW:=aZ Tryz.f132 alY bD (toY:=xT)
end
end Go.Eng
namespace Go.Eng
noncomputable section
open Go Go.Proofs
def Ts:List HV:=[.agg hFs, .agg [.int .i64, .str, .int .i64], .agg [.int .i64, .str, .int .i64]]
def Yr:HP.V Ts->Fs×au×au:=λv=>((cFs v.1),(⟨v.2.1.1,v.2.1.2.1,v.2.1.2.2.1⟩:au),(⟨v.2.2.1.1,v.2.2.1.2.1,v.2.2.1.2.2.1⟩:au))
def aoN:(Fs×au×au)->Option (Fs):=λx=>sg x.1 x.2.1 x.2.2
def Xs:Spec:=aL Ts kq Yr xP aoN
def an4:Cfg:={T:=CO,spec:=[(131,oz),(132,DW),(154,QJ),(155,AL),(156,TF)],aW:=aD.G Tryz.prog,eqs:=bc,N:=69,fuel:=64,fid:=129}
theorem aoF:aE Tryz.prog an4:=aX EF bg ⟨pj,⟨FW,⟨Uw,⟨Bw,⟨Zc,trivial⟩⟩⟩⟩⟩
theorem akq:aK Tryz.prog 129 Xs:=aZ Tryz.f129 aoF bD (toY:=xT)
end
end Go.Eng
namespace Go.Eng
noncomputable section
open Go Go.Proofs
def Av:List (Nat×TI):=[(3,⟨false,1, .one (.int .i64 0), .int .i64⟩),(4,⟨false,1, .one (.bool false), .bool⟩),(9,⟨false,1, .one (.str []), .str⟩),(46,⟨true,5, .agg [.int .i64 0, .int .i64 0, .str [], .str [], .str []], .struct [(0,3),(1,3),(2,9),(3,9),(4,9)]⟩),(112,⟨true,3, .agg [.bool false, .bool false, .bool false], .struct [(0,4),(1,4),(2,4)]⟩),(113,⟨true,33, .agg [.bool false, .bool false, .bool false, .bool false, .bool false, .bool false, .bool false, .bool false, .bool false, .bool false, .bool false, .bool false, .bool false, .bool false, .bool false, .bool false, .bool false, .bool false, .bool false, .bool false, .bool false, .bool false, .bool false, .bool false, .bool false, .bool false, .bool false, .bool false, .bool false, .bool false, .bool false, .bool false, .bool false], .array 11 112⟩),(131,⟨false,1, .one (.clip .str []), .slice .str 9⟩)]
theorem Ky:(Av.all λx=>tiB Tryz.prog x.1 x.2)=true:=by kernel_rfl
def akf:Code:=bd Tryz.f85
def V4:Code:=bd Tryz.f120
def aki:Str->Option (Bool):=λx=>oZ x
def XC:Spec:=aL vl eE C8 dN aki
def ajK:Cfg:={T:=Av,spec:=[(119,Tu)],aW:=aD.G Tryz.prog,eqs:=bc,N:=16,fuel:=64,fid:=84}
theorem aiw:aE Tryz.prog ajK:=aX Ky bg ⟨YS,trivial⟩
theorem amc:aK Tryz.prog 84 XC:=aZ Tryz.f84 aiw bD (toY:=eO)
def ak6:Str->Option (Bool):=λx=>o0 x
def ZP:Spec:=aL vl eE C8 dN ak6
def Uf:Cfg:={T:=Av,spec:=[(200,di)],aW:=aD.G Tryz.prog,eqs:=bc,N:=143,fuel:=64,fq:=some ⟨[4,3000010], [], [],0, [], [], [], []⟩,fid:=178}
theorem aeI:aE Tryz.prog Uf:=aX Ky bg ⟨fP,trivial⟩
theorem aoX {R:Type}:aI (R:=R) (hnd 0 bL) Uf cw EO:=aA (l:=[sub [1,1,1,1,1,1,1,1,0,0,0] EO]) (by kernel_rfl) (jF (b:=sub [1,1,1,1,1,1,1,1,0,0,0] EO) (rid:=15) (by kernel_rfl) (by kernel_rfl) (trivial))
def ai9 {R:Type}:Inl R:= .mk 178 Uf cw EO Tryz.f178.results.toList bL
def TJ {R:Type}:List (Nat×Inl R):=[(7,ai9)]
def UN:Cfg:={T:=Av,aW:=aD.G Tryz.prog,eqs:=bc,N:=8,fuel:=64,fid:=149}
theorem anw:aE Tryz.prog UN:=aX Ky bg trivial
theorem akP {R:Type}:bt Tryz.prog (R:=R) 1 TJ:=bJ Tryz.f178 aeI aoX (bh (by kernel_rfl)) dU (aR _ _)
theorem anU {R:Type}:aI (R:=R) (hnd 1 TJ) UN cw O2:=aA (l:= []) (by kernel_rfl) (trivial)
def aey {R:Type}:Inl R:= .mk 149 UN cw O2 Tryz.f149.results.toList TJ
def SU {R:Type}:List (Nat×Inl R):=[(7,aey)]
def Tg:Cfg:={T:=Av,aW:=aD.G Tryz.prog,eqs:=bc,N:=9,fuel:=64,fid:=120}
theorem aof:aE Tryz.prog Tg:=aX Ky bg trivial
theorem acr {R:Type}:bt Tryz.prog (R:=R) 2 SU:=bJ Tryz.f149 anw anU (bh (by kernel_rfl)) akP (aR _ _)
theorem ak4 {R:Type}:aI (R:=R) (hnd 2 SU) Tg cw V4:=aA (l:= []) (by kernel_rfl) (trivial)
def ajv {R:Type}:Inl R:= .mk 120 Tg cw V4 Tryz.f120.results.toList SU
def aaI {R:Type}:List (Nat×Inl R):=[(12,ajv)]
def Zr:Cfg:={T:=Av,aW:=aD.G Tryz.prog,eqs:=bc,N:=15,fuel:=64,fid:=85}
theorem ajj:aE Tryz.prog Zr:=aX Ky bg trivial
theorem aeU {R:Type}:bt Tryz.prog (R:=R) 3 aaI:=bJ Tryz.f120 aof ak4 (bh (by kernel_rfl)) acr (aR _ _)
theorem aev {R:Type}:aI (R:=R) (hnd 3 aaI) Zr cw akf:=aA (l:= []) (by kernel_rfl) (trivial)
theorem amV:aK Tryz.prog 85 ZP:=aY Tryz.f85 ajj bD (d:=3) aeU aev (bh (by kernel_rfl)) (toY:=eO)
def Mf:List HV:=[.agg [.int .i64, .int .i64, .str, .str, .str]]
def Rz:HP.V Mf->Opn:=λv=>((⟨v.1.1,v.1.2.1,v.1.2.2.1,v.1.2.2.2.1,v.1.2.2.2.2.1⟩:Opn))
def ahC:Opn->Option (Bool):=λx=>Db x
def Wm:Spec:=aL Mf eE Rz dN ahC
def adj:Cfg:={T:=Av,spec:=[(84,XC),(85,ZP),(86,X_)],aW:=aD.G Tryz.prog,eqs:=bc,N:=102,fuel:=64,fid:=53}
theorem akz:aE Tryz.prog adj:=aX Ky bg ⟨amc,⟨amV,⟨abT,trivial⟩⟩⟩
theorem adm:aK Tryz.prog 53 Wm:=aZ Tryz.f53 akz bD (toY:=eO)
end
end Go.Eng
namespace Go.Eng
noncomputable section
open Go Go.Proofs
def UQ:List (Nat×TI):=[(3,⟨false,1, .one (.int .i64 0), .int .i64⟩),(9,⟨false,1, .one (.str []), .str⟩),(24,⟨true,4, .agg [.int .i64 0, .int .i64 0, .int .i64 0, .clip .aM []], .struct [(0,3),(1,3),(2,3),(3,22)]⟩),(73,⟨false,1, .one (.clip .entry []), .slice .entry 103⟩),(75,⟨true,6, .agg [.int .i64 0, .int .i64 0, .int .i64 0, .str [], .int .i64 0, .clip .entry []], .struct [(0,3),(1,3),(2,3),(3,9),(4,3),(5,73)]⟩),(87,⟨true,3, .agg [.int .i64 0, .str [], .int .i64 0], .struct [(0,3),(1,9),(2,3)]⟩),(131,⟨false,1, .one (.clip .str []), .slice .str 9⟩)]
theorem Z8:(UQ.all λx=>tiB Tryz.prog x.1 x.2)=true:=by kernel_rfl
def Nb:Code:=bd Tryz.f151
def GO:HS:=⟨[(2, .one (.ptr 0 0)),(4, .one (.ptr 1 0)),(8, .one (.ptr 2 0)),(24, .one (.sl .str)),(25, .one (.int .i64)),(26, .one (.int .i64))],[(0, .cells hFs),(1, .cells [.int .i64, .str, .int .i64]),(2, .cells [.int .i64, .str, .int .i64])],3⟩
def Na {R:Type}:Nat->HS.V GO->(Ex->St->Option R)->Option R:=λq v K=>
 jJ v.1.2.2.2.1 v.1.2.2.2.2.1 (cFs v.2.1) (λy11=>K .ret {az:=[(4, .v (.one (.ptr 1 0))),(5, .v (.one (.int .i64 y11)))],mem:=[(1, .cells [.int .i64 ((⟨0, [],0⟩:au).dir), .str ((⟨0, [],0⟩:au).name), .int .i64 ((⟨0, [],0⟩:au).ino)])],nx:=2}) (λy14=>K (.exit 0) {az:=[(4, .v (.one (.ptr 1 0))),(8, .v (.one (.ptr 2 0)))],mem:=[(1, .cells [.int .i64 ((⟨v.2.2.1.1,v.2.2.1.2.1,v.2.2.1.2.2.1⟩:au).dir), .str ((⟨v.2.2.1.1,v.2.2.1.2.1,v.2.2.1.2.2.1⟩:au).name), .int .i64 ((⟨v.2.2.1.1,v.2.2.1.2.1,v.2.2.1.2.2.1⟩:au).ino)]),(2, .cells [.int .i64 y14.dir, .str y14.name, .int .i64 y14.ino])],nx:=3}) q v.1.2.2.2.2.2.1 (⟨v.2.2.2.1.1,v.2.2.2.1.2.1,v.2.2.2.1.2.2.1⟩:au)
def Gp:List HV:=[.agg hFs, .one (.str)]
def M1:List HV:=[.agg [.int .i64, .str, .int .i64], .one (.int .i64)]
def JW:HP.V Gp->Fs×Str:=λv=>((cFs v.1),v.2.1)
def SY:HX.V M1->au×Int:=λv=>((⟨v.1.1,v.1.2.1,v.1.2.2.1⟩:au),v.2)
def Ta:(au×Int)->HX.V M1:=λy=>((y.1.dir,(y.1.name,(y.1.ino,()))),y.2)
def ajs:(Fs×Str)->Option (au×Int):=λx=>rp x.1 x.2
def UJ:Spec:=aL Gp M1 JW Ta ajs
def Xy {R:Type}:List (Nat×Hd R):=[(6,bw GO Na)]
def TT:Cfg:={T:=UQ,spec:=[(119,Tu),(131,oz),(179,YM)],aW:=aD.G Tryz.prog,eqs:=bc,N:=60,fuel:=64,loops:=[(6,⟨[2,4,8,24,25,26], [],[0,1,2],3, [], [], [], []⟩)],blocks:=[(0,⟨[4,8], [],[1,2],3, [], [], [], []⟩)],fq:=some ⟨[4,5], [],[1],2, [], [], [], []⟩,fid:=151}
theorem afa:aE Tryz.prog TT:=aX Z8 bg ⟨YS,⟨pj,⟨aeG,trivial⟩⟩⟩
theorem ajL {R:Type}:br (R:=R) (hnd 0 bL) TT Xy (sub [1,1,1,1,0,1,0,0] Nb) (HS.V GO) (HS.st GO) (HS.sh GO) Na (bw GO Na):=aN GO Na (λ_ _=>rfl) (by intro q v K;kernel_rfl)
theorem abk {R:Type}:aI (R:=R) (hnd 0 bL) TT Xy Nb:=aA (l:=[sub [1,1,1,1,0,1,0,0] Nb]) (by kernel_rfl) (aG (b:=sub [1,1,1,1,0,1,0,0] Nb) (rid:=6) (by kernel_rfl) (by kernel_rfl) ajL (trivial))
theorem VW:aK Tryz.prog 151 UJ:=aY Tryz.f151 afa bD (d:=0) dU abk (bh (by kernel_rfl)) (toY:=SY)
end
end Go.Eng
namespace Go.Eng
noncomputable section
open Go Go.Proofs
def TP:List (Nat×TI):=[(22,⟨false,1, .one (.clip .aM []), .slice .aM 75⟩),(25,⟨false,1, .one (.clip .kept []), .slice .kept 57⟩),(57,⟨true,4, .agg [.int .i64 0, .int .i64 0, .bool false, .str []], .struct [(0,3),(1,3),(2,4),(3,9)]⟩),(75,⟨true,6, .agg [.int .i64 0, .int .i64 0, .int .i64 0, .str [], .int .i64 0, .clip .entry []], .struct [(0,3),(1,3),(2,3),(3,9),(4,3),(5,73)]⟩)]
theorem ZS:(TP.all λx=>tiB Tryz.prog x.1 x.2)=true:=by kernel_rfl
def TV:Code:=bd Tryz.f167
def Ua:List HV:=[.one (.sl .aM)]
def Yh:HP.V Ua->(List ao):=λv=>(v.1)
def Ww:(List ao)->Option ((List ao)):=λx=>cQ x
def Oz:Cfg:={T:=TP,aW:=aD.G Tryz.prog,eqs:=bc,N:=8,fuel:=64,fid:=136}
theorem alp:aE Tryz.prog Oz:=aX ZS bg trivial
theorem agv {R:Type}:aI (R:=R) (hnd 0 bL) Oz cw KE:=aA (l:= []) (by kernel_rfl) (trivial)
theorem aaW:fe Tryz.prog Oz KE:=bh (by kernel_rfl)
def Tc:kx:=mQ Ua Yh (AB.row .aM) Ww
theorem ak5:∀v,zX (hnd 0 bL) Oz cw KE Tryz.f136.results.toList (HP.st Ua v) (AD .aM)=Ww (Yh v):=by intro v;kernel_rfl
theorem Wl:mL Tryz.prog 136 Tc:=p8 (fn:=Tryz.f136) (by kernel_rfl) (by kernel_rfl) (by kernel_rfl) alp (by kernel_rfl) (by kernel_rfl) bD (by kernel_rfl) wA (d:=0) dU agv aaW ak5
def TQ:List HV:=[.one (.sl .kept)]
def Yt:HP.V TQ->(List Kept):=λv=>(v.1)
def aaP:(List Kept)->Option ((List Kept)):=λx=>fC x
def N9:Cfg:={T:=TP,aW:=aD.G Tryz.prog,eqs:=bc,N:=8,fuel:=64,fid:=167}
theorem agu:aE Tryz.prog N9:=aX ZS bg trivial
theorem agt {R:Type}:aI (R:=R) (hnd 0 bL) N9 cw TV:=aA (l:= []) (by kernel_rfl) (trivial)
theorem afi:fe Tryz.prog N9 TV:=bh (by kernel_rfl)
def Ub:kx:=mQ TQ Yt (AB.row .kept) aaP
theorem alZ:∀v,zX (hnd 0 bL) N9 cw TV Tryz.f167.results.toList (HP.st TQ v) (AD .kept)=aaP (Yt v):=by intro v;kernel_rfl
theorem Zs:mL Tryz.prog 167 Ub:=p8 (fn:=Tryz.f167) (by kernel_rfl) (by kernel_rfl) (by kernel_rfl) agu (by kernel_rfl) (by kernel_rfl) bD (by kernel_rfl) wA (d:=0) dU agt afi alZ
end
end Go.Eng
namespace Go.Eng
noncomputable section
open Go Go.Proofs
def kP:List (Nat×TI):=[(3,⟨false,1, .one (.int .i64 0), .int .i64⟩),(4,⟨false,1, .one (.bool false), .bool⟩),(9,⟨false,1, .one (.str []), .str⟩),(22,⟨false,1, .one (.clip .aM []), .slice .aM 75⟩),(24,⟨true,4, .agg [.int .i64 0, .int .i64 0, .int .i64 0, .clip .aM []], .struct [(0,3),(1,3),(2,3),(3,22)]⟩),(25,⟨false,1, .one (.clip .kept []), .slice .kept 57⟩),(27,⟨true,2, .agg [.clip .kept [], .clip .aM []], .struct [(0,25),(1,22)]⟩),(29,⟨true,6, .agg [.int .i64 0, .int .i64 0, .int .i64 0, .clip .aM [], .clip .kept [], .clip .aM []], .struct [(0,24),(4,27)]⟩),(57,⟨true,4, .agg [.int .i64 0, .int .i64 0, .bool false, .str []], .struct [(0,3),(1,3),(2,4),(3,9)]⟩),(75,⟨true,6, .agg [.int .i64 0, .int .i64 0, .int .i64 0, .str [], .int .i64 0, .clip .entry []], .struct [(0,3),(1,3),(2,3),(3,9),(4,3),(5,73)]⟩),(87,⟨true,3, .agg [.int .i64 0, .str [], .int .i64 0], .struct [(0,3),(1,9),(2,3)]⟩),(150,⟨false,1, .one (.ng), .other⟩),(165,⟨false,1, .one (.ng), .other⟩),(184,⟨false,1, .one (.int .u64 0), .int .u64⟩)]
theorem l_:(kP.all λx=>tiB Tryz.prog x.1 x.2)=true:=by kernel_rfl
def uf:Code:=bd Tryz.f78
def tL:Code:=bd Tryz.f79
def af0:Code:=bd Tryz.f97
def alV:Code:=bd Tryz.f133
def ao0:Code:=bd Tryz.f134
def ac5:Code:=bd Tryz.f137
def afX:Code:=bd Tryz.f139
def aku:Code:=bd Tryz.f157
def anX:Code:=bd Tryz.f158
def YA:Code:=bd Tryz.f162
def amf:Code:=bd Tryz.f166
def MI:Code:=bd Tryz.f169
def afT:Code:=bd Tryz.f170
def ajf:Code:=bd Tryz.f171
def LN:Code:=bd Tryz.f185
def W5:Code:=bd Tryz.f186
def Ls:Code:=bd Tryz.f193
def an6:Code:=bd Tryz.f194
def Gn:HS:=⟨[(0, .one (.sl .kept)),(1, .one (.int .i64)),(2, .one (.clo 1)),(8, .one (.int .i64)),(9, .one (.int .i64)),(10, .one (.int .i64))],[(0, .cells [.fnc 158]),(1, .clo 186 [] [.ptr 0 0])],2⟩
def QZ {R:Type}:Nat->HS.V Gn->(Ex->St->Option R)->Option R:=λq v K=>
 cI v.1.1 v.1.2.1 (λy10=>K (.exit 0) {az:=[(0, .v (.one (.sl .kept v.1.1))),(1, .v (.one (.int .i64 v.1.2.1))),(2, .v (.one (.clo 1))),(8, .v (.one (.int .i64 v.1.2.2.2.1))),(9, .v (.one (.int .i64 y10)))],mem:=[(0, .cells [.fnc 158]),(1, .clo 186 [] [.ptr 0 0])],nx:=2}) q v.1.2.2.2.2.1 v.1.2.2.2.2.2.1
def Xj:List HV:=[.one (.sl .kept), .one (.int .i64), .one (.fnc 158)]
def aby:HP.V Xj->(List Kept)×Int:=λv=>(v.1,v.2.1)
def aeS:(List Kept)×Int->Option (Int×Bool):=λx=>jf x.1 x.2
def Nh:Spec:=aL Xj D_ aby Kt aeS
def VL:Cfg:={T:=kP,aW:=aD.G Tryz.prog,eqs:=bc,N:=5,fuel:=64,fid:=158}
theorem anQ:aE Tryz.prog VL:=aX l_ bg trivial
def af2 {R:Type}:Inl R:= .mk 158 VL [] anX Tryz.f158.results.toList []
def Y4:Cfg:={T:=kP,aW:=aD.G Tryz.prog,eqs:=bc,N:=6,fuel:=64,fid:=189}
theorem Z4:aE Tryz.prog Y4:=aX l_ bg trivial
def XF {R:Type}:Inl R:= .mk 189 Y4 [] Zw Tryz.f189.results.toList []
def TW {R:Type}:List (Nat×Inl R):=[(8,XF),(10,XF)]
def SX:Cfg:={T:=kP,aW:=aD.G Tryz.prog,eqs:=bc,N:=20,fuel:=64,fid:=163}
theorem Z9:aE Tryz.prog SX:=aX l_ bg trivial
theorem ZI {R:Type}:bt Tryz.prog (R:=R) 1 TW:=bQ Tryz.f189 Z4 (bQ Tryz.f189 Z4 (aR _ _))
theorem WO {R:Type}:aI (R:=R) (hnd 1 TW) SX cw Q1:=aA (l:= []) (by kernel_rfl) (trivial)
def Xa {R:Type}:Inl R:= .mk 163 SX cw Q1 Tryz.f163.results.toList TW
def Vd {R:Type}:List (Nat×Inl R):=[(8,af2),(10,Xa)]
def RL:Cfg:={T:=kP,aW:=aD.G Tryz.prog,eqs:=bc,N:=11,fuel:=64,fid:=186}
theorem Z2:aE Tryz.prog RL:=aX l_ bg trivial
theorem Vq {R:Type}:bt Tryz.prog (R:=R) 2 Vd:=bQ Tryz.f158 anQ (bJ Tryz.f163 Z9 WO (bh (by kernel_rfl)) ZI (aR _ _))
theorem aak {R:Type}:aI (R:=R) (hnd 2 Vd) RL cw W5:=aA (l:= []) (by kernel_rfl) (trivial)
def Yg {R:Type}:Inl R:= .mk 186 RL cw W5 Tryz.f186.results.toList Vd
def Ss {R:Type}:List (Nat×Hd R):=[(3,bw Gn QZ)]
def Qo {R:Type}:List (Nat×Inl R):=[(30,Yg),(46,Yg)]
def QE:Cfg:={T:=kP,aW:=aD.G Tryz.prog,eqs:=bc,N:=49,fuel:=64,loops:=[(3,⟨[0,1,2,8,9,10], [],[0,1],2, [], [], [], []⟩)],blocks:=[(0,⟨[0,1,2,8,9], [],[0,1],2, [], [], [], []⟩)],fid:=185}
theorem afQ:aE Tryz.prog QE:=aX l_ bg trivial
theorem adw {R:Type}:bt Tryz.prog (R:=R) 3 Qo:=bJ Tryz.f186 Z2 aak (bh (by kernel_rfl)) Vq (bJ Tryz.f186 Z2 aak (bh (by kernel_rfl)) Vq (aR _ _))
theorem agI {R:Type}:br (R:=R) (hnd 3 Qo) QE Ss (sub [1,1,1,0,0,0] LN) (HS.V Gn) (HS.st Gn) (HS.sh Gn) QZ (bw Gn QZ):=aN Gn QZ (λ_ _=>rfl) (by intro q v K;kernel_rfl)
theorem aml {R:Type}:aI (R:=R) (hnd 3 Qo) QE Ss LN:=aA (l:=[sub [1,1,1,0,0,0] LN]) (by kernel_rfl) (aG (b:=sub [1,1,1,0,0,0] LN) (rid:=3) (by kernel_rfl) (by kernel_rfl) agI (trivial))
def ac6 {R:Type}:Inl R:= .mk 185 QE Ss LN Tryz.f185.results.toList Qo
def WC {R:Type}:List (Nat×Inl R):=[(11,ac6)]
def XK:Cfg:={T:=kP,aW:=aD.G Tryz.prog,eqs:=bc,N:=14,fuel:=64,fid:=157}
theorem aoI:aE Tryz.prog XK:=aX l_ bg trivial
theorem ak3 {R:Type}:bt Tryz.prog (R:=R) 4 WC:=bJ Tryz.f185 afQ aml (bh (by kernel_rfl)) adw (aR _ _)
theorem afM {R:Type}:aI (R:=R) (hnd 4 WC) XK cw aku:=aA (l:= []) (by kernel_rfl) (trivial)
theorem Sb:aK Tryz.prog 157 Nh:=aY Tryz.f157 aoI bD (d:=4) ak3 afM (bh (by kernel_rfl)) (toY:=J3)
def im:List HV:=[.agg hW, .one (.int .i64)]
def Ps:List HV:=[.agg [.int .i64, .int .i64, .bool, .str], .one (.bool)]
def HU:HP.V im->aq×Int:=λv=>((cW v.1),v.2.1)
def XV:HX.V Ps->Kept×Bool:=λv=>((⟨v.1.1,v.1.2.1,v.1.2.2.1,v.1.2.2.2.1⟩:Kept),v.2)
def Vv:(Kept×Bool)->HX.V Ps:=λy=>((y.1.slot,(y.1.ino,(y.1.content,(y.1.data,())))),y.2)
def ais:(aq×Int)->Option (Kept×Bool):=λx=>iH x.1 x.2
def A_:Spec:=aL im Ps HU Vv ais
def adq:Cfg:={T:=kP,spec:=[(157,Nh)],aW:=aD.G Tryz.prog,eqs:=bc,N:=25,fuel:=64,fid:=130}
theorem afL:aE Tryz.prog adq:=aX l_ bg ⟨Sb,trivial⟩
theorem Dz:aK Tryz.prog 130 A_:=aZ Tryz.f130 afL bD (toY:=XV)
def T5:List HV:=[.agg hW, .agg [.int .i64, .int .i64, .bool, .str]]
def uZ:List HV:=[.agg hW]
def YT:HP.V T5->aq×Kept:=λv=>((cW v.1),(⟨v.2.1.1,v.2.1.2.1,v.2.1.2.2.1,v.2.1.2.2.2.1⟩:Kept))
def LS:HX.V uZ->aq:=λv=>((cW v))
def KT:aq->HX.V uZ:=λy=>(uW y)
def aln:(aq×Kept)->Option (aq):=λx=>fh x.1 x.2
def QT:Spec:=aL T5 uZ YT KT aln
def Wh:Cfg:={T:=kP,spec:=[(157,Nh)],aW:=aD.G Tryz.prog,eqs:=bc,N:=95,fuel:=64,ovl:=[191],fid:=166,qb:=true}
theorem anD:aE Tryz.prog Wh:=aX l_ bg ⟨Sb,trivial⟩ (ov:=⟨K4,trivial⟩)
def aos {R:Type}:Inl R:= .mk 166 Wh [] amf Tryz.f166.results.toList []
def V7 {R:Type}:List (Nat×Inl R):=[(23,aos)]
def WW:Cfg:={T:=kP,spec:=[(157,Nh)],aW:=aD.G Tryz.prog,eqs:=bc,N:=27,fuel:=64,ovl:=[191],fid:=137,fresh:=[(167,Ub)],qb:=true}
theorem afr:aE Tryz.prog WW:=aX l_ bg ⟨Sb,trivial⟩ (ov:=⟨K4,trivial⟩) (fr:=⟨Zs,trivial⟩)
theorem ajV {R:Type}:bt Tryz.prog (R:=R) 1 V7:=bQ Tryz.f166 anD (aR _ _)
theorem abw {R:Type}:aI (R:=R) (hnd 1 V7) WW cw ac5:=aA (l:= []) (by kernel_rfl) (trivial)
theorem SF:aK Tryz.prog 137 QT:=aY Tryz.f137 afr bD (d:=1) ajV abw (bh (by kernel_rfl)) (toY:=LS)
def Gx:List HV:=[.agg hW, .one (.int .i64), .one (.int .i64)]
def VS:HP.V Gx->aq×Int×Int:=λv=>((cW v.1),v.2.1,v.2.2.1)
def lM:HX.V im->aq×Int:=λv=>((cW v.1),v.2)
def lY:(aq×Int)->HX.V im:=λy=>(uW y.1,y.2)
def acW:(aq×Int×Int)->Option (aq×Int):=λx=>kc x.1 x.2.1 x.2.2
def VN:Spec:=aL Gx im VS lY acW
def abP:Cfg:={T:=kP,spec:=[(130,A_),(131,oz),(137,QT)],aW:=aD.G Tryz.prog,eqs:=bc,N:=34,fuel:=64,fid:=125}
theorem aiJ:aE Tryz.prog abP:=aX l_ bg ⟨Dz,⟨pj,⟨SF,trivial⟩⟩⟩
theorem ai1:aK Tryz.prog 125 VN:=aZ Tryz.f125 aiJ bD (toY:=lM)
def F3:HS:=⟨[(0, .one (.sl .aM)),(1, .one (.int .i64)),(2, .one (.clo 1)),(8, .one (.int .i64)),(9, .one (.int .i64)),(10, .one (.int .i64))],[(0, .cells [.fnc 134]),(1, .clo 162 [] [.ptr 0 0])],2⟩
def Q6 {R:Type}:Nat->HS.V F3->(Ex->St->Option R)->Option R:=λq v K=>
 cz v.1.1 v.1.2.1 (λy10=>K (.exit 0) {az:=[(0, .v (.one (.sl .aM v.1.1))),(1, .v (.one (.int .i64 v.1.2.1))),(2, .v (.one (.clo 1))),(8, .v (.one (.int .i64 v.1.2.2.2.1))),(9, .v (.one (.int .i64 y10)))],mem:=[(0, .cells [.fnc 134]),(1, .clo 162 [] [.ptr 0 0])],nx:=2}) q v.1.2.2.2.2.1 v.1.2.2.2.2.2.1
def aaB:List HV:=[.one (.sl .aM), .one (.int .i64), .one (.fnc 134)]
def ahe:HP.V aaB->(List ao)×Int:=λv=>(v.1,v.2.1)
def afA:(List ao)×Int->Option (Int×Bool):=λx=>iu x.1 x.2
def PF:Spec:=aL aaB D_ ahe Kt afA
def Xh:Cfg:={T:=kP,aW:=aD.G Tryz.prog,eqs:=bc,N:=5,fuel:=64,fid:=134}
theorem alJ:aE Tryz.prog Xh:=aX l_ bg trivial
def adS {R:Type}:Inl R:= .mk 134 Xh [] ao0 Tryz.f134.results.toList []
def U6 {R:Type}:List (Nat×Inl R):=[(8,adS),(10,Xa)]
def R_:Cfg:={T:=kP,aW:=aD.G Tryz.prog,eqs:=bc,N:=11,fuel:=64,fid:=162}
theorem VK:aE Tryz.prog R_:=aX l_ bg trivial
theorem W6 {R:Type}:bt Tryz.prog (R:=R) 2 U6:=bQ Tryz.f134 alJ (bJ Tryz.f163 Z9 WO (bh (by kernel_rfl)) ZI (aR _ _))
theorem YN {R:Type}:aI (R:=R) (hnd 2 U6) R_ cw YA:=aA (l:= []) (by kernel_rfl) (trivial)
def WQ {R:Type}:Inl R:= .mk 162 R_ cw YA Tryz.f162.results.toList U6
def UH {R:Type}:List (Nat×Hd R):=[(3,bw F3 Q6)]
def OT {R:Type}:List (Nat×Inl R):=[(30,WQ),(46,WQ)]
def PG:Cfg:={T:=kP,aW:=aD.G Tryz.prog,eqs:=bc,N:=49,fuel:=64,loops:=[(3,⟨[0,1,2,8,9,10], [],[0,1],2, [], [], [], []⟩)],blocks:=[(0,⟨[0,1,2,8,9], [],[0,1],2, [], [], [], []⟩)],fid:=161}
theorem ah8:aE Tryz.prog PG:=aX l_ bg trivial
theorem agO {R:Type}:bt Tryz.prog (R:=R) 3 OT:=bJ Tryz.f162 VK YN (bh (by kernel_rfl)) W6 (bJ Tryz.f162 VK YN (bh (by kernel_rfl)) W6 (aR _ _))
theorem abU {R:Type}:br (R:=R) (hnd 3 OT) PG UH (sub [1,1,1,0,0,0] A4) (HS.V F3) (HS.st F3) (HS.sh F3) Q6 (bw F3 Q6):=aN F3 Q6 (λ_ _=>rfl) (by intro q v K;kernel_rfl)
theorem ag2 {R:Type}:aI (R:=R) (hnd 3 OT) PG UH A4:=aA (l:=[sub [1,1,1,0,0,0] A4]) (by kernel_rfl) (aG (b:=sub [1,1,1,0,0,0] A4) (rid:=3) (by kernel_rfl) (by kernel_rfl) abU (trivial))
def ae_ {R:Type}:Inl R:= .mk 161 PG UH A4 Tryz.f161.results.toList OT
def Zd {R:Type}:List (Nat×Inl R):=[(11,ae_)]
def Vu:Cfg:={T:=kP,aW:=aD.G Tryz.prog,eqs:=bc,N:=14,fuel:=64,fid:=133}
theorem agC:aE Tryz.prog Vu:=aX l_ bg trivial
theorem agd {R:Type}:bt Tryz.prog (R:=R) 4 Zd:=bJ Tryz.f161 ah8 ag2 (bh (by kernel_rfl)) agO (aR _ _)
theorem ahA {R:Type}:aI (R:=R) (hnd 4 Zd) Vu cw alV:=aA (l:= []) (by kernel_rfl) (trivial)
theorem R7:aK Tryz.prog 133 PF:=aY Tryz.f133 agC bD (d:=4) agd ahA (bh (by kernel_rfl)) (toY:=J3)
def Lq:List HV:=[.agg hW, .one (.int .i64), .agg [.int .i64, .str, .int .i64]]
def P6:HP.V Lq->aq×Int×au:=λv=>((cW v.1),v.2.1,(⟨v.2.2.1.1,v.2.2.1.2.1,v.2.2.1.2.2.1⟩:au))
def aov:(aq×Int×au)->Option (aq×Int):=λx=>ni x.1 x.2.1 x.2.2
def Xn:Spec:=aL Lq im P6 lY aov
def Yy:Cfg:={T:=kP,spec:=[(130,A_),(131,oz),(132,DW),(133,PF),(137,QT)],aW:=aD.G Tryz.prog,eqs:=bc,N:=95,fuel:=64,ovl:=[164],fid:=135,qb:=true}
theorem ahz:aE Tryz.prog Yy:=aX l_ bg ⟨Dz,⟨pj,⟨FW,⟨R7,⟨SF,trivial⟩⟩⟩⟩⟩ (ov:=⟨Ai,trivial⟩)
def aoz {R:Type}:Inl R:= .mk 135 Yy [] X5 Tryz.f135.results.toList []
def aay {R:Type}:List (Nat×Inl R):=[(65,aoz)]
def YF:Cfg:={T:=kP,spec:=[(130,A_),(131,oz),(132,DW),(133,PF),(137,QT)],aW:=aD.G Tryz.prog,eqs:=bc,N:=74,fuel:=64,ovl:=[164],fid:=97,fresh:=[(136,Tc)],qb:=true}
theorem aff:aE Tryz.prog YF:=aX l_ bg ⟨Dz,⟨pj,⟨FW,⟨R7,⟨SF,trivial⟩⟩⟩⟩⟩ (ov:=⟨Ai,trivial⟩) (fr:=⟨Wl,trivial⟩)
theorem aa4 {R:Type}:bt Tryz.prog (R:=R) 1 aay:=bQ Tryz.f135 ahz (aR _ _)
theorem adV {R:Type}:aI (R:=R) (hnd 1 aay) YF cw af0:=aA (l:= []) (by kernel_rfl) (trivial)
theorem aep:aK Tryz.prog 97 Xn:=aY Tryz.f97 aff bD (d:=1) aa4 adV (bh (by kernel_rfl)) (toY:=lM)
def aem:(aq×Int)->Option (ao×Bool):=λx=>pN x.1 x.2
def K6:Spec:=aL im MB HU TU aem
def anC:Cfg:={T:=kP,spec:=[(131,oz),(133,PF)],aW:=aD.G Tryz.prog,eqs:=bc,N:=36,fuel:=64,fid:=168}
theorem aj_:aE Tryz.prog anC:=aX l_ bg ⟨pj,⟨R7,trivial⟩⟩
theorem Pa:aK Tryz.prog 168 K6:=aZ Tryz.f168 aj_ bD (toY:=T6)
def G1:HS:=⟨[(0, .one (.own 3)),(1, .one (.clo 4)),(7, .one (.int .i64)),(8, .one (.int .i64)),(1000000, .one (.own 3)),(1000001, .one (.clo 4)),(2000002, .one (.ptr 0 0)),(2000004, .one (.ptr 2 0))],[(0, .cells hW),(1, .cells [.int .i64]),(2, .cells hW),(3, .row .kept),(4, .clo 194 [] [.ptr 1 0])],5⟩
def Qj {R:Type}:Nat->HS.V G1->(Ex->St->Option R)->Option R:=λq v K=>
 dK v.1.2.2.1 v.2.2.1.1 v.2.2.2.2.1 (λy9=>K .ret {az:=[(4, .v (.one (.int .i64 y9))),(1000000, .v (.one (.own 3))),(1000001, .v (.one (.clo 4))),(2000002, .v (.one (.ptr 0 0))),(2000004, .v (.one (.ptr 2 0)))],mem:=[(0, .cells [.int .i64 ((cW v.2.1).fs.ay), .int .i64 ((cW v.2.1).fs.aB), .int .i64 ((cW v.2.1).fs.next), .sl .aM ((cW v.2.1).fs.aa), .sl .kept ((cW v.2.1).al.kept), .sl .aM ((cW v.2.1).al.aO)]),(1, .cells [.int .i64 v.2.2.1.1]),(2, .cells [.int .i64 ((cW v.2.2.2.1).fs.ay), .int .i64 ((cW v.2.2.2.1).fs.aB), .int .i64 ((cW v.2.2.2.1).fs.next), .sl .aM ((cW v.2.2.2.1).fs.aa), .sl .kept ((cW v.2.2.2.1).al.kept), .sl .aM ((cW v.2.2.2.1).al.aO)]),(3, .row .kept v.2.2.2.2.1),(4, .clo 194 [] [.ptr 1 0])],nx:=5}) (K (.exit 0) {az:=[(1000000, .v (.one (.own 3))),(1000001, .v (.one (.clo 4))),(2000002, .v (.one (.ptr 0 0))),(2000004, .v (.one (.ptr 2 0)))],mem:=[(0, .cells [.int .i64 ((cW v.2.1).fs.ay), .int .i64 ((cW v.2.1).fs.aB), .int .i64 ((cW v.2.1).fs.next), .sl .aM ((cW v.2.1).fs.aa), .sl .kept ((cW v.2.1).al.kept), .sl .aM ((cW v.2.1).al.aO)]),(1, .cells [.int .i64 v.2.2.1.1]),(2, .cells [.int .i64 ((cW v.2.2.2.1).fs.ay), .int .i64 ((cW v.2.2.2.1).fs.aB), .int .i64 ((cW v.2.2.2.1).fs.next), .sl .aM ((cW v.2.2.2.1).fs.aa), .sl .kept ((cW v.2.2.2.1).al.kept), .sl .aM ((cW v.2.2.2.1).al.aO)]),(3, .row .kept v.2.2.2.2.1),(4, .clo 194 [] [.ptr 1 0])],nx:=5}) q v.1.2.2.2.1
def FP:HS:=⟨[(0, .one (.own 3)),(1, .one (.clo 4)),(5, .one (.int .i64)),(6, .one (.int .i64)),(1000002, .one (.ptr 0 0)),(1000004, .one (.ptr 2 0))],[(0, .cells hW),(1, .cells [.int .i64]),(2, .cells hW),(3, .row .kept),(4, .clo 194 [] [.ptr 1 0])],5⟩
def Q0 {R:Type}:Nat->HS.V FP->(Ex->St->Option R)->Option R:=λq v K=>
 dg v.2.2.1.1 (λy27 y30=>K (.exit 0) {az:=[(0, .v (.one (.own 3))),(5, .v (.one (.int .i64 y27))),(1000002, .v (.one (.ptr 0 0))),(1000004, .v (.one (.ptr 2 0)))],mem:=[(0, .cells [.int .i64 ((cW v.2.1).fs.ay), .int .i64 ((cW v.2.1).fs.aB), .int .i64 ((cW v.2.1).fs.next), .sl .aM ((cW v.2.1).fs.aa), .sl .kept ((cW v.2.1).al.kept), .sl .aM ((cW v.2.1).al.aO)]),(2, .cells [.int .i64 ((cW v.2.2.2.1).fs.ay), .int .i64 ((cW v.2.2.2.1).fs.aB), .int .i64 ((cW v.2.2.2.1).fs.next), .sl .aM ((cW v.2.2.2.1).fs.aa), .sl .kept ((cW v.2.2.2.1).al.kept), .sl .aM ((cW v.2.2.2.1).al.aO)]),(3, .row .kept y30)],nx:=4}) q v.1.2.2.1 v.1.2.2.2.1 v.2.2.2.2.1
def ald:(aq×Int)->Option (aq):=λx=>bW x.1 x.2
def Kd:Spec:=aL im uZ HU KT ald
def VF:Cfg:={T:=kP,aW:=aD.G Tryz.prog,eqs:=bc,N:=8,fuel:=64,fid:=194}
theorem Wc:aE Tryz.prog VF:=aX l_ bg trivial
def Yi {R:Type}:Inl R:= .mk 194 VF [] an6 Tryz.f194.results.toList []
def S7 {R:Type}:List (Nat×Hd R):=[(2,bw G1 Qj)]
def Rp {R:Type}:List (Nat×Inl R):=[(16,Yi)]
def Ou:Cfg:={T:=kP,aW:=aD.G Tryz.prog,eqs:=bc,N:=19,fuel:=64,loops:=[(2,⟨[0,1,7,8,1000000,1000001,2000002,2000004], [],[0,1,2,3,4],5, [],[2], [], []⟩)],blocks:=[(0,⟨[1000000,1000001,2000002,2000004], [],[0,1,2,3,4],5, [], [], [], []⟩)],fq:=some ⟨[4,1000000,1000001,2000002,2000004], [],[0,1,2,3,4],5, [], [], [], []⟩,fid:=79}
theorem alo:aE Tryz.prog Ou:=aX l_ bg trivial
theorem adi {R:Type}:bt Tryz.prog (R:=R) 1 Rp:=bQ Tryz.f194 Wc (aR _ _)
theorem acL {R:Type}:br (R:=R) (hnd 1 Rp) Ou S7 (sub [1,0,1,0,0] tL) (HS.V G1) (HS.st G1) (HS.sh G1) Qj (bw G1 Qj):=aN G1 Qj (λ_ _=>rfl) (by intro q v K;kernel_rfl)
theorem anj {R:Type}:aI (R:=R) (hnd 1 Rp) Ou S7 tL:=aA (l:=[sub [1,0,1,0,0] tL]) (by kernel_rfl) (aG (b:=sub [1,0,1,0,0] tL) (rid:=2) (by kernel_rfl) (by kernel_rfl) acL (trivial))
def ait {R:Type}:Inl R:= .mk 79 Ou S7 tL Tryz.f79.results.toList Rp
def RS {R:Type}:List (Nat×Hd R):=[(5,bw FP Q0)]
def Pg {R:Type}:List (Nat×Inl R):=[(10,ait),(28,Yi)]
def QS:Cfg:={T:=kP,aW:=aD.G Tryz.prog,eqs:=bc,N:=42,fuel:=64,loops:=[(5,⟨[0,1,5,6,1000002,1000004], [],[0,1,2,3,4],5, [], [], [], []⟩)],blocks:=[(0,⟨[0,5,1000002,1000004], [],[0,2,3],4, [], [], [], []⟩)],fid:=193}
theorem ac7:aE Tryz.prog QS:=aX l_ bg trivial
theorem aoL {R:Type}:bt Tryz.prog (R:=R) 2 Pg:=bJ Tryz.f79 alo anj (bh (by kernel_rfl)) adi (bQ Tryz.f194 Wc (aR _ _))
theorem ant {R:Type}:br (R:=R) (hnd 2 Pg) QS RS (sub [1,1,1,0,1,0,0] Ls) (HS.V FP) (HS.st FP) (HS.sh FP) Q0 (bw FP Q0):=aN FP Q0 (λ_ _=>rfl) (by intro q v K;kernel_rfl)
theorem af1 {R:Type}:aI (R:=R) (hnd 2 Pg) QS RS Ls:=aA (l:=[sub [1,1,1,0,1,0,0] Ls]) (by kernel_rfl) (aG (b:=sub [1,1,1,0,1,0,0] Ls) (rid:=5) (by kernel_rfl) (by kernel_rfl) ant (trivial))
def akS {R:Type}:Inl R:= .mk 193 QS RS Ls Tryz.f193.results.toList Pg
def ZX {R:Type}:List (Nat×Inl R):=[(10,akS)]
def ZG:Cfg:={T:=kP,aW:=aD.G Tryz.prog,eqs:=bc,N:=14,fuel:=64,fid:=171,fresh:=[(167,Ub)]}
theorem ahV:aE Tryz.prog ZG:=aX l_ bg trivial (fr:=⟨Zs,trivial⟩)
theorem alQ {R:Type}:bt Tryz.prog (R:=R) 3 ZX:=bJ Tryz.f193 ac7 af1 (bh (by kernel_rfl)) aoL (aR _ _)
theorem ae1 {R:Type}:aI (R:=R) (hnd 3 ZX) ZG cw ajf:=aA (l:= []) (by kernel_rfl) (trivial)
theorem MW:aK Tryz.prog 171 Kd:=aY Tryz.f171 ahV bD (d:=3) alQ ae1 (bh (by kernel_rfl)) (toY:=LS)
def HJ:HS:=⟨[(0, .one (.own 5)),(1, .one (.clo 6)),(7, .one (.int .i64)),(8, .one (.int .i64)),(1000000, .one (.own 5)),(1000001, .one (.clo 6)),(2000001, .one (.int .i64)),(2000003, .one (.ptr 0 0)),(2000005, .one (.ptr 1 0)),(2000006, .one (.ptr 2 0)),(2000008, .one (.ptr 3 0)),(2000010, .one (.ptr 4 0))],[(0, .cells hW),(1, .cells [.int .i64, .str, .int .i64]),(2, .cells hW),(3, .cells [.int .i64, .int .i64, .bool, .str]),(4, .cells hIn),(5, .row .aM),(6, .clo 170 [] [.ptr 4 0])],7⟩
def OS {R:Type}:Nat->HS.V HJ->(Ex->St->Option R)->Option R:=λq v K=>
 cv v.1.2.2.1 (cIn v.2.2.2.2.2.1) v.2.2.2.2.2.2.1 (λy17=>K .ret {az:=[(4, .v (.one (.int .i64 y17))),(1000000, .v (.one (.own 5))),(1000001, .v (.one (.clo 6))),(2000001, .v (.one (.int .i64 v.1.2.2.2.2.2.2.1))),(2000003, .v (.one (.ptr 0 0))),(2000005, .v (.one (.ptr 1 0))),(2000006, .v (.one (.ptr 2 0))),(2000008, .v (.one (.ptr 3 0))),(2000010, .v (.one (.ptr 4 0)))],mem:=[(0, .cells [.int .i64 ((cW v.2.1).fs.ay), .int .i64 ((cW v.2.1).fs.aB), .int .i64 ((cW v.2.1).fs.next), .sl .aM ((cW v.2.1).fs.aa), .sl .kept ((cW v.2.1).al.kept), .sl .aM ((cW v.2.1).al.aO)]),(1, .cells [.int .i64 ((⟨v.2.2.1.1,v.2.2.1.2.1,v.2.2.1.2.2.1⟩:au).dir), .str ((⟨v.2.2.1.1,v.2.2.1.2.1,v.2.2.1.2.2.1⟩:au).name), .int .i64 ((⟨v.2.2.1.1,v.2.2.1.2.1,v.2.2.1.2.2.1⟩:au).ino)]),(2, .cells [.int .i64 ((cW v.2.2.2.1).fs.ay), .int .i64 ((cW v.2.2.2.1).fs.aB), .int .i64 ((cW v.2.2.2.1).fs.next), .sl .aM ((cW v.2.2.2.1).fs.aa), .sl .kept ((cW v.2.2.2.1).al.kept), .sl .aM ((cW v.2.2.2.1).al.aO)]),(3, .cells [.int .i64 ((⟨v.2.2.2.2.1.1,v.2.2.2.2.1.2.1,v.2.2.2.2.1.2.2.1,v.2.2.2.2.1.2.2.2.1⟩:Kept).slot), .int .i64 ((⟨v.2.2.2.2.1.1,v.2.2.2.2.1.2.1,v.2.2.2.2.1.2.2.1,v.2.2.2.2.1.2.2.2.1⟩:Kept).ino), .bool ((⟨v.2.2.2.2.1.1,v.2.2.2.2.1.2.1,v.2.2.2.2.1.2.2.1,v.2.2.2.2.1.2.2.2.1⟩:Kept).content), .str ((⟨v.2.2.2.2.1.1,v.2.2.2.2.1.2.1,v.2.2.2.2.1.2.2.1,v.2.2.2.2.1.2.2.2.1⟩:Kept).data)]),(4, .cells (rIn (cIn v.2.2.2.2.2.1))),(5, .row .aM v.2.2.2.2.2.2.1),(6, .clo 170 [] [.ptr 4 0])],nx:=7}) (K (.exit 0) {az:=[(1000000, .v (.one (.own 5))),(1000001, .v (.one (.clo 6))),(2000001, .v (.one (.int .i64 v.1.2.2.2.2.2.2.1))),(2000003, .v (.one (.ptr 0 0))),(2000005, .v (.one (.ptr 1 0))),(2000006, .v (.one (.ptr 2 0))),(2000008, .v (.one (.ptr 3 0))),(2000010, .v (.one (.ptr 4 0)))],mem:=[(0, .cells [.int .i64 ((cW v.2.1).fs.ay), .int .i64 ((cW v.2.1).fs.aB), .int .i64 ((cW v.2.1).fs.next), .sl .aM ((cW v.2.1).fs.aa), .sl .kept ((cW v.2.1).al.kept), .sl .aM ((cW v.2.1).al.aO)]),(1, .cells [.int .i64 ((⟨v.2.2.1.1,v.2.2.1.2.1,v.2.2.1.2.2.1⟩:au).dir), .str ((⟨v.2.2.1.1,v.2.2.1.2.1,v.2.2.1.2.2.1⟩:au).name), .int .i64 ((⟨v.2.2.1.1,v.2.2.1.2.1,v.2.2.1.2.2.1⟩:au).ino)]),(2, .cells [.int .i64 ((cW v.2.2.2.1).fs.ay), .int .i64 ((cW v.2.2.2.1).fs.aB), .int .i64 ((cW v.2.2.2.1).fs.next), .sl .aM ((cW v.2.2.2.1).fs.aa), .sl .kept ((cW v.2.2.2.1).al.kept), .sl .aM ((cW v.2.2.2.1).al.aO)]),(3, .cells [.int .i64 ((⟨v.2.2.2.2.1.1,v.2.2.2.2.1.2.1,v.2.2.2.2.1.2.2.1,v.2.2.2.2.1.2.2.2.1⟩:Kept).slot), .int .i64 ((⟨v.2.2.2.2.1.1,v.2.2.2.2.1.2.1,v.2.2.2.2.1.2.2.1,v.2.2.2.2.1.2.2.2.1⟩:Kept).ino), .bool ((⟨v.2.2.2.2.1.1,v.2.2.2.2.1.2.1,v.2.2.2.2.1.2.2.1,v.2.2.2.2.1.2.2.2.1⟩:Kept).content), .str ((⟨v.2.2.2.2.1.1,v.2.2.2.2.1.2.1,v.2.2.2.2.1.2.2.1,v.2.2.2.2.1.2.2.2.1⟩:Kept).data)]),(4, .cells (rIn (cIn v.2.2.2.2.2.1))),(5, .row .aM v.2.2.2.2.2.2.1),(6, .clo 170 [] [.ptr 4 0])],nx:=7}) q v.1.2.2.2.1
def Gf:HS:=⟨[(0, .one (.own 5)),(1, .one (.clo 6)),(5, .one (.int .i64)),(6, .one (.int .i64)),(1000001, .one (.int .i64)),(1000003, .one (.ptr 0 0)),(1000005, .one (.ptr 1 0)),(1000006, .one (.ptr 2 0)),(1000008, .one (.ptr 3 0)),(1000010, .one (.ptr 4 0))],[(0, .cells hW),(1, .cells [.int .i64, .str, .int .i64]),(2, .cells hW),(3, .cells [.int .i64, .int .i64, .bool, .str]),(4, .cells hIn),(5, .row .aM),(6, .clo 170 [] [.ptr 4 0])],7⟩
def Rx {R:Type}:Nat->HS.V Gf->(Ex->St->Option R)->Option R:=λq v K=>
 cx (cIn v.2.2.2.2.2.1) (λy47 y54=>K (.exit 0) {az:=[(0, .v (.one (.own 5))),(5, .v (.one (.int .i64 y47))),(1000001, .v (.one (.int .i64 v.1.2.2.2.2.1))),(1000003, .v (.one (.ptr 0 0))),(1000005, .v (.one (.ptr 1 0))),(1000006, .v (.one (.ptr 2 0))),(1000008, .v (.one (.ptr 3 0))),(1000010, .v (.one (.ptr 4 0)))],mem:=[(0, .cells [.int .i64 ((cW v.2.1).fs.ay), .int .i64 ((cW v.2.1).fs.aB), .int .i64 ((cW v.2.1).fs.next), .sl .aM ((cW v.2.1).fs.aa), .sl .kept ((cW v.2.1).al.kept), .sl .aM ((cW v.2.1).al.aO)]),(1, .cells [.int .i64 ((⟨v.2.2.1.1,v.2.2.1.2.1,v.2.2.1.2.2.1⟩:au).dir), .str ((⟨v.2.2.1.1,v.2.2.1.2.1,v.2.2.1.2.2.1⟩:au).name), .int .i64 ((⟨v.2.2.1.1,v.2.2.1.2.1,v.2.2.1.2.2.1⟩:au).ino)]),(2, .cells [.int .i64 ((cW v.2.2.2.1).fs.ay), .int .i64 ((cW v.2.2.2.1).fs.aB), .int .i64 ((cW v.2.2.2.1).fs.next), .sl .aM ((cW v.2.2.2.1).fs.aa), .sl .kept ((cW v.2.2.2.1).al.kept), .sl .aM ((cW v.2.2.2.1).al.aO)]),(3, .cells [.int .i64 ((⟨v.2.2.2.2.1.1,v.2.2.2.2.1.2.1,v.2.2.2.2.1.2.2.1,v.2.2.2.2.1.2.2.2.1⟩:Kept).slot), .int .i64 ((⟨v.2.2.2.2.1.1,v.2.2.2.2.1.2.1,v.2.2.2.2.1.2.2.1,v.2.2.2.2.1.2.2.2.1⟩:Kept).ino), .bool ((⟨v.2.2.2.2.1.1,v.2.2.2.2.1.2.1,v.2.2.2.2.1.2.2.1,v.2.2.2.2.1.2.2.2.1⟩:Kept).content), .str ((⟨v.2.2.2.2.1.1,v.2.2.2.2.1.2.1,v.2.2.2.2.1.2.2.1,v.2.2.2.2.1.2.2.2.1⟩:Kept).data)]),(4, .cells (rIn (cIn v.2.2.2.2.2.1))),(5, .row .aM y54)],nx:=6}) q v.1.2.2.1 v.1.2.2.2.1 v.2.2.2.2.2.2.1
def aa7:(aq×Int×au)->Option (aq×Int):=λx=>pQ x.1 x.2.1 x.2.2
def YH:Spec:=aL Lq im P6 lY aa7
def YG:Cfg:={T:=kP,spec:=[(128,J2),(130,A_),(131,oz),(148,H4),(152,Eg),(155,AL),(168,K6),(171,Kd)],aW:=aD.G Tryz.prog,eqs:=bc,N:=9,fuel:=64,fid:=170}
theorem Y8:aE Tryz.prog YG:=aX l_ bg ⟨LA,⟨Dz,⟨pj,⟨JP,⟨H0,⟨Bw,⟨Pa,⟨MW,trivial⟩⟩⟩⟩⟩⟩⟩⟩
def Xr {R:Type}:Inl R:= .mk 170 YG [] afT Tryz.f170.results.toList []
def Sn {R:Type}:List (Nat×Hd R):=[(2,bw HJ OS)]
def NI {R:Type}:List (Nat×Inl R):=[(16,Xr)]
def Qv:Cfg:={T:=kP,spec:=[(128,J2),(130,A_),(131,oz),(148,H4),(152,Eg),(155,AL),(168,K6),(171,Kd)],aW:=aD.G Tryz.prog,eqs:=bc,N:=19,fuel:=64,loops:=[(2,⟨[0,1,7,8,1000000,1000001,2000001,2000003,2000005,2000006,2000008,2000010], [],[0,1,2,3,4,5,6],7, [],[2], [], []⟩)],blocks:=[(0,⟨[1000000,1000001,2000001,2000003,2000005,2000006,2000008,2000010], [],[0,1,2,3,4,5,6],7, [], [], [], []⟩)],fq:=some ⟨[4,1000000,1000001,2000001,2000003,2000005,2000006,2000008,2000010], [],[0,1,2,3,4,5,6],7, [], [], [], []⟩,fid:=78}
theorem ac8:aE Tryz.prog Qv:=aX l_ bg ⟨LA,⟨Dz,⟨pj,⟨JP,⟨H0,⟨Bw,⟨Pa,⟨MW,trivial⟩⟩⟩⟩⟩⟩⟩⟩
theorem anH {R:Type}:bt Tryz.prog (R:=R) 1 NI:=bQ Tryz.f170 Y8 (aR _ _)
theorem aeH {R:Type}:br (R:=R) (hnd 1 NI) Qv Sn (sub [1,0,1,0,0] uf) (HS.V HJ) (HS.st HJ) (HS.sh HJ) OS (bw HJ OS):=aN HJ OS (λ_ _=>rfl) (by intro q v K;kernel_rfl)
theorem aiC {R:Type}:aI (R:=R) (hnd 1 NI) Qv Sn uf:=aA (l:=[sub [1,0,1,0,0] uf]) (by kernel_rfl) (aG (b:=sub [1,0,1,0,0] uf) (rid:=2) (by kernel_rfl) (by kernel_rfl) aeH (trivial))
def ac_ {R:Type}:Inl R:= .mk 78 Qv Sn uf Tryz.f78.results.toList NI
def Us {R:Type}:List (Nat×Hd R):=[(5,bw Gf Rx)]
def QY {R:Type}:List (Nat×Inl R):=[(10,ac_),(28,Xr)]
def Ox:Cfg:={T:=kP,spec:=[(128,J2),(130,A_),(131,oz),(148,H4),(152,Eg),(155,AL),(168,K6),(171,Kd)],aW:=aD.G Tryz.prog,eqs:=bc,N:=42,fuel:=64,loops:=[(5,⟨[0,1,5,6,1000001,1000003,1000005,1000006,1000008,1000010], [],[0,1,2,3,4,5,6],7, [], [], [], []⟩)],blocks:=[(0,⟨[0,5,1000001,1000003,1000005,1000006,1000008,1000010], [],[0,1,2,3,4,5],6, [], [], [], []⟩)],fid:=169}
theorem abA:aE Tryz.prog Ox:=aX l_ bg ⟨LA,⟨Dz,⟨pj,⟨JP,⟨H0,⟨Bw,⟨Pa,⟨MW,trivial⟩⟩⟩⟩⟩⟩⟩⟩
theorem ahf {R:Type}:bt Tryz.prog (R:=R) 2 QY:=bJ Tryz.f78 ac8 aiC (bh (by kernel_rfl)) anH (bQ Tryz.f170 Y8 (aR _ _))
theorem ag6 {R:Type}:br (R:=R) (hnd 2 QY) Ox Us (sub [1,1,1,0,1,0,0] MI) (HS.V Gf) (HS.st Gf) (HS.sh Gf) Rx (bw Gf Rx):=aN Gf Rx (λ_ _=>rfl) (by intro q v K;kernel_rfl)
theorem agB {R:Type}:aI (R:=R) (hnd 2 QY) Ox Us MI:=aA (l:=[sub [1,1,1,0,1,0,0] MI]) (by kernel_rfl) (aG (b:=sub [1,1,1,0,1,0,0] MI) (rid:=5) (by kernel_rfl) (by kernel_rfl) ag6 (trivial))
def amN {R:Type}:Inl R:= .mk 169 Ox Us MI Tryz.f169.results.toList QY
def aaf {R:Type}:List (Nat×Inl R):=[(81,amN)]
def Vs:Cfg:={T:=kP,spec:=[(128,J2),(130,A_),(131,oz),(148,H4),(152,Eg),(155,AL),(168,K6),(171,Kd)],aW:=aD.G Tryz.prog,eqs:=bc,N:=99,fuel:=64,fid:=139,fresh:=[(136,Tc)]}
theorem ai8:aE Tryz.prog Vs:=aX l_ bg ⟨LA,⟨Dz,⟨pj,⟨JP,⟨H0,⟨Bw,⟨Pa,⟨MW,trivial⟩⟩⟩⟩⟩⟩⟩⟩ (fr:=⟨Wl,trivial⟩)
theorem adC {R:Type}:bt Tryz.prog (R:=R) 3 aaf:=bJ Tryz.f169 abA agB (bh (by kernel_rfl)) ahf (aR _ _)
theorem ahx {R:Type}:aI (R:=R) (hnd 3 aaf) Vs cw afX:=aA (l:= []) (by kernel_rfl) (trivial)
theorem ab_:aK Tryz.prog 139 YH:=aY Tryz.f139 ai8 bD (d:=3) adC ahx (bh (by kernel_rfl)) (toY:=lM)
def amU:(aq×Int)->Option (aq×Int):=λx=>j5 x.1 x.2
def Xp:Spec:=aL im im HU lY amU
def amz:Cfg:={T:=kP,spec:=[(130,A_),(131,oz),(152,Eg),(155,AL),(171,Kd)],aW:=aD.G Tryz.prog,eqs:=bc,N:=61,fuel:=64,fid:=140}
theorem abt:aE Tryz.prog amz:=aX l_ bg ⟨Dz,⟨pj,⟨H0,⟨Bw,⟨MW,trivial⟩⟩⟩⟩⟩
theorem aoC:aK Tryz.prog 140 Xp:=aZ Tryz.f140 abt bD (toY:=lM)
end
end Go.Eng
namespace Go.Eng
noncomputable section
open Go Go.Proofs
def my:List (Nat×TI):=[(3,⟨false,1, .one (.int .i64 0), .int .i64⟩),(4,⟨false,1, .one (.bool false), .bool⟩),(9,⟨false,1, .one (.str []), .str⟩),(24,⟨true,4, .agg [.int .i64 0, .int .i64 0, .int .i64 0, .clip .aM []], .struct [(0,3),(1,3),(2,3),(3,22)]⟩),(25,⟨false,1, .one (.clip .kept []), .slice .kept 57⟩),(27,⟨true,2, .agg [.clip .kept [], .clip .aM []], .struct [(0,25),(1,22)]⟩),(29,⟨true,6, .agg [.int .i64 0, .int .i64 0, .int .i64 0, .clip .aM [], .clip .kept [], .clip .aM []], .struct [(0,24),(4,27)]⟩),(46,⟨true,5, .agg [.int .i64 0, .int .i64 0, .str [], .str [], .str []], .struct [(0,3),(1,3),(2,9),(3,9),(4,9)]⟩),(57,⟨true,4, .agg [.int .i64 0, .int .i64 0, .bool false, .str []], .struct [(0,3),(1,3),(2,4),(3,9)]⟩),(73,⟨false,1, .one (.clip .entry []), .slice .entry 103⟩),(75,⟨true,6, .agg [.int .i64 0, .int .i64 0, .int .i64 0, .str [], .int .i64 0, .clip .entry []], .struct [(0,3),(1,3),(2,3),(3,9),(4,3),(5,73)]⟩),(80,⟨false,1, .one (.ng), .other⟩),(81,⟨false,1, .one (.oO), .map .int .fn 3 80⟩),(87,⟨true,3, .agg [.int .i64 0, .str [], .int .i64 0], .struct [(0,3),(1,9),(2,3)]⟩)]
theorem mG:(my.all λx=>tiB Tryz.prog x.1 x.2)=true:=by kernel_rfl
def Rv:Code:=bd Tryz.f50
def Uc:Code:=bd Tryz.f54
def acZ:Code:=bd Tryz.f94
def P_:Code:=bd Tryz.f95
def ajp:Code:=bd Tryz.f96
def anK:Code:=bd Tryz.f98
def agS:Code:=bd Tryz.f99
def am9:Code:=bd Tryz.f100
def aoY:Code:=bd Tryz.f138
def alj:(Fs×Str)->Option (au×Int):=λx=>kO x.1 x.2
def K_:Spec:=aL Gp M1 JW Ta alj
def alL:Cfg:={T:=my,spec:=[(151,UJ)],aW:=aD.G Tryz.prog,eqs:=bc,N:=25,fuel:=64,fid:=122}
theorem ac3:aE Tryz.prog alL:=aX mG bg ⟨VW,trivial⟩
theorem N0:aK Tryz.prog 122 K_:=aZ Tryz.f122 ac3 bD (toY:=SY)
def U0:List HV:=[.agg hW, .one (.str), .one (.int .i64), .one (.str)]
def XZ:HP.V U0->aq×Str×Int×Str:=λv=>((cW v.1),v.2.1,v.2.2.1,v.2.2.2.1)
def acI:(aq×Str×Int×Str)->Option (aq×Int):=λx=>m8 x.1 x.2.1 x.2.2.1 x.2.2.2
def Qz:Spec:=aL U0 im XZ lY acI
def anu:Cfg:={T:=my,spec:=[(122,K_),(123,Ya)],aW:=aD.G Tryz.prog,eqs:=bc,N:=37,fuel:=64,fid:=88}
theorem ads:aE Tryz.prog anu:=aX mG bg ⟨N0,⟨anB,trivial⟩⟩
theorem U_:aK Tryz.prog 88 Qz:=aZ Tryz.f88 ads bD (toY:=lM)
def uB:List HV:=[.agg hW, .agg [.int .i64, .int .i64, .str, .str, .str]]
def vw:HP.V uB->aq×Opn:=λv=>((cW v.1),(⟨v.2.1.1,v.2.1.2.1,v.2.1.2.2.1,v.2.1.2.2.2.1,v.2.1.2.2.2.2.1⟩:Opn))
def acy:(aq×Opn)->Option (aq×Int):=λx=>ly x.1 x.2
def Yu:Spec:=aL uB im vw lY acy
def aol:Cfg:={T:=my,spec:=[(88,Qz)],aW:=aD.G Tryz.prog,eqs:=bc,N:=12,fuel:=64,fid:=87}
theorem aix:aE Tryz.prog aol:=aX mG bg ⟨U_,trivial⟩
theorem ann:aK Tryz.prog 87 Yu:=aZ Tryz.f87 aix bD (toY:=lM)
def PK:List HV:=[.agg [.int .i64, .str, .int .i64], .agg hIn, .one (.int .i64)]
def Yb:HX.V PK->au×ao×Int:=λv=>((⟨v.1.1,v.1.2.1,v.1.2.2.1⟩:au),(cIn v.2.1),v.2.2)
def W_:(au×ao×Int)->HX.V PK:=λy=>((y.1.dir,(y.1.name,(y.1.ino,()))),uIn y.2.1,y.2.2)
def aoq:(Fs×Str)->Option (au×ao×Int):=λx=>gM x.1 x.2
def DZ:Spec:=aL Gp PK JW W_ aoq
def aeM:Cfg:={T:=my,spec:=[(131,oz),(151,UJ)],aW:=aD.G Tryz.prog,eqs:=bc,N:=37,fuel:=64,fid:=127}
theorem amj:aE Tryz.prog aeM:=aX mG bg ⟨pj,⟨VW,trivial⟩⟩
theorem GZ:aK Tryz.prog 127 DZ:=aZ Tryz.f127 amj bD (toY:=Yb)
def PJ:List HV:=[.agg hIn, .one (.int .i64)]
def V5:HX.V PJ->ao×Int:=λv=>((cIn v.1),v.2)
def XJ:(ao×Int)->HX.V PJ:=λy=>(uIn y.1,y.2)
def ado:(Fs×Str)->Option (ao×Int):=λx=>m7 x.1 x.2
def Sj:Spec:=aL Gp PJ JW XJ ado
def ai5:Cfg:={T:=my,spec:=[(127,DZ)],aW:=aD.G Tryz.prog,eqs:=bc,N:=32,fuel:=64,fid:=124}
theorem aiZ:aE Tryz.prog ai5:=aX mG bg ⟨GZ,trivial⟩
theorem ZO:aK Tryz.prog 124 Sj:=aZ Tryz.f124 aiZ bD (toY:=V5)
def anh:(aq×Opn)->Option (aq×Int):=λx=>oh x.1 x.2
def VJ:Spec:=aL uB im vw lY anh
def afE:Cfg:={T:=my,spec:=[(88,Qz),(124,Sj)],aW:=aD.G Tryz.prog,eqs:=bc,N:=28,fuel:=64,fid:=89}
theorem alN:aE Tryz.prog afE:=aX mG bg ⟨U_,⟨ZO,trivial⟩⟩
theorem afN:aK Tryz.prog 89 VJ:=aZ Tryz.f89 alN bD (toY:=lM)
def afR:(aq×Opn)->Option (aq×Int):=λx=>mU x.1 x.2
def Z1:Spec:=aL uB im vw lY afR
def ahb:Cfg:={T:=my,spec:=[(124,Sj),(125,VN),(126,XE)],aW:=aD.G Tryz.prog,eqs:=bc,N:=73,fuel:=64,fid:=90}
theorem agi:aE Tryz.prog ahb:=aX mG bg ⟨ZO,⟨ai1,⟨ab8,trivial⟩⟩⟩
theorem agF:aK Tryz.prog 90 Z1:=aZ Tryz.f90 agi bD (toY:=lM)
def ace:(aq×Opn)->Option (aq×Int):=λx=>lD x.1 x.2
def Z0:Spec:=aL uB im vw lY ace
def akt:Cfg:={T:=my,spec:=[(88,Qz)],aW:=aD.G Tryz.prog,eqs:=bc,N:=14,fuel:=64,fid:=91}
theorem acz:aE Tryz.prog akt:=aX mG bg ⟨U_,trivial⟩
theorem aib:aK Tryz.prog 91 Z0:=aZ Tryz.f91 acz bD (toY:=lM)
def agr:(aq×Opn)->Option (aq×Int):=λx=>nN x.1 x.2
def YW:Spec:=aL uB im vw lY agr
def ade:Cfg:={T:=my,spec:=[(122,K_),(127,DZ),(128,J2)],aW:=aD.G Tryz.prog,eqs:=bc,N:=48,fuel:=64,fid:=92}
theorem ahT:aE Tryz.prog ade:=aX mG bg ⟨N0,⟨GZ,⟨LA,trivial⟩⟩⟩
theorem aik:aK Tryz.prog 92 YW:=aZ Tryz.f92 ahT bD (toY:=lM)
def afF:(aq×Opn)->Option (aq×Int):=λx=>pw x.1 x.2
def aal:Spec:=aL uB im vw lY afF
def ajW:Cfg:={T:=my,spec:=[(122,K_),(127,DZ),(129,Xs)],aW:=aD.G Tryz.prog,eqs:=bc,N:=41,fuel:=64,fid:=93}
theorem aoW:aE Tryz.prog ajW:=aX mG bg ⟨N0,⟨GZ,⟨akq,trivial⟩⟩⟩
theorem ajg:aK Tryz.prog 93 aal:=aZ Tryz.f93 aoW bD (toY:=lM)
def agb:(aq×Opn)->Option (aq×Int):=λx=>lA x.1 x.2
def YD:Spec:=aL uB im vw lY agb
def XR:Cfg:={T:=my,spec:=[(97,Xn),(127,DZ)],aW:=aD.G Tryz.prog,eqs:=bc,N:=13,fuel:=64,fid:=96}
theorem ab0:aE Tryz.prog XR:=aX mG bg ⟨aep,⟨GZ,trivial⟩⟩
def acg {R:Type}:Inl R:= .mk 96 XR [] ajp Tryz.f96.results.toList []
def UK {R:Type}:List (Nat×Inl R):=[(32,acg)]
def Lf:Cfg:={T:=my,spec:=[(127,DZ)],aW:=aD.G Tryz.prog,eqs:=bc,N:=35,fuel:=64,fid:=95}
theorem ZH:aE Tryz.prog Lf:=aX mG bg ⟨GZ,trivial⟩
theorem ah7 {R:Type}:bt Tryz.prog (R:=R) 1 UK:=bQ Tryz.f96 ab0 (aR _ _)
theorem acR {R:Type}:aI (R:=R) (hnd 1 UK) Lf cw P_:=aA (l:= []) (by kernel_rfl) (trivial)
def ama {R:Type}:Inl R:= .mk 95 Lf cw P_ Tryz.f95.results.toList UK
def VP {R:Type}:List (Nat×Inl R):=[(10,ama)]
def WE:Cfg:={T:=my,aW:=aD.G Tryz.prog,eqs:=bc,N:=13,fuel:=64,fid:=94}
theorem ajE:aE Tryz.prog WE:=aX mG bg trivial
theorem agx {R:Type}:bt Tryz.prog (R:=R) 2 VP:=bJ Tryz.f95 ZH acR (bh (by kernel_rfl)) ah7 (aR _ _)
theorem ab6 {R:Type}:aI (R:=R) (hnd 2 VP) WE cw acZ:=aA (l:= []) (by kernel_rfl) (trivial)
theorem ac9:aK Tryz.prog 94 YD:=aY Tryz.f94 ajE bD (d:=2) agx ab6 (bh (by kernel_rfl)) (toY:=lM)
def HD:HS:=⟨[(0, .one (.sl .kept)),(1, .one (.clo 4)),(7, .one (.int .i64)),(8, .one (.int .i64)),(2000002, .one (.ptr 0 0)),(2000003, .one (.ptr 1 0)),(2000004, .one (.ptr 2 0)),(2000006, .one (.ptr 3 0))],[(0, .cells hW),(1, .cells [.int .i64, .str, .int .i64]),(2, .cells hW),(3, .cells hIn),(4, .clo 138 [] [.ptr 3 0])],5⟩
def QR {R:Type}:Nat->HS.V HD->(Ex->St->Option R)->Option R:=λq v K=>
 de v.1.1 v.1.2.2.1 (cIn v.2.2.2.2.1) (λy10=>K .ret {az:=[(4, .v (.one (.int .i64 y10))),(2000002, .v (.one (.ptr 0 0))),(2000003, .v (.one (.ptr 1 0))),(2000004, .v (.one (.ptr 2 0))),(2000006, .v (.one (.ptr 3 0)))],mem:=[(0, .cells [.int .i64 ((cW v.2.1).fs.ay), .int .i64 ((cW v.2.1).fs.aB), .int .i64 ((cW v.2.1).fs.next), .sl .aM ((cW v.2.1).fs.aa), .sl .kept ((cW v.2.1).al.kept), .sl .aM ((cW v.2.1).al.aO)]),(1, .cells [.int .i64 ((⟨v.2.2.1.1,v.2.2.1.2.1,v.2.2.1.2.2.1⟩:au).dir), .str ((⟨v.2.2.1.1,v.2.2.1.2.1,v.2.2.1.2.2.1⟩:au).name), .int .i64 ((⟨v.2.2.1.1,v.2.2.1.2.1,v.2.2.1.2.2.1⟩:au).ino)]),(2, .cells [.int .i64 ((cW v.2.2.2.1).fs.ay), .int .i64 ((cW v.2.2.2.1).fs.aB), .int .i64 ((cW v.2.2.2.1).fs.next), .sl .aM ((cW v.2.2.2.1).fs.aa), .sl .kept ((cW v.2.2.2.1).al.kept), .sl .aM ((cW v.2.2.2.1).al.aO)]),(3, .cells (rIn (cIn v.2.2.2.2.1)))],nx:=4}) (K (.exit 0) {az:=[(2000002, .v (.one (.ptr 0 0))),(2000003, .v (.one (.ptr 1 0))),(2000004, .v (.one (.ptr 2 0))),(2000006, .v (.one (.ptr 3 0)))],mem:=[(0, .cells [.int .i64 ((cW v.2.1).fs.ay), .int .i64 ((cW v.2.1).fs.aB), .int .i64 ((cW v.2.1).fs.next), .sl .aM ((cW v.2.1).fs.aa), .sl .kept ((cW v.2.1).al.kept), .sl .aM ((cW v.2.1).al.aO)]),(1, .cells [.int .i64 ((⟨v.2.2.1.1,v.2.2.1.2.1,v.2.2.1.2.2.1⟩:au).dir), .str ((⟨v.2.2.1.1,v.2.2.1.2.1,v.2.2.1.2.2.1⟩:au).name), .int .i64 ((⟨v.2.2.1.1,v.2.2.1.2.1,v.2.2.1.2.2.1⟩:au).ino)]),(2, .cells [.int .i64 ((cW v.2.2.2.1).fs.ay), .int .i64 ((cW v.2.2.2.1).fs.aB), .int .i64 ((cW v.2.2.2.1).fs.next), .sl .aM ((cW v.2.2.2.1).fs.aa), .sl .kept ((cW v.2.2.2.1).al.kept), .sl .aM ((cW v.2.2.2.1).al.aO)]),(3, .cells (rIn (cIn v.2.2.2.2.1)))],nx:=4}) q v.1.2.2.2.1
def Xe:List HV:=[.agg hW, .agg [.int .i64, .str, .int .i64]]
def an5:HP.V Xe->aq×au:=λv=>((cW v.1),(⟨v.2.1.1,v.2.1.2.1,v.2.1.2.2.1⟩:au))
def abZ:(aq×au)->Option (aq×Int):=λx=>n7 x.1 x.2
def aac:Spec:=aL Xe im an5 lY abZ
def Zh:Cfg:={T:=my,spec:=[(131,oz),(132,DW)],aW:=aD.G Tryz.prog,eqs:=bc,N:=9,fuel:=64,fid:=138}
theorem ajh:aE Tryz.prog Zh:=aX mG bg ⟨pj,⟨FW,trivial⟩⟩
def afz {R:Type}:Inl R:= .mk 138 Zh [] aoY Tryz.f138.results.toList []
def TZ {R:Type}:List (Nat×Hd R):=[(2,bw HD QR)]
def Re {R:Type}:List (Nat×Inl R):=[(16,afz)]
def Ry:Cfg:={T:=my,spec:=[(131,oz),(132,DW)],aW:=aD.G Tryz.prog,eqs:=bc,N:=19,fuel:=64,loops:=[(2,⟨[0,1,7,8,2000002,2000003,2000004,2000006], [],[0,1,2,3,4],5, [],[2], [], []⟩)],blocks:=[(0,⟨[2000002,2000003,2000004,2000006], [],[0,1,2,3],4, [], [], [], []⟩)],fq:=some ⟨[4,2000002,2000003,2000004,2000006], [],[0,1,2,3],4, [], [], [], []⟩,fid:=79}
theorem acD:aE Tryz.prog Ry:=aX mG bg ⟨pj,⟨FW,trivial⟩⟩
theorem abj {R:Type}:bt Tryz.prog (R:=R) 1 Re:=bQ Tryz.f138 ajh (aR _ _)
theorem anm {R:Type}:br (R:=R) (hnd 1 Re) Ry TZ (sub [1,0,1,0,0] tL) (HS.V HD) (HS.st HD) (HS.sh HD) QR (bw HD QR):=aN HD QR (λ_ _=>rfl) (by intro q v K;kernel_rfl)
theorem amM {R:Type}:aI (R:=R) (hnd 1 Re) Ry TZ tL:=aA (l:=[sub [1,0,1,0,0] tL]) (by kernel_rfl) (aG (b:=sub [1,0,1,0,0] tL) (rid:=2) (by kernel_rfl) (by kernel_rfl) anm (trivial))
def aed {R:Type}:Inl R:= .mk 79 Ry TZ tL Tryz.f79.results.toList Re
def Uz {R:Type}:List (Nat×Inl R):=[(7,aed)]
def RY:Cfg:={T:=my,spec:=[(131,oz),(132,DW)],aW:=aD.G Tryz.prog,eqs:=bc,N:=9,fuel:=64,fid:=50}
theorem afI:aE Tryz.prog RY:=aX mG bg ⟨pj,⟨FW,trivial⟩⟩
theorem abp {R:Type}:bt Tryz.prog (R:=R) 2 Uz:=bJ Tryz.f79 acD amM (bh (by kernel_rfl)) abj (aR _ _)
theorem aaT {R:Type}:aI (R:=R) (hnd 2 Uz) RY cw Rv:=aA (l:= []) (by kernel_rfl) (trivial)
def alf {R:Type}:Inl R:= .mk 50 RY cw Rv Tryz.f50.results.toList Uz
def aar {R:Type}:List (Nat×Inl R):=[(21,alf)]
def Zt:Cfg:={T:=my,spec:=[(131,oz),(132,DW)],aW:=aD.G Tryz.prog,eqs:=bc,N:=35,fuel:=64,fid:=100}
theorem aeu:aE Tryz.prog Zt:=aX mG bg ⟨pj,⟨FW,trivial⟩⟩
theorem aa0 {R:Type}:bt Tryz.prog (R:=R) 3 aar:=bJ Tryz.f50 afI aaT (bh (by kernel_rfl)) abp (aR _ _)
theorem ajX {R:Type}:aI (R:=R) (hnd 3 aar) Zt cw am9:=aA (l:= []) (by kernel_rfl) (trivial)
theorem aj5:aK Tryz.prog 100 aac:=aY Tryz.f100 aeu bD (d:=3) aa0 ajX (bh (by kernel_rfl)) (toY:=lM)
def akl:(aq×Opn)->Option (aq×Int):=λx=>lu x.1 x.2
def Zq:Spec:=aL uB im vw lY akl
def Xt:Cfg:={T:=my,spec:=[(100,aac),(127,DZ)],aW:=aD.G Tryz.prog,eqs:=bc,N:=10,fuel:=64,fid:=99}
theorem ael:aE Tryz.prog Xt:=aX mG bg ⟨aj5,⟨GZ,trivial⟩⟩
def aeL {R:Type}:Inl R:= .mk 99 Xt [] agS Tryz.f99.results.toList []
def UP {R:Type}:List (Nat×Inl R):=[(32,aeL)]
theorem ajF {R:Type}:bt Tryz.prog (R:=R) 1 UP:=bQ Tryz.f99 ael (aR _ _)
theorem aot {R:Type}:aI (R:=R) (hnd 1 UP) Lf cw P_:=aA (l:= []) (by kernel_rfl) (trivial)
def aj7 {R:Type}:Inl R:= .mk 95 Lf cw P_ Tryz.f95.results.toList UP
def Yn {R:Type}:List (Nat×Inl R):=[(10,aj7)]
def Vo:Cfg:={T:=my,aW:=aD.G Tryz.prog,eqs:=bc,N:=13,fuel:=64,fid:=98}
theorem acC:aE Tryz.prog Vo:=aX mG bg trivial
theorem aej {R:Type}:bt Tryz.prog (R:=R) 2 Yn:=bJ Tryz.f95 ZH aot (bh (by kernel_rfl)) ajF (aR _ _)
theorem akG {R:Type}:aI (R:=R) (hnd 2 Yn) Vo cw anK:=aA (l:= []) (by kernel_rfl) (trivial)
theorem ajx:aK Tryz.prog 98 Zq:=aY Tryz.f98 acC bD (d:=2) aej akG (bh (by kernel_rfl)) (toY:=lM)
def anr:(aq×Opn)->Option (aq×Int):=λx=>lF x.1 x.2
def Xk:Spec:=aL uB im vw lY anr
def aif:Cfg:={T:=my,spec:=[(122,K_),(139,YH)],aW:=aD.G Tryz.prog,eqs:=bc,N:=27,fuel:=64,fid:=101}
theorem acP:aE Tryz.prog aif:=aX mG bg ⟨N0,⟨ab_,trivial⟩⟩
theorem af8:aK Tryz.prog 101 Xk:=aZ Tryz.f101 acP bD (toY:=lM)
def aod:(aq×Opn)->Option (aq×Int):=λx=>lJ x.1 x.2
def WM:Spec:=aL uB im vw lY aod
def afC:Cfg:={T:=my,spec:=[(127,DZ),(130,A_),(140,Xp)],aW:=aD.G Tryz.prog,eqs:=bc,N:=54,fuel:=64,fid:=102}
theorem aiH:aE Tryz.prog afC:=aX mG bg ⟨GZ,⟨Dz,⟨aoC,trivial⟩⟩⟩
theorem ank:aK Tryz.prog 102 WM:=aZ Tryz.f102 aiH bD (toY:=lM)
def Wz:List (Int×Nat×Nat):=[((1:Int),87,0),((2:Int),89,1),((3:Int),90,2),((4:Int),91,3),((5:Int),92,4),((6:Int),93,5),((7:Int),94,6),((8:Int),98,7),((9:Int),101,8),((10:Int),102,9)]
def Ri:Cfg:={T:=my,aW:=aD.G Tryz.prog,eqs:=bc,N:=3,fuel:=64,fid:=54}
theorem acv:aE Tryz.prog Ri:=aX mG bg trivial
theorem aoM {R:Type}:aI (R:=R) (hnd 0 bL) Ri cw Uc:=aA (l:= []) (by kernel_rfl) (trivial)
theorem acS:fe Tryz.prog Ri Uc:=bh (by kernel_rfl)
def X2:kx:=mQ [] (λ_=>()) Li (λ_:Unit=>some (Wz,10))
theorem alW:∀v,zX (hnd 0 bL) Ri cw Uc Tryz.f54.results.toList (HP.st [] v) GG=(λ_:Unit=>some (Wz,10)) ():=by intro v;kernel_rfl
theorem aon:mL Tryz.prog 54 X2:=p8 (fn:=Tryz.f54) (by kernel_rfl) (by kernel_rfl) (by kernel_rfl) acv (by kernel_rfl) (by kernel_rfl) bD (by kernel_rfl) KJ (d:=0) dU aoM acS alW
def aj9:(aq×Opn)->Option (aq×Int):=λx=>yc x.1 x.2
def WK:Spec:=aL uB im vw lY aj9
def ajz:Cfg:={T:=my,spec:=[(53,Wm),(87,Yu),(89,VJ),(90,Z1),(91,Z0),(92,YW),(93,aal),(94,YD),(98,Zq),(101,Xk),(102,WM)],aW:=aD.G Tryz.prog,eqs:=bc,N:=19,fuel:=64,fid:=35,fresh:=[(54,X2)]}
theorem abu:aE Tryz.prog ajz:=aX mG bg ⟨adm,⟨ann,⟨afN,⟨agF,⟨aib,⟨aik,⟨ajg,⟨ac9,⟨ajx,⟨af8,⟨ank,trivial⟩⟩⟩⟩⟩⟩⟩⟩⟩⟩⟩ (fr:=⟨aon,trivial⟩)
theorem abE:aK Tryz.prog 35 WK:=aZ Tryz.f35 abu bD (toY:=lM)
def Pb:List HV:=[.agg [.int .i64, .int .i64, .str, .str, .str], .one (.bool)]
def Yf:HX.V Pb->Opn×Bool:=λv=>((⟨v.1.1,v.1.2.1,v.1.2.2.1,v.1.2.2.2.1,v.1.2.2.2.2.1⟩:Opn),v.2)
def aaz:(Opn×Bool)->HX.V Pb:=λy=>((y.1.kind,(y.1.slot,(y.1.a,(y.1.b,(y.1.data,()))))),y.2)
def ao3:Opn->Option (Opn×Bool):=λx=>mW x
def Mt:Spec:=aL Mf Pb Rz aaz ao3
def al9:Cfg:={T:=my,aW:=aD.G Tryz.prog,eqs:=bc,N:=40,fuel:=64,fid:=40}
theorem aiu:aE Tryz.prog al9:=aX mG bg trivial
theorem OF:aK Tryz.prog 40 Mt:=aZ Tryz.f40 aiu bD (toY:=Yf)
end
end Go.Eng
namespace Go.Eng
noncomputable section
open Go Go.Proofs
def Bx:List (Nat×TI):=[(3,⟨false,1, .one (.int .i64 0), .int .i64⟩),(25,⟨false,1, .one (.clip .kept []), .slice .kept 57⟩),(27,⟨true,2, .agg [.clip .kept [], .clip .aM []], .struct [(0,25),(1,22)]⟩),(29,⟨true,6, .agg [.int .i64 0, .int .i64 0, .int .i64 0, .clip .aM [], .clip .kept [], .clip .aM []], .struct [(0,24),(4,27)]⟩),(30,⟨false,1, .one (.clip .opn []), .slice .opn 46⟩),(46,⟨true,5, .agg [.int .i64 0, .int .i64 0, .str [], .str [], .str []], .struct [(0,3),(1,3),(2,9),(3,9),(4,9)]⟩),(57,⟨true,4, .agg [.int .i64 0, .int .i64 0, .bool false, .str []], .struct [(0,3),(1,3),(2,4),(3,9)]⟩)]
theorem C9:(Bx.all λx=>tiB Tryz.prog x.1 x.2)=true:=by kernel_rfl
def OX:Code:=bd Tryz.f13
def J7:Code:=bd Tryz.f17
def agn:Code:=bd Tryz.f39
def MM:Code:=bd Tryz.f67
def GM:HS:=⟨[(2, .one (.int .i64)),(3, .one (.ptr 0 0)),(6, .one (.ptr 1 0)),(9, .one (.int .i64)),(14, .one (.sl .opn)),(15, .one (.int .i64)),(16, .one (.int .i64))],[(0, .cells hW),(1, .cells hW)],2⟩
def NK {R:Type}:Nat->HS.V GM->(Ex->St->Option R)->Option R:=λq v K=>
 jR v.1.1 v.1.2.2.2.2.1 v.1.2.2.2.2.2.1 (λy10 y11=>K (.exit 0) {az:=[(3, .v (.one (.ptr 0 0))),(6, .v (.one (.ptr 1 0))),(9, .v (.one (.int .i64 y10)))],mem:=[(0, .cells [.int .i64 y11.fs.ay, .int .i64 y11.fs.aB, .int .i64 y11.fs.next, .sl .aM y11.fs.aa, .sl .kept y11.al.kept, .sl .aM y11.al.aO]),(1, .cells [.int .i64 ((cW v.2.2.1).fs.ay), .int .i64 ((cW v.2.2.1).fs.aB), .int .i64 ((cW v.2.2.1).fs.next), .sl .aM ((cW v.2.2.1).fs.aa), .sl .kept ((cW v.2.2.1).al.kept), .sl .aM ((cW v.2.2.1).al.aO)])],nx:=2}) (λy13 y14 y15=>K .ret {az:=[(6, .v (.one (.ptr 1 0))),(7, .v (.one (.int .i64 y13))),(8, .v (.one (.int .i64 y14)))],mem:=[(1, .cells [.int .i64 y15.fs.ay, .int .i64 y15.fs.aB, .int .i64 y15.fs.next, .sl .aM y15.fs.aa, .sl .kept y15.al.kept, .sl .aM y15.al.aO])],nx:=2}) q v.1.2.2.2.1 v.1.2.2.2.2.2.2.1 (cW v.2.1)
def FU:List HV:=[.agg hW, .one (.sl .opn), .one (.int .i64)]
def KO:HP.V FU->aq×(List Opn)×Int:=λv=>((cW v.1),v.2.1,v.2.2.1)
def Yl:HX.V Gx->aq×Int×Int:=λv=>((cW v.1),v.2.1,v.2.2)
def Wo:(aq×Int×Int)->HX.V Gx:=λy=>(uW y.1,y.2.1,y.2.2)
def ab5:(aq×(List Opn)×Int)->Option (aq×Int×Int):=λx=>gS x.1 x.2.1 x.2.2
def KD:Spec:=aL FU Gx KO Wo ab5
def WD {R:Type}:List (Nat×Hd R):=[(3,bw GM NK)]
def Su:Cfg:={T:=Bx,spec:=[(35,WK)],aW:=aD.G Tryz.prog,eqs:=bc,N:=40,fuel:=64,loops:=[(3,⟨[2,3,6,9,14,15,16], [],[0,1],2, [],[1], [], []⟩)],blocks:=[(0,⟨[3,6,9], [],[0,1],2, [], [], [], []⟩)],fq:=some ⟨[6,7,8], [],[1],2, [], [], [], []⟩,fid:=13}
theorem abX:aE Tryz.prog Su:=aX C9 bg ⟨abE,trivial⟩
theorem adu {R:Type}:br (R:=R) (hnd 0 bL) Su WD (sub [1,1,0,1,0,0] OX) (HS.V GM) (HS.st GM) (HS.sh GM) NK (bw GM NK):=aN GM NK (λ_ _=>rfl) (by intro q v K;kernel_rfl)
theorem ang {R:Type}:aI (R:=R) (hnd 0 bL) Su WD OX:=aA (l:=[sub [1,1,0,1,0,0] OX]) (by kernel_rfl) (aG (b:=sub [1,1,0,1,0,0] OX) (rid:=3) (by kernel_rfl) (by kernel_rfl) adu (trivial))
theorem L3:aK Tryz.prog 13 KD:=aY Tryz.f13 abX bD (d:=0) dU ang (bh (by kernel_rfl)) (toY:=Yl)
def Gu:HS:=⟨[(0, .one (.yld 3)),(1, .one (.ptr 1 0)),(3, .one (.int .i64)),(1000003, .one (.ptr 0 0))],[(0, .cells [.own 4]),(1, .cells [.sl .opn]),(3, .loop true 23 17 4 [(3, .one (.ptr 0 0))]),(4, .row .opn)],5⟩
def ON {R:Type}:Nat->HS.V Gu->(Ex->St->Option R)->Option R:=λq v K=>
 cP v.2.2.1.1 (λy6=>K (.exit 0) {az:=[(1000003, .v (.one (.ptr 0 0)))],mem:=[(0, .cells [.own 4]),(3, .loop true 23 17 4 [(3, .v (.one (.ptr 0 0)))]),(4, .row .opn y6)],nx:=5}) q v.1.2.2.1 v.2.2.2.2.1
def xW:List HV:=[.one (.sl .opn)]
def GA:HP.V xW->(List Opn):=λv=>(v.1)
def aam:HX.V xW->(List Opn):=λv=>(v)
def Wk:(List Opn)->HX.V xW:=λy=>(y)
def Tw:(List Opn)->Option ((List Opn)):=λx=>gW x
def Lt:Spec:=aL xW xW GA Wk Tw
def aaw:Cfg:={T:=Bx,spec:=[(40,Mt)],aW:=aD.G Tryz.prog,eqs:=bc,N:=4,fuel:=64,fid:=39}
theorem ahW:aE Tryz.prog aaw:=aX C9 bg ⟨OF,trivial⟩
def acJ {R:Type}:Inl R:= .mk 39 aaw [] agn Tryz.f39.results.toList []
def XB:Code:=(qa 4 J7).2.1
def V9:Code:=(qa 4 J7).2.2
def QA:Cfg:={T:=Bx,spec:=[(40,Mt)],aW:=aD.G Tryz.prog,eqs:=bc,N:=23,fuel:=64,fid:=17,rnd:=true}
theorem abK:aE Tryz.prog QA:=aX C9 bg ⟨OF,trivial⟩
theorem ajR {R:Type}:aI (R:=R) (hnd 0 bL) QA cw XB:=aA (l:= []) (by kernel_rfl) (trivial)
theorem aet {R:Type}:aI (R:=R) (hnd 0 bL) QA cw V9:=aA (l:= []) (by kernel_rfl) (trivial)
def amu {R:Type}:Inl R:= .rnd 17 4 QA cw [10,11] XB V9 bL
def TS {R:Type}:List (Nat×Hd R):=[(1,bw Gu ON)]
def NO {R:Type}:List (Nat×Inl R):=[(17,amu)]
def No:Cfg:={T:=Bx,spec:=[(40,Mt)],aW:=aD.G Tryz.prog,eqs:=bc,N:=19,fuel:=64,loops:=[(1,⟨[0,1,3,1000003], [],[0,1,3,4],5, [], [],[(0,0,4, .opn)], []⟩)],blocks:=[(0,⟨[1000003], [],[0,3,4],5, [], [], [], []⟩)],fid:=67}
theorem aft:aE Tryz.prog No:=aX C9 bg ⟨OF,trivial⟩
theorem ale {R:Type}:bt Tryz.prog (R:=R) 1 NO:=mO (by kernel_rfl) abK ajR aet dU (aR _ _)
theorem afk {R:Type}:br (R:=R) (hnd 1 NO) No TS (sub [1,0,0] MM) (HS.V Gu) (HS.st Gu) (HS.sh Gu) ON (bw Gu ON):=aN Gu ON (λ_ _=>rfl) (by intro q v K;kernel_rfl)
theorem aa3 {R:Type}:aI (R:=R) (hnd 1 NO) No TS MM:=aA (l:=[sub [1,0,0] MM]) (by kernel_rfl) (aG (b:=sub [1,0,0] MM) (rid:=1) (by kernel_rfl) (by kernel_rfl) afk (trivial))
def abY {R:Type}:Inl R:= .mk 67 No TS MM Tryz.f67.results.toList NO
def TN {R:Type}:List (Nat×Inl R):=[(9,acJ),(1000004,abY)]
def Pn:Cfg:={T:=Bx,spec:=[(40,Mt)],aW:=aD.G Tryz.prog,eqs:=bc,N:=23,fuel:=64,fid:=17,Iv:=[(4,[3])]}
theorem ZD:aE Tryz.prog Pn:=aX C9 bg ⟨OF,trivial⟩
theorem ZF {R:Type}:bt Tryz.prog (R:=R) 2 TN:=bQ Tryz.f39 ahW (bJ Tryz.f67 aft aa3 (bh (by kernel_rfl)) ale (aR _ _))
theorem XD {R:Type}:aI (R:=R) (hnd 2 TN) Pn cw J7:=aA (l:= []) (by kernel_rfl) (trivial)
theorem XA:fe Tryz.prog Pn J7:=MN (x:=qa 4 J7) (by kernel_rfl) (by kernel_rfl)
def YC:kx:=mQ xW GA (AB.row .opn) Tw
theorem aeh:∀v,zX (hnd 2 TN) Pn cw J7 Tryz.f17.results.toList (HP.st xW v) (AD .opn)=Tw (GA v):=by intro v;kernel_rfl
theorem amB:mL Tryz.prog 17 YC:=p8 (fn:=Tryz.f17) (by kernel_rfl) (by kernel_rfl) (by kernel_rfl) ZD (by kernel_rfl) (by kernel_rfl) bD (by kernel_rfl) wA (d:=2) ZF XD XA aeh
theorem Rq:aK Tryz.prog 17 Lt:=aY Tryz.f17 ZD bD (d:=2) ZF XD XA (toY:=aam)
def JQ:HP.V uZ->aq:=λv=>((cW v.1))
def adb:aq->Option (Int):=λx=>ld x
def U7:Spec:=aL uZ Br JQ JF adb
def agh:Cfg:={T:=Bx,aW:=aD.G Tryz.prog,eqs:=bc,N:=19,fuel:=64,fid:=19}
theorem amh:aE Tryz.prog agh:=aX C9 bg trivial
theorem XO:aK Tryz.prog 19 U7:=aZ Tryz.f19 amh bD (toY:=JL)
end
end Go.Eng
namespace Go.Eng
noncomputable section
open Go Go.Proofs
def Jz:List (Nat×TI):=[(9,⟨false,1, .one (.str []), .str⟩),(131,⟨false,1, .one (.clip .str []), .slice .str 9⟩)]
theorem Lo:(Jz.all λx=>tiB Tryz.prog x.1 x.2)=true:=by kernel_rfl
def Q7:Code:=bd Tryz.f70
def PU:Code:=bd Tryz.f111
def NR:Code:=bd Tryz.f114
def NF:Code:=bd Tryz.f115
def Ra:Code:=bd Tryz.f142
def uK:HS:=⟨[(0, .one (.str)),(3, .one (.int .i64))], [],0⟩
def Ov {R:Type}:Nat->HS.V uK->(Ex->St->Option R)->Option R:=λq v K=>
 iM v.1.1 (K .ret {az:=[(2, .v (.one (.bool false)))],mem:= [],nx:=0}) (K (.exit 0) {az:=[(0, .v (.one (.str v.1.1)))],mem:= [],nx:=0}) q v.1.2.1
def ai4:Str->Option (Bool):=λx=>kI x
def Mw:Spec:=aL vl eE C8 dN ai4
def Xg {R:Type}:List (Nat×Hd R):=[(2,bw uK Ov)]
def Se:Cfg:={T:=Jz,aW:=aD.G Tryz.prog,eqs:=bc,N:=36,fuel:=64,loops:=[(2,⟨[0,3], [], [],0, [], [], [], []⟩)],blocks:=[(0,⟨[0], [], [],0, [], [], [], []⟩)],fq:=some ⟨[2], [], [],0, [], [], [], []⟩,fid:=111}
theorem akW:aE Tryz.prog Se:=aX Lo bg trivial
theorem aij {R:Type}:br (R:=R) (hnd 0 bL) Se Xg (sub [1,0,1,0,0] PU) (HS.V uK) (HS.st uK) (HS.sh uK) Ov (bw uK Ov):=aN uK Ov (λ_ _=>rfl) (by intro q v K;kernel_rfl)
theorem af_ {R:Type}:aI (R:=R) (hnd 0 bL) Se Xg PU:=aA (l:=[sub [1,0,1,0,0] PU]) (by kernel_rfl) (aG (b:=sub [1,0,1,0,0] PU) (rid:=2) (by kernel_rfl) (by kernel_rfl) aij (trivial))
theorem PL:aK Tryz.prog 111 Mw:=aY Tryz.f111 akW bD (d:=0) dU af_ (bh (by kernel_rfl)) (toY:=eO)
def Hh:HS:=⟨[(0, .one (.str)),(3, .one (.own 0)),(4, .one (.str)),(5, .one (.int .i64))],[(0, .row .str)],1⟩
def Rb {R:Type}:Nat->HS.V Hh->(Ex->St->Option R)->Option R:=λq v K=>
 cS v.1.1 (λy6=>K (.exit 0) {az:=[(3, .v (.one (.own 0)))],mem:=[(0, .row .str y6)],nx:=1}) q v.1.2.2.1 v.1.2.2.2.1 v.2.1
def aec:HX.V J0->(List Str):=λv=>(v)
def afq:(List Str)->HX.V J0:=λy=>(y)
def ala:Str->Option ((List Str)):=λx=>gC x
def R4:Spec:=aL vl J0 C8 afq ala
def Yv {R:Type}:List (Nat×Hd R):=[(4,bw Hh Rb)]
def Ul:Cfg:={T:=Jz,aW:=aD.G Tryz.prog,eqs:=bc,N:=36,fuel:=64,loops:=[(4,⟨[0,3,4,5],[(3,0, .str)],[0],1, [], [], [], []⟩)],blocks:=[(0,⟨[3], [],[0],1, [], [], [], []⟩)],fid:=115}
theorem ai6:aE Tryz.prog Ul:=aX Lo bg trivial
theorem afl {R:Type}:br (R:=R) (hnd 0 bL) Ul Yv (sub [1,1,1,0,1,0,0] NF) (HS.V Hh) (HS.st Hh) (HS.sh Hh) Rb (bw Hh Rb):=aN Hh Rb (λ_ _=>rfl) (by intro q v K;kernel_rfl)
theorem anR {R:Type}:aI (R:=R) (hnd 0 bL) Ul Yv NF:=aA (l:=[sub [1,1,1,0,1,0,0] NF]) (by kernel_rfl) (aG (b:=sub [1,1,1,0,1,0,0] NF) (rid:=4) (by kernel_rfl) (by kernel_rfl) afl (trivial))
theorem Vk:aK Tryz.prog 115 R4:=aY Tryz.f115 ai6 bD (d:=0) dU anR (bh (by kernel_rfl)) (toY:=aec)
def GF:HS:=⟨[(0, .one (.sl .str)),(3, .one (.str)),(4, .one (.int .i64))], [],0⟩
def Oq {R:Type}:Nat->HS.V GF->(Ex->St->Option R)->Option R:=λq v K=>
 ic v.1.1 (λy5=>K (.exit 0) {az:=[(3, .v (.one (.str y5)))],mem:= [],nx:=0}) q v.1.2.1 v.1.2.2.1
def aef:(List Str)->Option (Str):=λx=>pL x
def Vl:Spec:=aL J0 vl W1 Xo aef
def Wa {R:Type}:List (Nat×Hd R):=[(5,bw GF Oq)]
def U8:Cfg:={T:=Jz,aW:=aD.G Tryz.prog,eqs:=bc,N:=22,fuel:=64,loops:=[(5,⟨[0,3,4], [], [],0, [], [], [], []⟩)],blocks:=[(0,⟨[3], [], [],0, [], [], [], []⟩)],fid:=142}
theorem agE:aE Tryz.prog U8:=aX Lo bg trivial
theorem aoO {R:Type}:br (R:=R) (hnd 0 bL) U8 Wa (sub [1,1,1,0,1,0,0] Ra) (HS.V GF) (HS.st GF) (HS.sh GF) Oq (bw GF Oq):=aN GF Oq (λ_ _=>rfl) (by intro q v K;kernel_rfl)
theorem afG {R:Type}:aI (R:=R) (hnd 0 bL) U8 Wa Ra:=aA (l:=[sub [1,1,1,0,1,0,0] Ra]) (by kernel_rfl) (aG (b:=sub [1,1,1,0,1,0,0] Ra) (rid:=5) (by kernel_rfl) (by kernel_rfl) aoO (trivial))
theorem amk:aK Tryz.prog 142 Vl:=aY Tryz.f142 agE bD (d:=0) dU afG (bh (by kernel_rfl)) (toY:=Zg)
def GW:HS:=⟨[(0, .one (.str)),(4, .one (.sl .str)),(5, .one (.int .i64))], [],0⟩
def QO {R:Type}:Nat->HS.V GW->(Ex->St->Option R)->Option R:=λq v K=>
 fa v.1.2.1 (K .ret {az:=[(2, .v (.one (.clip .str ([] :List Str)))),(3, .v (.one (.bool false)))],mem:= [],nx:=0}) (K (.exit 0) {az:=[(0, .v (.one (.str v.1.1))),(4, .v (.one (.sl .str v.1.2.1)))],mem:= [],nx:=0}) q v.1.2.2.1
def acU:Str->Option ((List Str)×Bool):=λx=>lS x
def SJ:Spec:=aL vl Nc C8 X9 acU
def WN {R:Type}:List (Nat×Hd R):=[(3,bw GW QO)]
def RT:Cfg:={T:=Jz,spec:=[(111,Mw),(115,R4),(142,Vl)],aW:=aD.G Tryz.prog,eqs:=bc,N:=25,fuel:=64,loops:=[(3,⟨[0,4,5], [], [],0, [], [], [], []⟩)],blocks:=[(0,⟨[0,4], [], [],0, [], [], [], []⟩)],fq:=some ⟨[2,3], [], [],0, [], [], [], []⟩,fid:=114}
theorem ajP:aE Tryz.prog RT:=aX Lo bg ⟨PL,⟨Vk,⟨amk,trivial⟩⟩⟩
theorem ajU {R:Type}:br (R:=R) (hnd 0 bL) RT WN (sub [1,1,0,1,0,0] NR) (HS.V GW) (HS.st GW) (HS.sh GW) QO (bw GW QO):=aN GW QO (λ_ _=>rfl) (by intro q v K;kernel_rfl)
theorem anx {R:Type}:aI (R:=R) (hnd 0 bL) RT WN NR:=aA (l:=[sub [1,1,0,1,0,0] NR]) (by kernel_rfl) (aG (b:=sub [1,1,0,1,0,0] NR) (rid:=3) (by kernel_rfl) (by kernel_rfl) ajU (trivial))
theorem Vh:aK Tryz.prog 114 SJ:=aY Tryz.f114 ajP bD (d:=0) dU anx (bh (by kernel_rfl)) (toY:=WI)
def FX:HS:=⟨[(5, .one (.sl .str)),(6, .one (.sl .str)),(7, .one (.int .i64))], [],0⟩
def PM {R:Type}:Nat->HS.V FX->(Ex->St->Option R)->Option R:=λq v K=>
 gu v.1.1 v.1.2.1 (K .ret {az:=[(4, .v (.one (.bool false)))],mem:= [],nx:=0}) (K (.exit 0) {az:= [],mem:= [],nx:=0}) q v.1.2.2.1
def agZ:(Str×Str)->Option (Bool):=λx=>iJ x.1 x.2
def Ze:Spec:=aL RV eE W8 dN agZ
def aaA {R:Type}:List (Nat×Hd R):=[(6,bw FX PM)]
def R1:Cfg:={T:=Jz,spec:=[(115,R4)],aW:=aD.G Tryz.prog,eqs:=bc,N:=32,fuel:=64,loops:=[(6,⟨[5,6,7], [], [],0, [], [], [], []⟩)],blocks:=[(0,⟨[], [], [],0, [], [], [], []⟩)],fq:=some ⟨[4], [], [],0, [], [], [], []⟩,fid:=70}
theorem aop:aE Tryz.prog R1:=aX Lo bg ⟨Vk,trivial⟩
theorem ah5 {R:Type}:br (R:=R) (hnd 0 bL) R1 aaA (sub [1,1,1,1,0,1,0,0] Q7) (HS.V FX) (HS.st FX) (HS.sh FX) PM (bw FX PM):=aN FX PM (λ_ _=>rfl) (by intro q v K;kernel_rfl)
theorem alE {R:Type}:aI (R:=R) (hnd 0 bL) R1 aaA Q7:=aA (l:=[sub [1,1,1,1,0,1,0,0] Q7]) (by kernel_rfl) (aG (b:=sub [1,1,1,1,0,1,0,0] Q7) (rid:=6) (by kernel_rfl) (by kernel_rfl) ah5 (trivial))
theorem ao1:aK Tryz.prog 70 Ze:=aY Tryz.f70 aop bD (d:=0) dU alE (bh (by kernel_rfl)) (toY:=eO)
end
end Go.Eng
namespace Go.Eng
noncomputable section
open Go Go.Proofs
def KA:List (Nat×TI):=[(3,⟨false,1, .one (.int .i64 0), .int .i64⟩),(9,⟨false,1, .one (.str []), .str⟩),(73,⟨false,1, .one (.clip .entry []), .slice .entry 103⟩),(103,⟨true,2, .agg [.str [], .int .i64 0], .struct [(0,9),(1,3)]⟩)]
def J_:List (Nat×List EK):=[(103,[.s, .i])]
theorem LB:(KA.all λx=>tiB Tryz.prog x.1 x.2)=true:=by kernel_rfl
theorem Mq:(J_.all λx=>eqB Tryz.prog x.1 x.2)=true:=by kernel_rfl
def Ns:Code:=bd Tryz.f107
def Pv:Code:=bd Tryz.f108
def P1:Code:=bd Tryz.f113
def RA:Code:=bd Tryz.f116
def Nk:Code:=bd Tryz.f141
def Hg:HS:=⟨[(0, .one (.sl .entry)),(1, .one (.sl .entry)),(5, .one (.int .i64))], [],0⟩
def Pp {R:Type}:Nat->HS.V Hg->(Ex->St->Option R)->Option R:=λq v K=>
 ie v.1.1 v.1.2.1 (K .ret {az:=[(4, .v (.one (.bool false)))],mem:= [],nx:=0}) (K (.exit 0) {az:= [],mem:= [],nx:=0}) q v.1.2.2.1
def Zy:List HV:=[.one (.sl .entry), .one (.sl .entry)]
def aou:HP.V Zy->(List Entry)×(List Entry):=λv=>(v.1,v.2.1)
def aj8:(List Entry)×(List Entry)->Option (Bool):=λx=>pJ x.1 x.2
def ZR:Spec:=aL Zy eE aou dN aj8
def Xm {R:Type}:List (Nat×Hd R):=[(4,bw Hg Pp)]
def Sf:Cfg:={T:=KA,aW:=aD.G Tryz.prog,eqs:=J_,N:=26,fuel:=64,loops:=[(4,⟨[0,1,5], [], [],0, [], [], [], []⟩)],blocks:=[(0,⟨[], [], [],0, [], [], [], []⟩)],fq:=some ⟨[4], [], [],0, [], [], [], []⟩,fid:=113}
theorem aom:aE Tryz.prog Sf:=aX LB Mq trivial
theorem ahw {R:Type}:br (R:=R) (hnd 0 bL) Sf Xm (sub [1,1,0,1,0,0] P1) (HS.V Hg) (HS.st Hg) (HS.sh Hg) Pp (bw Hg Pp):=aN Hg Pp (λ_ _=>rfl) (by intro q v K;kernel_rfl)
theorem ahU {R:Type}:aI (R:=R) (hnd 0 bL) Sf Xm P1:=aA (l:=[sub [1,1,0,1,0,0] P1]) (by kernel_rfl) (aG (b:=sub [1,1,0,1,0,0] P1) (rid:=4) (by kernel_rfl) (by kernel_rfl) ahw (trivial))
theorem ake:aK Tryz.prog 113 ZR:=aY Tryz.f113 aom bD (d:=0) dU ahU (bh (by kernel_rfl)) (toY:=eO)
def HG:HS:=⟨[(0, .one (.sl .entry)),(3, .one (.int .i64))], [],0⟩
def Pl {R:Type}:Nat->HS.V HG->(Ex->St->Option R)->Option R:=λq v K=>
 eY v.1.1 (K .ret {az:=[(2, .v (.one (.bool false)))],mem:= [],nx:=0}) (K (.exit 0) {az:= [],mem:= [],nx:=0}) q v.1.2.1
def akZ:HP.V EY->(List Entry):=λv=>(v.1)
def aoS:(List Entry)->Option (Bool):=λx=>oc x
def Zk:Spec:=aL EY eE akZ dN aoS
def XN {R:Type}:List (Nat×Hd R):=[(2,bw HG Pl)]
def S3:Cfg:={T:=KA,spec:=[(111,Mw)],aW:=aD.G Tryz.prog,eqs:=J_,N:=41,fuel:=64,loops:=[(2,⟨[0,3], [], [],0, [], [], [], []⟩)],blocks:=[(0,⟨[], [], [],0, [], [], [], []⟩)],fq:=some ⟨[2], [], [],0, [], [], [], []⟩,fid:=116}
theorem af7:aE Tryz.prog S3:=aX LB Mq ⟨PL,trivial⟩
theorem afp {R:Type}:br (R:=R) (hnd 0 bL) S3 XN (sub [1,0,1,0,0] RA) (HS.V HG) (HS.st HG) (HS.sh HG) Pl (bw HG Pl):=aN HG Pl (λ_ _=>rfl) (by intro q v K;kernel_rfl)
theorem alT {R:Type}:aI (R:=R) (hnd 0 bL) S3 XN RA:=aA (l:=[sub [1,0,1,0,0] RA]) (by kernel_rfl) (aG (b:=sub [1,0,1,0,0] RA) (rid:=2) (by kernel_rfl) (by kernel_rfl) afp (trivial))
theorem akv:aK Tryz.prog 116 Zk:=aY Tryz.f116 af7 bD (d:=0) dU alT (bh (by kernel_rfl)) (toY:=eO)
def Hf:HS:=⟨[(0, .one (.sl .entry)),(1, .one (.str)),(6, .one (.int .i64))], [],0⟩
def PT {R:Type}:Nat->HS.V Hf->(Ex->St->Option R)->Option R:=λq v K=>
 ib v.1.1 v.1.2.1 (λy6=>K .ret {az:=[(4, .v (.one (.int .i64 y6))),(5, .v (.one (.bool true)))],mem:= [],nx:=0}) (K (.exit 0) {az:= [],mem:= [],nx:=0}) q v.1.2.2.1
def aa5:(List Entry)×Str->Option (Int×Bool):=λx=>kL x.1 x.2
def WY:Spec:=aL Kl D_ LW Kt aa5
def ZV {R:Type}:List (Nat×Hd R):=[(2,bw Hf PT)]
def U2:Cfg:={T:=KA,aW:=aD.G Tryz.prog,eqs:=J_,N:=25,fuel:=64,loops:=[(2,⟨[0,1,6], [], [],0, [], [], [], []⟩)],blocks:=[(0,⟨[], [], [],0, [], [], [], []⟩)],fq:=some ⟨[4,5], [], [],0, [], [], [], []⟩,fid:=141}
theorem acN:aE Tryz.prog U2:=aX LB Mq trivial
theorem adX {R:Type}:br (R:=R) (hnd 0 bL) U2 ZV (sub [1,0,1,0,0] Nk) (HS.V Hf) (HS.st Hf) (HS.sh Hf) PT (bw Hf PT):=aN Hf PT (λ_ _=>rfl) (by intro q v K;kernel_rfl)
theorem ans {R:Type}:aI (R:=R) (hnd 0 bL) U2 ZV Nk:=aA (l:=[sub [1,0,1,0,0] Nk]) (by kernel_rfl) (aG (b:=sub [1,0,1,0,0] Nk) (rid:=2) (by kernel_rfl) (by kernel_rfl) adX (trivial))
theorem aeN:aK Tryz.prog 141 WY:=aY Tryz.f141 acN bD (d:=0) dU ans (bh (by kernel_rfl)) (toY:=J3)
def FR:HS:=⟨[(0, .one (.sl .entry)),(1, .one (.str)),(5, .one (.own 0)),(6, .one (.int .i64))],[(0, .row .entry)],1⟩
def PZ {R:Type}:Nat->HS.V FR->(Ex->St->Option R)->Option R:=λq v K=>
 dX v.1.1 v.1.2.1 (λy7=>K (.exit 0) {az:=[(5, .v (.one (.own 0)))],mem:=[(0, .row .entry y7)],nx:=1}) q v.1.2.2.2.1 v.2.1
def ah3:(List Entry)×Str->Option ((List Entry)):=λx=>eQ x.1 x.2
def QB:Spec:=aL Kl EY LW Nw ah3
def V8 {R:Type}:List (Nat×Hd R):=[(3,bw FR PZ)]
def Tz:Cfg:={T:=KA,aW:=aD.G Tryz.prog,eqs:=J_,N:=28,fuel:=64,loops:=[(3,⟨[0,1,5,6],[(5,0, .entry)],[0],1, [], [], [], []⟩)],blocks:=[(0,⟨[5], [],[0],1, [], [], [], []⟩)],fid:=108}
theorem ajN:aE Tryz.prog Tz:=aX LB Mq trivial
theorem anl {R:Type}:br (R:=R) (hnd 0 bL) Tz V8 (sub [1,1,0,1,0,0] Pv) (HS.V FR) (HS.st FR) (HS.sh FR) PZ (bw FR PZ):=aN FR PZ (λ_ _=>rfl) (by intro q v K;kernel_rfl)
theorem afV {R:Type}:aI (R:=R) (hnd 0 bL) Tz V8 Pv:=aA (l:=[sub [1,1,0,1,0,0] Pv]) (by kernel_rfl) (aG (b:=sub [1,1,0,1,0,0] Pv) (rid:=3) (by kernel_rfl) (by kernel_rfl) anl (trivial))
theorem UG:aK Tryz.prog 108 QB:=aY Tryz.f108 ajN bD (d:=0) dU afV (bh (by kernel_rfl)) (toY:=Ng)
def Hz:HS:=⟨[(1, .one (.str)),(2, .one (.int .i64)),(7, .one (.sl .entry)),(8, .one (.own 0)),(9, .one (.bool)),(10, .one (.int .i64))],[(0, .row .entry)],1⟩
def QF {R:Type}:Nat->HS.V Hz->(Ex->St->Option R)->Option R:=λq v K=>
 eT v.1.1 v.1.2.1 v.1.2.2.1 (λy14 y15=>K (.exit 0) {az:=[(1, .v (.one (.str v.1.1))),(2, .v (.one (.int .i64 v.1.2.1))),(8, .v (.one (.own 0))),(9, .v (.one (.bool y14)))],mem:=[(0, .row .entry y15)],nx:=1}) q v.1.2.2.2.2.1 v.1.2.2.2.2.2.1 v.2.1
def adk:(List Entry)×Str×Int->Option ((List Entry)):=λx=>gN x.1 x.2.1 x.2.2
def Rr:Spec:=aL RM EY Y1 Nw adk
def YX {R:Type}:List (Nat×Hd R):=[(5,bw Hz QF)]
def Ux:Cfg:={T:=KA,spec:=[(108,QB)],aW:=aD.G Tryz.prog,eqs:=J_,N:=53,fuel:=64,loops:=[(5,⟨[1,2,7,8,9,10],[(8,0, .entry)],[0],1, [], [], [], []⟩)],blocks:=[(0,⟨[1,2,8,9], [],[0],1, [], [], [], []⟩)],fid:=107}
theorem aeB:aE Tryz.prog Ux:=aX LB Mq ⟨UG,trivial⟩
theorem aco {R:Type}:br (R:=R) (hnd 0 bL) Ux YX (sub [1,1,1,1,0,1,0,0] Ns) (HS.V Hz) (HS.st Hz) (HS.sh Hz) QF (bw Hz QF):=aN Hz QF (λ_ _=>rfl) (by intro q v K;kernel_rfl)
theorem aeD {R:Type}:aI (R:=R) (hnd 0 bL) Ux YX Ns:=aA (l:=[sub [1,1,1,1,0,1,0,0] Ns]) (by kernel_rfl) (aG (b:=sub [1,1,1,1,0,1,0,0] Ns) (rid:=5) (by kernel_rfl) (by kernel_rfl) aco (trivial))
theorem TH:aK Tryz.prog 107 Rr:=aY Tryz.f107 aeB bD (d:=0) dU aeD (bh (by kernel_rfl)) (toY:=Ng)
end
end Go.Eng
namespace Go.Eng
noncomputable section
open Go Go.Proofs
def Bv:List (Nat×TI):=[(3,⟨false,1, .one (.int .i64 0), .int .i64⟩),(9,⟨false,1, .one (.str []), .str⟩),(22,⟨false,1, .one (.clip .aM []), .slice .aM 75⟩),(24,⟨true,4, .agg [.int .i64 0, .int .i64 0, .int .i64 0, .clip .aM []], .struct [(0,3),(1,3),(2,3),(3,22)]⟩),(73,⟨false,1, .one (.clip .entry []), .slice .entry 103⟩),(75,⟨true,6, .agg [.int .i64 0, .int .i64 0, .int .i64 0, .str [], .int .i64 0, .clip .entry []], .struct [(0,3),(1,3),(2,3),(3,9),(4,3),(5,73)]⟩),(103,⟨true,2, .agg [.str [], .int .i64 0], .struct [(0,9),(1,3)]⟩)]
theorem Dr:(Bv.all λx=>tiB Tryz.prog x.1 x.2)=true:=by kernel_rfl
def N8:Code:=bd Tryz.f38
def FZ:Code:=bd Tryz.f45
def NH:Code:=bd Tryz.f71
def NL:Code:=bd Tryz.f81
def Ow:Code:=bd Tryz.f83
def O1:Code:=bd Tryz.f110
def XS:List HV:=[.agg hIn, .agg hIn]
def ahM:HP.V XS->ao×ao:=λv=>((cIn v.1),(cIn v.2.1))
def afH:(ao×ao)->Option (Bool):=λx=>rR x.1 x.2
def Zx:Spec:=aL XS eE ahM dN afH
def adG:Cfg:={T:=Bv,spec:=[(113,ZR)],aW:=aD.G Tryz.prog,eqs:=bc,N:=45,fuel:=64,fid:=66}
theorem aie:aE Tryz.prog adG:=aX Dr bg ⟨ake,trivial⟩
theorem agD:aK Tryz.prog 66 Zx:=aZ Tryz.f66 aie bD (toY:=eO)
def Gz:HS:=⟨[(0, .one (.sl .aM)),(1, .one (.sl .aM)),(5, .one (.int .i64))], [],0⟩
def Qm {R:Type}:Nat->HS.V Gz->(Ex->St->Option R)->Option R:=λq v K=>
 gX v.1.1 v.1.2.1 (K .ret {az:=[(4, .v (.one (.bool false)))],mem:= [],nx:=0}) (K (.exit 0) {az:= [],mem:= [],nx:=0}) q v.1.2.2.1
def YK:List HV:=[.one (.sl .aM), .one (.sl .aM)]
def acM:HP.V YK->(List ao)×(List ao):=λv=>(v.1,v.2.1)
def amq:(List ao)×(List ao)->Option (Bool):=λx=>nt x.1 x.2
def Uk:Spec:=aL YK eE acM dN amq
def YZ {R:Type}:List (Nat×Hd R):=[(4,bw Gz Qm)]
def SR:Cfg:={T:=Bv,spec:=[(66,Zx)],aW:=aD.G Tryz.prog,eqs:=bc,N:=27,fuel:=64,loops:=[(4,⟨[0,1,5], [], [],0, [], [], [], []⟩)],blocks:=[(0,⟨[], [], [],0, [], [], [], []⟩)],fq:=some ⟨[4], [], [],0, [], [], [], []⟩,fid:=38}
theorem anA:aE Tryz.prog SR:=aX Dr bg ⟨agD,trivial⟩
theorem akF {R:Type}:br (R:=R) (hnd 0 bL) SR YZ (sub [1,1,0,1,0,0] N8) (HS.V Gz) (HS.st Gz) (HS.sh Gz) Qm (bw Gz Qm):=aN Gz Qm (λ_ _=>rfl) (by intro q v K;kernel_rfl)
theorem alR {R:Type}:aI (R:=R) (hnd 0 bL) SR YZ N8:=aA (l:=[sub [1,1,0,1,0,0] N8]) (by kernel_rfl) (aG (b:=sub [1,1,0,1,0,0] N8) (rid:=4) (by kernel_rfl) (by kernel_rfl) akF (trivial))
theorem VG:aK Tryz.prog 38 Uk:=aY Tryz.f38 anA bD (d:=0) dU alR (bh (by kernel_rfl)) (toY:=eO)
def YU:List HV:=[.agg hFs, .agg hFs]
def als:HP.V YU->Fs×Fs:=λv=>((cFs v.1),(cFs v.2.1))
def aoj:(Fs×Fs)->Option (Bool):=λx=>kR x.1 x.2
def Vi:Spec:=aL YU eE als dN aoj
def aiQ:Cfg:={T:=Bv,spec:=[(38,Uk)],aW:=aD.G Tryz.prog,eqs:=bc,N:=31,fuel:=64,fid:=37}
theorem aky:aE Tryz.prog aiQ:=aX Dr bg ⟨VG,trivial⟩
theorem aeF:aK Tryz.prog 37 Vi:=aZ Tryz.f37 aky bD (toY:=eO)
def Mj:List HV:=[.one (.int .i64), .one (.int .i64)]
def adJ:HP.V Mj->Int×Int:=λv=>(v.1,v.2.1)
def agQ:(Int×Int)->Option (Fs):=λx=>oU x.1 x.2
def Ue:Spec:=aL Mj kq adJ xP agQ
def acm:Cfg:={T:=Bv,aW:=aD.G Tryz.prog,eqs:=bc,N:=10,fuel:=64,fid:=32}
theorem aei:aE Tryz.prog acm:=aX Dr bg trivial
theorem XI:aK Tryz.prog 32 Ue:=aZ Tryz.f32 aei bD (toY:=xT)
def vo:HS:=⟨[(1, .one (.ptr 0 0)),(3, .one (.int .i64)),(4, .one (.ptr 1 0)),(5, .one (.int .i64))],[(0, .cells hFs),(1, .cells hIn)],2⟩
def NS {R:Type}:Nat->HS.V vo->(Ex->St->Option R)->Option R:=λq v K=>
 gJ (cIn v.2.2.1) (K .ret {az:=[(2, .v (.one (.bool false)))],mem:= [],nx:=0}) (K (.exit 2) {az:=[(1, .v (.one (.ptr 0 0))),(3, .v (.one (.int .i64 v.1.2.1)))],mem:=[(0, .cells (rFs (cFs v.2.1)))],nx:=1}) q v.1.2.2.2.1
def fY:HS:=⟨[(1, .one (.ptr 0 0)),(3, .one (.int .i64))],[(0, .cells hFs)],1⟩
def Pz {R:Type}:Nat->HS.V fY->(Ex->St->Option R)->Option R:=λq v K=>
 iX (cFs v.2.1) (K .ret {az:=[(2, .v (.one (.bool false)))],mem:= [],nx:=0}) (K (.exit 0) {az:=[(1, .v (.one (.ptr 0 0)))],mem:=[(0, .cells (rFs (cFs v.2.1)))],nx:=1}) q v.1.2.1
def agK:Fs->Option (Bool):=λx=>jM x
def S9:Spec:=aL kq eE wN dN agK
def U3 {R:Type}:List (Nat×Hd R):=[(2,bw fY Pz),(8,bw vo NS)]
def PC:Cfg:={T:=Bv,aW:=aD.G Tryz.prog,eqs:=bc,N:=51,fuel:=64,loops:=[(8,⟨[1,3,4,5], [],[0,1],2, [], [], [], []⟩),(2,⟨[1,3], [],[0],1, [], [], [], []⟩)],blocks:=[(0,⟨[1], [],[0],1, [], [], [], []⟩),(1,⟨[1,3], [],[0],1, [], [], [], []⟩),(2,⟨[1,3], [],[0],1, [], [], [], []⟩)],fq:=some ⟨[2], [], [],0, [], [], [], []⟩,fid:=45}
theorem aiE:aE Tryz.prog PC:=aX Dr bg trivial
theorem agy {R:Type}:br (R:=R) (hnd 0 bL) PC U3 (sub [1,0,1,0,0] FZ) (HS.V fY) (HS.st fY) (HS.sh fY) Pz (bw fY Pz):=aN fY Pz (λ_ _=>rfl) (by intro q v K;kernel_rfl)
theorem agY {R:Type}:br (R:=R) (hnd 0 bL) PC U3 (sub [1,0,1,0,0,1,0,0,1,1,1,0,0] FZ) (HS.V vo) (HS.st vo) (HS.sh vo) NS (bw vo NS):=aN vo NS (λ_ _=>rfl) (by intro q v K;kernel_rfl)
theorem ao5 {R:Type}:aI (R:=R) (hnd 0 bL) PC U3 FZ:=aA (l:=[sub [1,0,1,0,0] FZ,sub [1,0,1,0,0,1,0,0,1,1,1,0,0] FZ]) (by kernel_rfl) (aG (b:=sub [1,0,1,0,0] FZ) (rid:=2) (by kernel_rfl) (by kernel_rfl) agy (aG (b:=sub [1,0,1,0,0,1,0,0,1,1,1,0,0] FZ) (rid:=8) (by kernel_rfl) (by kernel_rfl) agY (trivial)))
theorem Wi:aK Tryz.prog 45 S9:=aY Tryz.f45 aiE bD (d:=0) dU ao5 (bh (by kernel_rfl)) (toY:=eO)
def NC {R:Type}:Nat->HS.V fY->(Ex->St->Option R)->Option R:=λq v K=>
 jh (cFs v.2.1) (K .ret {az:=[(2, .v (.one (.bool false)))],mem:= [],nx:=0}) (K (.exit 0) {az:= [],mem:= [],nx:=0}) q v.1.2.1
def aiM:Fs->Option (Bool):=λx=>nE x
def UO:Spec:=aL kq eE wN dN aiM
def ZY {R:Type}:List (Nat×Hd R):=[(2,bw fY NC)]
def UB:Cfg:={T:=Bv,aW:=aD.G Tryz.prog,eqs:=bc,N:=25,fuel:=64,loops:=[(2,⟨[1,3], [],[0],1, [], [], [], []⟩)],blocks:=[(0,⟨[], [], [],0, [], [], [], []⟩)],fq:=some ⟨[2], [], [],0, [], [], [], []⟩,fid:=81}
theorem ac2:aE Tryz.prog UB:=aX Dr bg trivial
theorem acd {R:Type}:br (R:=R) (hnd 0 bL) UB ZY (sub [1,0,1,0,0] NL) (HS.V fY) (HS.st fY) (HS.sh fY) NC (bw fY NC):=aN fY NC (λ_ _=>rfl) (by intro q v K;kernel_rfl)
theorem anW {R:Type}:aI (R:=R) (hnd 0 bL) UB ZY NL:=aA (l:=[sub [1,0,1,0,0] NL]) (by kernel_rfl) (aG (b:=sub [1,0,1,0,0] NL) (rid:=2) (by kernel_rfl) (by kernel_rfl) acd (trivial))
theorem Vn:aK Tryz.prog 81 UO:=aY Tryz.f81 ac2 bD (d:=0) dU anW (bh (by kernel_rfl)) (toY:=eO)
def G3:HS:=⟨[(1, .one (.int .i64)),(2, .one (.ptr 0 0)),(4, .one (.ptr 1 0)),(6, .one (.int .i64))],[(0, .cells hFs),(1, .cells hIn)],2⟩
def PE {R:Type}:Nat->HS.V G3->(Ex->St->Option R)->Option R:=λq v K=>
 iO v.1.1 (cFs v.2.1) (λy8=>K .ret {az:=[(4, .v (.one (.ptr 1 0))),(5, .v (.one (.bool true)))],mem:=[(1, .cells [.int .i64 y8.ino, .int .i64 y8.kind, .int .i64 y8.aH, .str y8.data, .int .i64 y8.parent, .sl .entry y8.entries])],nx:=2}) (K (.exit 0) {az:=[(4, .v (.one (.ptr 1 0)))],mem:=[(1, .cells (rIn (cIn v.2.2.1)))],nx:=2}) q v.1.2.2.2.1
def aa9:(Fs×Int)->Option (ao×Bool):=λx=>bI x.1 x.2
def rO:Spec:=aL vk MB KH TU aa9
def aaG {R:Type}:List (Nat×Hd R):=[(2,bw G3 PE)]
def Ug:Cfg:={T:=Bv,aW:=aD.G Tryz.prog,eqs:=bc,N:=28,fuel:=64,loops:=[(2,⟨[1,2,4,6], [],[0,1],2, [],[1], [], []⟩)],blocks:=[(0,⟨[4], [],[1],2, [], [], [], []⟩)],fq:=some ⟨[4,5], [],[1],2, [],[1], [], []⟩,fid:=83}
theorem al6:aE Tryz.prog Ug:=aX Dr bg trivial
theorem aaU {R:Type}:br (R:=R) (hnd 0 bL) Ug aaG (sub [1,0,1,0,0] Ow) (HS.V G3) (HS.st G3) (HS.sh G3) PE (bw G3 PE):=aN G3 PE (λ_ _=>rfl) (by intro q v K;kernel_rfl)
theorem anf {R:Type}:aI (R:=R) (hnd 0 bL) Ug aaG Ow:=aA (l:=[sub [1,0,1,0,0] Ow]) (by kernel_rfl) (aG (b:=sub [1,0,1,0,0] Ow) (rid:=2) (by kernel_rfl) (by kernel_rfl) aaU (trivial))
theorem sF:aK Tryz.prog 83 rO:=aY Tryz.f83 al6 bD (d:=0) dU anf (bh (by kernel_rfl)) (toY:=T6)
def GY:HS:=⟨[(1, .one (.int .i64)),(2, .one (.ptr 0 0)),(4, .one (.ptr 1 0)),(5, .one (.own 2)),(6, .one (.int .i64))],[(0, .cells hFs),(1, .cells hFs),(2, .row .aM)],3⟩
def QG {R:Type}:Nat->HS.V GY->(Ex->St->Option R)->Option R:=λq v K=>
 fS v.1.1 (cFs v.2.1) (λy10=>K (.exit 0) {az:=[(2, .v (.one (.ptr 0 0))),(4, .v (.one (.ptr 1 0))),(5, .v (.one (.own 2)))],mem:=[(0, .cells (rFs (cFs v.2.1))),(1, .cells (rFs (cFs v.2.2.1))),(2, .row .aM y10)],nx:=3}) q v.1.2.2.2.2.1 v.2.2.2.1
def ahZ:(Fs×Int)->Option (Fs):=λx=>iG x.1 x.2
def Og:Spec:=aL vk kq KH xP ahZ
def VU {R:Type}:List (Nat×Hd R):=[(3,bw GY QG)]
def Sx:Cfg:={T:=Bv,aW:=aD.G Tryz.prog,eqs:=bc,N:=33,fuel:=64,loops:=[(3,⟨[1,2,4,5,6],[(5,2, .aM)],[0,1,2],3, [],[1], [], []⟩)],blocks:=[(0,⟨[2,4,5], [],[0,1,2],3, [], [], [], []⟩)],fid:=110}
theorem aeA:aE Tryz.prog Sx:=aX Dr bg trivial
theorem afy {R:Type}:br (R:=R) (hnd 0 bL) Sx VU (sub [1,1,0,1,0,0] O1) (HS.V GY) (HS.st GY) (HS.sh GY) QG (bw GY QG):=aN GY QG (λ_ _=>rfl) (by intro q v K;kernel_rfl)
theorem an8 {R:Type}:aI (R:=R) (hnd 0 bL) Sx VU O1:=aA (l:=[sub [1,1,0,1,0,0] O1]) (by kernel_rfl) (aG (b:=sub [1,1,0,1,0,0] O1) (rid:=3) (by kernel_rfl) (by kernel_rfl) afy (trivial))
theorem Sw:aK Tryz.prog 110 Og:=aY Tryz.f110 aeA bD (d:=0) dU an8 (bh (by kernel_rfl)) (toY:=xT)
def F_:HS:=⟨[(2, .one (.ptr 0 0)),(3, .one (.ptr 1 0)),(4, .one (.ptr 2 0)),(5, .one (.sl .aM)),(6, .one (.own 3)),(7, .one (.bool)),(8, .one (.int .i64))],[(0, .cells hFs),(1, .cells hIn),(2, .cells hFs),(3, .row .aM)],4⟩
def OA {R:Type}:Nat->HS.V F_->(Ex->St->Option R)->Option R:=λq v K=>
 fH v.1.2.2.2.1 (cIn v.2.2.1) (λy13 y17=>K (.exit 0) {az:=[(2, .v (.one (.ptr 0 0))),(3, .v (.one (.ptr 1 0))),(4, .v (.one (.ptr 2 0))),(6, .v (.one (.own 3))),(7, .v (.one (.bool y13)))],mem:=[(0, .cells (rFs (cFs v.2.1))),(1, .cells (rIn (cIn v.2.2.1))),(2, .cells (rFs (cFs v.2.2.2.1))),(3, .row .aM y17)],nx:=4}) q v.1.2.2.2.2.2.1 v.1.2.2.2.2.2.2.1 v.2.2.2.2.1
def adT:(Fs×ao)->Option (Fs):=λx=>bU x.1 x.2
def Bs:Spec:=aL Tb kq XM xP adT
def Xl {R:Type}:List (Nat×Hd R):=[(5,bw F_ OA)]
def Sa:Cfg:={T:=Bv,spec:=[(110,Og)],aW:=aD.G Tryz.prog,eqs:=bc,N:=52,fuel:=64,loops:=[(5,⟨[2,3,4,5,6,7,8],[(6,3, .aM)],[0,1,2,3],4, [],[2], [], []⟩)],blocks:=[(0,⟨[2,3,4,6,7], [],[0,1,2,3],4, [], [], [], []⟩)],fid:=71}
theorem adz:aE Tryz.prog Sa:=aX Dr bg ⟨Sw,trivial⟩
theorem amJ {R:Type}:br (R:=R) (hnd 0 bL) Sa Xl (sub [1,1,1,1,0,1,0,0] NH) (HS.V F_) (HS.st F_) (HS.sh F_) OA (bw F_ OA):=aN F_ OA (λ_ _=>rfl) (by intro q v K;kernel_rfl)
theorem ahS {R:Type}:aI (R:=R) (hnd 0 bL) Sa Xl NH:=aA (l:=[sub [1,1,1,1,0,1,0,0] NH]) (by kernel_rfl) (aG (b:=sub [1,1,1,1,0,1,0,0] NH) (rid:=5) (by kernel_rfl) (by kernel_rfl) amJ (trivial))
theorem DG:aK Tryz.prog 71 Bs:=aY Tryz.f71 adz bD (d:=0) dU ahS (bh (by kernel_rfl)) (toY:=xT)
end
end Go.Eng
namespace Go.Eng
noncomputable section
open Go Go.Proofs
def DL:List (Nat×TI):=[(3,⟨false,1, .one (.int .i64 0), .int .i64⟩),(9,⟨false,1, .one (.str []), .str⟩),(30,⟨false,1, .one (.clip .opn []), .slice .opn 46⟩),(46,⟨true,5, .agg [.int .i64 0, .int .i64 0, .str [], .str [], .str []], .struct [(0,3),(1,3),(2,9),(3,9),(4,9)]⟩),(131,⟨false,1, .one (.clip .str []), .slice .str 9⟩)]
def tG:List (Nat×List EK):=[(46,[.i, .i, .s, .s, .s])]
theorem Eo:(DL.all λx=>tiB Tryz.prog x.1 x.2)=true:=by kernel_rfl
theorem um:(tG.all λx=>eqB Tryz.prog x.1 x.2)=true:=by kernel_rfl
def P5:Code:=bd Tryz.f16
def OO:Code:=bd Tryz.f21
def PH:Code:=bd Tryz.f22
def OW:Code:=bd Tryz.f34
def OZ:Code:=bd Tryz.f69
def Ij:HS:=⟨[(0, .one (.sl .opn)),(3, .one (.int .i64))], [],0⟩
def Pf {R:Type}:Nat->HS.V Ij->(Ex->St->Option R)->Option R:=λq v K=>
 iY v.1.1 (K .ret {az:=[(2, .v (.one (.bool false)))],mem:= [],nx:=0}) (K (.exit 0) {az:=[(0, .v (.one (.sl .opn v.1.1)))],mem:= [],nx:=0}) q v.1.2.1
def aoQ:(List Opn)->Option (Bool):=λx=>o5 x
def SZ:Spec:=aL xW eE GA dN aoQ
def Zv {R:Type}:List (Nat×Hd R):=[(2,bw Ij Pf)]
def Tv:Cfg:={T:=DL,aW:=aD.G Tryz.prog,eqs:=tG,N:=42,fuel:=64,loops:=[(2,⟨[0,3], [], [],0, [], [], [], []⟩)],blocks:=[(0,⟨[0], [], [],0, [], [], [], []⟩)],fq:=some ⟨[2], [], [],0, [], [], [], []⟩,fid:=34}
theorem ako:aE Tryz.prog Tv:=aX Eo um trivial
theorem abo {R:Type}:br (R:=R) (hnd 0 bL) Tv Zv (sub [1,0,1,0,0] OW) (HS.V Ij) (HS.st Ij) (HS.sh Ij) Pf (bw Ij Pf):=aN Ij Pf (λ_ _=>rfl) (by intro q v K;kernel_rfl)
theorem aa1 {R:Type}:aI (R:=R) (hnd 0 bL) Tv Zv OW:=aA (l:=[sub [1,0,1,0,0] OW]) (by kernel_rfl) (aG (b:=sub [1,0,1,0,0] OW) (rid:=2) (by kernel_rfl) (by kernel_rfl) abo (trivial))
theorem YY:aK Tryz.prog 34 SZ:=aY Tryz.f34 ako bD (d:=0) dU aa1 (bh (by kernel_rfl)) (toY:=eO)
def ame:HP.V Br->Int:=λv=>(v.1)
def akd:Int->Option (Bool):=λx=>hY x
def OG:Spec:=aL Br eE ame dN akd
def an0:Cfg:={T:=DL,aW:=aD.G Tryz.prog,eqs:=tG,N:=17,fuel:=64,fid:=43}
theorem aca:aE Tryz.prog an0:=aX Eo um trivial
theorem Sk:aK Tryz.prog 43 OG:=aZ Tryz.f43 aca bD (toY:=eO)
def ajT:Str->Option (Bool):=λx=>jI x
def W0:Spec:=aL vl eE C8 dN ajT
def adI:Cfg:={T:=DL,spec:=[(114,SJ)],aW:=aD.G Tryz.prog,eqs:=tG,N:=16,fuel:=64,fid:=68}
theorem alA:aE Tryz.prog adI:=aX Eo um ⟨Vh,trivial⟩
theorem ani:aK Tryz.prog 68 W0:=aZ Tryz.f68 alA bD (toY:=eO)
def Od {R:Type}:Nat->HS.V uK->(Ex->St->Option R)->Option R:=λq v K=>
 fA v.1.1 (K .ret {az:=[(2, .v (.one (.bool false)))],mem:= [],nx:=0}) (K (.exit 0) {az:=[(0, .v (.one (.str v.1.1)))],mem:= [],nx:=0}) q v.1.2.1
def adR:Str->Option (Bool):=λx=>j3 x
def aap:Spec:=aL vl eE C8 dN adR
def XX {R:Type}:List (Nat×Hd R):=[(2,bw uK Od)]
def TL:Cfg:={T:=DL,aW:=aD.G Tryz.prog,eqs:=tG,N:=22,fuel:=64,loops:=[(2,⟨[0,3], [], [],0, [], [], [], []⟩)],blocks:=[(0,⟨[0], [], [],0, [], [], [], []⟩)],fq:=some ⟨[2], [], [],0, [], [], [], []⟩,fid:=69}
theorem akh:aE Tryz.prog TL:=aX Eo um trivial
theorem ahP {R:Type}:br (R:=R) (hnd 0 bL) TL XX (sub [1,0,1,0,0] OZ) (HS.V uK) (HS.st uK) (HS.sh uK) Od (bw uK Od):=aN uK Od (λ_ _=>rfl) (by intro q v K;kernel_rfl)
theorem aaY {R:Type}:aI (R:=R) (hnd 0 bL) TL XX OZ:=aA (l:=[sub [1,0,1,0,0] OZ]) (by kernel_rfl) (aG (b:=sub [1,0,1,0,0] OZ) (rid:=2) (by kernel_rfl) (by kernel_rfl) ahP (trivial))
theorem alr:aK Tryz.prog 69 aap:=aY Tryz.f69 akh bD (d:=0) dU aaY (bh (by kernel_rfl)) (toY:=eO)
def adN:Opn->Option (Bool):=λx=>mX x
def M_:Spec:=aL Mf eE Rz dN adN
def ano:Cfg:={T:=DL,spec:=[(43,OG),(68,W0),(69,aap),(70,Ze)],aW:=aD.G Tryz.prog,eqs:=tG,N:=85,fuel:=64,fid:=42}
theorem aoa:aE Tryz.prog ano:=aX Eo um ⟨Sk,⟨ani,⟨alr,⟨ao1,trivial⟩⟩⟩⟩
theorem UC:aK Tryz.prog 42 M_:=aZ Tryz.f42 aoa bD (toY:=eO)
def GQ:HS:=⟨[(0, .one (.sl .opn)),(1, .one (.sl .opn)),(5, .one (.int .i64))], [],0⟩
def Nz {R:Type}:Nat->HS.V GQ->(Ex->St->Option R)->Option R:=λq v K=>
 g_ v.1.1 v.1.2.1 (K .ret {az:=[(4, .v (.one (.bool false)))],mem:= [],nx:=0}) (K (.exit 0) {az:= [],mem:= [],nx:=0}) q v.1.2.2.1
def Wd:List HV:=[.one (.sl .opn), .one (.sl .opn)]
def ag8:HP.V Wd->(List Opn)×(List Opn):=λv=>(v.1,v.2.1)
def aka:(List Opn)×(List Opn)->Option (Bool):=λx=>jy x.1 x.2
def N5:Spec:=aL Wd eE ag8 dN aka
def aaD {R:Type}:List (Nat×Hd R):=[(4,bw GQ Nz)]
def Un:Cfg:={T:=DL,aW:=aD.G Tryz.prog,eqs:=tG,N:=26,fuel:=64,loops:=[(4,⟨[0,1,5], [], [],0, [], [], [], []⟩)],blocks:=[(0,⟨[], [], [],0, [], [], [], []⟩)],fq:=some ⟨[4], [], [],0, [], [], [], []⟩,fid:=16}
theorem agT:aE Tryz.prog Un:=aX Eo um trivial
theorem ah1 {R:Type}:br (R:=R) (hnd 0 bL) Un aaD (sub [1,1,0,1,0,0] P5) (HS.V GQ) (HS.st GQ) (HS.sh GQ) Nz (bw GQ Nz):=aN GQ Nz (λ_ _=>rfl) (by intro q v K;kernel_rfl)
theorem anM {R:Type}:aI (R:=R) (hnd 0 bL) Un aaD P5:=aA (l:=[sub [1,1,0,1,0,0] P5]) (by kernel_rfl) (aG (b:=sub [1,1,0,1,0,0] P5) (rid:=4) (by kernel_rfl) (by kernel_rfl) ah1 (trivial))
theorem RJ:aK Tryz.prog 16 N5:=aY Tryz.f16 agT bD (d:=0) dU anM (bh (by kernel_rfl)) (toY:=eO)
def u3:HS:=⟨[(0, .one (.sl .opn)),(3, .one (.int .i64)),(4, .one (.int .i64))], [],0⟩
def M9 {R:Type}:Nat->HS.V u3->(Ex->St->Option R)->Option R:=λq v K=>
 fQ v.1.1 (K .ret {az:=[(2, .v (.one (.bool false)))],mem:= [],nx:=0}) (K (.exit 0) {az:= [],mem:= [],nx:=0}) q v.1.2.1 v.1.2.2.1
def aek:(List Opn)->Option (Bool):=λx=>nh x
def RZ:Spec:=aL xW eE GA dN aek
def XP {R:Type}:List (Nat×Hd R):=[(3,bw u3 M9)]
def SK:Cfg:={T:=DL,spec:=[(42,M_),(43,OG)],aW:=aD.G Tryz.prog,eqs:=tG,N:=43,fuel:=64,loops:=[(3,⟨[0,3,4], [], [],0, [], [], [], []⟩)],blocks:=[(0,⟨[], [], [],0, [], [], [], []⟩)],fq:=some ⟨[2], [], [],0, [], [], [], []⟩,fid:=21}
theorem ajY:aE Tryz.prog SK:=aX Eo um ⟨UC,⟨Sk,trivial⟩⟩
theorem abV {R:Type}:br (R:=R) (hnd 0 bL) SK XP (sub [1,1,0,1,0,0] OO) (HS.V u3) (HS.st u3) (HS.sh u3) M9 (bw u3 M9):=aN u3 M9 (λ_ _=>rfl) (by intro q v K;kernel_rfl)
theorem aoT {R:Type}:aI (R:=R) (hnd 0 bL) SK XP OO:=aA (l:=[sub [1,1,0,1,0,0] OO]) (by kernel_rfl) (aG (b:=sub [1,1,0,1,0,0] OO) (rid:=3) (by kernel_rfl) (by kernel_rfl) abV (trivial))
theorem Z6:aK Tryz.prog 21 RZ:=aY Tryz.f21 ajY bD (d:=0) dU aoT (bh (by kernel_rfl)) (toY:=eO)
def Qb {R:Type}:Nat->HS.V u3->(Ex->St->Option R)->Option R:=λq v K=>
 fT v.1.1 (K .ret {az:=[(2, .v (.one (.bool false)))],mem:= [],nx:=0}) (K (.exit 0) {az:= [],mem:= [],nx:=0}) q v.1.2.1 v.1.2.2.1
def aj0:(List Opn)->Option (Bool):=λx=>p_ x
def WH:Spec:=aL xW eE GA dN aj0
def W2 {R:Type}:List (Nat×Hd R):=[(3,bw u3 Qb)]
def Ur:Cfg:={T:=DL,spec:=[(42,M_),(43,OG)],aW:=aD.G Tryz.prog,eqs:=tG,N:=51,fuel:=64,loops:=[(3,⟨[0,3,4], [], [],0, [], [], [], []⟩)],blocks:=[(0,⟨[], [], [],0, [], [], [], []⟩)],fq:=some ⟨[2], [], [],0, [], [], [], []⟩,fid:=22}
theorem ak2:aE Tryz.prog Ur:=aX Eo um ⟨UC,⟨Sk,trivial⟩⟩
theorem aeX {R:Type}:br (R:=R) (hnd 0 bL) Ur W2 (sub [1,1,0,1,0,0] PH) (HS.V u3) (HS.st u3) (HS.sh u3) Qb (bw u3 Qb):=aN u3 Qb (λ_ _=>rfl) (by intro q v K;kernel_rfl)
theorem amb {R:Type}:aI (R:=R) (hnd 0 bL) Ur W2 PH:=aA (l:=[sub [1,1,0,1,0,0] PH]) (by kernel_rfl) (aG (b:=sub [1,1,0,1,0,0] PH) (rid:=3) (by kernel_rfl) (by kernel_rfl) aeX (trivial))
theorem amn:aK Tryz.prog 22 WH:=aY Tryz.f22 ak2 bD (d:=0) dU amb (bh (by kernel_rfl)) (toY:=eO)
end
end Go.Eng
namespace Go.Eng
noncomputable section
open Go Go.Proofs
def PD:Code:=bd Tryz.f118
def uD:HS:=⟨[(1, .one (.ptr 0 0)),(3, .one (.int .i64)),(4, .one (.int .i64))],[(0, .cells hFs)],1⟩
def Qk {R:Type}:Nat->HS.V uD->(Ex->St->Option R)->Option R:=λq v K=>
 fm (cFs v.2.1) (λy6=>K (.exit 0) {az:=[(3, .v (.one (.int .i64 y6)))],mem:= [],nx:=0}) q v.1.2.1 v.1.2.2.1
def ak9:Fs->Option (Int):=λx=>nO x
def Zn:Spec:=aL kq Br wN JF ak9
def Vm {R:Type}:List (Nat×Hd R):=[(3,bw uD Qk)]
def Tk:Cfg:={T:=Kh,aW:=aD.G Tryz.prog,eqs:=bc,N:=29,fuel:=64,loops:=[(3,⟨[1,3,4], [],[0],1, [], [], [], []⟩)],blocks:=[(0,⟨[3], [], [],0, [], [], [], []⟩)],fid:=118}
theorem ahm:aE Tryz.prog Tk:=aX K9 bg trivial
theorem ai7 {R:Type}:br (R:=R) (hnd 0 bL) Tk Vm (sub [1,1,0,1,0,0] PD) (HS.V uD) (HS.st uD) (HS.sh uD) Qk (bw uD Qk):=aN uD Qk (λ_ _=>rfl) (by intro q v K;kernel_rfl)
theorem amr {R:Type}:aI (R:=R) (hnd 0 bL) Tk Vm PD:=aA (l:=[sub [1,1,0,1,0,0] PD]) (by kernel_rfl) (aG (b:=sub [1,1,0,1,0,0] PD) (rid:=3) (by kernel_rfl) (by kernel_rfl) ai7 (trivial))
theorem abL:aK Tryz.prog 118 Zn:=aY Tryz.f118 ahm bD (d:=0) dU amr (bh (by kernel_rfl)) (toY:=JL)
def abR:(Fs×Int×Int)->Option (Bool):=λx=>fM x.1 x.2.1 x.2.2
def Kf:Spec:=aL SO eE aan dN abR
def adg:Cfg:={T:=Kh,spec:=[(118,Zn)],aW:=aD.G Tryz.prog,eqs:=bc,N:=22,fuel:=64,fid:=77}
theorem ahO:aE Tryz.prog adg:=aX K9 bg ⟨abL,trivial⟩
theorem KN:aK Tryz.prog 77 Kf:=aZ Tryz.f77 ahO bD (toY:=eO)
end
end Go.Eng
namespace Go.Eng
noncomputable section
open Go Go.Proofs
def CT:List (Nat×TI):=[(3,⟨false,1, .one (.int .i64 0), .int .i64⟩),(9,⟨false,1, .one (.str []), .str⟩),(22,⟨false,1, .one (.clip .aM []), .slice .aM 75⟩),(24,⟨true,4, .agg [.int .i64 0, .int .i64 0, .int .i64 0, .clip .aM []], .struct [(0,3),(1,3),(2,3),(3,22)]⟩),(52,⟨false,1, .one (.clip .int []), .slice .int 3⟩),(73,⟨false,1, .one (.clip .entry []), .slice .entry 103⟩),(75,⟨true,6, .agg [.int .i64 0, .int .i64 0, .int .i64 0, .str [], .int .i64 0, .clip .entry []], .struct [(0,3),(1,3),(2,3),(3,9),(4,3),(5,73)]⟩),(103,⟨true,2, .agg [.str [], .int .i64 0], .struct [(0,9),(1,3)]⟩)]
theorem Fb:(CT.all λx=>tiB Tryz.prog x.1 x.2)=true:=by kernel_rfl
def Oo:Code:=bd Tryz.f72
def F0:Code:=bd Tryz.f73
def Hs:Code:=bd Tryz.f74
def Pu:Code:=bd Tryz.f75
def AU:Code:=bd Tryz.f76
def Gg:Code:=bd Tryz.f117
def Qq {R:Type}:Nat->HS.V fY->(Ex->St->Option R)->Option R:=λq v K=>
 gv (cFs v.2.1) (K .ret {az:=[(2, .v (.one (.bool false)))],mem:= [],nx:=0}) (K (.exit 0) {az:=[(1, .v (.one (.ptr 0 0)))],mem:=[(0, .cells (rFs (cFs v.2.1)))],nx:=1}) q v.1.2.1
def alS:Fs->Option (Bool):=λx=>n4 x
def X7:Spec:=aL kq eE wN dN alS
def VZ {R:Type}:List (Nat×Hd R):=[(4,bw fY Qq)]
def Tq:Cfg:={T:=CT,spec:=[(81,UO),(83,rO)],aW:=aD.G Tryz.prog,eqs:=bc,N:=69,fuel:=64,loops:=[(4,⟨[1,3], [],[0],1, [], [], [], []⟩)],blocks:=[(0,⟨[1], [],[0],1, [], [], [], []⟩)],fq:=some ⟨[2], [], [],0, [], [], [], []⟩,fid:=72}
theorem adQ:aE Tryz.prog Tq:=aX Fb bg ⟨Vn,⟨sF,trivial⟩⟩
theorem aju {R:Type}:br (R:=R) (hnd 0 bL) Tq VZ (sub [1,1,0,1,0,0] Oo) (HS.V fY) (HS.st fY) (HS.sh fY) Qq (bw fY Qq):=aN fY Qq (λ_ _=>rfl) (by intro q v K;kernel_rfl)
theorem afW {R:Type}:aI (R:=R) (hnd 0 bL) Tq VZ Oo:=aA (l:=[sub [1,1,0,1,0,0] Oo]) (by kernel_rfl) (aG (b:=sub [1,1,0,1,0,0] Oo) (rid:=4) (by kernel_rfl) (by kernel_rfl) aju (trivial))
theorem aez:aK Tryz.prog 72 X7:=aY Tryz.f72 adQ bD (d:=0) dU afW (bh (by kernel_rfl)) (toY:=eO)
def O_ {R:Type}:Nat->HS.V vo->(Ex->St->Option R)->Option R:=λq v K=>
 dz (cIn v.2.2.1) (K .ret {az:=[(2, .v (.one (.bool false)))],mem:= [],nx:=0}) (K (.exit 2) {az:=[(1, .v (.one (.ptr 0 0))),(3, .v (.one (.int .i64 v.1.2.1)))],mem:=[(0, .cells (rFs (cFs v.2.1)))],nx:=1}) q v.1.2.2.2.1
def OJ {R:Type}:Nat->HS.V fY->(Ex->St->Option R)->Option R:=λq v K=>
 fx (cFs v.2.1) (K .ret {az:=[(2, .v (.one (.bool false)))],mem:= [],nx:=0}) (K (.exit 0) {az:= [],mem:= [],nx:=0}) q v.1.2.1
def ahq:Fs->Option (Bool):=λx=>mR x
def Ym:Spec:=aL kq eE wN dN ahq
def SH {R:Type}:List (Nat×Hd R):=[(2,bw fY OJ),(14,bw vo O_)]
def QD:Cfg:={T:=CT,spec:=[(116,Zk)],aW:=aD.G Tryz.prog,eqs:=bc,N:=91,fuel:=64,loops:=[(14,⟨[1,3,4,5], [],[0,1],2, [], [], [], []⟩),(2,⟨[1,3], [],[0],1, [], [], [], []⟩)],blocks:=[(0,⟨[], [], [],0, [], [], [], []⟩),(1,⟨[1,3], [],[0],1, [], [], [], []⟩),(2,⟨[1,3], [],[0],1, [], [], [], []⟩)],fq:=some ⟨[2], [], [],0, [], [], [], []⟩,fid:=73}
theorem akp:aE Tryz.prog QD:=aX Fb bg ⟨akv,trivial⟩
theorem ag5 {R:Type}:br (R:=R) (hnd 0 bL) QD SH (sub [1,0,1,0,0] F0) (HS.V fY) (HS.st fY) (HS.sh fY) OJ (bw fY OJ):=aN fY OJ (λ_ _=>rfl) (by intro q v K;kernel_rfl)
theorem ae6 {R:Type}:br (R:=R) (hnd 0 bL) QD SH (sub [1,0,1,0,0,1,0,0,1,1,1,1,1,1,0,0] F0) (HS.V vo) (HS.st vo) (HS.sh vo) O_ (bw vo O_):=aN vo O_ (λ_ _=>rfl) (by intro q v K;kernel_rfl)
theorem anv {R:Type}:aI (R:=R) (hnd 0 bL) QD SH F0:=aA (l:=[sub [1,0,1,0,0] F0,sub [1,0,1,0,0,1,0,0,1,1,1,1,1,1,0,0] F0]) (by kernel_rfl) (aG (b:=sub [1,0,1,0,0] F0) (rid:=2) (by kernel_rfl) (by kernel_rfl) ag5 (aG (b:=sub [1,0,1,0,0,1,0,0,1,1,1,1,1,1,0,0] F0) (rid:=14) (by kernel_rfl) (by kernel_rfl) ae6 (trivial)))
theorem aji:aK Tryz.prog 73 Ym:=aY Tryz.f73 akp bD (d:=0) dU anv (bh (by kernel_rfl)) (toY:=eO)
def Rc {R:Type}:Nat->HS.V uD->(Ex->St->Option R)->Option R:=λq v K=>
 eZ v.1.2.1 (cFs v.2.1) (K .ret {az:=[(2, .v (.one (.bool false)))],mem:= [],nx:=0}) (K (.exit 2) {az:=[(1, .v (.one (.ptr 0 0))),(3, .v (.one (.int .i64 v.1.2.1)))],mem:=[(0, .cells (rFs (cFs v.2.1)))],nx:=1}) q v.1.2.2.1
def Qc {R:Type}:Nat->HS.V fY->(Ex->St->Option R)->Option R:=λq v K=>
 gj (cFs v.2.1) (K .ret {az:=[(2, .v (.one (.bool false)))],mem:= [],nx:=0}) (K (.exit 0) {az:= [],mem:= [],nx:=0}) q v.1.2.1
def ahp:Fs->Option (Bool):=λx=>nS x
def WU:Spec:=aL kq eE wN dN ahp
def RQ {R:Type}:List (Nat×Hd R):=[(2,bw fY Qc),(5,bw uD Rc)]
def Nx:Cfg:={T:=CT,spec:=[(83,rO)],aW:=aD.G Tryz.prog,eqs:=bc,N:=42,fuel:=64,loops:=[(5,⟨[1,3,4], [],[0],1, [], [], [], []⟩),(2,⟨[1,3], [],[0],1, [], [], [], []⟩)],blocks:=[(0,⟨[], [], [],0, [], [], [], []⟩),(1,⟨[1,3], [],[0],1, [], [], [], []⟩),(2,⟨[1,3], [],[0],1, [], [], [], []⟩)],fq:=some ⟨[2], [], [],0, [], [], [], []⟩,fid:=74}
theorem ab9:aE Tryz.prog Nx:=aX Fb bg ⟨sF,trivial⟩
theorem aea {R:Type}:br (R:=R) (hnd 0 bL) Nx RQ (sub [1,0,1,0,0] Hs) (HS.V fY) (HS.st fY) (HS.sh fY) Qc (bw fY Qc):=aN fY Qc (λ_ _=>rfl) (by intro q v K;kernel_rfl)
theorem acG {R:Type}:br (R:=R) (hnd 0 bL) Nx RQ (sub [1,0,1,0,0,1,0,0,1,0,0] Hs) (HS.V uD) (HS.st uD) (HS.sh uD) Rc (bw uD Rc):=aN uD Rc (λ_ _=>rfl) (by intro q v K;kernel_rfl)
theorem ad_ {R:Type}:aI (R:=R) (hnd 0 bL) Nx RQ Hs:=aA (l:=[sub [1,0,1,0,0] Hs,sub [1,0,1,0,0,1,0,0,1,0,0] Hs]) (by kernel_rfl) (aG (b:=sub [1,0,1,0,0] Hs) (rid:=2) (by kernel_rfl) (by kernel_rfl) aea (aG (b:=sub [1,0,1,0,0,1,0,0,1,0,0] Hs) (rid:=5) (by kernel_rfl) (by kernel_rfl) acG (trivial)))
theorem ak0:aK Tryz.prog 74 WU:=aY Tryz.f74 ab9 bD (d:=0) dU ad_ (bh (by kernel_rfl)) (toY:=eO)
def Ih:HS:=⟨[(1, .one (.int .i64)),(2, .one (.ptr 0 0)),(6, .one (.int .i64)),(7, .one (.int .i64)),(8, .one (.int .i64)),(9, .one (.int .i64))],[(0, .cells hFs)],1⟩
def Rh {R:Type}:Nat->HS.V Ih->(Ex->St->Option R)->Option R:=λq v K=>
 ek v.1.1 v.1.2.2.2.2.1 (cFs v.2.1) (λy17 y18=>K (.exit 2) {az:=[(1, .v (.one (.int .i64 v.1.1))),(2, .v (.one (.ptr 0 0))),(6, .v (.one (.int .i64 y17))),(7, .v (.one (.int .i64 y18))),(8, .v (.one (.int .i64 v.1.2.2.2.2.1)))],mem:=[(0, .cells (rFs (cFs v.2.1)))],nx:=1}) q v.1.2.2.1 v.1.2.2.2.1 v.1.2.2.2.2.2.1
def Ha:HS:=⟨[(1, .one (.int .i64)),(2, .one (.ptr 0 0)),(6, .one (.int .i64)),(7, .one (.int .i64)),(8, .one (.int .i64))],[(0, .cells hFs)],1⟩
def O3 {R:Type}:Nat->HS.V Ha->(Ex->St->Option R)->Option R:=λq v K=>
 gd v.1.1 (cFs v.2.1) (λy23 y24=>K (.exit 0) {az:=[(6, .v (.one (.int .i64 y23))),(7, .v (.one (.int .i64 y24)))],mem:= [],nx:=0}) q v.1.2.2.1 v.1.2.2.2.1 v.1.2.2.2.2.1
def aeO:HX.V Mj->Int×Int:=λv=>(v.1,v.2)
def ad4:(Int×Int)->HX.V Mj:=λy=>(y.1,y.2)
def acu:(Fs×Int)->Option (Int×Int):=λx=>n3 x.1 x.2
def aav:Spec:=aL vk Mj KH ad4 acu
def To {R:Type}:List (Nat×Hd R):=[(4,bw Ha O3),(7,bw Ih Rh)]
def QC:Cfg:={T:=CT,aW:=aD.G Tryz.prog,eqs:=bc,N:=50,fuel:=64,loops:=[(7,⟨[1,2,6,7,8,9], [],[0],1, [], [], [], []⟩),(4,⟨[1,2,6,7,8], [],[0],1, [], [], [], []⟩)],blocks:=[(0,⟨[6,7], [], [],0, [], [], [], []⟩),(1,⟨[1,2,6,7,8], [],[0],1, [], [], [], []⟩),(2,⟨[1,2,6,7,8], [],[0],1, [], [], [], []⟩)],fid:=117}
theorem adl:aE Tryz.prog QC:=aX Fb bg trivial
theorem amm {R:Type}:br (R:=R) (hnd 0 bL) QC To (sub [1,1,1,0,1,0,0] Gg) (HS.V Ha) (HS.st Ha) (HS.sh Ha) O3 (bw Ha O3):=aN Ha O3 (λ_ _=>rfl) (by intro q v K;kernel_rfl)
theorem adE {R:Type}:br (R:=R) (hnd 0 bL) QC To (sub [1,1,1,0,1,0,0,1,0,0,1,0,0] Gg) (HS.V Ih) (HS.st Ih) (HS.sh Ih) Rh (bw Ih Rh):=aN Ih Rh (λ_ _=>rfl) (by intro q v K;kernel_rfl)
theorem aoJ {R:Type}:aI (R:=R) (hnd 0 bL) QC To Gg:=aA (l:=[sub [1,1,1,0,1,0,0] Gg,sub [1,1,1,0,1,0,0,1,0,0,1,0,0] Gg]) (by kernel_rfl) (aG (b:=sub [1,1,1,0,1,0,0] Gg) (rid:=4) (by kernel_rfl) (by kernel_rfl) amm (aG (b:=sub [1,1,1,0,1,0,0,1,0,0,1,0,0] Gg) (rid:=7) (by kernel_rfl) (by kernel_rfl) adE (trivial)))
theorem ak_:aK Tryz.prog 117 aav:=aY Tryz.f117 adl bD (d:=0) dU aoJ (bh (by kernel_rfl)) (toY:=aeO)
def Pd {R:Type}:Nat->HS.V fY->(Ex->St->Option R)->Option R:=λq v K=>
 dP (cFs v.2.1) (K .ret {az:=[(2, .v (.one (.bool false)))],mem:= [],nx:=0}) (K (.exit 0) {az:= [],mem:= [],nx:=0}) q v.1.2.1
def acK:Fs->Option (Bool):=λx=>mS x
def Zl:Spec:=aL kq eE wN dN acK
def ZN {R:Type}:List (Nat×Hd R):=[(2,bw fY Pd)]
def R5:Cfg:={T:=CT,spec:=[(117,aav)],aW:=aD.G Tryz.prog,eqs:=bc,N:=57,fuel:=64,loops:=[(2,⟨[1,3], [],[0],1, [], [], [], []⟩)],blocks:=[(0,⟨[], [], [],0, [], [], [], []⟩)],fq:=some ⟨[2], [], [],0, [], [], [], []⟩,fid:=75}
theorem agX:aE Tryz.prog R5:=aX Fb bg ⟨ak_,trivial⟩
theorem ajd {R:Type}:br (R:=R) (hnd 0 bL) R5 ZN (sub [1,0,1,0,0] Pu) (HS.V fY) (HS.st fY) (HS.sh fY) Pd (bw fY Pd):=aN fY Pd (λ_ _=>rfl) (by intro q v K;kernel_rfl)
theorem ahJ {R:Type}:aI (R:=R) (hnd 0 bL) R5 ZN Pu:=aA (l:=[sub [1,0,1,0,0] Pu]) (by kernel_rfl) (aG (b:=sub [1,0,1,0,0] Pu) (rid:=2) (by kernel_rfl) (by kernel_rfl) ajd (trivial))
theorem aih:aK Tryz.prog 75 Zl:=aY Tryz.f75 agX bD (d:=0) dU ahJ (bh (by kernel_rfl)) (toY:=eO)
def F7:HS:=⟨[(1, .one (.ptr 0 0)),(3, .one (.own 1)),(4, .one (.int .i64)),(5, .one (.ptr 2 0)),(7, .one (.int .i64)),(8, .one (.bool)),(9, .one (.int .i64))],[(0, .cells hFs),(1, .row .int),(2, .cells hIn)],3⟩
def Qg {R:Type}:Nat->HS.V F7->(Ex->St->Option R)->Option R:=λq v K=>
 dO v.1.2.2.2.2.1 v.2.2.1 (cIn v.2.2.2.1) (λy22=>K (.exit 4) {az:=[(1, .v (.one (.ptr 0 0))),(3, .v (.one (.own 1))),(4, .v (.one (.int .i64 v.1.2.2.1))),(5, .v (.one (.ptr 2 0))),(7, .v (.one (.int .i64 v.1.2.2.2.2.1))),(8, .v (.one (.bool y22)))],mem:=[(0, .cells (rFs (cFs v.2.1))),(1, .row .int v.2.2.1),(2, .cells (rIn (cIn v.2.2.2.1)))],nx:=3}) q v.1.2.2.2.2.2.1 v.1.2.2.2.2.2.2.1
def H5:HS:=⟨[(1, .one (.ptr 0 0)),(3, .one (.own 1)),(4, .one (.int .i64)),(5, .one (.ptr 2 0)),(7, .one (.int .i64))],[(0, .cells hFs),(1, .row .int),(2, .cells hIn)],3⟩
def O8 {R:Type}:Nat->HS.V H5->(Ex->St->Option R)->Option R:=λq v K=>
 eD (cIn v.2.2.2.1) (λy30=>K (.exit 2) {az:=[(1, .v (.one (.ptr 0 0))),(3, .v (.one (.own 1))),(4, .v (.one (.int .i64 v.1.2.2.1)))],mem:=[(0, .cells (rFs (cFs v.2.1))),(1, .row .int y30)],nx:=2}) q v.1.2.2.2.2.1 v.2.2.1
def Hn:HS:=⟨[(1, .one (.ptr 0 0)),(3, .one (.own 1)),(4, .one (.int .i64))],[(0, .cells hFs),(1, .row .int)],2⟩
def P0 {R:Type}:Nat->HS.V Hn->(Ex->St->Option R)->Option R:=λq v K=>
 ix (cFs v.2.1) (λy33=>K (.exit 0) {az:=[(1, .v (.one (.ptr 0 0))),(3, .v (.one (.own 1)))],mem:=[(0, .cells (rFs (cFs v.2.1))),(1, .row .int y33)],nx:=2}) q v.1.2.2.1 v.2.2.1
def ac1:Fs->Option (Bool):=λx=>nZ x
def X3:Spec:=aL kq eE wN dN ac1
def Pr {R:Type}:List (Nat×Hd R):=[(3,bw Hn P0),(7,bw H5 O8),(11,bw F7 Qg)]
def K7:Cfg:={T:=CT,spec:=[(83,rO)],aW:=aD.G Tryz.prog,eqs:=bc,N:=70,fuel:=64,loops:=[(11,⟨[1,3,4,5,7,8,9], [],[0,1,2],3, [], [], [], []⟩),(7,⟨[1,3,4,5,7], [],[0,1,2],3, [], [], [], []⟩),(3,⟨[1,3,4], [],[0,1],2, [], [], [], []⟩)],blocks:=[(0,⟨[1,3], [],[0,1],2, [], [], [], []⟩),(1,⟨[1,3,4], [],[0,1],2, [], [], [], []⟩),(2,⟨[1,3,4], [],[0,1],2, [], [], [], []⟩),(3,⟨[1,3,4,5,7], [],[0,1,2],3, [], [], [], []⟩),(4,⟨[1,3,4,5,7,8], [],[0,1,2],3, [], [], [], []⟩)],fid:=76}
theorem ajG:aE Tryz.prog K7:=aX Fb bg ⟨sF,trivial⟩
theorem akI {R:Type}:br (R:=R) (hnd 0 bL) K7 Pr (sub [1,1,0,1,0,0] AU) (HS.V Hn) (HS.st Hn) (HS.sh Hn) P0 (bw Hn P0):=aN Hn P0 (λ_ _=>rfl) (by intro q v K;kernel_rfl)
theorem ahQ {R:Type}:br (R:=R) (hnd 0 bL) K7 Pr (sub [1,1,0,1,0,0,1,0,0,1,1,0,0] AU) (HS.V H5) (HS.st H5) (HS.sh H5) O8 (bw H5 O8):=aN H5 O8 (λ_ _=>rfl) (by intro q v K;kernel_rfl)
theorem ajl {R:Type}:br (R:=R) (hnd 0 bL) K7 Pr (sub [1,1,0,1,0,0,1,0,0,1,1,0,0,1,0,0,1,0,1,0,0] AU) (HS.V F7) (HS.st F7) (HS.sh F7) Qg (bw F7 Qg):=aN F7 Qg (λ_ _=>rfl) (by intro q v K;kernel_rfl)
theorem anc {R:Type}:aI (R:=R) (hnd 0 bL) K7 Pr AU:=aA (l:=[sub [1,1,0,1,0,0] AU,sub [1,1,0,1,0,0,1,0,0,1,1,0,0] AU,sub [1,1,0,1,0,0,1,0,0,1,1,0,0,1,0,0,1,0,1,0,0] AU]) (by kernel_rfl) (aG (b:=sub [1,1,0,1,0,0] AU) (rid:=3) (by kernel_rfl) (by kernel_rfl) akI (aG (b:=sub [1,1,0,1,0,0,1,0,0,1,1,0,0] AU) (rid:=7) (by kernel_rfl) (by kernel_rfl) ahQ (aG (b:=sub [1,1,0,1,0,0,1,0,0,1,1,0,0,1,0,0,1,0,1,0,0] AU) (rid:=11) (by kernel_rfl) (by kernel_rfl) ajl (trivial))))
theorem akQ:aK Tryz.prog 76 X3:=aY Tryz.f76 ajG bD (d:=0) dU anc (bh (by kernel_rfl)) (toY:=eO)
def ah_:Fs->Option (Int):=λx=>jH x
def UX:Spec:=aL kq Br wN JF ah_
def aiO:Cfg:={T:=CT,spec:=[(72,X7),(73,Ym),(74,WU),(75,Zl),(76,X3),(77,Kf)],aW:=aD.G Tryz.prog,eqs:=bc,N:=21,fuel:=64,fid:=46}
theorem adL:aE Tryz.prog aiO:=aX Fb bg ⟨aez,⟨aji,⟨ak0,⟨aih,⟨akQ,⟨KN,trivial⟩⟩⟩⟩⟩⟩
theorem Y7:aK Tryz.prog 46 UX:=aZ Tryz.f46 adL bD (toY:=JL)
def aoc:Fs->Option (Bool):=λx=>uL x
def X8:Spec:=aL kq eE wN dN aoc
def akT:Cfg:={T:=CT,spec:=[(45,S9),(46,UX)],aW:=aD.G Tryz.prog,eqs:=bc,N:=10,fuel:=64,fid:=27}
theorem adH:aE Tryz.prog akT:=aX Fb bg ⟨Wi,⟨Y7,trivial⟩⟩
theorem am4:aK Tryz.prog 27 X8:=aZ Tryz.f27 adH bD (toY:=eO)
end
end Go.Eng
namespace Go.Eng
noncomputable section
open Go Go.Proofs
def agM:(Fs×au×Int)->Option (Fs):=λx=>jw x.1 x.2.1 x.2.2
def Va:Spec:=aL T9 kq aai xP agM
def ajS:Cfg:={T:=CO,spec:=[(71,Bs),(83,rO),(107,Rr)],aW:=aD.G Tryz.prog,eqs:=bc,N:=40,fuel:=64,fid:=59}
theorem ad5:aE Tryz.prog ajS:=aX EF bg ⟨DG,⟨sF,⟨TH,trivial⟩⟩⟩
theorem Xb:aK Tryz.prog 59 Va:=aZ Tryz.f59 ad5 bD (toY:=xT)
def aeW:(Fs×au)->Option (Fs):=λx=>iQ x.1 x.2
def OB:Spec:=aL T8 kq Y6 xP aeW
def aip:Cfg:={T:=CO,spec:=[(71,Bs),(83,rO),(108,QB),(110,Og)],aW:=aD.G Tryz.prog,eqs:=bc,N:=46,fuel:=64,fid:=62}
theorem akR:aE Tryz.prog aip:=aX EF bg ⟨DG,⟨sF,⟨UG,⟨Sw,trivial⟩⟩⟩⟩
theorem SG:aK Tryz.prog 62 OB:=aZ Tryz.f62 akR bD (toY:=xT)
end
end Go.Eng
