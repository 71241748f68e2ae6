/- A part of the proofs of the laws of this seat: the engine that reads the program's code, plain functions, or facts of the program's functions. Conditions: none. -/
import Derived.Ground.NamesProg
import Derived.Shelf.Small.Strs
import Derived.Shelf.Strings.Search1
import Derived.Shelf.Strings.OnBuilder
import Derived.Test.YtopfnnikfjbofaaGreatDoorProg
import Derived.Test.YtopfnnikfjbofaaGreatDoorP1
import Derived.Test.YtopfnnikfjbofaaGreatDoorE5
set_option linter.unusedSectionVars false
set_option linter.unusedVariables false
set_option linter.unusedSimpArgs false
set_option linter.unnecessarySimpa false
namespace Go.Proofs
open Go.Shelf
def Tryz.lays106_ren : Go.Shelf.Ren := ⟨fun | 106 => 121 | 213 => 135 | 265 => 147 | n => n, fun | 9 => 9 | 3 => 3 | n => n, fun | n => n⟩
theorem Tryz.lays106 : Go.Proofs.Lays.n106 Tryz.prog Tryz.lays106_ren := {
  mixed := by kernel_rfl
  f106 := Tryz.func121.trans (congrArg some (by kernel_rfl))
  f213 := Tryz.func135.trans (congrArg some (by kernel_rfl))
  f265 := Tryz.func147.trans (congrArg some (by kernel_rfl))
  t3 := Tryz.underlying3
  a3 := Tryz.isAgg3
  z3 := Tryz.sizeOf3
  v3 := Tryz.zeroValue3
  t9 := Tryz.underlying9
  a9 := Tryz.isAgg9
  z9 := Tryz.sizeOf9
  v9 := Tryz.zeroValue9 }
def Tryz.lays217_ren : Go.Shelf.Ren := ⟨fun | 217 => 158 | 266 => 160 | n => n, fun | 9 => 9 | 5 => 5 | 3 => 3 | n => n, fun | n => n⟩
theorem Tryz.lays217 : Go.Proofs.Lays.n217 Tryz.prog Tryz.lays217_ren := {
  mixed := by kernel_rfl
  f217 := Tryz.func158.trans (congrArg some (by kernel_rfl))
  f266 := Tryz.func160.trans (congrArg some (by kernel_rfl))
  t3 := Tryz.underlying3
  a3 := Tryz.isAgg3
  z3 := Tryz.sizeOf3
  v3 := Tryz.zeroValue3
  t5 := Tryz.underlying5
  a5 := Tryz.isAgg5
  z5 := Tryz.sizeOf5
  v5 := Tryz.zeroValue5
  t9 := Tryz.underlying9
  a9 := Tryz.isAgg9
  z9 := Tryz.sizeOf9
  v9 := Tryz.zeroValue9 }
def Tryz.lays156_ren : Go.Shelf.Ren := ⟨fun | 156 => 113 | 165 => 130 | 166 => 131 | 169 => 132 | 240 => 141 | 241 => 142 | 276 => 152 | 277 => 153 | n => n, fun | 31 => 84 | 9 => 9 | 3 => 3 | 4 => 4 | 0 => 0 | 20 => 20 | 72 => 146 | 76 => 150 | 70 => 143 | 37 => 144 | 75 => 149 | 127 => 157 | 164 => 166 | 5 => 5 | 80 => 152 | n => n, fun | n => n⟩
theorem Tryz.lays156 : Go.Proofs.Lays.n156 Tryz.prog Tryz.lays156_ren := {
  mixed := by kernel_rfl
  f156 := Tryz.func113.trans (congrArg some (by kernel_rfl))
  f165 := Tryz.func130.trans (congrArg some (by kernel_rfl))
  f166 := Tryz.func131.trans (congrArg some (by kernel_rfl))
  f169 := Tryz.func132.trans (congrArg some (by kernel_rfl))
  f240 := Tryz.func141.trans (congrArg some (by kernel_rfl))
  f241 := Tryz.func142.trans (congrArg some (by kernel_rfl))
  f276 := Tryz.func152.trans (congrArg some (by kernel_rfl))
  f277 := Tryz.func153.trans (congrArg some (by kernel_rfl))
  t0 := Tryz.underlying0
  a0 := Tryz.isAgg0
  z0 := Tryz.sizeOf0
  v0 := Tryz.zeroValue0
  t3 := Tryz.underlying3
  a3 := Tryz.isAgg3
  z3 := Tryz.sizeOf3
  v3 := Tryz.zeroValue3
  t4 := Tryz.underlying4
  a4 := Tryz.isAgg4
  z4 := Tryz.sizeOf4
  v4 := Tryz.zeroValue4
  t9 := Tryz.underlying9
  a9 := Tryz.isAgg9
  z9 := Tryz.sizeOf9
  v9 := Tryz.zeroValue9
  t20 := Tryz.underlying20
  a20 := Tryz.isAgg20
  z20 := Tryz.sizeOf20
  v20 := Tryz.zeroValue20
  t31 := Tryz.underlying84
  a31 := Tryz.isAgg84
  z31 := Tryz.sizeOf84
  v31 := Tryz.zeroValue84
  t37 := Tryz.underlying144
  a37 := Tryz.isAgg144
  z37 := Tryz.sizeOf144
  v37 := Tryz.zeroValue144
  t70 := Tryz.underlying143
  a70 := Tryz.isAgg143
  z70 := Tryz.sizeOf143
  v70 := Tryz.zeroValue143
  t72 := Tryz.underlying146
  a72 := Tryz.isAgg146
  z72 := Tryz.sizeOf146
  v72 := Tryz.zeroValue146
  t75 := Tryz.underlying149
  a75 := Tryz.isAgg149
  z75 := Tryz.sizeOf149
  v75 := Tryz.zeroValue149
  t76 := Tryz.underlying150
  a76 := Tryz.isAgg150
  z76 := Tryz.sizeOf150
  v76 := Tryz.zeroValue150
  t127 := Tryz.underlying157
  a127 := Tryz.isAgg157
  z127 := Tryz.sizeOf157
  v127 := Tryz.zeroValue157
  t164 := Tryz.underlying166
  a164 := Tryz.isAgg166
  z164 := Tryz.sizeOf166
  v164 := Tryz.zeroValue166 }
end Go.Proofs
set_option linter.unusedVariables false
set_option maxRecDepth 100000
namespace Go.Eng
open Go Go.Proofs Go.Shelf
noncomputable instance : GlobL Tryz.prog := ⟨[]⟩
noncomputable def strings_Compare_sp : Spec := mkSpec (X := Str × Str) (Y := Int) [.one .str, .one .str] [.one (.int .i64)] (fun v => (v.1, v.2.1)) (fun y => y) (fun x => strings_Compare x.1 x.2)
theorem strings_Compare_ok : SpecOK Tryz.prog 121 strings_Compare_sp where
  enters := enters_of Tryz.func121 (by kernel_rfl) rfl
  calls := by
    intro S w args vs x y hS _ hal hp hf
    simp only [strings_Compare_sp, mkSpec] at hp hf ⊢
    split at hp
    · rename_i v hv
      cases hp
      cases hf
      rw [HP.eq hv] at hal
      cases hal with
      | cons h1 h2 =>
        cases h2 with
        | cons h2 h3 =>
          cases h3
          rename_i v1 v2
          cases (show VA _ w (.str v.1) v1 from h1) with
          | str _ b1 e1 =>
            cases (show VA _ w (.str v.2.1) v2 from h2) with
            | str _ b2 e2 =>
              refine (Any.strings_Compare Tryz.lays106 b1 b2 w).mono ?_
              rintro e w' ⟨rfl, rfl⟩
              refine ⟨_, rfl, Go.RowKit.Below.refl _ _, ?_⟩
              rw [e1, e2]
              exact VA.int _ _
    · cases hp
noncomputable def stringslite_IndexByte_sp : Spec := mkSpec (X := Str × Int) (Y := Int) [.one .str, .one (.int .u8)] [.one (.int .i64)] (fun v => (v.1, v.2.1)) (fun y => y) (fun x => stringslite_IndexByte x.1 x.2)
theorem stringslite_IndexByte_ok : SpecOK Tryz.prog 158 stringslite_IndexByte_sp where
  enters := enters_of Tryz.func158 (by kernel_rfl) rfl
  calls := by
    intro S w args vs x y hS _ hal hp hf
    simp only [stringslite_IndexByte_sp, mkSpec] at hp hf ⊢
    split at hp
    · rename_i v hv
      cases hp
      cases hf
      rw [HP.eq hv] at hal
      cases hal with
      | cons h1 h2 =>
        cases h2 with
        | cons h2 h3 =>
          cases h3
          rename_i v1 v2
          cases (show VA _ w (.str v.1) v1 from h1) with
          | str _ b1 e1 =>
            cases (show VA _ w (.int .u8 v.2.1) v2 from h2) with
            | int _ _ =>
              refine (Any.stringslite_IndexByte Tryz.lays217 b1 v.2.1 w).mono ?_
              rintro e w' ⟨rfl, rfl⟩
              refine ⟨_, rfl, Go.RowKit.Below.refl _ _, ?_⟩
              rw [e1]
              exact VA.int _ _
    · cases hp
theorem bx156 : Go.Proofs.Builder.Extra Tryz.prog Tryz.lays156_ren where
  sizeBuilder := by kernel_rfl
  liesBuilder := by kernel_rfl
  t5 := Tryz.underlying5
  a5 := Tryz.isAgg5
  z5 := Tryz.sizeOf5
  v5 := Tryz.zeroValue5
  infoByte := by kernel_rfl
  cellsByte := by kernel_rfl
  sizeByte := by kernel_rfl
  neB5 := by decide
noncomputable def strings_Join_sp : Spec := mkSpec (X := List Str × Str) (Y := Str) [.one (.sl .str), .one .str] [.one .str] (fun v => (v.1, v.2.1)) (fun y => y) (fun x => strings_Join x.1 x.2)
theorem strings_Join_ok : SpecOK Tryz.prog 113 strings_Join_sp where
  enters := enters_of Tryz.func113 (by kernel_rfl) rfl
  calls := by
    intro S w args vs x y hS _ hal hp hf
    simp only [strings_Join_sp, mkSpec] at hp hf ⊢
    split at hp
    · rename_i v hv
      cases hp
      unfold strings_Join at hf
      split at hf
      rotate_left
      · cases hf
      rename_i hlen
      have hlen : (Lib.join v.1 v.2.1).length + List.length v.1 ≤ 67108864 := hlen
      cases hf
      rw [HP.eq hv] at hal
      cases hal with
      | cons h1 h2 =>
        cases h2 with
        | cons h2 h3 =>
          cases h3
          rename_i v1 v2
          cases (show VA _ w (.sl .str v.1) v1 from h1) with
          | sl _ _ ad len cap bk of f hn hc ha hcell hff =>
            cases (show VA _ w (.str v.2.1) v2 from h2) with
            | str _ b2 e2 =>
              by_cases hne : v.1 = []
              · have hlen0 : len = 0 := by rw [hn, hne]; rfl
                subst hlen0
                refine (Any.strings_Join_none Tryz.lays156 bx156 ad cap b2 w).mono ?_
                rintro e w' ⟨rfl, rfl⟩
                refine ⟨_, rfl, Go.RowKit.Below.refl _ _, ?_⟩
                rw [hne]
                exact VA.str _ _ rfl
              · obtain ⟨rfl, hSb⟩ := ha hne
                obtain ⟨xs, hxl, hxs, hxd⟩ := texts_of (w := w) (bk := bk) (of := of) v.1 (fun i hi => by
                  have := hcell i 0 hi (by decide)
                  have h9 := hff i v.1[i] 0 (.str v.1[i]) (by simp [hi]) rfl
                  generalize f i 0 = u at this h9
                  cases h9 with
                  | str _ b e => exact ⟨b, by simpa [Ty.n] using this, e⟩)
                subst hn
                have := Any.strings_Join Tryz.lays156 bx156 bk of cap xs b2 w hxs (hS bk hSb) (by
                  rw [hxl]
                  omega) (by rw [hxl]; exact hc) (by
                  rw [hxd, e2]; omega)
                rw [hxl] at this
                refine this.mono ?_
                rintro e w' ⟨rfl, hb⟩
                refine ⟨_, rfl, hb, ?_⟩
                rw [hxd, e2]
                exact VA.str _ _ (by simp)
    · cases hp
theorem ovl124 : OvlOK Tryz.prog 124 := ovlOK_of Tryz.func124 (by kernel_rfl) (by kernel_rfl) (tS := 22) (tR := 4) (e := 34) (size := 6) (by kernel_rfl) (by kernel_rfl) (by kernel_rfl) Tryz.sizeOf34
end Go.Eng
set_option linter.unusedVariables false
set_option maxRecDepth 100000
namespace Go.Eng
noncomputable section
open Go Go.Proofs
def qaaa : List (Nat × TI) := [(3, ⟨false, 1, .one (.int .i64 0), .int .i64⟩), (9, ⟨false, 1, .one (.str []), .str⟩), (22, ⟨false, 1, .one (.clip .inode []), .slice .inode 34⟩), (24, ⟨true, 4, .agg [.int .i64 0, .int .i64 0, .int .i64 0, .clip .inode []], .struct [(0, 3), (1, 3), (2, 3), (3, 22)]⟩), (34, ⟨true, 6, .agg [.int .i64 0, .int .i64 0, .int .i64 0, .str [], .int .i64 0, .clip .entry []], .struct [(0, 3), (1, 3), (2, 3), (3, 9), (4, 3), (5, 32)]⟩)]
def qaab : List (Nat × List EK) := []
theorem qaac : Tryz.prog.follows .mixedOrders = true := by kernel_rfl
theorem qaad : (qaaa.all fun x => tiB Tryz.prog x.1 x.2) = true := by kernel_rfl
theorem qaae : (qaab.all fun x => eqB Tryz.prog x.1 x.2) = true := by kernel_rfl
def qaaf : Code := bd Tryz.f100
def qaag : List HV := [.agg hFs]
def qaah : List HV := [.one (.int .i64)]
def qaai : HP.V qaag → Fs := fun v => ((cFs v.1))
def qaaj : HX.V qaah → Int := fun v => (v)
def qaak : Int → HX.V qaah := fun y => (y)
def qaal : Fs → Option (Int) := fun x => room_Inodes x
def qaam : Spec := mkSpec qaag qaah qaai qaak qaal
def qaan : Cfg := { T := qaaa, glob := GlobL.G Tryz.prog, eqs := qaab, N := 6, fuel := 64, fid := 99 }
theorem qaao : CfgOK Tryz.prog qaan := cfgC qaad qaae trivial
theorem qaap : SpecOK Tryz.prog 99 qaam := specOK_0 Tryz.f99 qaao qaac (toY := qaaj)
def qaaq : HS := ⟨[(1, .one (.ptr 0 0)), (3, .one (.int .i64)), (7, .one (.int .i64)), (8, .one (.int .i64))], [(0, .cells hFs)], 1⟩
def qaar {R : Type} : Nat → HS.V qaaq → (Ex → St → Option R) → Option R := fun q v K =>
  room_Bytes_L3 v.1.2.2.1 (cFs v.2.1) (fun y7 => K (.exit 0) { regs := [(3, .v (.one (.int .i64 y7)))], mem := [], nx := 0 }) q v.1.2.1 v.1.2.2.2.1
def qaas : List HV := [.agg hFs]
def qaat : List HV := [.one (.int .i64)]
def qaau : HP.V qaas → Fs := fun v => ((cFs v.1))
def qaav : HX.V qaat → Int := fun v => (v)
def qaaw : Int → HX.V qaat := fun y => (y)
def qaax : Fs → Option (Int) := fun x => room_Bytes x
def qaay : Spec := mkSpec qaas qaat qaau qaaw qaax
def qaaz {R : Type} : List (Nat × Hd R) := [(3, hdOf qaaq qaar)]
def qaa0 {R : Type} : List (Nat × Inl R) := []
def qaa1 : Cfg := { T := qaaa, glob := GlobL.G Tryz.prog, eqs := qaab, N := 29, fuel := 64, loops := [(3, ⟨[1, 3, 7, 8], [], [0], 1, [], [], [], []⟩)], blocks := [(0, ⟨[3], [], [], 0, [], [], [], []⟩)], fid := 100 }
theorem qaa2 : CfgOK Tryz.prog qaa1 := cfgC qaad qaae trivial
theorem qaa3 {R : Type} : SubsOK Tryz.prog (R := R) 0 qaa0 := subsOK_nil _ _
theorem qaa4 {R : Type} : LoopOK (R := R) (hnd 0 qaa0) qaa1 qaaz (sub [1, 1, 0, 1, 0, 0] qaaf) (HS.V qaaq) (HS.st qaaq) (HS.sh qaaq) qaar (hdOf qaaq qaar) := loopOK_of qaaq qaar (fun _ _ => rfl) (by intro q v K; kernel_rfl)
theorem qaa5 {R : Type} : LoopsOK (R := R) (hnd 0 qaa0) qaa1 qaaz qaaf := loopsOK_of (l := [sub [1, 1, 0, 1, 0, 0] qaaf]) (by kernel_rfl) (loopsL_cons (b := sub [1, 1, 0, 1, 0, 0] qaaf) (rid := 3) (by kernel_rfl) (by kernel_rfl) qaa4 (trivial))
theorem qaa6 : SpecOK Tryz.prog 100 qaay := specOK_a Tryz.f100 qaa2 qaac (d := 0) qaa3 qaa5 (rngs0 (by kernel_rfl)) (toY := qaav)
def qaa7 : List HV := [.agg hFs, .one (.int .i64), .one (.int .i64)]
def qaa8 : List HV := [.one (.bool)]
def qaa9 : HP.V qaa7 → Fs × Int × Int := fun v => ((cFs v.1), v.2.1, v.2.2.1)
def qaba : HX.V qaa8 → Bool := fun v => (v)
def qabb : Bool → HX.V qaa8 := fun y => (y)
def qabc : (Fs × Int × Int) → Option (Bool) := fun x => room_Fits x.1 x.2.1 x.2.2
def qabd : Spec := mkSpec qaa7 qaa8 qaa9 qabb qabc
def qabe : Cfg := { T := qaaa, spec := [(99, qaam), (100, qaay)], glob := GlobL.G Tryz.prog, eqs := qaab, N := 23, fuel := 64, fid := 69 }
theorem qabf : CfgOK Tryz.prog qabe := cfgC qaad qaae ⟨qaap, ⟨qaa6, trivial⟩⟩
theorem qabg : SpecOK Tryz.prog 69 qabd := specOK_0 Tryz.f69 qabf qaac (toY := qaba)
end
end Go.Eng
set_option linter.unusedVariables false
set_option maxRecDepth 100000
namespace Go.Eng
noncomputable section
open Go Go.Proofs
def qabh : List (Nat × TI) := [(3, ⟨false, 1, .one (.int .i64 0), .int .i64⟩), (9, ⟨false, 1, .one (.str []), .str⟩), (32, ⟨false, 1, .one (.clip .entry []), .slice .entry 90⟩), (90, ⟨true, 2, .agg [.str [], .int .i64 0], .struct [(0, 9), (1, 3)]⟩), (153, ⟨false, 1, .one (.int .u64 0), .int .u64⟩)]
def qabi : List (Nat × List EK) := []
theorem qabj : Tryz.prog.follows .mixedOrders = true := by kernel_rfl
theorem qabk : (qabh.all fun x => tiB Tryz.prog x.1 x.2) = true := by kernel_rfl
theorem qabl : (qabi.all fun x => eqB Tryz.prog x.1 x.2) = true := by kernel_rfl
def qabm : Code := bd Tryz.f92
def qabn : Code := bd Tryz.f119
def qabo : Code := bd Tryz.f120
def qabp : HS := ⟨[(0, .one (.sl .entry)), (1, .one (.str)), (2, .one (.fnc 120)), (8, .one (.int .i64)), (9, .one (.int .i64)), (10, .one (.int .i64))], [], 0⟩
def qabq {R : Type} : Nat → HS.V qabp → (Ex → St → Option R) → Option R := fun q v K =>
  entry_at_8_L3 v.1.1 v.1.2.1 (fun y11 => K (.exit 0) { regs := [(0, .v (.one (.sl .entry v.1.1))), (1, .v (.one (.str v.1.2.1))), (2, .v (.one (.fnc 120))), (8, .v (.one (.int .i64 v.1.2.2.2.1))), (9, .v (.one (.int .i64 y11)))], mem := [], nx := 0 }) q v.1.2.2.2.2.1 v.1.2.2.2.2.2.1
def qabr : List HV := [.one (.sl .entry), .one (.str)]
def qabs : List HV := [.one (.int .i64), .one (.bool)]
def qabt : HP.V qabr → (List Entry) × Str := fun v => (v.1, v.2.1)
def qabu : HX.V qabs → Int × Bool := fun v => (v.1, v.2)
def qabv : (Int × Bool) → HX.V qabs := fun y => (y.1, y.2)
def qabw : (List Entry) × Str → Option (Int × Bool) := fun x => entry_at x.1 x.2
def qabx : Spec := mkSpec qabr qabs qabt qabv qabw
def qaby : Cfg := { T := qabh, spec := [(121, strings_Compare_sp)], glob := GlobL.G Tryz.prog, eqs := qabi, N := 9, fuel := 64, fid := 120 }
theorem qabz : CfgOK Tryz.prog qaby := cfgC qabk qabl ⟨strings_Compare_ok, trivial⟩
def qab0 {R : Type} : Inl R := .mk 120 qaby [] qabo Tryz.f120.results.toList []
def qab1 : Cfg := { T := qabh, spec := [(121, strings_Compare_sp)], glob := GlobL.G Tryz.prog, eqs := qabi, N := 9, fuel := 64, fid := 120 }
theorem qab2 : CfgOK Tryz.prog qab1 := cfgC qabk qabl ⟨strings_Compare_ok, trivial⟩
def qab3 {R : Type} : Inl R := .mk 120 qab1 [] qabo Tryz.f120.results.toList []
def qab4 {R : Type} : List (Nat × Hd R) := [(3, hdOf qabp qabq)]
def qab5 {R : Type} : List (Nat × Inl R) := [(30, qab0), (46, qab3)]
def qab6 : Cfg := { T := qabh, glob := GlobL.G Tryz.prog, eqs := qabi, N := 49, fuel := 64, loops := [(3, ⟨[0, 1, 2, 8, 9, 10], [], [], 0, [], [], [], []⟩)], blocks := [(0, ⟨[0, 1, 2, 8, 9], [], [], 0, [], [], [], []⟩)], fid := 119 }
theorem qab7 : CfgOK Tryz.prog qab6 := cfgC qabk qabl trivial
theorem qab8 {R : Type} : SubsOK Tryz.prog (R := R) 1 qab5 := subsOK_0 Tryz.f120 qabz (subsOK_0 Tryz.f120 qab2 (subsOK_nil _ _))
theorem qab9 {R : Type} : LoopOK (R := R) (hnd 1 qab5) qab6 qab4 (sub [1, 1, 1, 0, 0, 0] qabn) (HS.V qabp) (HS.st qabp) (HS.sh qabp) qabq (hdOf qabp qabq) := loopOK_of qabp qabq (fun _ _ => rfl) (by intro q v K; kernel_rfl)
theorem qaca {R : Type} : LoopsOK (R := R) (hnd 1 qab5) qab6 qab4 qabn := loopsOK_of (l := [sub [1, 1, 1, 0, 0, 0] qabn]) (by kernel_rfl) (loopsL_cons (b := sub [1, 1, 1, 0, 0, 0] qabn) (rid := 3) (by kernel_rfl) (by kernel_rfl) qab9 (trivial))
def qacb {R : Type} : Inl R := .mk 119 qab6 qab4 qabn Tryz.f119.results.toList qab5
def qacc {R : Type} : List (Nat × Hd R) := []
def qacd {R : Type} : List (Nat × Inl R) := [(8, qacb)]
def qace : Cfg := { T := qabh, glob := GlobL.G Tryz.prog, eqs := qabi, N := 11, fuel := 64, fid := 92 }
theorem qacf : CfgOK Tryz.prog qace := cfgC qabk qabl trivial
theorem qacg {R : Type} : SubsOK Tryz.prog (R := R) 2 qacd := subsOK_a Tryz.f119 qab7 qaca (rngs0 (by kernel_rfl)) qab8 (subsOK_nil _ _)
theorem qach {R : Type} : LoopsOK (R := R) (hnd 2 qacd) qace qacc qabm := loopsOK_of (l := []) (by kernel_rfl) (trivial)
theorem qaci : SpecOK Tryz.prog 92 qabx := specOK_a Tryz.f92 qacf qabj (d := 2) qacg qach (rngs0 (by kernel_rfl)) (toY := qabu)
def qacj : List HV := [.one (.sl .entry), .one (.str)]
def qack : List HV := [.one (.int .i64), .one (.bool)]
def qacl : HP.V qacj → (List Entry) × Str := fun v => (v.1, v.2.1)
def qacm : HX.V qack → Int × Bool := fun v => (v.1, v.2)
def qacn : (Int × Bool) → HX.V qack := fun y => (y.1, y.2)
def qaco : (List Entry) × Str → Option (Int × Bool) := fun x => entry_Find x.1 x.2
def qacp : Spec := mkSpec qacj qack qacl qacn qaco
def qacq : Cfg := { T := qabh, spec := [(92, qabx)], glob := GlobL.G Tryz.prog, eqs := qabi, N := 21, fuel := 64, fid := 57 }
theorem qacr : CfgOK Tryz.prog qacq := cfgC qabk qabl ⟨qaci, trivial⟩
theorem qacs : SpecOK Tryz.prog 57 qacp := specOK_0 Tryz.f57 qacr qabj (toY := qacm)
end
end Go.Eng
set_option linter.unusedVariables false
set_option maxRecDepth 100000
namespace Go.Eng
noncomputable section
open Go Go.Proofs
def qact : List (Nat × TI) := [(3, ⟨false, 1, .one (.int .i64 0), .int .i64⟩), (4, ⟨false, 1, .one (.bool false), .bool⟩), (5, ⟨false, 1, .one (.int .u8 0), .int .u8⟩), (9, ⟨false, 1, .one (.str []), .str⟩), (21, ⟨false, 1, .one (.int .i32 0), .int .i32⟩), (44, ⟨false, 1, .one (.nilf), .other⟩), (84, ⟨false, 1, .one (.clip .str []), .slice .str 9⟩), (101, ⟨true, 3, .agg [.bool false, .clip .str [], .bool false], .struct [(0, 4), (1, 84), (2, 4)]⟩), (160, ⟨true, 256, .agg [.bool false, .bool false, .bool false, .bool false, .bool false, .bool false, .bool false, .bool false, .bool false, .bool false, .bool false, .bool false, .bool false, .bool false, .bool false, .bool false, .bool false, .bool false, .bool false, .bool false, .bool false, .bool false, .bool false, .bool false, .bool false, .bool false, .bool false, .bool false, .bool false, .bool false, .bool false, .bool false, .bool false, .bool false, .bool false, .bool false, .bool false, .bool false, .bool false, .bool false, .bool false, .bool false, .bool false, .bool false, .bool false, .bool false, .bool false, .bool false, .bool false, .bool false, .bool false, .bool false, .bool false, .bool false, .bool false, .bool false, .bool false, .bool false, .bool false, .bool false, .bool false, .bool false, .bool false, .bool false, .bool false, .bool false, .bool false, .bool false, .bool false, .bool false, .bool false, .bool false, .bool false, .bool false, .bool false, .bool false, .bool false, .bool false, .bool false, .bool false, .bool false, .bool false, .bool false, .bool false, .bool false, .bool false, .bool false, .bool false, .bool false, .bool false, .bool false, .bool false, .bool false, .bool false, .bool false, .bool false, .bool false, .bool false, .bool false, .bool false, .bool false, .bool false, .bool false, .bool false, .bool false, .bool false, .bool false, .bool false, .bool false, .bool false, .bool false, .bool false, .bool false, .bool false, .bool false, .bool false, .bool false, .bool false, .bool false, .bool false, .bool false, .bool false, .bool false, .bool false, .bool false, .bool false, .bool false, .bool false, .bool false, .bool false, .bool false, .bool false, .bool false, .bool false, .bool false, .bool false, .bool false, .bool false, .bool false, .bool false, .bool false, .bool false, .bool false, .bool false, .bool false, .bool false, .bool false, .bool false, .bool false, .bool false, .bool false, .bool false, .bool false, .bool false, .bool false, .bool false, .bool false, .bool false, .bool false, .bool false, .bool false, .bool false, .bool false, .bool false, .bool false, .bool false, .bool false, .bool false, .bool false, .bool false, .bool false, .bool false, .bool false, .bool false, .bool false, .bool false, .bool false, .bool false, .bool false, .bool false, .bool false, .bool false, .bool false, .bool false, .bool false, .bool false, .bool false, .bool false, .bool false, .bool false, .bool false, .bool false, .bool false, .bool false, .bool false, .bool false, .bool false, .bool false, .bool false, .bool false, .bool false, .bool false, .bool false, .bool false, .bool false, .bool false, .bool false, .bool false, .bool false, .bool false, .bool false, .bool false, .bool false, .bool false, .bool false, .bool false, .bool false, .bool false, .bool false, .bool false, .bool false, .bool false, .bool false, .bool false, .bool false, .bool false, .bool false, .bool false, .bool false, .bool false, .bool false, .bool false, .bool false, .bool false, .bool false, .bool false, .bool false, .bool false, .bool false, .bool false, .bool false, .bool false, .bool false, .bool false, .bool false, .bool false, .bool false, .bool false, .bool false, .bool false, .bool false, .bool false, .bool false, .bool false, .bool false, .bool false], .array 256 4⟩)]
def qacu : List (Nat × List EK) := []
theorem qacv : Tryz.prog.follows .mixedOrders = true := by kernel_rfl
theorem qacw : (qact.all fun x => tiB Tryz.prog x.1 x.2) = true := by kernel_rfl
theorem qacx : (qacu.all fun x => eqB Tryz.prog x.1 x.2) = true := by kernel_rfl
def qacy : Code := bd Tryz.f55
def qacz : Code := bd Tryz.f78
def qac0 : Code := bd Tryz.f79
def qac1 : Code := bd Tryz.f85
def qac2 : Code := bd Tryz.f86
def qac3 : Code := bd Tryz.f88
def qac4 : Code := bd Tryz.f89
def qac5 : Code := bd Tryz.f107
def qac6 : Code := bd Tryz.f108
def qac7 : Code := bd Tryz.f110
def qac8 : Code := bd Tryz.f111
def qac9 : Code := bd Tryz.f112
def qada : Code := bd Tryz.f114
def qadb : Code := bd Tryz.f115
def qadc : Code := bd Tryz.f126
def qadd : Code := bd Tryz.f127
def qade : Code := bd Tryz.f129
def qadf : Code := bd Tryz.f133
def qadg : Code := bd Tryz.f138
def qadh : Code := bd Tryz.f140
def qadi : Code := bd Tryz.f143
def qadj : Code := bd Tryz.f144
def qadk : Code := bd Tryz.f145
def qadl : Code := bd Tryz.f146
def qadm : Code := bd Tryz.f151
def qadn : Code := bd Tryz.f154
def qado : Code := bd Tryz.f155
def qadp : List HV := [.one (.sl .str)]
def qadq : List HV := [.one (.str)]
def qadr : HP.V qadp → (List Str) := fun v => (v.1)
def qads : HX.V qadq → Str := fun v => (v)
def qadt : Str → HX.V qadq := fun y => (y)
def qadu : (List Str) → Option (Str) := fun x => path_Join x
def qadv : Spec := mkSpec qadp qadq qadr qadt qadu
def qadw : Cfg := { T := qact, spec := [(113, strings_Join_sp)], glob := GlobL.G Tryz.prog, eqs := qacu, N := 9, fuel := 64, fid := 87 }
theorem qadx : CfgOK Tryz.prog qadw := cfgC qacw qacx ⟨strings_Join_ok, trivial⟩
theorem qady : SpecOK Tryz.prog 87 qadv := specOK_0 Tryz.f87 qadx qacv (toY := qads)
def qadz : HS := ⟨[(0, .one (.str)), (6, .one (.ptr 1 0)), (8, .one (.int .i64))], [(1, .cells [.boolk true, .boolk false, .boolk false, .boolk false, .boolk false, .boolk false, .boolk false, .boolk false, .boolk false, .boolk false, .boolk false, .boolk false, .boolk false, .boolk false, .boolk false, .boolk false, .boolk false, .boolk false, .boolk false, .boolk false, .boolk false, .boolk false, .boolk false, .boolk false, .boolk false, .boolk false, .boolk false, .boolk false, .boolk false, .boolk false, .boolk false, .boolk false, .boolk false, .boolk false, .boolk false, .boolk false, .boolk false, .boolk false, .boolk false, .boolk false, .boolk false, .boolk false, .boolk false, .boolk false, .boolk false, .boolk false, .boolk false, .boolk true, .boolk false, .boolk false, .boolk false, .boolk false, .boolk false, .boolk false, .boolk false, .boolk false, .boolk false, .boolk false, .boolk false, .boolk false, .boolk false, .boolk false, .boolk false, .boolk false, .boolk false, .boolk false, .boolk false, .boolk false, .boolk false, .boolk false, .boolk false, .boolk false, .boolk false, .boolk false, .boolk false, .boolk false, .boolk false, .boolk false, .boolk false, .boolk false, .boolk false, .boolk false, .boolk false, .boolk false, .boolk false, .boolk false, .boolk false, .boolk false, .boolk false, .boolk false, .boolk false, .boolk false, .boolk false, .boolk false, .boolk false, .boolk false, .boolk false, .boolk false, .boolk false, .boolk false, .boolk false, .boolk false, .boolk false, .boolk false, .boolk false, .boolk false, .boolk false, .boolk false, .boolk false, .boolk false, .boolk false, .boolk false, .boolk false, .boolk false, .boolk false, .boolk false, .boolk false, .boolk false, .boolk false, .boolk false, .boolk false, .boolk false, .boolk false, .boolk false, .boolk false, .boolk false, .boolk false, .boolk false, .boolk false, .boolk false, .boolk false, .boolk false, .boolk false, .boolk false, .boolk false, .boolk false, .boolk false, .boolk false, .boolk false, .boolk false, .boolk false, .boolk false, .boolk false, .boolk false, .boolk false, .boolk false, .boolk false, .boolk false, .boolk false, .boolk false, .boolk false, .boolk false, .boolk false, .boolk false, .boolk false, .boolk false, .boolk false, .boolk false, .boolk false, .boolk false, .boolk false, .boolk false, .boolk false, .boolk false, .boolk false, .boolk false, .boolk false, .boolk false, .boolk false, .boolk false, .boolk false, .boolk false, .boolk false, .boolk false, .boolk false, .boolk false, .boolk false, .boolk false, .boolk false, .boolk false, .boolk false, .boolk false, .boolk false, .boolk false, .boolk false, .boolk false, .boolk false, .boolk false, .boolk false, .boolk false, .boolk false, .boolk false, .boolk false, .boolk false, .boolk false, .boolk false, .boolk false, .boolk false, .boolk false, .boolk false, .boolk false, .boolk false, .boolk false, .boolk false, .boolk false, .boolk false, .boolk false, .boolk false, .boolk false, .boolk false, .boolk false, .boolk false, .boolk false, .boolk false, .boolk false, .boolk false, .boolk false, .boolk false, .boolk false, .boolk false, .boolk false, .boolk false, .boolk false, .boolk false, .boolk false, .boolk false, .boolk false, .boolk false, .boolk false, .boolk false, .boolk false, .boolk false, .boolk false, .boolk false, .boolk false, .boolk false, .boolk false, .boolk false, .boolk false, .boolk false, .boolk false, .boolk false, .boolk false, .boolk false, .boolk false, .boolk false, .boolk false, .boolk false, .boolk false, .boolk false, .boolk false, .boolk false, .boolk false, .boolk false, .boolk false, .boolk false])], 2⟩
def qad0 {R : Type} : Nat → HS.V qadz → (Ex → St → Option R) → Option R := fun q v K =>
  strings_ContainsAny_7_L12 v.1.1 (fun y5 => K .ret { regs := [(4, .v (.one (.int .i64 y5)))], mem := [], nx := 0 }) (K (.exit 0) { regs := [], mem := [], nx := 0 }) q v.1.2.2.1
def qad1 : HS := ⟨[(175, .one (.iter 1)), (1000001, .one (.strk ([47, 0] : Str))), (1000009, .one (.int .i64)), (1000045, .one (.iter 0))], [(0, .iter), (1, .iter)], 2⟩
def qad2 {R : Type} : Nat → HS.V qad1 → (Ex → St → Option R) → Option R := fun q v K =>
  strings_ContainsAny_7_52_L38 v.2.2.1.1 (fun y15 => K .ret { regs := [(4, .v (.one (.int .i64 y15))), (1000001, .v (.one (.str ([47, 0] : Str)))), (1000009, .v (.one (.int .i64 v.1.2.2.1))), (1000045, .v (.one (.iter 0)))], mem := [(0, .iter v.2.1.1 v.2.1.2)], nx := 1 }) (K (.exit 9) { regs := [(1000001, .v (.one (.str ([47, 0] : Str)))), (1000009, .v (.one (.int .i64 v.1.2.2.1))), (1000045, .v (.one (.iter 0)))], mem := [(0, .iter v.2.1.1 v.2.1.2)], nx := 1 }) q v.2.2.1.2
def qad3 : HS := ⟨[(0, .one (.strk ([47, 0] : Str))), (7, .one (.str)), (8, .one (.int .i64)), (9, .one (.int .i64)), (12, .one (.int .i64)), (1000001, .one (.strk ([47, 0] : Str))), (1000009, .one (.int .i64)), (1000045, .one (.iter 0))], [(0, .iter)], 1⟩
def qad4 {R : Type} : Nat → HS.V qad3 → (Ex → St → Option R) → Option R := fun q v K =>
  strings_ContainsAny_7_52_L12 v.1.2.1 v.1.2.2.1 v.1.2.2.2.1 (K (.exit 3) { regs := [(8, .v (.one (.int .i64 v.1.2.2.1))), (9, .v (.one (.int .i64 v.1.2.2.2.1))), (1000001, .v (.one (.str ([47, 0] : Str)))), (1000009, .v (.one (.int .i64 v.1.2.2.2.2.2.2.1))), (1000045, .v (.one (.iter 0)))], mem := [(0, .iter v.2.1.1 v.2.1.2)], nx := 1 }) q v.1.2.2.2.2.1
def qad5 : HS := ⟨[(0, .one (.strk ([47, 0] : Str))), (7, .one (.str)), (8, .one (.int .i64)), (9, .one (.int .i64)), (1000001, .one (.strk ([47, 0] : Str))), (1000009, .one (.int .i64)), (1000045, .one (.iter 0))], [(0, .iter)], 1⟩
def qad6 {R : Type} : Nat → HS.V qad5 → (Ex → St → Option R) → Option R := fun q v K =>
  strings_ContainsAny_7_52_L5 v.1.2.1 v.1.2.2.1 v.1.2.2.2.1 (fun y50 => K .ret { regs := [(4, .v (.one (.int .i64 y50))), (1000001, .v (.one (.str ([47, 0] : Str)))), (1000009, .v (.one (.int .i64 v.1.2.2.2.2.2.1))), (1000045, .v (.one (.iter 0)))], mem := [(0, .iter v.2.1.1 v.2.1.2)], nx := 1 }) (K (.exit 1) { regs := [(1000001, .v (.one (.str ([47, 0] : Str)))), (1000009, .v (.one (.int .i64 v.1.2.2.2.2.2.1))), (1000045, .v (.one (.iter 0)))], mem := [(0, .iter v.2.1.1 v.2.1.2)], nx := 1 }) q
def qad7 : HS := ⟨[(1, .one (.strk ([47, 0] : Str))), (45, .one (.iter 0))], [(0, .iter)], 1⟩
def qad8 {R : Type} : Nat → HS.V qad7 → (Ex → St → Option R) → Option R := fun q v K =>
  strings_ContainsAny_7_L18 v.2.1.1 (fun y66 => K .ret { regs := [(4, .v (.one (.int .i64 y66)))], mem := [], nx := 0 }) (K (.exit 2) { regs := [], mem := [], nx := 0 }) q v.2.1.2
def qad9 : List HV := [.one (.str), .one (.strk ([47, 0] : Str))]
def qaea : List HV := [.one (.bool)]
def qaeb : HP.V qad9 → Str := fun v => (v.1)
def qaec : HX.V qaea → Bool := fun v => (v)
def qaed : Bool → HX.V qaea := fun y => (y)
def qaee : Str → Option (Bool) := fun x => strings_ContainsAny x
def qaef : Spec := mkSpec qad9 qaea qaeb qaed qaee
def qaeg : Cfg := { T := qact, glob := GlobL.G Tryz.prog, eqs := qacu, N := 5, fuel := 64, fid := 144 }
theorem qaeh : CfgOK Tryz.prog qaeg := cfgC qacw qacx trivial
def qaei {R : Type} : Inl R := .mk 144 qaeg [] qadj Tryz.f144.results.toList []
def qaej {R : Type} : List (Nat × Hd R) := []
def qaek {R : Type} : List (Nat × Inl R) := []
def qael : Cfg := { T := qact, glob := GlobL.G Tryz.prog, eqs := qacu, N := 21, fuel := 64, loops := [(2, ⟨[0, 2, 4, 1000000, 1000001], [], [0], 1, [], [], [], []⟩)], blocks := [(0, ⟨[2, 1000000, 1000001], [], [0], 1, [], [], [], []⟩)], retA := some ⟨[2, 3, 1000000, 1000001], [], [0], 1, [], [], [], []⟩, fid := 145 }
theorem qaem : CfgOK Tryz.prog qael := cfgC qacw qacx trivial
theorem qaen {R : Type} : SubsOK Tryz.prog (R := R) 1 qaek := subsOK_nil _ _
theorem qaeo {R : Type} : LoopsOK (R := R) (hnd 1 qaek) qael qaej qadk := loopsOK_of (l := [sub [1, 0, 1, 0, 0] qadk]) (by kernel_rfl) (loopsL_skip (b := sub [1, 0, 1, 0, 0] qadk) (rid := 2) (by kernel_rfl) (by kernel_rfl) (trivial))
def qaep {R : Type} : Inl R := .mk 145 qael qaej qadk Tryz.f145.results.toList qaek
def qaeq : Cfg := { T := qact, glob := GlobL.G Tryz.prog, eqs := qacu, N := 10, fuel := 64, fid := 146 }
theorem qaer : CfgOK Tryz.prog qaeq := cfgC qacw qacx trivial
def qaes {R : Type} : Inl R := .mk 146 qaeq [] qadl Tryz.f146.results.toList []
def qaet : Cfg := { T := qact, spec := [(158, stringslite_IndexByte_sp)], glob := GlobL.G Tryz.prog, eqs := qacu, N := 8, fuel := 64, fid := 154 }
theorem qaeu : CfgOK Tryz.prog qaet := cfgC qacw qacx ⟨stringslite_IndexByte_ok, trivial⟩
def qaev {R : Type} : Inl R := .mk 154 qaet [] qadn Tryz.f154.results.toList []
def qaew : Cfg := { T := qact, glob := GlobL.G Tryz.prog, eqs := qacu, N := 17, fuel := 64, fid := 155 }
theorem qaex : CfgOK Tryz.prog qaew := cfgC qacw qacx trivial
def qaey {R : Type} : Inl R := .mk 155 qaew [] qado Tryz.f155.results.toList []
def qaez : Cfg := { T := qact, spec := [(158, stringslite_IndexByte_sp)], glob := GlobL.G Tryz.prog, eqs := qacu, N := 8, fuel := 64, fid := 154 }
theorem qae0 : CfgOK Tryz.prog qaez := cfgC qacw qacx ⟨stringslite_IndexByte_ok, trivial⟩
def qae1 {R : Type} : Inl R := .mk 154 qaez [] qadn Tryz.f154.results.toList []
def qae2 {R : Type} : List (Nat × Hd R) := [(38, hdOf qad1 qad2), (5, hdOf qad5 qad6), (12, hdOf qad3 qad4)]
def qae3 {R : Type} : List (Nat × Inl R) := [(170, qaev), (185, qaey), (41, qae1)]
def qae4 : Cfg := { T := qact, glob := GlobL.G Tryz.prog, eqs := qacu, N := 187, fuel := 64, loops := [(38, ⟨[175, 1000001, 1000009, 1000045], [], [0, 1], 2, [], [], [], []⟩), (12, ⟨[0, 7, 8, 9, 12, 1000001, 1000009, 1000045], [], [0], 1, [], [], [], []⟩), (5, ⟨[0, 7, 8, 9, 1000001, 1000009, 1000045], [], [0], 1, [], [], [], []⟩)], blocks := [(9, ⟨[1000001, 1000009, 1000045], [], [0], 1, [], [], [], []⟩), (1, ⟨[1000001, 1000009, 1000045], [], [0], 1, [], [], [], []⟩), (3, ⟨[8, 9, 1000001, 1000009, 1000045], [], [0], 1, [], [], [], []⟩)], retA := some ⟨[4, 1000001, 1000009, 1000045], [], [0], 1, [], [], [], []⟩, fid := 143 }
theorem qae5 : CfgOK Tryz.prog qae4 := cfgC qacw qacx trivial
theorem qae6 {R : Type} : SubsOK Tryz.prog (R := R) 1 qae3 := subsOK_0 Tryz.f154 qaeu (subsOK_0 Tryz.f155 qaex (subsOK_0 Tryz.f154 qae0 (subsOK_nil _ _)))
theorem qae7 {R : Type} : LoopOK (R := R) (hnd 1 qae3) qae4 qae2 (sub [1, 0, 1, 1, 1, 0, 0, 1, 0, 0] qadi) (HS.V qad1) (HS.st qad1) (HS.sh qad1) qad2 (hdOf qad1 qad2) := loopOK_of qad1 qad2 (fun _ _ => rfl) (by intro q v K; kernel_rfl)
theorem qae8 {R : Type} : LoopOK (R := R) (hnd 1 qae3) qae4 qae2 (sub [1, 0, 1, 1, 1, 1, 1, 1, 0, 1, 1, 1, 1, 0, 0, 0] qadi) (HS.V qad5) (HS.st qad5) (HS.sh qad5) qad6 (hdOf qad5 qad6) := loopOK_of qad5 qad6 (fun _ _ => rfl) (by intro q v K; kernel_rfl)
theorem qae9 {R : Type} : LoopOK (R := R) (hnd 1 qae3) qae4 qae2 (sub [1, 0, 1, 1, 1, 1, 1, 1, 0, 1, 1, 1, 1, 0, 0, 0, 1, 0, 0, 1, 0, 1, 0, 0] qadi) (HS.V qad3) (HS.st qad3) (HS.sh qad3) qad4 (hdOf qad3 qad4) := loopOK_of qad3 qad4 (fun _ _ => rfl) (by intro q v K; kernel_rfl)
theorem qafa {R : Type} : LoopsOK (R := R) (hnd 1 qae3) qae4 qae2 qadi := loopsOK_of (l := [sub [1, 0, 1, 1, 1, 0, 0, 1, 0, 0] qadi, sub [1, 0, 1, 1, 1, 1, 1, 1, 0, 1, 1, 1, 1, 0, 0, 0] qadi, sub [1, 0, 1, 1, 1, 1, 1, 1, 0, 1, 1, 1, 1, 0, 0, 0, 1, 0, 0, 1, 0, 1, 0, 0] qadi, sub [1, 0, 1, 1, 1, 1, 1, 1, 0, 1, 1, 1, 1, 1, 1, 1, 0, 1, 0, 1, 1, 1, 0, 0] qadi, sub [1, 0, 1, 1, 1, 1, 1, 1, 0, 1, 1, 1, 1, 1, 1, 1, 0, 1, 0, 1, 1, 1, 0, 0, 1, 0, 0, 1, 0, 0, 1, 0, 0] qadi]) (by kernel_rfl) (loopsL_cons (b := sub [1, 0, 1, 1, 1, 0, 0, 1, 0, 0] qadi) (rid := 38) (by kernel_rfl) (by kernel_rfl) qae7 (loopsL_cons (b := sub [1, 0, 1, 1, 1, 1, 1, 1, 0, 1, 1, 1, 1, 0, 0, 0] qadi) (rid := 5) (by kernel_rfl) (by kernel_rfl) qae8 (loopsL_cons (b := sub [1, 0, 1, 1, 1, 1, 1, 1, 0, 1, 1, 1, 1, 0, 0, 0, 1, 0, 0, 1, 0, 1, 0, 0] qadi) (rid := 12) (by kernel_rfl) (by kernel_rfl) qae9 (loopsL_skip (b := sub [1, 0, 1, 1, 1, 1, 1, 1, 0, 1, 1, 1, 1, 1, 1, 1, 0, 1, 0, 1, 1, 1, 0, 0] qadi) (rid := 25) (by kernel_rfl) (by kernel_rfl) (loopsL_skip (b := sub [1, 0, 1, 1, 1, 1, 1, 1, 0, 1, 1, 1, 1, 1, 1, 1, 0, 1, 0, 1, 1, 1, 0, 0, 1, 0, 0, 1, 0, 0, 1, 0, 0] qadi) (rid := 29) (by kernel_rfl) (by kernel_rfl) (trivial))))))
def qafb {R : Type} : Inl R := .mk 143 qae4 qae2 qadi Tryz.f143.results.toList qae3
def qafc {R : Type} : List (Nat × Hd R) := [(12, hdOf qadz qad0), (18, hdOf qad7 qad8)]
def qafd {R : Type} : List (Nat × Inl R) := [(26, qaei), (29, qaep), (42, qaes), (52, qafb)]
def qafe : Cfg := { T := qact, glob := GlobL.G Tryz.prog, eqs := qacu, N := 55, fuel := 64, loops := [(18, ⟨[1, 45], [], [0], 1, [], [], [], []⟩), (12, ⟨[0, 6, 8], [], [1], 2, [], [], [], []⟩)], blocks := [(2, ⟨[], [], [], 0, [], [], [], []⟩), (0, ⟨[], [], [], 0, [], [], [], []⟩)], retA := some ⟨[4], [], [], 0, [], [], [], []⟩, fid := 133 }
theorem qaff : CfgOK Tryz.prog qafe := cfgC qacw qacx trivial
theorem qafg {R : Type} : SubsOK Tryz.prog (R := R) 2 qafd := subsOK_0 Tryz.f144 qaeh (subsOK_a Tryz.f145 qaem qaeo (rngs0 (by kernel_rfl)) qaen (subsOK_0 Tryz.f146 qaer (subsOK_a Tryz.f143 qae5 qafa (rngs0 (by kernel_rfl)) qae6 (subsOK_nil _ _))))
theorem qafh {R : Type} : LoopOK (R := R) (hnd 2 qafd) qafe qafc (sub [1, 1, 1, 0, 1, 0, 1, 1, 0, 0, 1, 0, 0] qadf) (HS.V qadz) (HS.st qadz) (HS.sh qadz) qad0 (hdOf qadz qad0) := loopOK_of qadz qad0 (fun _ _ => rfl) (by intro q v K; kernel_rfl)
theorem qafi {R : Type} : LoopOK (R := R) (hnd 2 qafd) qafe qafc (sub [1, 1, 1, 1, 0, 1, 0, 0] qadf) (HS.V qad7) (HS.st qad7) (HS.sh qad7) qad8 (hdOf qad7 qad8) := loopOK_of qad7 qad8 (fun _ _ => rfl) (by intro q v K; kernel_rfl)
theorem qafj {R : Type} : LoopsOK (R := R) (hnd 2 qafd) qafe qafc qadf := loopsOK_of (l := [sub [1, 1, 1, 0, 1, 0, 1, 1, 0, 0, 1, 0, 0] qadf, sub [1, 1, 1, 1, 0, 1, 0, 0] qadf]) (by kernel_rfl) (loopsL_cons (b := sub [1, 1, 1, 0, 1, 0, 1, 1, 0, 0, 1, 0, 0] qadf) (rid := 12) (by kernel_rfl) (by kernel_rfl) qafh (loopsL_cons (b := sub [1, 1, 1, 1, 0, 1, 0, 0] qadf) (rid := 18) (by kernel_rfl) (by kernel_rfl) qafi (trivial)))
def qafk {R : Type} : Inl R := .mk 133 qafe qafc qadf Tryz.f133.results.toList qafd
def qafl {R : Type} : List (Nat × Hd R) := []
def qafm {R : Type} : List (Nat × Inl R) := [(7, qafk)]
def qafn : Cfg := { T := qact, glob := GlobL.G Tryz.prog, eqs := qacu, N := 9, fuel := 64, fid := 115 }
theorem qafo : CfgOK Tryz.prog qafn := cfgC qacw qacx trivial
theorem qafp {R : Type} : SubsOK Tryz.prog (R := R) 3 qafm := subsOK_a Tryz.f133 qaff qafj (rngs0 (by kernel_rfl)) qafg (subsOK_nil _ _)
theorem qafq {R : Type} : LoopsOK (R := R) (hnd 3 qafm) qafn qafl qadb := loopsOK_of (l := []) (by kernel_rfl) (trivial)
theorem qafr : SpecOK Tryz.prog 115 qaef := specOK_a Tryz.f115 qafo qacv (d := 3) qafp qafq (rngs0 (by kernel_rfl)) (toY := qaec)
def qafs : List HV := [.one (.str)]
def qaft : List HV := [.one (.bool)]
def qafu : HP.V qafs → Str := fun v => (v.1)
def qafv : HX.V qaft → Bool := fun v => (v)
def qafw : Bool → HX.V qaft := fun y => (y)
def qafx : Str → Option (Bool) := fun x => path_May x
def qafy : Spec := mkSpec qafs qaft qafu qafw qafx
def qafz : Cfg := { T := qact, spec := [(115, qaef)], glob := GlobL.G Tryz.prog, eqs := qacu, N := 23, fuel := 64, fid := 90 }
theorem qaf0 : CfgOK Tryz.prog qafz := cfgC qacw qacx ⟨qafr, trivial⟩
theorem qaf1 : SpecOK Tryz.prog 90 qafy := specOK_0 Tryz.f90 qaf0 qacv (toY := qafv)
def qaf2 : HS := ⟨[(0, .one (.yld 9)), (1, .one (.ptr 6 0)), (2, .one (.ptr 5 0)), (3, .one (.ptr 7 0)), (2000002, .one (.ptr 2 0)), (4000000, .one (.str))], [(2, .cells [.own 10]), (3, .loop true 13 110 3 [(2, .one (.ptr 2 0))]), (4, .cells [.yld 3]), (5, .cells [.str]), (6, .cells [.strk ([47] : Str)]), (7, .cells [.intk .i64 (0 : Int)]), (9, .loop true 15 111 3 [(2, .one (.ptr 4 0))]), (10, .row .str)], 11⟩
def qaf3 {R : Type} : Nat → HS.V qaf2 → (Ex → St → Option R) → Option R := fun q v K =>
  path_Plain_7_4_1000003_1000003_L5 (fun y6 y7 => K (.exit 2) { regs := [(0, .v (.one (.yld 9))), (2, .v (.one (.ptr 5 0))), (2000002, .v (.one (.ptr 2 0))), (4000000, .v (.one (.str v.1.2.2.2.2.2.1)))], mem := [(2, .cells [.own 10]), (3, .loop true 13 110 3 [(2, .v (.one (.ptr 2 0)))]), (4, .cells [.yld 3]), (5, .cells [.str y6]), (9, .loop true 15 111 3 [(2, .v (.one (.ptr 4 0)))]), (10, .row .str y7)], nx := 11 }) q v.2.2.2.2.1.1 v.2.2.2.2.2.2.2.2.1
def qaf4 : HS := ⟨[(0, .one (.own 10)), (1, .one (.fnc 89)), (7, .one (.int .i64)), (8, .one (.int .i64)), (2000004, .one (.own 10)), (2000012, .one (.bool))], [(10, .row .str)], 11⟩
def qaf5 {R : Type} : Nat → HS.V qaf4 → (Ex → St → Option R) → Option R := fun q v K =>
  path_Plain_14_7_L2 v.1.2.2.1 v.2.1 (fun y17 => K .ret { regs := [(4, .v (.one (.int .i64 y17))), (2000004, .v (.one (.own 10))), (2000012, .v (.one (.bool v.1.2.2.2.2.2.1)))], mem := [(10, .row .str v.2.1)], nx := 11 }) (K (.exit 0) { regs := [(2000004, .v (.one (.own 10))), (2000012, .v (.one (.bool v.1.2.2.2.2.2.1)))], mem := [(10, .row .str v.2.1)], nx := 11 }) q v.1.2.2.2.1
def qaf6 : List HV := [.one (.str)]
def qaf7 : List HV := [.one (.sl .str), .one (.bool)]
def qaf8 : HP.V qaf6 → Str := fun v => (v.1)
def qaf9 : HX.V qaf7 → (List Str) × Bool := fun v => (v.1, v.2)
def qaga : (List Str) × Bool → HX.V qaf7 := fun y => (y.1, y.2)
def qagb : Str → Option ((List Str) × Bool) := fun x => path_Plain x
def qagc : Spec := mkSpec qaf6 qaf7 qaf8 qaga qagb
def qagd : Cfg := { T := qact, spec := [(87, qadv)], glob := GlobL.G Tryz.prog, eqs := qacu, N := 4, fuel := 64, fid := 86 }
theorem qage : CfgOK Tryz.prog qagd := cfgC qacw qacx ⟨qady, trivial⟩
def qagf {R : Type} : Inl R := .mk 86 qagd [] qac2 Tryz.f86.results.toList []
def qagg : Cfg := { T := qact, spec := [(87, qadv)], glob := GlobL.G Tryz.prog, eqs := qacu, N := 8, fuel := 64, fid := 129 }
theorem qagh : CfgOK Tryz.prog qagg := cfgC qacw qacx ⟨qady, trivial⟩
def qagi {R : Type} : Inl R := .mk 129 qagg [] qade Tryz.f129.results.toList []
def qagj {R : Type} : List (Nat × Hd R) := []
def qagk {R : Type} : List (Nat × Inl R) := [(7, qagi)]
def qagl : Cfg := { T := qact, spec := [(87, qadv)], glob := GlobL.G Tryz.prog, eqs := qacu, N := 8, fuel := 64, fid := 112 }
theorem qagm : CfgOK Tryz.prog qagl := cfgC qacw qacx ⟨qady, trivial⟩
theorem qagn {R : Type} : SubsOK Tryz.prog (R := R) 2 qagk := subsOK_0 Tryz.f129 qagh (subsOK_nil _ _)
theorem qago {R : Type} : LoopsOK (R := R) (hnd 2 qagk) qagl qagj qac9 := loopsOK_of (l := []) (by kernel_rfl) (trivial)
def qagp {R : Type} : Inl R := .mk 112 qagl qagj qac9 Tryz.f112.results.toList qagk
def qagq {R : Type} : List (Nat × Hd R) := []
def qagr {R : Type} : List (Nat × Inl R) := []
def qags : Cfg := { T := qact, spec := [(87, qadv), (158, stringslite_IndexByte_sp)], glob := GlobL.G Tryz.prog, eqs := qacu, N := 143, fuel := 64, retA := some ⟨[4, 2000000, 2000001, 2000002, 2000003, 4000002, 6000000], [], [2, 3, 4, 5, 6, 7, 9, 10], 11, [], [], [], []⟩, fid := 151 }
theorem qagt : CfgOK Tryz.prog qags := cfgC qacw qacx ⟨qady, ⟨stringslite_IndexByte_ok, trivial⟩⟩
theorem qagu {R : Type} : SubsOK Tryz.prog (R := R) 0 qagr := subsOK_nil _ _
theorem qagv {R : Type} : LoopsOK (R := R) (hnd 0 qagr) qags qagq qadm := loopsOK_of (l := [sub [1, 1, 1, 1, 1, 1, 1, 1, 0, 0, 0] qadm]) (by kernel_rfl) (loopsL_skip (b := sub [1, 1, 1, 1, 1, 1, 1, 1, 0, 0, 0] qadm) (rid := 15) (by kernel_rfl) (by kernel_rfl) (trivial))
def qagw {R : Type} : Inl R := .mk 151 qags qagq qadm Tryz.f151.results.toList qagr
def qagx {R : Type} : List (Nat × Hd R) := []
def qagy {R : Type} : List (Nat × Inl R) := [(7, qagw)]
def qagz : Cfg := { T := qact, spec := [(87, qadv)], glob := GlobL.G Tryz.prog, eqs := qacu, N := 8, fuel := 64, fid := 140 }
theorem qag0 : CfgOK Tryz.prog qagz := cfgC qacw qacx ⟨qady, trivial⟩
theorem qag1 {R : Type} : SubsOK Tryz.prog (R := R) 1 qagy := subsOK_a Tryz.f151 qagt qagv (rngs0 (by kernel_rfl)) qagu (subsOK_nil _ _)
theorem qag2 {R : Type} : LoopsOK (R := R) (hnd 1 qagy) qagz qagx qadh := loopsOK_of (l := []) (by kernel_rfl) (trivial)
def qag3 {R : Type} : Inl R := .mk 140 qagz qagx qadh Tryz.f140.results.toList qagy
def qag4 : Code := (rngGet 3 qac7).2.1
def qag5 : Code := (rngGet 3 qac7).2.2
def qag6 {R : Type} : List (Nat × Hd R) := []
def qag7 {R : Type} : List (Nat × Inl R) := []
def qag8 : Cfg := { T := qact, spec := [(87, qadv)], glob := GlobL.G Tryz.prog, eqs := qacu, N := 13, fuel := 64, fid := 110, rnd := true }
theorem qag9 : CfgOK Tryz.prog qag8 := cfgC qacw qacx ⟨qady, trivial⟩
theorem qaha {R : Type} : SubsOK Tryz.prog (R := R) 0 qag7 := subsOK_nil _ _
theorem qahb {R : Type} : LoopsOK (R := R) (hnd 0 qag7) qag8 qag6 qag4 := loopsOK_of (l := []) (by kernel_rfl) (trivial)
theorem qahc {R : Type} : LoopsOK (R := R) (hnd 0 qag7) qag8 qag6 qag5 := loopsOK_of (l := []) (by kernel_rfl) (trivial)
def qahd {R : Type} : Inl R := .rnd 110 3 qag8 qag6 [7] qag4 qag5 qag7
def qahe : Code := (rngGet 3 qac8).2.1
def qahf : Code := (rngGet 3 qac8).2.2
def qahg {R : Type} : List (Nat × Hd R) := []
def qahh {R : Type} : List (Nat × Inl R) := [(12, qahd)]
def qahi : Cfg := { T := qact, spec := [(87, qadv)], glob := GlobL.G Tryz.prog, eqs := qacu, N := 15, fuel := 64, fid := 111, rnd := true }
theorem qahj : CfgOK Tryz.prog qahi := cfgC qacw qacx ⟨qady, trivial⟩
theorem qahk {R : Type} : SubsOK Tryz.prog (R := R) 1 qahh := subsOK_round (by kernel_rfl) qag9 qahb qahc qaha (subsOK_nil _ _)
theorem qahl {R : Type} : LoopsOK (R := R) (hnd 1 qahh) qahi qahg qahe := loopsOK_of (l := []) (by kernel_rfl) (trivial)
theorem qahm {R : Type} : LoopsOK (R := R) (hnd 1 qahh) qahi qahg qahf := loopsOK_of (l := []) (by kernel_rfl) (trivial)
def qahn {R : Type} : Inl R := .rnd 111 3 qahi qahg [6] qahe qahf qahh
def qaho : Code := (rngGet 3 qac7).2.1
def qahp : Code := (rngGet 3 qac7).2.2
def qahq {R : Type} : List (Nat × Hd R) := []
def qahr {R : Type} : List (Nat × Inl R) := []
def qahs : Cfg := { T := qact, spec := [(87, qadv)], glob := GlobL.G Tryz.prog, eqs := qacu, N := 13, fuel := 64, fid := 110, rnd := true }
theorem qaht : CfgOK Tryz.prog qahs := cfgC qacw qacx ⟨qady, trivial⟩
theorem qahu {R : Type} : SubsOK Tryz.prog (R := R) 0 qahr := subsOK_nil _ _
theorem qahv {R : Type} : LoopsOK (R := R) (hnd 0 qahr) qahs qahq qaho := loopsOK_of (l := []) (by kernel_rfl) (trivial)
theorem qahw {R : Type} : LoopsOK (R := R) (hnd 0 qahr) qahs qahq qahp := loopsOK_of (l := []) (by kernel_rfl) (trivial)
def qahx {R : Type} : Inl R := .rnd 110 3 qahs qahq [7] qaho qahp qahr
def qahy : Code := (rngGet 3 qac8).2.1
def qahz : Code := (rngGet 3 qac8).2.2
def qah0 {R : Type} : List (Nat × Hd R) := []
def qah1 {R : Type} : List (Nat × Inl R) := [(12, qahx)]
def qah2 : Cfg := { T := qact, spec := [(87, qadv)], glob := GlobL.G Tryz.prog, eqs := qacu, N := 15, fuel := 64, fid := 111, rnd := true }
theorem qah3 : CfgOK Tryz.prog qah2 := cfgC qacw qacx ⟨qady, trivial⟩
theorem qah4 {R : Type} : SubsOK Tryz.prog (R := R) 1 qah1 := subsOK_round (by kernel_rfl) qaht qahv qahw qahu (subsOK_nil _ _)
theorem qah5 {R : Type} : LoopsOK (R := R) (hnd 1 qah1) qah2 qah0 qahy := loopsOK_of (l := []) (by kernel_rfl) (trivial)
theorem qah6 {R : Type} : LoopsOK (R := R) (hnd 1 qah1) qah2 qah0 qahz := loopsOK_of (l := []) (by kernel_rfl) (trivial)
def qah7 {R : Type} : Inl R := .rnd 111 3 qah2 qah0 [6] qahy qahz qah1
def qah8 {R : Type} : List (Nat × Hd R) := [(5, hdOf qaf2 qaf3)]
def qah9 {R : Type} : List (Nat × Inl R) := [(31, qag3), (41, qahn), (51, qah7)]
def qaia : Cfg := { T := qact, spec := [(87, qadv)], glob := GlobL.G Tryz.prog, eqs := qacu, N := 52, fuel := 64, loops := [(5, ⟨[0, 1, 2, 3, 2000002, 4000000], [], [2, 3, 4, 5, 6, 7, 9, 10], 11, [], [], [(2, 0, 10, .str)], []⟩)], blocks := [(2, ⟨[0, 2, 2000002, 4000000], [], [2, 3, 4, 5, 9, 10], 11, [], [], [], []⟩)], fid := 138 }
theorem qaib : CfgOK Tryz.prog qaia := cfgC qacw qacx ⟨qady, trivial⟩
theorem qaic {R : Type} : SubsOK Tryz.prog (R := R) 2 qah9 := subsOK_a Tryz.f140 qag0 qag2 (rngs0 (by kernel_rfl)) qag1 (subsOK_round (by kernel_rfl) qahj qahl qahm qahk (subsOK_round (by kernel_rfl) qah3 qah5 qah6 qah4 (subsOK_nil _ _)))
theorem qaid {R : Type} : LoopOK (R := R) (hnd 2 qah9) qaia qah8 (sub [1, 0, 0, 0] qadg) (HS.V qaf2) (HS.st qaf2) (HS.sh qaf2) qaf3 (hdOf qaf2 qaf3) := loopOK_of qaf2 qaf3 (fun _ _ => rfl) (by intro q v K; kernel_rfl)
theorem qaie {R : Type} : LoopsOK (R := R) (hnd 2 qah9) qaia qah8 qadg := loopsOK_of (l := [sub [0, 1, 0, 0, 0, 0] qadg, sub [1, 0, 0, 0] qadg]) (by kernel_rfl) (loopsL_skip (b := sub [0, 1, 0, 0, 0, 0] qadg) (rid := 1) (by kernel_rfl) (by kernel_rfl) (loopsL_cons (b := sub [1, 0, 0, 0] qadg) (rid := 5) (by kernel_rfl) (by kernel_rfl) qaid (trivial)))
def qaif {R : Type} : Inl R := .mk 138 qaia qah8 qadg Tryz.f138.results.toList qah9
def qaig {R : Type} : List (Nat × Hd R) := []
def qaih {R : Type} : List (Nat × Inl R) := [(5, qagp), (1000003, qaif)]
def qaii : Cfg := { T := qact, spec := [(87, qadv)], glob := GlobL.G Tryz.prog, eqs := qacu, N := 15, fuel := 64, fid := 111, saves := [(3, [2])] }
theorem qaij : CfgOK Tryz.prog qaii := cfgC qacw qacx ⟨qady, trivial⟩
theorem qaik {R : Type} : SubsOK Tryz.prog (R := R) 3 qaih := subsOK_a Tryz.f112 qagm qago (rngs0 (by kernel_rfl)) qagn (subsOK_a Tryz.f138 qaib qaie (rngs0 (by kernel_rfl)) qaic (subsOK_nil _ _))
theorem qail {R : Type} : LoopsOK (R := R) (hnd 3 qaih) qaii qaig qac8 := loopsOK_of (l := []) (by kernel_rfl) (trivial)
theorem qaim : RngsOK Tryz.prog qaii qac8 := rngs1 (x := rngGet 3 qac8) (by kernel_rfl) (by kernel_rfl)
def qain {R : Type} : Inl R := .mk 111 qaii qaig qac8 Tryz.f111.results.toList qaih
def qaio {R : Type} : List (Nat × Hd R) := []
def qaip {R : Type} : List (Nat × Inl R) := [(1000003, qain)]
def qaiq : Cfg := { T := qact, spec := [(87, qadv)], glob := GlobL.G Tryz.prog, eqs := qacu, N := 13, fuel := 64, fid := 110, saves := [(3, [2])] }
theorem qair : CfgOK Tryz.prog qaiq := cfgC qacw qacx ⟨qady, trivial⟩
theorem qais {R : Type} : SubsOK Tryz.prog (R := R) 4 qaip := subsOK_a Tryz.f111 qaij qail qaim qaik (subsOK_nil _ _)
theorem qait {R : Type} : LoopsOK (R := R) (hnd 4 qaip) qaiq qaio qac7 := loopsOK_of (l := []) (by kernel_rfl) (trivial)
theorem qaiu : RngsOK Tryz.prog qaiq qac7 := rngs1 (x := rngGet 3 qac7) (by kernel_rfl) (by kernel_rfl)
def qaiv {R : Type} : Inl R := .mk 110 qaiq qaio qac7 Tryz.f110.results.toList qaip
def qaiw {R : Type} : List (Nat × Hd R) := []
def qaix {R : Type} : List (Nat × Inl R) := [(4, qaiv)]
def qaiy : Cfg := { T := qact, spec := [(87, qadv)], glob := GlobL.G Tryz.prog, eqs := qacu, N := 5, fuel := 64, fid := 85 }
theorem qaiz : CfgOK Tryz.prog qaiy := cfgC qacw qacx ⟨qady, trivial⟩
theorem qai0 {R : Type} : SubsOK Tryz.prog (R := R) 5 qaix := subsOK_a Tryz.f110 qair qait qaiu qais (subsOK_nil _ _)
theorem qai1 {R : Type} : LoopsOK (R := R) (hnd 5 qaix) qaiy qaiw qac1 := loopsOK_of (l := []) (by kernel_rfl) (trivial)
def qai2 {R : Type} : Inl R := .mk 85 qaiy qaiw qac1 Tryz.f85.results.toList qaix
def qai3 : Cfg := { T := qact, spec := [(87, qadv), (90, qafy)], glob := GlobL.G Tryz.prog, eqs := qacu, N := 6, fuel := 64, fid := 89 }
theorem qai4 : CfgOK Tryz.prog qai3 := cfgC qacw qacx ⟨qady, ⟨qaf1, trivial⟩⟩
def qai5 {R : Type} : Inl R := .mk 89 qai3 [] qac4 Tryz.f89.results.toList []
def qai6 {R : Type} : List (Nat × Hd R) := [(2, hdOf qaf4 qaf5)]
def qai7 {R : Type} : List (Nat × Inl R) := [(16, qai5)]
def qai8 : Cfg := { T := qact, spec := [(87, qadv)], glob := GlobL.G Tryz.prog, eqs := qacu, N := 19, fuel := 64, loops := [(2, ⟨[0, 1, 7, 8, 2000004, 2000012], [], [10], 11, [], [], [], []⟩)], blocks := [(0, ⟨[2000004, 2000012], [], [10], 11, [], [], [], []⟩)], retA := some ⟨[4, 2000004, 2000012], [], [10], 11, [], [], [], []⟩, fid := 114 }
theorem qai9 : CfgOK Tryz.prog qai8 := cfgC qacw qacx ⟨qady, trivial⟩
theorem qaja {R : Type} : SubsOK Tryz.prog (R := R) 4 qai7 := subsOK_0 Tryz.f89 qai4 (subsOK_nil _ _)
theorem qajb {R : Type} : LoopOK (R := R) (hnd 4 qai7) qai8 qai6 (sub [1, 0, 1, 0, 0] qada) (HS.V qaf4) (HS.st qaf4) (HS.sh qaf4) qaf5 (hdOf qaf4 qaf5) := loopOK_of qaf4 qaf5 (fun _ _ => rfl) (by intro q v K; kernel_rfl)
theorem qajc {R : Type} : LoopsOK (R := R) (hnd 4 qai7) qai8 qai6 qada := loopsOK_of (l := [sub [1, 0, 1, 0, 0] qada]) (by kernel_rfl) (loopsL_cons (b := sub [1, 0, 1, 0, 0] qada) (rid := 2) (by kernel_rfl) (by kernel_rfl) qajb (trivial))
def qajd {R : Type} : Inl R := .mk 114 qai8 qai6 qada Tryz.f114.results.toList qai7
def qaje {R : Type} : List (Nat × Hd R) := []
def qajf {R : Type} : List (Nat × Inl R) := [(7, qajd)]
def qajg : Cfg := { T := qact, spec := [(87, qadv)], glob := GlobL.G Tryz.prog, eqs := qacu, N := 9, fuel := 64, fid := 88 }
theorem qajh : CfgOK Tryz.prog qajg := cfgC qacw qacx ⟨qady, trivial⟩
theorem qaji {R : Type} : SubsOK Tryz.prog (R := R) 5 qajf := subsOK_a Tryz.f114 qai9 qajc (rngs0 (by kernel_rfl)) qaja (subsOK_nil _ _)
theorem qajj {R : Type} : LoopsOK (R := R) (hnd 5 qajf) qajg qaje qac3 := loopsOK_of (l := []) (by kernel_rfl) (trivial)
def qajk {R : Type} : Inl R := .mk 88 qajg qaje qac3 Tryz.f88.results.toList qajf
def qajl {R : Type} : List (Nat × Hd R) := []
def qajm {R : Type} : List (Nat × Inl R) := [(6, qagf), (7, qai2), (14, qajk)]
def qajn : Cfg := { T := qact, spec := [(87, qadv)], glob := GlobL.G Tryz.prog, eqs := qacu, N := 17, fuel := 64, fid := 55 }
theorem qajo : CfgOK Tryz.prog qajn := cfgC qacw qacx ⟨qady, trivial⟩
theorem qajp {R : Type} : SubsOK Tryz.prog (R := R) 6 qajm := subsOK_0 Tryz.f86 qage (subsOK_a Tryz.f85 qaiz qai1 (rngs0 (by kernel_rfl)) qai0 (subsOK_a Tryz.f88 qajh qajj (rngs0 (by kernel_rfl)) qaji (subsOK_nil _ _)))
theorem qajq {R : Type} : LoopsOK (R := R) (hnd 6 qajm) qajn qajl qacy := loopsOK_of (l := []) (by kernel_rfl) (trivial)
theorem qajr : SpecOK Tryz.prog 55 qagc := specOK_a Tryz.f55 qajo qacv (d := 6) qajp qajq (rngs0 (by kernel_rfl)) (toY := qaf9)
def qajs : HS := ⟨[(0, .one (.yld 9)), (1, .one (.ptr 6 0)), (2, .one (.ptr 5 0)), (3, .one (.ptr 7 0)), (2000000, .one (.str)), (2000002, .one (.ptr 0 0))], [(0, .cells [.boolk false]), (3, .loop true 13 78 3 [(2, .one (.ptr 0 0))]), (4, .cells [.yld 3]), (5, .cells [.str]), (6, .cells [.strk ([47] : Str)]), (7, .cells [.intk .i64 (0 : Int)]), (9, .loop true 15 111 3 [(2, .one (.ptr 4 0))])], 10⟩
def qajt {R : Type} : Nat → HS.V qajs → (Ex → St → Option R) → Option R := fun q v K =>
  path_Long_1000003_1000003_L5 (K .ret { regs := [(2000000, .v (.one (.str v.1.2.2.2.2.1))), (2000002, .v (.one (.ptr 0 0)))], mem := [(0, .cells [.bool true]), (3, .over .ret), (9, .over .ret)], nx := 10 }) (fun y8 => K (.exit 2) { regs := [(0, .v (.one (.yld 9))), (2, .v (.one (.ptr 5 0))), (2000000, .v (.one (.str v.1.2.2.2.2.1))), (2000002, .v (.one (.ptr 0 0)))], mem := [(0, .cells [.bool false]), (3, .loop true 13 78 3 [(2, .v (.one (.ptr 0 0)))]), (4, .cells [.yld 3]), (5, .cells [.str y8]), (9, .loop true 15 111 3 [(2, .v (.one (.ptr 4 0)))])], nx := 10 }) q v.2.2.2.2.1.1
def qaju : List HV := [.one (.str)]
def qajv : List HV := [.one (.bool)]
def qajw : HP.V qaju → Str := fun v => (v.1)
def qajx : HX.V qajv → Bool := fun v => (v)
def qajy : Bool → HX.V qajv := fun y => (y)
def qajz : Str → Option (Bool) := fun x => path_Long x
def qaj0 : Spec := mkSpec qaju qajv qajw qajy qajz
def qaj1 : Cfg := { T := qact, glob := GlobL.G Tryz.prog, eqs := qacu, N := 4, fuel := 64, fid := 86 }
theorem qaj2 : CfgOK Tryz.prog qaj1 := cfgC qacw qacx trivial
def qaj3 {R : Type} : Inl R := .mk 86 qaj1 [] qac2 Tryz.f86.results.toList []
def qaj4 : Cfg := { T := qact, glob := GlobL.G Tryz.prog, eqs := qacu, N := 8, fuel := 64, fid := 129 }
theorem qaj5 : CfgOK Tryz.prog qaj4 := cfgC qacw qacx trivial
def qaj6 {R : Type} : Inl R := .mk 129 qaj4 [] qade Tryz.f129.results.toList []
def qaj7 {R : Type} : List (Nat × Hd R) := []
def qaj8 {R : Type} : List (Nat × Inl R) := [(7, qaj6)]
def qaj9 : Cfg := { T := qact, glob := GlobL.G Tryz.prog, eqs := qacu, N := 8, fuel := 64, fid := 112 }
theorem qaka : CfgOK Tryz.prog qaj9 := cfgC qacw qacx trivial
theorem qakb {R : Type} : SubsOK Tryz.prog (R := R) 2 qaj8 := subsOK_0 Tryz.f129 qaj5 (subsOK_nil _ _)
theorem qakc {R : Type} : LoopsOK (R := R) (hnd 2 qaj8) qaj9 qaj7 qac9 := loopsOK_of (l := []) (by kernel_rfl) (trivial)
def qakd {R : Type} : Inl R := .mk 112 qaj9 qaj7 qac9 Tryz.f112.results.toList qaj8
def qake {R : Type} : List (Nat × Hd R) := []
def qakf {R : Type} : List (Nat × Inl R) := []
def qakg : Cfg := { T := qact, spec := [(158, stringslite_IndexByte_sp)], glob := GlobL.G Tryz.prog, eqs := qacu, N := 143, fuel := 64, retA := some ⟨[4, 2000000, 2000001, 2000002, 2000003, 4000000, 4000002], [], [0, 3, 4, 5, 6, 7, 9], 10, [], [], [], []⟩, fid := 151 }
theorem qakh : CfgOK Tryz.prog qakg := cfgC qacw qacx ⟨stringslite_IndexByte_ok, trivial⟩
theorem qaki {R : Type} : SubsOK Tryz.prog (R := R) 0 qakf := subsOK_nil _ _
theorem qakj {R : Type} : LoopsOK (R := R) (hnd 0 qakf) qakg qake qadm := loopsOK_of (l := [sub [1, 1, 1, 1, 1, 1, 1, 1, 0, 0, 0] qadm]) (by kernel_rfl) (loopsL_skip (b := sub [1, 1, 1, 1, 1, 1, 1, 1, 0, 0, 0] qadm) (rid := 15) (by kernel_rfl) (by kernel_rfl) (trivial))
def qakk {R : Type} : Inl R := .mk 151 qakg qake qadm Tryz.f151.results.toList qakf
def qakl {R : Type} : List (Nat × Hd R) := []
def qakm {R : Type} : List (Nat × Inl R) := [(7, qakk)]
def qakn : Cfg := { T := qact, glob := GlobL.G Tryz.prog, eqs := qacu, N := 8, fuel := 64, fid := 140 }
theorem qako : CfgOK Tryz.prog qakn := cfgC qacw qacx trivial
theorem qakp {R : Type} : SubsOK Tryz.prog (R := R) 1 qakm := subsOK_a Tryz.f151 qakh qakj (rngs0 (by kernel_rfl)) qaki (subsOK_nil _ _)
theorem qakq {R : Type} : LoopsOK (R := R) (hnd 1 qakm) qakn qakl qadh := loopsOK_of (l := []) (by kernel_rfl) (trivial)
def qakr {R : Type} : Inl R := .mk 140 qakn qakl qadh Tryz.f140.results.toList qakm
def qaks : Code := (rngGet 3 qacz).2.1
def qakt : Code := (rngGet 3 qacz).2.2
def qaku {R : Type} : List (Nat × Hd R) := []
def qakv {R : Type} : List (Nat × Inl R) := []
def qakw : Cfg := { T := qact, glob := GlobL.G Tryz.prog, eqs := qacu, N := 13, fuel := 64, fid := 78, rnd := true }
theorem qakx : CfgOK Tryz.prog qakw := cfgC qacw qacx trivial
theorem qaky {R : Type} : SubsOK Tryz.prog (R := R) 0 qakv := subsOK_nil _ _
theorem qakz {R : Type} : LoopsOK (R := R) (hnd 0 qakv) qakw qaku qaks := loopsOK_of (l := []) (by kernel_rfl) (trivial)
theorem qak0 {R : Type} : LoopsOK (R := R) (hnd 0 qakv) qakw qaku qakt := loopsOK_of (l := []) (by kernel_rfl) (trivial)
def qak1 {R : Type} : Inl R := .rnd 78 3 qakw qaku [6] qaks qakt qakv
def qak2 : Code := (rngGet 3 qac8).2.1
def qak3 : Code := (rngGet 3 qac8).2.2
def qak4 {R : Type} : List (Nat × Hd R) := []
def qak5 {R : Type} : List (Nat × Inl R) := [(12, qak1)]
def qak6 : Cfg := { T := qact, glob := GlobL.G Tryz.prog, eqs := qacu, N := 15, fuel := 64, fid := 111, rnd := true }
theorem qak7 : CfgOK Tryz.prog qak6 := cfgC qacw qacx trivial
theorem qak8 {R : Type} : SubsOK Tryz.prog (R := R) 1 qak5 := subsOK_round (by kernel_rfl) qakx qakz qak0 qaky (subsOK_nil _ _)
theorem qak9 {R : Type} : LoopsOK (R := R) (hnd 1 qak5) qak6 qak4 qak2 := loopsOK_of (l := []) (by kernel_rfl) (trivial)
theorem qala {R : Type} : LoopsOK (R := R) (hnd 1 qak5) qak6 qak4 qak3 := loopsOK_of (l := []) (by kernel_rfl) (trivial)
def qalb {R : Type} : Inl R := .rnd 111 3 qak6 qak4 [6] qak2 qak3 qak5
def qalc : Code := (rngGet 3 qacz).2.1
def qald : Code := (rngGet 3 qacz).2.2
def qale {R : Type} : List (Nat × Hd R) := []
def qalf {R : Type} : List (Nat × Inl R) := []
def qalg : Cfg := { T := qact, glob := GlobL.G Tryz.prog, eqs := qacu, N := 13, fuel := 64, fid := 78, rnd := true }
theorem qalh : CfgOK Tryz.prog qalg := cfgC qacw qacx trivial
theorem qali {R : Type} : SubsOK Tryz.prog (R := R) 0 qalf := subsOK_nil _ _
theorem qalj {R : Type} : LoopsOK (R := R) (hnd 0 qalf) qalg qale qalc := loopsOK_of (l := []) (by kernel_rfl) (trivial)
theorem qalk {R : Type} : LoopsOK (R := R) (hnd 0 qalf) qalg qale qald := loopsOK_of (l := []) (by kernel_rfl) (trivial)
def qall {R : Type} : Inl R := .rnd 78 3 qalg qale [6] qalc qald qalf
def qalm : Code := (rngGet 3 qac8).2.1
def qaln : Code := (rngGet 3 qac8).2.2
def qalo {R : Type} : List (Nat × Hd R) := []
def qalp {R : Type} : List (Nat × Inl R) := [(12, qall)]
def qalq : Cfg := { T := qact, glob := GlobL.G Tryz.prog, eqs := qacu, N := 15, fuel := 64, fid := 111, rnd := true }
theorem qalr : CfgOK Tryz.prog qalq := cfgC qacw qacx trivial
theorem qals {R : Type} : SubsOK Tryz.prog (R := R) 1 qalp := subsOK_round (by kernel_rfl) qalh qalj qalk qali (subsOK_nil _ _)
theorem qalt {R : Type} : LoopsOK (R := R) (hnd 1 qalp) qalq qalo qalm := loopsOK_of (l := []) (by kernel_rfl) (trivial)
theorem qalu {R : Type} : LoopsOK (R := R) (hnd 1 qalp) qalq qalo qaln := loopsOK_of (l := []) (by kernel_rfl) (trivial)
def qalv {R : Type} : Inl R := .rnd 111 3 qalq qalo [6] qalm qaln qalp
def qalw {R : Type} : List (Nat × Hd R) := [(5, hdOf qajs qajt)]
def qalx {R : Type} : List (Nat × Inl R) := [(31, qakr), (41, qalb), (51, qalv)]
def qaly : Cfg := { T := qact, glob := GlobL.G Tryz.prog, eqs := qacu, N := 52, fuel := 64, loops := [(5, ⟨[0, 1, 2, 3, 2000000, 2000002], [], [0, 3, 4, 5, 6, 7, 9], 10, [], [], [], []⟩)], blocks := [(2, ⟨[0, 2, 2000000, 2000002], [], [0, 3, 4, 5, 9], 10, [], [], [], []⟩)], retA := some ⟨[2000000, 2000002], [], [0, 3, 9], 10, [], [], [], []⟩, fid := 138 }
theorem qalz : CfgOK Tryz.prog qaly := cfgC qacw qacx trivial
theorem qal0 {R : Type} : SubsOK Tryz.prog (R := R) 2 qalx := subsOK_a Tryz.f140 qako qakq (rngs0 (by kernel_rfl)) qakp (subsOK_round (by kernel_rfl) qak7 qak9 qala qak8 (subsOK_round (by kernel_rfl) qalr qalt qalu qals (subsOK_nil _ _)))
theorem qal1 {R : Type} : LoopOK (R := R) (hnd 2 qalx) qaly qalw (sub [1, 0, 0, 0] qadg) (HS.V qajs) (HS.st qajs) (HS.sh qajs) qajt (hdOf qajs qajt) := loopOK_of qajs qajt (fun _ _ => rfl) (by intro q v K; kernel_rfl)
theorem qal2 {R : Type} : LoopsOK (R := R) (hnd 2 qalx) qaly qalw qadg := loopsOK_of (l := [sub [0, 1, 0, 0, 0, 0] qadg, sub [1, 0, 0, 0] qadg]) (by kernel_rfl) (loopsL_skip (b := sub [0, 1, 0, 0, 0, 0] qadg) (rid := 1) (by kernel_rfl) (by kernel_rfl) (loopsL_cons (b := sub [1, 0, 0, 0] qadg) (rid := 5) (by kernel_rfl) (by kernel_rfl) qal1 (trivial)))
def qal3 {R : Type} : Inl R := .mk 138 qaly qalw qadg Tryz.f138.results.toList qalx
def qal4 {R : Type} : List (Nat × Hd R) := []
def qal5 {R : Type} : List (Nat × Inl R) := [(5, qakd), (1000003, qal3)]
def qal6 : Cfg := { T := qact, glob := GlobL.G Tryz.prog, eqs := qacu, N := 15, fuel := 64, fid := 111, saves := [(3, [2])] }
theorem qal7 : CfgOK Tryz.prog qal6 := cfgC qacw qacx trivial
theorem qal8 {R : Type} : SubsOK Tryz.prog (R := R) 3 qal5 := subsOK_a Tryz.f112 qaka qakc (rngs0 (by kernel_rfl)) qakb (subsOK_a Tryz.f138 qalz qal2 (rngs0 (by kernel_rfl)) qal0 (subsOK_nil _ _))
theorem qal9 {R : Type} : LoopsOK (R := R) (hnd 3 qal5) qal6 qal4 qac8 := loopsOK_of (l := []) (by kernel_rfl) (trivial)
theorem qama : RngsOK Tryz.prog qal6 qac8 := rngs1 (x := rngGet 3 qac8) (by kernel_rfl) (by kernel_rfl)
def qamb {R : Type} : Inl R := .mk 111 qal6 qal4 qac8 Tryz.f111.results.toList qal5
def qamc {R : Type} : List (Nat × Hd R) := []
def qamd {R : Type} : List (Nat × Inl R) := [(5, qaj3), (1000003, qamb)]
def qame : Cfg := { T := qact, glob := GlobL.G Tryz.prog, eqs := qacu, N := 13, fuel := 64, fid := 78, saves := [(3, [2])] }
theorem qamf : CfgOK Tryz.prog qame := cfgC qacw qacx trivial
theorem qamg {R : Type} : SubsOK Tryz.prog (R := R) 4 qamd := subsOK_0 Tryz.f86 qaj2 (subsOK_a Tryz.f111 qal7 qal9 qama qal8 (subsOK_nil _ _))
theorem qamh {R : Type} : LoopsOK (R := R) (hnd 4 qamd) qame qamc qacz := loopsOK_of (l := []) (by kernel_rfl) (trivial)
theorem qami : RngsOK Tryz.prog qame qacz := rngs1 (x := rngGet 3 qacz) (by kernel_rfl) (by kernel_rfl)
theorem qamj : SpecOK Tryz.prog 78 qaj0 := specOK_a Tryz.f78 qamf qacv (d := 4) qamg qamh qami (toY := qajx)
def qamk : HS := ⟨[(0, .one (.yld 10)), (1, .one (.ptr 7 0)), (2, .one (.ptr 6 0)), (3, .one (.ptr 8 0)), (2000002, .one (.ptr 3 0)), (4000000, .one (.str)), (4000002, .one (.ptr 0 0))], [(0, .cells [.bool, .sl .str, .bool]), (3, .cells [.own 11]), (4, .loop true 13 110 3 [(2, .one (.ptr 3 0))]), (5, .cells [.yld 4]), (6, .cells [.str]), (7, .cells [.strk ([47] : Str)]), (8, .cells [.intk .i64 (0 : Int)]), (10, .loop true 15 111 3 [(2, .one (.ptr 5 0))]), (11, .row .str)], 12⟩
def qaml {R : Type} : Nat → HS.V qamk → (Ex → St → Option R) → Option R := fun q v K =>
  path_Read_6_4_1000003_1000003_L5 (fun y8 y9 => K (.exit 2) { regs := [(0, .v (.one (.yld 10))), (2, .v (.one (.ptr 6 0))), (2000002, .v (.one (.ptr 3 0))), (4000000, .v (.one (.str v.1.2.2.2.2.2.1))), (4000002, .v (.one (.ptr 0 0)))], mem := [(0, .cells [.bool ((⟨v.2.1.1, v.2.1.2.1, v.2.1.2.2.1⟩ : Pth).abs), .sl .str ((⟨v.2.1.1, v.2.1.2.1, v.2.1.2.2.1⟩ : Pth).names), .bool ((⟨v.2.1.1, v.2.1.2.1, v.2.1.2.2.1⟩ : Pth).slash)]), (3, .cells [.own 11]), (4, .loop true 13 110 3 [(2, .v (.one (.ptr 3 0)))]), (5, .cells [.yld 4]), (6, .cells [.str y8]), (10, .loop true 15 111 3 [(2, .v (.one (.ptr 5 0)))]), (11, .row .str y9)], nx := 12 }) q v.2.2.2.2.2.1.1 v.2.2.2.2.2.2.2.2.2.1
def qamm : List HV := [.one (.str)]
def qamn : List HV := [.agg [.bool, .sl .str, .bool]]
def qamo : HP.V qamm → Str := fun v => (v.1)
def qamp : HX.V qamn → Pth := fun v => ((⟨v.1, v.2.1, v.2.2.1⟩ : Pth))
def qamq : Pth → HX.V qamn := fun y => ((y.abs, (y.names, (y.slash, ()))))
def qamr : Str → Option (Pth) := fun x => path_Read x
def qams : Spec := mkSpec qamm qamn qamo qamq qamr
def qamt : Cfg := { T := qact, glob := GlobL.G Tryz.prog, eqs := qacu, N := 4, fuel := 64, fid := 86 }
theorem qamu : CfgOK Tryz.prog qamt := cfgC qacw qacx trivial
def qamv {R : Type} : Inl R := .mk 86 qamt [] qac2 Tryz.f86.results.toList []
def qamw : Cfg := { T := qact, glob := GlobL.G Tryz.prog, eqs := qacu, N := 8, fuel := 64, fid := 129 }
theorem qamx : CfgOK Tryz.prog qamw := cfgC qacw qacx trivial
def qamy {R : Type} : Inl R := .mk 129 qamw [] qade Tryz.f129.results.toList []
def qamz {R : Type} : List (Nat × Hd R) := []
def qam0 {R : Type} : List (Nat × Inl R) := [(7, qamy)]
def qam1 : Cfg := { T := qact, glob := GlobL.G Tryz.prog, eqs := qacu, N := 8, fuel := 64, fid := 112 }
theorem qam2 : CfgOK Tryz.prog qam1 := cfgC qacw qacx trivial
theorem qam3 {R : Type} : SubsOK Tryz.prog (R := R) 2 qam0 := subsOK_0 Tryz.f129 qamx (subsOK_nil _ _)
theorem qam4 {R : Type} : LoopsOK (R := R) (hnd 2 qam0) qam1 qamz qac9 := loopsOK_of (l := []) (by kernel_rfl) (trivial)
def qam5 {R : Type} : Inl R := .mk 112 qam1 qamz qac9 Tryz.f112.results.toList qam0
def qam6 {R : Type} : List (Nat × Hd R) := []
def qam7 {R : Type} : List (Nat × Inl R) := []
def qam8 : Cfg := { T := qact, spec := [(158, stringslite_IndexByte_sp)], glob := GlobL.G Tryz.prog, eqs := qacu, N := 143, fuel := 64, retA := some ⟨[4, 2000000, 2000001, 2000002, 2000003, 4000002, 6000000, 6000002], [], [0, 3, 4, 5, 6, 7, 8, 10, 11], 12, [], [], [], []⟩, fid := 151 }
theorem qam9 : CfgOK Tryz.prog qam8 := cfgC qacw qacx ⟨stringslite_IndexByte_ok, trivial⟩
theorem qana {R : Type} : SubsOK Tryz.prog (R := R) 0 qam7 := subsOK_nil _ _
theorem qanb {R : Type} : LoopsOK (R := R) (hnd 0 qam7) qam8 qam6 qadm := loopsOK_of (l := [sub [1, 1, 1, 1, 1, 1, 1, 1, 0, 0, 0] qadm]) (by kernel_rfl) (loopsL_skip (b := sub [1, 1, 1, 1, 1, 1, 1, 1, 0, 0, 0] qadm) (rid := 15) (by kernel_rfl) (by kernel_rfl) (trivial))
def qanc {R : Type} : Inl R := .mk 151 qam8 qam6 qadm Tryz.f151.results.toList qam7
def qand {R : Type} : List (Nat × Hd R) := []
def qane {R : Type} : List (Nat × Inl R) := [(7, qanc)]
def qanf : Cfg := { T := qact, glob := GlobL.G Tryz.prog, eqs := qacu, N := 8, fuel := 64, fid := 140 }
theorem qang : CfgOK Tryz.prog qanf := cfgC qacw qacx trivial
theorem qanh {R : Type} : SubsOK Tryz.prog (R := R) 1 qane := subsOK_a Tryz.f151 qam9 qanb (rngs0 (by kernel_rfl)) qana (subsOK_nil _ _)
theorem qani {R : Type} : LoopsOK (R := R) (hnd 1 qane) qanf qand qadh := loopsOK_of (l := []) (by kernel_rfl) (trivial)
def qanj {R : Type} : Inl R := .mk 140 qanf qand qadh Tryz.f140.results.toList qane
def qank : Code := (rngGet 3 qac7).2.1
def qanl : Code := (rngGet 3 qac7).2.2
def qanm {R : Type} : List (Nat × Hd R) := []
def qann {R : Type} : List (Nat × Inl R) := []
def qano : Cfg := { T := qact, glob := GlobL.G Tryz.prog, eqs := qacu, N := 13, fuel := 64, fid := 110, rnd := true }
theorem qanp : CfgOK Tryz.prog qano := cfgC qacw qacx trivial
theorem qanq {R : Type} : SubsOK Tryz.prog (R := R) 0 qann := subsOK_nil _ _
theorem qanr {R : Type} : LoopsOK (R := R) (hnd 0 qann) qano qanm qank := loopsOK_of (l := []) (by kernel_rfl) (trivial)
theorem qans {R : Type} : LoopsOK (R := R) (hnd 0 qann) qano qanm qanl := loopsOK_of (l := []) (by kernel_rfl) (trivial)
def qant {R : Type} : Inl R := .rnd 110 3 qano qanm [7] qank qanl qann
def qanu : Code := (rngGet 3 qac8).2.1
def qanv : Code := (rngGet 3 qac8).2.2
def qanw {R : Type} : List (Nat × Hd R) := []
def qanx {R : Type} : List (Nat × Inl R) := [(12, qant)]
def qany : Cfg := { T := qact, glob := GlobL.G Tryz.prog, eqs := qacu, N := 15, fuel := 64, fid := 111, rnd := true }
theorem qanz : CfgOK Tryz.prog qany := cfgC qacw qacx trivial
theorem qan0 {R : Type} : SubsOK Tryz.prog (R := R) 1 qanx := subsOK_round (by kernel_rfl) qanp qanr qans qanq (subsOK_nil _ _)
theorem qan1 {R : Type} : LoopsOK (R := R) (hnd 1 qanx) qany qanw qanu := loopsOK_of (l := []) (by kernel_rfl) (trivial)
theorem qan2 {R : Type} : LoopsOK (R := R) (hnd 1 qanx) qany qanw qanv := loopsOK_of (l := []) (by kernel_rfl) (trivial)
def qan3 {R : Type} : Inl R := .rnd 111 3 qany qanw [6] qanu qanv qanx
def qan4 : Code := (rngGet 3 qac7).2.1
def qan5 : Code := (rngGet 3 qac7).2.2
def qan6 {R : Type} : List (Nat × Hd R) := []
def qan7 {R : Type} : List (Nat × Inl R) := []
def qan8 : Cfg := { T := qact, glob := GlobL.G Tryz.prog, eqs := qacu, N := 13, fuel := 64, fid := 110, rnd := true }
theorem qan9 : CfgOK Tryz.prog qan8 := cfgC qacw qacx trivial
theorem qaoa {R : Type} : SubsOK Tryz.prog (R := R) 0 qan7 := subsOK_nil _ _
theorem qaob {R : Type} : LoopsOK (R := R) (hnd 0 qan7) qan8 qan6 qan4 := loopsOK_of (l := []) (by kernel_rfl) (trivial)
theorem qaoc {R : Type} : LoopsOK (R := R) (hnd 0 qan7) qan8 qan6 qan5 := loopsOK_of (l := []) (by kernel_rfl) (trivial)
def qaod {R : Type} : Inl R := .rnd 110 3 qan8 qan6 [7] qan4 qan5 qan7
def qaoe : Code := (rngGet 3 qac8).2.1
def qaof : Code := (rngGet 3 qac8).2.2
def qaog {R : Type} : List (Nat × Hd R) := []
def qaoh {R : Type} : List (Nat × Inl R) := [(12, qaod)]
def qaoi : Cfg := { T := qact, glob := GlobL.G Tryz.prog, eqs := qacu, N := 15, fuel := 64, fid := 111, rnd := true }
theorem qaoj : CfgOK Tryz.prog qaoi := cfgC qacw qacx trivial
theorem qaok {R : Type} : SubsOK Tryz.prog (R := R) 1 qaoh := subsOK_round (by kernel_rfl) qan9 qaob qaoc qaoa (subsOK_nil _ _)
theorem qaol {R : Type} : LoopsOK (R := R) (hnd 1 qaoh) qaoi qaog qaoe := loopsOK_of (l := []) (by kernel_rfl) (trivial)
theorem qaom {R : Type} : LoopsOK (R := R) (hnd 1 qaoh) qaoi qaog qaof := loopsOK_of (l := []) (by kernel_rfl) (trivial)
def qaon {R : Type} : Inl R := .rnd 111 3 qaoi qaog [6] qaoe qaof qaoh
def qaoo {R : Type} : List (Nat × Hd R) := [(5, hdOf qamk qaml)]
def qaop {R : Type} : List (Nat × Inl R) := [(31, qanj), (41, qan3), (51, qaon)]
def qaoq : Cfg := { T := qact, glob := GlobL.G Tryz.prog, eqs := qacu, N := 52, fuel := 64, loops := [(5, ⟨[0, 1, 2, 3, 2000002, 4000000, 4000002], [], [0, 3, 4, 5, 6, 7, 8, 10, 11], 12, [], [0], [(3, 0, 11, .str)], []⟩)], blocks := [(2, ⟨[0, 2, 2000002, 4000000, 4000002], [], [0, 3, 4, 5, 6, 10, 11], 12, [], [], [], []⟩)], fid := 138 }
theorem qaor : CfgOK Tryz.prog qaoq := cfgC qacw qacx trivial
theorem qaos {R : Type} : SubsOK Tryz.prog (R := R) 2 qaop := subsOK_a Tryz.f140 qang qani (rngs0 (by kernel_rfl)) qanh (subsOK_round (by kernel_rfl) qanz qan1 qan2 qan0 (subsOK_round (by kernel_rfl) qaoj qaol qaom qaok (subsOK_nil _ _)))
theorem qaot {R : Type} : LoopOK (R := R) (hnd 2 qaop) qaoq qaoo (sub [1, 0, 0, 0] qadg) (HS.V qamk) (HS.st qamk) (HS.sh qamk) qaml (hdOf qamk qaml) := loopOK_of qamk qaml (fun _ _ => rfl) (by intro q v K; kernel_rfl)
theorem qaou {R : Type} : LoopsOK (R := R) (hnd 2 qaop) qaoq qaoo qadg := loopsOK_of (l := [sub [0, 1, 0, 0, 0, 0] qadg, sub [1, 0, 0, 0] qadg]) (by kernel_rfl) (loopsL_skip (b := sub [0, 1, 0, 0, 0, 0] qadg) (rid := 1) (by kernel_rfl) (by kernel_rfl) (loopsL_cons (b := sub [1, 0, 0, 0] qadg) (rid := 5) (by kernel_rfl) (by kernel_rfl) qaot (trivial)))
def qaov {R : Type} : Inl R := .mk 138 qaoq qaoo qadg Tryz.f138.results.toList qaop
def qaow {R : Type} : List (Nat × Hd R) := []
def qaox {R : Type} : List (Nat × Inl R) := [(5, qam5), (1000003, qaov)]
def qaoy : Cfg := { T := qact, glob := GlobL.G Tryz.prog, eqs := qacu, N := 15, fuel := 64, fid := 111, saves := [(3, [2])] }
theorem qaoz : CfgOK Tryz.prog qaoy := cfgC qacw qacx trivial
theorem qao0 {R : Type} : SubsOK Tryz.prog (R := R) 3 qaox := subsOK_a Tryz.f112 qam2 qam4 (rngs0 (by kernel_rfl)) qam3 (subsOK_a Tryz.f138 qaor qaou (rngs0 (by kernel_rfl)) qaos (subsOK_nil _ _))
theorem qao1 {R : Type} : LoopsOK (R := R) (hnd 3 qaox) qaoy qaow qac8 := loopsOK_of (l := []) (by kernel_rfl) (trivial)
theorem qao2 : RngsOK Tryz.prog qaoy qac8 := rngs1 (x := rngGet 3 qac8) (by kernel_rfl) (by kernel_rfl)
def qao3 {R : Type} : Inl R := .mk 111 qaoy qaow qac8 Tryz.f111.results.toList qaox
def qao4 {R : Type} : List (Nat × Hd R) := []
def qao5 {R : Type} : List (Nat × Inl R) := [(1000003, qao3)]
def qao6 : Cfg := { T := qact, glob := GlobL.G Tryz.prog, eqs := qacu, N := 13, fuel := 64, fid := 110, saves := [(3, [2])] }
theorem qao7 : CfgOK Tryz.prog qao6 := cfgC qacw qacx trivial
theorem qao8 {R : Type} : SubsOK Tryz.prog (R := R) 4 qao5 := subsOK_a Tryz.f111 qaoz qao1 qao2 qao0 (subsOK_nil _ _)
theorem qao9 {R : Type} : LoopsOK (R := R) (hnd 4 qao5) qao6 qao4 qac7 := loopsOK_of (l := []) (by kernel_rfl) (trivial)
theorem qapa : RngsOK Tryz.prog qao6 qac7 := rngs1 (x := rngGet 3 qac7) (by kernel_rfl) (by kernel_rfl)
def qapb {R : Type} : Inl R := .mk 110 qao6 qao4 qac7 Tryz.f110.results.toList qao5
def qapc {R : Type} : List (Nat × Hd R) := []
def qapd {R : Type} : List (Nat × Inl R) := [(4, qapb)]
def qape : Cfg := { T := qact, glob := GlobL.G Tryz.prog, eqs := qacu, N := 5, fuel := 64, fid := 85 }
theorem qapf : CfgOK Tryz.prog qape := cfgC qacw qacx trivial
theorem qapg {R : Type} : SubsOK Tryz.prog (R := R) 5 qapd := subsOK_a Tryz.f110 qao7 qao9 qapa qao8 (subsOK_nil _ _)
theorem qaph {R : Type} : LoopsOK (R := R) (hnd 5 qapd) qape qapc qac1 := loopsOK_of (l := []) (by kernel_rfl) (trivial)
def qapi {R : Type} : Inl R := .mk 85 qape qapc qac1 Tryz.f85.results.toList qapd
def qapj : Cfg := { T := qact, glob := GlobL.G Tryz.prog, eqs := qacu, N := 18, fuel := 64, fid := 126 }
theorem qapk : CfgOK Tryz.prog qapj := cfgC qacw qacx trivial
def qapl {R : Type} : Inl R := .mk 126 qapj [] qadc Tryz.f126.results.toList []
def qapm {R : Type} : List (Nat × Hd R) := []
def qapn {R : Type} : List (Nat × Inl R) := [(7, qapl)]
def qapo : Cfg := { T := qact, glob := GlobL.G Tryz.prog, eqs := qacu, N := 8, fuel := 64, fid := 107 }
theorem qapp : CfgOK Tryz.prog qapo := cfgC qacw qacx trivial
theorem qapq {R : Type} : SubsOK Tryz.prog (R := R) 5 qapn := subsOK_0 Tryz.f126 qapk (subsOK_nil _ _)
theorem qapr {R : Type} : LoopsOK (R := R) (hnd 5 qapn) qapo qapm qac5 := loopsOK_of (l := []) (by kernel_rfl) (trivial)
def qaps {R : Type} : Inl R := .mk 107 qapo qapm qac5 Tryz.f107.results.toList qapn
def qapt : Cfg := { T := qact, glob := GlobL.G Tryz.prog, eqs := qacu, N := 21, fuel := 64, fid := 127 }
theorem qapu : CfgOK Tryz.prog qapt := cfgC qacw qacx trivial
def qapv {R : Type} : Inl R := .mk 127 qapt [] qadd Tryz.f127.results.toList []
def qapw {R : Type} : List (Nat × Hd R) := []
def qapx {R : Type} : List (Nat × Inl R) := [(7, qapv)]
def qapy : Cfg := { T := qact, glob := GlobL.G Tryz.prog, eqs := qacu, N := 8, fuel := 64, fid := 108 }
theorem qapz : CfgOK Tryz.prog qapy := cfgC qacw qacx trivial
theorem qap0 {R : Type} : SubsOK Tryz.prog (R := R) 5 qapx := subsOK_0 Tryz.f127 qapu (subsOK_nil _ _)
theorem qap1 {R : Type} : LoopsOK (R := R) (hnd 5 qapx) qapy qapw qac6 := loopsOK_of (l := []) (by kernel_rfl) (trivial)
def qap2 {R : Type} : Inl R := .mk 108 qapy qapw qac6 Tryz.f108.results.toList qapx
def qap3 {R : Type} : List (Nat × Hd R) := []
def qap4 {R : Type} : List (Nat × Inl R) := [(5, qamv), (6, qapi), (8, qaps), (15, qap2)]
def qap5 : Cfg := { T := qact, glob := GlobL.G Tryz.prog, eqs := qacu, N := 18, fuel := 64, fid := 79 }
theorem qap6 : CfgOK Tryz.prog qap5 := cfgC qacw qacx trivial
theorem qap7 {R : Type} : SubsOK Tryz.prog (R := R) 6 qap4 := subsOK_0 Tryz.f86 qamu (subsOK_a Tryz.f85 qapf qaph (rngs0 (by kernel_rfl)) qapg (subsOK_a Tryz.f107 qapp qapr (rngs0 (by kernel_rfl)) qapq (subsOK_a Tryz.f108 qapz qap1 (rngs0 (by kernel_rfl)) qap0 (subsOK_nil _ _))))
theorem qap8 {R : Type} : LoopsOK (R := R) (hnd 6 qap4) qap5 qap3 qac0 := loopsOK_of (l := []) (by kernel_rfl) (trivial)
theorem qap9 : SpecOK Tryz.prog 79 qams := specOK_a Tryz.f79 qap6 qacv (d := 6) qap7 qap8 (rngs0 (by kernel_rfl)) (toY := qamp)
end
end Go.Eng
set_option linter.unusedVariables false
set_option maxRecDepth 100000
namespace Go.Eng
noncomputable section
open Go Go.Proofs
def qaqa : List (Nat × TI) := [(3, ⟨false, 1, .one (.int .i64 0), .int .i64⟩), (22, ⟨false, 1, .one (.clip .inode []), .slice .inode 34⟩), (24, ⟨true, 4, .agg [.int .i64 0, .int .i64 0, .int .i64 0, .clip .inode []], .struct [(0, 3), (1, 3), (2, 3), (3, 22)]⟩), (34, ⟨true, 6, .agg [.int .i64 0, .int .i64 0, .int .i64 0, .str [], .int .i64 0, .clip .entry []], .struct [(0, 3), (1, 3), (2, 3), (3, 9), (4, 3), (5, 32)]⟩), (153, ⟨false, 1, .one (.int .u64 0), .int .u64⟩)]
def qaqb : List (Nat × List EK) := []
theorem qaqc : Tryz.prog.follows .mixedOrders = true := by kernel_rfl
theorem qaqd : (qaqa.all fun x => tiB Tryz.prog x.1 x.2) = true := by kernel_rfl
theorem qaqe : (qaqb.all fun x => eqB Tryz.prog x.1 x.2) = true := by kernel_rfl
def qaqf : Code := bd Tryz.f70
def qaqg : Code := bd Tryz.f91
def qaqh : Code := bd Tryz.f101
def qaqi : Code := bd Tryz.f102
def qaqj : Code := bd Tryz.f116
def qaqk : Code := bd Tryz.f117
def qaql : Code := bd Tryz.f118
def qaqm : Code := bd Tryz.f134
def qaqn : HS := ⟨[(0, .one (.sl .inode)), (1, .one (.int .i64)), (2, .one (.fnc 117)), (8, .one (.int .i64)), (9, .one (.int .i64)), (10, .one (.int .i64))], [], 0⟩
def qaqo {R : Type} : Nat → HS.V qaqn → (Ex → St → Option R) → Option R := fun q v K =>
  table_at_9_L3 v.1.1 v.1.2.1 (fun y10 => K (.exit 0) { regs := [(0, .v (.one (.sl .inode v.1.1))), (1, .v (.one (.int .i64 v.1.2.1))), (2, .v (.one (.fnc 117))), (8, .v (.one (.int .i64 v.1.2.2.2.1))), (9, .v (.one (.int .i64 y10)))], mem := [], nx := 0 }) q v.1.2.2.2.2.1 v.1.2.2.2.2.2.1
def qaqp : List HV := [.agg hFs, .one (.int .i64)]
def qaqq : List HV := [.one (.int .i64), .one (.bool)]
def qaqr : HP.V qaqp → Fs × Int := fun v => ((cFs v.1), v.2.1)
def qaqs : HX.V qaqq → Int × Bool := fun v => (v.1, v.2)
def qaqt : (Int × Bool) → HX.V qaqq := fun y => (y.1, y.2)
def qaqu : (Fs × Int) → Option (Int × Bool) := fun x => table_at x.1 x.2
def qaqv : Spec := mkSpec qaqp qaqq qaqr qaqt qaqu
def qaqw : Cfg := { T := qaqa, glob := GlobL.G Tryz.prog, eqs := qaqb, N := 6, fuel := 64, fid := 134 }
theorem qaqx : CfgOK Tryz.prog qaqw := cfgC qaqd qaqe trivial
def qaqy {R : Type} : Inl R := .mk 134 qaqw [] qaqm Tryz.f134.results.toList []
def qaqz : Cfg := { T := qaqa, glob := GlobL.G Tryz.prog, eqs := qaqb, N := 6, fuel := 64, fid := 134 }
theorem qaq0 : CfgOK Tryz.prog qaqz := cfgC qaqd qaqe trivial
def qaq1 {R : Type} : Inl R := .mk 134 qaqz [] qaqm Tryz.f134.results.toList []
def qaq2 {R : Type} : List (Nat × Hd R) := []
def qaq3 {R : Type} : List (Nat × Inl R) := [(8, qaqy), (10, qaq1)]
def qaq4 : Cfg := { T := qaqa, glob := GlobL.G Tryz.prog, eqs := qaqb, N := 20, fuel := 64, fid := 118 }
theorem qaq5 : CfgOK Tryz.prog qaq4 := cfgC qaqd qaqe trivial
theorem qaq6 {R : Type} : SubsOK Tryz.prog (R := R) 1 qaq3 := subsOK_0 Tryz.f134 qaqx (subsOK_0 Tryz.f134 qaq0 (subsOK_nil _ _))
theorem qaq7 {R : Type} : LoopsOK (R := R) (hnd 1 qaq3) qaq4 qaq2 qaql := loopsOK_of (l := []) (by kernel_rfl) (trivial)
def qaq8 {R : Type} : Inl R := .mk 118 qaq4 qaq2 qaql Tryz.f118.results.toList qaq3
def qaq9 {R : Type} : List (Nat × Hd R) := []
def qara {R : Type} : List (Nat × Inl R) := [(8, qaq8)]
def qarb : Cfg := { T := qaqa, glob := GlobL.G Tryz.prog, eqs := qaqb, N := 9, fuel := 64, fid := 117 }
theorem qarc : CfgOK Tryz.prog qarb := cfgC qaqd qaqe trivial
theorem qard {R : Type} : SubsOK Tryz.prog (R := R) 2 qara := subsOK_a Tryz.f118 qaq5 qaq7 (rngs0 (by kernel_rfl)) qaq6 (subsOK_nil _ _)
theorem qare {R : Type} : LoopsOK (R := R) (hnd 2 qara) qarb qaq9 qaqk := loopsOK_of (l := []) (by kernel_rfl) (trivial)
def qarf {R : Type} : Inl R := .mk 117 qarb qaq9 qaqk Tryz.f117.results.toList qara
def qarg : Cfg := { T := qaqa, glob := GlobL.G Tryz.prog, eqs := qaqb, N := 6, fuel := 64, fid := 134 }
theorem qarh : CfgOK Tryz.prog qarg := cfgC qaqd qaqe trivial
def qari {R : Type} : Inl R := .mk 134 qarg [] qaqm Tryz.f134.results.toList []
def qarj : Cfg := { T := qaqa, glob := GlobL.G Tryz.prog, eqs := qaqb, N := 6, fuel := 64, fid := 134 }
theorem qark : CfgOK Tryz.prog qarj := cfgC qaqd qaqe trivial
def qarl {R : Type} : Inl R := .mk 134 qarj [] qaqm Tryz.f134.results.toList []
def qarm {R : Type} : List (Nat × Hd R) := []
def qarn {R : Type} : List (Nat × Inl R) := [(8, qari), (10, qarl)]
def qaro : Cfg := { T := qaqa, glob := GlobL.G Tryz.prog, eqs := qaqb, N := 20, fuel := 64, fid := 118 }
theorem qarp : CfgOK Tryz.prog qaro := cfgC qaqd qaqe trivial
theorem qarq {R : Type} : SubsOK Tryz.prog (R := R) 1 qarn := subsOK_0 Tryz.f134 qarh (subsOK_0 Tryz.f134 qark (subsOK_nil _ _))
theorem qarr {R : Type} : LoopsOK (R := R) (hnd 1 qarn) qaro qarm qaql := loopsOK_of (l := []) (by kernel_rfl) (trivial)
def qars {R : Type} : Inl R := .mk 118 qaro qarm qaql Tryz.f118.results.toList qarn
def qart {R : Type} : List (Nat × Hd R) := []
def qaru {R : Type} : List (Nat × Inl R) := [(8, qars)]
def qarv : Cfg := { T := qaqa, glob := GlobL.G Tryz.prog, eqs := qaqb, N := 9, fuel := 64, fid := 117 }
theorem qarw : CfgOK Tryz.prog qarv := cfgC qaqd qaqe trivial
theorem qarx {R : Type} : SubsOK Tryz.prog (R := R) 2 qaru := subsOK_a Tryz.f118 qarp qarr (rngs0 (by kernel_rfl)) qarq (subsOK_nil _ _)
theorem qary {R : Type} : LoopsOK (R := R) (hnd 2 qaru) qarv qart qaqk := loopsOK_of (l := []) (by kernel_rfl) (trivial)
def qarz {R : Type} : Inl R := .mk 117 qarv qart qaqk Tryz.f117.results.toList qaru
def qar0 {R : Type} : List (Nat × Hd R) := [(3, hdOf qaqn qaqo)]
def qar1 {R : Type} : List (Nat × Inl R) := [(30, qarf), (46, qarz)]
def qar2 : Cfg := { T := qaqa, glob := GlobL.G Tryz.prog, eqs := qaqb, N := 49, fuel := 64, loops := [(3, ⟨[0, 1, 2, 8, 9, 10], [], [], 0, [], [], [], []⟩)], blocks := [(0, ⟨[0, 1, 2, 8, 9], [], [], 0, [], [], [], []⟩)], fid := 116 }
theorem qar3 : CfgOK Tryz.prog qar2 := cfgC qaqd qaqe trivial
theorem qar4 {R : Type} : SubsOK Tryz.prog (R := R) 3 qar1 := subsOK_a Tryz.f117 qarc qare (rngs0 (by kernel_rfl)) qard (subsOK_a Tryz.f117 qarw qary (rngs0 (by kernel_rfl)) qarx (subsOK_nil _ _))
theorem qar5 {R : Type} : LoopOK (R := R) (hnd 3 qar1) qar2 qar0 (sub [1, 1, 1, 0, 0, 0] qaqj) (HS.V qaqn) (HS.st qaqn) (HS.sh qaqn) qaqo (hdOf qaqn qaqo) := loopOK_of qaqn qaqo (fun _ _ => rfl) (by intro q v K; kernel_rfl)
theorem qar6 {R : Type} : LoopsOK (R := R) (hnd 3 qar1) qar2 qar0 qaqj := loopsOK_of (l := [sub [1, 1, 1, 0, 0, 0] qaqj]) (by kernel_rfl) (loopsL_cons (b := sub [1, 1, 1, 0, 0, 0] qaqj) (rid := 3) (by kernel_rfl) (by kernel_rfl) qar5 (trivial))
def qar7 {R : Type} : Inl R := .mk 116 qar2 qar0 qaqj Tryz.f116.results.toList qar1
def qar8 {R : Type} : List (Nat × Hd R) := []
def qar9 {R : Type} : List (Nat × Inl R) := [(9, qar7)]
def qasa : Cfg := { T := qaqa, glob := GlobL.G Tryz.prog, eqs := qaqb, N := 12, fuel := 64, fid := 91 }
theorem qasb : CfgOK Tryz.prog qasa := cfgC qaqd qaqe trivial
theorem qasc {R : Type} : SubsOK Tryz.prog (R := R) 4 qar9 := subsOK_a Tryz.f116 qar3 qar6 (rngs0 (by kernel_rfl)) qar4 (subsOK_nil _ _)
theorem qasd {R : Type} : LoopsOK (R := R) (hnd 4 qar9) qasa qar8 qaqg := loopsOK_of (l := []) (by kernel_rfl) (trivial)
theorem qase : SpecOK Tryz.prog 91 qaqv := specOK_a Tryz.f91 qasb qaqc (d := 4) qasc qasd (rngs0 (by kernel_rfl)) (toY := qaqs)
def qasf : List HV := [.agg hFs, .one (.int .i64)]
def qasg : List HV := [.agg hIn, .one (.bool)]
def qash : HP.V qasf → Fs × Int := fun v => ((cFs v.1), v.2.1)
def qasi : HX.V qasg → Inode × Bool := fun v => ((cIn v.1), v.2)
def qasj : (Inode × Bool) → HX.V qasg := fun y => ((y.1.ino, (y.1.kind, (y.1.links, (y.1.data, (y.1.parent, (y.1.entries, ())))))), y.2)
def qask : (Fs × Int) → Option (Inode × Bool) := fun x => table_Get x.1 x.2
def qasl : Spec := mkSpec qasf qasg qash qasj qask
def qasm : Cfg := { T := qaqa, spec := [(91, qaqv)], glob := GlobL.G Tryz.prog, eqs := qaqb, N := 22, fuel := 64, fid := 56 }
theorem qasn : CfgOK Tryz.prog qasm := cfgC qaqd qaqe ⟨qase, trivial⟩
theorem qaso : SpecOK Tryz.prog 56 qasl := specOK_0 Tryz.f56 qasn qaqc (toY := qasi)
def qasp : List HV := [.agg hFs, .agg hIn]
def qasq : List HV := [.agg hFs]
def qasr : HP.V qasp → Fs × Inode := fun v => ((cFs v.1), (cIn v.2.1))
def qass : HX.V qasq → Fs := fun v => ((cFs v))
def qast : Fs → HX.V qasq := fun y => ((y.maxInodes, (y.maxBytes, (y.next, (y.inodes, ())))))
def qasu : (Fs × Inode) → Option (Fs) := fun x => table_Set x.1 x.2
def qasv : Spec := mkSpec qasp qasq qasr qast qasu
def qasw : Cfg := { T := qaqa, spec := [(91, qaqv)], glob := GlobL.G Tryz.prog, eqs := qaqb, N := 8, fuel := 64, ovl := [124], fid := 101 }
theorem qasx : CfgOK Tryz.prog qasw := cfgC qaqd qaqe ⟨qase, trivial⟩ (ov := ⟨ovl124, trivial⟩)
def qasy {R : Type} : Inl R := .mk 101 qasw [] qaqh Tryz.f101.results.toList []
def qasz : Cfg := { T := qaqa, spec := [(91, qaqv)], glob := GlobL.G Tryz.prog, eqs := qaqb, N := 95, fuel := 64, ovl := [124], fid := 102 }
theorem qas0 : CfgOK Tryz.prog qasz := cfgC qaqd qaqe ⟨qase, trivial⟩ (ov := ⟨ovl124, trivial⟩)
def qas1 {R : Type} : Inl R := .mk 102 qasz [] qaqi Tryz.f102.results.toList []
def qas2 {R : Type} : List (Nat × Hd R) := []
def qas3 {R : Type} : List (Nat × Inl R) := [(16, qasy), (30, qas1)]
def qas4 : Cfg := { T := qaqa, spec := [(91, qaqv)], glob := GlobL.G Tryz.prog, eqs := qaqb, N := 33, fuel := 64, ovl := [124], fid := 70 }
theorem qas5 : CfgOK Tryz.prog qas4 := cfgC qaqd qaqe ⟨qase, trivial⟩ (ov := ⟨ovl124, trivial⟩)
theorem qas6 {R : Type} : SubsOK Tryz.prog (R := R) 1 qas3 := subsOK_0 Tryz.f101 qasx (subsOK_0 Tryz.f102 qas0 (subsOK_nil _ _))
theorem qas7 {R : Type} : LoopsOK (R := R) (hnd 1 qas3) qas4 qas2 qaqf := loopsOK_of (l := []) (by kernel_rfl) (trivial)
theorem qas8 : SpecOK Tryz.prog 70 qasv := specOK_a Tryz.f70 qas5 qaqc (d := 1) qas6 qas7 (rngs0 (by kernel_rfl)) (toY := qass)
end
end Go.Eng
set_option linter.unusedVariables false
set_option maxRecDepth 100000
namespace Go.Eng
noncomputable section
open Go Go.Proofs
def qas9 : List (Nat × TI) := [(3, ⟨false, 1, .one (.int .i64 0), .int .i64⟩), (9, ⟨false, 1, .one (.str []), .str⟩), (24, ⟨true, 4, .agg [.int .i64 0, .int .i64 0, .int .i64 0, .clip .inode []], .struct [(0, 3), (1, 3), (2, 3), (3, 22)]⟩), (32, ⟨false, 1, .one (.clip .entry []), .slice .entry 90⟩), (34, ⟨true, 6, .agg [.int .i64 0, .int .i64 0, .int .i64 0, .str [], .int .i64 0, .clip .entry []], .struct [(0, 3), (1, 3), (2, 3), (3, 9), (4, 3), (5, 32)]⟩), (38, ⟨true, 3, .agg [.int .i64 0, .str [], .int .i64 0], .struct [(0, 3), (1, 9), (2, 3)]⟩), (84, ⟨false, 1, .one (.clip .str []), .slice .str 9⟩)]
def qata : List (Nat × List EK) := []
theorem qatb : Tryz.prog.follows .mixedOrders = true := by kernel_rfl
theorem qatc : (qas9.all fun x => tiB Tryz.prog x.1 x.2) = true := by kernel_rfl
theorem qatd : (qata.all fun x => eqB Tryz.prog x.1 x.2) = true := by kernel_rfl
def qate : Code := bd Tryz.f21
def qatf : HS := ⟨[(2, .one (.ptr 0 0)), (4, .one (.ptr 1 0)), (8, .one (.ptr 2 0)), (24, .one (.sl .str)), (25, .one (.int .i64)), (26, .one (.int .i64))], [(0, .cells hFs), (1, .cells [.int .i64, .str, .int .i64]), (2, .cells [.int .i64, .str, .int .i64])], 3⟩
def qatg {R : Type} : Nat → HS.V qatf → (Ex → St → Option R) → Option R := fun q v K =>
  place_At_L6 v.1.2.2.2.1 v.1.2.2.2.2.1 (cFs v.2.1) (fun y11 => K .ret { regs := [(4, .v (.one (.ptr 1 0))), (5, .v (.one (.int .i64 y11)))], mem := [(1, .cells [.int .i64 ((⟨0, [], 0⟩ : Spotted).dir), .str ((⟨0, [], 0⟩ : Spotted).name), .int .i64 ((⟨0, [], 0⟩ : Spotted).ino)])], nx := 2 }) (fun y14 => K (.exit 0) { regs := [(4, .v (.one (.ptr 1 0))), (8, .v (.one (.ptr 2 0)))], mem := [(1, .cells [.int .i64 ((⟨v.2.2.1.1, v.2.2.1.2.1, v.2.2.1.2.2.1⟩ : Spotted).dir), .str ((⟨v.2.2.1.1, v.2.2.1.2.1, v.2.2.1.2.2.1⟩ : Spotted).name), .int .i64 ((⟨v.2.2.1.1, v.2.2.1.2.1, v.2.2.1.2.2.1⟩ : Spotted).ino)]), (2, .cells [.int .i64 y14.dir, .str y14.name, .int .i64 y14.ino])], nx := 3 }) q v.1.2.2.2.2.2.1 (⟨v.2.2.2.1.1, v.2.2.2.1.2.1, v.2.2.2.1.2.2.1⟩ : Spotted)
def qath : List HV := [.agg hFs, .one (.str)]
def qati : List HV := [.agg [.int .i64, .str, .int .i64], .one (.int .i64)]
def qatj : HP.V qath → Fs × Str := fun v => ((cFs v.1), v.2.1)
def qatk : HX.V qati → Spotted × Int := fun v => ((⟨v.1.1, v.1.2.1, v.1.2.2.1⟩ : Spotted), v.2)
def qatl : (Spotted × Int) → HX.V qati := fun y => ((y.1.dir, (y.1.name, (y.1.ino, ()))), y.2)
def qatm : (Fs × Str) → Option (Spotted × Int) := fun x => place_At x.1 x.2
def qatn : Spec := mkSpec qath qati qatj qatl qatm
def qato {R : Type} : List (Nat × Hd R) := [(6, hdOf qatf qatg)]
def qatp {R : Type} : List (Nat × Inl R) := []
def qatq : Cfg := { T := qas9, spec := [(55, qagc), (56, qasl), (57, qacp)], glob := GlobL.G Tryz.prog, eqs := qata, N := 60, fuel := 64, loops := [(6, ⟨[2, 4, 8, 24, 25, 26], [], [0, 1, 2], 3, [], [], [], []⟩)], blocks := [(0, ⟨[4, 8], [], [1, 2], 3, [], [], [], []⟩)], retA := some ⟨[4, 5], [], [1], 2, [], [], [], []⟩, fid := 21 }
theorem qatr : CfgOK Tryz.prog qatq := cfgC qatc qatd ⟨qajr, ⟨qaso, ⟨qacs, trivial⟩⟩⟩
theorem qats {R : Type} : SubsOK Tryz.prog (R := R) 0 qatp := subsOK_nil _ _
theorem qatt {R : Type} : LoopOK (R := R) (hnd 0 qatp) qatq qato (sub [1, 1, 1, 1, 0, 1, 0, 0] qate) (HS.V qatf) (HS.st qatf) (HS.sh qatf) qatg (hdOf qatf qatg) := loopOK_of qatf qatg (fun _ _ => rfl) (by intro q v K; kernel_rfl)
theorem qatu {R : Type} : LoopsOK (R := R) (hnd 0 qatp) qatq qato qate := loopsOK_of (l := [sub [1, 1, 1, 1, 0, 1, 0, 0] qate]) (by kernel_rfl) (loopsL_cons (b := sub [1, 1, 1, 1, 0, 1, 0, 0] qate) (rid := 6) (by kernel_rfl) (by kernel_rfl) qatt (trivial))
theorem qatv : SpecOK Tryz.prog 21 qatn := specOK_a Tryz.f21 qatr qatb (d := 0) qats qatu (rngs0 (by kernel_rfl)) (toY := qatk)
def qatw : List HV := [.agg hFs, .one (.str)]
def qatx : List HV := [.agg hIn, .one (.int .i64)]
def qaty : HP.V qatw → Fs × Str := fun v => ((cFs v.1), v.2.1)
def qatz : HX.V qatx → Inode × Int := fun v => ((cIn v.1), v.2)
def qat0 : (Inode × Int) → HX.V qatx := fun y => ((y.1.ino, (y.1.kind, (y.1.links, (y.1.data, (y.1.parent, (y.1.entries, ())))))), y.2)
def qat1 : (Fs × Str) → Option (Inode × Int) := fun x => place_Get x.1 x.2
def qat2 : Spec := mkSpec qatw qatx qaty qat0 qat1
def qat3 : Cfg := { T := qas9, spec := [(21, qatn), (56, qasl)], glob := GlobL.G Tryz.prog, eqs := qata, N := 31, fuel := 64, fid := 22 }
theorem qat4 : CfgOK Tryz.prog qat3 := cfgC qatc qatd ⟨qatv, ⟨qaso, trivial⟩⟩
theorem qat5 : SpecOK Tryz.prog 22 qat2 := specOK_0 Tryz.f22 qat4 qatb (toY := qatz)
end
end Go.Eng
set_option linter.unusedVariables false
set_option maxRecDepth 100000
namespace Go.Eng
noncomputable section
open Go Go.Proofs
def qat6 : List (Nat × TI) := [(3, ⟨false, 1, .one (.int .i64 0), .int .i64⟩), (9, ⟨false, 1, .one (.str []), .str⟩), (84, ⟨false, 1, .one (.clip .str []), .slice .str 9⟩), (140, ⟨false, 1, .one (.clip .strs []), .slice .strs 84⟩)]
def qat7 : List (Nat × List EK) := []
theorem qat8 : Tryz.prog.follows .mixedOrders = true := by kernel_rfl
theorem qat9 : (qat6.all fun x => tiB Tryz.prog x.1 x.2) = true := by kernel_rfl
theorem qaua : (qat7.all fun x => eqB Tryz.prog x.1 x.2) = true := by kernel_rfl
def qaub : Code := bd Tryz.f109
def qauc : Code := bd Tryz.f128
def qaud : HS := ⟨[(0, .one (.sl .strs)), (3, .one (.int .i64)), (9, .one (.sl .strs)), (10, .one (.int .i64)), (11, .one (.int .i64))], [], 0⟩
def qaue {R : Type} : Nat → HS.V qaud → (Ex → St → Option R) → Option R := fun q v K =>
  slices_Concat_string_L3 v.1.2.2.1 v.1.2.2.2.1 (fun y8 => K (.exit 0) { regs := [(0, .v (.one (.sl .strs v.1.1))), (3, .v (.one (.int .i64 y8)))], mem := [], nx := 0 }) q v.1.2.1 v.1.2.2.2.2.1
def qauf : HS := ⟨[(6, .one (.sub 0)), (25, .one (.sl .strs)), (26, .one (.int .i64)), (27, .one (.int .i64))], [(0, .row .str)], 1⟩
def qaug {R : Type} : Nat → HS.V qauf → (Ex → St → Option R) → Option R := fun q v K =>
  slices_Concat_string_L11 v.1.1.1 v.1.2.1 v.1.2.2.1 (fun y18 y19 => K (.exit 2) { regs := [(6, .v (.one (.sub 0 v.1.1.1 y18)))], mem := [(0, .row .str y19)], nx := 1 }) q v.1.1.2 v.1.2.2.2.1 v.2.1
def qauh : List HV := [.one (.sl .strs)]
def qaui : List HV := [.one (.sl .str)]
def qauj : HP.V qauh → (List (List Str)) := fun v => (v.1)
def qauk : HX.V qaui → (List Str) := fun v => (v)
def qaul : (List Str) → HX.V qaui := fun y => (y)
def qaum : (List (List Str)) → Option ((List Str)) := fun x => slices_Concat_string x
def qaun : Spec := mkSpec qauh qaui qauj qaul qaum
def qauo : Cfg := { T := qat6, glob := GlobL.G Tryz.prog, eqs := qat7, N := 27, fuel := 64, fid := 128, nilc := true }
theorem qaup : CfgOK Tryz.prog qauo := cfgC qat9 qaua trivial
def qauq {R : Type} : Inl R := .mk 128 qauo [] qauc Tryz.f128.results.toList []
def qaur {R : Type} : List (Nat × Hd R) := [(3, hdOf qaud qaue), (11, hdOf qauf qaug)]
def qaus {R : Type} : List (Nat × Inl R) := [(24, qauq)]
def qaut : Cfg := { T := qat6, glob := GlobL.G Tryz.prog, eqs := qat7, N := 36, fuel := 64, loops := [(11, ⟨[6, 25, 26, 27], [], [0], 1, [], [], [], [(6, 0, .str)]⟩), (3, ⟨[0, 3, 9, 10, 11], [], [], 0, [], [], [], []⟩)], blocks := [(2, ⟨[6], [], [0], 1, [], [], [], []⟩), (0, ⟨[0, 3], [], [], 0, [], [], [], []⟩)], fid := 109, nilc := true }
theorem qauu : CfgOK Tryz.prog qaut := cfgC qat9 qaua trivial
theorem qauv {R : Type} : SubsOK Tryz.prog (R := R) 1 qaus := subsOK_0 Tryz.f128 qaup (subsOK_nil _ _)
theorem qauw {R : Type} : LoopOK (R := R) (hnd 1 qaus) qaut qaur (sub [1, 1, 0, 1, 0, 0] qaub) (HS.V qaud) (HS.st qaud) (HS.sh qaud) qaue (hdOf qaud qaue) := loopOK_of qaud qaue (fun _ _ => rfl) (by intro q v K; kernel_rfl)
theorem qaux {R : Type} : LoopOK (R := R) (hnd 1 qaus) qaut qaur (sub [1, 1, 1, 1, 0, 1, 0, 0] qaub) (HS.V qauf) (HS.st qauf) (HS.sh qauf) qaug (hdOf qauf qaug) := loopOK_of qauf qaug (fun _ _ => rfl) (by intro q v K; kernel_rfl)
theorem qauy {R : Type} : LoopsOK (R := R) (hnd 1 qaus) qaut qaur qaub := loopsOK_of (l := [sub [1, 1, 0, 1, 0, 0] qaub, sub [1, 1, 1, 1, 0, 1, 0, 0] qaub]) (by kernel_rfl) (loopsL_cons (b := sub [1, 1, 0, 1, 0, 0] qaub) (rid := 3) (by kernel_rfl) (by kernel_rfl) qauw (loopsL_cons (b := sub [1, 1, 1, 1, 0, 1, 0, 0] qaub) (rid := 11) (by kernel_rfl) (by kernel_rfl) qaux (trivial)))
theorem qauz : SpecOK Tryz.prog 109 qaun := specOK_a Tryz.f109 qauu qat8 (d := 1) qauv qauy (rngs0 (by kernel_rfl)) (toY := qauk)
end
end Go.Eng
set_option linter.unusedVariables false
set_option maxRecDepth 100000
namespace Go.Eng
noncomputable section
open Go Go.Proofs
def qau0 : List (Nat × TI) := [(3, ⟨false, 1, .one (.int .i64 0), .int .i64⟩), (4, ⟨false, 1, .one (.bool false), .bool⟩), (9, ⟨false, 1, .one (.str []), .str⟩), (24, ⟨true, 4, .agg [.int .i64 0, .int .i64 0, .int .i64 0, .clip .inode []], .struct [(0, 3), (1, 3), (2, 3), (3, 22)]⟩), (32, ⟨false, 1, .one (.clip .entry []), .slice .entry 90⟩), (34, ⟨true, 6, .agg [.int .i64 0, .int .i64 0, .int .i64 0, .str [], .int .i64 0, .clip .entry []], .struct [(0, 3), (1, 3), (2, 3), (3, 9), (4, 3), (5, 32)]⟩), (38, ⟨true, 3, .agg [.int .i64 0, .str [], .int .i64 0], .struct [(0, 3), (1, 9), (2, 3)]⟩), (84, ⟨false, 1, .one (.clip .str []), .slice .str 9⟩), (101, ⟨true, 3, .agg [.bool false, .clip .str [], .bool false], .struct [(0, 4), (1, 84), (2, 4)]⟩), (104, ⟨true, 11, .agg [.int .i64 0, .int .i64 0, .int .i64 0, .clip .inode [], .bool false, .bool false, .clip .str [], .int .i64 0, .str [], .int .i64 0, .int .i64 0], .struct [(0, 24), (4, 4), (5, 4), (6, 84), (7, 38), (10, 3)]⟩), (140, ⟨false, 1, .one (.clip .strs []), .slice .strs 84⟩)]
def qau1 : List (Nat × List EK) := []
theorem qau2 : Tryz.prog.follows .mixedOrders = true := by kernel_rfl
theorem qau3 : (qau0.all fun x => tiB Tryz.prog x.1 x.2) = true := by kernel_rfl
theorem qau4 : (qau1.all fun x => eqB Tryz.prog x.1 x.2) = true := by kernel_rfl
def qau5 : Code := bd Tryz.f17
def qau6 : Code := bd Tryz.f50
def qau7 : Code := bd Tryz.f51
def qau8 : Code := bd Tryz.f80
def qau9 : Code := bd Tryz.f81
def qava : List HV := [.agg hFs, .one (.str)]
def qavb : List HV := [.one (.int .i64), .one (.int .i64)]
def qavc : HP.V qava → Fs × Str := fun v => ((cFs v.1), v.2.1)
def qavd : HX.V qavb → Int × Int := fun v => (v.1, v.2)
def qave : (Int × Int) → HX.V qavb := fun y => (y.1, y.2)
def qavf : (Fs × Str) → Option (Int × Int) := fun x => seek_Home x.1 x.2
def qavg : Spec := mkSpec qava qavb qavc qave qavf
def qavh : Cfg := { T := qau0, spec := [(22, qat2)], glob := GlobL.G Tryz.prog, eqs := qau1, N := 24, fuel := 64, fid := 46 }
theorem qavi : CfgOK Tryz.prog qavh := cfgC qau3 qau4 ⟨qat5, trivial⟩
theorem qavj : SpecOK Tryz.prog 46 qavg := specOK_0 Tryz.f46 qavi qau2 (toY := qavd)
def qavk : HS := ⟨[(0, .one (.ptr 4 0)), (2, .one (.ptr 5 0)), (1000008, .one (.ptr 1 0))], [(1, .cells [.int .i64, .str, .int .i64]), (4, .cells [.int .i64, .int .i64, .int .i64, .sl .inode, .bool, .bool, .sl .str, .int .i64, .str, .int .i64, .int .i64]), (5, .cells [.int .i64, .str, .int .i64])], 6⟩
def qavl {R : Type} : Nat → HS.V qavk → (Ex → St → Option R) → Option R := fun q v K =>
  seek_Seek_25_L1 v.2.2.1.1 v.2.2.1.2.1 v.2.2.1.2.2.1 v.2.2.1.2.2.2.1 v.2.2.1.2.2.2.2.1 (fun y36 => K .ret { regs := [(2, .v (.one (.ptr 5 0))), (3, .v (.one (.int .i64 y36))), (1000008, .v (.one (.ptr 1 0)))], mem := [(1, .cells [.int .i64 ((⟨v.2.1.1, v.2.1.2.1, v.2.1.2.2.1⟩ : Spotted).dir), .str ((⟨v.2.1.1, v.2.1.2.1, v.2.1.2.2.1⟩ : Spotted).name), .int .i64 ((⟨v.2.1.1, v.2.1.2.1, v.2.1.2.2.1⟩ : Spotted).ino)]), (5, .cells [.int .i64 ((⟨0, [], 0⟩ : Spotted).dir), .str ((⟨0, [], 0⟩ : Spotted).name), .int .i64 ((⟨0, [], 0⟩ : Spotted).ino)])], nx := 6 }) (fun y45 y46 y47 y48 y49 y50 => K (.exit 0) { regs := [(0, .v (.one (.ptr 4 0))), (2, .v (.one (.ptr 5 0))), (1000008, .v (.one (.ptr 1 0)))], mem := [(1, .cells [.int .i64 ((⟨v.2.1.1, v.2.1.2.1, v.2.1.2.2.1⟩ : Spotted).dir), .str ((⟨v.2.1.1, v.2.1.2.1, v.2.1.2.2.1⟩ : Spotted).name), .int .i64 ((⟨v.2.1.1, v.2.1.2.1, v.2.1.2.2.1⟩ : Spotted).ino)]), (4, .cells [.int .i64 v.2.2.1.1, .int .i64 v.2.2.1.2.1, .int .i64 v.2.2.1.2.2.1, .sl .inode v.2.2.1.2.2.2.1, .bool v.2.2.1.2.2.2.2.1, .bool y45, .sl .str y46, .int .i64 y47, .str y48, .int .i64 y49, .int .i64 y50]), (5, .cells [.int .i64 ((⟨v.2.2.2.1.1, v.2.2.2.1.2.1, v.2.2.2.1.2.2.1⟩ : Spotted).dir), .str ((⟨v.2.2.2.1.1, v.2.2.2.1.2.1, v.2.2.2.1.2.2.1⟩ : Spotted).name), .int .i64 ((⟨v.2.2.2.1.1, v.2.2.2.1.2.1, v.2.2.2.1.2.2.1⟩ : Spotted).ino)])], nx := 6 }) q v.2.2.1.2.2.2.2.2.1 v.2.2.1.2.2.2.2.2.2.1 v.2.2.1.2.2.2.2.2.2.2.1 v.2.2.1.2.2.2.2.2.2.2.2.1 v.2.2.1.2.2.2.2.2.2.2.2.2.1 v.2.2.1.2.2.2.2.2.2.2.2.2.2.1
def qavm : List HV := [.agg hFs, .one (.str), .one (.str), .one (.bool)]
def qavn : List HV := [.agg [.int .i64, .str, .int .i64], .one (.int .i64)]
def qavo : HP.V qavm → Fs × Str × Str × Bool := fun v => ((cFs v.1), v.2.1, v.2.2.1, v.2.2.2.1)
def qavp : HX.V qavn → Spotted × Int := fun v => ((⟨v.1.1, v.1.2.1, v.1.2.2.1⟩ : Spotted), v.2)
def qavq : (Spotted × Int) → HX.V qavn := fun y => ((y.1.dir, (y.1.name, (y.1.ino, ()))), y.2)
def qavr : (Fs × Str × Str × Bool) → Option (Spotted × Int) := fun x => seek_Seek x.1 x.2.1 x.2.2.1 x.2.2.2
def qavs : Spec := mkSpec qavm qavn qavo qavq qavr
def qavt : Cfg := { T := qau0, spec := [(46, qavg), (78, qaj0), (79, qams)], glob := GlobL.G Tryz.prog, eqs := qau1, N := 49, fuel := 64, fid := 50 }
theorem qavu : CfgOK Tryz.prog qavt := cfgC qau3 qau4 ⟨qavj, ⟨qamj, ⟨qap9, trivial⟩⟩⟩
def qavv {R : Type} : Inl R := .mk 50 qavt [] qau6 Tryz.f50.results.toList []
def qavw : Cfg := { T := qau0, spec := [(56, qasl), (57, qacp), (78, qaj0), (79, qams)], glob := GlobL.G Tryz.prog, eqs := qau1, N := 70, fuel := 64, fid := 80, gns := [(109, qaun)] }
theorem qavx : CfgOK Tryz.prog qavw := cfgC qau3 qau4 ⟨qaso, ⟨qacs, ⟨qamj, ⟨qap9, trivial⟩⟩⟩⟩ (gn := ⟨qauz, trivial⟩)
def qavy {R : Type} : Inl R := .mk 80 qavw [] qau8 Tryz.f80.results.toList []
def qavz : Cfg := { T := qau0, spec := [(56, qasl), (57, qacp)], glob := GlobL.G Tryz.prog, eqs := qau1, N := 36, fuel := 64, fid := 81 }
theorem qav0 : CfgOK Tryz.prog qavz := cfgC qau3 qau4 ⟨qaso, ⟨qacs, trivial⟩⟩
def qav1 {R : Type} : Inl R := .mk 81 qavz [] qau9 Tryz.f81.results.toList []
def qav2 {R : Type} : List (Nat × Hd R) := [(1, hdOf qavk qavl)]
def qav3 {R : Type} : List (Nat × Inl R) := [(114, qavy), (128, qav1)]
def qav4 : Cfg := { T := qau0, spec := [(56, qasl), (57, qacp)], glob := GlobL.G Tryz.prog, eqs := qau1, N := 131, fuel := 64, loops := [(1, ⟨[0, 2, 1000008], [], [1, 4, 5], 6, [], [], [], []⟩)], blocks := [(0, ⟨[0, 2, 1000008], [], [1, 4, 5], 6, [], [], [], []⟩)], retA := some ⟨[2, 3, 1000008], [], [1, 5], 6, [], [], [], []⟩, fid := 51 }
theorem qav5 : CfgOK Tryz.prog qav4 := cfgC qau3 qau4 ⟨qaso, ⟨qacs, trivial⟩⟩
theorem qav6 {R : Type} : SubsOK Tryz.prog (R := R) 1 qav3 := subsOK_0 Tryz.f80 qavx (subsOK_0 Tryz.f81 qav0 (subsOK_nil _ _))
theorem qav7 {R : Type} : LoopOK (R := R) (hnd 1 qav3) qav4 qav2 (sub [1, 0, 1, 0, 0, 0] qau7) (HS.V qavk) (HS.st qavk) (HS.sh qavk) qavl (hdOf qavk qavl) := loopOK_of qavk qavl (fun _ _ => rfl) (by intro q v K; kernel_rfl)
theorem qav8 {R : Type} : LoopsOK (R := R) (hnd 1 qav3) qav4 qav2 qau7 := loopsOK_of (l := [sub [1, 0, 1, 0, 0, 0] qau7]) (by kernel_rfl) (loopsL_cons (b := sub [1, 0, 1, 0, 0, 0] qau7) (rid := 1) (by kernel_rfl) (by kernel_rfl) qav7 (trivial))
def qav9 {R : Type} : Inl R := .mk 51 qav4 qav2 qau7 Tryz.f51.results.toList qav3
def qawa {R : Type} : List (Nat × Hd R) := []
def qawb {R : Type} : List (Nat × Inl R) := [(17, qavv), (25, qav9)]
def qawc : Cfg := { T := qau0, glob := GlobL.G Tryz.prog, eqs := qau1, N := 28, fuel := 64, fid := 17 }
theorem qawd : CfgOK Tryz.prog qawc := cfgC qau3 qau4 trivial
theorem qawe {R : Type} : SubsOK Tryz.prog (R := R) 2 qawb := subsOK_0 Tryz.f50 qavu (subsOK_a Tryz.f51 qav5 qav8 (rngs0 (by kernel_rfl)) qav6 (subsOK_nil _ _))
theorem qawf {R : Type} : LoopsOK (R := R) (hnd 2 qawb) qawc qawa qau5 := loopsOK_of (l := []) (by kernel_rfl) (trivial)
theorem qawg : SpecOK Tryz.prog 17 qavs := specOK_a Tryz.f17 qawd qau2 (d := 2) qawe qawf (rngs0 (by kernel_rfl)) (toY := qavp)
end
end Go.Eng
set_option linter.unusedVariables false
set_option maxRecDepth 100000
namespace Go.Eng
noncomputable section
open Go Go.Proofs
def qawh : List (Nat × TI) := [(3, ⟨false, 1, .one (.int .i64 0), .int .i64⟩), (4, ⟨false, 1, .one (.bool false), .bool⟩), (9, ⟨false, 1, .one (.str []), .str⟩), (24, ⟨true, 4, .agg [.int .i64 0, .int .i64 0, .int .i64 0, .clip .inode []], .struct [(0, 3), (1, 3), (2, 3), (3, 22)]⟩), (34, ⟨true, 6, .agg [.int .i64 0, .int .i64 0, .int .i64 0, .str [], .int .i64 0, .clip .entry []], .struct [(0, 3), (1, 3), (2, 3), (3, 9), (4, 3), (5, 32)]⟩), (38, ⟨true, 3, .agg [.int .i64 0, .str [], .int .i64 0], .struct [(0, 3), (1, 9), (2, 3)]⟩)]
def qawi : List (Nat × List EK) := []
theorem qawj : Tryz.prog.follows .mixedOrders = true := by kernel_rfl
theorem qawk : (qawh.all fun x => tiB Tryz.prog x.1 x.2) = true := by kernel_rfl
theorem qawl : (qawi.all fun x => eqB Tryz.prog x.1 x.2) = true := by kernel_rfl
def qawm : List HV := [.agg hFs, .one (.str), .one (.str), .one (.bool)]
def qawn : List HV := [.agg hIn, .one (.int .i64)]
def qawo : HP.V qawm → Fs × Str × Str × Bool := fun v => ((cFs v.1), v.2.1, v.2.2.1, v.2.2.2.1)
def qawp : HX.V qawn → Inode × Int := fun v => ((cIn v.1), v.2)
def qawq : (Inode × Int) → HX.V qawn := fun y => ((y.1.ino, (y.1.kind, (y.1.links, (y.1.data, (y.1.parent, (y.1.entries, ())))))), y.2)
def qawr : (Fs × Str × Str × Bool) → Option (Inode × Int) := fun x => data_Stat x.1 x.2.1 x.2.2.1 x.2.2.2
def qaws : Spec := mkSpec qawm qawn qawo qawq qawr
def qawt : Cfg := { T := qawh, spec := [(17, qavs), (56, qasl)], glob := GlobL.G Tryz.prog, eqs := qawi, N := 37, fuel := 64, fid := 33 }
theorem qawu : CfgOK Tryz.prog qawt := cfgC qawk qawl ⟨qawg, ⟨qaso, trivial⟩⟩
theorem qawv : SpecOK Tryz.prog 33 qaws := specOK_0 Tryz.f33 qawu qawj (toY := qawp)
def qaww : List HV := [.agg hFs, .one (.str), .one (.str)]
def qawx : List HV := [.agg hIn, .one (.int .i64)]
def qawy : HP.V qaww → Fs × Str × Str := fun v => ((cFs v.1), v.2.1, v.2.2.1)
def qawz : HX.V qawx → Inode × Int := fun v => ((cIn v.1), v.2)
def qaw0 : (Inode × Int) → HX.V qawx := fun y => ((y.1.ino, (y.1.kind, (y.1.links, (y.1.data, (y.1.parent, (y.1.entries, ())))))), y.2)
def qaw1 : (Fs × Str × Str) → Option (Inode × Int) := fun x => data_file x.1 x.2.1 x.2.2
def qaw2 : Spec := mkSpec qaww qawx qawy qaw0 qaw1
def qaw3 : Cfg := { T := qawh, spec := [(33, qaws)], glob := GlobL.G Tryz.prog, eqs := qawi, N := 28, fuel := 64, fid := 68 }
theorem qaw4 : CfgOK Tryz.prog qaw3 := cfgC qawk qawl ⟨qawv, trivial⟩
theorem qaw5 : SpecOK Tryz.prog 68 qaw2 := specOK_0 Tryz.f68 qaw4 qawj (toY := qawz)
def qaw6 : List HV := [.agg hFs, .one (.str), .one (.str)]
def qaw7 : List HV := [.one (.str), .one (.int .i64)]
def qaw8 : HP.V qaw6 → Fs × Str × Str := fun v => ((cFs v.1), v.2.1, v.2.2.1)
def qaw9 : HX.V qaw7 → Str × Int := fun v => (v.1, v.2)
def qaxa : (Str × Int) → HX.V qaw7 := fun y => (y.1, y.2)
def qaxb : (Fs × Str × Str) → Option (Str × Int) := fun x => data_Read x.1 x.2.1 x.2.2
def qaxc : Spec := mkSpec qaw6 qaw7 qaw8 qaxa qaxb
def qaxd : Cfg := { T := qawh, spec := [(68, qaw2)], glob := GlobL.G Tryz.prog, eqs := qawi, N := 20, fuel := 64, fid := 35 }
theorem qaxe : CfgOK Tryz.prog qaxd := cfgC qawk qawl ⟨qaw5, trivial⟩
theorem qaxf : SpecOK Tryz.prog 35 qaxc := specOK_0 Tryz.f35 qaxe qawj (toY := qaw9)
def qaxg : List HV := [.agg hFs, .one (.str), .one (.str)]
def qaxh : List HV := [.one (.str), .one (.int .i64)]
def qaxi : HP.V qaxg → Fs × Str × Str := fun v => ((cFs v.1), v.2.1, v.2.2.1)
def qaxj : HX.V qaxh → Str × Int := fun v => (v.1, v.2)
def qaxk : (Str × Int) → HX.V qaxh := fun y => (y.1, y.2)
def qaxl : (Fs × Str × Str) → Option (Str × Int) := fun x => data_Readlink x.1 x.2.1 x.2.2
def qaxm : Spec := mkSpec qaxg qaxh qaxi qaxk qaxl
def qaxn : Cfg := { T := qawh, spec := [(33, qaws)], glob := GlobL.G Tryz.prog, eqs := qawi, N := 27, fuel := 64, fid := 37 }
theorem qaxo : CfgOK Tryz.prog qaxn := cfgC qawk qawl ⟨qawv, trivial⟩
theorem qaxp : SpecOK Tryz.prog 37 qaxm := specOK_0 Tryz.f37 qaxo qawj (toY := qaxj)
def qaxq : List HV := [.agg hFs, .one (.int .i64), .one (.str)]
def qaxr : List HV := [.agg hFs, .one (.int .i64)]
def qaxs : HP.V qaxq → Fs × Int × Str := fun v => ((cFs v.1), v.2.1, v.2.2.1)
def qaxt : HX.V qaxr → Fs × Int := fun v => ((cFs v.1), v.2)
def qaxu : (Fs × Int) → HX.V qaxr := fun y => ((y.1.maxInodes, (y.1.maxBytes, (y.1.next, (y.1.inodes, ())))), y.2)
def qaxv : (Fs × Int × Str) → Option (Fs × Int) := fun x => data_Set x.1 x.2.1 x.2.2
def qaxw : Spec := mkSpec qaxq qaxr qaxs qaxu qaxv
def qaxx : Cfg := { T := qawh, spec := [(56, qasl), (69, qabd), (70, qasv)], glob := GlobL.G Tryz.prog, eqs := qawi, N := 31, fuel := 64, fid := 41 }
theorem qaxy : CfgOK Tryz.prog qaxx := cfgC qawk qawl ⟨qaso, ⟨qabg, ⟨qas8, trivial⟩⟩⟩
theorem qaxz : SpecOK Tryz.prog 41 qaxw := specOK_0 Tryz.f41 qaxy qawj (toY := qaxt)
def qax0 : List HV := [.agg hFs, .one (.str), .one (.str), .one (.str)]
def qax1 : List HV := [.agg hFs, .one (.int .i64)]
def qax2 : HP.V qax0 → Fs × Str × Str × Str := fun v => ((cFs v.1), v.2.1, v.2.2.1, v.2.2.2.1)
def qax3 : HX.V qax1 → Fs × Int := fun v => ((cFs v.1), v.2)
def qax4 : (Fs × Int) → HX.V qax1 := fun y => ((y.1.maxInodes, (y.1.maxBytes, (y.1.next, (y.1.inodes, ())))), y.2)
def qax5 : (Fs × Str × Str × Str) → Option (Fs × Int) := fun x => data_Write x.1 x.2.1 x.2.2.1 x.2.2.2
def qax6 : Spec := mkSpec qax0 qax1 qax2 qax4 qax5
def qax7 : Cfg := { T := qawh, spec := [(41, qaxw), (68, qaw2)], glob := GlobL.G Tryz.prog, eqs := qawi, N := 30, fuel := 64, fid := 39 }
theorem qax8 : CfgOK Tryz.prog qax7 := cfgC qawk qawl ⟨qaxz, ⟨qaw5, trivial⟩⟩
theorem qax9 : SpecOK Tryz.prog 39 qax6 := specOK_0 Tryz.f39 qax8 qawj (toY := qax3)
end
end Go.Eng
set_option linter.unusedVariables false
set_option maxRecDepth 100000
namespace Go.Eng
noncomputable section
open Go Go.Proofs
def qaya : List (Nat × TI) := [(4, ⟨false, 1, .one (.bool false), .bool⟩), (9, ⟨false, 1, .one (.str []), .str⟩), (84, ⟨false, 1, .one (.clip .str []), .slice .str 9⟩), (101, ⟨true, 3, .agg [.bool false, .clip .str [], .bool false], .struct [(0, 4), (1, 84), (2, 4)]⟩)]
def qayb : List (Nat × List EK) := []
theorem qayc : Tryz.prog.follows .mixedOrders = true := by kernel_rfl
theorem qayd : (qaya.all fun x => tiB Tryz.prog x.1 x.2) = true := by kernel_rfl
theorem qaye : (qayb.all fun x => eqB Tryz.prog x.1 x.2) = true := by kernel_rfl
def qayf : Code := bd Tryz.f19
def qayg : Code := bd Tryz.f52
def qayh : Code := bd Tryz.f82
def qayi : Code := bd Tryz.f83
def qayj : Code := bd Tryz.f95
def qayk : HS := ⟨[(0, .one (.str)), (3, .one (.int .i64))], [], 0⟩
def qayl {R : Type} : Nat → HS.V qayk → (Ex → St → Option R) → Option R := fun q v K =>
  ref03_May_L2 v.1.1 (K .ret { regs := [(2, .v (.one (.bool false)))], mem := [], nx := 0 }) (K (.exit 0) { regs := [(0, .v (.one (.str v.1.1)))], mem := [], nx := 0 }) q v.1.2.1
def qaym : List HV := [.one (.str)]
def qayn : List HV := [.one (.bool)]
def qayo : HP.V qaym → Str := fun v => (v.1)
def qayp : HX.V qayn → Bool := fun v => (v)
def qayq : Bool → HX.V qayn := fun y => (y)
def qayr : Str → Option (Bool) := fun x => ref03_May x
def qays : Spec := mkSpec qaym qayn qayo qayq qayr
def qayt {R : Type} : List (Nat × Hd R) := [(2, hdOf qayk qayl)]
def qayu {R : Type} : List (Nat × Inl R) := []
def qayv : Cfg := { T := qaya, glob := GlobL.G Tryz.prog, eqs := qayb, N := 36, fuel := 64, loops := [(2, ⟨[0, 3], [], [], 0, [], [], [], []⟩)], blocks := [(0, ⟨[0], [], [], 0, [], [], [], []⟩)], retA := some ⟨[2], [], [], 0, [], [], [], []⟩, fid := 19 }
theorem qayw : CfgOK Tryz.prog qayv := cfgC qayd qaye trivial
theorem qayx {R : Type} : SubsOK Tryz.prog (R := R) 0 qayu := subsOK_nil _ _
theorem qayy {R : Type} : LoopOK (R := R) (hnd 0 qayu) qayv qayt (sub [1, 0, 1, 0, 0] qayf) (HS.V qayk) (HS.st qayk) (HS.sh qayk) qayl (hdOf qayk qayl) := loopOK_of qayk qayl (fun _ _ => rfl) (by intro q v K; kernel_rfl)
theorem qayz {R : Type} : LoopsOK (R := R) (hnd 0 qayu) qayv qayt qayf := loopsOK_of (l := [sub [1, 0, 1, 0, 0] qayf]) (by kernel_rfl) (loopsL_cons (b := sub [1, 0, 1, 0, 0] qayf) (rid := 2) (by kernel_rfl) (by kernel_rfl) qayy (trivial))
theorem qay0 : SpecOK Tryz.prog 19 qays := specOK_a Tryz.f19 qayw qayc (d := 0) qayx qayz (rngs0 (by kernel_rfl)) (toY := qayp)
def qay1 : HS := ⟨[(0, .one (.str)), (3, .one (.own 0)), (4, .one (.str)), (5, .one (.int .i64))], [(0, .row .str)], 1⟩
def qay2 {R : Type} : Nat → HS.V qay1 → (Ex → St → Option R) → Option R := fun q v K =>
  ref03_Names_L4 v.1.1 (fun y6 => K (.exit 0) { regs := [(3, .v (.one (.own 0)))], mem := [(0, .row .str y6)], nx := 1 }) q v.1.2.2.1 v.1.2.2.2.1 v.2.1
def qay3 : List HV := [.one (.str)]
def qay4 : List HV := [.one (.sl .str)]
def qay5 : HP.V qay3 → Str := fun v => (v.1)
def qay6 : HX.V qay4 → (List Str) := fun v => (v)
def qay7 : (List Str) → HX.V qay4 := fun y => (y)
def qay8 : Str → Option ((List Str)) := fun x => ref03_Names x
def qay9 : Spec := mkSpec qay3 qay4 qay5 qay7 qay8
def qaza {R : Type} : List (Nat × Hd R) := [(4, hdOf qay1 qay2)]
def qazb {R : Type} : List (Nat × Inl R) := []
def qazc : Cfg := { T := qaya, glob := GlobL.G Tryz.prog, eqs := qayb, N := 36, fuel := 64, loops := [(4, ⟨[0, 3, 4, 5], [(3, 0, .str)], [0], 1, [], [], [], []⟩)], blocks := [(0, ⟨[3], [], [0], 1, [], [], [], []⟩)], fid := 82 }
theorem qazd : CfgOK Tryz.prog qazc := cfgC qayd qaye trivial
theorem qaze {R : Type} : SubsOK Tryz.prog (R := R) 0 qazb := subsOK_nil _ _
theorem qazf {R : Type} : LoopOK (R := R) (hnd 0 qazb) qazc qaza (sub [1, 1, 1, 0, 1, 0, 0] qayh) (HS.V qay1) (HS.st qay1) (HS.sh qay1) qay2 (hdOf qay1 qay2) := loopOK_of qay1 qay2 (fun _ _ => rfl) (by intro q v K; kernel_rfl)
theorem qazg {R : Type} : LoopsOK (R := R) (hnd 0 qazb) qazc qaza qayh := loopsOK_of (l := [sub [1, 1, 1, 0, 1, 0, 0] qayh]) (by kernel_rfl) (loopsL_cons (b := sub [1, 1, 1, 0, 1, 0, 0] qayh) (rid := 4) (by kernel_rfl) (by kernel_rfl) qazf (trivial))
theorem qazh : SpecOK Tryz.prog 82 qay9 := specOK_a Tryz.f82 qazd qayc (d := 0) qaze qazg (rngs0 (by kernel_rfl)) (toY := qay6)
def qazi : HS := ⟨[(0, .one (.sl .str)), (3, .one (.str)), (4, .one (.int .i64))], [], 0⟩
def qazj {R : Type} : Nat → HS.V qazi → (Ex → St → Option R) → Option R := fun q v K =>
  ref03_Join_L5 v.1.1 (fun y5 => K (.exit 0) { regs := [(3, .v (.one (.str y5)))], mem := [], nx := 0 }) q v.1.2.1 v.1.2.2.1
def qazk : List HV := [.one (.sl .str)]
def qazl : List HV := [.one (.str)]
def qazm : HP.V qazk → (List Str) := fun v => (v.1)
def qazn : HX.V qazl → Str := fun v => (v)
def qazo : Str → HX.V qazl := fun y => (y)
def qazp : (List Str) → Option (Str) := fun x => ref03_Join x
def qazq : Spec := mkSpec qazk qazl qazm qazo qazp
def qazr {R : Type} : List (Nat × Hd R) := [(5, hdOf qazi qazj)]
def qazs {R : Type} : List (Nat × Inl R) := []
def qazt : Cfg := { T := qaya, glob := GlobL.G Tryz.prog, eqs := qayb, N := 22, fuel := 64, loops := [(5, ⟨[0, 3, 4], [], [], 0, [], [], [], []⟩)], blocks := [(0, ⟨[3], [], [], 0, [], [], [], []⟩)], fid := 83 }
theorem qazu : CfgOK Tryz.prog qazt := cfgC qayd qaye trivial
theorem qazv {R : Type} : SubsOK Tryz.prog (R := R) 0 qazs := subsOK_nil _ _
theorem qazw {R : Type} : LoopOK (R := R) (hnd 0 qazs) qazt qazr (sub [1, 1, 1, 0, 1, 0, 0] qayi) (HS.V qazi) (HS.st qazi) (HS.sh qazi) qazj (hdOf qazi qazj) := loopOK_of qazi qazj (fun _ _ => rfl) (by intro q v K; kernel_rfl)
theorem qazx {R : Type} : LoopsOK (R := R) (hnd 0 qazs) qazt qazr qayi := loopsOK_of (l := [sub [1, 1, 1, 0, 1, 0, 0] qayi]) (by kernel_rfl) (loopsL_cons (b := sub [1, 1, 1, 0, 1, 0, 0] qayi) (rid := 5) (by kernel_rfl) (by kernel_rfl) qazw (trivial))
theorem qazy : SpecOK Tryz.prog 83 qazq := specOK_a Tryz.f83 qazu qayc (d := 0) qazv qazx (rngs0 (by kernel_rfl)) (toY := qazn)
def qazz : HS := ⟨[(0, .one (.str)), (4, .one (.sl .str)), (5, .one (.int .i64))], [], 0⟩
def qaz0 {R : Type} : Nat → HS.V qazz → (Ex → St → Option R) → Option R := fun q v K =>
  ref03_Plain_L3 v.1.2.1 (K .ret { regs := [(2, .v (.one (.clip .str ([] : List Str)))), (3, .v (.one (.bool false)))], mem := [], nx := 0 }) (K (.exit 0) { regs := [(0, .v (.one (.str v.1.1))), (4, .v (.one (.sl .str v.1.2.1)))], mem := [], nx := 0 }) q v.1.2.2.1
def qaz1 : List HV := [.one (.str)]
def qaz2 : List HV := [.one (.sl .str), .one (.bool)]
def qaz3 : HP.V qaz1 → Str := fun v => (v.1)
def qaz4 : HX.V qaz2 → (List Str) × Bool := fun v => (v.1, v.2)
def qaz5 : (List Str) × Bool → HX.V qaz2 := fun y => (y.1, y.2)
def qaz6 : Str → Option ((List Str) × Bool) := fun x => ref03_Plain x
def qaz7 : Spec := mkSpec qaz1 qaz2 qaz3 qaz5 qaz6
def qaz8 {R : Type} : List (Nat × Hd R) := [(3, hdOf qazz qaz0)]
def qaz9 {R : Type} : List (Nat × Inl R) := []
def qa0a : Cfg := { T := qaya, spec := [(19, qays), (82, qay9), (83, qazq)], glob := GlobL.G Tryz.prog, eqs := qayb, N := 25, fuel := 64, loops := [(3, ⟨[0, 4, 5], [], [], 0, [], [], [], []⟩)], blocks := [(0, ⟨[0, 4], [], [], 0, [], [], [], []⟩)], retA := some ⟨[2, 3], [], [], 0, [], [], [], []⟩, fid := 52 }
theorem qa0b : CfgOK Tryz.prog qa0a := cfgC qayd qaye ⟨qay0, ⟨qazh, ⟨qazy, trivial⟩⟩⟩
theorem qa0c {R : Type} : SubsOK Tryz.prog (R := R) 0 qaz9 := subsOK_nil _ _
theorem qa0d {R : Type} : LoopOK (R := R) (hnd 0 qaz9) qa0a qaz8 (sub [1, 1, 0, 1, 0, 0] qayg) (HS.V qazz) (HS.st qazz) (HS.sh qazz) qaz0 (hdOf qazz qaz0) := loopOK_of qazz qaz0 (fun _ _ => rfl) (by intro q v K; kernel_rfl)
theorem qa0e {R : Type} : LoopsOK (R := R) (hnd 0 qaz9) qa0a qaz8 qayg := loopsOK_of (l := [sub [1, 1, 0, 1, 0, 0] qayg]) (by kernel_rfl) (loopsL_cons (b := sub [1, 1, 0, 1, 0, 0] qayg) (rid := 3) (by kernel_rfl) (by kernel_rfl) qa0d (trivial))
theorem qa0f : SpecOK Tryz.prog 52 qaz7 := specOK_a Tryz.f52 qa0b qayc (d := 0) qa0c qa0e (rngs0 (by kernel_rfl)) (toY := qaz4)
def qa0g : HS := ⟨[(0, .one (.str)), (3, .one (.sl .str)), (4, .one (.int .i64))], [], 0⟩
def qa0h {R : Type} : Nat → HS.V qa0g → (Ex → St → Option R) → Option R := fun q v K =>
  ref03_Long_L3 v.1.2.1 (K .ret { regs := [(2, .v (.one (.bool true)))], mem := [], nx := 0 }) (K (.exit 0) { regs := [(0, .v (.one (.str v.1.1)))], mem := [], nx := 0 }) q v.1.2.2.1
def qa0i : List HV := [.one (.str)]
def qa0j : List HV := [.one (.bool)]
def qa0k : HP.V qa0i → Str := fun v => (v.1)
def qa0l : HX.V qa0j → Bool := fun v => (v)
def qa0m : Bool → HX.V qa0j := fun y => (y)
def qa0n : Str → Option (Bool) := fun x => ref03_Long x
def qa0o : Spec := mkSpec qa0i qa0j qa0k qa0m qa0n
def qa0p {R : Type} : List (Nat × Hd R) := [(3, hdOf qa0g qa0h)]
def qa0q {R : Type} : List (Nat × Inl R) := []
def qa0r : Cfg := { T := qaya, spec := [(82, qay9)], glob := GlobL.G Tryz.prog, eqs := qayb, N := 22, fuel := 64, loops := [(3, ⟨[0, 3, 4], [], [], 0, [], [], [], []⟩)], blocks := [(0, ⟨[0], [], [], 0, [], [], [], []⟩)], retA := some ⟨[2], [], [], 0, [], [], [], []⟩, fid := 95 }
theorem qa0s : CfgOK Tryz.prog qa0r := cfgC qayd qaye ⟨qazh, trivial⟩
theorem qa0t {R : Type} : SubsOK Tryz.prog (R := R) 0 qa0q := subsOK_nil _ _
theorem qa0u {R : Type} : LoopOK (R := R) (hnd 0 qa0q) qa0r qa0p (sub [1, 1, 0, 1, 0, 0] qayj) (HS.V qa0g) (HS.st qa0g) (HS.sh qa0g) qa0h (hdOf qa0g qa0h) := loopOK_of qa0g qa0h (fun _ _ => rfl) (by intro q v K; kernel_rfl)
theorem qa0v {R : Type} : LoopsOK (R := R) (hnd 0 qa0q) qa0r qa0p qayj := loopsOK_of (l := [sub [1, 1, 0, 1, 0, 0] qayj]) (by kernel_rfl) (loopsL_cons (b := sub [1, 1, 0, 1, 0, 0] qayj) (rid := 3) (by kernel_rfl) (by kernel_rfl) qa0u (trivial))
theorem qa0w : SpecOK Tryz.prog 95 qa0o := specOK_a Tryz.f95 qa0s qayc (d := 0) qa0t qa0v (rngs0 (by kernel_rfl)) (toY := qa0l)
def qa0x : List HV := [.one (.str)]
def qa0y : List HV := [.agg [.bool, .sl .str, .bool]]
def qa0z : HP.V qa0x → Str := fun v => (v.1)
def qa00 : HX.V qa0y → Pth := fun v => ((⟨v.1, v.2.1, v.2.2.1⟩ : Pth))
def qa01 : Pth → HX.V qa0y := fun y => ((y.abs, (y.names, (y.slash, ()))))
def qa02 : Str → Option (Pth) := fun x => ref03_Read x
def qa03 : Spec := mkSpec qa0x qa0y qa0z qa01 qa02
def qa04 : Cfg := { T := qaya, spec := [(82, qay9)], glob := GlobL.G Tryz.prog, eqs := qayb, N := 30, fuel := 64, fid := 96 }
theorem qa05 : CfgOK Tryz.prog qa04 := cfgC qayd qaye ⟨qazh, trivial⟩
theorem qa06 : SpecOK Tryz.prog 96 qa03 := specOK_0 Tryz.f96 qa05 qayc (toY := qa00)
end
end Go.Eng
set_option linter.unusedVariables false
set_option maxRecDepth 100000
namespace Go.Eng
noncomputable section
open Go Go.Proofs
def qa07 : List (Nat × TI) := [(3, ⟨false, 1, .one (.int .i64 0), .int .i64⟩), (9, ⟨false, 1, .one (.str []), .str⟩), (32, ⟨false, 1, .one (.clip .entry []), .slice .entry 90⟩), (90, ⟨true, 2, .agg [.str [], .int .i64 0], .struct [(0, 9), (1, 3)]⟩)]
def qa08 : List (Nat × List EK) := [(90, [.s, .i])]
theorem qa09 : Tryz.prog.follows .mixedOrders = true := by kernel_rfl
theorem qa1a : (qa07.all fun x => tiB Tryz.prog x.1 x.2) = true := by kernel_rfl
theorem qa1b : (qa08.all fun x => eqB Tryz.prog x.1 x.2) = true := by kernel_rfl
def qa1c : Code := bd Tryz.f30
def qa1d : Code := bd Tryz.f58
def qa1e : Code := bd Tryz.f105
def qa1f : HS := ⟨[(0, .one (.sl .entry)), (3, .one (.int .i64))], [], 0⟩
def qa1g {R : Type} : Nat → HS.V qa1f → (Ex → St → Option R) → Option R := fun q v K =>
  ref04_Right_L2 v.1.1 (K .ret { regs := [(2, .v (.one (.bool false)))], mem := [], nx := 0 }) (K (.exit 0) { regs := [], mem := [], nx := 0 }) q v.1.2.1
def qa1h : List HV := [.one (.sl .entry)]
def qa1i : List HV := [.one (.bool)]
def qa1j : HP.V qa1h → (List Entry) := fun v => (v.1)
def qa1k : HX.V qa1i → Bool := fun v => (v)
def qa1l : Bool → HX.V qa1i := fun y => (y)
def qa1m : (List Entry) → Option (Bool) := fun x => ref04_Right x
def qa1n : Spec := mkSpec qa1h qa1i qa1j qa1l qa1m
def qa1o {R : Type} : List (Nat × Hd R) := [(2, hdOf qa1f qa1g)]
def qa1p {R : Type} : List (Nat × Inl R) := []
def qa1q : Cfg := { T := qa07, spec := [(19, qays)], glob := GlobL.G Tryz.prog, eqs := qa08, N := 41, fuel := 64, loops := [(2, ⟨[0, 3], [], [], 0, [], [], [], []⟩)], blocks := [(0, ⟨[], [], [], 0, [], [], [], []⟩)], retA := some ⟨[2], [], [], 0, [], [], [], []⟩, fid := 105 }
theorem qa1r : CfgOK Tryz.prog qa1q := cfgC qa1a qa1b ⟨qay0, trivial⟩
theorem qa1s {R : Type} : SubsOK Tryz.prog (R := R) 0 qa1p := subsOK_nil _ _
theorem qa1t {R : Type} : LoopOK (R := R) (hnd 0 qa1p) qa1q qa1o (sub [1, 0, 1, 0, 0] qa1e) (HS.V qa1f) (HS.st qa1f) (HS.sh qa1f) qa1g (hdOf qa1f qa1g) := loopOK_of qa1f qa1g (fun _ _ => rfl) (by intro q v K; kernel_rfl)
theorem qa1u {R : Type} : LoopsOK (R := R) (hnd 0 qa1p) qa1q qa1o qa1e := loopsOK_of (l := [sub [1, 0, 1, 0, 0] qa1e]) (by kernel_rfl) (loopsL_cons (b := sub [1, 0, 1, 0, 0] qa1e) (rid := 2) (by kernel_rfl) (by kernel_rfl) qa1t (trivial))
theorem qa1v : SpecOK Tryz.prog 105 qa1n := specOK_a Tryz.f105 qa1r qa09 (d := 0) qa1s qa1u (rngs0 (by kernel_rfl)) (toY := qa1k)
def qa1w : HS := ⟨[(0, .one (.sl .entry)), (1, .one (.str)), (6, .one (.int .i64))], [], 0⟩
def qa1x {R : Type} : Nat → HS.V qa1w → (Ex → St → Option R) → Option R := fun q v K =>
  ref04_Find_L2 v.1.1 v.1.2.1 (fun y6 => K .ret { regs := [(4, .v (.one (.int .i64 y6))), (5, .v (.one (.bool true)))], mem := [], nx := 0 }) (K (.exit 0) { regs := [], mem := [], nx := 0 }) q v.1.2.2.1
def qa1y : List HV := [.one (.sl .entry), .one (.str)]
def qa1z : List HV := [.one (.int .i64), .one (.bool)]
def qa10 : HP.V qa1y → (List Entry) × Str := fun v => (v.1, v.2.1)
def qa11 : HX.V qa1z → Int × Bool := fun v => (v.1, v.2)
def qa12 : (Int × Bool) → HX.V qa1z := fun y => (y.1, y.2)
def qa13 : (List Entry) × Str → Option (Int × Bool) := fun x => ref04_Find x.1 x.2
def qa14 : Spec := mkSpec qa1y qa1z qa10 qa12 qa13
def qa15 {R : Type} : List (Nat × Hd R) := [(2, hdOf qa1w qa1x)]
def qa16 {R : Type} : List (Nat × Inl R) := []
def qa17 : Cfg := { T := qa07, glob := GlobL.G Tryz.prog, eqs := qa08, N := 25, fuel := 64, loops := [(2, ⟨[0, 1, 6], [], [], 0, [], [], [], []⟩)], blocks := [(0, ⟨[], [], [], 0, [], [], [], []⟩)], retA := some ⟨[4, 5], [], [], 0, [], [], [], []⟩, fid := 30 }
theorem qa18 : CfgOK Tryz.prog qa17 := cfgC qa1a qa1b trivial
theorem qa19 {R : Type} : SubsOK Tryz.prog (R := R) 0 qa16 := subsOK_nil _ _
theorem qa2a {R : Type} : LoopOK (R := R) (hnd 0 qa16) qa17 qa15 (sub [1, 0, 1, 0, 0] qa1c) (HS.V qa1w) (HS.st qa1w) (HS.sh qa1w) qa1x (hdOf qa1w qa1x) := loopOK_of qa1w qa1x (fun _ _ => rfl) (by intro q v K; kernel_rfl)
theorem qa2b {R : Type} : LoopsOK (R := R) (hnd 0 qa16) qa17 qa15 qa1c := loopsOK_of (l := [sub [1, 0, 1, 0, 0] qa1c]) (by kernel_rfl) (loopsL_cons (b := sub [1, 0, 1, 0, 0] qa1c) (rid := 2) (by kernel_rfl) (by kernel_rfl) qa2a (trivial))
theorem qa2c : SpecOK Tryz.prog 30 qa14 := specOK_a Tryz.f30 qa18 qa09 (d := 0) qa19 qa2b (rngs0 (by kernel_rfl)) (toY := qa11)
def qa2d : HS := ⟨[(0, .one (.sl .entry)), (1, .one (.sl .entry)), (5, .one (.int .i64))], [], 0⟩
def qa2e {R : Type} : Nat → HS.V qa2d → (Ex → St → Option R) → Option R := fun q v K =>
  ref04_Same_L4 v.1.1 v.1.2.1 (K .ret { regs := [(4, .v (.one (.bool false)))], mem := [], nx := 0 }) (K (.exit 0) { regs := [], mem := [], nx := 0 }) q v.1.2.2.1
def qa2f : List HV := [.one (.sl .entry), .one (.sl .entry)]
def qa2g : List HV := [.one (.bool)]
def qa2h : HP.V qa2f → (List Entry) × (List Entry) := fun v => (v.1, v.2.1)
def qa2i : HX.V qa2g → Bool := fun v => (v)
def qa2j : Bool → HX.V qa2g := fun y => (y)
def qa2k : (List Entry) × (List Entry) → Option (Bool) := fun x => ref04_Same x.1 x.2
def qa2l : Spec := mkSpec qa2f qa2g qa2h qa2j qa2k
def qa2m {R : Type} : List (Nat × Hd R) := [(4, hdOf qa2d qa2e)]
def qa2n {R : Type} : List (Nat × Inl R) := []
def qa2o : Cfg := { T := qa07, glob := GlobL.G Tryz.prog, eqs := qa08, N := 26, fuel := 64, loops := [(4, ⟨[0, 1, 5], [], [], 0, [], [], [], []⟩)], blocks := [(0, ⟨[], [], [], 0, [], [], [], []⟩)], retA := some ⟨[4], [], [], 0, [], [], [], []⟩, fid := 58 }
theorem qa2p : CfgOK Tryz.prog qa2o := cfgC qa1a qa1b trivial
theorem qa2q {R : Type} : SubsOK Tryz.prog (R := R) 0 qa2n := subsOK_nil _ _
theorem qa2r {R : Type} : LoopOK (R := R) (hnd 0 qa2n) qa2o qa2m (sub [1, 1, 0, 1, 0, 0] qa1d) (HS.V qa2d) (HS.st qa2d) (HS.sh qa2d) qa2e (hdOf qa2d qa2e) := loopOK_of qa2d qa2e (fun _ _ => rfl) (by intro q v K; kernel_rfl)
theorem qa2s {R : Type} : LoopsOK (R := R) (hnd 0 qa2n) qa2o qa2m qa1d := loopsOK_of (l := [sub [1, 1, 0, 1, 0, 0] qa1d]) (by kernel_rfl) (loopsL_cons (b := sub [1, 1, 0, 1, 0, 0] qa1d) (rid := 4) (by kernel_rfl) (by kernel_rfl) qa2r (trivial))
theorem qa2t : SpecOK Tryz.prog 58 qa2l := specOK_a Tryz.f58 qa2p qa09 (d := 0) qa2q qa2s (rngs0 (by kernel_rfl)) (toY := qa2i)
end
end Go.Eng
set_option linter.unusedVariables false
set_option maxRecDepth 100000
namespace Go.Eng
noncomputable section
open Go Go.Proofs
def qa2u : List (Nat × TI) := [(3, ⟨false, 1, .one (.int .i64 0), .int .i64⟩), (9, ⟨false, 1, .one (.str []), .str⟩), (22, ⟨false, 1, .one (.clip .inode []), .slice .inode 34⟩), (24, ⟨true, 4, .agg [.int .i64 0, .int .i64 0, .int .i64 0, .clip .inode []], .struct [(0, 3), (1, 3), (2, 3), (3, 22)]⟩), (32, ⟨false, 1, .one (.clip .entry []), .slice .entry 90⟩), (34, ⟨true, 6, .agg [.int .i64 0, .int .i64 0, .int .i64 0, .str [], .int .i64 0, .clip .entry []], .struct [(0, 3), (1, 3), (2, 3), (3, 9), (4, 3), (5, 32)]⟩), (90, ⟨true, 2, .agg [.str [], .int .i64 0], .struct [(0, 9), (1, 3)]⟩)]
def qa2v : List (Nat × List EK) := []
theorem qa2w : Tryz.prog.follows .mixedOrders = true := by kernel_rfl
theorem qa2x : (qa2u.all fun x => tiB Tryz.prog x.1 x.2) = true := by kernel_rfl
theorem qa2y : (qa2v.all fun x => eqB Tryz.prog x.1 x.2) = true := by kernel_rfl
def qa2z : Code := bd Tryz.f29
def qa20 : Code := bd Tryz.f48
def qa21 : Code := bd Tryz.f54
def qa22 : Code := bd Tryz.f59
def qa23 : Code := bd Tryz.f84
def qa24 : Code := bd Tryz.f104
def qa25 : List HV := [.one (.int .i64), .one (.int .i64)]
def qa26 : List HV := [.agg hFs]
def qa27 : HP.V qa25 → Int × Int := fun v => (v.1, v.2.1)
def qa28 : HX.V qa26 → Fs := fun v => ((cFs v))
def qa29 : Fs → HX.V qa26 := fun y => ((y.maxInodes, (y.maxBytes, (y.next, (y.inodes, ())))))
def qa3a : (Int × Int) → Option (Fs) := fun x => ref05_New x.1 x.2
def qa3b : Spec := mkSpec qa25 qa26 qa27 qa29 qa3a
def qa3c : Cfg := { T := qa2u, glob := GlobL.G Tryz.prog, eqs := qa2v, N := 10, fuel := 64, fid := 53 }
theorem qa3d : CfgOK Tryz.prog qa3c := cfgC qa2x qa2y trivial
theorem qa3e : SpecOK Tryz.prog 53 qa3b := specOK_0 Tryz.f53 qa3d qa2w (toY := qa28)
def qa3f : HS := ⟨[(1, .one (.int .i64)), (2, .one (.ptr 0 0)), (4, .one (.ptr 1 0)), (5, .one (.own 2)), (6, .one (.int .i64))], [(0, .cells hFs), (1, .cells hFs), (2, .row .inode)], 3⟩
def qa3g {R : Type} : Nat → HS.V qa3f → (Ex → St → Option R) → Option R := fun q v K =>
  ref05_Drop_L3 v.1.1 (cFs v.2.1) (fun y10 => K (.exit 0) { regs := [(2, .v (.one (.ptr 0 0))), (4, .v (.one (.ptr 1 0))), (5, .v (.one (.own 2)))], mem := [(0, .cells (rFs (cFs v.2.1))), (1, .cells (rFs (cFs v.2.2.1))), (2, .row .inode y10)], nx := 3 }) q v.1.2.2.2.2.1 v.2.2.2.1
def qa3h : List HV := [.agg hFs, .one (.int .i64)]
def qa3i : List HV := [.agg hFs]
def qa3j : HP.V qa3h → Fs × Int := fun v => ((cFs v.1), v.2.1)
def qa3k : HX.V qa3i → Fs := fun v => ((cFs v))
def qa3l : Fs → HX.V qa3i := fun y => ((y.maxInodes, (y.maxBytes, (y.next, (y.inodes, ())))))
def qa3m : (Fs × Int) → Option (Fs) := fun x => ref05_Drop x.1 x.2
def qa3n : Spec := mkSpec qa3h qa3i qa3j qa3l qa3m
def qa3o {R : Type} : List (Nat × Hd R) := [(3, hdOf qa3f qa3g)]
def qa3p {R : Type} : List (Nat × Inl R) := []
def qa3q : Cfg := { T := qa2u, glob := GlobL.G Tryz.prog, eqs := qa2v, N := 33, fuel := 64, loops := [(3, ⟨[1, 2, 4, 5, 6], [(5, 2, .inode)], [0, 1, 2], 3, [], [1], [], []⟩)], blocks := [(0, ⟨[2, 4, 5], [], [0, 1, 2], 3, [], [], [], []⟩)], fid := 84 }
theorem qa3r : CfgOK Tryz.prog qa3q := cfgC qa2x qa2y trivial
theorem qa3s {R : Type} : SubsOK Tryz.prog (R := R) 0 qa3p := subsOK_nil _ _
theorem qa3t {R : Type} : LoopOK (R := R) (hnd 0 qa3p) qa3q qa3o (sub [1, 1, 0, 1, 0, 0] qa23) (HS.V qa3f) (HS.st qa3f) (HS.sh qa3f) qa3g (hdOf qa3f qa3g) := loopOK_of qa3f qa3g (fun _ _ => rfl) (by intro q v K; kernel_rfl)
theorem qa3u {R : Type} : LoopsOK (R := R) (hnd 0 qa3p) qa3q qa3o qa23 := loopsOK_of (l := [sub [1, 1, 0, 1, 0, 0] qa23]) (by kernel_rfl) (loopsL_cons (b := sub [1, 1, 0, 1, 0, 0] qa23) (rid := 3) (by kernel_rfl) (by kernel_rfl) qa3t (trivial))
theorem qa3v : SpecOK Tryz.prog 84 qa3n := specOK_a Tryz.f84 qa3r qa2w (d := 0) qa3s qa3u (rngs0 (by kernel_rfl)) (toY := qa3k)
def qa3w : HS := ⟨[(2, .one (.ptr 0 0)), (3, .one (.ptr 1 0)), (4, .one (.ptr 2 0)), (5, .one (.sl .inode)), (6, .one (.own 3)), (7, .one (.bool)), (8, .one (.int .i64))], [(0, .cells hFs), (1, .cells hIn), (2, .cells hFs), (3, .row .inode)], 4⟩
def qa3x {R : Type} : Nat → HS.V qa3w → (Ex → St → Option R) → Option R := fun q v K =>
  ref05_Set_L5 v.1.2.2.2.1 (cIn v.2.2.1) (fun y13 y17 => K (.exit 0) { regs := [(2, .v (.one (.ptr 0 0))), (3, .v (.one (.ptr 1 0))), (4, .v (.one (.ptr 2 0))), (6, .v (.one (.own 3))), (7, .v (.one (.bool y13)))], mem := [(0, .cells (rFs (cFs v.2.1))), (1, .cells (rIn (cIn v.2.2.1))), (2, .cells (rFs (cFs v.2.2.2.1))), (3, .row .inode y17)], nx := 4 }) q v.1.2.2.2.2.2.1 v.1.2.2.2.2.2.2.1 v.2.2.2.2.1
def qa3y : List HV := [.agg hFs, .agg hIn]
def qa3z : List HV := [.agg hFs]
def qa30 : HP.V qa3y → Fs × Inode := fun v => ((cFs v.1), (cIn v.2.1))
def qa31 : HX.V qa3z → Fs := fun v => ((cFs v))
def qa32 : Fs → HX.V qa3z := fun y => ((y.maxInodes, (y.maxBytes, (y.next, (y.inodes, ())))))
def qa33 : (Fs × Inode) → Option (Fs) := fun x => ref05_Set x.1 x.2
def qa34 : Spec := mkSpec qa3y qa3z qa30 qa32 qa33
def qa35 {R : Type} : List (Nat × Hd R) := [(5, hdOf qa3w qa3x)]
def qa36 {R : Type} : List (Nat × Inl R) := []
def qa37 : Cfg := { T := qa2u, spec := [(84, qa3n)], glob := GlobL.G Tryz.prog, eqs := qa2v, N := 52, fuel := 64, loops := [(5, ⟨[2, 3, 4, 5, 6, 7, 8], [(6, 3, .inode)], [0, 1, 2, 3], 4, [], [2], [], []⟩)], blocks := [(0, ⟨[2, 3, 4, 6, 7], [], [0, 1, 2, 3], 4, [], [], [], []⟩)], fid := 54 }
theorem qa38 : CfgOK Tryz.prog qa37 := cfgC qa2x qa2y ⟨qa3v, trivial⟩
theorem qa39 {R : Type} : SubsOK Tryz.prog (R := R) 0 qa36 := subsOK_nil _ _
theorem qa4a {R : Type} : LoopOK (R := R) (hnd 0 qa36) qa37 qa35 (sub [1, 1, 1, 1, 0, 1, 0, 0] qa21) (HS.V qa3w) (HS.st qa3w) (HS.sh qa3w) qa3x (hdOf qa3w qa3x) := loopOK_of qa3w qa3x (fun _ _ => rfl) (by intro q v K; kernel_rfl)
theorem qa4b {R : Type} : LoopsOK (R := R) (hnd 0 qa36) qa37 qa35 qa21 := loopsOK_of (l := [sub [1, 1, 1, 1, 0, 1, 0, 0] qa21]) (by kernel_rfl) (loopsL_cons (b := sub [1, 1, 1, 1, 0, 1, 0, 0] qa21) (rid := 5) (by kernel_rfl) (by kernel_rfl) qa4a (trivial))
theorem qa4c : SpecOK Tryz.prog 54 qa34 := specOK_a Tryz.f54 qa38 qa2w (d := 0) qa39 qa4b (rngs0 (by kernel_rfl)) (toY := qa31)
def qa4d : HS := ⟨[(1, .one (.int .i64)), (2, .one (.ptr 0 0)), (4, .one (.ptr 1 0)), (6, .one (.int .i64))], [(0, .cells hFs), (1, .cells hIn)], 2⟩
def qa4e {R : Type} : Nat → HS.V qa4d → (Ex → St → Option R) → Option R := fun q v K =>
  ref05_Get_L2 v.1.1 (cFs v.2.1) (fun y8 => K .ret { regs := [(4, .v (.one (.ptr 1 0))), (5, .v (.one (.bool true)))], mem := [(1, .cells [.int .i64 y8.ino, .int .i64 y8.kind, .int .i64 y8.links, .str y8.data, .int .i64 y8.parent, .sl .entry y8.entries])], nx := 2 }) (K (.exit 0) { regs := [(4, .v (.one (.ptr 1 0)))], mem := [(1, .cells (rIn (cIn v.2.2.1)))], nx := 2 }) q v.1.2.2.2.1
def qa4f : List HV := [.agg hFs, .one (.int .i64)]
def qa4g : List HV := [.agg hIn, .one (.bool)]
def qa4h : HP.V qa4f → Fs × Int := fun v => ((cFs v.1), v.2.1)
def qa4i : HX.V qa4g → Inode × Bool := fun v => ((cIn v.1), v.2)
def qa4j : (Inode × Bool) → HX.V qa4g := fun y => ((y.1.ino, (y.1.kind, (y.1.links, (y.1.data, (y.1.parent, (y.1.entries, ())))))), y.2)
def qa4k : (Fs × Int) → Option (Inode × Bool) := fun x => ref05_Get x.1 x.2
def qa4l : Spec := mkSpec qa4f qa4g qa4h qa4j qa4k
def qa4m {R : Type} : List (Nat × Hd R) := [(2, hdOf qa4d qa4e)]
def qa4n {R : Type} : List (Nat × Inl R) := []
def qa4o : Cfg := { T := qa2u, glob := GlobL.G Tryz.prog, eqs := qa2v, N := 28, fuel := 64, loops := [(2, ⟨[1, 2, 4, 6], [], [0, 1], 2, [], [1], [], []⟩)], blocks := [(0, ⟨[4], [], [1], 2, [], [], [], []⟩)], retA := some ⟨[4, 5], [], [1], 2, [], [1], [], []⟩, fid := 29 }
theorem qa4p : CfgOK Tryz.prog qa4o := cfgC qa2x qa2y trivial
theorem qa4q {R : Type} : SubsOK Tryz.prog (R := R) 0 qa4n := subsOK_nil _ _
theorem qa4r {R : Type} : LoopOK (R := R) (hnd 0 qa4n) qa4o qa4m (sub [1, 0, 1, 0, 0] qa2z) (HS.V qa4d) (HS.st qa4d) (HS.sh qa4d) qa4e (hdOf qa4d qa4e) := loopOK_of qa4d qa4e (fun _ _ => rfl) (by intro q v K; kernel_rfl)
theorem qa4s {R : Type} : LoopsOK (R := R) (hnd 0 qa4n) qa4o qa4m qa2z := loopsOK_of (l := [sub [1, 0, 1, 0, 0] qa2z]) (by kernel_rfl) (loopsL_cons (b := sub [1, 0, 1, 0, 0] qa2z) (rid := 2) (by kernel_rfl) (by kernel_rfl) qa4r (trivial))
theorem qa4t : SpecOK Tryz.prog 29 qa4l := specOK_a Tryz.f29 qa4p qa2w (d := 0) qa4q qa4s (rngs0 (by kernel_rfl)) (toY := qa4i)
def qa4u : HS := ⟨[(1, .one (.ptr 0 0)), (3, .one (.int .i64))], [(0, .cells hFs)], 1⟩
def qa4v {R : Type} : Nat → HS.V qa4u → (Ex → St → Option R) → Option R := fun q v K =>
  ref05_Rise_L2 (cFs v.2.1) (K .ret { regs := [(2, .v (.one (.bool false)))], mem := [], nx := 0 }) (K (.exit 0) { regs := [], mem := [], nx := 0 }) q v.1.2.1
def qa4w : List HV := [.agg hFs]
def qa4x : List HV := [.one (.bool)]
def qa4y : HP.V qa4w → Fs := fun v => ((cFs v.1))
def qa4z : HX.V qa4x → Bool := fun v => (v)
def qa40 : Bool → HX.V qa4x := fun y => (y)
def qa41 : Fs → Option (Bool) := fun x => ref05_Rise x
def qa42 : Spec := mkSpec qa4w qa4x qa4y qa40 qa41
def qa43 {R : Type} : List (Nat × Hd R) := [(2, hdOf qa4u qa4v)]
def qa44 {R : Type} : List (Nat × Inl R) := []
def qa45 : Cfg := { T := qa2u, glob := GlobL.G Tryz.prog, eqs := qa2v, N := 25, fuel := 64, loops := [(2, ⟨[1, 3], [], [0], 1, [], [], [], []⟩)], blocks := [(0, ⟨[], [], [], 0, [], [], [], []⟩)], retA := some ⟨[2], [], [], 0, [], [], [], []⟩, fid := 104 }
theorem qa46 : CfgOK Tryz.prog qa45 := cfgC qa2x qa2y trivial
theorem qa47 {R : Type} : SubsOK Tryz.prog (R := R) 0 qa44 := subsOK_nil _ _
theorem qa48 {R : Type} : LoopOK (R := R) (hnd 0 qa44) qa45 qa43 (sub [1, 0, 1, 0, 0] qa24) (HS.V qa4u) (HS.st qa4u) (HS.sh qa4u) qa4v (hdOf qa4u qa4v) := loopOK_of qa4u qa4v (fun _ _ => rfl) (by intro q v K; kernel_rfl)
theorem qa49 {R : Type} : LoopsOK (R := R) (hnd 0 qa44) qa45 qa43 qa24 := loopsOK_of (l := [sub [1, 0, 1, 0, 0] qa24]) (by kernel_rfl) (loopsL_cons (b := sub [1, 0, 1, 0, 0] qa24) (rid := 2) (by kernel_rfl) (by kernel_rfl) qa48 (trivial))
theorem qa5a : SpecOK Tryz.prog 104 qa42 := specOK_a Tryz.f104 qa46 qa2w (d := 0) qa47 qa49 (rngs0 (by kernel_rfl)) (toY := qa4z)
def qa5b : HS := ⟨[(1, .one (.ptr 0 0)), (3, .one (.int .i64)), (4, .one (.ptr 1 0)), (5, .one (.int .i64))], [(0, .cells hFs), (1, .cells hIn)], 2⟩
def qa5c {R : Type} : Nat → HS.V qa5b → (Ex → St → Option R) → Option R := fun q v K =>
  ref05_Few_L8 (cIn v.2.2.1) (K .ret { regs := [(2, .v (.one (.bool false)))], mem := [], nx := 0 }) (K (.exit 2) { regs := [(1, .v (.one (.ptr 0 0))), (3, .v (.one (.int .i64 v.1.2.1)))], mem := [(0, .cells (rFs (cFs v.2.1)))], nx := 1 }) q v.1.2.2.2.1
def qa5d : HS := ⟨[(1, .one (.ptr 0 0)), (3, .one (.int .i64))], [(0, .cells hFs)], 1⟩
def qa5e {R : Type} : Nat → HS.V qa5d → (Ex → St → Option R) → Option R := fun q v K =>
  ref05_Few_L2 (cFs v.2.1) (K .ret { regs := [(2, .v (.one (.bool false)))], mem := [], nx := 0 }) (K (.exit 0) { regs := [(1, .v (.one (.ptr 0 0)))], mem := [(0, .cells (rFs (cFs v.2.1)))], nx := 1 }) q v.1.2.1
def qa5f : List HV := [.agg hFs]
def qa5g : List HV := [.one (.bool)]
def qa5h : HP.V qa5f → Fs := fun v => ((cFs v.1))
def qa5i : HX.V qa5g → Bool := fun v => (v)
def qa5j : Bool → HX.V qa5g := fun y => (y)
def qa5k : Fs → Option (Bool) := fun x => ref05_Few x
def qa5l : Spec := mkSpec qa5f qa5g qa5h qa5j qa5k
def qa5m {R : Type} : List (Nat × Hd R) := [(2, hdOf qa5d qa5e), (8, hdOf qa5b qa5c)]
def qa5n {R : Type} : List (Nat × Inl R) := []
def qa5o : Cfg := { T := qa2u, glob := GlobL.G Tryz.prog, eqs := qa2v, N := 51, fuel := 64, loops := [(8, ⟨[1, 3, 4, 5], [], [0, 1], 2, [], [], [], []⟩), (2, ⟨[1, 3], [], [0], 1, [], [], [], []⟩)], blocks := [(0, ⟨[1], [], [0], 1, [], [], [], []⟩), (1, ⟨[1, 3], [], [0], 1, [], [], [], []⟩), (2, ⟨[1, 3], [], [0], 1, [], [], [], []⟩)], retA := some ⟨[2], [], [], 0, [], [], [], []⟩, fid := 48 }
theorem qa5p : CfgOK Tryz.prog qa5o := cfgC qa2x qa2y trivial
theorem qa5q {R : Type} : SubsOK Tryz.prog (R := R) 0 qa5n := subsOK_nil _ _
theorem qa5r {R : Type} : LoopOK (R := R) (hnd 0 qa5n) qa5o qa5m (sub [1, 0, 1, 0, 0] qa20) (HS.V qa5d) (HS.st qa5d) (HS.sh qa5d) qa5e (hdOf qa5d qa5e) := loopOK_of qa5d qa5e (fun _ _ => rfl) (by intro q v K; kernel_rfl)
theorem qa5s {R : Type} : LoopOK (R := R) (hnd 0 qa5n) qa5o qa5m (sub [1, 0, 1, 0, 0, 1, 0, 0, 1, 1, 1, 0, 0] qa20) (HS.V qa5b) (HS.st qa5b) (HS.sh qa5b) qa5c (hdOf qa5b qa5c) := loopOK_of qa5b qa5c (fun _ _ => rfl) (by intro q v K; kernel_rfl)
theorem qa5t {R : Type} : LoopsOK (R := R) (hnd 0 qa5n) qa5o qa5m qa20 := loopsOK_of (l := [sub [1, 0, 1, 0, 0] qa20, sub [1, 0, 1, 0, 0, 1, 0, 0, 1, 1, 1, 0, 0] qa20]) (by kernel_rfl) (loopsL_cons (b := sub [1, 0, 1, 0, 0] qa20) (rid := 2) (by kernel_rfl) (by kernel_rfl) qa5r (loopsL_cons (b := sub [1, 0, 1, 0, 0, 1, 0, 0, 1, 1, 1, 0, 0] qa20) (rid := 8) (by kernel_rfl) (by kernel_rfl) qa5s (trivial)))
theorem qa5u : SpecOK Tryz.prog 48 qa5l := specOK_a Tryz.f48 qa5p qa2w (d := 0) qa5q qa5t (rngs0 (by kernel_rfl)) (toY := qa5i)
def qa5v : List HV := [.agg hIn, .agg hIn]
def qa5w : List HV := [.one (.bool)]
def qa5x : HP.V qa5v → Inode × Inode := fun v => ((cIn v.1), (cIn v.2.1))
def qa5y : HX.V qa5w → Bool := fun v => (v)
def qa5z : Bool → HX.V qa5w := fun y => (y)
def qa50 : (Inode × Inode) → Option (Bool) := fun x => ref05_One x.1 x.2
def qa51 : Spec := mkSpec qa5v qa5w qa5x qa5z qa50
def qa52 : Cfg := { T := qa2u, spec := [(58, qa2l)], glob := GlobL.G Tryz.prog, eqs := qa2v, N := 45, fuel := 64, fid := 23 }
theorem qa53 : CfgOK Tryz.prog qa52 := cfgC qa2x qa2y ⟨qa2t, trivial⟩
theorem qa54 : SpecOK Tryz.prog 23 qa51 := specOK_0 Tryz.f23 qa53 qa2w (toY := qa5y)
def qa55 : HS := ⟨[(0, .one (.sl .inode)), (1, .one (.sl .inode)), (5, .one (.int .i64))], [], 0⟩
def qa56 {R : Type} : Nat → HS.V qa55 → (Ex → St → Option R) → Option R := fun q v K =>
  ref05_Ones_L4 v.1.1 v.1.2.1 (K .ret { regs := [(4, .v (.one (.bool false)))], mem := [], nx := 0 }) (K (.exit 0) { regs := [], mem := [], nx := 0 }) q v.1.2.2.1
def qa57 : List HV := [.one (.sl .inode), .one (.sl .inode)]
def qa58 : List HV := [.one (.bool)]
def qa59 : HP.V qa57 → (List Inode) × (List Inode) := fun v => (v.1, v.2.1)
def qa6a : HX.V qa58 → Bool := fun v => (v)
def qa6b : Bool → HX.V qa58 := fun y => (y)
def qa6c : (List Inode) × (List Inode) → Option (Bool) := fun x => ref05_Ones x.1 x.2
def qa6d : Spec := mkSpec qa57 qa58 qa59 qa6b qa6c
def qa6e {R : Type} : List (Nat × Hd R) := [(4, hdOf qa55 qa56)]
def qa6f {R : Type} : List (Nat × Inl R) := []
def qa6g : Cfg := { T := qa2u, spec := [(23, qa51)], glob := GlobL.G Tryz.prog, eqs := qa2v, N := 27, fuel := 64, loops := [(4, ⟨[0, 1, 5], [], [], 0, [], [], [], []⟩)], blocks := [(0, ⟨[], [], [], 0, [], [], [], []⟩)], retA := some ⟨[4], [], [], 0, [], [], [], []⟩, fid := 59 }
theorem qa6h : CfgOK Tryz.prog qa6g := cfgC qa2x qa2y ⟨qa54, trivial⟩
theorem qa6i {R : Type} : SubsOK Tryz.prog (R := R) 0 qa6f := subsOK_nil _ _
theorem qa6j {R : Type} : LoopOK (R := R) (hnd 0 qa6f) qa6g qa6e (sub [1, 1, 0, 1, 0, 0] qa22) (HS.V qa55) (HS.st qa55) (HS.sh qa55) qa56 (hdOf qa55 qa56) := loopOK_of qa55 qa56 (fun _ _ => rfl) (by intro q v K; kernel_rfl)
theorem qa6k {R : Type} : LoopsOK (R := R) (hnd 0 qa6f) qa6g qa6e qa22 := loopsOK_of (l := [sub [1, 1, 0, 1, 0, 0] qa22]) (by kernel_rfl) (loopsL_cons (b := sub [1, 1, 0, 1, 0, 0] qa22) (rid := 4) (by kernel_rfl) (by kernel_rfl) qa6j (trivial))
theorem qa6l : SpecOK Tryz.prog 59 qa6d := specOK_a Tryz.f59 qa6h qa2w (d := 0) qa6i qa6k (rngs0 (by kernel_rfl)) (toY := qa6a)
def qa6m : List HV := [.agg hFs, .agg hFs]
def qa6n : List HV := [.one (.bool)]
def qa6o : HP.V qa6m → Fs × Fs := fun v => ((cFs v.1), (cFs v.2.1))
def qa6p : HX.V qa6n → Bool := fun v => (v)
def qa6q : Bool → HX.V qa6n := fun y => (y)
def qa6r : (Fs × Fs) → Option (Bool) := fun x => ref05_Same x.1 x.2
def qa6s : Spec := mkSpec qa6m qa6n qa6o qa6q qa6r
def qa6t : Cfg := { T := qa2u, spec := [(59, qa6d)], glob := GlobL.G Tryz.prog, eqs := qa2v, N := 31, fuel := 64, fid := 24 }
theorem qa6u : CfgOK Tryz.prog qa6t := cfgC qa2x qa2y ⟨qa6l, trivial⟩
theorem qa6v : SpecOK Tryz.prog 24 qa6s := specOK_0 Tryz.f24 qa6u qa2w (toY := qa6p)
end
end Go.Eng
set_option linter.unusedVariables false
set_option maxRecDepth 100000
namespace Go.Eng
noncomputable section
open Go Go.Proofs
def qa6w : List (Nat × TI) := [(3, ⟨false, 1, .one (.int .i64 0), .int .i64⟩), (9, ⟨false, 1, .one (.str []), .str⟩), (22, ⟨false, 1, .one (.clip .inode []), .slice .inode 34⟩), (24, ⟨true, 4, .agg [.int .i64 0, .int .i64 0, .int .i64 0, .clip .inode []], .struct [(0, 3), (1, 3), (2, 3), (3, 22)]⟩), (34, ⟨true, 6, .agg [.int .i64 0, .int .i64 0, .int .i64 0, .str [], .int .i64 0, .clip .entry []], .struct [(0, 3), (1, 3), (2, 3), (3, 9), (4, 3), (5, 32)]⟩)]
def qa6x : List (Nat × List EK) := []
theorem qa6y : Tryz.prog.follows .mixedOrders = true := by kernel_rfl
theorem qa6z : (qa6w.all fun x => tiB Tryz.prog x.1 x.2) = true := by kernel_rfl
theorem qa60 : (qa6x.all fun x => eqB Tryz.prog x.1 x.2) = true := by kernel_rfl
def qa61 : Code := bd Tryz.f103
def qa62 : HS := ⟨[(1, .one (.ptr 0 0)), (3, .one (.int .i64)), (4, .one (.int .i64))], [(0, .cells hFs)], 1⟩
def qa63 {R : Type} : Nat → HS.V qa62 → (Ex → St → Option R) → Option R := fun q v K =>
  ref06_Bytes_L3 (cFs v.2.1) (fun y6 => K (.exit 0) { regs := [(3, .v (.one (.int .i64 y6)))], mem := [], nx := 0 }) q v.1.2.1 v.1.2.2.1
def qa64 : List HV := [.agg hFs]
def qa65 : List HV := [.one (.int .i64)]
def qa66 : HP.V qa64 → Fs := fun v => ((cFs v.1))
def qa67 : HX.V qa65 → Int := fun v => (v)
def qa68 : Int → HX.V qa65 := fun y => (y)
def qa69 : Fs → Option (Int) := fun x => ref06_Bytes x
def qa7a : Spec := mkSpec qa64 qa65 qa66 qa68 qa69
def qa7b {R : Type} : List (Nat × Hd R) := [(3, hdOf qa62 qa63)]
def qa7c {R : Type} : List (Nat × Inl R) := []
def qa7d : Cfg := { T := qa6w, glob := GlobL.G Tryz.prog, eqs := qa6x, N := 29, fuel := 64, loops := [(3, ⟨[1, 3, 4], [], [0], 1, [], [], [], []⟩)], blocks := [(0, ⟨[3], [], [], 0, [], [], [], []⟩)], fid := 103 }
theorem qa7e : CfgOK Tryz.prog qa7d := cfgC qa6z qa60 trivial
theorem qa7f {R : Type} : SubsOK Tryz.prog (R := R) 0 qa7c := subsOK_nil _ _
theorem qa7g {R : Type} : LoopOK (R := R) (hnd 0 qa7c) qa7d qa7b (sub [1, 1, 0, 1, 0, 0] qa61) (HS.V qa62) (HS.st qa62) (HS.sh qa62) qa63 (hdOf qa62 qa63) := loopOK_of qa62 qa63 (fun _ _ => rfl) (by intro q v K; kernel_rfl)
theorem qa7h {R : Type} : LoopsOK (R := R) (hnd 0 qa7c) qa7d qa7b qa61 := loopsOK_of (l := [sub [1, 1, 0, 1, 0, 0] qa61]) (by kernel_rfl) (loopsL_cons (b := sub [1, 1, 0, 1, 0, 0] qa61) (rid := 3) (by kernel_rfl) (by kernel_rfl) qa7g (trivial))
theorem qa7i : SpecOK Tryz.prog 103 qa7a := specOK_a Tryz.f103 qa7e qa6y (d := 0) qa7f qa7h (rngs0 (by kernel_rfl)) (toY := qa67)
def qa7j : List HV := [.agg hFs, .one (.int .i64), .one (.int .i64)]
def qa7k : List HV := [.one (.bool)]
def qa7l : HP.V qa7j → Fs × Int × Int := fun v => ((cFs v.1), v.2.1, v.2.2.1)
def qa7m : HX.V qa7k → Bool := fun v => (v)
def qa7n : Bool → HX.V qa7k := fun y => (y)
def qa7o : (Fs × Int × Int) → Option (Bool) := fun x => ref06_Fits x.1 x.2.1 x.2.2
def qa7p : Spec := mkSpec qa7j qa7k qa7l qa7n qa7o
def qa7q : Cfg := { T := qa6w, spec := [(103, qa7a)], glob := GlobL.G Tryz.prog, eqs := qa6x, N := 22, fuel := 64, fid := 71 }
theorem qa7r : CfgOK Tryz.prog qa7q := cfgC qa6z qa60 ⟨qa7i, trivial⟩
theorem qa7s : SpecOK Tryz.prog 71 qa7p := specOK_0 Tryz.f71 qa7r qa6y (toY := qa7m)
end
end Go.Eng
