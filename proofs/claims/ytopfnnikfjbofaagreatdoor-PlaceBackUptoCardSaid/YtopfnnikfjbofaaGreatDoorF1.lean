/- A part of the proofs of the laws of this seat: the engine that reads the program's code, plain functions, or facts of the program's functions. Conditions: none. -/
import Derived.Ground.NamesProg
import Derived.Shelf.Small.Strs
import Derived.Shelf.Strings.Search1
import Derived.Shelf.Strings.OnBuilder
import Derived.Test.YtopfnnikfjbofaaGreatDoorProg
import Derived.Test.YtopfnnikfjbofaaGreatDoorP1
import Derived.Test.YtopfnnikfjbofaaGreatDoorE5
set_option linter.unusedSectionVars false
set_option linter.unusedVariables false
set_option linter.unusedSimpArgs false
set_option linter.unnecessarySimpa false
namespace Go.Proofs
open Go.Shelf
def Tryz.lays106_ren : Go.Shelf.Ren := ⟨fun | 106 => 121 | 213 => 135 | 265 => 147 | n => n, fun | 9 => 9 | 3 => 3 | n => n, fun | n => n⟩
theorem Tryz.lays106 : Go.Proofs.Lays.n106 Tryz.prog Tryz.lays106_ren := {
  mixed := by kernel_rfl
  f106 := Tryz.func121.trans (congrArg some (by kernel_rfl))
  f213 := Tryz.func135.trans (congrArg some (by kernel_rfl))
  f265 := Tryz.func147.trans (congrArg some (by kernel_rfl))
  t3 := Tryz.underlying3
  a3 := Tryz.isAgg3
  z3 := Tryz.sizeOf3
  v3 := Tryz.zeroValue3
  t9 := Tryz.underlying9
  a9 := Tryz.isAgg9
  z9 := Tryz.sizeOf9
  v9 := Tryz.zeroValue9 }
def Tryz.lays217_ren : Go.Shelf.Ren := ⟨fun | 217 => 158 | 266 => 160 | n => n, fun | 9 => 9 | 5 => 5 | 3 => 3 | n => n, fun | n => n⟩
theorem Tryz.lays217 : Go.Proofs.Lays.n217 Tryz.prog Tryz.lays217_ren := {
  mixed := by kernel_rfl
  f217 := Tryz.func158.trans (congrArg some (by kernel_rfl))
  f266 := Tryz.func160.trans (congrArg some (by kernel_rfl))
  t3 := Tryz.underlying3
  a3 := Tryz.isAgg3
  z3 := Tryz.sizeOf3
  v3 := Tryz.zeroValue3
  t5 := Tryz.underlying5
  a5 := Tryz.isAgg5
  z5 := Tryz.sizeOf5
  v5 := Tryz.zeroValue5
  t9 := Tryz.underlying9
  a9 := Tryz.isAgg9
  z9 := Tryz.sizeOf9
  v9 := Tryz.zeroValue9 }
def Tryz.lays156_ren : Go.Shelf.Ren := ⟨fun | 156 => 113 | 165 => 130 | 166 => 131 | 169 => 132 | 240 => 141 | 241 => 142 | 276 => 152 | 277 => 153 | n => n, fun | 31 => 84 | 9 => 9 | 3 => 3 | 4 => 4 | 0 => 0 | 20 => 20 | 72 => 146 | 76 => 150 | 70 => 143 | 37 => 144 | 75 => 149 | 127 => 157 | 164 => 166 | 5 => 5 | 80 => 152 | n => n, fun | n => n⟩
theorem Tryz.lays156 : Go.Proofs.Lays.n156 Tryz.prog Tryz.lays156_ren := {
  mixed := by kernel_rfl
  f156 := Tryz.func113.trans (congrArg some (by kernel_rfl))
  f165 := Tryz.func130.trans (congrArg some (by kernel_rfl))
  f166 := Tryz.func131.trans (congrArg some (by kernel_rfl))
  f169 := Tryz.func132.trans (congrArg some (by kernel_rfl))
  f240 := Tryz.func141.trans (congrArg some (by kernel_rfl))
  f241 := Tryz.func142.trans (congrArg some (by kernel_rfl))
  f276 := Tryz.func152.trans (congrArg some (by kernel_rfl))
  f277 := Tryz.func153.trans (congrArg some (by kernel_rfl))
  t0 := Tryz.underlying0
  a0 := Tryz.isAgg0
  z0 := Tryz.sizeOf0
  v0 := Tryz.zeroValue0
  t3 := Tryz.underlying3
  a3 := Tryz.isAgg3
  z3 := Tryz.sizeOf3
  v3 := Tryz.zeroValue3
  t4 := Tryz.underlying4
  a4 := Tryz.isAgg4
  z4 := Tryz.sizeOf4
  v4 := Tryz.zeroValue4
  t9 := Tryz.underlying9
  a9 := Tryz.isAgg9
  z9 := Tryz.sizeOf9
  v9 := Tryz.zeroValue9
  t20 := Tryz.underlying20
  a20 := Tryz.isAgg20
  z20 := Tryz.sizeOf20
  v20 := Tryz.zeroValue20
  t31 := Tryz.underlying84
  a31 := Tryz.isAgg84
  z31 := Tryz.sizeOf84
  v31 := Tryz.zeroValue84
  t37 := Tryz.underlying144
  a37 := Tryz.isAgg144
  z37 := Tryz.sizeOf144
  v37 := Tryz.zeroValue144
  t70 := Tryz.underlying143
  a70 := Tryz.isAgg143
  z70 := Tryz.sizeOf143
  v70 := Tryz.zeroValue143
  t72 := Tryz.underlying146
  a72 := Tryz.isAgg146
  z72 := Tryz.sizeOf146
  v72 := Tryz.zeroValue146
  t75 := Tryz.underlying149
  a75 := Tryz.isAgg149
  z75 := Tryz.sizeOf149
  v75 := Tryz.zeroValue149
  t76 := Tryz.underlying150
  a76 := Tryz.isAgg150
  z76 := Tryz.sizeOf150
  v76 := Tryz.zeroValue150
  t127 := Tryz.underlying157
  a127 := Tryz.isAgg157
  z127 := Tryz.sizeOf157
  v127 := Tryz.zeroValue157
  t164 := Tryz.underlying166
  a164 := Tryz.isAgg166
  z164 := Tryz.sizeOf166
  v164 := Tryz.zeroValue166 }
end Go.Proofs
set_option linter.unusedVariables false
set_option maxRecDepth 100000
namespace Go.Eng
open Go Go.Proofs Go.Shelf
noncomputable instance : GlobL Tryz.prog := ⟨[]⟩
noncomputable def strings_Compare_sp : Spec := mkSpec (X := Str × Str) (Y := Int) [.one .str, .one .str] [.one (.int .i64)] (fun v => (v.1, v.2.1)) (fun y => y) (fun x => strings_Compare x.1 x.2)
theorem strings_Compare_ok : SpecOK Tryz.prog 121 strings_Compare_sp where
  enters := enters_of Tryz.func121 (by kernel_rfl) rfl
  calls := by
    intro S w args vs x y hS _ hal hp hf
    simp only [strings_Compare_sp, mkSpec] at hp hf ⊢
    split at hp
    · rename_i v hv
      cases hp
      cases hf
      rw [HP.eq hv] at hal
      cases hal with
      | cons h1 h2 =>
        cases h2 with
        | cons h2 h3 =>
          cases h3
          rename_i v1 v2
          cases (show VA _ w (.str v.1) v1 from h1) with
          | str _ b1 e1 =>
            cases (show VA _ w (.str v.2.1) v2 from h2) with
            | str _ b2 e2 =>
              refine (Any.strings_Compare Tryz.lays106 b1 b2 w).mono ?_
              rintro e w' ⟨rfl, rfl⟩
              refine ⟨_, rfl, Go.RowKit.Below.refl _ _, ?_⟩
              rw [e1, e2]
              exact VA.int _ _
    · cases hp
noncomputable def stringslite_IndexByte_sp : Spec := mkSpec (X := Str × Int) (Y := Int) [.one .str, .one (.int .u8)] [.one (.int .i64)] (fun v => (v.1, v.2.1)) (fun y => y) (fun x => stringslite_IndexByte x.1 x.2)
theorem stringslite_IndexByte_ok : SpecOK Tryz.prog 158 stringslite_IndexByte_sp where
  enters := enters_of Tryz.func158 (by kernel_rfl) rfl
  calls := by
    intro S w args vs x y hS _ hal hp hf
    simp only [stringslite_IndexByte_sp, mkSpec] at hp hf ⊢
    split at hp
    · rename_i v hv
      cases hp
      cases hf
      rw [HP.eq hv] at hal
      cases hal with
      | cons h1 h2 =>
        cases h2 with
        | cons h2 h3 =>
          cases h3
          rename_i v1 v2
          cases (show VA _ w (.str v.1) v1 from h1) with
          | str _ b1 e1 =>
            cases (show VA _ w (.int .u8 v.2.1) v2 from h2) with
            | int _ _ =>
              refine (Any.stringslite_IndexByte Tryz.lays217 b1 v.2.1 w).mono ?_
              rintro e w' ⟨rfl, rfl⟩
              refine ⟨_, rfl, Go.RowKit.Below.refl _ _, ?_⟩
              rw [e1]
              exact VA.int _ _
    · cases hp
theorem bx156 : Go.Proofs.Builder.Extra Tryz.prog Tryz.lays156_ren where
  sizeBuilder := by kernel_rfl
  liesBuilder := by kernel_rfl
  t5 := Tryz.underlying5
  a5 := Tryz.isAgg5
  z5 := Tryz.sizeOf5
  v5 := Tryz.zeroValue5
  infoByte := by kernel_rfl
  cellsByte := by kernel_rfl
  sizeByte := by kernel_rfl
  neB5 := by decide
noncomputable def strings_Join_sp : Spec := mkSpec (X := List Str × Str) (Y := Str) [.one (.sl .str), .one .str] [.one .str] (fun v => (v.1, v.2.1)) (fun y => y) (fun x => strings_Join x.1 x.2)
theorem strings_Join_ok : SpecOK Tryz.prog 113 strings_Join_sp where
  enters := enters_of Tryz.func113 (by kernel_rfl) rfl
  calls := by
    intro S w args vs x y hS _ hal hp hf
    simp only [strings_Join_sp, mkSpec] at hp hf ⊢
    split at hp
    · rename_i v hv
      cases hp
      unfold strings_Join at hf
      split at hf
      rotate_left
      · cases hf
      rename_i hlen
      have hlen : (Lib.join v.1 v.2.1).length + List.length v.1 ≤ 67108864 := hlen
      cases hf
      rw [HP.eq hv] at hal
      cases hal with
      | cons h1 h2 =>
        cases h2 with
        | cons h2 h3 =>
          cases h3
          rename_i v1 v2
          cases (show VA _ w (.sl .str v.1) v1 from h1) with
          | sl _ _ ad len cap bk of f hn hc ha hcell hff =>
            cases (show VA _ w (.str v.2.1) v2 from h2) with
            | str _ b2 e2 =>
              by_cases hne : v.1 = []
              · have hlen0 : len = 0 := by rw [hn, hne]; rfl
                subst hlen0
                refine (Any.strings_Join_none Tryz.lays156 bx156 ad cap b2 w).mono ?_
                rintro e w' ⟨rfl, rfl⟩
                refine ⟨_, rfl, Go.RowKit.Below.refl _ _, ?_⟩
                rw [hne]
                exact VA.str _ _ rfl
              · obtain ⟨rfl, hSb⟩ := ha hne
                obtain ⟨xs, hxl, hxs, hxd⟩ := texts_of (w := w) (bk := bk) (of := of) v.1 (fun i hi => by
                  have := hcell i 0 hi (by decide)
                  have h9 := hff i v.1[i] 0 (.str v.1[i]) (by simp [hi]) rfl
                  generalize f i 0 = u at this h9
                  cases h9 with
                  | str _ b e => exact ⟨b, by simpa [Ty.n] using this, e⟩)
                subst hn
                have := Any.strings_Join Tryz.lays156 bx156 bk of cap xs b2 w hxs (hS bk hSb) (by
                  rw [hxl]
                  omega) (by rw [hxl]; exact hc) (by
                  rw [hxd, e2]; omega)
                rw [hxl] at this
                refine this.mono ?_
                rintro e w' ⟨rfl, hb⟩
                refine ⟨_, rfl, hb, ?_⟩
                rw [hxd, e2]
                exact VA.str _ _ (by simp)
    · cases hp
theorem ovl122 : OvlOK Tryz.prog 122 := ovlOK_of Tryz.func122 (by kernel_rfl) (by kernel_rfl) (tS := 32) (tR := 4) (e := 90) (size := 2) (by kernel_rfl) (by kernel_rfl) (by kernel_rfl) Tryz.sizeOf90
theorem ovl124 : OvlOK Tryz.prog 124 := ovlOK_of Tryz.func124 (by kernel_rfl) (by kernel_rfl) (tS := 22) (tR := 4) (e := 34) (size := 6) (by kernel_rfl) (by kernel_rfl) (by kernel_rfl) Tryz.sizeOf34
end Go.Eng
set_option linter.unusedVariables false
set_option maxRecDepth 100000
namespace Go.Eng
open Go Go.Proofs
noncomputable def qaaa : List (Nat × TI) := [(4, ⟨false, 1, .one (.bool false), .bool⟩), (9, ⟨false, 1, .one (.str []), .str⟩), (84, ⟨false, 1, .one (.clip .str []), .slice .str 9⟩), (101, ⟨true, 3, .agg [.bool false, .clip .str [], .bool false], .struct [(0, 4), (1, 84), (2, 4)]⟩)]
noncomputable def qaab : List (Nat × List EK) := []
theorem qaac : Tryz.prog.follows .mixedOrders = true := by kernel_rfl
theorem qaad : (qaaa.all fun x => tiB Tryz.prog x.1 x.2) = true := by kernel_rfl
theorem qaae {c : Cfg} (h : c.eqs = qaab := by rfl) : EqsOK Tryz.prog c := eqsOK_of (by rw [h]; kernel_rfl)
noncomputable def qaaf : Code := match Tryz.f19.body with | some b => b | none => .skip
noncomputable def qaag : Code := match Tryz.f52.body with | some b => b | none => .skip
noncomputable def qaah : Code := match Tryz.f82.body with | some b => b | none => .skip
noncomputable def qaai : Code := match Tryz.f83.body with | some b => b | none => .skip
noncomputable def qaaj : HS := ⟨[(0, .one (.str)), (3, .one (.int .i64))], [], 0⟩
noncomputable def qaak {R : Type} : Nat → HS.V qaaj → (Ex → St → Option R) → Option R := fun q v K =>
  ref03_May_L2 v.1.1 (K .ret { regs := [(2, .v (.one (.bool false)))], mem := [], nx := 0 }) (K (.exit 0) { regs := [(0, .v (.one (.str v.1.1)))], mem := [], nx := 0 }) q v.1.2.1
noncomputable def qaal : List HV := [.one (.str)]
noncomputable def qaam : List HV := [.one (.bool)]
noncomputable def qaan : HP.V qaal → Str := fun v => (v.1)
noncomputable def qaao : HX.V qaam → Bool := fun v => (v)
noncomputable def qaap : Bool → HX.V qaam := fun y => (y)
noncomputable def qaaq : Str → Option (Bool) := fun x => ref03_May x
noncomputable def qaar : Spec := mkSpec qaal qaam qaan qaap qaaq
noncomputable def qaas {R : Type} : List (Nat × Hd R) := [(2, hdOf qaaj qaak)]
noncomputable def qaat {R : Type} : List (Nat × Inl R) := []
noncomputable def qaau : Cfg := { T := qaaa, spec := [], glob := GlobL.G Tryz.prog, eqs := qaab, N := 36, fuel := 64, loops := [(2, ⟨[0, 3], [], [], 0, [], [], [], []⟩)], joins := [], blocks := [(0, ⟨[0], [], [], 0, [], [], [], []⟩)], ovl := [], retA := some ⟨[2], [], [], 0, [], [], [], []⟩, fid := 19, rnd := false, saves := [] }
theorem qaav : CfgOK Tryz.prog qaau := ⟨tsOK_of qaad, specsL_ok (show SpecsL Tryz.prog qaau.spec from trivial), qaae, ovlL_ok (trivial), globsOK_of rfl, freshL_ok (show FreshL Tryz.prog qaau.fresh from trivial), specsL_ok (show SpecsL Tryz.prog qaau.gns from trivial)⟩
theorem qaaw {R : Type} : SubsOK Tryz.prog (R := R) 0 qaat := subsOK_nil _ _
theorem qaax {R : Type} : LoopOK (R := R) (hnd 0 qaat) qaau qaas (sub [1, 0, 1, 0, 0] qaaf) (HS.V qaaj) (HS.st qaaj) (HS.sh qaaj) qaak (hdOf qaaj qaak) := loopOK_of qaaj qaak (fun _ _ => rfl) (by intro q v K; kernel_rfl)
theorem qaay {R : Type} : LoopsOK (R := R) (hnd 0 qaat) qaau qaas qaaf := loopsOK_of (l := [sub [1, 0, 1, 0, 0] qaaf]) (by kernel_rfl) (loopsL_cons (b := sub [1, 0, 1, 0, 0] qaaf) (rid := 2) (by kernel_rfl) (by kernel_rfl) qaax (trivial))
theorem qaaz : RngsOK Tryz.prog qaau qaaf := rngs0 (by kernel_rfl)
theorem qaa0 : ∀ v, runFn (hnd 0 qaat) qaau qaas qaaf Tryz.f19.results.toList (HP.st qaal v) (decOf qaam qaao) = qaaq (qaan v) := by intro v; kernel_rfl
theorem qaa1 : SpecOK Tryz.prog 19 qaar := specOK_mk (fn := Tryz.f19) (by kernel_rfl) (by kernel_rfl) (by kernel_rfl) qaav (by kernel_rfl) (by kernel_rfl) qaac (by kernel_rfl) (fun _ => rfl) (d := 0) qaaw qaay qaaz qaa0
noncomputable def qaa2 : HS := ⟨[(0, .one (.str)), (3, .one (.own 0)), (4, .one (.str)), (5, .one (.int .i64))], [(0, .row .str)], 1⟩
noncomputable def qaa3 {R : Type} : Nat → HS.V qaa2 → (Ex → St → Option R) → Option R := fun q v K =>
  ref03_Names_L4 v.1.1 (fun y6 => K (.exit 0) { regs := [(3, .v (.one (.own 0)))], mem := [(0, .row .str y6)], nx := 1 }) q v.1.2.2.1 v.1.2.2.2.1 v.2.1
noncomputable def qaa4 : List HV := [.one (.str)]
noncomputable def qaa5 : List HV := [.one (.sl .str)]
noncomputable def qaa6 : HP.V qaa4 → Str := fun v => (v.1)
noncomputable def qaa7 : HX.V qaa5 → (List Str) := fun v => (v)
noncomputable def qaa8 : (List Str) → HX.V qaa5 := fun y => (y)
noncomputable def qaa9 : Str → Option ((List Str)) := fun x => ref03_Names x
noncomputable def qaba : Spec := mkSpec qaa4 qaa5 qaa6 qaa8 qaa9
noncomputable def qabb {R : Type} : List (Nat × Hd R) := [(4, hdOf qaa2 qaa3)]
noncomputable def qabc {R : Type} : List (Nat × Inl R) := []
noncomputable def qabd : Cfg := { T := qaaa, spec := [], glob := GlobL.G Tryz.prog, eqs := qaab, N := 36, fuel := 64, loops := [(4, ⟨[0, 3, 4, 5], [(3, 0, .str)], [0], 1, [], [], [], []⟩)], joins := [], blocks := [(0, ⟨[3], [], [0], 1, [], [], [], []⟩)], ovl := [], retA := none, fid := 82, rnd := false, saves := [] }
theorem qabe : CfgOK Tryz.prog qabd := ⟨tsOK_of qaad, specsL_ok (show SpecsL Tryz.prog qabd.spec from trivial), qaae, ovlL_ok (trivial), globsOK_of rfl, freshL_ok (show FreshL Tryz.prog qabd.fresh from trivial), specsL_ok (show SpecsL Tryz.prog qabd.gns from trivial)⟩
theorem qabf {R : Type} : SubsOK Tryz.prog (R := R) 0 qabc := subsOK_nil _ _
theorem qabg {R : Type} : LoopOK (R := R) (hnd 0 qabc) qabd qabb (sub [1, 1, 1, 0, 1, 0, 0] qaah) (HS.V qaa2) (HS.st qaa2) (HS.sh qaa2) qaa3 (hdOf qaa2 qaa3) := loopOK_of qaa2 qaa3 (fun _ _ => rfl) (by intro q v K; kernel_rfl)
theorem qabh {R : Type} : LoopsOK (R := R) (hnd 0 qabc) qabd qabb qaah := loopsOK_of (l := [sub [1, 1, 1, 0, 1, 0, 0] qaah]) (by kernel_rfl) (loopsL_cons (b := sub [1, 1, 1, 0, 1, 0, 0] qaah) (rid := 4) (by kernel_rfl) (by kernel_rfl) qabg (trivial))
theorem qabi : RngsOK Tryz.prog qabd qaah := rngs0 (by kernel_rfl)
theorem qabj : ∀ v, runFn (hnd 0 qabc) qabd qabb qaah Tryz.f82.results.toList (HP.st qaa4 v) (decOf qaa5 qaa7) = qaa9 (qaa6 v) := by intro v; kernel_rfl
theorem qabk : SpecOK Tryz.prog 82 qaba := specOK_mk (fn := Tryz.f82) (by kernel_rfl) (by kernel_rfl) (by kernel_rfl) qabe (by kernel_rfl) (by kernel_rfl) qaac (by kernel_rfl) (fun _ => rfl) (d := 0) qabf qabh qabi qabj
noncomputable def qabl : HS := ⟨[(0, .one (.sl .str)), (3, .one (.str)), (4, .one (.int .i64))], [], 0⟩
noncomputable def qabm {R : Type} : Nat → HS.V qabl → (Ex → St → Option R) → Option R := fun q v K =>
  ref03_Join_L5 v.1.1 (fun y5 => K (.exit 0) { regs := [(3, .v (.one (.str y5)))], mem := [], nx := 0 }) q v.1.2.1 v.1.2.2.1
noncomputable def qabn : List HV := [.one (.sl .str)]
noncomputable def qabo : List HV := [.one (.str)]
noncomputable def qabp : HP.V qabn → (List Str) := fun v => (v.1)
noncomputable def qabq : HX.V qabo → Str := fun v => (v)
noncomputable def qabr : Str → HX.V qabo := fun y => (y)
noncomputable def qabs : (List Str) → Option (Str) := fun x => ref03_Join x
noncomputable def qabt : Spec := mkSpec qabn qabo qabp qabr qabs
noncomputable def qabu {R : Type} : List (Nat × Hd R) := [(5, hdOf qabl qabm)]
noncomputable def qabv {R : Type} : List (Nat × Inl R) := []
noncomputable def qabw : Cfg := { T := qaaa, spec := [], glob := GlobL.G Tryz.prog, eqs := qaab, N := 22, fuel := 64, loops := [(5, ⟨[0, 3, 4], [], [], 0, [], [], [], []⟩)], joins := [], blocks := [(0, ⟨[3], [], [], 0, [], [], [], []⟩)], ovl := [], retA := none, fid := 83, rnd := false, saves := [] }
theorem qabx : CfgOK Tryz.prog qabw := ⟨tsOK_of qaad, specsL_ok (show SpecsL Tryz.prog qabw.spec from trivial), qaae, ovlL_ok (trivial), globsOK_of rfl, freshL_ok (show FreshL Tryz.prog qabw.fresh from trivial), specsL_ok (show SpecsL Tryz.prog qabw.gns from trivial)⟩
theorem qaby {R : Type} : SubsOK Tryz.prog (R := R) 0 qabv := subsOK_nil _ _
theorem qabz {R : Type} : LoopOK (R := R) (hnd 0 qabv) qabw qabu (sub [1, 1, 1, 0, 1, 0, 0] qaai) (HS.V qabl) (HS.st qabl) (HS.sh qabl) qabm (hdOf qabl qabm) := loopOK_of qabl qabm (fun _ _ => rfl) (by intro q v K; kernel_rfl)
theorem qab0 {R : Type} : LoopsOK (R := R) (hnd 0 qabv) qabw qabu qaai := loopsOK_of (l := [sub [1, 1, 1, 0, 1, 0, 0] qaai]) (by kernel_rfl) (loopsL_cons (b := sub [1, 1, 1, 0, 1, 0, 0] qaai) (rid := 5) (by kernel_rfl) (by kernel_rfl) qabz (trivial))
theorem qab1 : RngsOK Tryz.prog qabw qaai := rngs0 (by kernel_rfl)
theorem qab2 : ∀ v, runFn (hnd 0 qabv) qabw qabu qaai Tryz.f83.results.toList (HP.st qabn v) (decOf qabo qabq) = qabs (qabp v) := by intro v; kernel_rfl
theorem qab3 : SpecOK Tryz.prog 83 qabt := specOK_mk (fn := Tryz.f83) (by kernel_rfl) (by kernel_rfl) (by kernel_rfl) qabx (by kernel_rfl) (by kernel_rfl) qaac (by kernel_rfl) (fun _ => rfl) (d := 0) qaby qab0 qab1 qab2
noncomputable def qab4 : HS := ⟨[(0, .one (.str)), (4, .one (.sl .str)), (5, .one (.int .i64))], [], 0⟩
noncomputable def qab5 {R : Type} : Nat → HS.V qab4 → (Ex → St → Option R) → Option R := fun q v K =>
  ref03_Plain_L3 v.1.2.1 (K .ret { regs := [(2, .v (.one (.clip .str ([] : List Str)))), (3, .v (.one (.bool false)))], mem := [], nx := 0 }) (K (.exit 0) { regs := [(0, .v (.one (.str v.1.1))), (4, .v (.one (.sl .str v.1.2.1)))], mem := [], nx := 0 }) q v.1.2.2.1
noncomputable def qab6 : List HV := [.one (.str)]
noncomputable def qab7 : List HV := [.one (.sl .str), .one (.bool)]
noncomputable def qab8 : HP.V qab6 → Str := fun v => (v.1)
noncomputable def qab9 : HX.V qab7 → (List Str) × Bool := fun v => (v.1, v.2)
noncomputable def qaca : (List Str) × Bool → HX.V qab7 := fun y => (y.1, y.2)
noncomputable def qacb : Str → Option ((List Str) × Bool) := fun x => ref03_Plain x
noncomputable def qacc : Spec := mkSpec qab6 qab7 qab8 qaca qacb
noncomputable def qacd {R : Type} : List (Nat × Hd R) := [(3, hdOf qab4 qab5)]
noncomputable def qace {R : Type} : List (Nat × Inl R) := []
noncomputable def qacf : Cfg := { T := qaaa, spec := [(19, qaar), (82, qaba), (83, qabt)], glob := GlobL.G Tryz.prog, eqs := qaab, N := 25, fuel := 64, loops := [(3, ⟨[0, 4, 5], [], [], 0, [], [], [], []⟩)], joins := [], blocks := [(0, ⟨[0, 4], [], [], 0, [], [], [], []⟩)], ovl := [], retA := some ⟨[2, 3], [], [], 0, [], [], [], []⟩, fid := 52, rnd := false, saves := [] }
theorem qacg : CfgOK Tryz.prog qacf := ⟨tsOK_of qaad, specsL_ok (show SpecsL Tryz.prog qacf.spec from ⟨qaa1, ⟨qabk, ⟨qab3, trivial⟩⟩⟩), qaae, ovlL_ok (trivial), globsOK_of rfl, freshL_ok (show FreshL Tryz.prog qacf.fresh from trivial), specsL_ok (show SpecsL Tryz.prog qacf.gns from trivial)⟩
theorem qach {R : Type} : SubsOK Tryz.prog (R := R) 0 qace := subsOK_nil _ _
theorem qaci {R : Type} : LoopOK (R := R) (hnd 0 qace) qacf qacd (sub [1, 1, 0, 1, 0, 0] qaag) (HS.V qab4) (HS.st qab4) (HS.sh qab4) qab5 (hdOf qab4 qab5) := loopOK_of qab4 qab5 (fun _ _ => rfl) (by intro q v K; kernel_rfl)
theorem qacj {R : Type} : LoopsOK (R := R) (hnd 0 qace) qacf qacd qaag := loopsOK_of (l := [sub [1, 1, 0, 1, 0, 0] qaag]) (by kernel_rfl) (loopsL_cons (b := sub [1, 1, 0, 1, 0, 0] qaag) (rid := 3) (by kernel_rfl) (by kernel_rfl) qaci (trivial))
theorem qack : RngsOK Tryz.prog qacf qaag := rngs0 (by kernel_rfl)
theorem qacl : ∀ v, runFn (hnd 0 qace) qacf qacd qaag Tryz.f52.results.toList (HP.st qab6 v) (decOf qab7 qab9) = qacb (qab8 v) := by intro v; kernel_rfl
theorem qacm : SpecOK Tryz.prog 52 qacc := specOK_mk (fn := Tryz.f52) (by kernel_rfl) (by kernel_rfl) (by kernel_rfl) qacg (by kernel_rfl) (by kernel_rfl) qaac (by kernel_rfl) (fun _ => rfl) (d := 0) qach qacj qack qacl
end Go.Eng
set_option linter.unusedVariables false
set_option maxRecDepth 100000
namespace Go.Eng
open Go Go.Proofs
noncomputable def qacn : List (Nat × TI) := [(3, ⟨false, 1, .one (.int .i64 0), .int .i64⟩), (9, ⟨false, 1, .one (.str []), .str⟩), (32, ⟨false, 1, .one (.clip .entry []), .slice .entry 90⟩), (90, ⟨true, 2, .agg [.str [], .int .i64 0], .struct [(0, 9), (1, 3)]⟩)]
noncomputable def qaco : List (Nat × List EK) := [(90, [.s, .i])]
theorem qacp : Tryz.prog.follows .mixedOrders = true := by kernel_rfl
theorem qacq : (qacn.all fun x => tiB Tryz.prog x.1 x.2) = true := by kernel_rfl
theorem qacr {c : Cfg} (h : c.eqs = qaco := by rfl) : EqsOK Tryz.prog c := eqsOK_of (by rw [h]; kernel_rfl)
noncomputable def qacs : Code := match Tryz.f30.body with | some b => b | none => .skip
noncomputable def qact : Code := match Tryz.f58.body with | some b => b | none => .skip
noncomputable def qacu : Code := match Tryz.f63.body with | some b => b | none => .skip
noncomputable def qacv : Code := match Tryz.f65.body with | some b => b | none => .skip
noncomputable def qacw : Code := match Tryz.f105.body with | some b => b | none => .skip
noncomputable def qacx : HS := ⟨[(0, .one (.sl .entry)), (3, .one (.int .i64))], [], 0⟩
noncomputable def qacy {R : Type} : Nat → HS.V qacx → (Ex → St → Option R) → Option R := fun q v K =>
  ref04_Right_L2 v.1.1 (K .ret { regs := [(2, .v (.one (.bool false)))], mem := [], nx := 0 }) (K (.exit 0) { regs := [], mem := [], nx := 0 }) q v.1.2.1
noncomputable def qacz : List HV := [.one (.sl .entry)]
noncomputable def qac0 : List HV := [.one (.bool)]
noncomputable def qac1 : HP.V qacz → (List Entry) := fun v => (v.1)
noncomputable def qac2 : HX.V qac0 → Bool := fun v => (v)
noncomputable def qac3 : Bool → HX.V qac0 := fun y => (y)
noncomputable def qac4 : (List Entry) → Option (Bool) := fun x => ref04_Right x
noncomputable def qac5 : Spec := mkSpec qacz qac0 qac1 qac3 qac4
noncomputable def qac6 {R : Type} : List (Nat × Hd R) := [(2, hdOf qacx qacy)]
noncomputable def qac7 {R : Type} : List (Nat × Inl R) := []
noncomputable def qac8 : Cfg := { T := qacn, spec := [(19, qaar)], glob := GlobL.G Tryz.prog, eqs := qaco, N := 41, fuel := 64, loops := [(2, ⟨[0, 3], [], [], 0, [], [], [], []⟩)], joins := [], blocks := [(0, ⟨[], [], [], 0, [], [], [], []⟩)], ovl := [], retA := some ⟨[2], [], [], 0, [], [], [], []⟩, fid := 105, rnd := false, saves := [] }
theorem qac9 : CfgOK Tryz.prog qac8 := ⟨tsOK_of qacq, specsL_ok (show SpecsL Tryz.prog qac8.spec from ⟨qaa1, trivial⟩), qacr, ovlL_ok (trivial), globsOK_of rfl, freshL_ok (show FreshL Tryz.prog qac8.fresh from trivial), specsL_ok (show SpecsL Tryz.prog qac8.gns from trivial)⟩
theorem qada {R : Type} : SubsOK Tryz.prog (R := R) 0 qac7 := subsOK_nil _ _
theorem qadb {R : Type} : LoopOK (R := R) (hnd 0 qac7) qac8 qac6 (sub [1, 0, 1, 0, 0] qacw) (HS.V qacx) (HS.st qacx) (HS.sh qacx) qacy (hdOf qacx qacy) := loopOK_of qacx qacy (fun _ _ => rfl) (by intro q v K; kernel_rfl)
theorem qadc {R : Type} : LoopsOK (R := R) (hnd 0 qac7) qac8 qac6 qacw := loopsOK_of (l := [sub [1, 0, 1, 0, 0] qacw]) (by kernel_rfl) (loopsL_cons (b := sub [1, 0, 1, 0, 0] qacw) (rid := 2) (by kernel_rfl) (by kernel_rfl) qadb (trivial))
theorem qadd : RngsOK Tryz.prog qac8 qacw := rngs0 (by kernel_rfl)
theorem qade : ∀ v, runFn (hnd 0 qac7) qac8 qac6 qacw Tryz.f105.results.toList (HP.st qacz v) (decOf qac0 qac2) = qac4 (qac1 v) := by intro v; kernel_rfl
theorem qadf : SpecOK Tryz.prog 105 qac5 := specOK_mk (fn := Tryz.f105) (by kernel_rfl) (by kernel_rfl) (by kernel_rfl) qac9 (by kernel_rfl) (by kernel_rfl) qacp (by kernel_rfl) (fun _ => rfl) (d := 0) qada qadc qadd qade
noncomputable def qadg : HS := ⟨[(0, .one (.sl .entry)), (1, .one (.str)), (6, .one (.int .i64))], [], 0⟩
noncomputable def qadh {R : Type} : Nat → HS.V qadg → (Ex → St → Option R) → Option R := fun q v K =>
  ref04_Find_L2 v.1.1 v.1.2.1 (fun y6 => K .ret { regs := [(4, .v (.one (.int .i64 y6))), (5, .v (.one (.bool true)))], mem := [], nx := 0 }) (K (.exit 0) { regs := [], mem := [], nx := 0 }) q v.1.2.2.1
noncomputable def qadi : List HV := [.one (.sl .entry), .one (.str)]
noncomputable def qadj : List HV := [.one (.int .i64), .one (.bool)]
noncomputable def qadk : HP.V qadi → (List Entry) × Str := fun v => (v.1, v.2.1)
noncomputable def qadl : HX.V qadj → Int × Bool := fun v => (v.1, v.2)
noncomputable def qadm : (Int × Bool) → HX.V qadj := fun y => (y.1, y.2)
noncomputable def qadn : (List Entry) × Str → Option (Int × Bool) := fun x => ref04_Find x.1 x.2
noncomputable def qado : Spec := mkSpec qadi qadj qadk qadm qadn
noncomputable def qadp {R : Type} : List (Nat × Hd R) := [(2, hdOf qadg qadh)]
noncomputable def qadq {R : Type} : List (Nat × Inl R) := []
noncomputable def qadr : Cfg := { T := qacn, spec := [], glob := GlobL.G Tryz.prog, eqs := qaco, N := 25, fuel := 64, loops := [(2, ⟨[0, 1, 6], [], [], 0, [], [], [], []⟩)], joins := [], blocks := [(0, ⟨[], [], [], 0, [], [], [], []⟩)], ovl := [], retA := some ⟨[4, 5], [], [], 0, [], [], [], []⟩, fid := 30, rnd := false, saves := [] }
theorem qads : CfgOK Tryz.prog qadr := ⟨tsOK_of qacq, specsL_ok (show SpecsL Tryz.prog qadr.spec from trivial), qacr, ovlL_ok (trivial), globsOK_of rfl, freshL_ok (show FreshL Tryz.prog qadr.fresh from trivial), specsL_ok (show SpecsL Tryz.prog qadr.gns from trivial)⟩
theorem qadt {R : Type} : SubsOK Tryz.prog (R := R) 0 qadq := subsOK_nil _ _
theorem qadu {R : Type} : LoopOK (R := R) (hnd 0 qadq) qadr qadp (sub [1, 0, 1, 0, 0] qacs) (HS.V qadg) (HS.st qadg) (HS.sh qadg) qadh (hdOf qadg qadh) := loopOK_of qadg qadh (fun _ _ => rfl) (by intro q v K; kernel_rfl)
theorem qadv {R : Type} : LoopsOK (R := R) (hnd 0 qadq) qadr qadp qacs := loopsOK_of (l := [sub [1, 0, 1, 0, 0] qacs]) (by kernel_rfl) (loopsL_cons (b := sub [1, 0, 1, 0, 0] qacs) (rid := 2) (by kernel_rfl) (by kernel_rfl) qadu (trivial))
theorem qadw : RngsOK Tryz.prog qadr qacs := rngs0 (by kernel_rfl)
theorem qadx : ∀ v, runFn (hnd 0 qadq) qadr qadp qacs Tryz.f30.results.toList (HP.st qadi v) (decOf qadj qadl) = qadn (qadk v) := by intro v; kernel_rfl
theorem qady : SpecOK Tryz.prog 30 qado := specOK_mk (fn := Tryz.f30) (by kernel_rfl) (by kernel_rfl) (by kernel_rfl) qads (by kernel_rfl) (by kernel_rfl) qacp (by kernel_rfl) (fun _ => rfl) (d := 0) qadt qadv qadw qadx
noncomputable def qadz : HS := ⟨[(0, .one (.sl .entry)), (1, .one (.sl .entry)), (5, .one (.int .i64))], [], 0⟩
noncomputable def qad0 {R : Type} : Nat → HS.V qadz → (Ex → St → Option R) → Option R := fun q v K =>
  ref04_Same_L4 v.1.1 v.1.2.1 (K .ret { regs := [(4, .v (.one (.bool false)))], mem := [], nx := 0 }) (K (.exit 0) { regs := [], mem := [], nx := 0 }) q v.1.2.2.1
noncomputable def qad1 : List HV := [.one (.sl .entry), .one (.sl .entry)]
noncomputable def qad2 : List HV := [.one (.bool)]
noncomputable def qad3 : HP.V qad1 → (List Entry) × (List Entry) := fun v => (v.1, v.2.1)
noncomputable def qad4 : HX.V qad2 → Bool := fun v => (v)
noncomputable def qad5 : Bool → HX.V qad2 := fun y => (y)
noncomputable def qad6 : (List Entry) × (List Entry) → Option (Bool) := fun x => ref04_Same x.1 x.2
noncomputable def qad7 : Spec := mkSpec qad1 qad2 qad3 qad5 qad6
noncomputable def qad8 {R : Type} : List (Nat × Hd R) := [(4, hdOf qadz qad0)]
noncomputable def qad9 {R : Type} : List (Nat × Inl R) := []
noncomputable def qaea : Cfg := { T := qacn, spec := [], glob := GlobL.G Tryz.prog, eqs := qaco, N := 26, fuel := 64, loops := [(4, ⟨[0, 1, 5], [], [], 0, [], [], [], []⟩)], joins := [], blocks := [(0, ⟨[], [], [], 0, [], [], [], []⟩)], ovl := [], retA := some ⟨[4], [], [], 0, [], [], [], []⟩, fid := 58, rnd := false, saves := [] }
theorem qaeb : CfgOK Tryz.prog qaea := ⟨tsOK_of qacq, specsL_ok (show SpecsL Tryz.prog qaea.spec from trivial), qacr, ovlL_ok (trivial), globsOK_of rfl, freshL_ok (show FreshL Tryz.prog qaea.fresh from trivial), specsL_ok (show SpecsL Tryz.prog qaea.gns from trivial)⟩
theorem qaec {R : Type} : SubsOK Tryz.prog (R := R) 0 qad9 := subsOK_nil _ _
theorem qaed {R : Type} : LoopOK (R := R) (hnd 0 qad9) qaea qad8 (sub [1, 1, 0, 1, 0, 0] qact) (HS.V qadz) (HS.st qadz) (HS.sh qadz) qad0 (hdOf qadz qad0) := loopOK_of qadz qad0 (fun _ _ => rfl) (by intro q v K; kernel_rfl)
theorem qaee {R : Type} : LoopsOK (R := R) (hnd 0 qad9) qaea qad8 qact := loopsOK_of (l := [sub [1, 1, 0, 1, 0, 0] qact]) (by kernel_rfl) (loopsL_cons (b := sub [1, 1, 0, 1, 0, 0] qact) (rid := 4) (by kernel_rfl) (by kernel_rfl) qaed (trivial))
theorem qaef : RngsOK Tryz.prog qaea qact := rngs0 (by kernel_rfl)
theorem qaeg : ∀ v, runFn (hnd 0 qad9) qaea qad8 qact Tryz.f58.results.toList (HP.st qad1 v) (decOf qad2 qad4) = qad6 (qad3 v) := by intro v; kernel_rfl
theorem qaeh : SpecOK Tryz.prog 58 qad7 := specOK_mk (fn := Tryz.f58) (by kernel_rfl) (by kernel_rfl) (by kernel_rfl) qaeb (by kernel_rfl) (by kernel_rfl) qacp (by kernel_rfl) (fun _ => rfl) (d := 0) qaec qaee qaef qaeg
noncomputable def qaei : HS := ⟨[(0, .one (.sl .entry)), (1, .one (.str)), (5, .one (.own 0)), (6, .one (.int .i64))], [(0, .row .entry)], 1⟩
noncomputable def qaej {R : Type} : Nat → HS.V qaei → (Ex → St → Option R) → Option R := fun q v K =>
  ref04_Without_L3 v.1.1 v.1.2.1 (fun y7 => K (.exit 0) { regs := [(5, .v (.one (.own 0)))], mem := [(0, .row .entry y7)], nx := 1 }) q v.1.2.2.2.1 v.2.1
noncomputable def qaek : List HV := [.one (.sl .entry), .one (.str)]
noncomputable def qael : List HV := [.one (.sl .entry)]
noncomputable def qaem : HP.V qaek → (List Entry) × Str := fun v => (v.1, v.2.1)
noncomputable def qaen : HX.V qael → (List Entry) := fun v => (v)
noncomputable def qaeo : (List Entry) → HX.V qael := fun y => (y)
noncomputable def qaep : (List Entry) × Str → Option ((List Entry)) := fun x => ref04_Without x.1 x.2
noncomputable def qaeq : Spec := mkSpec qaek qael qaem qaeo qaep
noncomputable def qaer {R : Type} : List (Nat × Hd R) := [(3, hdOf qaei qaej)]
noncomputable def qaes {R : Type} : List (Nat × Inl R) := []
noncomputable def qaet : Cfg := { T := qacn, spec := [], glob := GlobL.G Tryz.prog, eqs := qaco, N := 28, fuel := 64, loops := [(3, ⟨[0, 1, 5, 6], [(5, 0, .entry)], [0], 1, [], [], [], []⟩)], joins := [], blocks := [(0, ⟨[5], [], [0], 1, [], [], [], []⟩)], ovl := [], retA := none, fid := 65, rnd := false, saves := [] }
theorem qaeu : CfgOK Tryz.prog qaet := ⟨tsOK_of qacq, specsL_ok (show SpecsL Tryz.prog qaet.spec from trivial), qacr, ovlL_ok (trivial), globsOK_of rfl, freshL_ok (show FreshL Tryz.prog qaet.fresh from trivial), specsL_ok (show SpecsL Tryz.prog qaet.gns from trivial)⟩
theorem qaev {R : Type} : SubsOK Tryz.prog (R := R) 0 qaes := subsOK_nil _ _
theorem qaew {R : Type} : LoopOK (R := R) (hnd 0 qaes) qaet qaer (sub [1, 1, 0, 1, 0, 0] qacv) (HS.V qaei) (HS.st qaei) (HS.sh qaei) qaej (hdOf qaei qaej) := loopOK_of qaei qaej (fun _ _ => rfl) (by intro q v K; kernel_rfl)
theorem qaex {R : Type} : LoopsOK (R := R) (hnd 0 qaes) qaet qaer qacv := loopsOK_of (l := [sub [1, 1, 0, 1, 0, 0] qacv]) (by kernel_rfl) (loopsL_cons (b := sub [1, 1, 0, 1, 0, 0] qacv) (rid := 3) (by kernel_rfl) (by kernel_rfl) qaew (trivial))
theorem qaey : RngsOK Tryz.prog qaet qacv := rngs0 (by kernel_rfl)
theorem qaez : ∀ v, runFn (hnd 0 qaes) qaet qaer qacv Tryz.f65.results.toList (HP.st qaek v) (decOf qael qaen) = qaep (qaem v) := by intro v; kernel_rfl
theorem qae0 : SpecOK Tryz.prog 65 qaeq := specOK_mk (fn := Tryz.f65) (by kernel_rfl) (by kernel_rfl) (by kernel_rfl) qaeu (by kernel_rfl) (by kernel_rfl) qacp (by kernel_rfl) (fun _ => rfl) (d := 0) qaev qaex qaey qaez
noncomputable def qae1 : HS := ⟨[(1, .one (.str)), (2, .one (.int .i64)), (7, .one (.sl .entry)), (8, .one (.own 0)), (9, .one (.bool)), (10, .one (.int .i64))], [(0, .row .entry)], 1⟩
noncomputable def qae2 {R : Type} : Nat → HS.V qae1 → (Ex → St → Option R) → Option R := fun q v K =>
  ref04_With_L5 v.1.1 v.1.2.1 v.1.2.2.1 (fun y14 y15 => K (.exit 0) { regs := [(1, .v (.one (.str v.1.1))), (2, .v (.one (.int .i64 v.1.2.1))), (8, .v (.one (.own 0))), (9, .v (.one (.bool y14)))], mem := [(0, .row .entry y15)], nx := 1 }) q v.1.2.2.2.2.1 v.1.2.2.2.2.2.1 v.2.1
noncomputable def qae3 : List HV := [.one (.sl .entry), .one (.str), .one (.int .i64)]
noncomputable def qae4 : List HV := [.one (.sl .entry)]
noncomputable def qae5 : HP.V qae3 → (List Entry) × Str × Int := fun v => (v.1, v.2.1, v.2.2.1)
noncomputable def qae6 : HX.V qae4 → (List Entry) := fun v => (v)
noncomputable def qae7 : (List Entry) → HX.V qae4 := fun y => (y)
noncomputable def qae8 : (List Entry) × Str × Int → Option ((List Entry)) := fun x => ref04_With x.1 x.2.1 x.2.2
noncomputable def qae9 : Spec := mkSpec qae3 qae4 qae5 qae7 qae8
noncomputable def qafa {R : Type} : List (Nat × Hd R) := [(5, hdOf qae1 qae2)]
noncomputable def qafb {R : Type} : List (Nat × Inl R) := []
noncomputable def qafc : Cfg := { T := qacn, spec := [(65, qaeq)], glob := GlobL.G Tryz.prog, eqs := qaco, N := 53, fuel := 64, loops := [(5, ⟨[1, 2, 7, 8, 9, 10], [(8, 0, .entry)], [0], 1, [], [], [], []⟩)], joins := [], blocks := [(0, ⟨[1, 2, 8, 9], [], [0], 1, [], [], [], []⟩)], ovl := [], retA := none, fid := 63, rnd := false, saves := [] }
theorem qafd : CfgOK Tryz.prog qafc := ⟨tsOK_of qacq, specsL_ok (show SpecsL Tryz.prog qafc.spec from ⟨qae0, trivial⟩), qacr, ovlL_ok (trivial), globsOK_of rfl, freshL_ok (show FreshL Tryz.prog qafc.fresh from trivial), specsL_ok (show SpecsL Tryz.prog qafc.gns from trivial)⟩
theorem qafe {R : Type} : SubsOK Tryz.prog (R := R) 0 qafb := subsOK_nil _ _
theorem qaff {R : Type} : LoopOK (R := R) (hnd 0 qafb) qafc qafa (sub [1, 1, 1, 1, 0, 1, 0, 0] qacu) (HS.V qae1) (HS.st qae1) (HS.sh qae1) qae2 (hdOf qae1 qae2) := loopOK_of qae1 qae2 (fun _ _ => rfl) (by intro q v K; kernel_rfl)
theorem qafg {R : Type} : LoopsOK (R := R) (hnd 0 qafb) qafc qafa qacu := loopsOK_of (l := [sub [1, 1, 1, 1, 0, 1, 0, 0] qacu]) (by kernel_rfl) (loopsL_cons (b := sub [1, 1, 1, 1, 0, 1, 0, 0] qacu) (rid := 5) (by kernel_rfl) (by kernel_rfl) qaff (trivial))
theorem qafh : RngsOK Tryz.prog qafc qacu := rngs0 (by kernel_rfl)
theorem qafi : ∀ v, runFn (hnd 0 qafb) qafc qafa qacu Tryz.f63.results.toList (HP.st qae3 v) (decOf qae4 qae6) = qae8 (qae5 v) := by intro v; kernel_rfl
theorem qafj : SpecOK Tryz.prog 63 qae9 := specOK_mk (fn := Tryz.f63) (by kernel_rfl) (by kernel_rfl) (by kernel_rfl) qafd (by kernel_rfl) (by kernel_rfl) qacp (by kernel_rfl) (fun _ => rfl) (d := 0) qafe qafg qafh qafi
end Go.Eng
set_option linter.unusedVariables false
set_option maxRecDepth 100000
namespace Go.Eng
open Go Go.Proofs
noncomputable def qafk : List (Nat × TI) := [(3, ⟨false, 1, .one (.int .i64 0), .int .i64⟩), (9, ⟨false, 1, .one (.str []), .str⟩), (22, ⟨false, 1, .one (.clip .inode []), .slice .inode 34⟩), (24, ⟨true, 4, .agg [.int .i64 0, .int .i64 0, .int .i64 0, .clip .inode []], .struct [(0, 3), (1, 3), (2, 3), (3, 22)]⟩), (32, ⟨false, 1, .one (.clip .entry []), .slice .entry 90⟩), (34, ⟨true, 6, .agg [.int .i64 0, .int .i64 0, .int .i64 0, .str [], .int .i64 0, .clip .entry []], .struct [(0, 3), (1, 3), (2, 3), (3, 9), (4, 3), (5, 32)]⟩), (90, ⟨true, 2, .agg [.str [], .int .i64 0], .struct [(0, 9), (1, 3)]⟩)]
noncomputable def qafl : List (Nat × List EK) := []
theorem qafm : Tryz.prog.follows .mixedOrders = true := by kernel_rfl
theorem qafn : (qafk.all fun x => tiB Tryz.prog x.1 x.2) = true := by kernel_rfl
theorem qafo {c : Cfg} (h : c.eqs = qafl := by rfl) : EqsOK Tryz.prog c := eqsOK_of (by rw [h]; kernel_rfl)
noncomputable def qafp : Code := match Tryz.f23.body with | some b => b | none => .skip
noncomputable def qafq : Code := match Tryz.f24.body with | some b => b | none => .skip
noncomputable def qafr : Code := match Tryz.f29.body with | some b => b | none => .skip
noncomputable def qafs : Code := match Tryz.f48.body with | some b => b | none => .skip
noncomputable def qaft : Code := match Tryz.f53.body with | some b => b | none => .skip
noncomputable def qafu : Code := match Tryz.f54.body with | some b => b | none => .skip
noncomputable def qafv : Code := match Tryz.f59.body with | some b => b | none => .skip
noncomputable def qafw : Code := match Tryz.f84.body with | some b => b | none => .skip
noncomputable def qafx : Code := match Tryz.f104.body with | some b => b | none => .skip
noncomputable def qafy : List HV := [.one (.int .i64), .one (.int .i64)]
noncomputable def qafz : List HV := [.agg [.int .i64, .int .i64, .int .i64, .sl .inode]]
noncomputable def qaf0 : HP.V qafy → Int × Int := fun v => (v.1, v.2.1)
noncomputable def qaf1 : HX.V qafz → Fs := fun v => ((⟨v.1, v.2.1, v.2.2.1, v.2.2.2.1⟩ : Fs))
noncomputable def qaf2 : Fs → HX.V qafz := fun y => ((y.maxInodes, (y.maxBytes, (y.next, (y.inodes, ())))))
noncomputable def qaf3 : (Int × Int) → Option (Fs) := fun x => ref05_New x.1 x.2
noncomputable def qaf4 : Spec := mkSpec qafy qafz qaf0 qaf2 qaf3
noncomputable def qaf5 {R : Type} : List (Nat × Hd R) := []
noncomputable def qaf6 {R : Type} : List (Nat × Inl R) := []
noncomputable def qaf7 : Cfg := { T := qafk, spec := [], glob := GlobL.G Tryz.prog, eqs := qafl, N := 10, fuel := 64, loops := [], joins := [], blocks := [], ovl := [], retA := none, fid := 53, rnd := false, saves := [] }
theorem qaf8 : CfgOK Tryz.prog qaf7 := ⟨tsOK_of qafn, specsL_ok (show SpecsL Tryz.prog qaf7.spec from trivial), qafo, ovlL_ok (trivial), globsOK_of rfl, freshL_ok (show FreshL Tryz.prog qaf7.fresh from trivial), specsL_ok (show SpecsL Tryz.prog qaf7.gns from trivial)⟩
theorem qaf9 {R : Type} : SubsOK Tryz.prog (R := R) 0 qaf6 := subsOK_nil _ _
theorem qaga {R : Type} : LoopsOK (R := R) (hnd 0 qaf6) qaf7 qaf5 qaft := loopsOK_of (l := []) (by kernel_rfl) (trivial)
theorem qagb : RngsOK Tryz.prog qaf7 qaft := rngs0 (by kernel_rfl)
theorem qagc : ∀ v, runFn (hnd 0 qaf6) qaf7 qaf5 qaft Tryz.f53.results.toList (HP.st qafy v) (decOf qafz qaf1) = qaf3 (qaf0 v) := by intro v; kernel_rfl
theorem qagd : SpecOK Tryz.prog 53 qaf4 := specOK_mk (fn := Tryz.f53) (by kernel_rfl) (by kernel_rfl) (by kernel_rfl) qaf8 (by kernel_rfl) (by kernel_rfl) qafm (by kernel_rfl) (fun _ => rfl) (d := 0) qaf9 qaga qagb qagc
noncomputable def qage : HS := ⟨[(1, .one (.int .i64)), (2, .one (.ptr 0 0)), (4, .one (.ptr 1 0)), (5, .one (.own 2)), (6, .one (.int .i64))], [(0, .cells [.int .i64, .int .i64, .int .i64, .sl .inode]), (1, .cells [.int .i64, .int .i64, .int .i64, .sl .inode]), (2, .row .inode)], 3⟩
noncomputable def qagf {R : Type} : Nat → HS.V qage → (Ex → St → Option R) → Option R := fun q v K =>
  ref05_Drop_L3 v.1.1 (⟨v.2.1.1, v.2.1.2.1, v.2.1.2.2.1, v.2.1.2.2.2.1⟩ : Fs) (fun y10 => K (.exit 0) { regs := [(2, .v (.one (.ptr 0 0))), (4, .v (.one (.ptr 1 0))), (5, .v (.one (.own 2)))], mem := [(0, .cells [.int .i64 ((⟨v.2.1.1, v.2.1.2.1, v.2.1.2.2.1, v.2.1.2.2.2.1⟩ : Fs).maxInodes), .int .i64 ((⟨v.2.1.1, v.2.1.2.1, v.2.1.2.2.1, v.2.1.2.2.2.1⟩ : Fs).maxBytes), .int .i64 ((⟨v.2.1.1, v.2.1.2.1, v.2.1.2.2.1, v.2.1.2.2.2.1⟩ : Fs).next), .sl .inode ((⟨v.2.1.1, v.2.1.2.1, v.2.1.2.2.1, v.2.1.2.2.2.1⟩ : Fs).inodes)]), (1, .cells [.int .i64 ((⟨v.2.2.1.1, v.2.2.1.2.1, v.2.2.1.2.2.1, v.2.2.1.2.2.2.1⟩ : Fs).maxInodes), .int .i64 ((⟨v.2.2.1.1, v.2.2.1.2.1, v.2.2.1.2.2.1, v.2.2.1.2.2.2.1⟩ : Fs).maxBytes), .int .i64 ((⟨v.2.2.1.1, v.2.2.1.2.1, v.2.2.1.2.2.1, v.2.2.1.2.2.2.1⟩ : Fs).next), .sl .inode ((⟨v.2.2.1.1, v.2.2.1.2.1, v.2.2.1.2.2.1, v.2.2.1.2.2.2.1⟩ : Fs).inodes)]), (2, .row .inode y10)], nx := 3 }) q v.1.2.2.2.2.1 v.2.2.2.1
noncomputable def qagg : List HV := [.agg [.int .i64, .int .i64, .int .i64, .sl .inode], .one (.int .i64)]
noncomputable def qagh : List HV := [.agg [.int .i64, .int .i64, .int .i64, .sl .inode]]
noncomputable def qagi : HP.V qagg → Fs × Int := fun v => ((⟨v.1.1, v.1.2.1, v.1.2.2.1, v.1.2.2.2.1⟩ : Fs), v.2.1)
noncomputable def qagj : HX.V qagh → Fs := fun v => ((⟨v.1, v.2.1, v.2.2.1, v.2.2.2.1⟩ : Fs))
noncomputable def qagk : Fs → HX.V qagh := fun y => ((y.maxInodes, (y.maxBytes, (y.next, (y.inodes, ())))))
noncomputable def qagl : (Fs × Int) → Option (Fs) := fun x => ref05_Drop x.1 x.2
noncomputable def qagm : Spec := mkSpec qagg qagh qagi qagk qagl
noncomputable def qagn {R : Type} : List (Nat × Hd R) := [(3, hdOf qage qagf)]
noncomputable def qago {R : Type} : List (Nat × Inl R) := []
noncomputable def qagp : Cfg := { T := qafk, spec := [], glob := GlobL.G Tryz.prog, eqs := qafl, N := 33, fuel := 64, loops := [(3, ⟨[1, 2, 4, 5, 6], [(5, 2, .inode)], [0, 1, 2], 3, [], [1], [], []⟩)], joins := [], blocks := [(0, ⟨[2, 4, 5], [], [0, 1, 2], 3, [], [], [], []⟩)], ovl := [], retA := none, fid := 84, rnd := false, saves := [] }
theorem qagq : CfgOK Tryz.prog qagp := ⟨tsOK_of qafn, specsL_ok (show SpecsL Tryz.prog qagp.spec from trivial), qafo, ovlL_ok (trivial), globsOK_of rfl, freshL_ok (show FreshL Tryz.prog qagp.fresh from trivial), specsL_ok (show SpecsL Tryz.prog qagp.gns from trivial)⟩
theorem qagr {R : Type} : SubsOK Tryz.prog (R := R) 0 qago := subsOK_nil _ _
theorem qags {R : Type} : LoopOK (R := R) (hnd 0 qago) qagp qagn (sub [1, 1, 0, 1, 0, 0] qafw) (HS.V qage) (HS.st qage) (HS.sh qage) qagf (hdOf qage qagf) := loopOK_of qage qagf (fun _ _ => rfl) (by intro q v K; kernel_rfl)
theorem qagt {R : Type} : LoopsOK (R := R) (hnd 0 qago) qagp qagn qafw := loopsOK_of (l := [sub [1, 1, 0, 1, 0, 0] qafw]) (by kernel_rfl) (loopsL_cons (b := sub [1, 1, 0, 1, 0, 0] qafw) (rid := 3) (by kernel_rfl) (by kernel_rfl) qags (trivial))
theorem qagu : RngsOK Tryz.prog qagp qafw := rngs0 (by kernel_rfl)
theorem qagv : ∀ v, runFn (hnd 0 qago) qagp qagn qafw Tryz.f84.results.toList (HP.st qagg v) (decOf qagh qagj) = qagl (qagi v) := by intro v; kernel_rfl
theorem qagw : SpecOK Tryz.prog 84 qagm := specOK_mk (fn := Tryz.f84) (by kernel_rfl) (by kernel_rfl) (by kernel_rfl) qagq (by kernel_rfl) (by kernel_rfl) qafm (by kernel_rfl) (fun _ => rfl) (d := 0) qagr qagt qagu qagv
noncomputable def qagx : HS := ⟨[(2, .one (.ptr 0 0)), (3, .one (.ptr 1 0)), (4, .one (.ptr 2 0)), (5, .one (.sl .inode)), (6, .one (.own 3)), (7, .one (.bool)), (8, .one (.int .i64))], [(0, .cells [.int .i64, .int .i64, .int .i64, .sl .inode]), (1, .cells [.int .i64, .int .i64, .int .i64, .str, .int .i64, .sl .entry]), (2, .cells [.int .i64, .int .i64, .int .i64, .sl .inode]), (3, .row .inode)], 4⟩
noncomputable def qagy {R : Type} : Nat → HS.V qagx → (Ex → St → Option R) → Option R := fun q v K =>
  ref05_Set_L5 v.1.2.2.2.1 (⟨v.2.2.1.1, v.2.2.1.2.1, v.2.2.1.2.2.1, v.2.2.1.2.2.2.1, v.2.2.1.2.2.2.2.1, v.2.2.1.2.2.2.2.2.1⟩ : Inode) (fun y13 y17 => K (.exit 0) { regs := [(2, .v (.one (.ptr 0 0))), (3, .v (.one (.ptr 1 0))), (4, .v (.one (.ptr 2 0))), (6, .v (.one (.own 3))), (7, .v (.one (.bool y13)))], mem := [(0, .cells [.int .i64 ((⟨v.2.1.1, v.2.1.2.1, v.2.1.2.2.1, v.2.1.2.2.2.1⟩ : Fs).maxInodes), .int .i64 ((⟨v.2.1.1, v.2.1.2.1, v.2.1.2.2.1, v.2.1.2.2.2.1⟩ : Fs).maxBytes), .int .i64 ((⟨v.2.1.1, v.2.1.2.1, v.2.1.2.2.1, v.2.1.2.2.2.1⟩ : Fs).next), .sl .inode ((⟨v.2.1.1, v.2.1.2.1, v.2.1.2.2.1, v.2.1.2.2.2.1⟩ : Fs).inodes)]), (1, .cells [.int .i64 ((⟨v.2.2.1.1, v.2.2.1.2.1, v.2.2.1.2.2.1, v.2.2.1.2.2.2.1, v.2.2.1.2.2.2.2.1, v.2.2.1.2.2.2.2.2.1⟩ : Inode).ino), .int .i64 ((⟨v.2.2.1.1, v.2.2.1.2.1, v.2.2.1.2.2.1, v.2.2.1.2.2.2.1, v.2.2.1.2.2.2.2.1, v.2.2.1.2.2.2.2.2.1⟩ : Inode).kind), .int .i64 ((⟨v.2.2.1.1, v.2.2.1.2.1, v.2.2.1.2.2.1, v.2.2.1.2.2.2.1, v.2.2.1.2.2.2.2.1, v.2.2.1.2.2.2.2.2.1⟩ : Inode).links), .str ((⟨v.2.2.1.1, v.2.2.1.2.1, v.2.2.1.2.2.1, v.2.2.1.2.2.2.1, v.2.2.1.2.2.2.2.1, v.2.2.1.2.2.2.2.2.1⟩ : Inode).data), .int .i64 ((⟨v.2.2.1.1, v.2.2.1.2.1, v.2.2.1.2.2.1, v.2.2.1.2.2.2.1, v.2.2.1.2.2.2.2.1, v.2.2.1.2.2.2.2.2.1⟩ : Inode).parent), .sl .entry ((⟨v.2.2.1.1, v.2.2.1.2.1, v.2.2.1.2.2.1, v.2.2.1.2.2.2.1, v.2.2.1.2.2.2.2.1, v.2.2.1.2.2.2.2.2.1⟩ : Inode).entries)]), (2, .cells [.int .i64 ((⟨v.2.2.2.1.1, v.2.2.2.1.2.1, v.2.2.2.1.2.2.1, v.2.2.2.1.2.2.2.1⟩ : Fs).maxInodes), .int .i64 ((⟨v.2.2.2.1.1, v.2.2.2.1.2.1, v.2.2.2.1.2.2.1, v.2.2.2.1.2.2.2.1⟩ : Fs).maxBytes), .int .i64 ((⟨v.2.2.2.1.1, v.2.2.2.1.2.1, v.2.2.2.1.2.2.1, v.2.2.2.1.2.2.2.1⟩ : Fs).next), .sl .inode ((⟨v.2.2.2.1.1, v.2.2.2.1.2.1, v.2.2.2.1.2.2.1, v.2.2.2.1.2.2.2.1⟩ : Fs).inodes)]), (3, .row .inode y17)], nx := 4 }) q v.1.2.2.2.2.2.1 v.1.2.2.2.2.2.2.1 v.2.2.2.2.1
noncomputable def qagz : List HV := [.agg [.int .i64, .int .i64, .int .i64, .sl .inode], .agg [.int .i64, .int .i64, .int .i64, .str, .int .i64, .sl .entry]]
noncomputable def qag0 : List HV := [.agg [.int .i64, .int .i64, .int .i64, .sl .inode]]
noncomputable def qag1 : HP.V qagz → Fs × Inode := fun v => ((⟨v.1.1, v.1.2.1, v.1.2.2.1, v.1.2.2.2.1⟩ : Fs), (⟨v.2.1.1, v.2.1.2.1, v.2.1.2.2.1, v.2.1.2.2.2.1, v.2.1.2.2.2.2.1, v.2.1.2.2.2.2.2.1⟩ : Inode))
noncomputable def qag2 : HX.V qag0 → Fs := fun v => ((⟨v.1, v.2.1, v.2.2.1, v.2.2.2.1⟩ : Fs))
noncomputable def qag3 : Fs → HX.V qag0 := fun y => ((y.maxInodes, (y.maxBytes, (y.next, (y.inodes, ())))))
noncomputable def qag4 : (Fs × Inode) → Option (Fs) := fun x => ref05_Set x.1 x.2
noncomputable def qag5 : Spec := mkSpec qagz qag0 qag1 qag3 qag4
noncomputable def qag6 {R : Type} : List (Nat × Hd R) := [(5, hdOf qagx qagy)]
noncomputable def qag7 {R : Type} : List (Nat × Inl R) := []
noncomputable def qag8 : Cfg := { T := qafk, spec := [(84, qagm)], glob := GlobL.G Tryz.prog, eqs := qafl, N := 52, fuel := 64, loops := [(5, ⟨[2, 3, 4, 5, 6, 7, 8], [(6, 3, .inode)], [0, 1, 2, 3], 4, [], [2], [], []⟩)], joins := [], blocks := [(0, ⟨[2, 3, 4, 6, 7], [], [0, 1, 2, 3], 4, [], [], [], []⟩)], ovl := [], retA := none, fid := 54, rnd := false, saves := [] }
theorem qag9 : CfgOK Tryz.prog qag8 := ⟨tsOK_of qafn, specsL_ok (show SpecsL Tryz.prog qag8.spec from ⟨qagw, trivial⟩), qafo, ovlL_ok (trivial), globsOK_of rfl, freshL_ok (show FreshL Tryz.prog qag8.fresh from trivial), specsL_ok (show SpecsL Tryz.prog qag8.gns from trivial)⟩
theorem qaha {R : Type} : SubsOK Tryz.prog (R := R) 0 qag7 := subsOK_nil _ _
theorem qahb {R : Type} : LoopOK (R := R) (hnd 0 qag7) qag8 qag6 (sub [1, 1, 1, 1, 0, 1, 0, 0] qafu) (HS.V qagx) (HS.st qagx) (HS.sh qagx) qagy (hdOf qagx qagy) := loopOK_of qagx qagy (fun _ _ => rfl) (by intro q v K; kernel_rfl)
theorem qahc {R : Type} : LoopsOK (R := R) (hnd 0 qag7) qag8 qag6 qafu := loopsOK_of (l := [sub [1, 1, 1, 1, 0, 1, 0, 0] qafu]) (by kernel_rfl) (loopsL_cons (b := sub [1, 1, 1, 1, 0, 1, 0, 0] qafu) (rid := 5) (by kernel_rfl) (by kernel_rfl) qahb (trivial))
theorem qahd : RngsOK Tryz.prog qag8 qafu := rngs0 (by kernel_rfl)
theorem qahe : ∀ v, runFn (hnd 0 qag7) qag8 qag6 qafu Tryz.f54.results.toList (HP.st qagz v) (decOf qag0 qag2) = qag4 (qag1 v) := by intro v; kernel_rfl
theorem qahf : SpecOK Tryz.prog 54 qag5 := specOK_mk (fn := Tryz.f54) (by kernel_rfl) (by kernel_rfl) (by kernel_rfl) qag9 (by kernel_rfl) (by kernel_rfl) qafm (by kernel_rfl) (fun _ => rfl) (d := 0) qaha qahc qahd qahe
noncomputable def qahg : HS := ⟨[(1, .one (.int .i64)), (2, .one (.ptr 0 0)), (4, .one (.ptr 1 0)), (6, .one (.int .i64))], [(0, .cells [.int .i64, .int .i64, .int .i64, .sl .inode]), (1, .cells [.int .i64, .int .i64, .int .i64, .str, .int .i64, .sl .entry])], 2⟩
noncomputable def qahh {R : Type} : Nat → HS.V qahg → (Ex → St → Option R) → Option R := fun q v K =>
  ref05_Get_L2 v.1.1 (⟨v.2.1.1, v.2.1.2.1, v.2.1.2.2.1, v.2.1.2.2.2.1⟩ : Fs) (fun y8 => K .ret { regs := [(4, .v (.one (.ptr 1 0))), (5, .v (.one (.bool true)))], mem := [(1, .cells [.int .i64 y8.ino, .int .i64 y8.kind, .int .i64 y8.links, .str y8.data, .int .i64 y8.parent, .sl .entry y8.entries])], nx := 2 }) (K (.exit 0) { regs := [(4, .v (.one (.ptr 1 0)))], mem := [(1, .cells [.int .i64 ((⟨v.2.2.1.1, v.2.2.1.2.1, v.2.2.1.2.2.1, v.2.2.1.2.2.2.1, v.2.2.1.2.2.2.2.1, v.2.2.1.2.2.2.2.2.1⟩ : Inode).ino), .int .i64 ((⟨v.2.2.1.1, v.2.2.1.2.1, v.2.2.1.2.2.1, v.2.2.1.2.2.2.1, v.2.2.1.2.2.2.2.1, v.2.2.1.2.2.2.2.2.1⟩ : Inode).kind), .int .i64 ((⟨v.2.2.1.1, v.2.2.1.2.1, v.2.2.1.2.2.1, v.2.2.1.2.2.2.1, v.2.2.1.2.2.2.2.1, v.2.2.1.2.2.2.2.2.1⟩ : Inode).links), .str ((⟨v.2.2.1.1, v.2.2.1.2.1, v.2.2.1.2.2.1, v.2.2.1.2.2.2.1, v.2.2.1.2.2.2.2.1, v.2.2.1.2.2.2.2.2.1⟩ : Inode).data), .int .i64 ((⟨v.2.2.1.1, v.2.2.1.2.1, v.2.2.1.2.2.1, v.2.2.1.2.2.2.1, v.2.2.1.2.2.2.2.1, v.2.2.1.2.2.2.2.2.1⟩ : Inode).parent), .sl .entry ((⟨v.2.2.1.1, v.2.2.1.2.1, v.2.2.1.2.2.1, v.2.2.1.2.2.2.1, v.2.2.1.2.2.2.2.1, v.2.2.1.2.2.2.2.2.1⟩ : Inode).entries)])], nx := 2 }) q v.1.2.2.2.1
noncomputable def qahi : List HV := [.agg [.int .i64, .int .i64, .int .i64, .sl .inode], .one (.int .i64)]
noncomputable def qahj : List HV := [.agg [.int .i64, .int .i64, .int .i64, .str, .int .i64, .sl .entry], .one (.bool)]
noncomputable def qahk : HP.V qahi → Fs × Int := fun v => ((⟨v.1.1, v.1.2.1, v.1.2.2.1, v.1.2.2.2.1⟩ : Fs), v.2.1)
noncomputable def qahl : HX.V qahj → Inode × Bool := fun v => ((⟨v.1.1, v.1.2.1, v.1.2.2.1, v.1.2.2.2.1, v.1.2.2.2.2.1, v.1.2.2.2.2.2.1⟩ : Inode), v.2)
noncomputable def qahm : (Inode × Bool) → HX.V qahj := fun y => ((y.1.ino, (y.1.kind, (y.1.links, (y.1.data, (y.1.parent, (y.1.entries, ())))))), y.2)
noncomputable def qahn : (Fs × Int) → Option (Inode × Bool) := fun x => ref05_Get x.1 x.2
noncomputable def qaho : Spec := mkSpec qahi qahj qahk qahm qahn
noncomputable def qahp {R : Type} : List (Nat × Hd R) := [(2, hdOf qahg qahh)]
noncomputable def qahq {R : Type} : List (Nat × Inl R) := []
noncomputable def qahr : Cfg := { T := qafk, spec := [], glob := GlobL.G Tryz.prog, eqs := qafl, N := 28, fuel := 64, loops := [(2, ⟨[1, 2, 4, 6], [], [0, 1], 2, [], [1], [], []⟩)], joins := [], blocks := [(0, ⟨[4], [], [1], 2, [], [], [], []⟩)], ovl := [], retA := some ⟨[4, 5], [], [1], 2, [], [1], [], []⟩, fid := 29, rnd := false, saves := [] }
theorem qahs : CfgOK Tryz.prog qahr := ⟨tsOK_of qafn, specsL_ok (show SpecsL Tryz.prog qahr.spec from trivial), qafo, ovlL_ok (trivial), globsOK_of rfl, freshL_ok (show FreshL Tryz.prog qahr.fresh from trivial), specsL_ok (show SpecsL Tryz.prog qahr.gns from trivial)⟩
theorem qaht {R : Type} : SubsOK Tryz.prog (R := R) 0 qahq := subsOK_nil _ _
theorem qahu {R : Type} : LoopOK (R := R) (hnd 0 qahq) qahr qahp (sub [1, 0, 1, 0, 0] qafr) (HS.V qahg) (HS.st qahg) (HS.sh qahg) qahh (hdOf qahg qahh) := loopOK_of qahg qahh (fun _ _ => rfl) (by intro q v K; kernel_rfl)
theorem qahv {R : Type} : LoopsOK (R := R) (hnd 0 qahq) qahr qahp qafr := loopsOK_of (l := [sub [1, 0, 1, 0, 0] qafr]) (by kernel_rfl) (loopsL_cons (b := sub [1, 0, 1, 0, 0] qafr) (rid := 2) (by kernel_rfl) (by kernel_rfl) qahu (trivial))
theorem qahw : RngsOK Tryz.prog qahr qafr := rngs0 (by kernel_rfl)
theorem qahx : ∀ v, runFn (hnd 0 qahq) qahr qahp qafr Tryz.f29.results.toList (HP.st qahi v) (decOf qahj qahl) = qahn (qahk v) := by intro v; kernel_rfl
theorem qahy : SpecOK Tryz.prog 29 qaho := specOK_mk (fn := Tryz.f29) (by kernel_rfl) (by kernel_rfl) (by kernel_rfl) qahs (by kernel_rfl) (by kernel_rfl) qafm (by kernel_rfl) (fun _ => rfl) (d := 0) qaht qahv qahw qahx
noncomputable def qahz : HS := ⟨[(1, .one (.ptr 0 0)), (3, .one (.int .i64))], [(0, .cells [.int .i64, .int .i64, .int .i64, .sl .inode])], 1⟩
noncomputable def qah0 {R : Type} : Nat → HS.V qahz → (Ex → St → Option R) → Option R := fun q v K =>
  ref05_Rise_L2 (⟨v.2.1.1, v.2.1.2.1, v.2.1.2.2.1, v.2.1.2.2.2.1⟩ : Fs) (K .ret { regs := [(2, .v (.one (.bool false)))], mem := [], nx := 0 }) (K (.exit 0) { regs := [], mem := [], nx := 0 }) q v.1.2.1
noncomputable def qah1 : List HV := [.agg [.int .i64, .int .i64, .int .i64, .sl .inode]]
noncomputable def qah2 : List HV := [.one (.bool)]
noncomputable def qah3 : HP.V qah1 → Fs := fun v => ((⟨v.1.1, v.1.2.1, v.1.2.2.1, v.1.2.2.2.1⟩ : Fs))
noncomputable def qah4 : HX.V qah2 → Bool := fun v => (v)
noncomputable def qah5 : Bool → HX.V qah2 := fun y => (y)
noncomputable def qah6 : Fs → Option (Bool) := fun x => ref05_Rise x
noncomputable def qah7 : Spec := mkSpec qah1 qah2 qah3 qah5 qah6
noncomputable def qah8 {R : Type} : List (Nat × Hd R) := [(2, hdOf qahz qah0)]
noncomputable def qah9 {R : Type} : List (Nat × Inl R) := []
noncomputable def qaia : Cfg := { T := qafk, spec := [], glob := GlobL.G Tryz.prog, eqs := qafl, N := 25, fuel := 64, loops := [(2, ⟨[1, 3], [], [0], 1, [], [], [], []⟩)], joins := [], blocks := [(0, ⟨[], [], [], 0, [], [], [], []⟩)], ovl := [], retA := some ⟨[2], [], [], 0, [], [], [], []⟩, fid := 104, rnd := false, saves := [] }
theorem qaib : CfgOK Tryz.prog qaia := ⟨tsOK_of qafn, specsL_ok (show SpecsL Tryz.prog qaia.spec from trivial), qafo, ovlL_ok (trivial), globsOK_of rfl, freshL_ok (show FreshL Tryz.prog qaia.fresh from trivial), specsL_ok (show SpecsL Tryz.prog qaia.gns from trivial)⟩
theorem qaic {R : Type} : SubsOK Tryz.prog (R := R) 0 qah9 := subsOK_nil _ _
theorem qaid {R : Type} : LoopOK (R := R) (hnd 0 qah9) qaia qah8 (sub [1, 0, 1, 0, 0] qafx) (HS.V qahz) (HS.st qahz) (HS.sh qahz) qah0 (hdOf qahz qah0) := loopOK_of qahz qah0 (fun _ _ => rfl) (by intro q v K; kernel_rfl)
theorem qaie {R : Type} : LoopsOK (R := R) (hnd 0 qah9) qaia qah8 qafx := loopsOK_of (l := [sub [1, 0, 1, 0, 0] qafx]) (by kernel_rfl) (loopsL_cons (b := sub [1, 0, 1, 0, 0] qafx) (rid := 2) (by kernel_rfl) (by kernel_rfl) qaid (trivial))
theorem qaif : RngsOK Tryz.prog qaia qafx := rngs0 (by kernel_rfl)
theorem qaig : ∀ v, runFn (hnd 0 qah9) qaia qah8 qafx Tryz.f104.results.toList (HP.st qah1 v) (decOf qah2 qah4) = qah6 (qah3 v) := by intro v; kernel_rfl
theorem qaih : SpecOK Tryz.prog 104 qah7 := specOK_mk (fn := Tryz.f104) (by kernel_rfl) (by kernel_rfl) (by kernel_rfl) qaib (by kernel_rfl) (by kernel_rfl) qafm (by kernel_rfl) (fun _ => rfl) (d := 0) qaic qaie qaif qaig
noncomputable def qaii : HS := ⟨[(1, .one (.ptr 0 0)), (3, .one (.int .i64)), (4, .one (.ptr 1 0)), (5, .one (.int .i64))], [(0, .cells [.int .i64, .int .i64, .int .i64, .sl .inode]), (1, .cells [.int .i64, .int .i64, .int .i64, .str, .int .i64, .sl .entry])], 2⟩
noncomputable def qaij {R : Type} : Nat → HS.V qaii → (Ex → St → Option R) → Option R := fun q v K =>
  ref05_Few_L8 (⟨v.2.2.1.1, v.2.2.1.2.1, v.2.2.1.2.2.1, v.2.2.1.2.2.2.1, v.2.2.1.2.2.2.2.1, v.2.2.1.2.2.2.2.2.1⟩ : Inode) (K .ret { regs := [(2, .v (.one (.bool false)))], mem := [], nx := 0 }) (K (.exit 2) { regs := [(1, .v (.one (.ptr 0 0))), (3, .v (.one (.int .i64 v.1.2.1)))], mem := [(0, .cells [.int .i64 ((⟨v.2.1.1, v.2.1.2.1, v.2.1.2.2.1, v.2.1.2.2.2.1⟩ : Fs).maxInodes), .int .i64 ((⟨v.2.1.1, v.2.1.2.1, v.2.1.2.2.1, v.2.1.2.2.2.1⟩ : Fs).maxBytes), .int .i64 ((⟨v.2.1.1, v.2.1.2.1, v.2.1.2.2.1, v.2.1.2.2.2.1⟩ : Fs).next), .sl .inode ((⟨v.2.1.1, v.2.1.2.1, v.2.1.2.2.1, v.2.1.2.2.2.1⟩ : Fs).inodes)])], nx := 1 }) q v.1.2.2.2.1
noncomputable def qaik : HS := ⟨[(1, .one (.ptr 0 0)), (3, .one (.int .i64))], [(0, .cells [.int .i64, .int .i64, .int .i64, .sl .inode])], 1⟩
noncomputable def qail {R : Type} : Nat → HS.V qaik → (Ex → St → Option R) → Option R := fun q v K =>
  ref05_Few_L2 (⟨v.2.1.1, v.2.1.2.1, v.2.1.2.2.1, v.2.1.2.2.2.1⟩ : Fs) (K .ret { regs := [(2, .v (.one (.bool false)))], mem := [], nx := 0 }) (K (.exit 0) { regs := [(1, .v (.one (.ptr 0 0)))], mem := [(0, .cells [.int .i64 ((⟨v.2.1.1, v.2.1.2.1, v.2.1.2.2.1, v.2.1.2.2.2.1⟩ : Fs).maxInodes), .int .i64 ((⟨v.2.1.1, v.2.1.2.1, v.2.1.2.2.1, v.2.1.2.2.2.1⟩ : Fs).maxBytes), .int .i64 ((⟨v.2.1.1, v.2.1.2.1, v.2.1.2.2.1, v.2.1.2.2.2.1⟩ : Fs).next), .sl .inode ((⟨v.2.1.1, v.2.1.2.1, v.2.1.2.2.1, v.2.1.2.2.2.1⟩ : Fs).inodes)])], nx := 1 }) q v.1.2.1
noncomputable def qaim : List HV := [.agg [.int .i64, .int .i64, .int .i64, .sl .inode]]
noncomputable def qain : List HV := [.one (.bool)]
noncomputable def qaio : HP.V qaim → Fs := fun v => ((⟨v.1.1, v.1.2.1, v.1.2.2.1, v.1.2.2.2.1⟩ : Fs))
noncomputable def qaip : HX.V qain → Bool := fun v => (v)
noncomputable def qaiq : Bool → HX.V qain := fun y => (y)
noncomputable def qair : Fs → Option (Bool) := fun x => ref05_Few x
noncomputable def qais : Spec := mkSpec qaim qain qaio qaiq qair
noncomputable def qait {R : Type} : List (Nat × Hd R) := [(2, hdOf qaik qail), (8, hdOf qaii qaij)]
noncomputable def qaiu {R : Type} : List (Nat × Inl R) := []
noncomputable def qaiv : Cfg := { T := qafk, spec := [], glob := GlobL.G Tryz.prog, eqs := qafl, N := 51, fuel := 64, loops := [(8, ⟨[1, 3, 4, 5], [], [0, 1], 2, [], [], [], []⟩), (2, ⟨[1, 3], [], [0], 1, [], [], [], []⟩)], joins := [], blocks := [(0, ⟨[1], [], [0], 1, [], [], [], []⟩), (1, ⟨[1, 3], [], [0], 1, [], [], [], []⟩), (2, ⟨[1, 3], [], [0], 1, [], [], [], []⟩)], ovl := [], retA := some ⟨[2], [], [], 0, [], [], [], []⟩, fid := 48, rnd := false, saves := [] }
theorem qaiw : CfgOK Tryz.prog qaiv := ⟨tsOK_of qafn, specsL_ok (show SpecsL Tryz.prog qaiv.spec from trivial), qafo, ovlL_ok (trivial), globsOK_of rfl, freshL_ok (show FreshL Tryz.prog qaiv.fresh from trivial), specsL_ok (show SpecsL Tryz.prog qaiv.gns from trivial)⟩
theorem qaix {R : Type} : SubsOK Tryz.prog (R := R) 0 qaiu := subsOK_nil _ _
theorem qaiy {R : Type} : LoopOK (R := R) (hnd 0 qaiu) qaiv qait (sub [1, 0, 1, 0, 0] qafs) (HS.V qaik) (HS.st qaik) (HS.sh qaik) qail (hdOf qaik qail) := loopOK_of qaik qail (fun _ _ => rfl) (by intro q v K; kernel_rfl)
theorem qaiz {R : Type} : LoopOK (R := R) (hnd 0 qaiu) qaiv qait (sub [1, 0, 1, 0, 0, 1, 0, 0, 1, 1, 1, 0, 0] qafs) (HS.V qaii) (HS.st qaii) (HS.sh qaii) qaij (hdOf qaii qaij) := loopOK_of qaii qaij (fun _ _ => rfl) (by intro q v K; kernel_rfl)
theorem qai0 {R : Type} : LoopsOK (R := R) (hnd 0 qaiu) qaiv qait qafs := loopsOK_of (l := [sub [1, 0, 1, 0, 0] qafs, sub [1, 0, 1, 0, 0, 1, 0, 0, 1, 1, 1, 0, 0] qafs]) (by kernel_rfl) (loopsL_cons (b := sub [1, 0, 1, 0, 0] qafs) (rid := 2) (by kernel_rfl) (by kernel_rfl) qaiy (loopsL_cons (b := sub [1, 0, 1, 0, 0, 1, 0, 0, 1, 1, 1, 0, 0] qafs) (rid := 8) (by kernel_rfl) (by kernel_rfl) qaiz (trivial)))
theorem qai1 : RngsOK Tryz.prog qaiv qafs := rngs0 (by kernel_rfl)
theorem qai2 : ∀ v, runFn (hnd 0 qaiu) qaiv qait qafs Tryz.f48.results.toList (HP.st qaim v) (decOf qain qaip) = qair (qaio v) := by intro v; kernel_rfl
theorem qai3 : SpecOK Tryz.prog 48 qais := specOK_mk (fn := Tryz.f48) (by kernel_rfl) (by kernel_rfl) (by kernel_rfl) qaiw (by kernel_rfl) (by kernel_rfl) qafm (by kernel_rfl) (fun _ => rfl) (d := 0) qaix qai0 qai1 qai2
noncomputable def qai4 : List HV := [.agg [.int .i64, .int .i64, .int .i64, .str, .int .i64, .sl .entry], .agg [.int .i64, .int .i64, .int .i64, .str, .int .i64, .sl .entry]]
noncomputable def qai5 : List HV := [.one (.bool)]
noncomputable def qai6 : HP.V qai4 → Inode × Inode := fun v => ((⟨v.1.1, v.1.2.1, v.1.2.2.1, v.1.2.2.2.1, v.1.2.2.2.2.1, v.1.2.2.2.2.2.1⟩ : Inode), (⟨v.2.1.1, v.2.1.2.1, v.2.1.2.2.1, v.2.1.2.2.2.1, v.2.1.2.2.2.2.1, v.2.1.2.2.2.2.2.1⟩ : Inode))
noncomputable def qai7 : HX.V qai5 → Bool := fun v => (v)
noncomputable def qai8 : Bool → HX.V qai5 := fun y => (y)
noncomputable def qai9 : (Inode × Inode) → Option (Bool) := fun x => ref05_One x.1 x.2
noncomputable def qaja : Spec := mkSpec qai4 qai5 qai6 qai8 qai9
noncomputable def qajb {R : Type} : List (Nat × Hd R) := []
noncomputable def qajc {R : Type} : List (Nat × Inl R) := []
noncomputable def qajd : Cfg := { T := qafk, spec := [(58, qad7)], glob := GlobL.G Tryz.prog, eqs := qafl, N := 45, fuel := 64, loops := [], joins := [], blocks := [], ovl := [], retA := none, fid := 23, rnd := false, saves := [] }
theorem qaje : CfgOK Tryz.prog qajd := ⟨tsOK_of qafn, specsL_ok (show SpecsL Tryz.prog qajd.spec from ⟨qaeh, trivial⟩), qafo, ovlL_ok (trivial), globsOK_of rfl, freshL_ok (show FreshL Tryz.prog qajd.fresh from trivial), specsL_ok (show SpecsL Tryz.prog qajd.gns from trivial)⟩
theorem qajf {R : Type} : SubsOK Tryz.prog (R := R) 0 qajc := subsOK_nil _ _
theorem qajg {R : Type} : LoopsOK (R := R) (hnd 0 qajc) qajd qajb qafp := loopsOK_of (l := []) (by kernel_rfl) (trivial)
theorem qajh : RngsOK Tryz.prog qajd qafp := rngs0 (by kernel_rfl)
theorem qaji : ∀ v, runFn (hnd 0 qajc) qajd qajb qafp Tryz.f23.results.toList (HP.st qai4 v) (decOf qai5 qai7) = qai9 (qai6 v) := by intro v; kernel_rfl
theorem qajj : SpecOK Tryz.prog 23 qaja := specOK_mk (fn := Tryz.f23) (by kernel_rfl) (by kernel_rfl) (by kernel_rfl) qaje (by kernel_rfl) (by kernel_rfl) qafm (by kernel_rfl) (fun _ => rfl) (d := 0) qajf qajg qajh qaji
noncomputable def qajk : HS := ⟨[(0, .one (.sl .inode)), (1, .one (.sl .inode)), (5, .one (.int .i64))], [], 0⟩
noncomputable def qajl {R : Type} : Nat → HS.V qajk → (Ex → St → Option R) → Option R := fun q v K =>
  ref05_Ones_L4 v.1.1 v.1.2.1 (K .ret { regs := [(4, .v (.one (.bool false)))], mem := [], nx := 0 }) (K (.exit 0) { regs := [], mem := [], nx := 0 }) q v.1.2.2.1
noncomputable def qajm : List HV := [.one (.sl .inode), .one (.sl .inode)]
noncomputable def qajn : List HV := [.one (.bool)]
noncomputable def qajo : HP.V qajm → (List Inode) × (List Inode) := fun v => (v.1, v.2.1)
noncomputable def qajp : HX.V qajn → Bool := fun v => (v)
noncomputable def qajq : Bool → HX.V qajn := fun y => (y)
noncomputable def qajr : (List Inode) × (List Inode) → Option (Bool) := fun x => ref05_Ones x.1 x.2
noncomputable def qajs : Spec := mkSpec qajm qajn qajo qajq qajr
noncomputable def qajt {R : Type} : List (Nat × Hd R) := [(4, hdOf qajk qajl)]
noncomputable def qaju {R : Type} : List (Nat × Inl R) := []
noncomputable def qajv : Cfg := { T := qafk, spec := [(23, qaja)], glob := GlobL.G Tryz.prog, eqs := qafl, N := 27, fuel := 64, loops := [(4, ⟨[0, 1, 5], [], [], 0, [], [], [], []⟩)], joins := [], blocks := [(0, ⟨[], [], [], 0, [], [], [], []⟩)], ovl := [], retA := some ⟨[4], [], [], 0, [], [], [], []⟩, fid := 59, rnd := false, saves := [] }
theorem qajw : CfgOK Tryz.prog qajv := ⟨tsOK_of qafn, specsL_ok (show SpecsL Tryz.prog qajv.spec from ⟨qajj, trivial⟩), qafo, ovlL_ok (trivial), globsOK_of rfl, freshL_ok (show FreshL Tryz.prog qajv.fresh from trivial), specsL_ok (show SpecsL Tryz.prog qajv.gns from trivial)⟩
theorem qajx {R : Type} : SubsOK Tryz.prog (R := R) 0 qaju := subsOK_nil _ _
theorem qajy {R : Type} : LoopOK (R := R) (hnd 0 qaju) qajv qajt (sub [1, 1, 0, 1, 0, 0] qafv) (HS.V qajk) (HS.st qajk) (HS.sh qajk) qajl (hdOf qajk qajl) := loopOK_of qajk qajl (fun _ _ => rfl) (by intro q v K; kernel_rfl)
theorem qajz {R : Type} : LoopsOK (R := R) (hnd 0 qaju) qajv qajt qafv := loopsOK_of (l := [sub [1, 1, 0, 1, 0, 0] qafv]) (by kernel_rfl) (loopsL_cons (b := sub [1, 1, 0, 1, 0, 0] qafv) (rid := 4) (by kernel_rfl) (by kernel_rfl) qajy (trivial))
theorem qaj0 : RngsOK Tryz.prog qajv qafv := rngs0 (by kernel_rfl)
theorem qaj1 : ∀ v, runFn (hnd 0 qaju) qajv qajt qafv Tryz.f59.results.toList (HP.st qajm v) (decOf qajn qajp) = qajr (qajo v) := by intro v; kernel_rfl
theorem qaj2 : SpecOK Tryz.prog 59 qajs := specOK_mk (fn := Tryz.f59) (by kernel_rfl) (by kernel_rfl) (by kernel_rfl) qajw (by kernel_rfl) (by kernel_rfl) qafm (by kernel_rfl) (fun _ => rfl) (d := 0) qajx qajz qaj0 qaj1
noncomputable def qaj3 : List HV := [.agg [.int .i64, .int .i64, .int .i64, .sl .inode], .agg [.int .i64, .int .i64, .int .i64, .sl .inode]]
noncomputable def qaj4 : List HV := [.one (.bool)]
noncomputable def qaj5 : HP.V qaj3 → Fs × Fs := fun v => ((⟨v.1.1, v.1.2.1, v.1.2.2.1, v.1.2.2.2.1⟩ : Fs), (⟨v.2.1.1, v.2.1.2.1, v.2.1.2.2.1, v.2.1.2.2.2.1⟩ : Fs))
noncomputable def qaj6 : HX.V qaj4 → Bool := fun v => (v)
noncomputable def qaj7 : Bool → HX.V qaj4 := fun y => (y)
noncomputable def qaj8 : (Fs × Fs) → Option (Bool) := fun x => ref05_Same x.1 x.2
noncomputable def qaj9 : Spec := mkSpec qaj3 qaj4 qaj5 qaj7 qaj8
noncomputable def qaka {R : Type} : List (Nat × Hd R) := []
noncomputable def qakb {R : Type} : List (Nat × Inl R) := []
noncomputable def qakc : Cfg := { T := qafk, spec := [(59, qajs)], glob := GlobL.G Tryz.prog, eqs := qafl, N := 31, fuel := 64, loops := [], joins := [], blocks := [], ovl := [], retA := none, fid := 24, rnd := false, saves := [] }
theorem qakd : CfgOK Tryz.prog qakc := ⟨tsOK_of qafn, specsL_ok (show SpecsL Tryz.prog qakc.spec from ⟨qaj2, trivial⟩), qafo, ovlL_ok (trivial), globsOK_of rfl, freshL_ok (show FreshL Tryz.prog qakc.fresh from trivial), specsL_ok (show SpecsL Tryz.prog qakc.gns from trivial)⟩
theorem qake {R : Type} : SubsOK Tryz.prog (R := R) 0 qakb := subsOK_nil _ _
theorem qakf {R : Type} : LoopsOK (R := R) (hnd 0 qakb) qakc qaka qafq := loopsOK_of (l := []) (by kernel_rfl) (trivial)
theorem qakg : RngsOK Tryz.prog qakc qafq := rngs0 (by kernel_rfl)
theorem qakh : ∀ v, runFn (hnd 0 qakb) qakc qaka qafq Tryz.f24.results.toList (HP.st qaj3 v) (decOf qaj4 qaj6) = qaj8 (qaj5 v) := by intro v; kernel_rfl
theorem qaki : SpecOK Tryz.prog 24 qaj9 := specOK_mk (fn := Tryz.f24) (by kernel_rfl) (by kernel_rfl) (by kernel_rfl) qakd (by kernel_rfl) (by kernel_rfl) qafm (by kernel_rfl) (fun _ => rfl) (d := 0) qake qakf qakg qakh
end Go.Eng
set_option linter.unusedVariables false
set_option maxRecDepth 100000
namespace Go.Eng
open Go Go.Proofs
noncomputable def qakj : List (Nat × TI) := [(3, ⟨false, 1, .one (.int .i64 0), .int .i64⟩), (9, ⟨false, 1, .one (.str []), .str⟩), (22, ⟨false, 1, .one (.clip .inode []), .slice .inode 34⟩), (24, ⟨true, 4, .agg [.int .i64 0, .int .i64 0, .int .i64 0, .clip .inode []], .struct [(0, 3), (1, 3), (2, 3), (3, 22)]⟩), (34, ⟨true, 6, .agg [.int .i64 0, .int .i64 0, .int .i64 0, .str [], .int .i64 0, .clip .entry []], .struct [(0, 3), (1, 3), (2, 3), (3, 9), (4, 3), (5, 32)]⟩)]
noncomputable def qakk : List (Nat × List EK) := []
theorem qakl : Tryz.prog.follows .mixedOrders = true := by kernel_rfl
theorem qakm : (qakj.all fun x => tiB Tryz.prog x.1 x.2) = true := by kernel_rfl
theorem qakn {c : Cfg} (h : c.eqs = qakk := by rfl) : EqsOK Tryz.prog c := eqsOK_of (by rw [h]; kernel_rfl)
noncomputable def qako : Code := match Tryz.f71.body with | some b => b | none => .skip
noncomputable def qakp : Code := match Tryz.f103.body with | some b => b | none => .skip
noncomputable def qakq : HS := ⟨[(1, .one (.ptr 0 0)), (3, .one (.int .i64)), (4, .one (.int .i64))], [(0, .cells [.int .i64, .int .i64, .int .i64, .sl .inode])], 1⟩
noncomputable def qakr {R : Type} : Nat → HS.V qakq → (Ex → St → Option R) → Option R := fun q v K =>
  ref06_Bytes_L3 (⟨v.2.1.1, v.2.1.2.1, v.2.1.2.2.1, v.2.1.2.2.2.1⟩ : Fs) (fun y6 => K (.exit 0) { regs := [(3, .v (.one (.int .i64 y6)))], mem := [], nx := 0 }) q v.1.2.1 v.1.2.2.1
noncomputable def qaks : List HV := [.agg [.int .i64, .int .i64, .int .i64, .sl .inode]]
noncomputable def qakt : List HV := [.one (.int .i64)]
noncomputable def qaku : HP.V qaks → Fs := fun v => ((⟨v.1.1, v.1.2.1, v.1.2.2.1, v.1.2.2.2.1⟩ : Fs))
noncomputable def qakv : HX.V qakt → Int := fun v => (v)
noncomputable def qakw : Int → HX.V qakt := fun y => (y)
noncomputable def qakx : Fs → Option (Int) := fun x => ref06_Bytes x
noncomputable def qaky : Spec := mkSpec qaks qakt qaku qakw qakx
noncomputable def qakz {R : Type} : List (Nat × Hd R) := [(3, hdOf qakq qakr)]
noncomputable def qak0 {R : Type} : List (Nat × Inl R) := []
noncomputable def qak1 : Cfg := { T := qakj, spec := [], glob := GlobL.G Tryz.prog, eqs := qakk, N := 29, fuel := 64, loops := [(3, ⟨[1, 3, 4], [], [0], 1, [], [], [], []⟩)], joins := [], blocks := [(0, ⟨[3], [], [], 0, [], [], [], []⟩)], ovl := [], retA := none, fid := 103, rnd := false, saves := [] }
theorem qak2 : CfgOK Tryz.prog qak1 := ⟨tsOK_of qakm, specsL_ok (show SpecsL Tryz.prog qak1.spec from trivial), qakn, ovlL_ok (trivial), globsOK_of rfl, freshL_ok (show FreshL Tryz.prog qak1.fresh from trivial), specsL_ok (show SpecsL Tryz.prog qak1.gns from trivial)⟩
theorem qak3 {R : Type} : SubsOK Tryz.prog (R := R) 0 qak0 := subsOK_nil _ _
theorem qak4 {R : Type} : LoopOK (R := R) (hnd 0 qak0) qak1 qakz (sub [1, 1, 0, 1, 0, 0] qakp) (HS.V qakq) (HS.st qakq) (HS.sh qakq) qakr (hdOf qakq qakr) := loopOK_of qakq qakr (fun _ _ => rfl) (by intro q v K; kernel_rfl)
theorem qak5 {R : Type} : LoopsOK (R := R) (hnd 0 qak0) qak1 qakz qakp := loopsOK_of (l := [sub [1, 1, 0, 1, 0, 0] qakp]) (by kernel_rfl) (loopsL_cons (b := sub [1, 1, 0, 1, 0, 0] qakp) (rid := 3) (by kernel_rfl) (by kernel_rfl) qak4 (trivial))
theorem qak6 : RngsOK Tryz.prog qak1 qakp := rngs0 (by kernel_rfl)
theorem qak7 : ∀ v, runFn (hnd 0 qak0) qak1 qakz qakp Tryz.f103.results.toList (HP.st qaks v) (decOf qakt qakv) = qakx (qaku v) := by intro v; kernel_rfl
theorem qak8 : SpecOK Tryz.prog 103 qaky := specOK_mk (fn := Tryz.f103) (by kernel_rfl) (by kernel_rfl) (by kernel_rfl) qak2 (by kernel_rfl) (by kernel_rfl) qakl (by kernel_rfl) (fun _ => rfl) (d := 0) qak3 qak5 qak6 qak7
noncomputable def qak9 : List HV := [.agg [.int .i64, .int .i64, .int .i64, .sl .inode], .one (.int .i64), .one (.int .i64)]
noncomputable def qala : List HV := [.one (.bool)]
noncomputable def qalb : HP.V qak9 → Fs × Int × Int := fun v => ((⟨v.1.1, v.1.2.1, v.1.2.2.1, v.1.2.2.2.1⟩ : Fs), v.2.1, v.2.2.1)
noncomputable def qalc : HX.V qala → Bool := fun v => (v)
noncomputable def qald : Bool → HX.V qala := fun y => (y)
noncomputable def qale : (Fs × Int × Int) → Option (Bool) := fun x => ref06_Fits x.1 x.2.1 x.2.2
noncomputable def qalf : Spec := mkSpec qak9 qala qalb qald qale
noncomputable def qalg {R : Type} : List (Nat × Hd R) := []
noncomputable def qalh {R : Type} : List (Nat × Inl R) := []
noncomputable def qali : Cfg := { T := qakj, spec := [(103, qaky)], glob := GlobL.G Tryz.prog, eqs := qakk, N := 22, fuel := 64, loops := [], joins := [], blocks := [], ovl := [], retA := none, fid := 71, rnd := false, saves := [] }
theorem qalj : CfgOK Tryz.prog qali := ⟨tsOK_of qakm, specsL_ok (show SpecsL Tryz.prog qali.spec from ⟨qak8, trivial⟩), qakn, ovlL_ok (trivial), globsOK_of rfl, freshL_ok (show FreshL Tryz.prog qali.fresh from trivial), specsL_ok (show SpecsL Tryz.prog qali.gns from trivial)⟩
theorem qalk {R : Type} : SubsOK Tryz.prog (R := R) 0 qalh := subsOK_nil _ _
theorem qall {R : Type} : LoopsOK (R := R) (hnd 0 qalh) qali qalg qako := loopsOK_of (l := []) (by kernel_rfl) (trivial)
theorem qalm : RngsOK Tryz.prog qali qako := rngs0 (by kernel_rfl)
theorem qaln : ∀ v, runFn (hnd 0 qalh) qali qalg qako Tryz.f71.results.toList (HP.st qak9 v) (decOf qala qalc) = qale (qalb v) := by intro v; kernel_rfl
theorem qalo : SpecOK Tryz.prog 71 qalf := specOK_mk (fn := Tryz.f71) (by kernel_rfl) (by kernel_rfl) (by kernel_rfl) qalj (by kernel_rfl) (by kernel_rfl) qakl (by kernel_rfl) (fun _ => rfl) (d := 0) qalk qall qalm qaln
end Go.Eng
set_option linter.unusedVariables false
set_option maxRecDepth 100000
namespace Go.Eng
open Go Go.Proofs
noncomputable def qalp : List (Nat × TI) := [(3, ⟨false, 1, .one (.int .i64 0), .int .i64⟩), (9, ⟨false, 1, .one (.str []), .str⟩), (22, ⟨false, 1, .one (.clip .inode []), .slice .inode 34⟩), (24, ⟨true, 4, .agg [.int .i64 0, .int .i64 0, .int .i64 0, .clip .inode []], .struct [(0, 3), (1, 3), (2, 3), (3, 22)]⟩), (32, ⟨false, 1, .one (.clip .entry []), .slice .entry 90⟩), (34, ⟨true, 6, .agg [.int .i64 0, .int .i64 0, .int .i64 0, .str [], .int .i64 0, .clip .entry []], .struct [(0, 3), (1, 3), (2, 3), (3, 9), (4, 3), (5, 32)]⟩), (90, ⟨true, 2, .agg [.str [], .int .i64 0], .struct [(0, 9), (1, 3)]⟩), (125, ⟨false, 1, .one (.clip .int []), .slice .int 3⟩)]
noncomputable def qalq : List (Nat × List EK) := []
theorem qalr : Tryz.prog.follows .mixedOrders = true := by kernel_rfl
theorem qals : (qalp.all fun x => tiB Tryz.prog x.1 x.2) = true := by kernel_rfl
theorem qalt {c : Cfg} (h : c.eqs = qalq := by rfl) : EqsOK Tryz.prog c := eqsOK_of (by rw [h]; kernel_rfl)
noncomputable def qalu : Code := match Tryz.f13.body with | some b => b | none => .skip
noncomputable def qalv : Code := match Tryz.f44.body with | some b => b | none => .skip
noncomputable def qalw : Code := match Tryz.f72.body with | some b => b | none => .skip
noncomputable def qalx : Code := match Tryz.f73.body with | some b => b | none => .skip
noncomputable def qaly : Code := match Tryz.f74.body with | some b => b | none => .skip
noncomputable def qalz : Code := match Tryz.f75.body with | some b => b | none => .skip
noncomputable def qal0 : Code := match Tryz.f76.body with | some b => b | none => .skip
noncomputable def qal1 : Code := match Tryz.f106.body with | some b => b | none => .skip
noncomputable def qal2 : HS := ⟨[(1, .one (.ptr 0 0)), (3, .one (.int .i64))], [(0, .cells [.int .i64, .int .i64, .int .i64, .sl .inode])], 1⟩
noncomputable def qal3 {R : Type} : Nat → HS.V qal2 → (Ex → St → Option R) → Option R := fun q v K =>
  ref07_first_L4 (⟨v.2.1.1, v.2.1.2.1, v.2.1.2.2.1, v.2.1.2.2.2.1⟩ : Fs) (K .ret { regs := [(2, .v (.one (.bool false)))], mem := [], nx := 0 }) (K (.exit 0) { regs := [(1, .v (.one (.ptr 0 0)))], mem := [(0, .cells [.int .i64 ((⟨v.2.1.1, v.2.1.2.1, v.2.1.2.2.1, v.2.1.2.2.2.1⟩ : Fs).maxInodes), .int .i64 ((⟨v.2.1.1, v.2.1.2.1, v.2.1.2.2.1, v.2.1.2.2.2.1⟩ : Fs).maxBytes), .int .i64 ((⟨v.2.1.1, v.2.1.2.1, v.2.1.2.2.1, v.2.1.2.2.2.1⟩ : Fs).next), .sl .inode ((⟨v.2.1.1, v.2.1.2.1, v.2.1.2.2.1, v.2.1.2.2.2.1⟩ : Fs).inodes)])], nx := 1 }) q v.1.2.1
noncomputable def qal4 : List HV := [.agg [.int .i64, .int .i64, .int .i64, .sl .inode]]
noncomputable def qal5 : List HV := [.one (.bool)]
noncomputable def qal6 : HP.V qal4 → Fs := fun v => ((⟨v.1.1, v.1.2.1, v.1.2.2.1, v.1.2.2.2.1⟩ : Fs))
noncomputable def qal7 : HX.V qal5 → Bool := fun v => (v)
noncomputable def qal8 : Bool → HX.V qal5 := fun y => (y)
noncomputable def qal9 : Fs → Option (Bool) := fun x => ref07_first x
noncomputable def qama : Spec := mkSpec qal4 qal5 qal6 qal8 qal9
noncomputable def qamb {R : Type} : List (Nat × Hd R) := [(4, hdOf qal2 qal3)]
noncomputable def qamc {R : Type} : List (Nat × Inl R) := []
noncomputable def qamd : Cfg := { T := qalp, spec := [(29, qaho), (104, qah7)], glob := GlobL.G Tryz.prog, eqs := qalq, N := 69, fuel := 64, loops := [(4, ⟨[1, 3], [], [0], 1, [], [], [], []⟩)], joins := [], blocks := [(0, ⟨[1], [], [0], 1, [], [], [], []⟩)], ovl := [], retA := some ⟨[2], [], [], 0, [], [], [], []⟩, fid := 72, rnd := false, saves := [] }
theorem qame : CfgOK Tryz.prog qamd := ⟨tsOK_of qals, specsL_ok (show SpecsL Tryz.prog qamd.spec from ⟨qahy, ⟨qaih, trivial⟩⟩), qalt, ovlL_ok (trivial), globsOK_of rfl, freshL_ok (show FreshL Tryz.prog qamd.fresh from trivial), specsL_ok (show SpecsL Tryz.prog qamd.gns from trivial)⟩
theorem qamf {R : Type} : SubsOK Tryz.prog (R := R) 0 qamc := subsOK_nil _ _
theorem qamg {R : Type} : LoopOK (R := R) (hnd 0 qamc) qamd qamb (sub [1, 1, 0, 1, 0, 0] qalw) (HS.V qal2) (HS.st qal2) (HS.sh qal2) qal3 (hdOf qal2 qal3) := loopOK_of qal2 qal3 (fun _ _ => rfl) (by intro q v K; kernel_rfl)
theorem qamh {R : Type} : LoopsOK (R := R) (hnd 0 qamc) qamd qamb qalw := loopsOK_of (l := [sub [1, 1, 0, 1, 0, 0] qalw]) (by kernel_rfl) (loopsL_cons (b := sub [1, 1, 0, 1, 0, 0] qalw) (rid := 4) (by kernel_rfl) (by kernel_rfl) qamg (trivial))
theorem qami : RngsOK Tryz.prog qamd qalw := rngs0 (by kernel_rfl)
theorem qamj : ∀ v, runFn (hnd 0 qamc) qamd qamb qalw Tryz.f72.results.toList (HP.st qal4 v) (decOf qal5 qal7) = qal9 (qal6 v) := by intro v; kernel_rfl
theorem qamk : SpecOK Tryz.prog 72 qama := specOK_mk (fn := Tryz.f72) (by kernel_rfl) (by kernel_rfl) (by kernel_rfl) qame (by kernel_rfl) (by kernel_rfl) qalr (by kernel_rfl) (fun _ => rfl) (d := 0) qamf qamh qami qamj
noncomputable def qaml : HS := ⟨[(1, .one (.ptr 0 0)), (3, .one (.int .i64)), (4, .one (.ptr 1 0)), (5, .one (.int .i64))], [(0, .cells [.int .i64, .int .i64, .int .i64, .sl .inode]), (1, .cells [.int .i64, .int .i64, .int .i64, .str, .int .i64, .sl .entry])], 2⟩
noncomputable def qamm {R : Type} : Nat → HS.V qaml → (Ex → St → Option R) → Option R := fun q v K =>
  ref07_second_L14 (⟨v.2.2.1.1, v.2.2.1.2.1, v.2.2.1.2.2.1, v.2.2.1.2.2.2.1, v.2.2.1.2.2.2.2.1, v.2.2.1.2.2.2.2.2.1⟩ : Inode) (K .ret { regs := [(2, .v (.one (.bool false)))], mem := [], nx := 0 }) (K (.exit 2) { regs := [(1, .v (.one (.ptr 0 0))), (3, .v (.one (.int .i64 v.1.2.1)))], mem := [(0, .cells [.int .i64 ((⟨v.2.1.1, v.2.1.2.1, v.2.1.2.2.1, v.2.1.2.2.2.1⟩ : Fs).maxInodes), .int .i64 ((⟨v.2.1.1, v.2.1.2.1, v.2.1.2.2.1, v.2.1.2.2.2.1⟩ : Fs).maxBytes), .int .i64 ((⟨v.2.1.1, v.2.1.2.1, v.2.1.2.2.1, v.2.1.2.2.2.1⟩ : Fs).next), .sl .inode ((⟨v.2.1.1, v.2.1.2.1, v.2.1.2.2.1, v.2.1.2.2.2.1⟩ : Fs).inodes)])], nx := 1 }) q v.1.2.2.2.1
noncomputable def qamn : HS := ⟨[(1, .one (.ptr 0 0)), (3, .one (.int .i64))], [(0, .cells [.int .i64, .int .i64, .int .i64, .sl .inode])], 1⟩
noncomputable def qamo {R : Type} : Nat → HS.V qamn → (Ex → St → Option R) → Option R := fun q v K =>
  ref07_second_L2 (⟨v.2.1.1, v.2.1.2.1, v.2.1.2.2.1, v.2.1.2.2.2.1⟩ : Fs) (K .ret { regs := [(2, .v (.one (.bool false)))], mem := [], nx := 0 }) (K (.exit 0) { regs := [], mem := [], nx := 0 }) q v.1.2.1
noncomputable def qamp : List HV := [.agg [.int .i64, .int .i64, .int .i64, .sl .inode]]
noncomputable def qamq : List HV := [.one (.bool)]
noncomputable def qamr : HP.V qamp → Fs := fun v => ((⟨v.1.1, v.1.2.1, v.1.2.2.1, v.1.2.2.2.1⟩ : Fs))
noncomputable def qams : HX.V qamq → Bool := fun v => (v)
noncomputable def qamt : Bool → HX.V qamq := fun y => (y)
noncomputable def qamu : Fs → Option (Bool) := fun x => ref07_second x
noncomputable def qamv : Spec := mkSpec qamp qamq qamr qamt qamu
noncomputable def qamw {R : Type} : List (Nat × Hd R) := [(2, hdOf qamn qamo), (14, hdOf qaml qamm)]
noncomputable def qamx {R : Type} : List (Nat × Inl R) := []
noncomputable def qamy : Cfg := { T := qalp, spec := [(105, qac5)], glob := GlobL.G Tryz.prog, eqs := qalq, N := 91, fuel := 64, loops := [(14, ⟨[1, 3, 4, 5], [], [0, 1], 2, [], [], [], []⟩), (2, ⟨[1, 3], [], [0], 1, [], [], [], []⟩)], joins := [], blocks := [(0, ⟨[], [], [], 0, [], [], [], []⟩), (1, ⟨[1, 3], [], [0], 1, [], [], [], []⟩), (2, ⟨[1, 3], [], [0], 1, [], [], [], []⟩)], ovl := [], retA := some ⟨[2], [], [], 0, [], [], [], []⟩, fid := 73, rnd := false, saves := [] }
theorem qamz : CfgOK Tryz.prog qamy := ⟨tsOK_of qals, specsL_ok (show SpecsL Tryz.prog qamy.spec from ⟨qadf, trivial⟩), qalt, ovlL_ok (trivial), globsOK_of rfl, freshL_ok (show FreshL Tryz.prog qamy.fresh from trivial), specsL_ok (show SpecsL Tryz.prog qamy.gns from trivial)⟩
theorem qam0 {R : Type} : SubsOK Tryz.prog (R := R) 0 qamx := subsOK_nil _ _
theorem qam1 {R : Type} : LoopOK (R := R) (hnd 0 qamx) qamy qamw (sub [1, 0, 1, 0, 0] qalx) (HS.V qamn) (HS.st qamn) (HS.sh qamn) qamo (hdOf qamn qamo) := loopOK_of qamn qamo (fun _ _ => rfl) (by intro q v K; kernel_rfl)
theorem qam2 {R : Type} : LoopOK (R := R) (hnd 0 qamx) qamy qamw (sub [1, 0, 1, 0, 0, 1, 0, 0, 1, 1, 1, 1, 1, 1, 0, 0] qalx) (HS.V qaml) (HS.st qaml) (HS.sh qaml) qamm (hdOf qaml qamm) := loopOK_of qaml qamm (fun _ _ => rfl) (by intro q v K; kernel_rfl)
theorem qam3 {R : Type} : LoopsOK (R := R) (hnd 0 qamx) qamy qamw qalx := loopsOK_of (l := [sub [1, 0, 1, 0, 0] qalx, sub [1, 0, 1, 0, 0, 1, 0, 0, 1, 1, 1, 1, 1, 1, 0, 0] qalx]) (by kernel_rfl) (loopsL_cons (b := sub [1, 0, 1, 0, 0] qalx) (rid := 2) (by kernel_rfl) (by kernel_rfl) qam1 (loopsL_cons (b := sub [1, 0, 1, 0, 0, 1, 0, 0, 1, 1, 1, 1, 1, 1, 0, 0] qalx) (rid := 14) (by kernel_rfl) (by kernel_rfl) qam2 (trivial)))
theorem qam4 : RngsOK Tryz.prog qamy qalx := rngs0 (by kernel_rfl)
theorem qam5 : ∀ v, runFn (hnd 0 qamx) qamy qamw qalx Tryz.f73.results.toList (HP.st qamp v) (decOf qamq qams) = qamu (qamr v) := by intro v; kernel_rfl
theorem qam6 : SpecOK Tryz.prog 73 qamv := specOK_mk (fn := Tryz.f73) (by kernel_rfl) (by kernel_rfl) (by kernel_rfl) qamz (by kernel_rfl) (by kernel_rfl) qalr (by kernel_rfl) (fun _ => rfl) (d := 0) qam0 qam3 qam4 qam5
noncomputable def qam7 : HS := ⟨[(1, .one (.ptr 0 0)), (3, .one (.int .i64)), (4, .one (.int .i64))], [(0, .cells [.int .i64, .int .i64, .int .i64, .sl .inode])], 1⟩
noncomputable def qam8 {R : Type} : Nat → HS.V qam7 → (Ex → St → Option R) → Option R := fun q v K =>
  ref07_third_L5 v.1.2.1 (⟨v.2.1.1, v.2.1.2.1, v.2.1.2.2.1, v.2.1.2.2.2.1⟩ : Fs) (K .ret { regs := [(2, .v (.one (.bool false)))], mem := [], nx := 0 }) (K (.exit 2) { regs := [(1, .v (.one (.ptr 0 0))), (3, .v (.one (.int .i64 v.1.2.1)))], mem := [(0, .cells [.int .i64 ((⟨v.2.1.1, v.2.1.2.1, v.2.1.2.2.1, v.2.1.2.2.2.1⟩ : Fs).maxInodes), .int .i64 ((⟨v.2.1.1, v.2.1.2.1, v.2.1.2.2.1, v.2.1.2.2.2.1⟩ : Fs).maxBytes), .int .i64 ((⟨v.2.1.1, v.2.1.2.1, v.2.1.2.2.1, v.2.1.2.2.2.1⟩ : Fs).next), .sl .inode ((⟨v.2.1.1, v.2.1.2.1, v.2.1.2.2.1, v.2.1.2.2.2.1⟩ : Fs).inodes)])], nx := 1 }) q v.1.2.2.1
noncomputable def qam9 : HS := ⟨[(1, .one (.ptr 0 0)), (3, .one (.int .i64))], [(0, .cells [.int .i64, .int .i64, .int .i64, .sl .inode])], 1⟩
noncomputable def qana {R : Type} : Nat → HS.V qam9 → (Ex → St → Option R) → Option R := fun q v K =>
  ref07_third_L2 (⟨v.2.1.1, v.2.1.2.1, v.2.1.2.2.1, v.2.1.2.2.2.1⟩ : Fs) (K .ret { regs := [(2, .v (.one (.bool false)))], mem := [], nx := 0 }) (K (.exit 0) { regs := [], mem := [], nx := 0 }) q v.1.2.1
noncomputable def qanb : List HV := [.agg [.int .i64, .int .i64, .int .i64, .sl .inode]]
noncomputable def qanc : List HV := [.one (.bool)]
noncomputable def qand : HP.V qanb → Fs := fun v => ((⟨v.1.1, v.1.2.1, v.1.2.2.1, v.1.2.2.2.1⟩ : Fs))
noncomputable def qane : HX.V qanc → Bool := fun v => (v)
noncomputable def qanf : Bool → HX.V qanc := fun y => (y)
noncomputable def qang : Fs → Option (Bool) := fun x => ref07_third x
noncomputable def qanh : Spec := mkSpec qanb qanc qand qanf qang
noncomputable def qani {R : Type} : List (Nat × Hd R) := [(2, hdOf qam9 qana), (5, hdOf qam7 qam8)]
noncomputable def qanj {R : Type} : List (Nat × Inl R) := []
noncomputable def qank : Cfg := { T := qalp, spec := [(29, qaho)], glob := GlobL.G Tryz.prog, eqs := qalq, N := 42, fuel := 64, loops := [(5, ⟨[1, 3, 4], [], [0], 1, [], [], [], []⟩), (2, ⟨[1, 3], [], [0], 1, [], [], [], []⟩)], joins := [], blocks := [(0, ⟨[], [], [], 0, [], [], [], []⟩), (1, ⟨[1, 3], [], [0], 1, [], [], [], []⟩), (2, ⟨[1, 3], [], [0], 1, [], [], [], []⟩)], ovl := [], retA := some ⟨[2], [], [], 0, [], [], [], []⟩, fid := 74, rnd := false, saves := [] }
theorem qanl : CfgOK Tryz.prog qank := ⟨tsOK_of qals, specsL_ok (show SpecsL Tryz.prog qank.spec from ⟨qahy, trivial⟩), qalt, ovlL_ok (trivial), globsOK_of rfl, freshL_ok (show FreshL Tryz.prog qank.fresh from trivial), specsL_ok (show SpecsL Tryz.prog qank.gns from trivial)⟩
theorem qanm {R : Type} : SubsOK Tryz.prog (R := R) 0 qanj := subsOK_nil _ _
theorem qann {R : Type} : LoopOK (R := R) (hnd 0 qanj) qank qani (sub [1, 0, 1, 0, 0] qaly) (HS.V qam9) (HS.st qam9) (HS.sh qam9) qana (hdOf qam9 qana) := loopOK_of qam9 qana (fun _ _ => rfl) (by intro q v K; kernel_rfl)
theorem qano {R : Type} : LoopOK (R := R) (hnd 0 qanj) qank qani (sub [1, 0, 1, 0, 0, 1, 0, 0, 1, 0, 0] qaly) (HS.V qam7) (HS.st qam7) (HS.sh qam7) qam8 (hdOf qam7 qam8) := loopOK_of qam7 qam8 (fun _ _ => rfl) (by intro q v K; kernel_rfl)
theorem qanp {R : Type} : LoopsOK (R := R) (hnd 0 qanj) qank qani qaly := loopsOK_of (l := [sub [1, 0, 1, 0, 0] qaly, sub [1, 0, 1, 0, 0, 1, 0, 0, 1, 0, 0] qaly]) (by kernel_rfl) (loopsL_cons (b := sub [1, 0, 1, 0, 0] qaly) (rid := 2) (by kernel_rfl) (by kernel_rfl) qann (loopsL_cons (b := sub [1, 0, 1, 0, 0, 1, 0, 0, 1, 0, 0] qaly) (rid := 5) (by kernel_rfl) (by kernel_rfl) qano (trivial)))
theorem qanq : RngsOK Tryz.prog qank qaly := rngs0 (by kernel_rfl)
theorem qanr : ∀ v, runFn (hnd 0 qanj) qank qani qaly Tryz.f74.results.toList (HP.st qanb v) (decOf qanc qane) = qang (qand v) := by intro v; kernel_rfl
theorem qans : SpecOK Tryz.prog 74 qanh := specOK_mk (fn := Tryz.f74) (by kernel_rfl) (by kernel_rfl) (by kernel_rfl) qanl (by kernel_rfl) (by kernel_rfl) qalr (by kernel_rfl) (fun _ => rfl) (d := 0) qanm qanp qanq qanr
noncomputable def qant : HS := ⟨[(1, .one (.int .i64)), (2, .one (.ptr 0 0)), (6, .one (.int .i64)), (7, .one (.int .i64)), (8, .one (.int .i64)), (9, .one (.int .i64))], [(0, .cells [.int .i64, .int .i64, .int .i64, .sl .inode])], 1⟩
noncomputable def qanu {R : Type} : Nat → HS.V qant → (Ex → St → Option R) → Option R := fun q v K =>
  ref07_Names_L7 v.1.1 v.1.2.2.2.2.1 (⟨v.2.1.1, v.2.1.2.1, v.2.1.2.2.1, v.2.1.2.2.2.1⟩ : Fs) (fun y17 y18 => K (.exit 2) { regs := [(1, .v (.one (.int .i64 v.1.1))), (2, .v (.one (.ptr 0 0))), (6, .v (.one (.int .i64 y17))), (7, .v (.one (.int .i64 y18))), (8, .v (.one (.int .i64 v.1.2.2.2.2.1)))], mem := [(0, .cells [.int .i64 ((⟨v.2.1.1, v.2.1.2.1, v.2.1.2.2.1, v.2.1.2.2.2.1⟩ : Fs).maxInodes), .int .i64 ((⟨v.2.1.1, v.2.1.2.1, v.2.1.2.2.1, v.2.1.2.2.2.1⟩ : Fs).maxBytes), .int .i64 ((⟨v.2.1.1, v.2.1.2.1, v.2.1.2.2.1, v.2.1.2.2.2.1⟩ : Fs).next), .sl .inode ((⟨v.2.1.1, v.2.1.2.1, v.2.1.2.2.1, v.2.1.2.2.2.1⟩ : Fs).inodes)])], nx := 1 }) q v.1.2.2.1 v.1.2.2.2.1 v.1.2.2.2.2.2.1
noncomputable def qanv : HS := ⟨[(1, .one (.int .i64)), (2, .one (.ptr 0 0)), (6, .one (.int .i64)), (7, .one (.int .i64)), (8, .one (.int .i64))], [(0, .cells [.int .i64, .int .i64, .int .i64, .sl .inode])], 1⟩
noncomputable def qanw {R : Type} : Nat → HS.V qanv → (Ex → St → Option R) → Option R := fun q v K =>
  ref07_Names_L4 v.1.1 (⟨v.2.1.1, v.2.1.2.1, v.2.1.2.2.1, v.2.1.2.2.2.1⟩ : Fs) (fun y23 y24 => K (.exit 0) { regs := [(6, .v (.one (.int .i64 y23))), (7, .v (.one (.int .i64 y24)))], mem := [], nx := 0 }) q v.1.2.2.1 v.1.2.2.2.1 v.1.2.2.2.2.1
noncomputable def qanx : List HV := [.agg [.int .i64, .int .i64, .int .i64, .sl .inode], .one (.int .i64)]
noncomputable def qany : List HV := [.one (.int .i64), .one (.int .i64)]
noncomputable def qanz : HP.V qanx → Fs × Int := fun v => ((⟨v.1.1, v.1.2.1, v.1.2.2.1, v.1.2.2.2.1⟩ : Fs), v.2.1)
noncomputable def qan0 : HX.V qany → Int × Int := fun v => (v.1, v.2)
noncomputable def qan1 : (Int × Int) → HX.V qany := fun y => (y.1, y.2)
noncomputable def qan2 : (Fs × Int) → Option (Int × Int) := fun x => ref07_Names x.1 x.2
noncomputable def qan3 : Spec := mkSpec qanx qany qanz qan1 qan2
noncomputable def qan4 {R : Type} : List (Nat × Hd R) := [(4, hdOf qanv qanw), (7, hdOf qant qanu)]
noncomputable def qan5 {R : Type} : List (Nat × Inl R) := []
noncomputable def qan6 : Cfg := { T := qalp, spec := [], glob := GlobL.G Tryz.prog, eqs := qalq, N := 50, fuel := 64, loops := [(7, ⟨[1, 2, 6, 7, 8, 9], [], [0], 1, [], [], [], []⟩), (4, ⟨[1, 2, 6, 7, 8], [], [0], 1, [], [], [], []⟩)], joins := [], blocks := [(0, ⟨[6, 7], [], [], 0, [], [], [], []⟩), (1, ⟨[1, 2, 6, 7, 8], [], [0], 1, [], [], [], []⟩), (2, ⟨[1, 2, 6, 7, 8], [], [0], 1, [], [], [], []⟩)], ovl := [], retA := none, fid := 106, rnd := false, saves := [] }
theorem qan7 : CfgOK Tryz.prog qan6 := ⟨tsOK_of qals, specsL_ok (show SpecsL Tryz.prog qan6.spec from trivial), qalt, ovlL_ok (trivial), globsOK_of rfl, freshL_ok (show FreshL Tryz.prog qan6.fresh from trivial), specsL_ok (show SpecsL Tryz.prog qan6.gns from trivial)⟩
theorem qan8 {R : Type} : SubsOK Tryz.prog (R := R) 0 qan5 := subsOK_nil _ _
theorem qan9 {R : Type} : LoopOK (R := R) (hnd 0 qan5) qan6 qan4 (sub [1, 1, 1, 0, 1, 0, 0] qal1) (HS.V qanv) (HS.st qanv) (HS.sh qanv) qanw (hdOf qanv qanw) := loopOK_of qanv qanw (fun _ _ => rfl) (by intro q v K; kernel_rfl)
theorem qaoa {R : Type} : LoopOK (R := R) (hnd 0 qan5) qan6 qan4 (sub [1, 1, 1, 0, 1, 0, 0, 1, 0, 0, 1, 0, 0] qal1) (HS.V qant) (HS.st qant) (HS.sh qant) qanu (hdOf qant qanu) := loopOK_of qant qanu (fun _ _ => rfl) (by intro q v K; kernel_rfl)
theorem qaob {R : Type} : LoopsOK (R := R) (hnd 0 qan5) qan6 qan4 qal1 := loopsOK_of (l := [sub [1, 1, 1, 0, 1, 0, 0] qal1, sub [1, 1, 1, 0, 1, 0, 0, 1, 0, 0, 1, 0, 0] qal1]) (by kernel_rfl) (loopsL_cons (b := sub [1, 1, 1, 0, 1, 0, 0] qal1) (rid := 4) (by kernel_rfl) (by kernel_rfl) qan9 (loopsL_cons (b := sub [1, 1, 1, 0, 1, 0, 0, 1, 0, 0, 1, 0, 0] qal1) (rid := 7) (by kernel_rfl) (by kernel_rfl) qaoa (trivial)))
theorem qaoc : RngsOK Tryz.prog qan6 qal1 := rngs0 (by kernel_rfl)
theorem qaod : ∀ v, runFn (hnd 0 qan5) qan6 qan4 qal1 Tryz.f106.results.toList (HP.st qanx v) (decOf qany qan0) = qan2 (qanz v) := by intro v; kernel_rfl
theorem qaoe : SpecOK Tryz.prog 106 qan3 := specOK_mk (fn := Tryz.f106) (by kernel_rfl) (by kernel_rfl) (by kernel_rfl) qan7 (by kernel_rfl) (by kernel_rfl) qalr (by kernel_rfl) (fun _ => rfl) (d := 0) qan8 qaob qaoc qaod
noncomputable def qaof : HS := ⟨[(1, .one (.ptr 0 0)), (3, .one (.int .i64))], [(0, .cells [.int .i64, .int .i64, .int .i64, .sl .inode])], 1⟩
noncomputable def qaog {R : Type} : Nat → HS.V qaof → (Ex → St → Option R) → Option R := fun q v K =>
  ref07_fourth_L2 (⟨v.2.1.1, v.2.1.2.1, v.2.1.2.2.1, v.2.1.2.2.2.1⟩ : Fs) (K .ret { regs := [(2, .v (.one (.bool false)))], mem := [], nx := 0 }) (K (.exit 0) { regs := [], mem := [], nx := 0 }) q v.1.2.1
noncomputable def qaoh : List HV := [.agg [.int .i64, .int .i64, .int .i64, .sl .inode]]
noncomputable def qaoi : List HV := [.one (.bool)]
noncomputable def qaoj : HP.V qaoh → Fs := fun v => ((⟨v.1.1, v.1.2.1, v.1.2.2.1, v.1.2.2.2.1⟩ : Fs))
noncomputable def qaok : HX.V qaoi → Bool := fun v => (v)
noncomputable def qaol : Bool → HX.V qaoi := fun y => (y)
noncomputable def qaom : Fs → Option (Bool) := fun x => ref07_fourth x
noncomputable def qaon : Spec := mkSpec qaoh qaoi qaoj qaol qaom
noncomputable def qaoo {R : Type} : List (Nat × Hd R) := [(2, hdOf qaof qaog)]
noncomputable def qaop {R : Type} : List (Nat × Inl R) := []
noncomputable def qaoq : Cfg := { T := qalp, spec := [(106, qan3)], glob := GlobL.G Tryz.prog, eqs := qalq, N := 57, fuel := 64, loops := [(2, ⟨[1, 3], [], [0], 1, [], [], [], []⟩)], joins := [], blocks := [(0, ⟨[], [], [], 0, [], [], [], []⟩)], ovl := [], retA := some ⟨[2], [], [], 0, [], [], [], []⟩, fid := 75, rnd := false, saves := [] }
theorem qaor : CfgOK Tryz.prog qaoq := ⟨tsOK_of qals, specsL_ok (show SpecsL Tryz.prog qaoq.spec from ⟨qaoe, trivial⟩), qalt, ovlL_ok (trivial), globsOK_of rfl, freshL_ok (show FreshL Tryz.prog qaoq.fresh from trivial), specsL_ok (show SpecsL Tryz.prog qaoq.gns from trivial)⟩
theorem qaos {R : Type} : SubsOK Tryz.prog (R := R) 0 qaop := subsOK_nil _ _
theorem qaot {R : Type} : LoopOK (R := R) (hnd 0 qaop) qaoq qaoo (sub [1, 0, 1, 0, 0] qalz) (HS.V qaof) (HS.st qaof) (HS.sh qaof) qaog (hdOf qaof qaog) := loopOK_of qaof qaog (fun _ _ => rfl) (by intro q v K; kernel_rfl)
theorem qaou {R : Type} : LoopsOK (R := R) (hnd 0 qaop) qaoq qaoo qalz := loopsOK_of (l := [sub [1, 0, 1, 0, 0] qalz]) (by kernel_rfl) (loopsL_cons (b := sub [1, 0, 1, 0, 0] qalz) (rid := 2) (by kernel_rfl) (by kernel_rfl) qaot (trivial))
theorem qaov : RngsOK Tryz.prog qaoq qalz := rngs0 (by kernel_rfl)
theorem qaow : ∀ v, runFn (hnd 0 qaop) qaoq qaoo qalz Tryz.f75.results.toList (HP.st qaoh v) (decOf qaoi qaok) = qaom (qaoj v) := by intro v; kernel_rfl
theorem qaox : SpecOK Tryz.prog 75 qaon := specOK_mk (fn := Tryz.f75) (by kernel_rfl) (by kernel_rfl) (by kernel_rfl) qaor (by kernel_rfl) (by kernel_rfl) qalr (by kernel_rfl) (fun _ => rfl) (d := 0) qaos qaou qaov qaow
noncomputable def qaoy : HS := ⟨[(1, .one (.ptr 0 0)), (3, .one (.own 1)), (4, .one (.int .i64)), (5, .one (.ptr 2 0)), (7, .one (.int .i64)), (8, .one (.bool)), (9, .one (.int .i64))], [(0, .cells [.int .i64, .int .i64, .int .i64, .sl .inode]), (1, .row .int), (2, .cells [.int .i64, .int .i64, .int .i64, .str, .int .i64, .sl .entry])], 3⟩
noncomputable def qaoz {R : Type} : Nat → HS.V qaoy → (Ex → St → Option R) → Option R := fun q v K =>
  ref07_fifth_L11 v.1.2.2.2.2.1 v.2.2.1 (⟨v.2.2.2.1.1, v.2.2.2.1.2.1, v.2.2.2.1.2.2.1, v.2.2.2.1.2.2.2.1, v.2.2.2.1.2.2.2.2.1, v.2.2.2.1.2.2.2.2.2.1⟩ : Inode) (fun y22 => K (.exit 4) { regs := [(1, .v (.one (.ptr 0 0))), (3, .v (.one (.own 1))), (4, .v (.one (.int .i64 v.1.2.2.1))), (5, .v (.one (.ptr 2 0))), (7, .v (.one (.int .i64 v.1.2.2.2.2.1))), (8, .v (.one (.bool y22)))], mem := [(0, .cells [.int .i64 ((⟨v.2.1.1, v.2.1.2.1, v.2.1.2.2.1, v.2.1.2.2.2.1⟩ : Fs).maxInodes), .int .i64 ((⟨v.2.1.1, v.2.1.2.1, v.2.1.2.2.1, v.2.1.2.2.2.1⟩ : Fs).maxBytes), .int .i64 ((⟨v.2.1.1, v.2.1.2.1, v.2.1.2.2.1, v.2.1.2.2.2.1⟩ : Fs).next), .sl .inode ((⟨v.2.1.1, v.2.1.2.1, v.2.1.2.2.1, v.2.1.2.2.2.1⟩ : Fs).inodes)]), (1, .row .int v.2.2.1), (2, .cells [.int .i64 ((⟨v.2.2.2.1.1, v.2.2.2.1.2.1, v.2.2.2.1.2.2.1, v.2.2.2.1.2.2.2.1, v.2.2.2.1.2.2.2.2.1, v.2.2.2.1.2.2.2.2.2.1⟩ : Inode).ino), .int .i64 ((⟨v.2.2.2.1.1, v.2.2.2.1.2.1, v.2.2.2.1.2.2.1, v.2.2.2.1.2.2.2.1, v.2.2.2.1.2.2.2.2.1, v.2.2.2.1.2.2.2.2.2.1⟩ : Inode).kind), .int .i64 ((⟨v.2.2.2.1.1, v.2.2.2.1.2.1, v.2.2.2.1.2.2.1, v.2.2.2.1.2.2.2.1, v.2.2.2.1.2.2.2.2.1, v.2.2.2.1.2.2.2.2.2.1⟩ : Inode).links), .str ((⟨v.2.2.2.1.1, v.2.2.2.1.2.1, v.2.2.2.1.2.2.1, v.2.2.2.1.2.2.2.1, v.2.2.2.1.2.2.2.2.1, v.2.2.2.1.2.2.2.2.2.1⟩ : Inode).data), .int .i64 ((⟨v.2.2.2.1.1, v.2.2.2.1.2.1, v.2.2.2.1.2.2.1, v.2.2.2.1.2.2.2.1, v.2.2.2.1.2.2.2.2.1, v.2.2.2.1.2.2.2.2.2.1⟩ : Inode).parent), .sl .entry ((⟨v.2.2.2.1.1, v.2.2.2.1.2.1, v.2.2.2.1.2.2.1, v.2.2.2.1.2.2.2.1, v.2.2.2.1.2.2.2.2.1, v.2.2.2.1.2.2.2.2.2.1⟩ : Inode).entries)])], nx := 3 }) q v.1.2.2.2.2.2.1 v.1.2.2.2.2.2.2.1
noncomputable def qao0 : HS := ⟨[(1, .one (.ptr 0 0)), (3, .one (.own 1)), (4, .one (.int .i64)), (5, .one (.ptr 2 0)), (7, .one (.int .i64))], [(0, .cells [.int .i64, .int .i64, .int .i64, .sl .inode]), (1, .row .int), (2, .cells [.int .i64, .int .i64, .int .i64, .str, .int .i64, .sl .entry])], 3⟩
noncomputable def qao1 {R : Type} : Nat → HS.V qao0 → (Ex → St → Option R) → Option R := fun q v K =>
  ref07_fifth_L7 (⟨v.2.2.2.1.1, v.2.2.2.1.2.1, v.2.2.2.1.2.2.1, v.2.2.2.1.2.2.2.1, v.2.2.2.1.2.2.2.2.1, v.2.2.2.1.2.2.2.2.2.1⟩ : Inode) (fun y30 => K (.exit 2) { regs := [(1, .v (.one (.ptr 0 0))), (3, .v (.one (.own 1))), (4, .v (.one (.int .i64 v.1.2.2.1)))], mem := [(0, .cells [.int .i64 ((⟨v.2.1.1, v.2.1.2.1, v.2.1.2.2.1, v.2.1.2.2.2.1⟩ : Fs).maxInodes), .int .i64 ((⟨v.2.1.1, v.2.1.2.1, v.2.1.2.2.1, v.2.1.2.2.2.1⟩ : Fs).maxBytes), .int .i64 ((⟨v.2.1.1, v.2.1.2.1, v.2.1.2.2.1, v.2.1.2.2.2.1⟩ : Fs).next), .sl .inode ((⟨v.2.1.1, v.2.1.2.1, v.2.1.2.2.1, v.2.1.2.2.2.1⟩ : Fs).inodes)]), (1, .row .int y30)], nx := 2 }) q v.1.2.2.2.2.1 v.2.2.1
noncomputable def qao2 : HS := ⟨[(1, .one (.ptr 0 0)), (3, .one (.own 1)), (4, .one (.int .i64))], [(0, .cells [.int .i64, .int .i64, .int .i64, .sl .inode]), (1, .row .int)], 2⟩
noncomputable def qao3 {R : Type} : Nat → HS.V qao2 → (Ex → St → Option R) → Option R := fun q v K =>
  ref07_fifth_L3 (⟨v.2.1.1, v.2.1.2.1, v.2.1.2.2.1, v.2.1.2.2.2.1⟩ : Fs) (fun y33 => K (.exit 0) { regs := [(1, .v (.one (.ptr 0 0))), (3, .v (.one (.own 1)))], mem := [(0, .cells [.int .i64 ((⟨v.2.1.1, v.2.1.2.1, v.2.1.2.2.1, v.2.1.2.2.2.1⟩ : Fs).maxInodes), .int .i64 ((⟨v.2.1.1, v.2.1.2.1, v.2.1.2.2.1, v.2.1.2.2.2.1⟩ : Fs).maxBytes), .int .i64 ((⟨v.2.1.1, v.2.1.2.1, v.2.1.2.2.1, v.2.1.2.2.2.1⟩ : Fs).next), .sl .inode ((⟨v.2.1.1, v.2.1.2.1, v.2.1.2.2.1, v.2.1.2.2.2.1⟩ : Fs).inodes)]), (1, .row .int y33)], nx := 2 }) q v.1.2.2.1 v.2.2.1
noncomputable def qao4 : List HV := [.agg [.int .i64, .int .i64, .int .i64, .sl .inode]]
noncomputable def qao5 : List HV := [.one (.bool)]
noncomputable def qao6 : HP.V qao4 → Fs := fun v => ((⟨v.1.1, v.1.2.1, v.1.2.2.1, v.1.2.2.2.1⟩ : Fs))
noncomputable def qao7 : HX.V qao5 → Bool := fun v => (v)
noncomputable def qao8 : Bool → HX.V qao5 := fun y => (y)
noncomputable def qao9 : Fs → Option (Bool) := fun x => ref07_fifth x
noncomputable def qapa : Spec := mkSpec qao4 qao5 qao6 qao8 qao9
noncomputable def qapb {R : Type} : List (Nat × Hd R) := [(3, hdOf qao2 qao3), (7, hdOf qao0 qao1), (11, hdOf qaoy qaoz)]
noncomputable def qapc {R : Type} : List (Nat × Inl R) := []
noncomputable def qapd : Cfg := { T := qalp, spec := [(29, qaho)], glob := GlobL.G Tryz.prog, eqs := qalq, N := 70, fuel := 64, loops := [(11, ⟨[1, 3, 4, 5, 7, 8, 9], [], [0, 1, 2], 3, [], [], [], []⟩), (7, ⟨[1, 3, 4, 5, 7], [], [0, 1, 2], 3, [], [], [], []⟩), (3, ⟨[1, 3, 4], [], [0, 1], 2, [], [], [], []⟩)], joins := [], blocks := [(0, ⟨[1, 3], [], [0, 1], 2, [], [], [], []⟩), (1, ⟨[1, 3, 4], [], [0, 1], 2, [], [], [], []⟩), (2, ⟨[1, 3, 4], [], [0, 1], 2, [], [], [], []⟩), (3, ⟨[1, 3, 4, 5, 7], [], [0, 1, 2], 3, [], [], [], []⟩), (4, ⟨[1, 3, 4, 5, 7, 8], [], [0, 1, 2], 3, [], [], [], []⟩)], ovl := [], retA := none, fid := 76, rnd := false, saves := [] }
theorem qape : CfgOK Tryz.prog qapd := ⟨tsOK_of qals, specsL_ok (show SpecsL Tryz.prog qapd.spec from ⟨qahy, trivial⟩), qalt, ovlL_ok (trivial), globsOK_of rfl, freshL_ok (show FreshL Tryz.prog qapd.fresh from trivial), specsL_ok (show SpecsL Tryz.prog qapd.gns from trivial)⟩
theorem qapf {R : Type} : SubsOK Tryz.prog (R := R) 0 qapc := subsOK_nil _ _
theorem qapg {R : Type} : LoopOK (R := R) (hnd 0 qapc) qapd qapb (sub [1, 1, 0, 1, 0, 0] qal0) (HS.V qao2) (HS.st qao2) (HS.sh qao2) qao3 (hdOf qao2 qao3) := loopOK_of qao2 qao3 (fun _ _ => rfl) (by intro q v K; kernel_rfl)
theorem qaph {R : Type} : LoopOK (R := R) (hnd 0 qapc) qapd qapb (sub [1, 1, 0, 1, 0, 0, 1, 0, 0, 1, 1, 0, 0] qal0) (HS.V qao0) (HS.st qao0) (HS.sh qao0) qao1 (hdOf qao0 qao1) := loopOK_of qao0 qao1 (fun _ _ => rfl) (by intro q v K; kernel_rfl)
theorem qapi {R : Type} : LoopOK (R := R) (hnd 0 qapc) qapd qapb (sub [1, 1, 0, 1, 0, 0, 1, 0, 0, 1, 1, 0, 0, 1, 0, 0, 1, 0, 1, 0, 0] qal0) (HS.V qaoy) (HS.st qaoy) (HS.sh qaoy) qaoz (hdOf qaoy qaoz) := loopOK_of qaoy qaoz (fun _ _ => rfl) (by intro q v K; kernel_rfl)
theorem qapj {R : Type} : LoopsOK (R := R) (hnd 0 qapc) qapd qapb qal0 := loopsOK_of (l := [sub [1, 1, 0, 1, 0, 0] qal0, sub [1, 1, 0, 1, 0, 0, 1, 0, 0, 1, 1, 0, 0] qal0, sub [1, 1, 0, 1, 0, 0, 1, 0, 0, 1, 1, 0, 0, 1, 0, 0, 1, 0, 1, 0, 0] qal0]) (by kernel_rfl) (loopsL_cons (b := sub [1, 1, 0, 1, 0, 0] qal0) (rid := 3) (by kernel_rfl) (by kernel_rfl) qapg (loopsL_cons (b := sub [1, 1, 0, 1, 0, 0, 1, 0, 0, 1, 1, 0, 0] qal0) (rid := 7) (by kernel_rfl) (by kernel_rfl) qaph (loopsL_cons (b := sub [1, 1, 0, 1, 0, 0, 1, 0, 0, 1, 1, 0, 0, 1, 0, 0, 1, 0, 1, 0, 0] qal0) (rid := 11) (by kernel_rfl) (by kernel_rfl) qapi (trivial))))
theorem qapk : RngsOK Tryz.prog qapd qal0 := rngs0 (by kernel_rfl)
theorem qapl : ∀ v, runFn (hnd 0 qapc) qapd qapb qal0 Tryz.f76.results.toList (HP.st qao4 v) (decOf qao5 qao7) = qao9 (qao6 v) := by intro v; kernel_rfl
theorem qapm : SpecOK Tryz.prog 76 qapa := specOK_mk (fn := Tryz.f76) (by kernel_rfl) (by kernel_rfl) (by kernel_rfl) qape (by kernel_rfl) (by kernel_rfl) qalr (by kernel_rfl) (fun _ => rfl) (d := 0) qapf qapj qapk qapl
noncomputable def qapn : List HV := [.agg [.int .i64, .int .i64, .int .i64, .sl .inode]]
noncomputable def qapo : List HV := [.one (.int .i64)]
noncomputable def qapp : HP.V qapn → Fs := fun v => ((⟨v.1.1, v.1.2.1, v.1.2.2.1, v.1.2.2.2.1⟩ : Fs))
noncomputable def qapq : HX.V qapo → Int := fun v => (v)
noncomputable def qapr : Int → HX.V qapo := fun y => (y)
noncomputable def qaps : Fs → Option (Int) := fun x => ref07_Check x
noncomputable def qapt : Spec := mkSpec qapn qapo qapp qapr qaps
noncomputable def qapu {R : Type} : List (Nat × Hd R) := []
noncomputable def qapv {R : Type} : List (Nat × Inl R) := []
noncomputable def qapw : Cfg := { T := qalp, spec := [(71, qalf), (72, qama), (73, qamv), (74, qanh), (75, qaon), (76, qapa)], glob := GlobL.G Tryz.prog, eqs := qalq, N := 21, fuel := 64, loops := [], joins := [], blocks := [], ovl := [], retA := none, fid := 44, rnd := false, saves := [] }
theorem qapx : CfgOK Tryz.prog qapw := ⟨tsOK_of qals, specsL_ok (show SpecsL Tryz.prog qapw.spec from ⟨qalo, ⟨qamk, ⟨qam6, ⟨qans, ⟨qaox, ⟨qapm, trivial⟩⟩⟩⟩⟩⟩), qalt, ovlL_ok (trivial), globsOK_of rfl, freshL_ok (show FreshL Tryz.prog qapw.fresh from trivial), specsL_ok (show SpecsL Tryz.prog qapw.gns from trivial)⟩
theorem qapy {R : Type} : SubsOK Tryz.prog (R := R) 0 qapv := subsOK_nil _ _
theorem qapz {R : Type} : LoopsOK (R := R) (hnd 0 qapv) qapw qapu qalv := loopsOK_of (l := []) (by kernel_rfl) (trivial)
theorem qap0 : RngsOK Tryz.prog qapw qalv := rngs0 (by kernel_rfl)
theorem qap1 : ∀ v, runFn (hnd 0 qapv) qapw qapu qalv Tryz.f44.results.toList (HP.st qapn v) (decOf qapo qapq) = qaps (qapp v) := by intro v; kernel_rfl
theorem qap2 : SpecOK Tryz.prog 44 qapt := specOK_mk (fn := Tryz.f44) (by kernel_rfl) (by kernel_rfl) (by kernel_rfl) qapx (by kernel_rfl) (by kernel_rfl) qalr (by kernel_rfl) (fun _ => rfl) (d := 0) qapy qapz qap0 qap1
noncomputable def qap3 : List HV := [.agg [.int .i64, .int .i64, .int .i64, .sl .inode]]
noncomputable def qap4 : List HV := [.one (.bool)]
noncomputable def qap5 : HP.V qap3 → Fs := fun v => ((⟨v.1.1, v.1.2.1, v.1.2.2.1, v.1.2.2.2.1⟩ : Fs))
noncomputable def qap6 : HX.V qap4 → Bool := fun v => (v)
noncomputable def qap7 : Bool → HX.V qap4 := fun y => (y)
noncomputable def qap8 : Fs → Option (Bool) := fun x => ref07_Ok x
noncomputable def qap9 : Spec := mkSpec qap3 qap4 qap5 qap7 qap8
noncomputable def qaqa {R : Type} : List (Nat × Hd R) := []
noncomputable def qaqb {R : Type} : List (Nat × Inl R) := []
noncomputable def qaqc : Cfg := { T := qalp, spec := [(44, qapt), (48, qais)], glob := GlobL.G Tryz.prog, eqs := qalq, N := 10, fuel := 64, loops := [], joins := [], blocks := [], ovl := [], retA := none, fid := 13, rnd := false, saves := [] }
theorem qaqd : CfgOK Tryz.prog qaqc := ⟨tsOK_of qals, specsL_ok (show SpecsL Tryz.prog qaqc.spec from ⟨qap2, ⟨qai3, trivial⟩⟩), qalt, ovlL_ok (trivial), globsOK_of rfl, freshL_ok (show FreshL Tryz.prog qaqc.fresh from trivial), specsL_ok (show SpecsL Tryz.prog qaqc.gns from trivial)⟩
theorem qaqe {R : Type} : SubsOK Tryz.prog (R := R) 0 qaqb := subsOK_nil _ _
theorem qaqf {R : Type} : LoopsOK (R := R) (hnd 0 qaqb) qaqc qaqa qalu := loopsOK_of (l := []) (by kernel_rfl) (trivial)
theorem qaqg : RngsOK Tryz.prog qaqc qalu := rngs0 (by kernel_rfl)
theorem qaqh : ∀ v, runFn (hnd 0 qaqb) qaqc qaqa qalu Tryz.f13.results.toList (HP.st qap3 v) (decOf qap4 qap6) = qap8 (qap5 v) := by intro v; kernel_rfl
theorem qaqi : SpecOK Tryz.prog 13 qap9 := specOK_mk (fn := Tryz.f13) (by kernel_rfl) (by kernel_rfl) (by kernel_rfl) qaqd (by kernel_rfl) (by kernel_rfl) qalr (by kernel_rfl) (fun _ => rfl) (d := 0) qaqe qaqf qaqg qaqh
end Go.Eng
set_option linter.unusedVariables false
set_option maxRecDepth 100000
namespace Go.Eng
open Go Go.Proofs
noncomputable def qaqj : List (Nat × TI) := [(3, ⟨false, 1, .one (.int .i64 0), .int .i64⟩), (9, ⟨false, 1, .one (.str []), .str⟩), (22, ⟨false, 1, .one (.clip .inode []), .slice .inode 34⟩), (24, ⟨true, 4, .agg [.int .i64 0, .int .i64 0, .int .i64 0, .clip .inode []], .struct [(0, 3), (1, 3), (2, 3), (3, 22)]⟩), (28, ⟨false, 1, .one (.clip .seen []), .slice .seen 31⟩), (31, ⟨true, 2, .agg [.str [], .int .i64 0], .struct [(0, 9), (1, 3)]⟩), (32, ⟨false, 1, .one (.clip .entry []), .slice .entry 90⟩), (34, ⟨true, 6, .agg [.int .i64 0, .int .i64 0, .int .i64 0, .str [], .int .i64 0, .clip .entry []], .struct [(0, 3), (1, 3), (2, 3), (3, 9), (4, 3), (5, 32)]⟩), (90, ⟨true, 2, .agg [.str [], .int .i64 0], .struct [(0, 9), (1, 3)]⟩)]
noncomputable def qaqk : List (Nat × List EK) := [(31, [.s, .i])]
theorem qaql : Tryz.prog.follows .mixedOrders = true := by kernel_rfl
theorem qaqm : (qaqj.all fun x => tiB Tryz.prog x.1 x.2) = true := by kernel_rfl
theorem qaqn {c : Cfg} (h : c.eqs = qaqk := by rfl) : EqsOK Tryz.prog c := eqsOK_of (by rw [h]; kernel_rfl)
noncomputable def qaqo : Code := match Tryz.f15.body with | some b => b | none => .skip
noncomputable def qaqp : Code := match Tryz.f49.body with | some b => b | none => .skip
noncomputable def qaqq : Code := match Tryz.f77.body with | some b => b | none => .skip
noncomputable def qaqr : List HV := [.one (.str), .one (.str)]
noncomputable def qaqs : List HV := [.one (.str)]
noncomputable def qaqt : HP.V qaqr → Str × Str := fun v => (v.1, v.2.1)
noncomputable def qaqu : HX.V qaqs → Str := fun v => (v)
noncomputable def qaqv : Str → HX.V qaqs := fun y => (y)
noncomputable def qaqw : (Str × Str) → Option (Str) := fun x => ref08_under x.1 x.2
noncomputable def qaqx : Spec := mkSpec qaqr qaqs qaqt qaqv qaqw
noncomputable def qaqy {R : Type} : List (Nat × Hd R) := []
noncomputable def qaqz {R : Type} : List (Nat × Inl R) := []
noncomputable def qaq0 : Cfg := { T := qaqj, spec := [], glob := GlobL.G Tryz.prog, eqs := qaqk, N := 14, fuel := 64, loops := [], joins := [], blocks := [], ovl := [], retA := none, fid := 77, rnd := false, saves := [] }
theorem qaq1 : CfgOK Tryz.prog qaq0 := ⟨tsOK_of qaqm, specsL_ok (show SpecsL Tryz.prog qaq0.spec from trivial), qaqn, ovlL_ok (trivial), globsOK_of rfl, freshL_ok (show FreshL Tryz.prog qaq0.fresh from trivial), specsL_ok (show SpecsL Tryz.prog qaq0.gns from trivial)⟩
theorem qaq2 {R : Type} : SubsOK Tryz.prog (R := R) 0 qaqz := subsOK_nil _ _
theorem qaq3 {R : Type} : LoopsOK (R := R) (hnd 0 qaqz) qaq0 qaqy qaqq := loopsOK_of (l := []) (by kernel_rfl) (trivial)
theorem qaq4 : RngsOK Tryz.prog qaq0 qaqq := rngs0 (by kernel_rfl)
theorem qaq5 : ∀ v, runFn (hnd 0 qaqz) qaq0 qaqy qaqq Tryz.f77.results.toList (HP.st qaqr v) (decOf qaqs qaqu) = qaqw (qaqt v) := by intro v; kernel_rfl
theorem qaq6 : SpecOK Tryz.prog 77 qaqx := specOK_mk (fn := Tryz.f77) (by kernel_rfl) (by kernel_rfl) (by kernel_rfl) qaq1 (by kernel_rfl) (by kernel_rfl) qaql (by kernel_rfl) (fun _ => rfl) (d := 0) qaq2 qaq3 qaq4 qaq5
noncomputable def qaq7 : HS := ⟨[(2, .one (.str)), (3, .one (.int .i64)), (4, .one (.ptr 0 0)), (9, .one (.ptr 1 0)), (11, .one (.own 2)), (12, .one (.int .i64))], [(0, .cells [.int .i64, .int .i64, .int .i64, .sl .inode]), (1, .cells [.int .i64, .int .i64, .int .i64, .str, .int .i64, .sl .entry]), (2, .row .seen)], 3⟩
noncomputable def qaq8 {R : Type} (nn : Nat) : Nat → HS.V qaq7 → (Ex → St → Option R) → Option R := fun q v K =>
  ref08_Below_L6 (ref08_Below_r nn) v.1.1 v.1.2.1 (⟨v.2.1.1, v.2.1.2.1, v.2.1.2.2.1, v.2.1.2.2.2.1⟩ : Fs) (⟨v.2.2.1.1, v.2.2.1.2.1, v.2.2.1.2.2.1, v.2.2.1.2.2.2.1, v.2.2.1.2.2.2.2.1, v.2.2.1.2.2.2.2.2.1⟩ : Inode) (fun y12 => K (.exit 0) { regs := [(11, .v (.one (.own 2)))], mem := [(2, .row .seen y12)], nx := 3 }) q v.1.2.2.2.2.2.1 v.2.2.2.1
noncomputable def qaq9 : List HV := [.agg [.int .i64, .int .i64, .int .i64, .sl .inode], .one (.int .i64), .one (.str), .one (.int .i64)]
noncomputable def qara : List HV := [.one (.sl .seen)]
noncomputable def qarb : HP.V qaq9 → Fs × Int × Str × Int := fun v => ((⟨v.1.1, v.1.2.1, v.1.2.2.1, v.1.2.2.2.1⟩ : Fs), v.2.1, v.2.2.1, v.2.2.2.1)
noncomputable def qarc : HX.V qara → (List Seen) := fun v => (v)
noncomputable def qard : (List Seen) → HX.V qara := fun y => (y)
noncomputable def qare (nn : Nat) : (Fs × Int × Str × Int) → Option ((List Seen)) := fun x => ref08_Below_r nn x.1 x.2.1 x.2.2.1 x.2.2.2
noncomputable def qarf (nn : Nat) : Spec := mkSpec qaq9 qara qarb qard (qare nn)
noncomputable def qarg : (Fs × Int × Str × Int) → Option ((List Seen)) := fun x => ref08_Below x.1 x.2.1 x.2.2.1 x.2.2.2
noncomputable def qarh : Spec := mkSpec qaq9 qara qarb qard qarg
noncomputable def qari {R : Type} (nn : Nat) : List (Nat × Hd R) := [(6, hdOf qaq7 (qaq8 nn))]
noncomputable def qarj {R : Type} (nn : Nat) : List (Nat × Inl R) := []
noncomputable def qark (nn : Nat) : Cfg := { T := qaqj, spec := [(29, qaho), (49, qarf nn), (77, qaqx)], glob := GlobL.G Tryz.prog, eqs := qaqk, N := 57, fuel := 64, loops := [(6, ⟨[2, 3, 4, 9, 11, 12], [], [0, 1, 2], 3, [], [], [], []⟩)], joins := [], blocks := [(0, ⟨[11], [], [2], 3, [], [], [], []⟩)], ovl := [], retA := none, fid := 49, rnd := false, saves := [] }
theorem qarl (nn : Nat) (hrec : SpecOK Tryz.prog 49 (qarf nn)) : CfgOK Tryz.prog (qark nn) := ⟨tsOK_of qaqm, specsL_ok (show SpecsL Tryz.prog (qark nn).spec from ⟨qahy, ⟨hrec, ⟨qaq6, trivial⟩⟩⟩), qaqn, ovlL_ok (trivial), globsOK_of rfl, freshL_ok (show FreshL Tryz.prog (qark nn).fresh from trivial), specsL_ok (show SpecsL Tryz.prog (qark nn).gns from trivial)⟩
theorem qarm {R : Type} (nn : Nat) : SubsOK Tryz.prog (R := R) 0 (qarj nn) := subsOK_nil _ _
theorem qarn {R : Type} (nn : Nat) : LoopOK (R := R) (hnd 0 (qarj nn)) (qark nn) (qari nn) (sub [1, 1, 1, 1, 0, 1, 0, 0] qaqp) (HS.V qaq7) (HS.st qaq7) (HS.sh qaq7) (qaq8 nn) (hdOf qaq7 (qaq8 nn)) := loopOK_of qaq7 (qaq8 nn) (fun _ _ => rfl) (by intro q v K; kernel_rfl)
theorem qaro {R : Type} (nn : Nat) : LoopsOK (R := R) (hnd 0 (qarj nn)) (qark nn) (qari nn) qaqp := loopsOK_of (l := [sub [1, 1, 1, 1, 0, 1, 0, 0] qaqp]) (by kernel_rfl) (loopsL_cons (b := sub [1, 1, 1, 1, 0, 1, 0, 0] qaqp) (rid := 6) (by kernel_rfl) (by kernel_rfl) (qarn nn) (trivial))
theorem qarp (nn : Nat) : RngsOK Tryz.prog (qark nn) qaqp := rngs0 (by kernel_rfl)
theorem qarq (nn : Nat) : ∀ v, runFn (hnd 0 (qarj nn)) (qark nn) (qari nn) qaqp Tryz.f49.results.toList (HP.st qaq9 v) (decOf qara qarc) = qare (nn + 1) (qarb v) := by intro v; kernel_rfl
theorem qarr : ∀ nn, SpecOK Tryz.prog 49 (qarf nn)
  | 0 => ⟨enters_of (fn := Tryz.f49) (body := qaqp) (by kernel_rfl) (by kernel_rfl) (by kernel_rfl), fun S w args vs x y _ _ _ _ h => by cases h⟩
  | nn + 1 => specOK_mk (fn := Tryz.f49) (by kernel_rfl) (by kernel_rfl) (by kernel_rfl) (qarl nn (qarr nn)) (by kernel_rfl) (by kernel_rfl) qaql (by kernel_rfl) (fun _ => rfl) (d := 0) (qarm nn) (qaro nn) (qarp nn) (qarq nn)
theorem qars : SpecOK Tryz.prog 49 qarh := qarr FUEL
noncomputable def qart : List HV := [.agg [.int .i64, .int .i64, .int .i64, .sl .inode]]
noncomputable def qaru : List HV := [.one (.sl .seen)]
noncomputable def qarv : HP.V qart → Fs := fun v => ((⟨v.1.1, v.1.2.1, v.1.2.2.1, v.1.2.2.2.1⟩ : Fs))
noncomputable def qarw : HX.V qaru → (List Seen) := fun v => (v)
noncomputable def qarx : (List Seen) → HX.V qaru := fun y => (y)
noncomputable def qary : Fs → Option ((List Seen)) := fun x => ref08_List x
noncomputable def qarz : Spec := mkSpec qart qaru qarv qarx qary
noncomputable def qar0 {R : Type} : List (Nat × Hd R) := []
noncomputable def qar1 {R : Type} : List (Nat × Inl R) := []
noncomputable def qar2 : Cfg := { T := qaqj, spec := [(49, qarh)], glob := GlobL.G Tryz.prog, eqs := qaqk, N := 8, fuel := 64, loops := [], joins := [], blocks := [], ovl := [], retA := none, fid := 15, rnd := false, saves := [] }
theorem qar3 : CfgOK Tryz.prog qar2 := ⟨tsOK_of qaqm, specsL_ok (show SpecsL Tryz.prog qar2.spec from ⟨qars, trivial⟩), qaqn, ovlL_ok (trivial), globsOK_of rfl, freshL_ok (show FreshL Tryz.prog qar2.fresh from trivial), specsL_ok (show SpecsL Tryz.prog qar2.gns from trivial)⟩
theorem qar4 {R : Type} : SubsOK Tryz.prog (R := R) 0 qar1 := subsOK_nil _ _
theorem qar5 {R : Type} : LoopsOK (R := R) (hnd 0 qar1) qar2 qar0 qaqo := loopsOK_of (l := []) (by kernel_rfl) (trivial)
theorem qar6 : RngsOK Tryz.prog qar2 qaqo := rngs0 (by kernel_rfl)
theorem qar7 : ∀ v, runFn (hnd 0 qar1) qar2 qar0 qaqo Tryz.f15.results.toList (HP.st qart v) (decOf qaru qarw) = qary (qarv v) := by intro v; kernel_rfl
theorem qar8 : SpecOK Tryz.prog 15 qarz := specOK_mk (fn := Tryz.f15) (by kernel_rfl) (by kernel_rfl) (by kernel_rfl) qar3 (by kernel_rfl) (by kernel_rfl) qaql (by kernel_rfl) (fun _ => rfl) (d := 0) qar4 qar5 qar6 qar7
end Go.Eng
set_option linter.unusedVariables false
set_option maxRecDepth 100000
namespace Go.Eng
open Go Go.Proofs
noncomputable def qar9 : List (Nat × TI) := [(3, ⟨false, 1, .one (.int .i64 0), .int .i64⟩), (9, ⟨false, 1, .one (.str []), .str⟩), (24, ⟨true, 4, .agg [.int .i64 0, .int .i64 0, .int .i64 0, .clip .inode []], .struct [(0, 3), (1, 3), (2, 3), (3, 22)]⟩), (32, ⟨false, 1, .one (.clip .entry []), .slice .entry 90⟩), (34, ⟨true, 6, .agg [.int .i64 0, .int .i64 0, .int .i64 0, .str [], .int .i64 0, .clip .entry []], .struct [(0, 3), (1, 3), (2, 3), (3, 9), (4, 3), (5, 32)]⟩), (38, ⟨true, 3, .agg [.int .i64 0, .str [], .int .i64 0], .struct [(0, 3), (1, 9), (2, 3)]⟩), (84, ⟨false, 1, .one (.clip .str []), .slice .str 9⟩)]
noncomputable def qasa : List (Nat × List EK) := []
theorem qasb : Tryz.prog.follows .mixedOrders = true := by kernel_rfl
theorem qasc : (qar9.all fun x => tiB Tryz.prog x.1 x.2) = true := by kernel_rfl
theorem qasd {c : Cfg} (h : c.eqs = qasa := by rfl) : EqsOK Tryz.prog c := eqsOK_of (by rw [h]; kernel_rfl)
noncomputable def qase : Code := match Tryz.f16.body with | some b => b | none => .skip
noncomputable def qasf : Code := match Tryz.f18.body with | some b => b | none => .skip
noncomputable def qasg : Code := match Tryz.f26.body with | some b => b | none => .skip
noncomputable def qash : Code := match Tryz.f28.body with | some b => b | none => .skip
noncomputable def qasi : HS := ⟨[(2, .one (.ptr 0 0)), (4, .one (.ptr 1 0)), (6, .one (.sl .str)), (8, .one (.ptr 2 0)), (9, .one (.int .i64))], [(0, .cells [.int .i64, .int .i64, .int .i64, .sl .inode]), (1, .cells [.int .i64, .str, .int .i64]), (2, .cells [.int .i64, .str, .int .i64])], 3⟩
noncomputable def qasj {R : Type} : Nat → HS.V qasi → (Ex → St → Option R) → Option R := fun q v K =>
  ref09_At_L6 v.1.2.2.1 (⟨v.2.1.1, v.2.1.2.1, v.2.1.2.2.1, v.2.1.2.2.2.1⟩ : Fs) (fun y11 => K .ret { regs := [(4, .v (.one (.ptr 1 0))), (5, .v (.one (.int .i64 y11)))], mem := [(1, .cells [.int .i64 ((⟨0, [], 0⟩ : Spotted).dir), .str ((⟨0, [], 0⟩ : Spotted).name), .int .i64 ((⟨0, [], 0⟩ : Spotted).ino)])], nx := 2 }) (fun y14 => K (.exit 0) { regs := [(4, .v (.one (.ptr 1 0))), (8, .v (.one (.ptr 2 0)))], mem := [(1, .cells [.int .i64 ((⟨v.2.2.1.1, v.2.2.1.2.1, v.2.2.1.2.2.1⟩ : Spotted).dir), .str ((⟨v.2.2.1.1, v.2.2.1.2.1, v.2.2.1.2.2.1⟩ : Spotted).name), .int .i64 ((⟨v.2.2.1.1, v.2.2.1.2.1, v.2.2.1.2.2.1⟩ : Spotted).ino)]), (2, .cells [.int .i64 y14.dir, .str y14.name, .int .i64 y14.ino])], nx := 3 }) q v.1.2.2.2.2.1 (⟨v.2.2.2.1.1, v.2.2.2.1.2.1, v.2.2.2.1.2.2.1⟩ : Spotted)
noncomputable def qask : List HV := [.agg [.int .i64, .int .i64, .int .i64, .sl .inode], .one (.str)]
noncomputable def qasl : List HV := [.agg [.int .i64, .str, .int .i64], .one (.int .i64)]
noncomputable def qasm : HP.V qask → Fs × Str := fun v => ((⟨v.1.1, v.1.2.1, v.1.2.2.1, v.1.2.2.2.1⟩ : Fs), v.2.1)
noncomputable def qasn : HX.V qasl → Spotted × Int := fun v => ((⟨v.1.1, v.1.2.1, v.1.2.2.1⟩ : Spotted), v.2)
noncomputable def qaso : (Spotted × Int) → HX.V qasl := fun y => ((y.1.dir, (y.1.name, (y.1.ino, ()))), y.2)
noncomputable def qasp : (Fs × Str) → Option (Spotted × Int) := fun x => ref09_At x.1 x.2
noncomputable def qasq : Spec := mkSpec qask qasl qasm qaso qasp
noncomputable def qasr {R : Type} : List (Nat × Hd R) := [(6, hdOf qasi qasj)]
noncomputable def qass {R : Type} : List (Nat × Inl R) := []
noncomputable def qast : Cfg := { T := qar9, spec := [(29, qaho), (30, qado), (52, qacc)], glob := GlobL.G Tryz.prog, eqs := qasa, N := 63, fuel := 64, loops := [(6, ⟨[2, 4, 6, 8, 9], [], [0, 1, 2], 3, [], [], [], []⟩)], joins := [], blocks := [(0, ⟨[4, 8], [], [1, 2], 3, [], [], [], []⟩)], ovl := [], retA := some ⟨[4, 5], [], [1], 2, [], [], [], []⟩, fid := 18, rnd := false, saves := [] }
theorem qasu : CfgOK Tryz.prog qast := ⟨tsOK_of qasc, specsL_ok (show SpecsL Tryz.prog qast.spec from ⟨qahy, ⟨qady, ⟨qacm, trivial⟩⟩⟩), qasd, ovlL_ok (trivial), globsOK_of rfl, freshL_ok (show FreshL Tryz.prog qast.fresh from trivial), specsL_ok (show SpecsL Tryz.prog qast.gns from trivial)⟩
theorem qasv {R : Type} : SubsOK Tryz.prog (R := R) 0 qass := subsOK_nil _ _
theorem qasw {R : Type} : LoopOK (R := R) (hnd 0 qass) qast qasr (sub [1, 1, 1, 1, 0, 1, 0, 0] qasf) (HS.V qasi) (HS.st qasi) (HS.sh qasi) qasj (hdOf qasi qasj) := loopOK_of qasi qasj (fun _ _ => rfl) (by intro q v K; kernel_rfl)
theorem qasx {R : Type} : LoopsOK (R := R) (hnd 0 qass) qast qasr qasf := loopsOK_of (l := [sub [1, 1, 1, 1, 0, 1, 0, 0] qasf]) (by kernel_rfl) (loopsL_cons (b := sub [1, 1, 1, 1, 0, 1, 0, 0] qasf) (rid := 6) (by kernel_rfl) (by kernel_rfl) qasw (trivial))
theorem qasy : RngsOK Tryz.prog qast qasf := rngs0 (by kernel_rfl)
theorem qasz : ∀ v, runFn (hnd 0 qass) qast qasr qasf Tryz.f18.results.toList (HP.st qask v) (decOf qasl qasn) = qasp (qasm v) := by intro v; kernel_rfl
theorem qas0 : SpecOK Tryz.prog 18 qasq := specOK_mk (fn := Tryz.f18) (by kernel_rfl) (by kernel_rfl) (by kernel_rfl) qasu (by kernel_rfl) (by kernel_rfl) qasb (by kernel_rfl) (fun _ => rfl) (d := 0) qasv qasx qasy qasz
noncomputable def qas1 : List HV := [.agg [.int .i64, .int .i64, .int .i64, .sl .inode], .one (.str)]
noncomputable def qas2 : List HV := [.agg [.int .i64, .int .i64, .int .i64, .str, .int .i64, .sl .entry], .one (.int .i64)]
noncomputable def qas3 : HP.V qas1 → Fs × Str := fun v => ((⟨v.1.1, v.1.2.1, v.1.2.2.1, v.1.2.2.2.1⟩ : Fs), v.2.1)
noncomputable def qas4 : HX.V qas2 → Inode × Int := fun v => ((⟨v.1.1, v.1.2.1, v.1.2.2.1, v.1.2.2.2.1, v.1.2.2.2.2.1, v.1.2.2.2.2.2.1⟩ : Inode), v.2)
noncomputable def qas5 : (Inode × Int) → HX.V qas2 := fun y => ((y.1.ino, (y.1.kind, (y.1.links, (y.1.data, (y.1.parent, (y.1.entries, ())))))), y.2)
noncomputable def qas6 : (Fs × Str) → Option (Inode × Int) := fun x => ref09_Get x.1 x.2
noncomputable def qas7 : Spec := mkSpec qas1 qas2 qas3 qas5 qas6
noncomputable def qas8 {R : Type} : List (Nat × Hd R) := []
noncomputable def qas9 {R : Type} : List (Nat × Inl R) := []
noncomputable def qata : Cfg := { T := qar9, spec := [(18, qasq), (29, qaho)], glob := GlobL.G Tryz.prog, eqs := qasa, N := 32, fuel := 64, loops := [], joins := [], blocks := [], ovl := [], retA := none, fid := 16, rnd := false, saves := [] }
theorem qatb : CfgOK Tryz.prog qata := ⟨tsOK_of qasc, specsL_ok (show SpecsL Tryz.prog qata.spec from ⟨qas0, ⟨qahy, trivial⟩⟩), qasd, ovlL_ok (trivial), globsOK_of rfl, freshL_ok (show FreshL Tryz.prog qata.fresh from trivial), specsL_ok (show SpecsL Tryz.prog qata.gns from trivial)⟩
theorem qatc {R : Type} : SubsOK Tryz.prog (R := R) 0 qas9 := subsOK_nil _ _
theorem qatd {R : Type} : LoopsOK (R := R) (hnd 0 qas9) qata qas8 qase := loopsOK_of (l := []) (by kernel_rfl) (trivial)
theorem qate : RngsOK Tryz.prog qata qase := rngs0 (by kernel_rfl)
theorem qatf : ∀ v, runFn (hnd 0 qas9) qata qas8 qase Tryz.f16.results.toList (HP.st qas1 v) (decOf qas2 qas4) = qas6 (qas3 v) := by intro v; kernel_rfl
theorem qatg : SpecOK Tryz.prog 16 qas7 := specOK_mk (fn := Tryz.f16) (by kernel_rfl) (by kernel_rfl) (by kernel_rfl) qatb (by kernel_rfl) (by kernel_rfl) qasb (by kernel_rfl) (fun _ => rfl) (d := 0) qatc qatd qate qatf
noncomputable def qath : List HV := [.agg [.int .i64, .int .i64, .int .i64, .sl .inode], .one (.str), .one (.int .i64)]
noncomputable def qati : List HV := [.agg [.int .i64, .int .i64, .int .i64, .sl .inode]]
noncomputable def qatj : HP.V qath → Fs × Str × Int := fun v => ((⟨v.1.1, v.1.2.1, v.1.2.2.1, v.1.2.2.2.1⟩ : Fs), v.2.1, v.2.2.1)
noncomputable def qatk : HX.V qati → Fs := fun v => ((⟨v.1, v.2.1, v.2.2.1, v.2.2.2.1⟩ : Fs))
noncomputable def qatl : Fs → HX.V qati := fun y => ((y.maxInodes, (y.maxBytes, (y.next, (y.inodes, ())))))
noncomputable def qatm : (Fs × Str × Int) → Option (Fs) := fun x => ref09_Put x.1 x.2.1 x.2.2
noncomputable def qatn : Spec := mkSpec qath qati qatj qatl qatm
noncomputable def qato {R : Type} : List (Nat × Hd R) := []
noncomputable def qatp {R : Type} : List (Nat × Inl R) := []
noncomputable def qatq : Cfg := { T := qar9, spec := [(18, qasq), (29, qaho), (54, qag5), (63, qae9)], glob := GlobL.G Tryz.prog, eqs := qasa, N := 34, fuel := 64, loops := [], joins := [], blocks := [], ovl := [], retA := none, fid := 26, rnd := false, saves := [] }
theorem qatr : CfgOK Tryz.prog qatq := ⟨tsOK_of qasc, specsL_ok (show SpecsL Tryz.prog qatq.spec from ⟨qas0, ⟨qahy, ⟨qahf, ⟨qafj, trivial⟩⟩⟩⟩), qasd, ovlL_ok (trivial), globsOK_of rfl, freshL_ok (show FreshL Tryz.prog qatq.fresh from trivial), specsL_ok (show SpecsL Tryz.prog qatq.gns from trivial)⟩
theorem qats {R : Type} : SubsOK Tryz.prog (R := R) 0 qatp := subsOK_nil _ _
theorem qatt {R : Type} : LoopsOK (R := R) (hnd 0 qatp) qatq qato qasg := loopsOK_of (l := []) (by kernel_rfl) (trivial)
theorem qatu : RngsOK Tryz.prog qatq qasg := rngs0 (by kernel_rfl)
theorem qatv : ∀ v, runFn (hnd 0 qatp) qatq qato qasg Tryz.f26.results.toList (HP.st qath v) (decOf qati qatk) = qatm (qatj v) := by intro v; kernel_rfl
theorem qatw : SpecOK Tryz.prog 26 qatn := specOK_mk (fn := Tryz.f26) (by kernel_rfl) (by kernel_rfl) (by kernel_rfl) qatr (by kernel_rfl) (by kernel_rfl) qasb (by kernel_rfl) (fun _ => rfl) (d := 0) qats qatt qatu qatv
noncomputable def qatx : List HV := [.agg [.int .i64, .int .i64, .int .i64, .sl .inode], .one (.str)]
noncomputable def qaty : List HV := [.agg [.int .i64, .int .i64, .int .i64, .sl .inode]]
noncomputable def qatz : HP.V qatx → Fs × Str := fun v => ((⟨v.1.1, v.1.2.1, v.1.2.2.1, v.1.2.2.2.1⟩ : Fs), v.2.1)
noncomputable def qat0 : HX.V qaty → Fs := fun v => ((⟨v.1, v.2.1, v.2.2.1, v.2.2.2.1⟩ : Fs))
noncomputable def qat1 : Fs → HX.V qaty := fun y => ((y.maxInodes, (y.maxBytes, (y.next, (y.inodes, ())))))
noncomputable def qat2 : (Fs × Str) → Option (Fs) := fun x => ref09_Take x.1 x.2
noncomputable def qat3 : Spec := mkSpec qatx qaty qatz qat1 qat2
noncomputable def qat4 {R : Type} : List (Nat × Hd R) := []
noncomputable def qat5 {R : Type} : List (Nat × Inl R) := []
noncomputable def qat6 : Cfg := { T := qar9, spec := [(18, qasq), (29, qaho), (54, qag5), (65, qaeq)], glob := GlobL.G Tryz.prog, eqs := qasa, N := 31, fuel := 64, loops := [], joins := [], blocks := [], ovl := [], retA := none, fid := 28, rnd := false, saves := [] }
theorem qat7 : CfgOK Tryz.prog qat6 := ⟨tsOK_of qasc, specsL_ok (show SpecsL Tryz.prog qat6.spec from ⟨qas0, ⟨qahy, ⟨qahf, ⟨qae0, trivial⟩⟩⟩⟩), qasd, ovlL_ok (trivial), globsOK_of rfl, freshL_ok (show FreshL Tryz.prog qat6.fresh from trivial), specsL_ok (show SpecsL Tryz.prog qat6.gns from trivial)⟩
theorem qat8 {R : Type} : SubsOK Tryz.prog (R := R) 0 qat5 := subsOK_nil _ _
theorem qat9 {R : Type} : LoopsOK (R := R) (hnd 0 qat5) qat6 qat4 qash := loopsOK_of (l := []) (by kernel_rfl) (trivial)
theorem qaua : RngsOK Tryz.prog qat6 qash := rngs0 (by kernel_rfl)
theorem qaub : ∀ v, runFn (hnd 0 qat5) qat6 qat4 qash Tryz.f28.results.toList (HP.st qatx v) (decOf qaty qat0) = qat2 (qatz v) := by intro v; kernel_rfl
theorem qauc : SpecOK Tryz.prog 28 qat3 := specOK_mk (fn := Tryz.f28) (by kernel_rfl) (by kernel_rfl) (by kernel_rfl) qat7 (by kernel_rfl) (by kernel_rfl) qasb (by kernel_rfl) (fun _ => rfl) (d := 0) qat8 qat9 qaua qaub
end Go.Eng
set_option linter.unusedVariables false
set_option maxRecDepth 100000
namespace Go.Eng
open Go Go.Proofs
noncomputable def qaud : List (Nat × TI) := [(3, ⟨false, 1, .one (.int .i64 0), .int .i64⟩), (4, ⟨false, 1, .one (.bool false), .bool⟩), (9, ⟨false, 1, .one (.str []), .str⟩), (22, ⟨false, 1, .one (.clip .inode []), .slice .inode 34⟩), (24, ⟨true, 4, .agg [.int .i64 0, .int .i64 0, .int .i64 0, .clip .inode []], .struct [(0, 3), (1, 3), (2, 3), (3, 22)]⟩), (32, ⟨false, 1, .one (.clip .entry []), .slice .entry 90⟩), (34, ⟨true, 6, .agg [.int .i64 0, .int .i64 0, .int .i64 0, .str [], .int .i64 0, .clip .entry []], .struct [(0, 3), (1, 3), (2, 3), (3, 9), (4, 3), (5, 32)]⟩), (38, ⟨true, 3, .agg [.int .i64 0, .str [], .int .i64 0], .struct [(0, 3), (1, 9), (2, 3)]⟩), (84, ⟨false, 1, .one (.clip .str []), .slice .str 9⟩), (101, ⟨true, 3, .agg [.bool false, .clip .str [], .bool false], .struct [(0, 4), (1, 84), (2, 4)]⟩)]
noncomputable def qaue : List (Nat × List EK) := []
theorem qauf : Tryz.prog.follows .mixedOrders = true := by kernel_rfl
theorem qaug : (qaud.all fun x => tiB Tryz.prog x.1 x.2) = true := by kernel_rfl
theorem qauh {c : Cfg} (h : c.eqs = qaue := by rfl) : EqsOK Tryz.prog c := eqsOK_of (by rw [h]; kernel_rfl)
noncomputable def qaui : Code := match Tryz.f14.body with | some b => b | none => .skip
noncomputable def qauj : HS := ⟨[(1, .one (.str)), (2, .one (.str)), (3, .one (.ptr 0 0)), (7, .one (.int .i64))], [(0, .cells [.int .i64, .int .i64, .int .i64, .sl .inode])], 1⟩
noncomputable def qauk {R : Type} : Nat → HS.V qauj → (Ex → St → Option R) → Option R := fun q v K =>
  ref10_Short_L2 (⟨v.2.1.1, v.2.1.2.1, v.2.1.2.2.1, v.2.1.2.2.2.1⟩ : Fs) (K .ret { regs := [(6, .v (.one (.bool false)))], mem := [], nx := 0 }) (K (.exit 0) { regs := [(1, .v (.one (.str v.1.1))), (2, .v (.one (.str v.1.2.1)))], mem := [], nx := 0 }) q v.1.2.2.2.1
noncomputable def qaul : List HV := [.agg [.int .i64, .int .i64, .int .i64, .sl .inode], .one (.str), .one (.str)]
noncomputable def qaum : List HV := [.one (.bool)]
noncomputable def qaun : HP.V qaul → Fs × Str × Str := fun v => ((⟨v.1.1, v.1.2.1, v.1.2.2.1, v.1.2.2.2.1⟩ : Fs), v.2.1, v.2.2.1)
noncomputable def qauo : HX.V qaum → Bool := fun v => (v)
noncomputable def qaup : Bool → HX.V qaum := fun y => (y)
noncomputable def qauq : (Fs × Str × Str) → Option (Bool) := fun x => ref10_Short x.1 x.2.1 x.2.2
noncomputable def qaur : Spec := mkSpec qaul qaum qaun qaup qauq
noncomputable def qaus {R : Type} : List (Nat × Hd R) := [(2, hdOf qauj qauk)]
noncomputable def qaut {R : Type} : List (Nat × Inl R) := []
noncomputable def qauu : Cfg := { T := qaud, spec := [], glob := GlobL.G Tryz.prog, eqs := qaue, N := 44, fuel := 64, loops := [(2, ⟨[1, 2, 3, 7], [], [0], 1, [], [], [], []⟩)], joins := [], blocks := [(0, ⟨[1, 2], [], [], 0, [], [], [], []⟩)], ovl := [], retA := some ⟨[6], [], [], 0, [], [], [], []⟩, fid := 14, rnd := false, saves := [] }
theorem qauv : CfgOK Tryz.prog qauu := ⟨tsOK_of qaug, specsL_ok (show SpecsL Tryz.prog qauu.spec from trivial), qauh, ovlL_ok (trivial), globsOK_of rfl, freshL_ok (show FreshL Tryz.prog qauu.fresh from trivial), specsL_ok (show SpecsL Tryz.prog qauu.gns from trivial)⟩
theorem qauw {R : Type} : SubsOK Tryz.prog (R := R) 0 qaut := subsOK_nil _ _
theorem qaux {R : Type} : LoopOK (R := R) (hnd 0 qaut) qauu qaus (sub [1, 0, 1, 0, 0] qaui) (HS.V qauj) (HS.st qauj) (HS.sh qauj) qauk (hdOf qauj qauk) := loopOK_of qauj qauk (fun _ _ => rfl) (by intro q v K; kernel_rfl)
theorem qauy {R : Type} : LoopsOK (R := R) (hnd 0 qaut) qauu qaus qaui := loopsOK_of (l := [sub [1, 0, 1, 0, 0] qaui]) (by kernel_rfl) (loopsL_cons (b := sub [1, 0, 1, 0, 0] qaui) (rid := 2) (by kernel_rfl) (by kernel_rfl) qaux (trivial))
theorem qauz : RngsOK Tryz.prog qauu qaui := rngs0 (by kernel_rfl)
theorem qau0 : ∀ v, runFn (hnd 0 qaut) qauu qaus qaui Tryz.f14.results.toList (HP.st qaul v) (decOf qaum qauo) = qauq (qaun v) := by intro v; kernel_rfl
theorem qau1 : SpecOK Tryz.prog 14 qaur := specOK_mk (fn := Tryz.f14) (by kernel_rfl) (by kernel_rfl) (by kernel_rfl) qauv (by kernel_rfl) (by kernel_rfl) qauf (by kernel_rfl) (fun _ => rfl) (d := 0) qauw qauy qauz qau0
end Go.Eng
set_option linter.unusedVariables false
set_option maxRecDepth 100000
namespace Go.Eng
open Go Go.Proofs
noncomputable def qau2 : List (Nat × TI) := [(3, ⟨false, 1, .one (.int .i64 0), .int .i64⟩), (9, ⟨false, 1, .one (.str []), .str⟩), (32, ⟨false, 1, .one (.clip .entry []), .slice .entry 90⟩), (90, ⟨true, 2, .agg [.str [], .int .i64 0], .struct [(0, 9), (1, 3)]⟩), (153, ⟨false, 1, .one (.int .u64 0), .int .u64⟩)]
noncomputable def qau3 : List (Nat × List EK) := []
theorem qau4 : Tryz.prog.follows .mixedOrders = true := by kernel_rfl
theorem qau5 : (qau2.all fun x => tiB Tryz.prog x.1 x.2) = true := by kernel_rfl
theorem qau6 {c : Cfg} (h : c.eqs = qau3 := by rfl) : EqsOK Tryz.prog c := eqsOK_of (by rw [h]; kernel_rfl)
noncomputable def qau7 : Code := match Tryz.f57.body with | some b => b | none => .skip
noncomputable def qau8 : Code := match Tryz.f62.body with | some b => b | none => .skip
noncomputable def qau9 : Code := match Tryz.f64.body with | some b => b | none => .skip
noncomputable def qava : Code := match Tryz.f92.body with | some b => b | none => .skip
noncomputable def qavb : Code := match Tryz.f93.body with | some b => b | none => .skip
noncomputable def qavc : Code := match Tryz.f94.body with | some b => b | none => .skip
noncomputable def qavd : Code := match Tryz.f119.body with | some b => b | none => .skip
noncomputable def qave : Code := match Tryz.f120.body with | some b => b | none => .skip
noncomputable def qavf : HS := ⟨[(0, .one (.sl .entry)), (1, .one (.str)), (2, .one (.fnc 120)), (8, .one (.int .i64)), (9, .one (.int .i64)), (10, .one (.int .i64))], [], 0⟩
noncomputable def qavg {R : Type} : Nat → HS.V qavf → (Ex → St → Option R) → Option R := fun q v K =>
  entry_at_8_L3 v.1.1 v.1.2.1 (fun y11 => K (.exit 0) { regs := [(0, .v (.one (.sl .entry v.1.1))), (1, .v (.one (.str v.1.2.1))), (2, .v (.one (.fnc 120))), (8, .v (.one (.int .i64 v.1.2.2.2.1))), (9, .v (.one (.int .i64 y11)))], mem := [], nx := 0 }) q v.1.2.2.2.2.1 v.1.2.2.2.2.2.1
noncomputable def qavh : List HV := [.one (.sl .entry), .one (.str)]
noncomputable def qavi : List HV := [.one (.int .i64), .one (.bool)]
noncomputable def qavj : HP.V qavh → (List Entry) × Str := fun v => (v.1, v.2.1)
noncomputable def qavk : HX.V qavi → Int × Bool := fun v => (v.1, v.2)
noncomputable def qavl : (Int × Bool) → HX.V qavi := fun y => (y.1, y.2)
noncomputable def qavm : (List Entry) × Str → Option (Int × Bool) := fun x => entry_at x.1 x.2
noncomputable def qavn : Spec := mkSpec qavh qavi qavj qavl qavm
noncomputable def qavo {R : Type} : List (Nat × Hd R) := []
noncomputable def qavp {R : Type} : List (Nat × Inl R) := []
noncomputable def qavq : Cfg := { T := qau2, spec := [(121, strings_Compare_sp)], glob := GlobL.G Tryz.prog, eqs := qau3, N := 9, fuel := 64, loops := [], joins := [], blocks := [], ovl := [], retA := none, fid := 120, rnd := false, saves := [] }
theorem qavr : CfgOK Tryz.prog qavq := ⟨tsOK_of qau5, specsL_ok (show SpecsL Tryz.prog qavq.spec from ⟨strings_Compare_ok, trivial⟩), qau6, ovlL_ok (trivial), globsOK_of rfl, freshL_ok (show FreshL Tryz.prog qavq.fresh from trivial), specsL_ok (show SpecsL Tryz.prog qavq.gns from trivial)⟩
theorem qavs {R : Type} : SubsOK Tryz.prog (R := R) 0 qavp := subsOK_nil _ _
theorem qavt {R : Type} : LoopsOK (R := R) (hnd 0 qavp) qavq qavo qave := loopsOK_of (l := []) (by kernel_rfl) (trivial)
theorem qavu : RngsOK Tryz.prog qavq qave := rngs0 (by kernel_rfl)
noncomputable def qavv {R : Type} : Inl R := .mk 120 qavq qavo qave Tryz.f120.results.toList qavp
noncomputable def qavw {R : Type} : List (Nat × Hd R) := []
noncomputable def qavx {R : Type} : List (Nat × Inl R) := []
noncomputable def qavy : Cfg := { T := qau2, spec := [(121, strings_Compare_sp)], glob := GlobL.G Tryz.prog, eqs := qau3, N := 9, fuel := 64, loops := [], joins := [], blocks := [], ovl := [], retA := none, fid := 120, rnd := false, saves := [] }
theorem qavz : CfgOK Tryz.prog qavy := ⟨tsOK_of qau5, specsL_ok (show SpecsL Tryz.prog qavy.spec from ⟨strings_Compare_ok, trivial⟩), qau6, ovlL_ok (trivial), globsOK_of rfl, freshL_ok (show FreshL Tryz.prog qavy.fresh from trivial), specsL_ok (show SpecsL Tryz.prog qavy.gns from trivial)⟩
theorem qav0 {R : Type} : SubsOK Tryz.prog (R := R) 0 qavx := subsOK_nil _ _
theorem qav1 {R : Type} : LoopsOK (R := R) (hnd 0 qavx) qavy qavw qave := loopsOK_of (l := []) (by kernel_rfl) (trivial)
theorem qav2 : RngsOK Tryz.prog qavy qave := rngs0 (by kernel_rfl)
noncomputable def qav3 {R : Type} : Inl R := .mk 120 qavy qavw qave Tryz.f120.results.toList qavx
noncomputable def qav4 {R : Type} : List (Nat × Hd R) := [(3, hdOf qavf qavg)]
noncomputable def qav5 {R : Type} : List (Nat × Inl R) := [(30, qavv), (46, qav3)]
noncomputable def qav6 : Cfg := { T := qau2, spec := [], glob := GlobL.G Tryz.prog, eqs := qau3, N := 49, fuel := 64, loops := [(3, ⟨[0, 1, 2, 8, 9, 10], [], [], 0, [], [], [], []⟩)], joins := [], blocks := [(0, ⟨[0, 1, 2, 8, 9], [], [], 0, [], [], [], []⟩)], ovl := [], retA := none, fid := 119, rnd := false, saves := [] }
theorem qav7 : CfgOK Tryz.prog qav6 := ⟨tsOK_of qau5, specsL_ok (show SpecsL Tryz.prog qav6.spec from trivial), qau6, ovlL_ok (trivial), globsOK_of rfl, freshL_ok (show FreshL Tryz.prog qav6.fresh from trivial), specsL_ok (show SpecsL Tryz.prog qav6.gns from trivial)⟩
theorem qav8 {R : Type} : SubsOK Tryz.prog (R := R) 1 qav5 := subsOK_cons (fn := Tryz.f120) (by kernel_rfl) (by kernel_rfl) (by kernel_rfl) (by kernel_rfl) (by kernel_rfl) qavr qavt qavu qavs (subsOK_cons (fn := Tryz.f120) (by kernel_rfl) (by kernel_rfl) (by kernel_rfl) (by kernel_rfl) (by kernel_rfl) qavz qav1 qav2 qav0 (subsOK_nil _ _))
theorem qav9 {R : Type} : LoopOK (R := R) (hnd 1 qav5) qav6 qav4 (sub [1, 1, 1, 0, 0, 0] qavd) (HS.V qavf) (HS.st qavf) (HS.sh qavf) qavg (hdOf qavf qavg) := loopOK_of qavf qavg (fun _ _ => rfl) (by intro q v K; kernel_rfl)
theorem qawa {R : Type} : LoopsOK (R := R) (hnd 1 qav5) qav6 qav4 qavd := loopsOK_of (l := [sub [1, 1, 1, 0, 0, 0] qavd]) (by kernel_rfl) (loopsL_cons (b := sub [1, 1, 1, 0, 0, 0] qavd) (rid := 3) (by kernel_rfl) (by kernel_rfl) qav9 (trivial))
theorem qawb : RngsOK Tryz.prog qav6 qavd := rngs0 (by kernel_rfl)
noncomputable def qawc {R : Type} : Inl R := .mk 119 qav6 qav4 qavd Tryz.f119.results.toList qav5
noncomputable def qawd {R : Type} : List (Nat × Hd R) := []
noncomputable def qawe {R : Type} : List (Nat × Inl R) := [(8, qawc)]
noncomputable def qawf : Cfg := { T := qau2, spec := [], glob := GlobL.G Tryz.prog, eqs := qau3, N := 11, fuel := 64, loops := [], joins := [], blocks := [], ovl := [], retA := none, fid := 92, rnd := false, saves := [] }
theorem qawg : CfgOK Tryz.prog qawf := ⟨tsOK_of qau5, specsL_ok (show SpecsL Tryz.prog qawf.spec from trivial), qau6, ovlL_ok (trivial), globsOK_of rfl, freshL_ok (show FreshL Tryz.prog qawf.fresh from trivial), specsL_ok (show SpecsL Tryz.prog qawf.gns from trivial)⟩
theorem qawh {R : Type} : SubsOK Tryz.prog (R := R) 2 qawe := subsOK_cons (fn := Tryz.f119) (by kernel_rfl) (by kernel_rfl) (by kernel_rfl) (by kernel_rfl) (by kernel_rfl) qav7 qawa qawb qav8 (subsOK_nil _ _)
theorem qawi {R : Type} : LoopsOK (R := R) (hnd 2 qawe) qawf qawd qava := loopsOK_of (l := []) (by kernel_rfl) (trivial)
theorem qawj : RngsOK Tryz.prog qawf qava := rngs0 (by kernel_rfl)
theorem qawk : ∀ v, runFn (hnd 2 qawe) qawf qawd qava Tryz.f92.results.toList (HP.st qavh v) (decOf qavi qavk) = qavm (qavj v) := by intro v; kernel_rfl
theorem qawl : SpecOK Tryz.prog 92 qavn := specOK_mk (fn := Tryz.f92) (by kernel_rfl) (by kernel_rfl) (by kernel_rfl) qawg (by kernel_rfl) (by kernel_rfl) qau4 (by kernel_rfl) (fun _ => rfl) (d := 2) qawh qawi qawj qawk
noncomputable def qawm : List HV := [.one (.sl .entry), .one (.str)]
noncomputable def qawn : List HV := [.one (.int .i64), .one (.bool)]
noncomputable def qawo : HP.V qawm → (List Entry) × Str := fun v => (v.1, v.2.1)
noncomputable def qawp : HX.V qawn → Int × Bool := fun v => (v.1, v.2)
noncomputable def qawq : (Int × Bool) → HX.V qawn := fun y => (y.1, y.2)
noncomputable def qawr : (List Entry) × Str → Option (Int × Bool) := fun x => entry_Find x.1 x.2
noncomputable def qaws : Spec := mkSpec qawm qawn qawo qawq qawr
noncomputable def qawt {R : Type} : List (Nat × Hd R) := []
noncomputable def qawu {R : Type} : List (Nat × Inl R) := []
noncomputable def qawv : Cfg := { T := qau2, spec := [(92, qavn)], glob := GlobL.G Tryz.prog, eqs := qau3, N := 21, fuel := 64, loops := [], joins := [], blocks := [], ovl := [], retA := none, fid := 57, rnd := false, saves := [] }
theorem qaww : CfgOK Tryz.prog qawv := ⟨tsOK_of qau5, specsL_ok (show SpecsL Tryz.prog qawv.spec from ⟨qawl, trivial⟩), qau6, ovlL_ok (trivial), globsOK_of rfl, freshL_ok (show FreshL Tryz.prog qawv.fresh from trivial), specsL_ok (show SpecsL Tryz.prog qawv.gns from trivial)⟩
theorem qawx {R : Type} : SubsOK Tryz.prog (R := R) 0 qawu := subsOK_nil _ _
theorem qawy {R : Type} : LoopsOK (R := R) (hnd 0 qawu) qawv qawt qau7 := loopsOK_of (l := []) (by kernel_rfl) (trivial)
theorem qawz : RngsOK Tryz.prog qawv qau7 := rngs0 (by kernel_rfl)
theorem qaw0 : ∀ v, runFn (hnd 0 qawu) qawv qawt qau7 Tryz.f57.results.toList (HP.st qawm v) (decOf qawn qawp) = qawr (qawo v) := by intro v; kernel_rfl
theorem qaw1 : SpecOK Tryz.prog 57 qaws := specOK_mk (fn := Tryz.f57) (by kernel_rfl) (by kernel_rfl) (by kernel_rfl) qaww (by kernel_rfl) (by kernel_rfl) qau4 (by kernel_rfl) (fun _ => rfl) (d := 0) qawx qawy qawz qaw0
noncomputable def qaw2 : List HV := [.one (.sl .entry), .one (.str), .one (.int .i64)]
noncomputable def qaw3 : List HV := [.one (.sl .entry)]
noncomputable def qaw4 : HP.V qaw2 → (List Entry) × Str × Int := fun v => (v.1, v.2.1, v.2.2.1)
noncomputable def qaw5 : HX.V qaw3 → (List Entry) := fun v => (v)
noncomputable def qaw6 : (List Entry) → HX.V qaw3 := fun y => (y)
noncomputable def qaw7 : (List Entry) × Str × Int → Option ((List Entry)) := fun x => entry_With x.1 x.2.1 x.2.2
noncomputable def qaw8 : Spec := mkSpec qaw2 qaw3 qaw4 qaw6 qaw7
noncomputable def qaw9 {R : Type} : List (Nat × Hd R) := []
noncomputable def qaxa {R : Type} : List (Nat × Inl R) := []
noncomputable def qaxb : Cfg := { T := qau2, spec := [(92, qavn)], glob := GlobL.G Tryz.prog, eqs := qau3, N := 8, fuel := 64, loops := [], joins := [], blocks := [], ovl := [122], retA := none, fid := 93, rnd := false, saves := [] }
theorem qaxc : CfgOK Tryz.prog qaxb := ⟨tsOK_of qau5, specsL_ok (show SpecsL Tryz.prog qaxb.spec from ⟨qawl, trivial⟩), qau6, ovlL_ok (⟨ovl122, trivial⟩), globsOK_of rfl, freshL_ok (show FreshL Tryz.prog qaxb.fresh from trivial), specsL_ok (show SpecsL Tryz.prog qaxb.gns from trivial)⟩
theorem qaxd {R : Type} : SubsOK Tryz.prog (R := R) 0 qaxa := subsOK_nil _ _
theorem qaxe {R : Type} : LoopsOK (R := R) (hnd 0 qaxa) qaxb qaw9 qavb := loopsOK_of (l := []) (by kernel_rfl) (trivial)
theorem qaxf : RngsOK Tryz.prog qaxb qavb := rngs0 (by kernel_rfl)
noncomputable def qaxg {R : Type} : Inl R := .mk 93 qaxb qaw9 qavb Tryz.f93.results.toList qaxa
noncomputable def qaxh {R : Type} : List (Nat × Hd R) := []
noncomputable def qaxi {R : Type} : List (Nat × Inl R) := []
noncomputable def qaxj : Cfg := { T := qau2, spec := [(92, qavn)], glob := GlobL.G Tryz.prog, eqs := qau3, N := 95, fuel := 64, loops := [], joins := [], blocks := [], ovl := [122], retA := none, fid := 94, rnd := false, saves := [] }
theorem qaxk : CfgOK Tryz.prog qaxj := ⟨tsOK_of qau5, specsL_ok (show SpecsL Tryz.prog qaxj.spec from ⟨qawl, trivial⟩), qau6, ovlL_ok (⟨ovl122, trivial⟩), globsOK_of rfl, freshL_ok (show FreshL Tryz.prog qaxj.fresh from trivial), specsL_ok (show SpecsL Tryz.prog qaxj.gns from trivial)⟩
theorem qaxl {R : Type} : SubsOK Tryz.prog (R := R) 0 qaxi := subsOK_nil _ _
theorem qaxm {R : Type} : LoopsOK (R := R) (hnd 0 qaxi) qaxj qaxh qavc := loopsOK_of (l := []) (by kernel_rfl) (trivial)
theorem qaxn : RngsOK Tryz.prog qaxj qavc := rngs0 (by kernel_rfl)
noncomputable def qaxo {R : Type} : Inl R := .mk 94 qaxj qaxh qavc Tryz.f94.results.toList qaxi
noncomputable def qaxp {R : Type} : List (Nat × Hd R) := []
noncomputable def qaxq {R : Type} : List (Nat × Inl R) := [(17, qaxg), (31, qaxo)]
noncomputable def qaxr : Cfg := { T := qau2, spec := [(92, qavn)], glob := GlobL.G Tryz.prog, eqs := qau3, N := 32, fuel := 64, loops := [], joins := [], blocks := [], ovl := [122], retA := none, fid := 62, rnd := false, saves := [] }
theorem qaxs : CfgOK Tryz.prog qaxr := ⟨tsOK_of qau5, specsL_ok (show SpecsL Tryz.prog qaxr.spec from ⟨qawl, trivial⟩), qau6, ovlL_ok (⟨ovl122, trivial⟩), globsOK_of rfl, freshL_ok (show FreshL Tryz.prog qaxr.fresh from trivial), specsL_ok (show SpecsL Tryz.prog qaxr.gns from trivial)⟩
theorem qaxt {R : Type} : SubsOK Tryz.prog (R := R) 1 qaxq := subsOK_cons (fn := Tryz.f93) (by kernel_rfl) (by kernel_rfl) (by kernel_rfl) (by kernel_rfl) (by kernel_rfl) qaxc qaxe qaxf qaxd (subsOK_cons (fn := Tryz.f94) (by kernel_rfl) (by kernel_rfl) (by kernel_rfl) (by kernel_rfl) (by kernel_rfl) qaxk qaxm qaxn qaxl (subsOK_nil _ _))
theorem qaxu {R : Type} : LoopsOK (R := R) (hnd 1 qaxq) qaxr qaxp qau8 := loopsOK_of (l := []) (by kernel_rfl) (trivial)
theorem qaxv : RngsOK Tryz.prog qaxr qau8 := rngs0 (by kernel_rfl)
theorem qaxw : ∀ v, runFn (hnd 1 qaxq) qaxr qaxp qau8 Tryz.f62.results.toList (HP.st qaw2 v) (decOf qaw3 qaw5) = qaw7 (qaw4 v) := by intro v; kernel_rfl
theorem qaxx : SpecOK Tryz.prog 62 qaw8 := specOK_mk (fn := Tryz.f62) (by kernel_rfl) (by kernel_rfl) (by kernel_rfl) qaxs (by kernel_rfl) (by kernel_rfl) qau4 (by kernel_rfl) (fun _ => rfl) (d := 1) qaxt qaxu qaxv qaxw
noncomputable def qaxy : List HV := [.one (.sl .entry), .one (.str)]
noncomputable def qaxz : List HV := [.one (.sl .entry)]
noncomputable def qax0 : HP.V qaxy → (List Entry) × Str := fun v => (v.1, v.2.1)
noncomputable def qax1 : HX.V qaxz → (List Entry) := fun v => (v)
noncomputable def qax2 : (List Entry) → HX.V qaxz := fun y => (y)
noncomputable def qax3 : (List Entry) × Str → Option ((List Entry)) := fun x => entry_Without x.1 x.2
noncomputable def qax4 : Spec := mkSpec qaxy qaxz qax0 qax2 qax3
noncomputable def qax5 {R : Type} : List (Nat × Hd R) := []
noncomputable def qax6 {R : Type} : List (Nat × Inl R) := []
noncomputable def qax7 : Cfg := { T := qau2, spec := [(92, qavn)], glob := GlobL.G Tryz.prog, eqs := qau3, N := 8, fuel := 64, loops := [], joins := [], blocks := [], ovl := [], retA := none, fid := 93, rnd := false, saves := [] }
theorem qax8 : CfgOK Tryz.prog qax7 := ⟨tsOK_of qau5, specsL_ok (show SpecsL Tryz.prog qax7.spec from ⟨qawl, trivial⟩), qau6, ovlL_ok (trivial), globsOK_of rfl, freshL_ok (show FreshL Tryz.prog qax7.fresh from trivial), specsL_ok (show SpecsL Tryz.prog qax7.gns from trivial)⟩
theorem qax9 {R : Type} : SubsOK Tryz.prog (R := R) 0 qax6 := subsOK_nil _ _
theorem qaya {R : Type} : LoopsOK (R := R) (hnd 0 qax6) qax7 qax5 qavb := loopsOK_of (l := []) (by kernel_rfl) (trivial)
theorem qayb : RngsOK Tryz.prog qax7 qavb := rngs0 (by kernel_rfl)
noncomputable def qayc {R : Type} : Inl R := .mk 93 qax7 qax5 qavb Tryz.f93.results.toList qax6
noncomputable def qayd {R : Type} : List (Nat × Hd R) := []
noncomputable def qaye {R : Type} : List (Nat × Inl R) := [(17, qayc)]
noncomputable def qayf : Cfg := { T := qau2, spec := [(92, qavn)], glob := GlobL.G Tryz.prog, eqs := qau3, N := 35, fuel := 64, loops := [], joins := [], blocks := [], ovl := [], retA := none, fid := 64, rnd := false, saves := [] }
theorem qayg : CfgOK Tryz.prog qayf := ⟨tsOK_of qau5, specsL_ok (show SpecsL Tryz.prog qayf.spec from ⟨qawl, trivial⟩), qau6, ovlL_ok (trivial), globsOK_of rfl, freshL_ok (show FreshL Tryz.prog qayf.fresh from trivial), specsL_ok (show SpecsL Tryz.prog qayf.gns from trivial)⟩
theorem qayh {R : Type} : SubsOK Tryz.prog (R := R) 1 qaye := subsOK_cons (fn := Tryz.f93) (by kernel_rfl) (by kernel_rfl) (by kernel_rfl) (by kernel_rfl) (by kernel_rfl) qax8 qaya qayb qax9 (subsOK_nil _ _)
theorem qayi {R : Type} : LoopsOK (R := R) (hnd 1 qaye) qayf qayd qau9 := loopsOK_of (l := []) (by kernel_rfl) (trivial)
theorem qayj : RngsOK Tryz.prog qayf qau9 := rngs0 (by kernel_rfl)
theorem qayk : ∀ v, runFn (hnd 1 qaye) qayf qayd qau9 Tryz.f64.results.toList (HP.st qaxy v) (decOf qaxz qax1) = qax3 (qax0 v) := by intro v; kernel_rfl
theorem qayl : SpecOK Tryz.prog 64 qax4 := specOK_mk (fn := Tryz.f64) (by kernel_rfl) (by kernel_rfl) (by kernel_rfl) qayg (by kernel_rfl) (by kernel_rfl) qau4 (by kernel_rfl) (fun _ => rfl) (d := 1) qayh qayi qayj qayk
end Go.Eng
