/- A part of the proofs of the laws of this seat: the engine that reads the program's code, plain functions, or facts of the program's functions. Conditions: none. -/
import Derived.Ground.NamesProg
import Derived.Shelf.Small.Strs
import Derived.Shelf.Strings.Search1
import Derived.Shelf.Strings.OnBuilder
import Derived.Test.YtopfnnikfjbofaaDoorProg
import Derived.Test.YtopfnnikfjbofaaDoorP1
import Derived.Test.YtopfnnikfjbofaaDoorE5
set_option linter.unusedSectionVars false
set_option linter.unusedVariables false
set_option linter.unusedSimpArgs false
set_option linter.unnecessarySimpa false
namespace Go.Proofs
open Go.Shelf
def Tryd.lays106_ren : Go.Shelf.Ren := ⟨fun | 106 => 66 | 213 => 74 | 265 => 81 | n => n, fun | 9 => 9 | 3 => 3 | n => n, fun | n => n⟩
theorem Tryd.lays106 : Go.Proofs.Lays.n106 Tryd.prog Tryd.lays106_ren := {
  mixed := by kernel_rfl
  f106 := Tryd.func66.trans (congrArg some (by kernel_rfl))
  f213 := Tryd.func74.trans (congrArg some (by kernel_rfl))
  f265 := Tryd.func81.trans (congrArg some (by kernel_rfl))
  t3 := Tryd.underlying3
  a3 := Tryd.isAgg3
  z3 := Tryd.sizeOf3
  v3 := Tryd.zeroValue3
  t9 := Tryd.underlying9
  a9 := Tryd.isAgg9
  z9 := Tryd.sizeOf9
  v9 := Tryd.zeroValue9 }
def Tryd.lays217_ren : Go.Shelf.Ren := ⟨fun | 217 => 94 | 266 => 102 | n => n, fun | 9 => 9 | 5 => 5 | 3 => 3 | n => n, fun | n => n⟩
theorem Tryd.lays217 : Go.Proofs.Lays.n217 Tryd.prog Tryd.lays217_ren := {
  mixed := by kernel_rfl
  f217 := Tryd.func94.trans (congrArg some (by kernel_rfl))
  f266 := Tryd.func102.trans (congrArg some (by kernel_rfl))
  t3 := Tryd.underlying3
  a3 := Tryd.isAgg3
  z3 := Tryd.sizeOf3
  v3 := Tryd.zeroValue3
  t5 := Tryd.underlying5
  a5 := Tryd.isAgg5
  z5 := Tryd.sizeOf5
  v5 := Tryd.zeroValue5
  t9 := Tryd.underlying9
  a9 := Tryd.isAgg9
  z9 := Tryd.sizeOf9
  v9 := Tryd.zeroValue9 }
def Tryd.lays156_ren : Go.Shelf.Ren := ⟨fun | 156 => 75 | 165 => 82 | 166 => 83 | 169 => 84 | 240 => 88 | 241 => 89 | 276 => 98 | 277 => 99 | n => n, fun | 31 => 64 | 9 => 9 | 3 => 3 | 4 => 4 | 0 => 0 | 20 => 20 | 72 => 113 | 76 => 117 | 70 => 110 | 37 => 111 | 75 => 116 | 127 => 120 | 164 => 133 | 5 => 5 | 80 => 119 | n => n, fun | n => n⟩
theorem Tryd.lays156 : Go.Proofs.Lays.n156 Tryd.prog Tryd.lays156_ren := {
  mixed := by kernel_rfl
  f156 := Tryd.func75.trans (congrArg some (by kernel_rfl))
  f165 := Tryd.func82.trans (congrArg some (by kernel_rfl))
  f166 := Tryd.func83.trans (congrArg some (by kernel_rfl))
  f169 := Tryd.func84.trans (congrArg some (by kernel_rfl))
  f240 := Tryd.func88.trans (congrArg some (by kernel_rfl))
  f241 := Tryd.func89.trans (congrArg some (by kernel_rfl))
  f276 := Tryd.func98.trans (congrArg some (by kernel_rfl))
  f277 := Tryd.func99.trans (congrArg some (by kernel_rfl))
  t0 := Tryd.underlying0
  a0 := Tryd.isAgg0
  z0 := Tryd.sizeOf0
  v0 := Tryd.zeroValue0
  t3 := Tryd.underlying3
  a3 := Tryd.isAgg3
  z3 := Tryd.sizeOf3
  v3 := Tryd.zeroValue3
  t4 := Tryd.underlying4
  a4 := Tryd.isAgg4
  z4 := Tryd.sizeOf4
  v4 := Tryd.zeroValue4
  t9 := Tryd.underlying9
  a9 := Tryd.isAgg9
  z9 := Tryd.sizeOf9
  v9 := Tryd.zeroValue9
  t20 := Tryd.underlying20
  a20 := Tryd.isAgg20
  z20 := Tryd.sizeOf20
  v20 := Tryd.zeroValue20
  t31 := Tryd.underlying64
  a31 := Tryd.isAgg64
  z31 := Tryd.sizeOf64
  v31 := Tryd.zeroValue64
  t37 := Tryd.underlying111
  a37 := Tryd.isAgg111
  z37 := Tryd.sizeOf111
  v37 := Tryd.zeroValue111
  t70 := Tryd.underlying110
  a70 := Tryd.isAgg110
  z70 := Tryd.sizeOf110
  v70 := Tryd.zeroValue110
  t72 := Tryd.underlying113
  a72 := Tryd.isAgg113
  z72 := Tryd.sizeOf113
  v72 := Tryd.zeroValue113
  t75 := Tryd.underlying116
  a75 := Tryd.isAgg116
  z75 := Tryd.sizeOf116
  v75 := Tryd.zeroValue116
  t76 := Tryd.underlying117
  a76 := Tryd.isAgg117
  z76 := Tryd.sizeOf117
  v76 := Tryd.zeroValue117
  t127 := Tryd.underlying120
  a127 := Tryd.isAgg120
  z127 := Tryd.sizeOf120
  v127 := Tryd.zeroValue120
  t164 := Tryd.underlying133
  a164 := Tryd.isAgg133
  z164 := Tryd.sizeOf133
  v164 := Tryd.zeroValue133 }
end Go.Proofs
set_option linter.unusedVariables false
set_option maxRecDepth 100000
namespace Go.Eng
open Go Go.Proofs Go.Shelf
noncomputable instance : GlobL Tryd.prog := ⟨[]⟩
noncomputable def strings_Compare_sp : Spec := mkSpec (X := Str × Str) (Y := Int) [.one .str, .one .str] [.one (.int .i64)] (fun v => (v.1, v.2.1)) (fun y => y) (fun x => strings_Compare x.1 x.2)
theorem strings_Compare_ok : SpecOK Tryd.prog 66 strings_Compare_sp where
  enters := enters_of Tryd.func66 (by kernel_rfl) rfl
  calls := by
    intro S w args vs x y hS _ hal hp hf
    simp only [strings_Compare_sp, mkSpec] at hp hf ⊢
    split at hp
    · rename_i v hv
      cases hp
      cases hf
      rw [HP.eq hv] at hal
      cases hal with
      | cons h1 h2 =>
        cases h2 with
        | cons h2 h3 =>
          cases h3
          rename_i v1 v2
          cases (show VA _ w (.str v.1) v1 from h1) with
          | str _ b1 e1 =>
            cases (show VA _ w (.str v.2.1) v2 from h2) with
            | str _ b2 e2 =>
              refine (Any.strings_Compare Tryd.lays106 b1 b2 w).mono ?_
              rintro e w' ⟨rfl, rfl⟩
              refine ⟨_, rfl, Go.RowKit.Below.refl _ _, ?_⟩
              rw [e1, e2]
              exact VA.int _ _
    · cases hp
noncomputable def stringslite_IndexByte_sp : Spec := mkSpec (X := Str × Int) (Y := Int) [.one .str, .one (.int .u8)] [.one (.int .i64)] (fun v => (v.1, v.2.1)) (fun y => y) (fun x => stringslite_IndexByte x.1 x.2)
theorem stringslite_IndexByte_ok : SpecOK Tryd.prog 94 stringslite_IndexByte_sp where
  enters := enters_of Tryd.func94 (by kernel_rfl) rfl
  calls := by
    intro S w args vs x y hS _ hal hp hf
    simp only [stringslite_IndexByte_sp, mkSpec] at hp hf ⊢
    split at hp
    · rename_i v hv
      cases hp
      cases hf
      rw [HP.eq hv] at hal
      cases hal with
      | cons h1 h2 =>
        cases h2 with
        | cons h2 h3 =>
          cases h3
          rename_i v1 v2
          cases (show VA _ w (.str v.1) v1 from h1) with
          | str _ b1 e1 =>
            cases (show VA _ w (.int .u8 v.2.1) v2 from h2) with
            | int _ _ =>
              refine (Any.stringslite_IndexByte Tryd.lays217 b1 v.2.1 w).mono ?_
              rintro e w' ⟨rfl, rfl⟩
              refine ⟨_, rfl, Go.RowKit.Below.refl _ _, ?_⟩
              rw [e1]
              exact VA.int _ _
    · cases hp
theorem bx156 : Go.Proofs.Builder.Extra Tryd.prog Tryd.lays156_ren where
  sizeBuilder := by kernel_rfl
  liesBuilder := by kernel_rfl
  t5 := Tryd.underlying5
  a5 := Tryd.isAgg5
  z5 := Tryd.sizeOf5
  v5 := Tryd.zeroValue5
  infoByte := by kernel_rfl
  cellsByte := by kernel_rfl
  sizeByte := by kernel_rfl
  neB5 := by decide
noncomputable def strings_Join_sp : Spec := mkSpec (X := List Str × Str) (Y := Str) [.one (.sl .str), .one .str] [.one .str] (fun v => (v.1, v.2.1)) (fun y => y) (fun x => strings_Join x.1 x.2)
theorem strings_Join_ok : SpecOK Tryd.prog 75 strings_Join_sp where
  enters := enters_of Tryd.func75 (by kernel_rfl) rfl
  calls := by
    intro S w args vs x y hS _ hal hp hf
    simp only [strings_Join_sp, mkSpec] at hp hf ⊢
    split at hp
    · rename_i v hv
      cases hp
      unfold strings_Join at hf
      split at hf
      rotate_left
      · cases hf
      rename_i hlen
      have hlen : (Lib.join v.1 v.2.1).length + List.length v.1 ≤ 67108864 := hlen
      cases hf
      rw [HP.eq hv] at hal
      cases hal with
      | cons h1 h2 =>
        cases h2 with
        | cons h2 h3 =>
          cases h3
          rename_i v1 v2
          cases (show VA _ w (.sl .str v.1) v1 from h1) with
          | sl _ _ ad len cap bk of f hn hc ha hcell hff =>
            cases (show VA _ w (.str v.2.1) v2 from h2) with
            | str _ b2 e2 =>
              by_cases hne : v.1 = []
              · have hlen0 : len = 0 := by rw [hn, hne]; rfl
                subst hlen0
                refine (Any.strings_Join_none Tryd.lays156 bx156 ad cap b2 w).mono ?_
                rintro e w' ⟨rfl, rfl⟩
                refine ⟨_, rfl, Go.RowKit.Below.refl _ _, ?_⟩
                rw [hne]
                exact VA.str _ _ rfl
              · obtain ⟨rfl, hSb⟩ := ha hne
                obtain ⟨xs, hxl, hxs, hxd⟩ := texts_of (w := w) (bk := bk) (of := of) v.1 (fun i hi => by
                  have := hcell i 0 hi (by decide)
                  have h9 := hff i v.1[i] 0 (.str v.1[i]) (by simp [hi]) rfl
                  generalize f i 0 = u at this h9
                  cases h9 with
                  | str _ b e => exact ⟨b, by simpa [Ty.n] using this, e⟩)
                subst hn
                have := Any.strings_Join Tryd.lays156 bx156 bk of cap xs b2 w hxs (hS bk hSb) (by
                  rw [hxl]
                  omega) (by rw [hxl]; exact hc) (by
                  rw [hxd, e2]; omega)
                rw [hxl] at this
                refine this.mono ?_
                rintro e w' ⟨rfl, hb⟩
                refine ⟨_, rfl, hb, ?_⟩
                rw [hxd, e2]
                exact VA.str _ _ (by simp)
    · cases hp
end Go.Eng
set_option linter.unusedVariables false
set_option maxRecDepth 100000
namespace Go.Eng
open Go Go.Proofs
noncomputable def qaaa : List (Nat × TI) := [(3, ⟨false, 1, .one (.int .i64 0), .int .i64⟩), (9, ⟨false, 1, .one (.str []), .str⟩), (22, ⟨false, 1, .one (.clip .inode []), .slice .inode 33⟩), (24, ⟨true, 4, .agg [.int .i64 0, .int .i64 0, .int .i64 0, .clip .inode []], .struct [(0, 3), (1, 3), (2, 3), (3, 22)]⟩), (31, ⟨false, 1, .one (.clip .entry []), .slice .entry 46⟩), (33, ⟨true, 6, .agg [.int .i64 0, .int .i64 0, .int .i64 0, .str [], .int .i64 0, .clip .entry []], .struct [(0, 3), (1, 3), (2, 3), (3, 9), (4, 3), (5, 31)]⟩), (46, ⟨true, 2, .agg [.str [], .int .i64 0], .struct [(0, 9), (1, 3)]⟩)]
noncomputable def qaab : List (Nat × List EK) := []
theorem qaac : Tryd.prog.follows .mixedOrders = true := by kernel_rfl
theorem qaad : (qaaa.all fun x => tiB Tryd.prog x.1 x.2) = true := by kernel_rfl
theorem qaae {c : Cfg} (h : c.eqs = qaab := by rfl) : EqsOK Tryd.prog c := eqsOK_of (by rw [h]; kernel_rfl)
noncomputable def qaaf : Code := match Tryd.f11.body with | some b => b | none => .skip
noncomputable def qaag : Code := match Tryd.f15.body with | some b => b | none => .skip
noncomputable def qaah : Code := match Tryd.f21.body with | some b => b | none => .skip
noncomputable def qaai : Code := match Tryd.f22.body with | some b => b | none => .skip
noncomputable def qaaj : Code := match Tryd.f39.body with | some b => b | none => .skip
noncomputable def qaak : Code := match Tryd.f42.body with | some b => b | none => .skip
noncomputable def qaal : List HV := [.one (.int .i64), .one (.int .i64)]
noncomputable def qaam : List HV := [.agg [.int .i64, .int .i64, .int .i64, .sl .inode]]
noncomputable def qaan : HP.V qaal → Int × Int := fun v => (v.1, v.2.1)
noncomputable def qaao : HX.V qaam → Fs := fun v => ((⟨v.1, v.2.1, v.2.2.1, v.2.2.2.1⟩ : Fs))
noncomputable def qaap : Fs → HX.V qaam := fun y => ((y.maxInodes, (y.maxBytes, (y.next, (y.inodes, ())))))
noncomputable def qaaq : (Int × Int) → Option (Fs) := fun x => ref05_New x.1 x.2
noncomputable def qaar : Spec := mkSpec qaal qaam qaan qaap qaaq
noncomputable def qaas {R : Type} : List (Nat × Hd R) := []
noncomputable def qaat {R : Type} : List (Nat × Inl R) := []
noncomputable def qaau : Cfg := { T := qaaa, spec := [], glob := GlobL.G Tryd.prog, eqs := qaab, N := 10, fuel := 64, loops := [], joins := [], blocks := [], ovl := [], retA := none, fid := 21, rnd := false, saves := [] }
theorem qaav : CfgOK Tryd.prog qaau := ⟨tsOK_of qaad, specsL_ok (show SpecsL Tryd.prog qaau.spec from trivial), qaae, ovlL_ok (trivial), globsOK_of rfl, freshL_ok (show FreshL Tryd.prog qaau.fresh from trivial), specsL_ok (show SpecsL Tryd.prog qaau.gns from trivial)⟩
theorem qaaw {R : Type} : SubsOK Tryd.prog (R := R) 0 qaat := subsOK_nil _ _
theorem qaax {R : Type} : LoopsOK (R := R) (hnd 0 qaat) qaau qaas qaah := loopsOK_of (l := []) (by kernel_rfl) (trivial)
theorem qaay : RngsOK Tryd.prog qaau qaah := rngs0 (by kernel_rfl)
theorem qaaz : ∀ v, runFn (hnd 0 qaat) qaau qaas qaah Tryd.f21.results.toList (HP.st qaal v) (decOf qaam qaao) = qaaq (qaan v) := by intro v; kernel_rfl
theorem qaa0 : SpecOK Tryd.prog 21 qaar := specOK_mk (fn := Tryd.f21) (by kernel_rfl) (by kernel_rfl) (by kernel_rfl) qaav (by kernel_rfl) (by kernel_rfl) qaac (by kernel_rfl) (fun _ => rfl) (d := 0) qaaw qaax qaay qaaz
noncomputable def qaa1 : HS := ⟨[(1, .one (.int .i64)), (2, .one (.ptr 0 0)), (4, .one (.ptr 1 0)), (5, .one (.own 2)), (6, .one (.int .i64))], [(0, .cells [.int .i64, .int .i64, .int .i64, .sl .inode]), (1, .cells [.int .i64, .int .i64, .int .i64, .sl .inode]), (2, .row .inode)], 3⟩
noncomputable def qaa2 {R : Type} : Nat → HS.V qaa1 → (Ex → St → Option R) → Option R := fun q v K =>
  ref05_Drop_L3 v.1.1 (⟨v.2.1.1, v.2.1.2.1, v.2.1.2.2.1, v.2.1.2.2.2.1⟩ : Fs) (fun y10 => K (.exit 0) { regs := [(2, .v (.one (.ptr 0 0))), (4, .v (.one (.ptr 1 0))), (5, .v (.one (.own 2)))], mem := [(0, .cells [.int .i64 ((⟨v.2.1.1, v.2.1.2.1, v.2.1.2.2.1, v.2.1.2.2.2.1⟩ : Fs).maxInodes), .int .i64 ((⟨v.2.1.1, v.2.1.2.1, v.2.1.2.2.1, v.2.1.2.2.2.1⟩ : Fs).maxBytes), .int .i64 ((⟨v.2.1.1, v.2.1.2.1, v.2.1.2.2.1, v.2.1.2.2.2.1⟩ : Fs).next), .sl .inode ((⟨v.2.1.1, v.2.1.2.1, v.2.1.2.2.1, v.2.1.2.2.2.1⟩ : Fs).inodes)]), (1, .cells [.int .i64 ((⟨v.2.2.1.1, v.2.2.1.2.1, v.2.2.1.2.2.1, v.2.2.1.2.2.2.1⟩ : Fs).maxInodes), .int .i64 ((⟨v.2.2.1.1, v.2.2.1.2.1, v.2.2.1.2.2.1, v.2.2.1.2.2.2.1⟩ : Fs).maxBytes), .int .i64 ((⟨v.2.2.1.1, v.2.2.1.2.1, v.2.2.1.2.2.1, v.2.2.1.2.2.2.1⟩ : Fs).next), .sl .inode ((⟨v.2.2.1.1, v.2.2.1.2.1, v.2.2.1.2.2.1, v.2.2.1.2.2.2.1⟩ : Fs).inodes)]), (2, .row .inode y10)], nx := 3 }) q v.1.2.2.2.2.1 v.2.2.2.1
noncomputable def qaa3 : List HV := [.agg [.int .i64, .int .i64, .int .i64, .sl .inode], .one (.int .i64)]
noncomputable def qaa4 : List HV := [.agg [.int .i64, .int .i64, .int .i64, .sl .inode]]
noncomputable def qaa5 : HP.V qaa3 → Fs × Int := fun v => ((⟨v.1.1, v.1.2.1, v.1.2.2.1, v.1.2.2.2.1⟩ : Fs), v.2.1)
noncomputable def qaa6 : HX.V qaa4 → Fs := fun v => ((⟨v.1, v.2.1, v.2.2.1, v.2.2.2.1⟩ : Fs))
noncomputable def qaa7 : Fs → HX.V qaa4 := fun y => ((y.maxInodes, (y.maxBytes, (y.next, (y.inodes, ())))))
noncomputable def qaa8 : (Fs × Int) → Option (Fs) := fun x => ref05_Drop x.1 x.2
noncomputable def qaa9 : Spec := mkSpec qaa3 qaa4 qaa5 qaa7 qaa8
noncomputable def qaba {R : Type} : List (Nat × Hd R) := [(3, hdOf qaa1 qaa2)]
noncomputable def qabb {R : Type} : List (Nat × Inl R) := []
noncomputable def qabc : Cfg := { T := qaaa, spec := [], glob := GlobL.G Tryd.prog, eqs := qaab, N := 33, fuel := 64, loops := [(3, ⟨[1, 2, 4, 5, 6], [(5, 2, .inode)], [0, 1, 2], 3, [], [1], [], []⟩)], joins := [], blocks := [(0, ⟨[2, 4, 5], [], [0, 1, 2], 3, [], [], [], []⟩)], ovl := [], retA := none, fid := 39, rnd := false, saves := [] }
theorem qabd : CfgOK Tryd.prog qabc := ⟨tsOK_of qaad, specsL_ok (show SpecsL Tryd.prog qabc.spec from trivial), qaae, ovlL_ok (trivial), globsOK_of rfl, freshL_ok (show FreshL Tryd.prog qabc.fresh from trivial), specsL_ok (show SpecsL Tryd.prog qabc.gns from trivial)⟩
theorem qabe {R : Type} : SubsOK Tryd.prog (R := R) 0 qabb := subsOK_nil _ _
theorem qabf {R : Type} : LoopOK (R := R) (hnd 0 qabb) qabc qaba (sub [1, 1, 0, 1, 0, 0] qaaj) (HS.V qaa1) (HS.st qaa1) (HS.sh qaa1) qaa2 (hdOf qaa1 qaa2) := loopOK_of qaa1 qaa2 (fun _ _ => rfl) (by intro q v K; kernel_rfl)
theorem qabg {R : Type} : LoopsOK (R := R) (hnd 0 qabb) qabc qaba qaaj := loopsOK_of (l := [sub [1, 1, 0, 1, 0, 0] qaaj]) (by kernel_rfl) (loopsL_cons (b := sub [1, 1, 0, 1, 0, 0] qaaj) (rid := 3) (by kernel_rfl) (by kernel_rfl) qabf (trivial))
theorem qabh : RngsOK Tryd.prog qabc qaaj := rngs0 (by kernel_rfl)
theorem qabi : ∀ v, runFn (hnd 0 qabb) qabc qaba qaaj Tryd.f39.results.toList (HP.st qaa3 v) (decOf qaa4 qaa6) = qaa8 (qaa5 v) := by intro v; kernel_rfl
theorem qabj : SpecOK Tryd.prog 39 qaa9 := specOK_mk (fn := Tryd.f39) (by kernel_rfl) (by kernel_rfl) (by kernel_rfl) qabd (by kernel_rfl) (by kernel_rfl) qaac (by kernel_rfl) (fun _ => rfl) (d := 0) qabe qabg qabh qabi
noncomputable def qabk : HS := ⟨[(2, .one (.ptr 0 0)), (3, .one (.ptr 1 0)), (4, .one (.ptr 2 0)), (5, .one (.sl .inode)), (6, .one (.own 3)), (7, .one (.bool)), (8, .one (.int .i64))], [(0, .cells [.int .i64, .int .i64, .int .i64, .sl .inode]), (1, .cells [.int .i64, .int .i64, .int .i64, .str, .int .i64, .sl .entry]), (2, .cells [.int .i64, .int .i64, .int .i64, .sl .inode]), (3, .row .inode)], 4⟩
noncomputable def qabl {R : Type} : Nat → HS.V qabk → (Ex → St → Option R) → Option R := fun q v K =>
  ref05_Set_L5 v.1.2.2.2.1 (⟨v.2.2.1.1, v.2.2.1.2.1, v.2.2.1.2.2.1, v.2.2.1.2.2.2.1, v.2.2.1.2.2.2.2.1, v.2.2.1.2.2.2.2.2.1⟩ : Inode) (fun y13 y17 => K (.exit 0) { regs := [(2, .v (.one (.ptr 0 0))), (3, .v (.one (.ptr 1 0))), (4, .v (.one (.ptr 2 0))), (6, .v (.one (.own 3))), (7, .v (.one (.bool y13)))], mem := [(0, .cells [.int .i64 ((⟨v.2.1.1, v.2.1.2.1, v.2.1.2.2.1, v.2.1.2.2.2.1⟩ : Fs).maxInodes), .int .i64 ((⟨v.2.1.1, v.2.1.2.1, v.2.1.2.2.1, v.2.1.2.2.2.1⟩ : Fs).maxBytes), .int .i64 ((⟨v.2.1.1, v.2.1.2.1, v.2.1.2.2.1, v.2.1.2.2.2.1⟩ : Fs).next), .sl .inode ((⟨v.2.1.1, v.2.1.2.1, v.2.1.2.2.1, v.2.1.2.2.2.1⟩ : Fs).inodes)]), (1, .cells [.int .i64 ((⟨v.2.2.1.1, v.2.2.1.2.1, v.2.2.1.2.2.1, v.2.2.1.2.2.2.1, v.2.2.1.2.2.2.2.1, v.2.2.1.2.2.2.2.2.1⟩ : Inode).ino), .int .i64 ((⟨v.2.2.1.1, v.2.2.1.2.1, v.2.2.1.2.2.1, v.2.2.1.2.2.2.1, v.2.2.1.2.2.2.2.1, v.2.2.1.2.2.2.2.2.1⟩ : Inode).kind), .int .i64 ((⟨v.2.2.1.1, v.2.2.1.2.1, v.2.2.1.2.2.1, v.2.2.1.2.2.2.1, v.2.2.1.2.2.2.2.1, v.2.2.1.2.2.2.2.2.1⟩ : Inode).links), .str ((⟨v.2.2.1.1, v.2.2.1.2.1, v.2.2.1.2.2.1, v.2.2.1.2.2.2.1, v.2.2.1.2.2.2.2.1, v.2.2.1.2.2.2.2.2.1⟩ : Inode).data), .int .i64 ((⟨v.2.2.1.1, v.2.2.1.2.1, v.2.2.1.2.2.1, v.2.2.1.2.2.2.1, v.2.2.1.2.2.2.2.1, v.2.2.1.2.2.2.2.2.1⟩ : Inode).parent), .sl .entry ((⟨v.2.2.1.1, v.2.2.1.2.1, v.2.2.1.2.2.1, v.2.2.1.2.2.2.1, v.2.2.1.2.2.2.2.1, v.2.2.1.2.2.2.2.2.1⟩ : Inode).entries)]), (2, .cells [.int .i64 ((⟨v.2.2.2.1.1, v.2.2.2.1.2.1, v.2.2.2.1.2.2.1, v.2.2.2.1.2.2.2.1⟩ : Fs).maxInodes), .int .i64 ((⟨v.2.2.2.1.1, v.2.2.2.1.2.1, v.2.2.2.1.2.2.1, v.2.2.2.1.2.2.2.1⟩ : Fs).maxBytes), .int .i64 ((⟨v.2.2.2.1.1, v.2.2.2.1.2.1, v.2.2.2.1.2.2.1, v.2.2.2.1.2.2.2.1⟩ : Fs).next), .sl .inode ((⟨v.2.2.2.1.1, v.2.2.2.1.2.1, v.2.2.2.1.2.2.1, v.2.2.2.1.2.2.2.1⟩ : Fs).inodes)]), (3, .row .inode y17)], nx := 4 }) q v.1.2.2.2.2.2.1 v.1.2.2.2.2.2.2.1 v.2.2.2.2.1
noncomputable def qabm : List HV := [.agg [.int .i64, .int .i64, .int .i64, .sl .inode], .agg [.int .i64, .int .i64, .int .i64, .str, .int .i64, .sl .entry]]
noncomputable def qabn : List HV := [.agg [.int .i64, .int .i64, .int .i64, .sl .inode]]
noncomputable def qabo : HP.V qabm → Fs × Inode := fun v => ((⟨v.1.1, v.1.2.1, v.1.2.2.1, v.1.2.2.2.1⟩ : Fs), (⟨v.2.1.1, v.2.1.2.1, v.2.1.2.2.1, v.2.1.2.2.2.1, v.2.1.2.2.2.2.1, v.2.1.2.2.2.2.2.1⟩ : Inode))
noncomputable def qabp : HX.V qabn → Fs := fun v => ((⟨v.1, v.2.1, v.2.2.1, v.2.2.2.1⟩ : Fs))
noncomputable def qabq : Fs → HX.V qabn := fun y => ((y.maxInodes, (y.maxBytes, (y.next, (y.inodes, ())))))
noncomputable def qabr : (Fs × Inode) → Option (Fs) := fun x => ref05_Set x.1 x.2
noncomputable def qabs : Spec := mkSpec qabm qabn qabo qabq qabr
noncomputable def qabt {R : Type} : List (Nat × Hd R) := [(5, hdOf qabk qabl)]
noncomputable def qabu {R : Type} : List (Nat × Inl R) := []
noncomputable def qabv : Cfg := { T := qaaa, spec := [(39, qaa9)], glob := GlobL.G Tryd.prog, eqs := qaab, N := 52, fuel := 64, loops := [(5, ⟨[2, 3, 4, 5, 6, 7, 8], [(6, 3, .inode)], [0, 1, 2, 3], 4, [], [2], [], []⟩)], joins := [], blocks := [(0, ⟨[2, 3, 4, 6, 7], [], [0, 1, 2, 3], 4, [], [], [], []⟩)], ovl := [], retA := none, fid := 22, rnd := false, saves := [] }
theorem qabw : CfgOK Tryd.prog qabv := ⟨tsOK_of qaad, specsL_ok (show SpecsL Tryd.prog qabv.spec from ⟨qabj, trivial⟩), qaae, ovlL_ok (trivial), globsOK_of rfl, freshL_ok (show FreshL Tryd.prog qabv.fresh from trivial), specsL_ok (show SpecsL Tryd.prog qabv.gns from trivial)⟩
theorem qabx {R : Type} : SubsOK Tryd.prog (R := R) 0 qabu := subsOK_nil _ _
theorem qaby {R : Type} : LoopOK (R := R) (hnd 0 qabu) qabv qabt (sub [1, 1, 1, 1, 0, 1, 0, 0] qaai) (HS.V qabk) (HS.st qabk) (HS.sh qabk) qabl (hdOf qabk qabl) := loopOK_of qabk qabl (fun _ _ => rfl) (by intro q v K; kernel_rfl)
theorem qabz {R : Type} : LoopsOK (R := R) (hnd 0 qabu) qabv qabt qaai := loopsOK_of (l := [sub [1, 1, 1, 1, 0, 1, 0, 0] qaai]) (by kernel_rfl) (loopsL_cons (b := sub [1, 1, 1, 1, 0, 1, 0, 0] qaai) (rid := 5) (by kernel_rfl) (by kernel_rfl) qaby (trivial))
theorem qab0 : RngsOK Tryd.prog qabv qaai := rngs0 (by kernel_rfl)
theorem qab1 : ∀ v, runFn (hnd 0 qabu) qabv qabt qaai Tryd.f22.results.toList (HP.st qabm v) (decOf qabn qabp) = qabr (qabo v) := by intro v; kernel_rfl
theorem qab2 : SpecOK Tryd.prog 22 qabs := specOK_mk (fn := Tryd.f22) (by kernel_rfl) (by kernel_rfl) (by kernel_rfl) qabw (by kernel_rfl) (by kernel_rfl) qaac (by kernel_rfl) (fun _ => rfl) (d := 0) qabx qabz qab0 qab1
noncomputable def qab3 : HS := ⟨[(1, .one (.ptr 0 0)), (3, .one (.int .i64)), (4, .one (.ptr 1 0)), (5, .one (.int .i64))], [(0, .cells [.int .i64, .int .i64, .int .i64, .sl .inode]), (1, .cells [.int .i64, .int .i64, .int .i64, .str, .int .i64, .sl .entry])], 2⟩
noncomputable def qab4 {R : Type} : Nat → HS.V qab3 → (Ex → St → Option R) → Option R := fun q v K =>
  ref05_Few_L8 (⟨v.2.2.1.1, v.2.2.1.2.1, v.2.2.1.2.2.1, v.2.2.1.2.2.2.1, v.2.2.1.2.2.2.2.1, v.2.2.1.2.2.2.2.2.1⟩ : Inode) (K .ret { regs := [(2, .v (.one (.bool false)))], mem := [], nx := 0 }) (K (.exit 2) { regs := [(1, .v (.one (.ptr 0 0))), (3, .v (.one (.int .i64 v.1.2.1)))], mem := [(0, .cells [.int .i64 ((⟨v.2.1.1, v.2.1.2.1, v.2.1.2.2.1, v.2.1.2.2.2.1⟩ : Fs).maxInodes), .int .i64 ((⟨v.2.1.1, v.2.1.2.1, v.2.1.2.2.1, v.2.1.2.2.2.1⟩ : Fs).maxBytes), .int .i64 ((⟨v.2.1.1, v.2.1.2.1, v.2.1.2.2.1, v.2.1.2.2.2.1⟩ : Fs).next), .sl .inode ((⟨v.2.1.1, v.2.1.2.1, v.2.1.2.2.1, v.2.1.2.2.2.1⟩ : Fs).inodes)])], nx := 1 }) q v.1.2.2.2.1
noncomputable def qab5 : HS := ⟨[(1, .one (.ptr 0 0)), (3, .one (.int .i64))], [(0, .cells [.int .i64, .int .i64, .int .i64, .sl .inode])], 1⟩
noncomputable def qab6 {R : Type} : Nat → HS.V qab5 → (Ex → St → Option R) → Option R := fun q v K =>
  ref05_Few_L2 (⟨v.2.1.1, v.2.1.2.1, v.2.1.2.2.1, v.2.1.2.2.2.1⟩ : Fs) (K .ret { regs := [(2, .v (.one (.bool false)))], mem := [], nx := 0 }) (K (.exit 0) { regs := [(1, .v (.one (.ptr 0 0)))], mem := [(0, .cells [.int .i64 ((⟨v.2.1.1, v.2.1.2.1, v.2.1.2.2.1, v.2.1.2.2.2.1⟩ : Fs).maxInodes), .int .i64 ((⟨v.2.1.1, v.2.1.2.1, v.2.1.2.2.1, v.2.1.2.2.2.1⟩ : Fs).maxBytes), .int .i64 ((⟨v.2.1.1, v.2.1.2.1, v.2.1.2.2.1, v.2.1.2.2.2.1⟩ : Fs).next), .sl .inode ((⟨v.2.1.1, v.2.1.2.1, v.2.1.2.2.1, v.2.1.2.2.2.1⟩ : Fs).inodes)])], nx := 1 }) q v.1.2.1
noncomputable def qab7 : List HV := [.agg [.int .i64, .int .i64, .int .i64, .sl .inode]]
noncomputable def qab8 : List HV := [.one (.bool)]
noncomputable def qab9 : HP.V qab7 → Fs := fun v => ((⟨v.1.1, v.1.2.1, v.1.2.2.1, v.1.2.2.2.1⟩ : Fs))
noncomputable def qaca : HX.V qab8 → Bool := fun v => (v)
noncomputable def qacb : Bool → HX.V qab8 := fun y => (y)
noncomputable def qacc : Fs → Option (Bool) := fun x => ref05_Few x
noncomputable def qacd : Spec := mkSpec qab7 qab8 qab9 qacb qacc
noncomputable def qace {R : Type} : List (Nat × Hd R) := [(2, hdOf qab5 qab6), (8, hdOf qab3 qab4)]
noncomputable def qacf {R : Type} : List (Nat × Inl R) := []
noncomputable def qacg : Cfg := { T := qaaa, spec := [], glob := GlobL.G Tryd.prog, eqs := qaab, N := 51, fuel := 64, loops := [(8, ⟨[1, 3, 4, 5], [], [0, 1], 2, [], [], [], []⟩), (2, ⟨[1, 3], [], [0], 1, [], [], [], []⟩)], joins := [], blocks := [(0, ⟨[1], [], [0], 1, [], [], [], []⟩), (1, ⟨[1, 3], [], [0], 1, [], [], [], []⟩), (2, ⟨[1, 3], [], [0], 1, [], [], [], []⟩)], ovl := [], retA := some ⟨[2], [], [], 0, [], [], [], []⟩, fid := 15, rnd := false, saves := [] }
theorem qach : CfgOK Tryd.prog qacg := ⟨tsOK_of qaad, specsL_ok (show SpecsL Tryd.prog qacg.spec from trivial), qaae, ovlL_ok (trivial), globsOK_of rfl, freshL_ok (show FreshL Tryd.prog qacg.fresh from trivial), specsL_ok (show SpecsL Tryd.prog qacg.gns from trivial)⟩
theorem qaci {R : Type} : SubsOK Tryd.prog (R := R) 0 qacf := subsOK_nil _ _
theorem qacj {R : Type} : LoopOK (R := R) (hnd 0 qacf) qacg qace (sub [1, 0, 1, 0, 0] qaag) (HS.V qab5) (HS.st qab5) (HS.sh qab5) qab6 (hdOf qab5 qab6) := loopOK_of qab5 qab6 (fun _ _ => rfl) (by intro q v K; kernel_rfl)
theorem qack {R : Type} : LoopOK (R := R) (hnd 0 qacf) qacg qace (sub [1, 0, 1, 0, 0, 1, 0, 0, 1, 1, 1, 0, 0] qaag) (HS.V qab3) (HS.st qab3) (HS.sh qab3) qab4 (hdOf qab3 qab4) := loopOK_of qab3 qab4 (fun _ _ => rfl) (by intro q v K; kernel_rfl)
theorem qacl {R : Type} : LoopsOK (R := R) (hnd 0 qacf) qacg qace qaag := loopsOK_of (l := [sub [1, 0, 1, 0, 0] qaag, sub [1, 0, 1, 0, 0, 1, 0, 0, 1, 1, 1, 0, 0] qaag]) (by kernel_rfl) (loopsL_cons (b := sub [1, 0, 1, 0, 0] qaag) (rid := 2) (by kernel_rfl) (by kernel_rfl) qacj (loopsL_cons (b := sub [1, 0, 1, 0, 0, 1, 0, 0, 1, 1, 1, 0, 0] qaag) (rid := 8) (by kernel_rfl) (by kernel_rfl) qack (trivial)))
theorem qacm : RngsOK Tryd.prog qacg qaag := rngs0 (by kernel_rfl)
theorem qacn : ∀ v, runFn (hnd 0 qacf) qacg qace qaag Tryd.f15.results.toList (HP.st qab7 v) (decOf qab8 qaca) = qacc (qab9 v) := by intro v; kernel_rfl
theorem qaco : SpecOK Tryd.prog 15 qacd := specOK_mk (fn := Tryd.f15) (by kernel_rfl) (by kernel_rfl) (by kernel_rfl) qach (by kernel_rfl) (by kernel_rfl) qaac (by kernel_rfl) (fun _ => rfl) (d := 0) qaci qacl qacm qacn
noncomputable def qacp : HS := ⟨[(1, .one (.int .i64)), (2, .one (.ptr 0 0)), (4, .one (.ptr 1 0)), (6, .one (.int .i64))], [(0, .cells [.int .i64, .int .i64, .int .i64, .sl .inode]), (1, .cells [.int .i64, .int .i64, .int .i64, .str, .int .i64, .sl .entry])], 2⟩
noncomputable def qacq {R : Type} : Nat → HS.V qacp → (Ex → St → Option R) → Option R := fun q v K =>
  ref05_Get_L2 v.1.1 (⟨v.2.1.1, v.2.1.2.1, v.2.1.2.2.1, v.2.1.2.2.2.1⟩ : Fs) (fun y8 => K .ret { regs := [(4, .v (.one (.ptr 1 0))), (5, .v (.one (.bool true)))], mem := [(1, .cells [.int .i64 y8.ino, .int .i64 y8.kind, .int .i64 y8.links, .str y8.data, .int .i64 y8.parent, .sl .entry y8.entries])], nx := 2 }) (K (.exit 0) { regs := [(4, .v (.one (.ptr 1 0)))], mem := [(1, .cells [.int .i64 ((⟨v.2.2.1.1, v.2.2.1.2.1, v.2.2.1.2.2.1, v.2.2.1.2.2.2.1, v.2.2.1.2.2.2.2.1, v.2.2.1.2.2.2.2.2.1⟩ : Inode).ino), .int .i64 ((⟨v.2.2.1.1, v.2.2.1.2.1, v.2.2.1.2.2.1, v.2.2.1.2.2.2.1, v.2.2.1.2.2.2.2.1, v.2.2.1.2.2.2.2.2.1⟩ : Inode).kind), .int .i64 ((⟨v.2.2.1.1, v.2.2.1.2.1, v.2.2.1.2.2.1, v.2.2.1.2.2.2.1, v.2.2.1.2.2.2.2.1, v.2.2.1.2.2.2.2.2.1⟩ : Inode).links), .str ((⟨v.2.2.1.1, v.2.2.1.2.1, v.2.2.1.2.2.1, v.2.2.1.2.2.2.1, v.2.2.1.2.2.2.2.1, v.2.2.1.2.2.2.2.2.1⟩ : Inode).data), .int .i64 ((⟨v.2.2.1.1, v.2.2.1.2.1, v.2.2.1.2.2.1, v.2.2.1.2.2.2.1, v.2.2.1.2.2.2.2.1, v.2.2.1.2.2.2.2.2.1⟩ : Inode).parent), .sl .entry ((⟨v.2.2.1.1, v.2.2.1.2.1, v.2.2.1.2.2.1, v.2.2.1.2.2.2.1, v.2.2.1.2.2.2.2.1, v.2.2.1.2.2.2.2.2.1⟩ : Inode).entries)])], nx := 2 }) q v.1.2.2.2.1
noncomputable def qacr : List HV := [.agg [.int .i64, .int .i64, .int .i64, .sl .inode], .one (.int .i64)]
noncomputable def qacs : List HV := [.agg [.int .i64, .int .i64, .int .i64, .str, .int .i64, .sl .entry], .one (.bool)]
noncomputable def qact : HP.V qacr → Fs × Int := fun v => ((⟨v.1.1, v.1.2.1, v.1.2.2.1, v.1.2.2.2.1⟩ : Fs), v.2.1)
noncomputable def qacu : HX.V qacs → Inode × Bool := fun v => ((⟨v.1.1, v.1.2.1, v.1.2.2.1, v.1.2.2.2.1, v.1.2.2.2.2.1, v.1.2.2.2.2.2.1⟩ : Inode), v.2)
noncomputable def qacv : (Inode × Bool) → HX.V qacs := fun y => ((y.1.ino, (y.1.kind, (y.1.links, (y.1.data, (y.1.parent, (y.1.entries, ())))))), y.2)
noncomputable def qacw : (Fs × Int) → Option (Inode × Bool) := fun x => ref05_Get x.1 x.2
noncomputable def qacx : Spec := mkSpec qacr qacs qact qacv qacw
noncomputable def qacy {R : Type} : List (Nat × Hd R) := [(2, hdOf qacp qacq)]
noncomputable def qacz {R : Type} : List (Nat × Inl R) := []
noncomputable def qac0 : Cfg := { T := qaaa, spec := [], glob := GlobL.G Tryd.prog, eqs := qaab, N := 28, fuel := 64, loops := [(2, ⟨[1, 2, 4, 6], [], [0, 1], 2, [], [1], [], []⟩)], joins := [], blocks := [(0, ⟨[4], [], [1], 2, [], [], [], []⟩)], ovl := [], retA := some ⟨[4, 5], [], [1], 2, [], [1], [], []⟩, fid := 11, rnd := false, saves := [] }
theorem qac1 : CfgOK Tryd.prog qac0 := ⟨tsOK_of qaad, specsL_ok (show SpecsL Tryd.prog qac0.spec from trivial), qaae, ovlL_ok (trivial), globsOK_of rfl, freshL_ok (show FreshL Tryd.prog qac0.fresh from trivial), specsL_ok (show SpecsL Tryd.prog qac0.gns from trivial)⟩
theorem qac2 {R : Type} : SubsOK Tryd.prog (R := R) 0 qacz := subsOK_nil _ _
theorem qac3 {R : Type} : LoopOK (R := R) (hnd 0 qacz) qac0 qacy (sub [1, 0, 1, 0, 0] qaaf) (HS.V qacp) (HS.st qacp) (HS.sh qacp) qacq (hdOf qacp qacq) := loopOK_of qacp qacq (fun _ _ => rfl) (by intro q v K; kernel_rfl)
theorem qac4 {R : Type} : LoopsOK (R := R) (hnd 0 qacz) qac0 qacy qaaf := loopsOK_of (l := [sub [1, 0, 1, 0, 0] qaaf]) (by kernel_rfl) (loopsL_cons (b := sub [1, 0, 1, 0, 0] qaaf) (rid := 2) (by kernel_rfl) (by kernel_rfl) qac3 (trivial))
theorem qac5 : RngsOK Tryd.prog qac0 qaaf := rngs0 (by kernel_rfl)
theorem qac6 : ∀ v, runFn (hnd 0 qacz) qac0 qacy qaaf Tryd.f11.results.toList (HP.st qacr v) (decOf qacs qacu) = qacw (qact v) := by intro v; kernel_rfl
theorem qac7 : SpecOK Tryd.prog 11 qacx := specOK_mk (fn := Tryd.f11) (by kernel_rfl) (by kernel_rfl) (by kernel_rfl) qac1 (by kernel_rfl) (by kernel_rfl) qaac (by kernel_rfl) (fun _ => rfl) (d := 0) qac2 qac4 qac5 qac6
noncomputable def qac8 : HS := ⟨[(1, .one (.ptr 0 0)), (3, .one (.int .i64))], [(0, .cells [.int .i64, .int .i64, .int .i64, .sl .inode])], 1⟩
noncomputable def qac9 {R : Type} : Nat → HS.V qac8 → (Ex → St → Option R) → Option R := fun q v K =>
  ref05_Rise_L2 (⟨v.2.1.1, v.2.1.2.1, v.2.1.2.2.1, v.2.1.2.2.2.1⟩ : Fs) (K .ret { regs := [(2, .v (.one (.bool false)))], mem := [], nx := 0 }) (K (.exit 0) { regs := [], mem := [], nx := 0 }) q v.1.2.1
noncomputable def qada : List HV := [.agg [.int .i64, .int .i64, .int .i64, .sl .inode]]
noncomputable def qadb : List HV := [.one (.bool)]
noncomputable def qadc : HP.V qada → Fs := fun v => ((⟨v.1.1, v.1.2.1, v.1.2.2.1, v.1.2.2.2.1⟩ : Fs))
noncomputable def qadd : HX.V qadb → Bool := fun v => (v)
noncomputable def qade : Bool → HX.V qadb := fun y => (y)
noncomputable def qadf : Fs → Option (Bool) := fun x => ref05_Rise x
noncomputable def qadg : Spec := mkSpec qada qadb qadc qade qadf
noncomputable def qadh {R : Type} : List (Nat × Hd R) := [(2, hdOf qac8 qac9)]
noncomputable def qadi {R : Type} : List (Nat × Inl R) := []
noncomputable def qadj : Cfg := { T := qaaa, spec := [], glob := GlobL.G Tryd.prog, eqs := qaab, N := 25, fuel := 64, loops := [(2, ⟨[1, 3], [], [0], 1, [], [], [], []⟩)], joins := [], blocks := [(0, ⟨[], [], [], 0, [], [], [], []⟩)], ovl := [], retA := some ⟨[2], [], [], 0, [], [], [], []⟩, fid := 42, rnd := false, saves := [] }
theorem qadk : CfgOK Tryd.prog qadj := ⟨tsOK_of qaad, specsL_ok (show SpecsL Tryd.prog qadj.spec from trivial), qaae, ovlL_ok (trivial), globsOK_of rfl, freshL_ok (show FreshL Tryd.prog qadj.fresh from trivial), specsL_ok (show SpecsL Tryd.prog qadj.gns from trivial)⟩
theorem qadl {R : Type} : SubsOK Tryd.prog (R := R) 0 qadi := subsOK_nil _ _
theorem qadm {R : Type} : LoopOK (R := R) (hnd 0 qadi) qadj qadh (sub [1, 0, 1, 0, 0] qaak) (HS.V qac8) (HS.st qac8) (HS.sh qac8) qac9 (hdOf qac8 qac9) := loopOK_of qac8 qac9 (fun _ _ => rfl) (by intro q v K; kernel_rfl)
theorem qadn {R : Type} : LoopsOK (R := R) (hnd 0 qadi) qadj qadh qaak := loopsOK_of (l := [sub [1, 0, 1, 0, 0] qaak]) (by kernel_rfl) (loopsL_cons (b := sub [1, 0, 1, 0, 0] qaak) (rid := 2) (by kernel_rfl) (by kernel_rfl) qadm (trivial))
theorem qado : RngsOK Tryd.prog qadj qaak := rngs0 (by kernel_rfl)
theorem qadp : ∀ v, runFn (hnd 0 qadi) qadj qadh qaak Tryd.f42.results.toList (HP.st qada v) (decOf qadb qadd) = qadf (qadc v) := by intro v; kernel_rfl
theorem qadq : SpecOK Tryd.prog 42 qadg := specOK_mk (fn := Tryd.f42) (by kernel_rfl) (by kernel_rfl) (by kernel_rfl) qadk (by kernel_rfl) (by kernel_rfl) qaac (by kernel_rfl) (fun _ => rfl) (d := 0) qadl qadn qado qadp
end Go.Eng
set_option linter.unusedVariables false
set_option maxRecDepth 100000
namespace Go.Eng
open Go Go.Proofs
noncomputable def qadr : List (Nat × TI) := [(9, ⟨false, 1, .one (.str []), .str⟩), (64, ⟨false, 1, .one (.clip .str []), .slice .str 9⟩)]
noncomputable def qads : List (Nat × List EK) := []
theorem qadt : Tryd.prog.follows .mixedOrders = true := by kernel_rfl
theorem qadu : (qadr.all fun x => tiB Tryd.prog x.1 x.2) = true := by kernel_rfl
theorem qadv {c : Cfg} (h : c.eqs = qads := by rfl) : EqsOK Tryd.prog c := eqsOK_of (by rw [h]; kernel_rfl)
noncomputable def qadw : Code := match Tryd.f32.body with | some b => b | none => .skip
noncomputable def qadx : Code := match Tryd.f46.body with | some b => b | none => .skip
noncomputable def qady : Code := match Tryd.f47.body with | some b => b | none => .skip
noncomputable def qadz : Code := match Tryd.f48.body with | some b => b | none => .skip
noncomputable def qad0 : HS := ⟨[(0, .one (.str)), (3, .one (.int .i64))], [], 0⟩
noncomputable def qad1 {R : Type} : Nat → HS.V qad0 → (Ex → St → Option R) → Option R := fun q v K =>
  ref03_May_L2 v.1.1 (K .ret { regs := [(2, .v (.one (.bool false)))], mem := [], nx := 0 }) (K (.exit 0) { regs := [(0, .v (.one (.str v.1.1)))], mem := [], nx := 0 }) q v.1.2.1
noncomputable def qad2 : List HV := [.one (.str)]
noncomputable def qad3 : List HV := [.one (.bool)]
noncomputable def qad4 : HP.V qad2 → Str := fun v => (v.1)
noncomputable def qad5 : HX.V qad3 → Bool := fun v => (v)
noncomputable def qad6 : Bool → HX.V qad3 := fun y => (y)
noncomputable def qad7 : Str → Option (Bool) := fun x => ref03_May x
noncomputable def qad8 : Spec := mkSpec qad2 qad3 qad4 qad6 qad7
noncomputable def qad9 {R : Type} : List (Nat × Hd R) := [(2, hdOf qad0 qad1)]
noncomputable def qaea {R : Type} : List (Nat × Inl R) := []
noncomputable def qaeb : Cfg := { T := qadr, spec := [], glob := GlobL.G Tryd.prog, eqs := qads, N := 36, fuel := 64, loops := [(2, ⟨[0, 3], [], [], 0, [], [], [], []⟩)], joins := [], blocks := [(0, ⟨[0], [], [], 0, [], [], [], []⟩)], ovl := [], retA := some ⟨[2], [], [], 0, [], [], [], []⟩, fid := 47, rnd := false, saves := [] }
theorem qaec : CfgOK Tryd.prog qaeb := ⟨tsOK_of qadu, specsL_ok (show SpecsL Tryd.prog qaeb.spec from trivial), qadv, ovlL_ok (trivial), globsOK_of rfl, freshL_ok (show FreshL Tryd.prog qaeb.fresh from trivial), specsL_ok (show SpecsL Tryd.prog qaeb.gns from trivial)⟩
theorem qaed {R : Type} : SubsOK Tryd.prog (R := R) 0 qaea := subsOK_nil _ _
theorem qaee {R : Type} : LoopOK (R := R) (hnd 0 qaea) qaeb qad9 (sub [1, 0, 1, 0, 0] qady) (HS.V qad0) (HS.st qad0) (HS.sh qad0) qad1 (hdOf qad0 qad1) := loopOK_of qad0 qad1 (fun _ _ => rfl) (by intro q v K; kernel_rfl)
theorem qaef {R : Type} : LoopsOK (R := R) (hnd 0 qaea) qaeb qad9 qady := loopsOK_of (l := [sub [1, 0, 1, 0, 0] qady]) (by kernel_rfl) (loopsL_cons (b := sub [1, 0, 1, 0, 0] qady) (rid := 2) (by kernel_rfl) (by kernel_rfl) qaee (trivial))
theorem qaeg : RngsOK Tryd.prog qaeb qady := rngs0 (by kernel_rfl)
theorem qaeh : ∀ v, runFn (hnd 0 qaea) qaeb qad9 qady Tryd.f47.results.toList (HP.st qad2 v) (decOf qad3 qad5) = qad7 (qad4 v) := by intro v; kernel_rfl
theorem qaei : SpecOK Tryd.prog 47 qad8 := specOK_mk (fn := Tryd.f47) (by kernel_rfl) (by kernel_rfl) (by kernel_rfl) qaec (by kernel_rfl) (by kernel_rfl) qadt (by kernel_rfl) (fun _ => rfl) (d := 0) qaed qaef qaeg qaeh
noncomputable def qaej : HS := ⟨[(0, .one (.str)), (3, .one (.own 0)), (4, .one (.str)), (5, .one (.int .i64))], [(0, .row .str)], 1⟩
noncomputable def qaek {R : Type} : Nat → HS.V qaej → (Ex → St → Option R) → Option R := fun q v K =>
  ref03_Names_L4 v.1.1 (fun y6 => K (.exit 0) { regs := [(3, .v (.one (.own 0)))], mem := [(0, .row .str y6)], nx := 1 }) q v.1.2.2.1 v.1.2.2.2.1 v.2.1
noncomputable def qael : List HV := [.one (.str)]
noncomputable def qaem : List HV := [.one (.sl .str)]
noncomputable def qaen : HP.V qael → Str := fun v => (v.1)
noncomputable def qaeo : HX.V qaem → (List Str) := fun v => (v)
noncomputable def qaep : (List Str) → HX.V qaem := fun y => (y)
noncomputable def qaeq : Str → Option ((List Str)) := fun x => ref03_Names x
noncomputable def qaer : Spec := mkSpec qael qaem qaen qaep qaeq
noncomputable def qaes {R : Type} : List (Nat × Hd R) := [(4, hdOf qaej qaek)]
noncomputable def qaet {R : Type} : List (Nat × Inl R) := []
noncomputable def qaeu : Cfg := { T := qadr, spec := [], glob := GlobL.G Tryd.prog, eqs := qads, N := 36, fuel := 64, loops := [(4, ⟨[0, 3, 4, 5], [(3, 0, .str)], [0], 1, [], [], [], []⟩)], joins := [], blocks := [(0, ⟨[3], [], [0], 1, [], [], [], []⟩)], ovl := [], retA := none, fid := 46, rnd := false, saves := [] }
theorem qaev : CfgOK Tryd.prog qaeu := ⟨tsOK_of qadu, specsL_ok (show SpecsL Tryd.prog qaeu.spec from trivial), qadv, ovlL_ok (trivial), globsOK_of rfl, freshL_ok (show FreshL Tryd.prog qaeu.fresh from trivial), specsL_ok (show SpecsL Tryd.prog qaeu.gns from trivial)⟩
theorem qaew {R : Type} : SubsOK Tryd.prog (R := R) 0 qaet := subsOK_nil _ _
theorem qaex {R : Type} : LoopOK (R := R) (hnd 0 qaet) qaeu qaes (sub [1, 1, 1, 0, 1, 0, 0] qadx) (HS.V qaej) (HS.st qaej) (HS.sh qaej) qaek (hdOf qaej qaek) := loopOK_of qaej qaek (fun _ _ => rfl) (by intro q v K; kernel_rfl)
theorem qaey {R : Type} : LoopsOK (R := R) (hnd 0 qaet) qaeu qaes qadx := loopsOK_of (l := [sub [1, 1, 1, 0, 1, 0, 0] qadx]) (by kernel_rfl) (loopsL_cons (b := sub [1, 1, 1, 0, 1, 0, 0] qadx) (rid := 4) (by kernel_rfl) (by kernel_rfl) qaex (trivial))
theorem qaez : RngsOK Tryd.prog qaeu qadx := rngs0 (by kernel_rfl)
theorem qae0 : ∀ v, runFn (hnd 0 qaet) qaeu qaes qadx Tryd.f46.results.toList (HP.st qael v) (decOf qaem qaeo) = qaeq (qaen v) := by intro v; kernel_rfl
theorem qae1 : SpecOK Tryd.prog 46 qaer := specOK_mk (fn := Tryd.f46) (by kernel_rfl) (by kernel_rfl) (by kernel_rfl) qaev (by kernel_rfl) (by kernel_rfl) qadt (by kernel_rfl) (fun _ => rfl) (d := 0) qaew qaey qaez qae0
noncomputable def qae2 : HS := ⟨[(0, .one (.sl .str)), (3, .one (.str)), (4, .one (.int .i64))], [], 0⟩
noncomputable def qae3 {R : Type} : Nat → HS.V qae2 → (Ex → St → Option R) → Option R := fun q v K =>
  ref03_Join_L5 v.1.1 (fun y5 => K (.exit 0) { regs := [(3, .v (.one (.str y5)))], mem := [], nx := 0 }) q v.1.2.1 v.1.2.2.1
noncomputable def qae4 : List HV := [.one (.sl .str)]
noncomputable def qae5 : List HV := [.one (.str)]
noncomputable def qae6 : HP.V qae4 → (List Str) := fun v => (v.1)
noncomputable def qae7 : HX.V qae5 → Str := fun v => (v)
noncomputable def qae8 : Str → HX.V qae5 := fun y => (y)
noncomputable def qae9 : (List Str) → Option (Str) := fun x => ref03_Join x
noncomputable def qafa : Spec := mkSpec qae4 qae5 qae6 qae8 qae9
noncomputable def qafb {R : Type} : List (Nat × Hd R) := [(5, hdOf qae2 qae3)]
noncomputable def qafc {R : Type} : List (Nat × Inl R) := []
noncomputable def qafd : Cfg := { T := qadr, spec := [], glob := GlobL.G Tryd.prog, eqs := qads, N := 22, fuel := 64, loops := [(5, ⟨[0, 3, 4], [], [], 0, [], [], [], []⟩)], joins := [], blocks := [(0, ⟨[3], [], [], 0, [], [], [], []⟩)], ovl := [], retA := none, fid := 48, rnd := false, saves := [] }
theorem qafe : CfgOK Tryd.prog qafd := ⟨tsOK_of qadu, specsL_ok (show SpecsL Tryd.prog qafd.spec from trivial), qadv, ovlL_ok (trivial), globsOK_of rfl, freshL_ok (show FreshL Tryd.prog qafd.fresh from trivial), specsL_ok (show SpecsL Tryd.prog qafd.gns from trivial)⟩
theorem qaff {R : Type} : SubsOK Tryd.prog (R := R) 0 qafc := subsOK_nil _ _
theorem qafg {R : Type} : LoopOK (R := R) (hnd 0 qafc) qafd qafb (sub [1, 1, 1, 0, 1, 0, 0] qadz) (HS.V qae2) (HS.st qae2) (HS.sh qae2) qae3 (hdOf qae2 qae3) := loopOK_of qae2 qae3 (fun _ _ => rfl) (by intro q v K; kernel_rfl)
theorem qafh {R : Type} : LoopsOK (R := R) (hnd 0 qafc) qafd qafb qadz := loopsOK_of (l := [sub [1, 1, 1, 0, 1, 0, 0] qadz]) (by kernel_rfl) (loopsL_cons (b := sub [1, 1, 1, 0, 1, 0, 0] qadz) (rid := 5) (by kernel_rfl) (by kernel_rfl) qafg (trivial))
theorem qafi : RngsOK Tryd.prog qafd qadz := rngs0 (by kernel_rfl)
theorem qafj : ∀ v, runFn (hnd 0 qafc) qafd qafb qadz Tryd.f48.results.toList (HP.st qae4 v) (decOf qae5 qae7) = qae9 (qae6 v) := by intro v; kernel_rfl
theorem qafk : SpecOK Tryd.prog 48 qafa := specOK_mk (fn := Tryd.f48) (by kernel_rfl) (by kernel_rfl) (by kernel_rfl) qafe (by kernel_rfl) (by kernel_rfl) qadt (by kernel_rfl) (fun _ => rfl) (d := 0) qaff qafh qafi qafj
noncomputable def qafl : HS := ⟨[(0, .one (.str)), (4, .one (.sl .str)), (5, .one (.int .i64))], [], 0⟩
noncomputable def qafm {R : Type} : Nat → HS.V qafl → (Ex → St → Option R) → Option R := fun q v K =>
  ref03_Plain_L3 v.1.2.1 (K .ret { regs := [(2, .v (.one (.clip .str ([] : List Str)))), (3, .v (.one (.bool false)))], mem := [], nx := 0 }) (K (.exit 0) { regs := [(0, .v (.one (.str v.1.1))), (4, .v (.one (.sl .str v.1.2.1)))], mem := [], nx := 0 }) q v.1.2.2.1
noncomputable def qafn : List HV := [.one (.str)]
noncomputable def qafo : List HV := [.one (.sl .str), .one (.bool)]
noncomputable def qafp : HP.V qafn → Str := fun v => (v.1)
noncomputable def qafq : HX.V qafo → (List Str) × Bool := fun v => (v.1, v.2)
noncomputable def qafr : (List Str) × Bool → HX.V qafo := fun y => (y.1, y.2)
noncomputable def qafs : Str → Option ((List Str) × Bool) := fun x => ref03_Plain x
noncomputable def qaft : Spec := mkSpec qafn qafo qafp qafr qafs
noncomputable def qafu {R : Type} : List (Nat × Hd R) := [(3, hdOf qafl qafm)]
noncomputable def qafv {R : Type} : List (Nat × Inl R) := []
noncomputable def qafw : Cfg := { T := qadr, spec := [(46, qaer), (47, qad8), (48, qafa)], glob := GlobL.G Tryd.prog, eqs := qads, N := 25, fuel := 64, loops := [(3, ⟨[0, 4, 5], [], [], 0, [], [], [], []⟩)], joins := [], blocks := [(0, ⟨[0, 4], [], [], 0, [], [], [], []⟩)], ovl := [], retA := some ⟨[2, 3], [], [], 0, [], [], [], []⟩, fid := 32, rnd := false, saves := [] }
theorem qafx : CfgOK Tryd.prog qafw := ⟨tsOK_of qadu, specsL_ok (show SpecsL Tryd.prog qafw.spec from ⟨qae1, ⟨qaei, ⟨qafk, trivial⟩⟩⟩), qadv, ovlL_ok (trivial), globsOK_of rfl, freshL_ok (show FreshL Tryd.prog qafw.fresh from trivial), specsL_ok (show SpecsL Tryd.prog qafw.gns from trivial)⟩
theorem qafy {R : Type} : SubsOK Tryd.prog (R := R) 0 qafv := subsOK_nil _ _
theorem qafz {R : Type} : LoopOK (R := R) (hnd 0 qafv) qafw qafu (sub [1, 1, 0, 1, 0, 0] qadw) (HS.V qafl) (HS.st qafl) (HS.sh qafl) qafm (hdOf qafl qafm) := loopOK_of qafl qafm (fun _ _ => rfl) (by intro q v K; kernel_rfl)
theorem qaf0 {R : Type} : LoopsOK (R := R) (hnd 0 qafv) qafw qafu qadw := loopsOK_of (l := [sub [1, 1, 0, 1, 0, 0] qadw]) (by kernel_rfl) (loopsL_cons (b := sub [1, 1, 0, 1, 0, 0] qadw) (rid := 3) (by kernel_rfl) (by kernel_rfl) qafz (trivial))
theorem qaf1 : RngsOK Tryd.prog qafw qadw := rngs0 (by kernel_rfl)
theorem qaf2 : ∀ v, runFn (hnd 0 qafv) qafw qafu qadw Tryd.f32.results.toList (HP.st qafn v) (decOf qafo qafq) = qafs (qafp v) := by intro v; kernel_rfl
theorem qaf3 : SpecOK Tryd.prog 32 qaft := specOK_mk (fn := Tryd.f32) (by kernel_rfl) (by kernel_rfl) (by kernel_rfl) qafx (by kernel_rfl) (by kernel_rfl) qadt (by kernel_rfl) (fun _ => rfl) (d := 0) qafy qaf0 qaf1 qaf2
end Go.Eng
set_option linter.unusedVariables false
set_option maxRecDepth 100000
namespace Go.Eng
open Go Go.Proofs
noncomputable def qaf4 : List (Nat × TI) := [(3, ⟨false, 1, .one (.int .i64 0), .int .i64⟩), (9, ⟨false, 1, .one (.str []), .str⟩), (31, ⟨false, 1, .one (.clip .entry []), .slice .entry 46⟩), (46, ⟨true, 2, .agg [.str [], .int .i64 0], .struct [(0, 9), (1, 3)]⟩)]
noncomputable def qaf5 : List (Nat × List EK) := []
theorem qaf6 : Tryd.prog.follows .mixedOrders = true := by kernel_rfl
theorem qaf7 : (qaf4.all fun x => tiB Tryd.prog x.1 x.2) = true := by kernel_rfl
theorem qaf8 {c : Cfg} (h : c.eqs = qaf5 := by rfl) : EqsOK Tryd.prog c := eqsOK_of (by rw [h]; kernel_rfl)
noncomputable def qaf9 : Code := match Tryd.f33.body with | some b => b | none => .skip
noncomputable def qaga : Code := match Tryd.f43.body with | some b => b | none => .skip
noncomputable def qagb : HS := ⟨[(0, .one (.sl .entry)), (3, .one (.int .i64))], [], 0⟩
noncomputable def qagc {R : Type} : Nat → HS.V qagb → (Ex → St → Option R) → Option R := fun q v K =>
  ref04_Right_L2 v.1.1 (K .ret { regs := [(2, .v (.one (.bool false)))], mem := [], nx := 0 }) (K (.exit 0) { regs := [], mem := [], nx := 0 }) q v.1.2.1
noncomputable def qagd : List HV := [.one (.sl .entry)]
noncomputable def qage : List HV := [.one (.bool)]
noncomputable def qagf : HP.V qagd → (List Entry) := fun v => (v.1)
noncomputable def qagg : HX.V qage → Bool := fun v => (v)
noncomputable def qagh : Bool → HX.V qage := fun y => (y)
noncomputable def qagi : (List Entry) → Option (Bool) := fun x => ref04_Right x
noncomputable def qagj : Spec := mkSpec qagd qage qagf qagh qagi
noncomputable def qagk {R : Type} : List (Nat × Hd R) := [(2, hdOf qagb qagc)]
noncomputable def qagl {R : Type} : List (Nat × Inl R) := []
noncomputable def qagm : Cfg := { T := qaf4, spec := [(47, qad8)], glob := GlobL.G Tryd.prog, eqs := qaf5, N := 41, fuel := 64, loops := [(2, ⟨[0, 3], [], [], 0, [], [], [], []⟩)], joins := [], blocks := [(0, ⟨[], [], [], 0, [], [], [], []⟩)], ovl := [], retA := some ⟨[2], [], [], 0, [], [], [], []⟩, fid := 43, rnd := false, saves := [] }
theorem qagn : CfgOK Tryd.prog qagm := ⟨tsOK_of qaf7, specsL_ok (show SpecsL Tryd.prog qagm.spec from ⟨qaei, trivial⟩), qaf8, ovlL_ok (trivial), globsOK_of rfl, freshL_ok (show FreshL Tryd.prog qagm.fresh from trivial), specsL_ok (show SpecsL Tryd.prog qagm.gns from trivial)⟩
theorem qago {R : Type} : SubsOK Tryd.prog (R := R) 0 qagl := subsOK_nil _ _
theorem qagp {R : Type} : LoopOK (R := R) (hnd 0 qagl) qagm qagk (sub [1, 0, 1, 0, 0] qaga) (HS.V qagb) (HS.st qagb) (HS.sh qagb) qagc (hdOf qagb qagc) := loopOK_of qagb qagc (fun _ _ => rfl) (by intro q v K; kernel_rfl)
theorem qagq {R : Type} : LoopsOK (R := R) (hnd 0 qagl) qagm qagk qaga := loopsOK_of (l := [sub [1, 0, 1, 0, 0] qaga]) (by kernel_rfl) (loopsL_cons (b := sub [1, 0, 1, 0, 0] qaga) (rid := 2) (by kernel_rfl) (by kernel_rfl) qagp (trivial))
theorem qagr : RngsOK Tryd.prog qagm qaga := rngs0 (by kernel_rfl)
theorem qags : ∀ v, runFn (hnd 0 qagl) qagm qagk qaga Tryd.f43.results.toList (HP.st qagd v) (decOf qage qagg) = qagi (qagf v) := by intro v; kernel_rfl
theorem qagt : SpecOK Tryd.prog 43 qagj := specOK_mk (fn := Tryd.f43) (by kernel_rfl) (by kernel_rfl) (by kernel_rfl) qagn (by kernel_rfl) (by kernel_rfl) qaf6 (by kernel_rfl) (fun _ => rfl) (d := 0) qago qagq qagr qags
noncomputable def qagu : HS := ⟨[(0, .one (.sl .entry)), (1, .one (.str)), (6, .one (.int .i64))], [], 0⟩
noncomputable def qagv {R : Type} : Nat → HS.V qagu → (Ex → St → Option R) → Option R := fun q v K =>
  ref04_Find_L2 v.1.1 v.1.2.1 (fun y6 => K .ret { regs := [(4, .v (.one (.int .i64 y6))), (5, .v (.one (.bool true)))], mem := [], nx := 0 }) (K (.exit 0) { regs := [], mem := [], nx := 0 }) q v.1.2.2.1
noncomputable def qagw : List HV := [.one (.sl .entry), .one (.str)]
noncomputable def qagx : List HV := [.one (.int .i64), .one (.bool)]
noncomputable def qagy : HP.V qagw → (List Entry) × Str := fun v => (v.1, v.2.1)
noncomputable def qagz : HX.V qagx → Int × Bool := fun v => (v.1, v.2)
noncomputable def qag0 : (Int × Bool) → HX.V qagx := fun y => (y.1, y.2)
noncomputable def qag1 : (List Entry) × Str → Option (Int × Bool) := fun x => ref04_Find x.1 x.2
noncomputable def qag2 : Spec := mkSpec qagw qagx qagy qag0 qag1
noncomputable def qag3 {R : Type} : List (Nat × Hd R) := [(2, hdOf qagu qagv)]
noncomputable def qag4 {R : Type} : List (Nat × Inl R) := []
noncomputable def qag5 : Cfg := { T := qaf4, spec := [], glob := GlobL.G Tryd.prog, eqs := qaf5, N := 25, fuel := 64, loops := [(2, ⟨[0, 1, 6], [], [], 0, [], [], [], []⟩)], joins := [], blocks := [(0, ⟨[], [], [], 0, [], [], [], []⟩)], ovl := [], retA := some ⟨[4, 5], [], [], 0, [], [], [], []⟩, fid := 33, rnd := false, saves := [] }
theorem qag6 : CfgOK Tryd.prog qag5 := ⟨tsOK_of qaf7, specsL_ok (show SpecsL Tryd.prog qag5.spec from trivial), qaf8, ovlL_ok (trivial), globsOK_of rfl, freshL_ok (show FreshL Tryd.prog qag5.fresh from trivial), specsL_ok (show SpecsL Tryd.prog qag5.gns from trivial)⟩
theorem qag7 {R : Type} : SubsOK Tryd.prog (R := R) 0 qag4 := subsOK_nil _ _
theorem qag8 {R : Type} : LoopOK (R := R) (hnd 0 qag4) qag5 qag3 (sub [1, 0, 1, 0, 0] qaf9) (HS.V qagu) (HS.st qagu) (HS.sh qagu) qagv (hdOf qagu qagv) := loopOK_of qagu qagv (fun _ _ => rfl) (by intro q v K; kernel_rfl)
theorem qag9 {R : Type} : LoopsOK (R := R) (hnd 0 qag4) qag5 qag3 qaf9 := loopsOK_of (l := [sub [1, 0, 1, 0, 0] qaf9]) (by kernel_rfl) (loopsL_cons (b := sub [1, 0, 1, 0, 0] qaf9) (rid := 2) (by kernel_rfl) (by kernel_rfl) qag8 (trivial))
theorem qaha : RngsOK Tryd.prog qag5 qaf9 := rngs0 (by kernel_rfl)
theorem qahb : ∀ v, runFn (hnd 0 qag4) qag5 qag3 qaf9 Tryd.f33.results.toList (HP.st qagw v) (decOf qagx qagz) = qag1 (qagy v) := by intro v; kernel_rfl
theorem qahc : SpecOK Tryd.prog 33 qag2 := specOK_mk (fn := Tryd.f33) (by kernel_rfl) (by kernel_rfl) (by kernel_rfl) qag6 (by kernel_rfl) (by kernel_rfl) qaf6 (by kernel_rfl) (fun _ => rfl) (d := 0) qag7 qag9 qaha qahb
end Go.Eng
set_option linter.unusedVariables false
set_option maxRecDepth 100000
namespace Go.Eng
open Go Go.Proofs
noncomputable def qahd : List (Nat × TI) := [(3, ⟨false, 1, .one (.int .i64 0), .int .i64⟩), (9, ⟨false, 1, .one (.str []), .str⟩), (22, ⟨false, 1, .one (.clip .inode []), .slice .inode 33⟩), (24, ⟨true, 4, .agg [.int .i64 0, .int .i64 0, .int .i64 0, .clip .inode []], .struct [(0, 3), (1, 3), (2, 3), (3, 22)]⟩), (33, ⟨true, 6, .agg [.int .i64 0, .int .i64 0, .int .i64 0, .str [], .int .i64 0, .clip .entry []], .struct [(0, 3), (1, 3), (2, 3), (3, 9), (4, 3), (5, 31)]⟩)]
noncomputable def qahe : List (Nat × List EK) := []
theorem qahf : Tryd.prog.follows .mixedOrders = true := by kernel_rfl
theorem qahg : (qahd.all fun x => tiB Tryd.prog x.1 x.2) = true := by kernel_rfl
theorem qahh {c : Cfg} (h : c.eqs = qahe := by rfl) : EqsOK Tryd.prog c := eqsOK_of (by rw [h]; kernel_rfl)
noncomputable def qahi : Code := match Tryd.f30.body with | some b => b | none => .skip
noncomputable def qahj : Code := match Tryd.f45.body with | some b => b | none => .skip
noncomputable def qahk : HS := ⟨[(1, .one (.ptr 0 0)), (3, .one (.int .i64)), (4, .one (.int .i64))], [(0, .cells [.int .i64, .int .i64, .int .i64, .sl .inode])], 1⟩
noncomputable def qahl {R : Type} : Nat → HS.V qahk → (Ex → St → Option R) → Option R := fun q v K =>
  ref06_Bytes_L3 (⟨v.2.1.1, v.2.1.2.1, v.2.1.2.2.1, v.2.1.2.2.2.1⟩ : Fs) (fun y6 => K (.exit 0) { regs := [(3, .v (.one (.int .i64 y6)))], mem := [], nx := 0 }) q v.1.2.1 v.1.2.2.1
noncomputable def qahm : List HV := [.agg [.int .i64, .int .i64, .int .i64, .sl .inode]]
noncomputable def qahn : List HV := [.one (.int .i64)]
noncomputable def qaho : HP.V qahm → Fs := fun v => ((⟨v.1.1, v.1.2.1, v.1.2.2.1, v.1.2.2.2.1⟩ : Fs))
noncomputable def qahp : HX.V qahn → Int := fun v => (v)
noncomputable def qahq : Int → HX.V qahn := fun y => (y)
noncomputable def qahr : Fs → Option (Int) := fun x => ref06_Bytes x
noncomputable def qahs : Spec := mkSpec qahm qahn qaho qahq qahr
noncomputable def qaht {R : Type} : List (Nat × Hd R) := [(3, hdOf qahk qahl)]
noncomputable def qahu {R : Type} : List (Nat × Inl R) := []
noncomputable def qahv : Cfg := { T := qahd, spec := [], glob := GlobL.G Tryd.prog, eqs := qahe, N := 29, fuel := 64, loops := [(3, ⟨[1, 3, 4], [], [0], 1, [], [], [], []⟩)], joins := [], blocks := [(0, ⟨[3], [], [], 0, [], [], [], []⟩)], ovl := [], retA := none, fid := 45, rnd := false, saves := [] }
theorem qahw : CfgOK Tryd.prog qahv := ⟨tsOK_of qahg, specsL_ok (show SpecsL Tryd.prog qahv.spec from trivial), qahh, ovlL_ok (trivial), globsOK_of rfl, freshL_ok (show FreshL Tryd.prog qahv.fresh from trivial), specsL_ok (show SpecsL Tryd.prog qahv.gns from trivial)⟩
theorem qahx {R : Type} : SubsOK Tryd.prog (R := R) 0 qahu := subsOK_nil _ _
theorem qahy {R : Type} : LoopOK (R := R) (hnd 0 qahu) qahv qaht (sub [1, 1, 0, 1, 0, 0] qahj) (HS.V qahk) (HS.st qahk) (HS.sh qahk) qahl (hdOf qahk qahl) := loopOK_of qahk qahl (fun _ _ => rfl) (by intro q v K; kernel_rfl)
theorem qahz {R : Type} : LoopsOK (R := R) (hnd 0 qahu) qahv qaht qahj := loopsOK_of (l := [sub [1, 1, 0, 1, 0, 0] qahj]) (by kernel_rfl) (loopsL_cons (b := sub [1, 1, 0, 1, 0, 0] qahj) (rid := 3) (by kernel_rfl) (by kernel_rfl) qahy (trivial))
theorem qah0 : RngsOK Tryd.prog qahv qahj := rngs0 (by kernel_rfl)
theorem qah1 : ∀ v, runFn (hnd 0 qahu) qahv qaht qahj Tryd.f45.results.toList (HP.st qahm v) (decOf qahn qahp) = qahr (qaho v) := by intro v; kernel_rfl
theorem qah2 : SpecOK Tryd.prog 45 qahs := specOK_mk (fn := Tryd.f45) (by kernel_rfl) (by kernel_rfl) (by kernel_rfl) qahw (by kernel_rfl) (by kernel_rfl) qahf (by kernel_rfl) (fun _ => rfl) (d := 0) qahx qahz qah0 qah1
noncomputable def qah3 : List HV := [.agg [.int .i64, .int .i64, .int .i64, .sl .inode], .one (.int .i64), .one (.int .i64)]
noncomputable def qah4 : List HV := [.one (.bool)]
noncomputable def qah5 : HP.V qah3 → Fs × Int × Int := fun v => ((⟨v.1.1, v.1.2.1, v.1.2.2.1, v.1.2.2.2.1⟩ : Fs), v.2.1, v.2.2.1)
noncomputable def qah6 : HX.V qah4 → Bool := fun v => (v)
noncomputable def qah7 : Bool → HX.V qah4 := fun y => (y)
noncomputable def qah8 : (Fs × Int × Int) → Option (Bool) := fun x => ref06_Fits x.1 x.2.1 x.2.2
noncomputable def qah9 : Spec := mkSpec qah3 qah4 qah5 qah7 qah8
noncomputable def qaia {R : Type} : List (Nat × Hd R) := []
noncomputable def qaib {R : Type} : List (Nat × Inl R) := []
noncomputable def qaic : Cfg := { T := qahd, spec := [(45, qahs)], glob := GlobL.G Tryd.prog, eqs := qahe, N := 22, fuel := 64, loops := [], joins := [], blocks := [], ovl := [], retA := none, fid := 30, rnd := false, saves := [] }
theorem qaid : CfgOK Tryd.prog qaic := ⟨tsOK_of qahg, specsL_ok (show SpecsL Tryd.prog qaic.spec from ⟨qah2, trivial⟩), qahh, ovlL_ok (trivial), globsOK_of rfl, freshL_ok (show FreshL Tryd.prog qaic.fresh from trivial), specsL_ok (show SpecsL Tryd.prog qaic.gns from trivial)⟩
theorem qaie {R : Type} : SubsOK Tryd.prog (R := R) 0 qaib := subsOK_nil _ _
theorem qaif {R : Type} : LoopsOK (R := R) (hnd 0 qaib) qaic qaia qahi := loopsOK_of (l := []) (by kernel_rfl) (trivial)
theorem qaig : RngsOK Tryd.prog qaic qahi := rngs0 (by kernel_rfl)
theorem qaih : ∀ v, runFn (hnd 0 qaib) qaic qaia qahi Tryd.f30.results.toList (HP.st qah3 v) (decOf qah4 qah6) = qah8 (qah5 v) := by intro v; kernel_rfl
theorem qaii : SpecOK Tryd.prog 30 qah9 := specOK_mk (fn := Tryd.f30) (by kernel_rfl) (by kernel_rfl) (by kernel_rfl) qaid (by kernel_rfl) (by kernel_rfl) qahf (by kernel_rfl) (fun _ => rfl) (d := 0) qaie qaif qaig qaih
end Go.Eng
set_option linter.unusedVariables false
set_option maxRecDepth 100000
namespace Go.Eng
open Go Go.Proofs
noncomputable def qaij : List (Nat × TI) := [(3, ⟨false, 1, .one (.int .i64 0), .int .i64⟩), (9, ⟨false, 1, .one (.str []), .str⟩), (22, ⟨false, 1, .one (.clip .inode []), .slice .inode 33⟩), (24, ⟨true, 4, .agg [.int .i64 0, .int .i64 0, .int .i64 0, .clip .inode []], .struct [(0, 3), (1, 3), (2, 3), (3, 22)]⟩), (31, ⟨false, 1, .one (.clip .entry []), .slice .entry 46⟩), (33, ⟨true, 6, .agg [.int .i64 0, .int .i64 0, .int .i64 0, .str [], .int .i64 0, .clip .entry []], .struct [(0, 3), (1, 3), (2, 3), (3, 9), (4, 3), (5, 31)]⟩), (46, ⟨true, 2, .agg [.str [], .int .i64 0], .struct [(0, 9), (1, 3)]⟩), (82, ⟨false, 1, .one (.clip .int []), .slice .int 3⟩)]
noncomputable def qaik : List (Nat × List EK) := []
theorem qail : Tryd.prog.follows .mixedOrders = true := by kernel_rfl
theorem qaim : (qaij.all fun x => tiB Tryd.prog x.1 x.2) = true := by kernel_rfl
theorem qain {c : Cfg} (h : c.eqs = qaik := by rfl) : EqsOK Tryd.prog c := eqsOK_of (by rw [h]; kernel_rfl)
noncomputable def qaio : Code := match Tryd.f6.body with | some b => b | none => .skip
noncomputable def qaip : Code := match Tryd.f16.body with | some b => b | none => .skip
noncomputable def qaiq : Code := match Tryd.f25.body with | some b => b | none => .skip
noncomputable def qair : Code := match Tryd.f26.body with | some b => b | none => .skip
noncomputable def qais : Code := match Tryd.f27.body with | some b => b | none => .skip
noncomputable def qait : Code := match Tryd.f28.body with | some b => b | none => .skip
noncomputable def qaiu : Code := match Tryd.f29.body with | some b => b | none => .skip
noncomputable def qaiv : Code := match Tryd.f44.body with | some b => b | none => .skip
noncomputable def qaiw : HS := ⟨[(1, .one (.ptr 0 0)), (3, .one (.int .i64))], [(0, .cells [.int .i64, .int .i64, .int .i64, .sl .inode])], 1⟩
noncomputable def qaix {R : Type} : Nat → HS.V qaiw → (Ex → St → Option R) → Option R := fun q v K =>
  ref07_first_L4 (⟨v.2.1.1, v.2.1.2.1, v.2.1.2.2.1, v.2.1.2.2.2.1⟩ : Fs) (K .ret { regs := [(2, .v (.one (.bool false)))], mem := [], nx := 0 }) (K (.exit 0) { regs := [(1, .v (.one (.ptr 0 0)))], mem := [(0, .cells [.int .i64 ((⟨v.2.1.1, v.2.1.2.1, v.2.1.2.2.1, v.2.1.2.2.2.1⟩ : Fs).maxInodes), .int .i64 ((⟨v.2.1.1, v.2.1.2.1, v.2.1.2.2.1, v.2.1.2.2.2.1⟩ : Fs).maxBytes), .int .i64 ((⟨v.2.1.1, v.2.1.2.1, v.2.1.2.2.1, v.2.1.2.2.2.1⟩ : Fs).next), .sl .inode ((⟨v.2.1.1, v.2.1.2.1, v.2.1.2.2.1, v.2.1.2.2.2.1⟩ : Fs).inodes)])], nx := 1 }) q v.1.2.1
noncomputable def qaiy : List HV := [.agg [.int .i64, .int .i64, .int .i64, .sl .inode]]
noncomputable def qaiz : List HV := [.one (.bool)]
noncomputable def qai0 : HP.V qaiy → Fs := fun v => ((⟨v.1.1, v.1.2.1, v.1.2.2.1, v.1.2.2.2.1⟩ : Fs))
noncomputable def qai1 : HX.V qaiz → Bool := fun v => (v)
noncomputable def qai2 : Bool → HX.V qaiz := fun y => (y)
noncomputable def qai3 : Fs → Option (Bool) := fun x => ref07_first x
noncomputable def qai4 : Spec := mkSpec qaiy qaiz qai0 qai2 qai3
noncomputable def qai5 {R : Type} : List (Nat × Hd R) := [(4, hdOf qaiw qaix)]
noncomputable def qai6 {R : Type} : List (Nat × Inl R) := []
noncomputable def qai7 : Cfg := { T := qaij, spec := [(11, qacx), (42, qadg)], glob := GlobL.G Tryd.prog, eqs := qaik, N := 69, fuel := 64, loops := [(4, ⟨[1, 3], [], [0], 1, [], [], [], []⟩)], joins := [], blocks := [(0, ⟨[1], [], [0], 1, [], [], [], []⟩)], ovl := [], retA := some ⟨[2], [], [], 0, [], [], [], []⟩, fid := 25, rnd := false, saves := [] }
theorem qai8 : CfgOK Tryd.prog qai7 := ⟨tsOK_of qaim, specsL_ok (show SpecsL Tryd.prog qai7.spec from ⟨qac7, ⟨qadq, trivial⟩⟩), qain, ovlL_ok (trivial), globsOK_of rfl, freshL_ok (show FreshL Tryd.prog qai7.fresh from trivial), specsL_ok (show SpecsL Tryd.prog qai7.gns from trivial)⟩
theorem qai9 {R : Type} : SubsOK Tryd.prog (R := R) 0 qai6 := subsOK_nil _ _
theorem qaja {R : Type} : LoopOK (R := R) (hnd 0 qai6) qai7 qai5 (sub [1, 1, 0, 1, 0, 0] qaiq) (HS.V qaiw) (HS.st qaiw) (HS.sh qaiw) qaix (hdOf qaiw qaix) := loopOK_of qaiw qaix (fun _ _ => rfl) (by intro q v K; kernel_rfl)
theorem qajb {R : Type} : LoopsOK (R := R) (hnd 0 qai6) qai7 qai5 qaiq := loopsOK_of (l := [sub [1, 1, 0, 1, 0, 0] qaiq]) (by kernel_rfl) (loopsL_cons (b := sub [1, 1, 0, 1, 0, 0] qaiq) (rid := 4) (by kernel_rfl) (by kernel_rfl) qaja (trivial))
theorem qajc : RngsOK Tryd.prog qai7 qaiq := rngs0 (by kernel_rfl)
theorem qajd : ∀ v, runFn (hnd 0 qai6) qai7 qai5 qaiq Tryd.f25.results.toList (HP.st qaiy v) (decOf qaiz qai1) = qai3 (qai0 v) := by intro v; kernel_rfl
theorem qaje : SpecOK Tryd.prog 25 qai4 := specOK_mk (fn := Tryd.f25) (by kernel_rfl) (by kernel_rfl) (by kernel_rfl) qai8 (by kernel_rfl) (by kernel_rfl) qail (by kernel_rfl) (fun _ => rfl) (d := 0) qai9 qajb qajc qajd
noncomputable def qajf : HS := ⟨[(1, .one (.ptr 0 0)), (3, .one (.int .i64)), (4, .one (.ptr 1 0)), (5, .one (.int .i64))], [(0, .cells [.int .i64, .int .i64, .int .i64, .sl .inode]), (1, .cells [.int .i64, .int .i64, .int .i64, .str, .int .i64, .sl .entry])], 2⟩
noncomputable def qajg {R : Type} : Nat → HS.V qajf → (Ex → St → Option R) → Option R := fun q v K =>
  ref07_second_L14 (⟨v.2.2.1.1, v.2.2.1.2.1, v.2.2.1.2.2.1, v.2.2.1.2.2.2.1, v.2.2.1.2.2.2.2.1, v.2.2.1.2.2.2.2.2.1⟩ : Inode) (K .ret { regs := [(2, .v (.one (.bool false)))], mem := [], nx := 0 }) (K (.exit 2) { regs := [(1, .v (.one (.ptr 0 0))), (3, .v (.one (.int .i64 v.1.2.1)))], mem := [(0, .cells [.int .i64 ((⟨v.2.1.1, v.2.1.2.1, v.2.1.2.2.1, v.2.1.2.2.2.1⟩ : Fs).maxInodes), .int .i64 ((⟨v.2.1.1, v.2.1.2.1, v.2.1.2.2.1, v.2.1.2.2.2.1⟩ : Fs).maxBytes), .int .i64 ((⟨v.2.1.1, v.2.1.2.1, v.2.1.2.2.1, v.2.1.2.2.2.1⟩ : Fs).next), .sl .inode ((⟨v.2.1.1, v.2.1.2.1, v.2.1.2.2.1, v.2.1.2.2.2.1⟩ : Fs).inodes)])], nx := 1 }) q v.1.2.2.2.1
noncomputable def qajh : HS := ⟨[(1, .one (.ptr 0 0)), (3, .one (.int .i64))], [(0, .cells [.int .i64, .int .i64, .int .i64, .sl .inode])], 1⟩
noncomputable def qaji {R : Type} : Nat → HS.V qajh → (Ex → St → Option R) → Option R := fun q v K =>
  ref07_second_L2 (⟨v.2.1.1, v.2.1.2.1, v.2.1.2.2.1, v.2.1.2.2.2.1⟩ : Fs) (K .ret { regs := [(2, .v (.one (.bool false)))], mem := [], nx := 0 }) (K (.exit 0) { regs := [], mem := [], nx := 0 }) q v.1.2.1
noncomputable def qajj : List HV := [.agg [.int .i64, .int .i64, .int .i64, .sl .inode]]
noncomputable def qajk : List HV := [.one (.bool)]
noncomputable def qajl : HP.V qajj → Fs := fun v => ((⟨v.1.1, v.1.2.1, v.1.2.2.1, v.1.2.2.2.1⟩ : Fs))
noncomputable def qajm : HX.V qajk → Bool := fun v => (v)
noncomputable def qajn : Bool → HX.V qajk := fun y => (y)
noncomputable def qajo : Fs → Option (Bool) := fun x => ref07_second x
noncomputable def qajp : Spec := mkSpec qajj qajk qajl qajn qajo
noncomputable def qajq {R : Type} : List (Nat × Hd R) := [(2, hdOf qajh qaji), (14, hdOf qajf qajg)]
noncomputable def qajr {R : Type} : List (Nat × Inl R) := []
noncomputable def qajs : Cfg := { T := qaij, spec := [(43, qagj)], glob := GlobL.G Tryd.prog, eqs := qaik, N := 91, fuel := 64, loops := [(14, ⟨[1, 3, 4, 5], [], [0, 1], 2, [], [], [], []⟩), (2, ⟨[1, 3], [], [0], 1, [], [], [], []⟩)], joins := [], blocks := [(0, ⟨[], [], [], 0, [], [], [], []⟩), (1, ⟨[1, 3], [], [0], 1, [], [], [], []⟩), (2, ⟨[1, 3], [], [0], 1, [], [], [], []⟩)], ovl := [], retA := some ⟨[2], [], [], 0, [], [], [], []⟩, fid := 26, rnd := false, saves := [] }
theorem qajt : CfgOK Tryd.prog qajs := ⟨tsOK_of qaim, specsL_ok (show SpecsL Tryd.prog qajs.spec from ⟨qagt, trivial⟩), qain, ovlL_ok (trivial), globsOK_of rfl, freshL_ok (show FreshL Tryd.prog qajs.fresh from trivial), specsL_ok (show SpecsL Tryd.prog qajs.gns from trivial)⟩
theorem qaju {R : Type} : SubsOK Tryd.prog (R := R) 0 qajr := subsOK_nil _ _
theorem qajv {R : Type} : LoopOK (R := R) (hnd 0 qajr) qajs qajq (sub [1, 0, 1, 0, 0] qair) (HS.V qajh) (HS.st qajh) (HS.sh qajh) qaji (hdOf qajh qaji) := loopOK_of qajh qaji (fun _ _ => rfl) (by intro q v K; kernel_rfl)
theorem qajw {R : Type} : LoopOK (R := R) (hnd 0 qajr) qajs qajq (sub [1, 0, 1, 0, 0, 1, 0, 0, 1, 1, 1, 1, 1, 1, 0, 0] qair) (HS.V qajf) (HS.st qajf) (HS.sh qajf) qajg (hdOf qajf qajg) := loopOK_of qajf qajg (fun _ _ => rfl) (by intro q v K; kernel_rfl)
theorem qajx {R : Type} : LoopsOK (R := R) (hnd 0 qajr) qajs qajq qair := loopsOK_of (l := [sub [1, 0, 1, 0, 0] qair, sub [1, 0, 1, 0, 0, 1, 0, 0, 1, 1, 1, 1, 1, 1, 0, 0] qair]) (by kernel_rfl) (loopsL_cons (b := sub [1, 0, 1, 0, 0] qair) (rid := 2) (by kernel_rfl) (by kernel_rfl) qajv (loopsL_cons (b := sub [1, 0, 1, 0, 0, 1, 0, 0, 1, 1, 1, 1, 1, 1, 0, 0] qair) (rid := 14) (by kernel_rfl) (by kernel_rfl) qajw (trivial)))
theorem qajy : RngsOK Tryd.prog qajs qair := rngs0 (by kernel_rfl)
theorem qajz : ∀ v, runFn (hnd 0 qajr) qajs qajq qair Tryd.f26.results.toList (HP.st qajj v) (decOf qajk qajm) = qajo (qajl v) := by intro v; kernel_rfl
theorem qaj0 : SpecOK Tryd.prog 26 qajp := specOK_mk (fn := Tryd.f26) (by kernel_rfl) (by kernel_rfl) (by kernel_rfl) qajt (by kernel_rfl) (by kernel_rfl) qail (by kernel_rfl) (fun _ => rfl) (d := 0) qaju qajx qajy qajz
noncomputable def qaj1 : HS := ⟨[(1, .one (.ptr 0 0)), (3, .one (.int .i64)), (4, .one (.int .i64))], [(0, .cells [.int .i64, .int .i64, .int .i64, .sl .inode])], 1⟩
noncomputable def qaj2 {R : Type} : Nat → HS.V qaj1 → (Ex → St → Option R) → Option R := fun q v K =>
  ref07_third_L5 v.1.2.1 (⟨v.2.1.1, v.2.1.2.1, v.2.1.2.2.1, v.2.1.2.2.2.1⟩ : Fs) (K .ret { regs := [(2, .v (.one (.bool false)))], mem := [], nx := 0 }) (K (.exit 2) { regs := [(1, .v (.one (.ptr 0 0))), (3, .v (.one (.int .i64 v.1.2.1)))], mem := [(0, .cells [.int .i64 ((⟨v.2.1.1, v.2.1.2.1, v.2.1.2.2.1, v.2.1.2.2.2.1⟩ : Fs).maxInodes), .int .i64 ((⟨v.2.1.1, v.2.1.2.1, v.2.1.2.2.1, v.2.1.2.2.2.1⟩ : Fs).maxBytes), .int .i64 ((⟨v.2.1.1, v.2.1.2.1, v.2.1.2.2.1, v.2.1.2.2.2.1⟩ : Fs).next), .sl .inode ((⟨v.2.1.1, v.2.1.2.1, v.2.1.2.2.1, v.2.1.2.2.2.1⟩ : Fs).inodes)])], nx := 1 }) q v.1.2.2.1
noncomputable def qaj3 : HS := ⟨[(1, .one (.ptr 0 0)), (3, .one (.int .i64))], [(0, .cells [.int .i64, .int .i64, .int .i64, .sl .inode])], 1⟩
noncomputable def qaj4 {R : Type} : Nat → HS.V qaj3 → (Ex → St → Option R) → Option R := fun q v K =>
  ref07_third_L2 (⟨v.2.1.1, v.2.1.2.1, v.2.1.2.2.1, v.2.1.2.2.2.1⟩ : Fs) (K .ret { regs := [(2, .v (.one (.bool false)))], mem := [], nx := 0 }) (K (.exit 0) { regs := [], mem := [], nx := 0 }) q v.1.2.1
noncomputable def qaj5 : List HV := [.agg [.int .i64, .int .i64, .int .i64, .sl .inode]]
noncomputable def qaj6 : List HV := [.one (.bool)]
noncomputable def qaj7 : HP.V qaj5 → Fs := fun v => ((⟨v.1.1, v.1.2.1, v.1.2.2.1, v.1.2.2.2.1⟩ : Fs))
noncomputable def qaj8 : HX.V qaj6 → Bool := fun v => (v)
noncomputable def qaj9 : Bool → HX.V qaj6 := fun y => (y)
noncomputable def qaka : Fs → Option (Bool) := fun x => ref07_third x
noncomputable def qakb : Spec := mkSpec qaj5 qaj6 qaj7 qaj9 qaka
noncomputable def qakc {R : Type} : List (Nat × Hd R) := [(2, hdOf qaj3 qaj4), (5, hdOf qaj1 qaj2)]
noncomputable def qakd {R : Type} : List (Nat × Inl R) := []
noncomputable def qake : Cfg := { T := qaij, spec := [(11, qacx)], glob := GlobL.G Tryd.prog, eqs := qaik, N := 42, fuel := 64, loops := [(5, ⟨[1, 3, 4], [], [0], 1, [], [], [], []⟩), (2, ⟨[1, 3], [], [0], 1, [], [], [], []⟩)], joins := [], blocks := [(0, ⟨[], [], [], 0, [], [], [], []⟩), (1, ⟨[1, 3], [], [0], 1, [], [], [], []⟩), (2, ⟨[1, 3], [], [0], 1, [], [], [], []⟩)], ovl := [], retA := some ⟨[2], [], [], 0, [], [], [], []⟩, fid := 27, rnd := false, saves := [] }
theorem qakf : CfgOK Tryd.prog qake := ⟨tsOK_of qaim, specsL_ok (show SpecsL Tryd.prog qake.spec from ⟨qac7, trivial⟩), qain, ovlL_ok (trivial), globsOK_of rfl, freshL_ok (show FreshL Tryd.prog qake.fresh from trivial), specsL_ok (show SpecsL Tryd.prog qake.gns from trivial)⟩
theorem qakg {R : Type} : SubsOK Tryd.prog (R := R) 0 qakd := subsOK_nil _ _
theorem qakh {R : Type} : LoopOK (R := R) (hnd 0 qakd) qake qakc (sub [1, 0, 1, 0, 0] qais) (HS.V qaj3) (HS.st qaj3) (HS.sh qaj3) qaj4 (hdOf qaj3 qaj4) := loopOK_of qaj3 qaj4 (fun _ _ => rfl) (by intro q v K; kernel_rfl)
theorem qaki {R : Type} : LoopOK (R := R) (hnd 0 qakd) qake qakc (sub [1, 0, 1, 0, 0, 1, 0, 0, 1, 0, 0] qais) (HS.V qaj1) (HS.st qaj1) (HS.sh qaj1) qaj2 (hdOf qaj1 qaj2) := loopOK_of qaj1 qaj2 (fun _ _ => rfl) (by intro q v K; kernel_rfl)
theorem qakj {R : Type} : LoopsOK (R := R) (hnd 0 qakd) qake qakc qais := loopsOK_of (l := [sub [1, 0, 1, 0, 0] qais, sub [1, 0, 1, 0, 0, 1, 0, 0, 1, 0, 0] qais]) (by kernel_rfl) (loopsL_cons (b := sub [1, 0, 1, 0, 0] qais) (rid := 2) (by kernel_rfl) (by kernel_rfl) qakh (loopsL_cons (b := sub [1, 0, 1, 0, 0, 1, 0, 0, 1, 0, 0] qais) (rid := 5) (by kernel_rfl) (by kernel_rfl) qaki (trivial)))
theorem qakk : RngsOK Tryd.prog qake qais := rngs0 (by kernel_rfl)
theorem qakl : ∀ v, runFn (hnd 0 qakd) qake qakc qais Tryd.f27.results.toList (HP.st qaj5 v) (decOf qaj6 qaj8) = qaka (qaj7 v) := by intro v; kernel_rfl
theorem qakm : SpecOK Tryd.prog 27 qakb := specOK_mk (fn := Tryd.f27) (by kernel_rfl) (by kernel_rfl) (by kernel_rfl) qakf (by kernel_rfl) (by kernel_rfl) qail (by kernel_rfl) (fun _ => rfl) (d := 0) qakg qakj qakk qakl
noncomputable def qakn : HS := ⟨[(1, .one (.int .i64)), (2, .one (.ptr 0 0)), (6, .one (.int .i64)), (7, .one (.int .i64)), (8, .one (.int .i64)), (9, .one (.int .i64))], [(0, .cells [.int .i64, .int .i64, .int .i64, .sl .inode])], 1⟩
noncomputable def qako {R : Type} : Nat → HS.V qakn → (Ex → St → Option R) → Option R := fun q v K =>
  ref07_Names_L7 v.1.1 v.1.2.2.2.2.1 (⟨v.2.1.1, v.2.1.2.1, v.2.1.2.2.1, v.2.1.2.2.2.1⟩ : Fs) (fun y17 y18 => K (.exit 2) { regs := [(1, .v (.one (.int .i64 v.1.1))), (2, .v (.one (.ptr 0 0))), (6, .v (.one (.int .i64 y17))), (7, .v (.one (.int .i64 y18))), (8, .v (.one (.int .i64 v.1.2.2.2.2.1)))], mem := [(0, .cells [.int .i64 ((⟨v.2.1.1, v.2.1.2.1, v.2.1.2.2.1, v.2.1.2.2.2.1⟩ : Fs).maxInodes), .int .i64 ((⟨v.2.1.1, v.2.1.2.1, v.2.1.2.2.1, v.2.1.2.2.2.1⟩ : Fs).maxBytes), .int .i64 ((⟨v.2.1.1, v.2.1.2.1, v.2.1.2.2.1, v.2.1.2.2.2.1⟩ : Fs).next), .sl .inode ((⟨v.2.1.1, v.2.1.2.1, v.2.1.2.2.1, v.2.1.2.2.2.1⟩ : Fs).inodes)])], nx := 1 }) q v.1.2.2.1 v.1.2.2.2.1 v.1.2.2.2.2.2.1
noncomputable def qakp : HS := ⟨[(1, .one (.int .i64)), (2, .one (.ptr 0 0)), (6, .one (.int .i64)), (7, .one (.int .i64)), (8, .one (.int .i64))], [(0, .cells [.int .i64, .int .i64, .int .i64, .sl .inode])], 1⟩
noncomputable def qakq {R : Type} : Nat → HS.V qakp → (Ex → St → Option R) → Option R := fun q v K =>
  ref07_Names_L4 v.1.1 (⟨v.2.1.1, v.2.1.2.1, v.2.1.2.2.1, v.2.1.2.2.2.1⟩ : Fs) (fun y23 y24 => K (.exit 0) { regs := [(6, .v (.one (.int .i64 y23))), (7, .v (.one (.int .i64 y24)))], mem := [], nx := 0 }) q v.1.2.2.1 v.1.2.2.2.1 v.1.2.2.2.2.1
noncomputable def qakr : List HV := [.agg [.int .i64, .int .i64, .int .i64, .sl .inode], .one (.int .i64)]
noncomputable def qaks : List HV := [.one (.int .i64), .one (.int .i64)]
noncomputable def qakt : HP.V qakr → Fs × Int := fun v => ((⟨v.1.1, v.1.2.1, v.1.2.2.1, v.1.2.2.2.1⟩ : Fs), v.2.1)
noncomputable def qaku : HX.V qaks → Int × Int := fun v => (v.1, v.2)
noncomputable def qakv : (Int × Int) → HX.V qaks := fun y => (y.1, y.2)
noncomputable def qakw : (Fs × Int) → Option (Int × Int) := fun x => ref07_Names x.1 x.2
noncomputable def qakx : Spec := mkSpec qakr qaks qakt qakv qakw
noncomputable def qaky {R : Type} : List (Nat × Hd R) := [(4, hdOf qakp qakq), (7, hdOf qakn qako)]
noncomputable def qakz {R : Type} : List (Nat × Inl R) := []
noncomputable def qak0 : Cfg := { T := qaij, spec := [], glob := GlobL.G Tryd.prog, eqs := qaik, N := 50, fuel := 64, loops := [(7, ⟨[1, 2, 6, 7, 8, 9], [], [0], 1, [], [], [], []⟩), (4, ⟨[1, 2, 6, 7, 8], [], [0], 1, [], [], [], []⟩)], joins := [], blocks := [(0, ⟨[6, 7], [], [], 0, [], [], [], []⟩), (1, ⟨[1, 2, 6, 7, 8], [], [0], 1, [], [], [], []⟩), (2, ⟨[1, 2, 6, 7, 8], [], [0], 1, [], [], [], []⟩)], ovl := [], retA := none, fid := 44, rnd := false, saves := [] }
theorem qak1 : CfgOK Tryd.prog qak0 := ⟨tsOK_of qaim, specsL_ok (show SpecsL Tryd.prog qak0.spec from trivial), qain, ovlL_ok (trivial), globsOK_of rfl, freshL_ok (show FreshL Tryd.prog qak0.fresh from trivial), specsL_ok (show SpecsL Tryd.prog qak0.gns from trivial)⟩
theorem qak2 {R : Type} : SubsOK Tryd.prog (R := R) 0 qakz := subsOK_nil _ _
theorem qak3 {R : Type} : LoopOK (R := R) (hnd 0 qakz) qak0 qaky (sub [1, 1, 1, 0, 1, 0, 0] qaiv) (HS.V qakp) (HS.st qakp) (HS.sh qakp) qakq (hdOf qakp qakq) := loopOK_of qakp qakq (fun _ _ => rfl) (by intro q v K; kernel_rfl)
theorem qak4 {R : Type} : LoopOK (R := R) (hnd 0 qakz) qak0 qaky (sub [1, 1, 1, 0, 1, 0, 0, 1, 0, 0, 1, 0, 0] qaiv) (HS.V qakn) (HS.st qakn) (HS.sh qakn) qako (hdOf qakn qako) := loopOK_of qakn qako (fun _ _ => rfl) (by intro q v K; kernel_rfl)
theorem qak5 {R : Type} : LoopsOK (R := R) (hnd 0 qakz) qak0 qaky qaiv := loopsOK_of (l := [sub [1, 1, 1, 0, 1, 0, 0] qaiv, sub [1, 1, 1, 0, 1, 0, 0, 1, 0, 0, 1, 0, 0] qaiv]) (by kernel_rfl) (loopsL_cons (b := sub [1, 1, 1, 0, 1, 0, 0] qaiv) (rid := 4) (by kernel_rfl) (by kernel_rfl) qak3 (loopsL_cons (b := sub [1, 1, 1, 0, 1, 0, 0, 1, 0, 0, 1, 0, 0] qaiv) (rid := 7) (by kernel_rfl) (by kernel_rfl) qak4 (trivial)))
theorem qak6 : RngsOK Tryd.prog qak0 qaiv := rngs0 (by kernel_rfl)
theorem qak7 : ∀ v, runFn (hnd 0 qakz) qak0 qaky qaiv Tryd.f44.results.toList (HP.st qakr v) (decOf qaks qaku) = qakw (qakt v) := by intro v; kernel_rfl
theorem qak8 : SpecOK Tryd.prog 44 qakx := specOK_mk (fn := Tryd.f44) (by kernel_rfl) (by kernel_rfl) (by kernel_rfl) qak1 (by kernel_rfl) (by kernel_rfl) qail (by kernel_rfl) (fun _ => rfl) (d := 0) qak2 qak5 qak6 qak7
noncomputable def qak9 : HS := ⟨[(1, .one (.ptr 0 0)), (3, .one (.int .i64))], [(0, .cells [.int .i64, .int .i64, .int .i64, .sl .inode])], 1⟩
noncomputable def qala {R : Type} : Nat → HS.V qak9 → (Ex → St → Option R) → Option R := fun q v K =>
  ref07_fourth_L2 (⟨v.2.1.1, v.2.1.2.1, v.2.1.2.2.1, v.2.1.2.2.2.1⟩ : Fs) (K .ret { regs := [(2, .v (.one (.bool false)))], mem := [], nx := 0 }) (K (.exit 0) { regs := [], mem := [], nx := 0 }) q v.1.2.1
noncomputable def qalb : List HV := [.agg [.int .i64, .int .i64, .int .i64, .sl .inode]]
noncomputable def qalc : List HV := [.one (.bool)]
noncomputable def qald : HP.V qalb → Fs := fun v => ((⟨v.1.1, v.1.2.1, v.1.2.2.1, v.1.2.2.2.1⟩ : Fs))
noncomputable def qale : HX.V qalc → Bool := fun v => (v)
noncomputable def qalf : Bool → HX.V qalc := fun y => (y)
noncomputable def qalg : Fs → Option (Bool) := fun x => ref07_fourth x
noncomputable def qalh : Spec := mkSpec qalb qalc qald qalf qalg
noncomputable def qali {R : Type} : List (Nat × Hd R) := [(2, hdOf qak9 qala)]
noncomputable def qalj {R : Type} : List (Nat × Inl R) := []
noncomputable def qalk : Cfg := { T := qaij, spec := [(44, qakx)], glob := GlobL.G Tryd.prog, eqs := qaik, N := 57, fuel := 64, loops := [(2, ⟨[1, 3], [], [0], 1, [], [], [], []⟩)], joins := [], blocks := [(0, ⟨[], [], [], 0, [], [], [], []⟩)], ovl := [], retA := some ⟨[2], [], [], 0, [], [], [], []⟩, fid := 28, rnd := false, saves := [] }
theorem qall : CfgOK Tryd.prog qalk := ⟨tsOK_of qaim, specsL_ok (show SpecsL Tryd.prog qalk.spec from ⟨qak8, trivial⟩), qain, ovlL_ok (trivial), globsOK_of rfl, freshL_ok (show FreshL Tryd.prog qalk.fresh from trivial), specsL_ok (show SpecsL Tryd.prog qalk.gns from trivial)⟩
theorem qalm {R : Type} : SubsOK Tryd.prog (R := R) 0 qalj := subsOK_nil _ _
theorem qaln {R : Type} : LoopOK (R := R) (hnd 0 qalj) qalk qali (sub [1, 0, 1, 0, 0] qait) (HS.V qak9) (HS.st qak9) (HS.sh qak9) qala (hdOf qak9 qala) := loopOK_of qak9 qala (fun _ _ => rfl) (by intro q v K; kernel_rfl)
theorem qalo {R : Type} : LoopsOK (R := R) (hnd 0 qalj) qalk qali qait := loopsOK_of (l := [sub [1, 0, 1, 0, 0] qait]) (by kernel_rfl) (loopsL_cons (b := sub [1, 0, 1, 0, 0] qait) (rid := 2) (by kernel_rfl) (by kernel_rfl) qaln (trivial))
theorem qalp : RngsOK Tryd.prog qalk qait := rngs0 (by kernel_rfl)
theorem qalq : ∀ v, runFn (hnd 0 qalj) qalk qali qait Tryd.f28.results.toList (HP.st qalb v) (decOf qalc qale) = qalg (qald v) := by intro v; kernel_rfl
theorem qalr : SpecOK Tryd.prog 28 qalh := specOK_mk (fn := Tryd.f28) (by kernel_rfl) (by kernel_rfl) (by kernel_rfl) qall (by kernel_rfl) (by kernel_rfl) qail (by kernel_rfl) (fun _ => rfl) (d := 0) qalm qalo qalp qalq
noncomputable def qals : HS := ⟨[(1, .one (.ptr 0 0)), (3, .one (.own 1)), (4, .one (.int .i64)), (5, .one (.ptr 2 0)), (7, .one (.int .i64)), (8, .one (.bool)), (9, .one (.int .i64))], [(0, .cells [.int .i64, .int .i64, .int .i64, .sl .inode]), (1, .row .int), (2, .cells [.int .i64, .int .i64, .int .i64, .str, .int .i64, .sl .entry])], 3⟩
noncomputable def qalt {R : Type} : Nat → HS.V qals → (Ex → St → Option R) → Option R := fun q v K =>
  ref07_fifth_L11 v.1.2.2.2.2.1 v.2.2.1 (⟨v.2.2.2.1.1, v.2.2.2.1.2.1, v.2.2.2.1.2.2.1, v.2.2.2.1.2.2.2.1, v.2.2.2.1.2.2.2.2.1, v.2.2.2.1.2.2.2.2.2.1⟩ : Inode) (fun y22 => K (.exit 4) { regs := [(1, .v (.one (.ptr 0 0))), (3, .v (.one (.own 1))), (4, .v (.one (.int .i64 v.1.2.2.1))), (5, .v (.one (.ptr 2 0))), (7, .v (.one (.int .i64 v.1.2.2.2.2.1))), (8, .v (.one (.bool y22)))], mem := [(0, .cells [.int .i64 ((⟨v.2.1.1, v.2.1.2.1, v.2.1.2.2.1, v.2.1.2.2.2.1⟩ : Fs).maxInodes), .int .i64 ((⟨v.2.1.1, v.2.1.2.1, v.2.1.2.2.1, v.2.1.2.2.2.1⟩ : Fs).maxBytes), .int .i64 ((⟨v.2.1.1, v.2.1.2.1, v.2.1.2.2.1, v.2.1.2.2.2.1⟩ : Fs).next), .sl .inode ((⟨v.2.1.1, v.2.1.2.1, v.2.1.2.2.1, v.2.1.2.2.2.1⟩ : Fs).inodes)]), (1, .row .int v.2.2.1), (2, .cells [.int .i64 ((⟨v.2.2.2.1.1, v.2.2.2.1.2.1, v.2.2.2.1.2.2.1, v.2.2.2.1.2.2.2.1, v.2.2.2.1.2.2.2.2.1, v.2.2.2.1.2.2.2.2.2.1⟩ : Inode).ino), .int .i64 ((⟨v.2.2.2.1.1, v.2.2.2.1.2.1, v.2.2.2.1.2.2.1, v.2.2.2.1.2.2.2.1, v.2.2.2.1.2.2.2.2.1, v.2.2.2.1.2.2.2.2.2.1⟩ : Inode).kind), .int .i64 ((⟨v.2.2.2.1.1, v.2.2.2.1.2.1, v.2.2.2.1.2.2.1, v.2.2.2.1.2.2.2.1, v.2.2.2.1.2.2.2.2.1, v.2.2.2.1.2.2.2.2.2.1⟩ : Inode).links), .str ((⟨v.2.2.2.1.1, v.2.2.2.1.2.1, v.2.2.2.1.2.2.1, v.2.2.2.1.2.2.2.1, v.2.2.2.1.2.2.2.2.1, v.2.2.2.1.2.2.2.2.2.1⟩ : Inode).data), .int .i64 ((⟨v.2.2.2.1.1, v.2.2.2.1.2.1, v.2.2.2.1.2.2.1, v.2.2.2.1.2.2.2.1, v.2.2.2.1.2.2.2.2.1, v.2.2.2.1.2.2.2.2.2.1⟩ : Inode).parent), .sl .entry ((⟨v.2.2.2.1.1, v.2.2.2.1.2.1, v.2.2.2.1.2.2.1, v.2.2.2.1.2.2.2.1, v.2.2.2.1.2.2.2.2.1, v.2.2.2.1.2.2.2.2.2.1⟩ : Inode).entries)])], nx := 3 }) q v.1.2.2.2.2.2.1 v.1.2.2.2.2.2.2.1
noncomputable def qalu : HS := ⟨[(1, .one (.ptr 0 0)), (3, .one (.own 1)), (4, .one (.int .i64)), (5, .one (.ptr 2 0)), (7, .one (.int .i64))], [(0, .cells [.int .i64, .int .i64, .int .i64, .sl .inode]), (1, .row .int), (2, .cells [.int .i64, .int .i64, .int .i64, .str, .int .i64, .sl .entry])], 3⟩
noncomputable def qalv {R : Type} : Nat → HS.V qalu → (Ex → St → Option R) → Option R := fun q v K =>
  ref07_fifth_L7 (⟨v.2.2.2.1.1, v.2.2.2.1.2.1, v.2.2.2.1.2.2.1, v.2.2.2.1.2.2.2.1, v.2.2.2.1.2.2.2.2.1, v.2.2.2.1.2.2.2.2.2.1⟩ : Inode) (fun y30 => K (.exit 2) { regs := [(1, .v (.one (.ptr 0 0))), (3, .v (.one (.own 1))), (4, .v (.one (.int .i64 v.1.2.2.1)))], mem := [(0, .cells [.int .i64 ((⟨v.2.1.1, v.2.1.2.1, v.2.1.2.2.1, v.2.1.2.2.2.1⟩ : Fs).maxInodes), .int .i64 ((⟨v.2.1.1, v.2.1.2.1, v.2.1.2.2.1, v.2.1.2.2.2.1⟩ : Fs).maxBytes), .int .i64 ((⟨v.2.1.1, v.2.1.2.1, v.2.1.2.2.1, v.2.1.2.2.2.1⟩ : Fs).next), .sl .inode ((⟨v.2.1.1, v.2.1.2.1, v.2.1.2.2.1, v.2.1.2.2.2.1⟩ : Fs).inodes)]), (1, .row .int y30)], nx := 2 }) q v.1.2.2.2.2.1 v.2.2.1
noncomputable def qalw : HS := ⟨[(1, .one (.ptr 0 0)), (3, .one (.own 1)), (4, .one (.int .i64))], [(0, .cells [.int .i64, .int .i64, .int .i64, .sl .inode]), (1, .row .int)], 2⟩
noncomputable def qalx {R : Type} : Nat → HS.V qalw → (Ex → St → Option R) → Option R := fun q v K =>
  ref07_fifth_L3 (⟨v.2.1.1, v.2.1.2.1, v.2.1.2.2.1, v.2.1.2.2.2.1⟩ : Fs) (fun y33 => K (.exit 0) { regs := [(1, .v (.one (.ptr 0 0))), (3, .v (.one (.own 1)))], mem := [(0, .cells [.int .i64 ((⟨v.2.1.1, v.2.1.2.1, v.2.1.2.2.1, v.2.1.2.2.2.1⟩ : Fs).maxInodes), .int .i64 ((⟨v.2.1.1, v.2.1.2.1, v.2.1.2.2.1, v.2.1.2.2.2.1⟩ : Fs).maxBytes), .int .i64 ((⟨v.2.1.1, v.2.1.2.1, v.2.1.2.2.1, v.2.1.2.2.2.1⟩ : Fs).next), .sl .inode ((⟨v.2.1.1, v.2.1.2.1, v.2.1.2.2.1, v.2.1.2.2.2.1⟩ : Fs).inodes)]), (1, .row .int y33)], nx := 2 }) q v.1.2.2.1 v.2.2.1
noncomputable def qaly : List HV := [.agg [.int .i64, .int .i64, .int .i64, .sl .inode]]
noncomputable def qalz : List HV := [.one (.bool)]
noncomputable def qal0 : HP.V qaly → Fs := fun v => ((⟨v.1.1, v.1.2.1, v.1.2.2.1, v.1.2.2.2.1⟩ : Fs))
noncomputable def qal1 : HX.V qalz → Bool := fun v => (v)
noncomputable def qal2 : Bool → HX.V qalz := fun y => (y)
noncomputable def qal3 : Fs → Option (Bool) := fun x => ref07_fifth x
noncomputable def qal4 : Spec := mkSpec qaly qalz qal0 qal2 qal3
noncomputable def qal5 {R : Type} : List (Nat × Hd R) := [(3, hdOf qalw qalx), (7, hdOf qalu qalv), (11, hdOf qals qalt)]
noncomputable def qal6 {R : Type} : List (Nat × Inl R) := []
noncomputable def qal7 : Cfg := { T := qaij, spec := [(11, qacx)], glob := GlobL.G Tryd.prog, eqs := qaik, N := 70, fuel := 64, loops := [(11, ⟨[1, 3, 4, 5, 7, 8, 9], [], [0, 1, 2], 3, [], [], [], []⟩), (7, ⟨[1, 3, 4, 5, 7], [], [0, 1, 2], 3, [], [], [], []⟩), (3, ⟨[1, 3, 4], [], [0, 1], 2, [], [], [], []⟩)], joins := [], blocks := [(0, ⟨[1, 3], [], [0, 1], 2, [], [], [], []⟩), (1, ⟨[1, 3, 4], [], [0, 1], 2, [], [], [], []⟩), (2, ⟨[1, 3, 4], [], [0, 1], 2, [], [], [], []⟩), (3, ⟨[1, 3, 4, 5, 7], [], [0, 1, 2], 3, [], [], [], []⟩), (4, ⟨[1, 3, 4, 5, 7, 8], [], [0, 1, 2], 3, [], [], [], []⟩)], ovl := [], retA := none, fid := 29, rnd := false, saves := [] }
theorem qal8 : CfgOK Tryd.prog qal7 := ⟨tsOK_of qaim, specsL_ok (show SpecsL Tryd.prog qal7.spec from ⟨qac7, trivial⟩), qain, ovlL_ok (trivial), globsOK_of rfl, freshL_ok (show FreshL Tryd.prog qal7.fresh from trivial), specsL_ok (show SpecsL Tryd.prog qal7.gns from trivial)⟩
theorem qal9 {R : Type} : SubsOK Tryd.prog (R := R) 0 qal6 := subsOK_nil _ _
theorem qama {R : Type} : LoopOK (R := R) (hnd 0 qal6) qal7 qal5 (sub [1, 1, 0, 1, 0, 0] qaiu) (HS.V qalw) (HS.st qalw) (HS.sh qalw) qalx (hdOf qalw qalx) := loopOK_of qalw qalx (fun _ _ => rfl) (by intro q v K; kernel_rfl)
theorem qamb {R : Type} : LoopOK (R := R) (hnd 0 qal6) qal7 qal5 (sub [1, 1, 0, 1, 0, 0, 1, 0, 0, 1, 1, 0, 0] qaiu) (HS.V qalu) (HS.st qalu) (HS.sh qalu) qalv (hdOf qalu qalv) := loopOK_of qalu qalv (fun _ _ => rfl) (by intro q v K; kernel_rfl)
theorem qamc {R : Type} : LoopOK (R := R) (hnd 0 qal6) qal7 qal5 (sub [1, 1, 0, 1, 0, 0, 1, 0, 0, 1, 1, 0, 0, 1, 0, 0, 1, 0, 1, 0, 0] qaiu) (HS.V qals) (HS.st qals) (HS.sh qals) qalt (hdOf qals qalt) := loopOK_of qals qalt (fun _ _ => rfl) (by intro q v K; kernel_rfl)
theorem qamd {R : Type} : LoopsOK (R := R) (hnd 0 qal6) qal7 qal5 qaiu := loopsOK_of (l := [sub [1, 1, 0, 1, 0, 0] qaiu, sub [1, 1, 0, 1, 0, 0, 1, 0, 0, 1, 1, 0, 0] qaiu, sub [1, 1, 0, 1, 0, 0, 1, 0, 0, 1, 1, 0, 0, 1, 0, 0, 1, 0, 1, 0, 0] qaiu]) (by kernel_rfl) (loopsL_cons (b := sub [1, 1, 0, 1, 0, 0] qaiu) (rid := 3) (by kernel_rfl) (by kernel_rfl) qama (loopsL_cons (b := sub [1, 1, 0, 1, 0, 0, 1, 0, 0, 1, 1, 0, 0] qaiu) (rid := 7) (by kernel_rfl) (by kernel_rfl) qamb (loopsL_cons (b := sub [1, 1, 0, 1, 0, 0, 1, 0, 0, 1, 1, 0, 0, 1, 0, 0, 1, 0, 1, 0, 0] qaiu) (rid := 11) (by kernel_rfl) (by kernel_rfl) qamc (trivial))))
theorem qame : RngsOK Tryd.prog qal7 qaiu := rngs0 (by kernel_rfl)
theorem qamf : ∀ v, runFn (hnd 0 qal6) qal7 qal5 qaiu Tryd.f29.results.toList (HP.st qaly v) (decOf qalz qal1) = qal3 (qal0 v) := by intro v; kernel_rfl
theorem qamg : SpecOK Tryd.prog 29 qal4 := specOK_mk (fn := Tryd.f29) (by kernel_rfl) (by kernel_rfl) (by kernel_rfl) qal8 (by kernel_rfl) (by kernel_rfl) qail (by kernel_rfl) (fun _ => rfl) (d := 0) qal9 qamd qame qamf
noncomputable def qamh : List HV := [.agg [.int .i64, .int .i64, .int .i64, .sl .inode]]
noncomputable def qami : List HV := [.one (.int .i64)]
noncomputable def qamj : HP.V qamh → Fs := fun v => ((⟨v.1.1, v.1.2.1, v.1.2.2.1, v.1.2.2.2.1⟩ : Fs))
noncomputable def qamk : HX.V qami → Int := fun v => (v)
noncomputable def qaml : Int → HX.V qami := fun y => (y)
noncomputable def qamm : Fs → Option (Int) := fun x => ref07_Check x
noncomputable def qamn : Spec := mkSpec qamh qami qamj qaml qamm
noncomputable def qamo {R : Type} : List (Nat × Hd R) := []
noncomputable def qamp {R : Type} : List (Nat × Inl R) := []
noncomputable def qamq : Cfg := { T := qaij, spec := [(25, qai4), (26, qajp), (27, qakb), (28, qalh), (29, qal4), (30, qah9)], glob := GlobL.G Tryd.prog, eqs := qaik, N := 21, fuel := 64, loops := [], joins := [], blocks := [], ovl := [], retA := none, fid := 16, rnd := false, saves := [] }
theorem qamr : CfgOK Tryd.prog qamq := ⟨tsOK_of qaim, specsL_ok (show SpecsL Tryd.prog qamq.spec from ⟨qaje, ⟨qaj0, ⟨qakm, ⟨qalr, ⟨qamg, ⟨qaii, trivial⟩⟩⟩⟩⟩⟩), qain, ovlL_ok (trivial), globsOK_of rfl, freshL_ok (show FreshL Tryd.prog qamq.fresh from trivial), specsL_ok (show SpecsL Tryd.prog qamq.gns from trivial)⟩
theorem qams {R : Type} : SubsOK Tryd.prog (R := R) 0 qamp := subsOK_nil _ _
theorem qamt {R : Type} : LoopsOK (R := R) (hnd 0 qamp) qamq qamo qaip := loopsOK_of (l := []) (by kernel_rfl) (trivial)
theorem qamu : RngsOK Tryd.prog qamq qaip := rngs0 (by kernel_rfl)
theorem qamv : ∀ v, runFn (hnd 0 qamp) qamq qamo qaip Tryd.f16.results.toList (HP.st qamh v) (decOf qami qamk) = qamm (qamj v) := by intro v; kernel_rfl
theorem qamw : SpecOK Tryd.prog 16 qamn := specOK_mk (fn := Tryd.f16) (by kernel_rfl) (by kernel_rfl) (by kernel_rfl) qamr (by kernel_rfl) (by kernel_rfl) qail (by kernel_rfl) (fun _ => rfl) (d := 0) qams qamt qamu qamv
noncomputable def qamx : List HV := [.agg [.int .i64, .int .i64, .int .i64, .sl .inode]]
noncomputable def qamy : List HV := [.one (.bool)]
noncomputable def qamz : HP.V qamx → Fs := fun v => ((⟨v.1.1, v.1.2.1, v.1.2.2.1, v.1.2.2.2.1⟩ : Fs))
noncomputable def qam0 : HX.V qamy → Bool := fun v => (v)
noncomputable def qam1 : Bool → HX.V qamy := fun y => (y)
noncomputable def qam2 : Fs → Option (Bool) := fun x => ref07_Ok x
noncomputable def qam3 : Spec := mkSpec qamx qamy qamz qam1 qam2
noncomputable def qam4 {R : Type} : List (Nat × Hd R) := []
noncomputable def qam5 {R : Type} : List (Nat × Inl R) := []
noncomputable def qam6 : Cfg := { T := qaij, spec := [(15, qacd), (16, qamn)], glob := GlobL.G Tryd.prog, eqs := qaik, N := 10, fuel := 64, loops := [], joins := [], blocks := [], ovl := [], retA := none, fid := 6, rnd := false, saves := [] }
theorem qam7 : CfgOK Tryd.prog qam6 := ⟨tsOK_of qaim, specsL_ok (show SpecsL Tryd.prog qam6.spec from ⟨qaco, ⟨qamw, trivial⟩⟩), qain, ovlL_ok (trivial), globsOK_of rfl, freshL_ok (show FreshL Tryd.prog qam6.fresh from trivial), specsL_ok (show SpecsL Tryd.prog qam6.gns from trivial)⟩
theorem qam8 {R : Type} : SubsOK Tryd.prog (R := R) 0 qam5 := subsOK_nil _ _
theorem qam9 {R : Type} : LoopsOK (R := R) (hnd 0 qam5) qam6 qam4 qaio := loopsOK_of (l := []) (by kernel_rfl) (trivial)
theorem qana : RngsOK Tryd.prog qam6 qaio := rngs0 (by kernel_rfl)
theorem qanb : ∀ v, runFn (hnd 0 qam5) qam6 qam4 qaio Tryd.f6.results.toList (HP.st qamx v) (decOf qamy qam0) = qam2 (qamz v) := by intro v; kernel_rfl
theorem qanc : SpecOK Tryd.prog 6 qam3 := specOK_mk (fn := Tryd.f6) (by kernel_rfl) (by kernel_rfl) (by kernel_rfl) qam7 (by kernel_rfl) (by kernel_rfl) qail (by kernel_rfl) (fun _ => rfl) (d := 0) qam8 qam9 qana qanb
end Go.Eng
set_option linter.unusedVariables false
set_option maxRecDepth 100000
namespace Go.Eng
open Go Go.Proofs
noncomputable def qand : List (Nat × TI) := [(3, ⟨false, 1, .one (.int .i64 0), .int .i64⟩), (9, ⟨false, 1, .one (.str []), .str⟩), (22, ⟨false, 1, .one (.clip .inode []), .slice .inode 33⟩), (24, ⟨true, 4, .agg [.int .i64 0, .int .i64 0, .int .i64 0, .clip .inode []], .struct [(0, 3), (1, 3), (2, 3), (3, 22)]⟩), (27, ⟨false, 1, .one (.clip .seen []), .slice .seen 30⟩), (30, ⟨true, 2, .agg [.str [], .int .i64 0], .struct [(0, 9), (1, 3)]⟩), (31, ⟨false, 1, .one (.clip .entry []), .slice .entry 46⟩), (33, ⟨true, 6, .agg [.int .i64 0, .int .i64 0, .int .i64 0, .str [], .int .i64 0, .clip .entry []], .struct [(0, 3), (1, 3), (2, 3), (3, 9), (4, 3), (5, 31)]⟩), (46, ⟨true, 2, .agg [.str [], .int .i64 0], .struct [(0, 9), (1, 3)]⟩)]
noncomputable def qane : List (Nat × List EK) := []
theorem qanf : Tryd.prog.follows .mixedOrders = true := by kernel_rfl
theorem qang : (qand.all fun x => tiB Tryd.prog x.1 x.2) = true := by kernel_rfl
theorem qanh {c : Cfg} (h : c.eqs = qane := by rfl) : EqsOK Tryd.prog c := eqsOK_of (by rw [h]; kernel_rfl)
noncomputable def qani : Code := match Tryd.f7.body with | some b => b | none => .skip
noncomputable def qanj : Code := match Tryd.f17.body with | some b => b | none => .skip
noncomputable def qank : Code := match Tryd.f31.body with | some b => b | none => .skip
noncomputable def qanl : List HV := [.one (.str), .one (.str)]
noncomputable def qanm : List HV := [.one (.str)]
noncomputable def qann : HP.V qanl → Str × Str := fun v => (v.1, v.2.1)
noncomputable def qano : HX.V qanm → Str := fun v => (v)
noncomputable def qanp : Str → HX.V qanm := fun y => (y)
noncomputable def qanq : (Str × Str) → Option (Str) := fun x => ref08_under x.1 x.2
noncomputable def qanr : Spec := mkSpec qanl qanm qann qanp qanq
noncomputable def qans {R : Type} : List (Nat × Hd R) := []
noncomputable def qant {R : Type} : List (Nat × Inl R) := []
noncomputable def qanu : Cfg := { T := qand, spec := [], glob := GlobL.G Tryd.prog, eqs := qane, N := 14, fuel := 64, loops := [], joins := [], blocks := [], ovl := [], retA := none, fid := 31, rnd := false, saves := [] }
theorem qanv : CfgOK Tryd.prog qanu := ⟨tsOK_of qang, specsL_ok (show SpecsL Tryd.prog qanu.spec from trivial), qanh, ovlL_ok (trivial), globsOK_of rfl, freshL_ok (show FreshL Tryd.prog qanu.fresh from trivial), specsL_ok (show SpecsL Tryd.prog qanu.gns from trivial)⟩
theorem qanw {R : Type} : SubsOK Tryd.prog (R := R) 0 qant := subsOK_nil _ _
theorem qanx {R : Type} : LoopsOK (R := R) (hnd 0 qant) qanu qans qank := loopsOK_of (l := []) (by kernel_rfl) (trivial)
theorem qany : RngsOK Tryd.prog qanu qank := rngs0 (by kernel_rfl)
theorem qanz : ∀ v, runFn (hnd 0 qant) qanu qans qank Tryd.f31.results.toList (HP.st qanl v) (decOf qanm qano) = qanq (qann v) := by intro v; kernel_rfl
theorem qan0 : SpecOK Tryd.prog 31 qanr := specOK_mk (fn := Tryd.f31) (by kernel_rfl) (by kernel_rfl) (by kernel_rfl) qanv (by kernel_rfl) (by kernel_rfl) qanf (by kernel_rfl) (fun _ => rfl) (d := 0) qanw qanx qany qanz
noncomputable def qan1 : HS := ⟨[(2, .one (.str)), (3, .one (.int .i64)), (4, .one (.ptr 0 0)), (9, .one (.ptr 1 0)), (11, .one (.own 2)), (12, .one (.int .i64))], [(0, .cells [.int .i64, .int .i64, .int .i64, .sl .inode]), (1, .cells [.int .i64, .int .i64, .int .i64, .str, .int .i64, .sl .entry]), (2, .row .seen)], 3⟩
noncomputable def qan2 {R : Type} (nn : Nat) : Nat → HS.V qan1 → (Ex → St → Option R) → Option R := fun q v K =>
  ref08_Below_L6 (ref08_Below_r nn) v.1.1 v.1.2.1 (⟨v.2.1.1, v.2.1.2.1, v.2.1.2.2.1, v.2.1.2.2.2.1⟩ : Fs) (⟨v.2.2.1.1, v.2.2.1.2.1, v.2.2.1.2.2.1, v.2.2.1.2.2.2.1, v.2.2.1.2.2.2.2.1, v.2.2.1.2.2.2.2.2.1⟩ : Inode) (fun y12 => K (.exit 0) { regs := [(11, .v (.one (.own 2)))], mem := [(2, .row .seen y12)], nx := 3 }) q v.1.2.2.2.2.2.1 v.2.2.2.1
noncomputable def qan3 : List HV := [.agg [.int .i64, .int .i64, .int .i64, .sl .inode], .one (.int .i64), .one (.str), .one (.int .i64)]
noncomputable def qan4 : List HV := [.one (.sl .seen)]
noncomputable def qan5 : HP.V qan3 → Fs × Int × Str × Int := fun v => ((⟨v.1.1, v.1.2.1, v.1.2.2.1, v.1.2.2.2.1⟩ : Fs), v.2.1, v.2.2.1, v.2.2.2.1)
noncomputable def qan6 : HX.V qan4 → (List Seen) := fun v => (v)
noncomputable def qan7 : (List Seen) → HX.V qan4 := fun y => (y)
noncomputable def qan8 (nn : Nat) : (Fs × Int × Str × Int) → Option ((List Seen)) := fun x => ref08_Below_r nn x.1 x.2.1 x.2.2.1 x.2.2.2
noncomputable def qan9 (nn : Nat) : Spec := mkSpec qan3 qan4 qan5 qan7 (qan8 nn)
noncomputable def qaoa : (Fs × Int × Str × Int) → Option ((List Seen)) := fun x => ref08_Below x.1 x.2.1 x.2.2.1 x.2.2.2
noncomputable def qaob : Spec := mkSpec qan3 qan4 qan5 qan7 qaoa
noncomputable def qaoc {R : Type} (nn : Nat) : List (Nat × Hd R) := [(6, hdOf qan1 (qan2 nn))]
noncomputable def qaod {R : Type} (nn : Nat) : List (Nat × Inl R) := []
noncomputable def qaoe (nn : Nat) : Cfg := { T := qand, spec := [(11, qacx), (17, qan9 nn), (31, qanr)], glob := GlobL.G Tryd.prog, eqs := qane, N := 57, fuel := 64, loops := [(6, ⟨[2, 3, 4, 9, 11, 12], [], [0, 1, 2], 3, [], [], [], []⟩)], joins := [], blocks := [(0, ⟨[11], [], [2], 3, [], [], [], []⟩)], ovl := [], retA := none, fid := 17, rnd := false, saves := [] }
theorem qaof (nn : Nat) (hrec : SpecOK Tryd.prog 17 (qan9 nn)) : CfgOK Tryd.prog (qaoe nn) := ⟨tsOK_of qang, specsL_ok (show SpecsL Tryd.prog (qaoe nn).spec from ⟨qac7, ⟨hrec, ⟨qan0, trivial⟩⟩⟩), qanh, ovlL_ok (trivial), globsOK_of rfl, freshL_ok (show FreshL Tryd.prog (qaoe nn).fresh from trivial), specsL_ok (show SpecsL Tryd.prog (qaoe nn).gns from trivial)⟩
theorem qaog {R : Type} (nn : Nat) : SubsOK Tryd.prog (R := R) 0 (qaod nn) := subsOK_nil _ _
theorem qaoh {R : Type} (nn : Nat) : LoopOK (R := R) (hnd 0 (qaod nn)) (qaoe nn) (qaoc nn) (sub [1, 1, 1, 1, 0, 1, 0, 0] qanj) (HS.V qan1) (HS.st qan1) (HS.sh qan1) (qan2 nn) (hdOf qan1 (qan2 nn)) := loopOK_of qan1 (qan2 nn) (fun _ _ => rfl) (by intro q v K; kernel_rfl)
theorem qaoi {R : Type} (nn : Nat) : LoopsOK (R := R) (hnd 0 (qaod nn)) (qaoe nn) (qaoc nn) qanj := loopsOK_of (l := [sub [1, 1, 1, 1, 0, 1, 0, 0] qanj]) (by kernel_rfl) (loopsL_cons (b := sub [1, 1, 1, 1, 0, 1, 0, 0] qanj) (rid := 6) (by kernel_rfl) (by kernel_rfl) (qaoh nn) (trivial))
theorem qaoj (nn : Nat) : RngsOK Tryd.prog (qaoe nn) qanj := rngs0 (by kernel_rfl)
theorem qaok (nn : Nat) : ∀ v, runFn (hnd 0 (qaod nn)) (qaoe nn) (qaoc nn) qanj Tryd.f17.results.toList (HP.st qan3 v) (decOf qan4 qan6) = qan8 (nn + 1) (qan5 v) := by intro v; kernel_rfl
theorem qaol : ∀ nn, SpecOK Tryd.prog 17 (qan9 nn)
  | 0 => ⟨enters_of (fn := Tryd.f17) (body := qanj) (by kernel_rfl) (by kernel_rfl) (by kernel_rfl), fun S w args vs x y _ _ _ _ h => by cases h⟩
  | nn + 1 => specOK_mk (fn := Tryd.f17) (by kernel_rfl) (by kernel_rfl) (by kernel_rfl) (qaof nn (qaol nn)) (by kernel_rfl) (by kernel_rfl) qanf (by kernel_rfl) (fun _ => rfl) (d := 0) (qaog nn) (qaoi nn) (qaoj nn) (qaok nn)
theorem qaom : SpecOK Tryd.prog 17 qaob := qaol FUEL
noncomputable def qaon : List HV := [.agg [.int .i64, .int .i64, .int .i64, .sl .inode]]
noncomputable def qaoo : List HV := [.one (.sl .seen)]
noncomputable def qaop : HP.V qaon → Fs := fun v => ((⟨v.1.1, v.1.2.1, v.1.2.2.1, v.1.2.2.2.1⟩ : Fs))
noncomputable def qaoq : HX.V qaoo → (List Seen) := fun v => (v)
noncomputable def qaor : (List Seen) → HX.V qaoo := fun y => (y)
noncomputable def qaos : Fs → Option ((List Seen)) := fun x => ref08_List x
noncomputable def qaot : Spec := mkSpec qaon qaoo qaop qaor qaos
noncomputable def qaou {R : Type} : List (Nat × Hd R) := []
noncomputable def qaov {R : Type} : List (Nat × Inl R) := []
noncomputable def qaow : Cfg := { T := qand, spec := [(17, qaob)], glob := GlobL.G Tryd.prog, eqs := qane, N := 8, fuel := 64, loops := [], joins := [], blocks := [], ovl := [], retA := none, fid := 7, rnd := false, saves := [] }
theorem qaox : CfgOK Tryd.prog qaow := ⟨tsOK_of qang, specsL_ok (show SpecsL Tryd.prog qaow.spec from ⟨qaom, trivial⟩), qanh, ovlL_ok (trivial), globsOK_of rfl, freshL_ok (show FreshL Tryd.prog qaow.fresh from trivial), specsL_ok (show SpecsL Tryd.prog qaow.gns from trivial)⟩
theorem qaoy {R : Type} : SubsOK Tryd.prog (R := R) 0 qaov := subsOK_nil _ _
theorem qaoz {R : Type} : LoopsOK (R := R) (hnd 0 qaov) qaow qaou qani := loopsOK_of (l := []) (by kernel_rfl) (trivial)
theorem qao0 : RngsOK Tryd.prog qaow qani := rngs0 (by kernel_rfl)
theorem qao1 : ∀ v, runFn (hnd 0 qaov) qaow qaou qani Tryd.f7.results.toList (HP.st qaon v) (decOf qaoo qaoq) = qaos (qaop v) := by intro v; kernel_rfl
theorem qao2 : SpecOK Tryd.prog 7 qaot := specOK_mk (fn := Tryd.f7) (by kernel_rfl) (by kernel_rfl) (by kernel_rfl) qaox (by kernel_rfl) (by kernel_rfl) qanf (by kernel_rfl) (fun _ => rfl) (d := 0) qaoy qaoz qao0 qao1
end Go.Eng
set_option linter.unusedVariables false
set_option maxRecDepth 100000
namespace Go.Eng
open Go Go.Proofs
noncomputable def qao3 : List (Nat × TI) := [(3, ⟨false, 1, .one (.int .i64 0), .int .i64⟩), (9, ⟨false, 1, .one (.str []), .str⟩), (24, ⟨true, 4, .agg [.int .i64 0, .int .i64 0, .int .i64 0, .clip .inode []], .struct [(0, 3), (1, 3), (2, 3), (3, 22)]⟩), (31, ⟨false, 1, .one (.clip .entry []), .slice .entry 46⟩), (33, ⟨true, 6, .agg [.int .i64 0, .int .i64 0, .int .i64 0, .str [], .int .i64 0, .clip .entry []], .struct [(0, 3), (1, 3), (2, 3), (3, 9), (4, 3), (5, 31)]⟩), (37, ⟨true, 3, .agg [.int .i64 0, .str [], .int .i64 0], .struct [(0, 3), (1, 9), (2, 3)]⟩), (64, ⟨false, 1, .one (.clip .str []), .slice .str 9⟩)]
noncomputable def qao4 : List (Nat × List EK) := []
theorem qao5 : Tryd.prog.follows .mixedOrders = true := by kernel_rfl
theorem qao6 : (qao3.all fun x => tiB Tryd.prog x.1 x.2) = true := by kernel_rfl
theorem qao7 {c : Cfg} (h : c.eqs = qao4 := by rfl) : EqsOK Tryd.prog c := eqsOK_of (by rw [h]; kernel_rfl)
noncomputable def qao8 : Code := match Tryd.f8.body with | some b => b | none => .skip
noncomputable def qao9 : Code := match Tryd.f18.body with | some b => b | none => .skip
noncomputable def qapa : HS := ⟨[(2, .one (.ptr 0 0)), (4, .one (.ptr 1 0)), (6, .one (.sl .str)), (8, .one (.ptr 2 0)), (9, .one (.int .i64))], [(0, .cells [.int .i64, .int .i64, .int .i64, .sl .inode]), (1, .cells [.int .i64, .str, .int .i64]), (2, .cells [.int .i64, .str, .int .i64])], 3⟩
noncomputable def qapb {R : Type} : Nat → HS.V qapa → (Ex → St → Option R) → Option R := fun q v K =>
  ref09_At_L6 v.1.2.2.1 (⟨v.2.1.1, v.2.1.2.1, v.2.1.2.2.1, v.2.1.2.2.2.1⟩ : Fs) (fun y11 => K .ret { regs := [(4, .v (.one (.ptr 1 0))), (5, .v (.one (.int .i64 y11)))], mem := [(1, .cells [.int .i64 ((⟨0, [], 0⟩ : Spotted).dir), .str ((⟨0, [], 0⟩ : Spotted).name), .int .i64 ((⟨0, [], 0⟩ : Spotted).ino)])], nx := 2 }) (fun y14 => K (.exit 0) { regs := [(4, .v (.one (.ptr 1 0))), (8, .v (.one (.ptr 2 0)))], mem := [(1, .cells [.int .i64 ((⟨v.2.2.1.1, v.2.2.1.2.1, v.2.2.1.2.2.1⟩ : Spotted).dir), .str ((⟨v.2.2.1.1, v.2.2.1.2.1, v.2.2.1.2.2.1⟩ : Spotted).name), .int .i64 ((⟨v.2.2.1.1, v.2.2.1.2.1, v.2.2.1.2.2.1⟩ : Spotted).ino)]), (2, .cells [.int .i64 y14.dir, .str y14.name, .int .i64 y14.ino])], nx := 3 }) q v.1.2.2.2.2.1 (⟨v.2.2.2.1.1, v.2.2.2.1.2.1, v.2.2.2.1.2.2.1⟩ : Spotted)
noncomputable def qapc : List HV := [.agg [.int .i64, .int .i64, .int .i64, .sl .inode], .one (.str)]
noncomputable def qapd : List HV := [.agg [.int .i64, .str, .int .i64], .one (.int .i64)]
noncomputable def qape : HP.V qapc → Fs × Str := fun v => ((⟨v.1.1, v.1.2.1, v.1.2.2.1, v.1.2.2.2.1⟩ : Fs), v.2.1)
noncomputable def qapf : HX.V qapd → Spotted × Int := fun v => ((⟨v.1.1, v.1.2.1, v.1.2.2.1⟩ : Spotted), v.2)
noncomputable def qapg : (Spotted × Int) → HX.V qapd := fun y => ((y.1.dir, (y.1.name, (y.1.ino, ()))), y.2)
noncomputable def qaph : (Fs × Str) → Option (Spotted × Int) := fun x => ref09_At x.1 x.2
noncomputable def qapi : Spec := mkSpec qapc qapd qape qapg qaph
noncomputable def qapj {R : Type} : List (Nat × Hd R) := [(6, hdOf qapa qapb)]
noncomputable def qapk {R : Type} : List (Nat × Inl R) := []
noncomputable def qapl : Cfg := { T := qao3, spec := [(11, qacx), (32, qaft), (33, qag2)], glob := GlobL.G Tryd.prog, eqs := qao4, N := 63, fuel := 64, loops := [(6, ⟨[2, 4, 6, 8, 9], [], [0, 1, 2], 3, [], [], [], []⟩)], joins := [], blocks := [(0, ⟨[4, 8], [], [1, 2], 3, [], [], [], []⟩)], ovl := [], retA := some ⟨[4, 5], [], [1], 2, [], [], [], []⟩, fid := 18, rnd := false, saves := [] }
theorem qapm : CfgOK Tryd.prog qapl := ⟨tsOK_of qao6, specsL_ok (show SpecsL Tryd.prog qapl.spec from ⟨qac7, ⟨qaf3, ⟨qahc, trivial⟩⟩⟩), qao7, ovlL_ok (trivial), globsOK_of rfl, freshL_ok (show FreshL Tryd.prog qapl.fresh from trivial), specsL_ok (show SpecsL Tryd.prog qapl.gns from trivial)⟩
theorem qapn {R : Type} : SubsOK Tryd.prog (R := R) 0 qapk := subsOK_nil _ _
theorem qapo {R : Type} : LoopOK (R := R) (hnd 0 qapk) qapl qapj (sub [1, 1, 1, 1, 0, 1, 0, 0] qao9) (HS.V qapa) (HS.st qapa) (HS.sh qapa) qapb (hdOf qapa qapb) := loopOK_of qapa qapb (fun _ _ => rfl) (by intro q v K; kernel_rfl)
theorem qapp {R : Type} : LoopsOK (R := R) (hnd 0 qapk) qapl qapj qao9 := loopsOK_of (l := [sub [1, 1, 1, 1, 0, 1, 0, 0] qao9]) (by kernel_rfl) (loopsL_cons (b := sub [1, 1, 1, 1, 0, 1, 0, 0] qao9) (rid := 6) (by kernel_rfl) (by kernel_rfl) qapo (trivial))
theorem qapq : RngsOK Tryd.prog qapl qao9 := rngs0 (by kernel_rfl)
theorem qapr : ∀ v, runFn (hnd 0 qapk) qapl qapj qao9 Tryd.f18.results.toList (HP.st qapc v) (decOf qapd qapf) = qaph (qape v) := by intro v; kernel_rfl
theorem qaps : SpecOK Tryd.prog 18 qapi := specOK_mk (fn := Tryd.f18) (by kernel_rfl) (by kernel_rfl) (by kernel_rfl) qapm (by kernel_rfl) (by kernel_rfl) qao5 (by kernel_rfl) (fun _ => rfl) (d := 0) qapn qapp qapq qapr
noncomputable def qapt : List HV := [.agg [.int .i64, .int .i64, .int .i64, .sl .inode], .one (.str)]
noncomputable def qapu : List HV := [.agg [.int .i64, .int .i64, .int .i64, .str, .int .i64, .sl .entry], .one (.int .i64)]
noncomputable def qapv : HP.V qapt → Fs × Str := fun v => ((⟨v.1.1, v.1.2.1, v.1.2.2.1, v.1.2.2.2.1⟩ : Fs), v.2.1)
noncomputable def qapw : HX.V qapu → Inode × Int := fun v => ((⟨v.1.1, v.1.2.1, v.1.2.2.1, v.1.2.2.2.1, v.1.2.2.2.2.1, v.1.2.2.2.2.2.1⟩ : Inode), v.2)
noncomputable def qapx : (Inode × Int) → HX.V qapu := fun y => ((y.1.ino, (y.1.kind, (y.1.links, (y.1.data, (y.1.parent, (y.1.entries, ())))))), y.2)
noncomputable def qapy : (Fs × Str) → Option (Inode × Int) := fun x => ref09_Get x.1 x.2
noncomputable def qapz : Spec := mkSpec qapt qapu qapv qapx qapy
noncomputable def qap0 {R : Type} : List (Nat × Hd R) := []
noncomputable def qap1 {R : Type} : List (Nat × Inl R) := []
noncomputable def qap2 : Cfg := { T := qao3, spec := [(11, qacx), (18, qapi)], glob := GlobL.G Tryd.prog, eqs := qao4, N := 32, fuel := 64, loops := [], joins := [], blocks := [], ovl := [], retA := none, fid := 8, rnd := false, saves := [] }
theorem qap3 : CfgOK Tryd.prog qap2 := ⟨tsOK_of qao6, specsL_ok (show SpecsL Tryd.prog qap2.spec from ⟨qac7, ⟨qaps, trivial⟩⟩), qao7, ovlL_ok (trivial), globsOK_of rfl, freshL_ok (show FreshL Tryd.prog qap2.fresh from trivial), specsL_ok (show SpecsL Tryd.prog qap2.gns from trivial)⟩
theorem qap4 {R : Type} : SubsOK Tryd.prog (R := R) 0 qap1 := subsOK_nil _ _
theorem qap5 {R : Type} : LoopsOK (R := R) (hnd 0 qap1) qap2 qap0 qao8 := loopsOK_of (l := []) (by kernel_rfl) (trivial)
theorem qap6 : RngsOK Tryd.prog qap2 qao8 := rngs0 (by kernel_rfl)
theorem qap7 : ∀ v, runFn (hnd 0 qap1) qap2 qap0 qao8 Tryd.f8.results.toList (HP.st qapt v) (decOf qapu qapw) = qapy (qapv v) := by intro v; kernel_rfl
theorem qap8 : SpecOK Tryd.prog 8 qapz := specOK_mk (fn := Tryd.f8) (by kernel_rfl) (by kernel_rfl) (by kernel_rfl) qap3 (by kernel_rfl) (by kernel_rfl) qao5 (by kernel_rfl) (fun _ => rfl) (d := 0) qap4 qap5 qap6 qap7
end Go.Eng
set_option linter.unusedVariables false
set_option maxRecDepth 100000
namespace Go.Eng
open Go Go.Proofs
noncomputable def qap9 : List (Nat × TI) := [(3, ⟨false, 1, .one (.int .i64 0), .int .i64⟩), (9, ⟨false, 1, .one (.str []), .str⟩), (22, ⟨false, 1, .one (.clip .inode []), .slice .inode 33⟩), (24, ⟨true, 4, .agg [.int .i64 0, .int .i64 0, .int .i64 0, .clip .inode []], .struct [(0, 3), (1, 3), (2, 3), (3, 22)]⟩), (33, ⟨true, 6, .agg [.int .i64 0, .int .i64 0, .int .i64 0, .str [], .int .i64 0, .clip .entry []], .struct [(0, 3), (1, 3), (2, 3), (3, 9), (4, 3), (5, 31)]⟩)]
noncomputable def qaqa : List (Nat × List EK) := []
theorem qaqb : Tryd.prog.follows .mixedOrders = true := by kernel_rfl
theorem qaqc : (qap9.all fun x => tiB Tryd.prog x.1 x.2) = true := by kernel_rfl
theorem qaqd {c : Cfg} (h : c.eqs = qaqa := by rfl) : EqsOK Tryd.prog c := eqsOK_of (by rw [h]; kernel_rfl)
noncomputable def qaqe : Code := match Tryd.f10.body with | some b => b | none => .skip
noncomputable def qaqf : HS := ⟨[(1, .one (.str)), (2, .one (.str)), (3, .one (.ptr 0 0)), (7, .one (.int .i64))], [(0, .cells [.int .i64, .int .i64, .int .i64, .sl .inode])], 1⟩
noncomputable def qaqg {R : Type} : Nat → HS.V qaqf → (Ex → St → Option R) → Option R := fun q v K =>
  ref10_Short_L2 (⟨v.2.1.1, v.2.1.2.1, v.2.1.2.2.1, v.2.1.2.2.2.1⟩ : Fs) (K .ret { regs := [(6, .v (.one (.bool false)))], mem := [], nx := 0 }) (K (.exit 0) { regs := [(1, .v (.one (.str v.1.1))), (2, .v (.one (.str v.1.2.1)))], mem := [], nx := 0 }) q v.1.2.2.2.1
noncomputable def qaqh : List HV := [.agg [.int .i64, .int .i64, .int .i64, .sl .inode], .one (.str), .one (.str)]
noncomputable def qaqi : List HV := [.one (.bool)]
noncomputable def qaqj : HP.V qaqh → Fs × Str × Str := fun v => ((⟨v.1.1, v.1.2.1, v.1.2.2.1, v.1.2.2.2.1⟩ : Fs), v.2.1, v.2.2.1)
noncomputable def qaqk : HX.V qaqi → Bool := fun v => (v)
noncomputable def qaql : Bool → HX.V qaqi := fun y => (y)
noncomputable def qaqm : (Fs × Str × Str) → Option (Bool) := fun x => ref10_Short x.1 x.2.1 x.2.2
noncomputable def qaqn : Spec := mkSpec qaqh qaqi qaqj qaql qaqm
noncomputable def qaqo {R : Type} : List (Nat × Hd R) := [(2, hdOf qaqf qaqg)]
noncomputable def qaqp {R : Type} : List (Nat × Inl R) := []
noncomputable def qaqq : Cfg := { T := qap9, spec := [], glob := GlobL.G Tryd.prog, eqs := qaqa, N := 44, fuel := 64, loops := [(2, ⟨[1, 2, 3, 7], [], [0], 1, [], [], [], []⟩)], joins := [], blocks := [(0, ⟨[1, 2], [], [], 0, [], [], [], []⟩)], ovl := [], retA := some ⟨[6], [], [], 0, [], [], [], []⟩, fid := 10, rnd := false, saves := [] }
theorem qaqr : CfgOK Tryd.prog qaqq := ⟨tsOK_of qaqc, specsL_ok (show SpecsL Tryd.prog qaqq.spec from trivial), qaqd, ovlL_ok (trivial), globsOK_of rfl, freshL_ok (show FreshL Tryd.prog qaqq.fresh from trivial), specsL_ok (show SpecsL Tryd.prog qaqq.gns from trivial)⟩
theorem qaqs {R : Type} : SubsOK Tryd.prog (R := R) 0 qaqp := subsOK_nil _ _
theorem qaqt {R : Type} : LoopOK (R := R) (hnd 0 qaqp) qaqq qaqo (sub [1, 0, 1, 0, 0] qaqe) (HS.V qaqf) (HS.st qaqf) (HS.sh qaqf) qaqg (hdOf qaqf qaqg) := loopOK_of qaqf qaqg (fun _ _ => rfl) (by intro q v K; kernel_rfl)
theorem qaqu {R : Type} : LoopsOK (R := R) (hnd 0 qaqp) qaqq qaqo qaqe := loopsOK_of (l := [sub [1, 0, 1, 0, 0] qaqe]) (by kernel_rfl) (loopsL_cons (b := sub [1, 0, 1, 0, 0] qaqe) (rid := 2) (by kernel_rfl) (by kernel_rfl) qaqt (trivial))
theorem qaqv : RngsOK Tryd.prog qaqq qaqe := rngs0 (by kernel_rfl)
theorem qaqw : ∀ v, runFn (hnd 0 qaqp) qaqq qaqo qaqe Tryd.f10.results.toList (HP.st qaqh v) (decOf qaqi qaqk) = qaqm (qaqj v) := by intro v; kernel_rfl
theorem qaqx : SpecOK Tryd.prog 10 qaqn := specOK_mk (fn := Tryd.f10) (by kernel_rfl) (by kernel_rfl) (by kernel_rfl) qaqr (by kernel_rfl) (by kernel_rfl) qaqb (by kernel_rfl) (fun _ => rfl) (d := 0) qaqs qaqu qaqv qaqw
end Go.Eng
set_option linter.unusedVariables false
set_option maxRecDepth 100000
namespace Go.Eng
open Go Go.Proofs
noncomputable def qaqy : List (Nat × TI) := [(3, ⟨false, 1, .one (.int .i64 0), .int .i64⟩), (9, ⟨false, 1, .one (.str []), .str⟩), (31, ⟨false, 1, .one (.clip .entry []), .slice .entry 46⟩), (46, ⟨true, 2, .agg [.str [], .int .i64 0], .struct [(0, 9), (1, 3)]⟩), (103, ⟨false, 1, .one (.int .u64 0), .int .u64⟩)]
noncomputable def qaqz : List (Nat × List EK) := []
theorem qaq0 : Tryd.prog.follows .mixedOrders = true := by kernel_rfl
theorem qaq1 : (qaqy.all fun x => tiB Tryd.prog x.1 x.2) = true := by kernel_rfl
theorem qaq2 {c : Cfg} (h : c.eqs = qaqz := by rfl) : EqsOK Tryd.prog c := eqsOK_of (by rw [h]; kernel_rfl)
noncomputable def qaq3 : Code := match Tryd.f36.body with | some b => b | none => .skip
noncomputable def qaq4 : Code := match Tryd.f53.body with | some b => b | none => .skip
noncomputable def qaq5 : Code := match Tryd.f64.body with | some b => b | none => .skip
noncomputable def qaq6 : Code := match Tryd.f65.body with | some b => b | none => .skip
noncomputable def qaq7 : HS := ⟨[(0, .one (.sl .entry)), (1, .one (.str)), (2, .one (.fnc 65)), (8, .one (.int .i64)), (9, .one (.int .i64)), (10, .one (.int .i64))], [], 0⟩
noncomputable def qaq8 {R : Type} : Nat → HS.V qaq7 → (Ex → St → Option R) → Option R := fun q v K =>
  entry_at_8_L3 v.1.1 v.1.2.1 (fun y11 => K (.exit 0) { regs := [(0, .v (.one (.sl .entry v.1.1))), (1, .v (.one (.str v.1.2.1))), (2, .v (.one (.fnc 65))), (8, .v (.one (.int .i64 v.1.2.2.2.1))), (9, .v (.one (.int .i64 y11)))], mem := [], nx := 0 }) q v.1.2.2.2.2.1 v.1.2.2.2.2.2.1
noncomputable def qaq9 : List HV := [.one (.sl .entry), .one (.str)]
noncomputable def qara : List HV := [.one (.int .i64), .one (.bool)]
noncomputable def qarb : HP.V qaq9 → (List Entry) × Str := fun v => (v.1, v.2.1)
noncomputable def qarc : HX.V qara → Int × Bool := fun v => (v.1, v.2)
noncomputable def qard : (Int × Bool) → HX.V qara := fun y => (y.1, y.2)
noncomputable def qare : (List Entry) × Str → Option (Int × Bool) := fun x => entry_at x.1 x.2
noncomputable def qarf : Spec := mkSpec qaq9 qara qarb qard qare
noncomputable def qarg {R : Type} : List (Nat × Hd R) := []
noncomputable def qarh {R : Type} : List (Nat × Inl R) := []
noncomputable def qari : Cfg := { T := qaqy, spec := [(66, strings_Compare_sp)], glob := GlobL.G Tryd.prog, eqs := qaqz, N := 9, fuel := 64, loops := [], joins := [], blocks := [], ovl := [], retA := none, fid := 65, rnd := false, saves := [] }
theorem qarj : CfgOK Tryd.prog qari := ⟨tsOK_of qaq1, specsL_ok (show SpecsL Tryd.prog qari.spec from ⟨strings_Compare_ok, trivial⟩), qaq2, ovlL_ok (trivial), globsOK_of rfl, freshL_ok (show FreshL Tryd.prog qari.fresh from trivial), specsL_ok (show SpecsL Tryd.prog qari.gns from trivial)⟩
theorem qark {R : Type} : SubsOK Tryd.prog (R := R) 0 qarh := subsOK_nil _ _
theorem qarl {R : Type} : LoopsOK (R := R) (hnd 0 qarh) qari qarg qaq6 := loopsOK_of (l := []) (by kernel_rfl) (trivial)
theorem qarm : RngsOK Tryd.prog qari qaq6 := rngs0 (by kernel_rfl)
noncomputable def qarn {R : Type} : Inl R := .mk 65 qari qarg qaq6 Tryd.f65.results.toList qarh
noncomputable def qaro {R : Type} : List (Nat × Hd R) := []
noncomputable def qarp {R : Type} : List (Nat × Inl R) := []
noncomputable def qarq : Cfg := { T := qaqy, spec := [(66, strings_Compare_sp)], glob := GlobL.G Tryd.prog, eqs := qaqz, N := 9, fuel := 64, loops := [], joins := [], blocks := [], ovl := [], retA := none, fid := 65, rnd := false, saves := [] }
theorem qarr : CfgOK Tryd.prog qarq := ⟨tsOK_of qaq1, specsL_ok (show SpecsL Tryd.prog qarq.spec from ⟨strings_Compare_ok, trivial⟩), qaq2, ovlL_ok (trivial), globsOK_of rfl, freshL_ok (show FreshL Tryd.prog qarq.fresh from trivial), specsL_ok (show SpecsL Tryd.prog qarq.gns from trivial)⟩
theorem qars {R : Type} : SubsOK Tryd.prog (R := R) 0 qarp := subsOK_nil _ _
theorem qart {R : Type} : LoopsOK (R := R) (hnd 0 qarp) qarq qaro qaq6 := loopsOK_of (l := []) (by kernel_rfl) (trivial)
theorem qaru : RngsOK Tryd.prog qarq qaq6 := rngs0 (by kernel_rfl)
noncomputable def qarv {R : Type} : Inl R := .mk 65 qarq qaro qaq6 Tryd.f65.results.toList qarp
noncomputable def qarw {R : Type} : List (Nat × Hd R) := [(3, hdOf qaq7 qaq8)]
noncomputable def qarx {R : Type} : List (Nat × Inl R) := [(30, qarn), (46, qarv)]
noncomputable def qary : Cfg := { T := qaqy, spec := [], glob := GlobL.G Tryd.prog, eqs := qaqz, N := 49, fuel := 64, loops := [(3, ⟨[0, 1, 2, 8, 9, 10], [], [], 0, [], [], [], []⟩)], joins := [], blocks := [(0, ⟨[0, 1, 2, 8, 9], [], [], 0, [], [], [], []⟩)], ovl := [], retA := none, fid := 64, rnd := false, saves := [] }
theorem qarz : CfgOK Tryd.prog qary := ⟨tsOK_of qaq1, specsL_ok (show SpecsL Tryd.prog qary.spec from trivial), qaq2, ovlL_ok (trivial), globsOK_of rfl, freshL_ok (show FreshL Tryd.prog qary.fresh from trivial), specsL_ok (show SpecsL Tryd.prog qary.gns from trivial)⟩
theorem qar0 {R : Type} : SubsOK Tryd.prog (R := R) 1 qarx := subsOK_cons (fn := Tryd.f65) (by kernel_rfl) (by kernel_rfl) (by kernel_rfl) (by kernel_rfl) (by kernel_rfl) qarj qarl qarm qark (subsOK_cons (fn := Tryd.f65) (by kernel_rfl) (by kernel_rfl) (by kernel_rfl) (by kernel_rfl) (by kernel_rfl) qarr qart qaru qars (subsOK_nil _ _))
theorem qar1 {R : Type} : LoopOK (R := R) (hnd 1 qarx) qary qarw (sub [1, 1, 1, 0, 0, 0] qaq5) (HS.V qaq7) (HS.st qaq7) (HS.sh qaq7) qaq8 (hdOf qaq7 qaq8) := loopOK_of qaq7 qaq8 (fun _ _ => rfl) (by intro q v K; kernel_rfl)
theorem qar2 {R : Type} : LoopsOK (R := R) (hnd 1 qarx) qary qarw qaq5 := loopsOK_of (l := [sub [1, 1, 1, 0, 0, 0] qaq5]) (by kernel_rfl) (loopsL_cons (b := sub [1, 1, 1, 0, 0, 0] qaq5) (rid := 3) (by kernel_rfl) (by kernel_rfl) qar1 (trivial))
theorem qar3 : RngsOK Tryd.prog qary qaq5 := rngs0 (by kernel_rfl)
noncomputable def qar4 {R : Type} : Inl R := .mk 64 qary qarw qaq5 Tryd.f64.results.toList qarx
noncomputable def qar5 {R : Type} : List (Nat × Hd R) := []
noncomputable def qar6 {R : Type} : List (Nat × Inl R) := [(8, qar4)]
noncomputable def qar7 : Cfg := { T := qaqy, spec := [], glob := GlobL.G Tryd.prog, eqs := qaqz, N := 11, fuel := 64, loops := [], joins := [], blocks := [], ovl := [], retA := none, fid := 53, rnd := false, saves := [] }
theorem qar8 : CfgOK Tryd.prog qar7 := ⟨tsOK_of qaq1, specsL_ok (show SpecsL Tryd.prog qar7.spec from trivial), qaq2, ovlL_ok (trivial), globsOK_of rfl, freshL_ok (show FreshL Tryd.prog qar7.fresh from trivial), specsL_ok (show SpecsL Tryd.prog qar7.gns from trivial)⟩
theorem qar9 {R : Type} : SubsOK Tryd.prog (R := R) 2 qar6 := subsOK_cons (fn := Tryd.f64) (by kernel_rfl) (by kernel_rfl) (by kernel_rfl) (by kernel_rfl) (by kernel_rfl) qarz qar2 qar3 qar0 (subsOK_nil _ _)
theorem qasa {R : Type} : LoopsOK (R := R) (hnd 2 qar6) qar7 qar5 qaq4 := loopsOK_of (l := []) (by kernel_rfl) (trivial)
theorem qasb : RngsOK Tryd.prog qar7 qaq4 := rngs0 (by kernel_rfl)
theorem qasc : ∀ v, runFn (hnd 2 qar6) qar7 qar5 qaq4 Tryd.f53.results.toList (HP.st qaq9 v) (decOf qara qarc) = qare (qarb v) := by intro v; kernel_rfl
theorem qasd : SpecOK Tryd.prog 53 qarf := specOK_mk (fn := Tryd.f53) (by kernel_rfl) (by kernel_rfl) (by kernel_rfl) qar8 (by kernel_rfl) (by kernel_rfl) qaq0 (by kernel_rfl) (fun _ => rfl) (d := 2) qar9 qasa qasb qasc
noncomputable def qase : List HV := [.one (.sl .entry), .one (.str)]
noncomputable def qasf : List HV := [.one (.int .i64), .one (.bool)]
noncomputable def qasg : HP.V qase → (List Entry) × Str := fun v => (v.1, v.2.1)
noncomputable def qash : HX.V qasf → Int × Bool := fun v => (v.1, v.2)
noncomputable def qasi : (Int × Bool) → HX.V qasf := fun y => (y.1, y.2)
noncomputable def qasj : (List Entry) × Str → Option (Int × Bool) := fun x => entry_Find x.1 x.2
noncomputable def qask : Spec := mkSpec qase qasf qasg qasi qasj
noncomputable def qasl {R : Type} : List (Nat × Hd R) := []
noncomputable def qasm {R : Type} : List (Nat × Inl R) := []
noncomputable def qasn : Cfg := { T := qaqy, spec := [(53, qarf)], glob := GlobL.G Tryd.prog, eqs := qaqz, N := 21, fuel := 64, loops := [], joins := [], blocks := [], ovl := [], retA := none, fid := 36, rnd := false, saves := [] }
theorem qaso : CfgOK Tryd.prog qasn := ⟨tsOK_of qaq1, specsL_ok (show SpecsL Tryd.prog qasn.spec from ⟨qasd, trivial⟩), qaq2, ovlL_ok (trivial), globsOK_of rfl, freshL_ok (show FreshL Tryd.prog qasn.fresh from trivial), specsL_ok (show SpecsL Tryd.prog qasn.gns from trivial)⟩
theorem qasp {R : Type} : SubsOK Tryd.prog (R := R) 0 qasm := subsOK_nil _ _
theorem qasq {R : Type} : LoopsOK (R := R) (hnd 0 qasm) qasn qasl qaq3 := loopsOK_of (l := []) (by kernel_rfl) (trivial)
theorem qasr : RngsOK Tryd.prog qasn qaq3 := rngs0 (by kernel_rfl)
theorem qass : ∀ v, runFn (hnd 0 qasm) qasn qasl qaq3 Tryd.f36.results.toList (HP.st qase v) (decOf qasf qash) = qasj (qasg v) := by intro v; kernel_rfl
theorem qast : SpecOK Tryd.prog 36 qask := specOK_mk (fn := Tryd.f36) (by kernel_rfl) (by kernel_rfl) (by kernel_rfl) qaso (by kernel_rfl) (by kernel_rfl) qaq0 (by kernel_rfl) (fun _ => rfl) (d := 0) qasp qasq qasr qass
end Go.Eng
