import Derived.Ground.NamesProg
import Derived.Shelf.Small.Strs
import Derived.Shelf.Strings.Search1
import Derived.Shelf.Strings.OnBuilder
import Derived.Test.YtiaemhkkfjpdlaaProg
import Derived.Test.YtiaemhkkfjpdlaaP1
import Derived.Test.YtiaemhkkfjpdlaaE4
set_option linter.unusedSectionVars false
set_option linter.unusedVariables false
set_option linter.unusedSimpArgs false
set_option linter.unnecessarySimpa false
/-
  DERIVED: THE SHELF's CONTRACTS AT THIS DUMP, IN PLAIN WORDS (tools/lay-plain.mjs out of 'TryShelf.lean', which tools/lay-shelf.mjs wrote): THE SAME DECLARATIONS UNDER THE SAME NAMES: 'import', 'namespace', 'open', 'def', 'theorem' AND NOTHING ELSE: no command of the shelf's: FOR A HAND-IN. Each laying: the table of numbers ('.._ren') and one theorem, a field a fact of the dump's own or the kernel's comparison; each contract: ONE APPLICATION.
-/
namespace Go.Proofs
open Go.Shelf
def Try.lays106_ren : Go.Shelf.Ren := ⟨fun | 106 => 43 | 213 => 47 | 265 => 53 | n => n, fun | 9 => 9 | 3 => 3 | n => n, fun | n => n⟩
theorem Try.lays106 : Go.Proofs.Lays.n106 Try.prog Try.lays106_ren := {
  mixed := by kernel_rfl
  f106 := Try.func43.trans (congrArg some (by kernel_rfl))
  f213 := Try.func47.trans (congrArg some (by kernel_rfl))
  f265 := Try.func53.trans (congrArg some (by kernel_rfl))
  t3 := Try.underlying3
  a3 := Try.isAgg3
  z3 := Try.sizeOf3
  v3 := Try.zeroValue3
  t9 := Try.underlying9
  a9 := Try.isAgg9
  z9 := Try.sizeOf9
  v9 := Try.zeroValue9 }
def Try.lays217_ren : Go.Shelf.Ren := ⟨fun | 217 => 59 | 266 => 60 | n => n, fun | 9 => 9 | 5 => 5 | 3 => 3 | n => n, fun | n => n⟩
theorem Try.lays217 : Go.Proofs.Lays.n217 Try.prog Try.lays217_ren := {
  mixed := by kernel_rfl
  f217 := Try.func59.trans (congrArg some (by kernel_rfl))
  f266 := Try.func60.trans (congrArg some (by kernel_rfl))
  t3 := Try.underlying3
  a3 := Try.isAgg3
  z3 := Try.sizeOf3
  v3 := Try.zeroValue3
  t5 := Try.underlying5
  a5 := Try.isAgg5
  z5 := Try.sizeOf5
  v5 := Try.zeroValue5
  t9 := Try.underlying9
  a9 := Try.isAgg9
  z9 := Try.sizeOf9
  v9 := Try.zeroValue9 }
end Go.Proofs
/- Functions of Go's library, by the shelf's contracts. -/
set_option linter.unusedVariables false
set_option maxRecDepth 100000
namespace Go.Eng
open Go Go.Proofs Go.Shelf
noncomputable instance : GlobL Try.prog := ⟨[]⟩

noncomputable def strings_Compare_sp : Spec := mkSpec (X := Str × Str) (Y := Int) [.one .str, .one .str] [.one (.int .i64)] (fun v => (v.1, v.2.1)) (fun y => y) (fun x => strings_Compare x.1 x.2)
theorem strings_Compare_ok : SpecOK Try.prog 43 strings_Compare_sp where
  enters := enters_of Try.func43 (by kernel_rfl) rfl
  calls := by
    intro S w args vs x y hS _ hal hp hf
    simp only [strings_Compare_sp, mkSpec] at hp hf ⊢
    split at hp
    · rename_i v hv
      cases hp
      cases hf
      rw [HP.eq hv] at hal
      cases hal with
      | cons h1 h2 =>
        cases h2 with
        | cons h2 h3 =>
          cases h3
          rename_i v1 v2
          cases (show VA _ w (.str v.1) v1 from h1) with
          | str _ b1 e1 =>
            cases (show VA _ w (.str v.2.1) v2 from h2) with
            | str _ b2 e2 =>
              refine (Any.strings_Compare Try.lays106 b1 b2 w).mono ?_
              rintro e w' ⟨rfl, rfl⟩
              refine ⟨_, rfl, Go.RowKit.Below.refl _ _, ?_⟩
              rw [e1, e2]
              exact VA.int _ _
    · cases hp

noncomputable def stringslite_IndexByte_sp : Spec := mkSpec (X := Str × Int) (Y := Int) [.one .str, .one (.int .u8)] [.one (.int .i64)] (fun v => (v.1, v.2.1)) (fun y => y) (fun x => stringslite_IndexByte x.1 x.2)
theorem stringslite_IndexByte_ok : SpecOK Try.prog 59 stringslite_IndexByte_sp where
  enters := enters_of Try.func59 (by kernel_rfl) rfl
  calls := by
    intro S w args vs x y hS _ hal hp hf
    simp only [stringslite_IndexByte_sp, mkSpec] at hp hf ⊢
    split at hp
    · rename_i v hv
      cases hp
      cases hf
      rw [HP.eq hv] at hal
      cases hal with
      | cons h1 h2 =>
        cases h2 with
        | cons h2 h3 =>
          cases h3
          rename_i v1 v2
          cases (show VA _ w (.str v.1) v1 from h1) with
          | str _ b1 e1 =>
            cases (show VA _ w (.int .u8 v.2.1) v2 from h2) with
            | int _ _ =>
              refine (Any.stringslite_IndexByte Try.lays217 b1 v.2.1 w).mono ?_
              rintro e w' ⟨rfl, rfl⟩
              refine ⟨_, rfl, Go.RowKit.Below.refl _ _, ?_⟩
              rw [e1]
              exact VA.int _ _
    · cases hp
theorem ovl44 : OvlOK Try.prog 44 := ovlOK_of Try.func44 (by kernel_rfl) (by kernel_rfl) (tS := 30) (tR := 4) (e := 44) (size := 2) (by kernel_rfl) (by kernel_rfl) (by kernel_rfl) Try.sizeOf44
end Go.Eng
/- Each plain function is what the program's does. -/
set_option linter.unusedVariables false
set_option maxRecDepth 100000
namespace Go.Eng
open Go Go.Proofs
noncomputable def Ppath_T : List (Nat × TI) := [(4, ⟨false, 1, .one (.bool false), .bool⟩), (5, ⟨false, 1, .one (.int .u8 0), .int .u8⟩), (9, ⟨false, 1, .one (.str []), .str⟩), (21, ⟨false, 1, .one (.int .i32 0), .int .i32⟩), (65, ⟨true, 256, .agg [.bool false, .bool false, .bool false, .bool false, .bool false, .bool false, .bool false, .bool false, .bool false, .bool false, .bool false, .bool false, .bool false, .bool false, .bool false, .bool false, .bool false, .bool false, .bool false, .bool false, .bool false, .bool false, .bool false, .bool false, .bool false, .bool false, .bool false, .bool false, .bool false, .bool false, .bool false, .bool false, .bool false, .bool false, .bool false, .bool false, .bool false, .bool false, .bool false, .bool false, .bool false, .bool false, .bool false, .bool false, .bool false, .bool false, .bool false, .bool false, .bool false, .bool false, .bool false, .bool false, .bool false, .bool false, .bool false, .bool false, .bool false, .bool false, .bool false, .bool false, .bool false, .bool false, .bool false, .bool false, .bool false, .bool false, .bool false, .bool false, .bool false, .bool false, .bool false, .bool false, .bool false, .bool false, .bool false, .bool false, .bool false, .bool false, .bool false, .bool false, .bool false, .bool false, .bool false, .bool false, .bool false, .bool false, .bool false, .bool false, .bool false, .bool false, .bool false, .bool false, .bool false, .bool false, .bool false, .bool false, .bool false, .bool false, .bool false, .bool false, .bool false, .bool false, .bool false, .bool false, .bool false, .bool false, .bool false, .bool false, .bool false, .bool false, .bool false, .bool false, .bool false, .bool false, .bool false, .bool false, .bool false, .bool false, .bool false, .bool false, .bool false, .bool false, .bool false, .bool false, .bool false, .bool false, .bool false, .bool false, .bool false, .bool false, .bool false, .bool false, .bool false, .bool false, .bool false, .bool false, .bool false, .bool false, .bool false, .bool false, .bool false, .bool false, .bool false, .bool false, .bool false, .bool false, .bool false, .bool false, .bool false, .bool false, .bool false, .bool false, .bool false, .bool false, .bool false, .bool false, .bool false, .bool false, .bool false, .bool false, .bool false, .bool false, .bool false, .bool false, .bool false, .bool false, .bool false, .bool false, .bool false, .bool false, .bool false, .bool false, .bool false, .bool false, .bool false, .bool false, .bool false, .bool false, .bool false, .bool false, .bool false, .bool false, .bool false, .bool false, .bool false, .bool false, .bool false, .bool false, .bool false, .bool false, .bool false, .bool false, .bool false, .bool false, .bool false, .bool false, .bool false, .bool false, .bool false, .bool false, .bool false, .bool false, .bool false, .bool false, .bool false, .bool false, .bool false, .bool false, .bool false, .bool false, .bool false, .bool false, .bool false, .bool false, .bool false, .bool false, .bool false, .bool false, .bool false, .bool false, .bool false, .bool false, .bool false, .bool false, .bool false, .bool false, .bool false, .bool false, .bool false, .bool false, .bool false, .bool false, .bool false, .bool false, .bool false, .bool false, .bool false, .bool false, .bool false, .bool false, .bool false, .bool false, .bool false, .bool false, .bool false, .bool false, .bool false, .bool false, .bool false, .bool false, .bool false, .bool false, .bool false, .bool false, .bool false, .bool false], .array 256 4⟩)]
noncomputable def Ppath_E : List (Nat × List EK) := []
theorem Ppath_mo : Try.prog.follows .mixedOrders = true := by kernel_rfl
theorem Ppath_ts : (Ppath_T.all fun x => tiB Try.prog x.1 x.2) = true := by kernel_rfl
theorem Ppath_eqs {c : Cfg} (h : c.eqs = Ppath_E := by rfl) : EqsOK Try.prog c := eqsOK_of (by rw [h]; kernel_rfl)
noncomputable def Ppath_body36 : Code := match Try.f36.body with | some b => b | none => .skip
noncomputable def Ppath_body40 : Code := match Try.f40.body with | some b => b | none => .skip
noncomputable def Ppath_body46 : Code := match Try.f46.body with | some b => b | none => .skip
noncomputable def Ppath_body49 : Code := match Try.f49.body with | some b => b | none => .skip
noncomputable def Ppath_body50 : Code := match Try.f50.body with | some b => b | none => .skip
noncomputable def Ppath_body51 : Code := match Try.f51.body with | some b => b | none => .skip
noncomputable def Ppath_body52 : Code := match Try.f52.body with | some b => b | none => .skip
noncomputable def Ppath_body55 : Code := match Try.f55.body with | some b => b | none => .skip
noncomputable def Ppath_body56 : Code := match Try.f56.body with | some b => b | none => .skip
noncomputable def strings_ContainsAny_7_L12_hs : HS := ⟨[(0, .one (.str)), (6, .one (.ptr 1 0)), (8, .one (.int .i64))], [(1, .cells [.boolk true, .boolk false, .boolk false, .boolk false, .boolk false, .boolk false, .boolk false, .boolk false, .boolk false, .boolk false, .boolk false, .boolk false, .boolk false, .boolk false, .boolk false, .boolk false, .boolk false, .boolk false, .boolk false, .boolk false, .boolk false, .boolk false, .boolk false, .boolk false, .boolk false, .boolk false, .boolk false, .boolk false, .boolk false, .boolk false, .boolk false, .boolk false, .boolk false, .boolk false, .boolk false, .boolk false, .boolk false, .boolk false, .boolk false, .boolk false, .boolk false, .boolk false, .boolk false, .boolk false, .boolk false, .boolk false, .boolk false, .boolk true, .boolk false, .boolk false, .boolk false, .boolk false, .boolk false, .boolk false, .boolk false, .boolk false, .boolk false, .boolk false, .boolk false, .boolk false, .boolk false, .boolk false, .boolk false, .boolk false, .boolk false, .boolk false, .boolk false, .boolk false, .boolk false, .boolk false, .boolk false, .boolk false, .boolk false, .boolk false, .boolk false, .boolk false, .boolk false, .boolk false, .boolk false, .boolk false, .boolk false, .boolk false, .boolk false, .boolk false, .boolk false, .boolk false, .boolk false, .boolk false, .boolk false, .boolk false, .boolk false, .boolk false, .boolk false, .boolk false, .boolk false, .boolk false, .boolk false, .boolk false, .boolk false, .boolk false, .boolk false, .boolk false, .boolk false, .boolk false, .boolk false, .boolk false, .boolk false, .boolk false, .boolk false, .boolk false, .boolk false, .boolk false, .boolk false, .boolk false, .boolk false, .boolk false, .boolk false, .boolk false, .boolk false, .boolk false, .boolk false, .boolk false, .boolk false, .boolk false, .boolk false, .boolk false, .boolk false, .boolk false, .boolk false, .boolk false, .boolk false, .boolk false, .boolk false, .boolk false, .boolk false, .boolk false, .boolk false, .boolk false, .boolk false, .boolk false, .boolk false, .boolk false, .boolk false, .boolk false, .boolk false, .boolk false, .boolk false, .boolk false, .boolk false, .boolk false, .boolk false, .boolk false, .boolk false, .boolk false, .boolk false, .boolk false, .boolk false, .boolk false, .boolk false, .boolk false, .boolk false, .boolk false, .boolk false, .boolk false, .boolk false, .boolk false, .boolk false, .boolk false, .boolk false, .boolk false, .boolk false, .boolk false, .boolk false, .boolk false, .boolk false, .boolk false, .boolk false, .boolk false, .boolk false, .boolk false, .boolk false, .boolk false, .boolk false, .boolk false, .boolk false, .boolk false, .boolk false, .boolk false, .boolk false, .boolk false, .boolk false, .boolk false, .boolk false, .boolk false, .boolk false, .boolk false, .boolk false, .boolk false, .boolk false, .boolk false, .boolk false, .boolk false, .boolk false, .boolk false, .boolk false, .boolk false, .boolk false, .boolk false, .boolk false, .boolk false, .boolk false, .boolk false, .boolk false, .boolk false, .boolk false, .boolk false, .boolk false, .boolk false, .boolk false, .boolk false, .boolk false, .boolk false, .boolk false, .boolk false, .boolk false, .boolk false, .boolk false, .boolk false, .boolk false, .boolk false, .boolk false, .boolk false, .boolk false, .boolk false, .boolk false, .boolk false, .boolk false, .boolk false, .boolk false, .boolk false, .boolk false, .boolk false, .boolk false, .boolk false, .boolk false, .boolk false, .boolk false, .boolk false, .boolk false, .boolk false, .boolk false, .boolk false, .boolk false, .boolk false, .boolk false, .boolk false])], 2⟩
noncomputable def strings_ContainsAny_7_L12_l {R : Type} : Nat → HS.V strings_ContainsAny_7_L12_hs → (Ex → St → Option R) → Option R := fun q v K =>
  strings_ContainsAny_7_L12 v.1.1 (fun y5 => K .ret { regs := [(4, .v (.one (.int .i64 y5)))], mem := [], nx := 0 }) (K (.exit 0) { regs := [], mem := [], nx := 0 }) q v.1.2.2.1
noncomputable def strings_ContainsAny_7_52_L38_hs : HS := ⟨[(175, .one (.iter 1)), (1000001, .one (.strk ([47, 0] : Str))), (1000009, .one (.int .i64)), (1000045, .one (.iter 0))], [(0, .iter), (1, .iter)], 2⟩
noncomputable def strings_ContainsAny_7_52_L38_l {R : Type} : Nat → HS.V strings_ContainsAny_7_52_L38_hs → (Ex → St → Option R) → Option R := fun q v K =>
  strings_ContainsAny_7_52_L38 v.2.2.1.1 (fun y15 => K .ret { regs := [(4, .v (.one (.int .i64 y15))), (1000001, .v (.one (.str ([47, 0] : Str)))), (1000009, .v (.one (.int .i64 v.1.2.2.1))), (1000045, .v (.one (.iter 0)))], mem := [(0, .iter v.2.1.1 v.2.1.2)], nx := 1 }) (K (.exit 9) { regs := [(1000001, .v (.one (.str ([47, 0] : Str)))), (1000009, .v (.one (.int .i64 v.1.2.2.1))), (1000045, .v (.one (.iter 0)))], mem := [(0, .iter v.2.1.1 v.2.1.2)], nx := 1 }) q v.2.2.1.2
noncomputable def strings_ContainsAny_7_52_L12_hs : HS := ⟨[(0, .one (.strk ([47, 0] : Str))), (7, .one (.str)), (8, .one (.int .i64)), (9, .one (.int .i64)), (12, .one (.int .i64)), (1000001, .one (.strk ([47, 0] : Str))), (1000009, .one (.int .i64)), (1000045, .one (.iter 0))], [(0, .iter)], 1⟩
noncomputable def strings_ContainsAny_7_52_L12_l {R : Type} : Nat → HS.V strings_ContainsAny_7_52_L12_hs → (Ex → St → Option R) → Option R := fun q v K =>
  strings_ContainsAny_7_52_L12 v.1.2.1 v.1.2.2.1 v.1.2.2.2.1 (K (.exit 3) { regs := [(8, .v (.one (.int .i64 v.1.2.2.1))), (9, .v (.one (.int .i64 v.1.2.2.2.1))), (1000001, .v (.one (.str ([47, 0] : Str)))), (1000009, .v (.one (.int .i64 v.1.2.2.2.2.2.2.1))), (1000045, .v (.one (.iter 0)))], mem := [(0, .iter v.2.1.1 v.2.1.2)], nx := 1 }) q v.1.2.2.2.2.1
noncomputable def strings_ContainsAny_7_52_L5_hs : HS := ⟨[(0, .one (.strk ([47, 0] : Str))), (7, .one (.str)), (8, .one (.int .i64)), (9, .one (.int .i64)), (1000001, .one (.strk ([47, 0] : Str))), (1000009, .one (.int .i64)), (1000045, .one (.iter 0))], [(0, .iter)], 1⟩
noncomputable def strings_ContainsAny_7_52_L5_l {R : Type} : Nat → HS.V strings_ContainsAny_7_52_L5_hs → (Ex → St → Option R) → Option R := fun q v K =>
  strings_ContainsAny_7_52_L5 v.1.2.1 v.1.2.2.1 v.1.2.2.2.1 (fun y50 => K .ret { regs := [(4, .v (.one (.int .i64 y50))), (1000001, .v (.one (.str ([47, 0] : Str)))), (1000009, .v (.one (.int .i64 v.1.2.2.2.2.2.1))), (1000045, .v (.one (.iter 0)))], mem := [(0, .iter v.2.1.1 v.2.1.2)], nx := 1 }) (K (.exit 1) { regs := [(1000001, .v (.one (.str ([47, 0] : Str)))), (1000009, .v (.one (.int .i64 v.1.2.2.2.2.2.1))), (1000045, .v (.one (.iter 0)))], mem := [(0, .iter v.2.1.1 v.2.1.2)], nx := 1 }) q
noncomputable def strings_ContainsAny_7_L18_hs : HS := ⟨[(1, .one (.strk ([47, 0] : Str))), (45, .one (.iter 0))], [(0, .iter)], 1⟩
noncomputable def strings_ContainsAny_7_L18_l {R : Type} : Nat → HS.V strings_ContainsAny_7_L18_hs → (Ex → St → Option R) → Option R := fun q v K =>
  strings_ContainsAny_7_L18 v.2.1.1 (fun y66 => K .ret { regs := [(4, .v (.one (.int .i64 y66)))], mem := [], nx := 0 }) (K (.exit 2) { regs := [], mem := [], nx := 0 }) q v.2.1.2
noncomputable def strings_ContainsAny_hp : List HV := [.one (.str), .one (.strk ([47, 0] : Str))]
noncomputable def strings_ContainsAny_hx : List HV := [.one (.bool)]
noncomputable def strings_ContainsAny_toX : HP.V strings_ContainsAny_hp → Str := fun v => (v.1)
noncomputable def strings_ContainsAny_toY : HX.V strings_ContainsAny_hx → Bool := fun v => (v)
noncomputable def strings_ContainsAny_ofY : Bool → HX.V strings_ContainsAny_hx := fun y => (y)
noncomputable def strings_ContainsAny_f : Str → Option (Bool) := fun x => strings_ContainsAny x
noncomputable def strings_ContainsAny_sp : Spec := mkSpec strings_ContainsAny_hp strings_ContainsAny_hx strings_ContainsAny_toX strings_ContainsAny_ofY strings_ContainsAny_f
noncomputable def strings_ContainsAny_7_26_lp {R : Type} : List (Nat × Hd R) := []
noncomputable def strings_ContainsAny_7_26_subs {R : Type} : List (Nat × Inl R) := []
noncomputable def strings_ContainsAny_7_26_cfg : Cfg := { T := Ppath_T, spec := [], glob := GlobL.G Try.prog, eqs := Ppath_E, N := 5, fuel := 64, loops := [], joins := [], blocks := [], ovl := [], retA := none, fid := 50, rnd := false, saves := [] }
theorem strings_ContainsAny_7_26_C : CfgOK Try.prog strings_ContainsAny_7_26_cfg := ⟨tsOK_of Ppath_ts, specsL_ok (show SpecsL Try.prog strings_ContainsAny_7_26_cfg.spec from trivial), Ppath_eqs, ovlL_ok (trivial), globsOK_of rfl, freshL_ok (show FreshL Try.prog strings_ContainsAny_7_26_cfg.fresh from trivial)⟩
theorem strings_ContainsAny_7_26_S {R : Type} : SubsOK Try.prog (R := R) 1 strings_ContainsAny_7_26_subs := subsOK_nil _ _
theorem strings_ContainsAny_7_26_LO {R : Type} : LoopsOK (R := R) (hnd 1 strings_ContainsAny_7_26_subs) strings_ContainsAny_7_26_cfg strings_ContainsAny_7_26_lp Ppath_body50 := loopsOK_of (l := []) (by kernel_rfl) (trivial)
theorem strings_ContainsAny_7_26_RG : RngsOK Try.prog strings_ContainsAny_7_26_cfg Ppath_body50 := rngs0 (by kernel_rfl)
noncomputable def strings_ContainsAny_7_26_inl {R : Type} : Inl R := .mk 50 strings_ContainsAny_7_26_cfg strings_ContainsAny_7_26_lp Ppath_body50 Try.f50.results.toList strings_ContainsAny_7_26_subs
noncomputable def strings_ContainsAny_7_29_lp {R : Type} : List (Nat × Hd R) := []
noncomputable def strings_ContainsAny_7_29_subs {R : Type} : List (Nat × Inl R) := []
noncomputable def strings_ContainsAny_7_29_cfg : Cfg := { T := Ppath_T, spec := [], glob := GlobL.G Try.prog, eqs := Ppath_E, N := 21, fuel := 64, loops := [(2, ⟨[0, 2, 4, 1000000, 1000001], [], [0], 1, [], [], []⟩)], joins := [], blocks := [(0, ⟨[2, 1000000, 1000001], [], [0], 1, [], [], []⟩)], ovl := [], retA := some ⟨[2, 3, 1000000, 1000001], [], [0], 1, [], [], []⟩, fid := 51, rnd := false, saves := [] }
theorem strings_ContainsAny_7_29_C : CfgOK Try.prog strings_ContainsAny_7_29_cfg := ⟨tsOK_of Ppath_ts, specsL_ok (show SpecsL Try.prog strings_ContainsAny_7_29_cfg.spec from trivial), Ppath_eqs, ovlL_ok (trivial), globsOK_of rfl, freshL_ok (show FreshL Try.prog strings_ContainsAny_7_29_cfg.fresh from trivial)⟩
theorem strings_ContainsAny_7_29_S {R : Type} : SubsOK Try.prog (R := R) 1 strings_ContainsAny_7_29_subs := subsOK_nil _ _
theorem strings_ContainsAny_7_29_LO {R : Type} : LoopsOK (R := R) (hnd 1 strings_ContainsAny_7_29_subs) strings_ContainsAny_7_29_cfg strings_ContainsAny_7_29_lp Ppath_body51 := loopsOK_of (l := [sub [1, 0, 1, 0, 0] Ppath_body51]) (by kernel_rfl) (loopsL_skip (b := sub [1, 0, 1, 0, 0] Ppath_body51) (rid := 2) (by kernel_rfl) (by kernel_rfl) (trivial))
theorem strings_ContainsAny_7_29_RG : RngsOK Try.prog strings_ContainsAny_7_29_cfg Ppath_body51 := rngs0 (by kernel_rfl)
noncomputable def strings_ContainsAny_7_29_inl {R : Type} : Inl R := .mk 51 strings_ContainsAny_7_29_cfg strings_ContainsAny_7_29_lp Ppath_body51 Try.f51.results.toList strings_ContainsAny_7_29_subs
noncomputable def strings_ContainsAny_7_42_lp {R : Type} : List (Nat × Hd R) := []
noncomputable def strings_ContainsAny_7_42_subs {R : Type} : List (Nat × Inl R) := []
noncomputable def strings_ContainsAny_7_42_cfg : Cfg := { T := Ppath_T, spec := [], glob := GlobL.G Try.prog, eqs := Ppath_E, N := 10, fuel := 64, loops := [], joins := [], blocks := [], ovl := [], retA := none, fid := 52, rnd := false, saves := [] }
theorem strings_ContainsAny_7_42_C : CfgOK Try.prog strings_ContainsAny_7_42_cfg := ⟨tsOK_of Ppath_ts, specsL_ok (show SpecsL Try.prog strings_ContainsAny_7_42_cfg.spec from trivial), Ppath_eqs, ovlL_ok (trivial), globsOK_of rfl, freshL_ok (show FreshL Try.prog strings_ContainsAny_7_42_cfg.fresh from trivial)⟩
theorem strings_ContainsAny_7_42_S {R : Type} : SubsOK Try.prog (R := R) 1 strings_ContainsAny_7_42_subs := subsOK_nil _ _
theorem strings_ContainsAny_7_42_LO {R : Type} : LoopsOK (R := R) (hnd 1 strings_ContainsAny_7_42_subs) strings_ContainsAny_7_42_cfg strings_ContainsAny_7_42_lp Ppath_body52 := loopsOK_of (l := []) (by kernel_rfl) (trivial)
theorem strings_ContainsAny_7_42_RG : RngsOK Try.prog strings_ContainsAny_7_42_cfg Ppath_body52 := rngs0 (by kernel_rfl)
noncomputable def strings_ContainsAny_7_42_inl {R : Type} : Inl R := .mk 52 strings_ContainsAny_7_42_cfg strings_ContainsAny_7_42_lp Ppath_body52 Try.f52.results.toList strings_ContainsAny_7_42_subs
noncomputable def strings_ContainsAny_7_52_170_lp {R : Type} : List (Nat × Hd R) := []
noncomputable def strings_ContainsAny_7_52_170_subs {R : Type} : List (Nat × Inl R) := []
noncomputable def strings_ContainsAny_7_52_170_cfg : Cfg := { T := Ppath_T, spec := [(59, stringslite_IndexByte_sp)], glob := GlobL.G Try.prog, eqs := Ppath_E, N := 8, fuel := 64, loops := [], joins := [], blocks := [], ovl := [], retA := none, fid := 55, rnd := false, saves := [] }
theorem strings_ContainsAny_7_52_170_C : CfgOK Try.prog strings_ContainsAny_7_52_170_cfg := ⟨tsOK_of Ppath_ts, specsL_ok (show SpecsL Try.prog strings_ContainsAny_7_52_170_cfg.spec from ⟨stringslite_IndexByte_ok, trivial⟩), Ppath_eqs, ovlL_ok (trivial), globsOK_of rfl, freshL_ok (show FreshL Try.prog strings_ContainsAny_7_52_170_cfg.fresh from trivial)⟩
theorem strings_ContainsAny_7_52_170_S {R : Type} : SubsOK Try.prog (R := R) 0 strings_ContainsAny_7_52_170_subs := subsOK_nil _ _
theorem strings_ContainsAny_7_52_170_LO {R : Type} : LoopsOK (R := R) (hnd 0 strings_ContainsAny_7_52_170_subs) strings_ContainsAny_7_52_170_cfg strings_ContainsAny_7_52_170_lp Ppath_body55 := loopsOK_of (l := []) (by kernel_rfl) (trivial)
theorem strings_ContainsAny_7_52_170_RG : RngsOK Try.prog strings_ContainsAny_7_52_170_cfg Ppath_body55 := rngs0 (by kernel_rfl)
noncomputable def strings_ContainsAny_7_52_170_inl {R : Type} : Inl R := .mk 55 strings_ContainsAny_7_52_170_cfg strings_ContainsAny_7_52_170_lp Ppath_body55 Try.f55.results.toList strings_ContainsAny_7_52_170_subs
noncomputable def strings_ContainsAny_7_52_185_lp {R : Type} : List (Nat × Hd R) := []
noncomputable def strings_ContainsAny_7_52_185_subs {R : Type} : List (Nat × Inl R) := []
noncomputable def strings_ContainsAny_7_52_185_cfg : Cfg := { T := Ppath_T, spec := [], glob := GlobL.G Try.prog, eqs := Ppath_E, N := 17, fuel := 64, loops := [], joins := [], blocks := [], ovl := [], retA := none, fid := 56, rnd := false, saves := [] }
theorem strings_ContainsAny_7_52_185_C : CfgOK Try.prog strings_ContainsAny_7_52_185_cfg := ⟨tsOK_of Ppath_ts, specsL_ok (show SpecsL Try.prog strings_ContainsAny_7_52_185_cfg.spec from trivial), Ppath_eqs, ovlL_ok (trivial), globsOK_of rfl, freshL_ok (show FreshL Try.prog strings_ContainsAny_7_52_185_cfg.fresh from trivial)⟩
theorem strings_ContainsAny_7_52_185_S {R : Type} : SubsOK Try.prog (R := R) 0 strings_ContainsAny_7_52_185_subs := subsOK_nil _ _
theorem strings_ContainsAny_7_52_185_LO {R : Type} : LoopsOK (R := R) (hnd 0 strings_ContainsAny_7_52_185_subs) strings_ContainsAny_7_52_185_cfg strings_ContainsAny_7_52_185_lp Ppath_body56 := loopsOK_of (l := []) (by kernel_rfl) (trivial)
theorem strings_ContainsAny_7_52_185_RG : RngsOK Try.prog strings_ContainsAny_7_52_185_cfg Ppath_body56 := rngs0 (by kernel_rfl)
noncomputable def strings_ContainsAny_7_52_185_inl {R : Type} : Inl R := .mk 56 strings_ContainsAny_7_52_185_cfg strings_ContainsAny_7_52_185_lp Ppath_body56 Try.f56.results.toList strings_ContainsAny_7_52_185_subs
noncomputable def strings_ContainsAny_7_52_41_lp {R : Type} : List (Nat × Hd R) := []
noncomputable def strings_ContainsAny_7_52_41_subs {R : Type} : List (Nat × Inl R) := []
noncomputable def strings_ContainsAny_7_52_41_cfg : Cfg := { T := Ppath_T, spec := [(59, stringslite_IndexByte_sp)], glob := GlobL.G Try.prog, eqs := Ppath_E, N := 8, fuel := 64, loops := [], joins := [], blocks := [], ovl := [], retA := none, fid := 55, rnd := false, saves := [] }
theorem strings_ContainsAny_7_52_41_C : CfgOK Try.prog strings_ContainsAny_7_52_41_cfg := ⟨tsOK_of Ppath_ts, specsL_ok (show SpecsL Try.prog strings_ContainsAny_7_52_41_cfg.spec from ⟨stringslite_IndexByte_ok, trivial⟩), Ppath_eqs, ovlL_ok (trivial), globsOK_of rfl, freshL_ok (show FreshL Try.prog strings_ContainsAny_7_52_41_cfg.fresh from trivial)⟩
theorem strings_ContainsAny_7_52_41_S {R : Type} : SubsOK Try.prog (R := R) 0 strings_ContainsAny_7_52_41_subs := subsOK_nil _ _
theorem strings_ContainsAny_7_52_41_LO {R : Type} : LoopsOK (R := R) (hnd 0 strings_ContainsAny_7_52_41_subs) strings_ContainsAny_7_52_41_cfg strings_ContainsAny_7_52_41_lp Ppath_body55 := loopsOK_of (l := []) (by kernel_rfl) (trivial)
theorem strings_ContainsAny_7_52_41_RG : RngsOK Try.prog strings_ContainsAny_7_52_41_cfg Ppath_body55 := rngs0 (by kernel_rfl)
noncomputable def strings_ContainsAny_7_52_41_inl {R : Type} : Inl R := .mk 55 strings_ContainsAny_7_52_41_cfg strings_ContainsAny_7_52_41_lp Ppath_body55 Try.f55.results.toList strings_ContainsAny_7_52_41_subs
noncomputable def strings_ContainsAny_7_52_lp {R : Type} : List (Nat × Hd R) := [(38, hdOf strings_ContainsAny_7_52_L38_hs strings_ContainsAny_7_52_L38_l), (5, hdOf strings_ContainsAny_7_52_L5_hs strings_ContainsAny_7_52_L5_l), (12, hdOf strings_ContainsAny_7_52_L12_hs strings_ContainsAny_7_52_L12_l)]
noncomputable def strings_ContainsAny_7_52_subs {R : Type} : List (Nat × Inl R) := [(170, strings_ContainsAny_7_52_170_inl), (185, strings_ContainsAny_7_52_185_inl), (41, strings_ContainsAny_7_52_41_inl)]
noncomputable def strings_ContainsAny_7_52_cfg : Cfg := { T := Ppath_T, spec := [], glob := GlobL.G Try.prog, eqs := Ppath_E, N := 187, fuel := 64, loops := [(38, ⟨[175, 1000001, 1000009, 1000045], [], [0, 1], 2, [], [], []⟩), (12, ⟨[0, 7, 8, 9, 12, 1000001, 1000009, 1000045], [], [0], 1, [], [], []⟩), (5, ⟨[0, 7, 8, 9, 1000001, 1000009, 1000045], [], [0], 1, [], [], []⟩)], joins := [], blocks := [(9, ⟨[1000001, 1000009, 1000045], [], [0], 1, [], [], []⟩), (1, ⟨[1000001, 1000009, 1000045], [], [0], 1, [], [], []⟩), (3, ⟨[8, 9, 1000001, 1000009, 1000045], [], [0], 1, [], [], []⟩)], ovl := [], retA := some ⟨[4, 1000001, 1000009, 1000045], [], [0], 1, [], [], []⟩, fid := 49, rnd := false, saves := [] }
theorem strings_ContainsAny_7_52_C : CfgOK Try.prog strings_ContainsAny_7_52_cfg := ⟨tsOK_of Ppath_ts, specsL_ok (show SpecsL Try.prog strings_ContainsAny_7_52_cfg.spec from trivial), Ppath_eqs, ovlL_ok (trivial), globsOK_of rfl, freshL_ok (show FreshL Try.prog strings_ContainsAny_7_52_cfg.fresh from trivial)⟩
theorem strings_ContainsAny_7_52_S {R : Type} : SubsOK Try.prog (R := R) 1 strings_ContainsAny_7_52_subs := subsOK_cons (fn := Try.f55) (by kernel_rfl) (by kernel_rfl) (by kernel_rfl) (by kernel_rfl) (by kernel_rfl) strings_ContainsAny_7_52_170_C strings_ContainsAny_7_52_170_LO strings_ContainsAny_7_52_170_RG strings_ContainsAny_7_52_170_S (subsOK_cons (fn := Try.f56) (by kernel_rfl) (by kernel_rfl) (by kernel_rfl) (by kernel_rfl) (by kernel_rfl) strings_ContainsAny_7_52_185_C strings_ContainsAny_7_52_185_LO strings_ContainsAny_7_52_185_RG strings_ContainsAny_7_52_185_S (subsOK_cons (fn := Try.f55) (by kernel_rfl) (by kernel_rfl) (by kernel_rfl) (by kernel_rfl) (by kernel_rfl) strings_ContainsAny_7_52_41_C strings_ContainsAny_7_52_41_LO strings_ContainsAny_7_52_41_RG strings_ContainsAny_7_52_41_S (subsOK_nil _ _)))
theorem strings_ContainsAny_7_52_L38_ok {R : Type} : LoopOK (R := R) (hnd 1 strings_ContainsAny_7_52_subs) strings_ContainsAny_7_52_cfg strings_ContainsAny_7_52_lp (sub [1, 0, 1, 1, 1, 0, 0, 1, 0, 0] Ppath_body49) (HS.V strings_ContainsAny_7_52_L38_hs) (HS.st strings_ContainsAny_7_52_L38_hs) (HS.sh strings_ContainsAny_7_52_L38_hs) strings_ContainsAny_7_52_L38_l (hdOf strings_ContainsAny_7_52_L38_hs strings_ContainsAny_7_52_L38_l) := loopOK_of strings_ContainsAny_7_52_L38_hs strings_ContainsAny_7_52_L38_l (fun _ _ => rfl) (by intro q v K; kernel_rfl)
theorem strings_ContainsAny_7_52_L5_ok {R : Type} : LoopOK (R := R) (hnd 1 strings_ContainsAny_7_52_subs) strings_ContainsAny_7_52_cfg strings_ContainsAny_7_52_lp (sub [1, 0, 1, 1, 1, 1, 1, 1, 0, 1, 1, 1, 1, 0, 0, 0] Ppath_body49) (HS.V strings_ContainsAny_7_52_L5_hs) (HS.st strings_ContainsAny_7_52_L5_hs) (HS.sh strings_ContainsAny_7_52_L5_hs) strings_ContainsAny_7_52_L5_l (hdOf strings_ContainsAny_7_52_L5_hs strings_ContainsAny_7_52_L5_l) := loopOK_of strings_ContainsAny_7_52_L5_hs strings_ContainsAny_7_52_L5_l (fun _ _ => rfl) (by intro q v K; kernel_rfl)
theorem strings_ContainsAny_7_52_L12_ok {R : Type} : LoopOK (R := R) (hnd 1 strings_ContainsAny_7_52_subs) strings_ContainsAny_7_52_cfg strings_ContainsAny_7_52_lp (sub [1, 0, 1, 1, 1, 1, 1, 1, 0, 1, 1, 1, 1, 0, 0, 0, 1, 0, 0, 1, 0, 1, 0, 0] Ppath_body49) (HS.V strings_ContainsAny_7_52_L12_hs) (HS.st strings_ContainsAny_7_52_L12_hs) (HS.sh strings_ContainsAny_7_52_L12_hs) strings_ContainsAny_7_52_L12_l (hdOf strings_ContainsAny_7_52_L12_hs strings_ContainsAny_7_52_L12_l) := loopOK_of strings_ContainsAny_7_52_L12_hs strings_ContainsAny_7_52_L12_l (fun _ _ => rfl) (by intro q v K; kernel_rfl)
theorem strings_ContainsAny_7_52_LO {R : Type} : LoopsOK (R := R) (hnd 1 strings_ContainsAny_7_52_subs) strings_ContainsAny_7_52_cfg strings_ContainsAny_7_52_lp Ppath_body49 := loopsOK_of (l := [sub [1, 0, 1, 1, 1, 0, 0, 1, 0, 0] Ppath_body49, sub [1, 0, 1, 1, 1, 1, 1, 1, 0, 1, 1, 1, 1, 0, 0, 0] Ppath_body49, sub [1, 0, 1, 1, 1, 1, 1, 1, 0, 1, 1, 1, 1, 0, 0, 0, 1, 0, 0, 1, 0, 1, 0, 0] Ppath_body49, sub [1, 0, 1, 1, 1, 1, 1, 1, 0, 1, 1, 1, 1, 1, 1, 1, 0, 1, 0, 1, 1, 1, 0, 0] Ppath_body49, sub [1, 0, 1, 1, 1, 1, 1, 1, 0, 1, 1, 1, 1, 1, 1, 1, 0, 1, 0, 1, 1, 1, 0, 0, 1, 0, 0, 1, 0, 0, 1, 0, 0] Ppath_body49]) (by kernel_rfl) (loopsL_cons (b := sub [1, 0, 1, 1, 1, 0, 0, 1, 0, 0] Ppath_body49) (rid := 38) (by kernel_rfl) (by kernel_rfl) strings_ContainsAny_7_52_L38_ok (loopsL_cons (b := sub [1, 0, 1, 1, 1, 1, 1, 1, 0, 1, 1, 1, 1, 0, 0, 0] Ppath_body49) (rid := 5) (by kernel_rfl) (by kernel_rfl) strings_ContainsAny_7_52_L5_ok (loopsL_cons (b := sub [1, 0, 1, 1, 1, 1, 1, 1, 0, 1, 1, 1, 1, 0, 0, 0, 1, 0, 0, 1, 0, 1, 0, 0] Ppath_body49) (rid := 12) (by kernel_rfl) (by kernel_rfl) strings_ContainsAny_7_52_L12_ok (loopsL_skip (b := sub [1, 0, 1, 1, 1, 1, 1, 1, 0, 1, 1, 1, 1, 1, 1, 1, 0, 1, 0, 1, 1, 1, 0, 0] Ppath_body49) (rid := 25) (by kernel_rfl) (by kernel_rfl) (loopsL_skip (b := sub [1, 0, 1, 1, 1, 1, 1, 1, 0, 1, 1, 1, 1, 1, 1, 1, 0, 1, 0, 1, 1, 1, 0, 0, 1, 0, 0, 1, 0, 0, 1, 0, 0] Ppath_body49) (rid := 29) (by kernel_rfl) (by kernel_rfl) (trivial))))))
theorem strings_ContainsAny_7_52_RG : RngsOK Try.prog strings_ContainsAny_7_52_cfg Ppath_body49 := rngs0 (by kernel_rfl)
noncomputable def strings_ContainsAny_7_52_inl {R : Type} : Inl R := .mk 49 strings_ContainsAny_7_52_cfg strings_ContainsAny_7_52_lp Ppath_body49 Try.f49.results.toList strings_ContainsAny_7_52_subs
noncomputable def strings_ContainsAny_7_lp {R : Type} : List (Nat × Hd R) := [(12, hdOf strings_ContainsAny_7_L12_hs strings_ContainsAny_7_L12_l), (18, hdOf strings_ContainsAny_7_L18_hs strings_ContainsAny_7_L18_l)]
noncomputable def strings_ContainsAny_7_subs {R : Type} : List (Nat × Inl R) := [(26, strings_ContainsAny_7_26_inl), (29, strings_ContainsAny_7_29_inl), (42, strings_ContainsAny_7_42_inl), (52, strings_ContainsAny_7_52_inl)]
noncomputable def strings_ContainsAny_7_cfg : Cfg := { T := Ppath_T, spec := [], glob := GlobL.G Try.prog, eqs := Ppath_E, N := 55, fuel := 64, loops := [(18, ⟨[1, 45], [], [0], 1, [], [], []⟩), (12, ⟨[0, 6, 8], [], [1], 2, [], [], []⟩)], joins := [], blocks := [(2, ⟨[], [], [], 0, [], [], []⟩), (0, ⟨[], [], [], 0, [], [], []⟩)], ovl := [], retA := some ⟨[4], [], [], 0, [], [], []⟩, fid := 46, rnd := false, saves := [] }
theorem strings_ContainsAny_7_C : CfgOK Try.prog strings_ContainsAny_7_cfg := ⟨tsOK_of Ppath_ts, specsL_ok (show SpecsL Try.prog strings_ContainsAny_7_cfg.spec from trivial), Ppath_eqs, ovlL_ok (trivial), globsOK_of rfl, freshL_ok (show FreshL Try.prog strings_ContainsAny_7_cfg.fresh from trivial)⟩
theorem strings_ContainsAny_7_S {R : Type} : SubsOK Try.prog (R := R) 2 strings_ContainsAny_7_subs := subsOK_cons (fn := Try.f50) (by kernel_rfl) (by kernel_rfl) (by kernel_rfl) (by kernel_rfl) (by kernel_rfl) strings_ContainsAny_7_26_C strings_ContainsAny_7_26_LO strings_ContainsAny_7_26_RG strings_ContainsAny_7_26_S (subsOK_cons (fn := Try.f51) (by kernel_rfl) (by kernel_rfl) (by kernel_rfl) (by kernel_rfl) (by kernel_rfl) strings_ContainsAny_7_29_C strings_ContainsAny_7_29_LO strings_ContainsAny_7_29_RG strings_ContainsAny_7_29_S (subsOK_cons (fn := Try.f52) (by kernel_rfl) (by kernel_rfl) (by kernel_rfl) (by kernel_rfl) (by kernel_rfl) strings_ContainsAny_7_42_C strings_ContainsAny_7_42_LO strings_ContainsAny_7_42_RG strings_ContainsAny_7_42_S (subsOK_cons (fn := Try.f49) (by kernel_rfl) (by kernel_rfl) (by kernel_rfl) (by kernel_rfl) (by kernel_rfl) strings_ContainsAny_7_52_C strings_ContainsAny_7_52_LO strings_ContainsAny_7_52_RG strings_ContainsAny_7_52_S (subsOK_nil _ _))))
theorem strings_ContainsAny_7_L12_ok {R : Type} : LoopOK (R := R) (hnd 2 strings_ContainsAny_7_subs) strings_ContainsAny_7_cfg strings_ContainsAny_7_lp (sub [1, 1, 1, 0, 1, 0, 1, 1, 0, 0, 1, 0, 0] Ppath_body46) (HS.V strings_ContainsAny_7_L12_hs) (HS.st strings_ContainsAny_7_L12_hs) (HS.sh strings_ContainsAny_7_L12_hs) strings_ContainsAny_7_L12_l (hdOf strings_ContainsAny_7_L12_hs strings_ContainsAny_7_L12_l) := loopOK_of strings_ContainsAny_7_L12_hs strings_ContainsAny_7_L12_l (fun _ _ => rfl) (by intro q v K; kernel_rfl)
theorem strings_ContainsAny_7_L18_ok {R : Type} : LoopOK (R := R) (hnd 2 strings_ContainsAny_7_subs) strings_ContainsAny_7_cfg strings_ContainsAny_7_lp (sub [1, 1, 1, 1, 0, 1, 0, 0] Ppath_body46) (HS.V strings_ContainsAny_7_L18_hs) (HS.st strings_ContainsAny_7_L18_hs) (HS.sh strings_ContainsAny_7_L18_hs) strings_ContainsAny_7_L18_l (hdOf strings_ContainsAny_7_L18_hs strings_ContainsAny_7_L18_l) := loopOK_of strings_ContainsAny_7_L18_hs strings_ContainsAny_7_L18_l (fun _ _ => rfl) (by intro q v K; kernel_rfl)
theorem strings_ContainsAny_7_LO {R : Type} : LoopsOK (R := R) (hnd 2 strings_ContainsAny_7_subs) strings_ContainsAny_7_cfg strings_ContainsAny_7_lp Ppath_body46 := loopsOK_of (l := [sub [1, 1, 1, 0, 1, 0, 1, 1, 0, 0, 1, 0, 0] Ppath_body46, sub [1, 1, 1, 1, 0, 1, 0, 0] Ppath_body46]) (by kernel_rfl) (loopsL_cons (b := sub [1, 1, 1, 0, 1, 0, 1, 1, 0, 0, 1, 0, 0] Ppath_body46) (rid := 12) (by kernel_rfl) (by kernel_rfl) strings_ContainsAny_7_L12_ok (loopsL_cons (b := sub [1, 1, 1, 1, 0, 1, 0, 0] Ppath_body46) (rid := 18) (by kernel_rfl) (by kernel_rfl) strings_ContainsAny_7_L18_ok (trivial)))
theorem strings_ContainsAny_7_RG : RngsOK Try.prog strings_ContainsAny_7_cfg Ppath_body46 := rngs0 (by kernel_rfl)
noncomputable def strings_ContainsAny_7_inl {R : Type} : Inl R := .mk 46 strings_ContainsAny_7_cfg strings_ContainsAny_7_lp Ppath_body46 Try.f46.results.toList strings_ContainsAny_7_subs
noncomputable def strings_ContainsAny_lp {R : Type} : List (Nat × Hd R) := []
noncomputable def strings_ContainsAny_subs {R : Type} : List (Nat × Inl R) := [(7, strings_ContainsAny_7_inl)]
noncomputable def strings_ContainsAny_cfg : Cfg := { T := Ppath_T, spec := [], glob := GlobL.G Try.prog, eqs := Ppath_E, N := 9, fuel := 64, loops := [], joins := [], blocks := [], ovl := [], retA := none, fid := 40, rnd := false, saves := [] }
theorem strings_ContainsAny_C : CfgOK Try.prog strings_ContainsAny_cfg := ⟨tsOK_of Ppath_ts, specsL_ok (show SpecsL Try.prog strings_ContainsAny_cfg.spec from trivial), Ppath_eqs, ovlL_ok (trivial), globsOK_of rfl, freshL_ok (show FreshL Try.prog strings_ContainsAny_cfg.fresh from trivial)⟩
theorem strings_ContainsAny_S {R : Type} : SubsOK Try.prog (R := R) 3 strings_ContainsAny_subs := subsOK_cons (fn := Try.f46) (by kernel_rfl) (by kernel_rfl) (by kernel_rfl) (by kernel_rfl) (by kernel_rfl) strings_ContainsAny_7_C strings_ContainsAny_7_LO strings_ContainsAny_7_RG strings_ContainsAny_7_S (subsOK_nil _ _)
theorem strings_ContainsAny_LO {R : Type} : LoopsOK (R := R) (hnd 3 strings_ContainsAny_subs) strings_ContainsAny_cfg strings_ContainsAny_lp Ppath_body40 := loopsOK_of (l := []) (by kernel_rfl) (trivial)
theorem strings_ContainsAny_RG : RngsOK Try.prog strings_ContainsAny_cfg Ppath_body40 := rngs0 (by kernel_rfl)
theorem strings_ContainsAny_run : ∀ v, runFn (hnd 3 strings_ContainsAny_subs) strings_ContainsAny_cfg strings_ContainsAny_lp Ppath_body40 Try.f40.results.toList (HP.st strings_ContainsAny_hp v) (decOf strings_ContainsAny_hx strings_ContainsAny_toY) = strings_ContainsAny_f (strings_ContainsAny_toX v) := by intro v; kernel_rfl
theorem strings_ContainsAny_ok : SpecOK Try.prog 40 strings_ContainsAny_sp := specOK_mk (fn := Try.f40) (by kernel_rfl) (by kernel_rfl) (by kernel_rfl) strings_ContainsAny_C (by kernel_rfl) (by kernel_rfl) Ppath_mo (by kernel_rfl) (fun _ => rfl) (d := 3) strings_ContainsAny_S strings_ContainsAny_LO strings_ContainsAny_RG strings_ContainsAny_run

noncomputable def path_May_hp : List HV := [.one (.str)]
noncomputable def path_May_hx : List HV := [.one (.bool)]
noncomputable def path_May_toX : HP.V path_May_hp → Str := fun v => (v.1)
noncomputable def path_May_toY : HX.V path_May_hx → Bool := fun v => (v)
noncomputable def path_May_ofY : Bool → HX.V path_May_hx := fun y => (y)
noncomputable def path_May_f : Str → Option (Bool) := fun x => path_May x
noncomputable def path_May_sp : Spec := mkSpec path_May_hp path_May_hx path_May_toX path_May_ofY path_May_f
noncomputable def path_May_lp {R : Type} : List (Nat × Hd R) := []
noncomputable def path_May_subs {R : Type} : List (Nat × Inl R) := []
noncomputable def path_May_cfg : Cfg := { T := Ppath_T, spec := [(40, strings_ContainsAny_sp)], glob := GlobL.G Try.prog, eqs := Ppath_E, N := 23, fuel := 64, loops := [], joins := [], blocks := [], ovl := [], retA := none, fid := 36, rnd := false, saves := [] }
theorem path_May_C : CfgOK Try.prog path_May_cfg := ⟨tsOK_of Ppath_ts, specsL_ok (show SpecsL Try.prog path_May_cfg.spec from ⟨strings_ContainsAny_ok, trivial⟩), Ppath_eqs, ovlL_ok (trivial), globsOK_of rfl, freshL_ok (show FreshL Try.prog path_May_cfg.fresh from trivial)⟩
theorem path_May_S {R : Type} : SubsOK Try.prog (R := R) 0 path_May_subs := subsOK_nil _ _
theorem path_May_LO {R : Type} : LoopsOK (R := R) (hnd 0 path_May_subs) path_May_cfg path_May_lp Ppath_body36 := loopsOK_of (l := []) (by kernel_rfl) (trivial)
theorem path_May_RG : RngsOK Try.prog path_May_cfg Ppath_body36 := rngs0 (by kernel_rfl)
theorem path_May_run : ∀ v, runFn (hnd 0 path_May_subs) path_May_cfg path_May_lp Ppath_body36 Try.f36.results.toList (HP.st path_May_hp v) (decOf path_May_hx path_May_toY) = path_May_f (path_May_toX v) := by intro v; kernel_rfl
theorem path_May_ok : SpecOK Try.prog 36 path_May_sp := specOK_mk (fn := Try.f36) (by kernel_rfl) (by kernel_rfl) (by kernel_rfl) path_May_C (by kernel_rfl) (by kernel_rfl) Ppath_mo (by kernel_rfl) (fun _ => rfl) (d := 0) path_May_S path_May_LO path_May_RG path_May_run
end Go.Eng
/- Each plain function is what the program's does. -/
set_option linter.unusedVariables false
set_option maxRecDepth 100000
namespace Go.Eng
open Go Go.Proofs
noncomputable def Pentry_T : List (Nat × TI) := [(3, ⟨false, 1, .one (.int .i64 0), .int .i64⟩), (9, ⟨false, 1, .one (.str []), .str⟩), (30, ⟨false, 1, .one (.clip .entry []), .slice .entry 44⟩), (41, ⟨false, 1, .one (.clip .str []), .slice .str 9⟩), (44, ⟨true, 2, .agg [.str [], .int .i64 0], .struct [(0, 9), (1, 3)]⟩), (62, ⟨false, 1, .one (.int .u64 0), .int .u64⟩)]
noncomputable def Pentry_E : List (Nat × List EK) := []
theorem Pentry_mo : Try.prog.follows .mixedOrders = true := by kernel_rfl
theorem Pentry_ts : (Pentry_T.all fun x => tiB Try.prog x.1 x.2) = true := by kernel_rfl
theorem Pentry_eqs {c : Cfg} (h : c.eqs = Pentry_E := by rfl) : EqsOK Try.prog c := eqsOK_of (by rw [h]; kernel_rfl)
noncomputable def Pentry_body23 : Code := match Try.f23.body with | some b => b | none => .skip
noncomputable def Pentry_body25 : Code := match Try.f25.body with | some b => b | none => .skip
noncomputable def Pentry_body27 : Code := match Try.f27.body with | some b => b | none => .skip
noncomputable def Pentry_body29 : Code := match Try.f29.body with | some b => b | none => .skip
noncomputable def Pentry_body32 : Code := match Try.f32.body with | some b => b | none => .skip
noncomputable def Pentry_body37 : Code := match Try.f37.body with | some b => b | none => .skip
noncomputable def Pentry_body38 : Code := match Try.f38.body with | some b => b | none => .skip
noncomputable def Pentry_body39 : Code := match Try.f39.body with | some b => b | none => .skip
noncomputable def Pentry_body41 : Code := match Try.f41.body with | some b => b | none => .skip
noncomputable def Pentry_body42 : Code := match Try.f42.body with | some b => b | none => .skip
noncomputable def entry_Right_L2_hs : HS := ⟨[(0, .one (.sl .entry)), (5, .one (.sl .entry)), (6, .one (.int .i64)), (7, .one (.int .i64))], [], 0⟩
noncomputable def entry_Right_L2_l {R : Type} : Nat → HS.V entry_Right_L2_hs → (Ex → St → Option R) → Option R := fun q v K =>
  entry_Right_L2 v.1.1 v.1.2.1 v.1.2.2.1 (K .ret { regs := [(2, .v (.one (.bool false)))], mem := [], nx := 0 }) (K (.exit 0) { regs := [], mem := [], nx := 0 }) q v.1.2.2.2.1
noncomputable def entry_Right_hp : List HV := [.one (.sl .entry)]
noncomputable def entry_Right_hx : List HV := [.one (.bool)]
noncomputable def entry_Right_toX : HP.V entry_Right_hp → (List Entry) := fun v => (v.1)
noncomputable def entry_Right_toY : HX.V entry_Right_hx → Bool := fun v => (v)
noncomputable def entry_Right_ofY : Bool → HX.V entry_Right_hx := fun y => (y)
noncomputable def entry_Right_f : (List Entry) → Option (Bool) := fun x => entry_Right x
noncomputable def entry_Right_sp : Spec := mkSpec entry_Right_hp entry_Right_hx entry_Right_toX entry_Right_ofY entry_Right_f
noncomputable def entry_Right_lp {R : Type} : List (Nat × Hd R) := [(2, hdOf entry_Right_L2_hs entry_Right_L2_l)]
noncomputable def entry_Right_subs {R : Type} : List (Nat × Inl R) := []
noncomputable def entry_Right_cfg : Cfg := { T := Pentry_T, spec := [(36, path_May_sp)], glob := GlobL.G Try.prog, eqs := Pentry_E, N := 37, fuel := 64, loops := [(2, ⟨[0, 5, 6, 7], [], [], 0, [], [], []⟩)], joins := [], blocks := [(0, ⟨[], [], [], 0, [], [], []⟩)], ovl := [], retA := some ⟨[2], [], [], 0, [], [], []⟩, fid := 23, rnd := false, saves := [] }
theorem entry_Right_C : CfgOK Try.prog entry_Right_cfg := ⟨tsOK_of Pentry_ts, specsL_ok (show SpecsL Try.prog entry_Right_cfg.spec from ⟨path_May_ok, trivial⟩), Pentry_eqs, ovlL_ok (trivial), globsOK_of rfl, freshL_ok (show FreshL Try.prog entry_Right_cfg.fresh from trivial)⟩
theorem entry_Right_S {R : Type} : SubsOK Try.prog (R := R) 0 entry_Right_subs := subsOK_nil _ _
theorem entry_Right_L2_ok {R : Type} : LoopOK (R := R) (hnd 0 entry_Right_subs) entry_Right_cfg entry_Right_lp (sub [1, 0, 1, 0, 0] Pentry_body23) (HS.V entry_Right_L2_hs) (HS.st entry_Right_L2_hs) (HS.sh entry_Right_L2_hs) entry_Right_L2_l (hdOf entry_Right_L2_hs entry_Right_L2_l) := loopOK_of entry_Right_L2_hs entry_Right_L2_l (fun _ _ => rfl) (by intro q v K; kernel_rfl)
theorem entry_Right_LO {R : Type} : LoopsOK (R := R) (hnd 0 entry_Right_subs) entry_Right_cfg entry_Right_lp Pentry_body23 := loopsOK_of (l := [sub [1, 0, 1, 0, 0] Pentry_body23]) (by kernel_rfl) (loopsL_cons (b := sub [1, 0, 1, 0, 0] Pentry_body23) (rid := 2) (by kernel_rfl) (by kernel_rfl) entry_Right_L2_ok (trivial))
theorem entry_Right_RG : RngsOK Try.prog entry_Right_cfg Pentry_body23 := rngs0 (by kernel_rfl)
theorem entry_Right_run : ∀ v, runFn (hnd 0 entry_Right_subs) entry_Right_cfg entry_Right_lp Pentry_body23 Try.f23.results.toList (HP.st entry_Right_hp v) (decOf entry_Right_hx entry_Right_toY) = entry_Right_f (entry_Right_toX v) := by intro v; kernel_rfl
theorem entry_Right_ok : SpecOK Try.prog 23 entry_Right_sp := specOK_mk (fn := Try.f23) (by kernel_rfl) (by kernel_rfl) (by kernel_rfl) entry_Right_C (by kernel_rfl) (by kernel_rfl) Pentry_mo (by kernel_rfl) (fun _ => rfl) (d := 0) entry_Right_S entry_Right_LO entry_Right_RG entry_Right_run

noncomputable def entry_at_8_L3_hs : HS := ⟨[(0, .one (.sl .entry)), (1, .one (.str)), (2, .one (.fnc 42)), (8, .one (.int .i64)), (9, .one (.int .i64)), (10, .one (.int .i64))], [], 0⟩
noncomputable def entry_at_8_L3_l {R : Type} : Nat → HS.V entry_at_8_L3_hs → (Ex → St → Option R) → Option R := fun q v K =>
  entry_at_8_L3 v.1.1 v.1.2.1 (fun y11 => K (.exit 0) { regs := [(0, .v (.one (.sl .entry v.1.1))), (1, .v (.one (.str v.1.2.1))), (2, .v (.one (.fnc 42))), (8, .v (.one (.int .i64 v.1.2.2.2.1))), (9, .v (.one (.int .i64 y11)))], mem := [], nx := 0 }) q v.1.2.2.2.2.1 v.1.2.2.2.2.2.1
noncomputable def entry_at_hp : List HV := [.one (.sl .entry), .one (.str)]
noncomputable def entry_at_hx : List HV := [.one (.int .i64), .one (.bool)]
noncomputable def entry_at_toX : HP.V entry_at_hp → (List Entry) × Str := fun v => (v.1, v.2.1)
noncomputable def entry_at_toY : HX.V entry_at_hx → Int × Bool := fun v => (v.1, v.2)
noncomputable def entry_at_ofY : (Int × Bool) → HX.V entry_at_hx := fun y => (y.1, y.2)
noncomputable def entry_at_f : (List Entry) × Str → Option (Int × Bool) := fun x => entry_at x.1 x.2
noncomputable def entry_at_sp : Spec := mkSpec entry_at_hp entry_at_hx entry_at_toX entry_at_ofY entry_at_f
noncomputable def entry_at_8_30_lp {R : Type} : List (Nat × Hd R) := []
noncomputable def entry_at_8_30_subs {R : Type} : List (Nat × Inl R) := []
noncomputable def entry_at_8_30_cfg : Cfg := { T := Pentry_T, spec := [(43, strings_Compare_sp)], glob := GlobL.G Try.prog, eqs := Pentry_E, N := 9, fuel := 64, loops := [], joins := [], blocks := [], ovl := [], retA := none, fid := 42, rnd := false, saves := [] }
theorem entry_at_8_30_C : CfgOK Try.prog entry_at_8_30_cfg := ⟨tsOK_of Pentry_ts, specsL_ok (show SpecsL Try.prog entry_at_8_30_cfg.spec from ⟨strings_Compare_ok, trivial⟩), Pentry_eqs, ovlL_ok (trivial), globsOK_of rfl, freshL_ok (show FreshL Try.prog entry_at_8_30_cfg.fresh from trivial)⟩
theorem entry_at_8_30_S {R : Type} : SubsOK Try.prog (R := R) 0 entry_at_8_30_subs := subsOK_nil _ _
theorem entry_at_8_30_LO {R : Type} : LoopsOK (R := R) (hnd 0 entry_at_8_30_subs) entry_at_8_30_cfg entry_at_8_30_lp Pentry_body42 := loopsOK_of (l := []) (by kernel_rfl) (trivial)
theorem entry_at_8_30_RG : RngsOK Try.prog entry_at_8_30_cfg Pentry_body42 := rngs0 (by kernel_rfl)
noncomputable def entry_at_8_30_inl {R : Type} : Inl R := .mk 42 entry_at_8_30_cfg entry_at_8_30_lp Pentry_body42 Try.f42.results.toList entry_at_8_30_subs
noncomputable def entry_at_8_46_lp {R : Type} : List (Nat × Hd R) := []
noncomputable def entry_at_8_46_subs {R : Type} : List (Nat × Inl R) := []
noncomputable def entry_at_8_46_cfg : Cfg := { T := Pentry_T, spec := [(43, strings_Compare_sp)], glob := GlobL.G Try.prog, eqs := Pentry_E, N := 9, fuel := 64, loops := [], joins := [], blocks := [], ovl := [], retA := none, fid := 42, rnd := false, saves := [] }
theorem entry_at_8_46_C : CfgOK Try.prog entry_at_8_46_cfg := ⟨tsOK_of Pentry_ts, specsL_ok (show SpecsL Try.prog entry_at_8_46_cfg.spec from ⟨strings_Compare_ok, trivial⟩), Pentry_eqs, ovlL_ok (trivial), globsOK_of rfl, freshL_ok (show FreshL Try.prog entry_at_8_46_cfg.fresh from trivial)⟩
theorem entry_at_8_46_S {R : Type} : SubsOK Try.prog (R := R) 0 entry_at_8_46_subs := subsOK_nil _ _
theorem entry_at_8_46_LO {R : Type} : LoopsOK (R := R) (hnd 0 entry_at_8_46_subs) entry_at_8_46_cfg entry_at_8_46_lp Pentry_body42 := loopsOK_of (l := []) (by kernel_rfl) (trivial)
theorem entry_at_8_46_RG : RngsOK Try.prog entry_at_8_46_cfg Pentry_body42 := rngs0 (by kernel_rfl)
noncomputable def entry_at_8_46_inl {R : Type} : Inl R := .mk 42 entry_at_8_46_cfg entry_at_8_46_lp Pentry_body42 Try.f42.results.toList entry_at_8_46_subs
noncomputable def entry_at_8_lp {R : Type} : List (Nat × Hd R) := [(3, hdOf entry_at_8_L3_hs entry_at_8_L3_l)]
noncomputable def entry_at_8_subs {R : Type} : List (Nat × Inl R) := [(30, entry_at_8_30_inl), (46, entry_at_8_46_inl)]
noncomputable def entry_at_8_cfg : Cfg := { T := Pentry_T, spec := [], glob := GlobL.G Try.prog, eqs := Pentry_E, N := 49, fuel := 64, loops := [(3, ⟨[0, 1, 2, 8, 9, 10], [], [], 0, [], [], []⟩)], joins := [], blocks := [(0, ⟨[0, 1, 2, 8, 9], [], [], 0, [], [], []⟩)], ovl := [], retA := none, fid := 41, rnd := false, saves := [] }
theorem entry_at_8_C : CfgOK Try.prog entry_at_8_cfg := ⟨tsOK_of Pentry_ts, specsL_ok (show SpecsL Try.prog entry_at_8_cfg.spec from trivial), Pentry_eqs, ovlL_ok (trivial), globsOK_of rfl, freshL_ok (show FreshL Try.prog entry_at_8_cfg.fresh from trivial)⟩
theorem entry_at_8_S {R : Type} : SubsOK Try.prog (R := R) 1 entry_at_8_subs := subsOK_cons (fn := Try.f42) (by kernel_rfl) (by kernel_rfl) (by kernel_rfl) (by kernel_rfl) (by kernel_rfl) entry_at_8_30_C entry_at_8_30_LO entry_at_8_30_RG entry_at_8_30_S (subsOK_cons (fn := Try.f42) (by kernel_rfl) (by kernel_rfl) (by kernel_rfl) (by kernel_rfl) (by kernel_rfl) entry_at_8_46_C entry_at_8_46_LO entry_at_8_46_RG entry_at_8_46_S (subsOK_nil _ _))
theorem entry_at_8_L3_ok {R : Type} : LoopOK (R := R) (hnd 1 entry_at_8_subs) entry_at_8_cfg entry_at_8_lp (sub [1, 1, 1, 0, 0, 0] Pentry_body41) (HS.V entry_at_8_L3_hs) (HS.st entry_at_8_L3_hs) (HS.sh entry_at_8_L3_hs) entry_at_8_L3_l (hdOf entry_at_8_L3_hs entry_at_8_L3_l) := loopOK_of entry_at_8_L3_hs entry_at_8_L3_l (fun _ _ => rfl) (by intro q v K; kernel_rfl)
theorem entry_at_8_LO {R : Type} : LoopsOK (R := R) (hnd 1 entry_at_8_subs) entry_at_8_cfg entry_at_8_lp Pentry_body41 := loopsOK_of (l := [sub [1, 1, 1, 0, 0, 0] Pentry_body41]) (by kernel_rfl) (loopsL_cons (b := sub [1, 1, 1, 0, 0, 0] Pentry_body41) (rid := 3) (by kernel_rfl) (by kernel_rfl) entry_at_8_L3_ok (trivial))
theorem entry_at_8_RG : RngsOK Try.prog entry_at_8_cfg Pentry_body41 := rngs0 (by kernel_rfl)
noncomputable def entry_at_8_inl {R : Type} : Inl R := .mk 41 entry_at_8_cfg entry_at_8_lp Pentry_body41 Try.f41.results.toList entry_at_8_subs
noncomputable def entry_at_lp {R : Type} : List (Nat × Hd R) := []
noncomputable def entry_at_subs {R : Type} : List (Nat × Inl R) := [(8, entry_at_8_inl)]
noncomputable def entry_at_cfg : Cfg := { T := Pentry_T, spec := [], glob := GlobL.G Try.prog, eqs := Pentry_E, N := 11, fuel := 64, loops := [], joins := [], blocks := [], ovl := [], retA := none, fid := 37, rnd := false, saves := [] }
theorem entry_at_C : CfgOK Try.prog entry_at_cfg := ⟨tsOK_of Pentry_ts, specsL_ok (show SpecsL Try.prog entry_at_cfg.spec from trivial), Pentry_eqs, ovlL_ok (trivial), globsOK_of rfl, freshL_ok (show FreshL Try.prog entry_at_cfg.fresh from trivial)⟩
theorem entry_at_S {R : Type} : SubsOK Try.prog (R := R) 2 entry_at_subs := subsOK_cons (fn := Try.f41) (by kernel_rfl) (by kernel_rfl) (by kernel_rfl) (by kernel_rfl) (by kernel_rfl) entry_at_8_C entry_at_8_LO entry_at_8_RG entry_at_8_S (subsOK_nil _ _)
theorem entry_at_LO {R : Type} : LoopsOK (R := R) (hnd 2 entry_at_subs) entry_at_cfg entry_at_lp Pentry_body37 := loopsOK_of (l := []) (by kernel_rfl) (trivial)
theorem entry_at_RG : RngsOK Try.prog entry_at_cfg Pentry_body37 := rngs0 (by kernel_rfl)
theorem entry_at_run : ∀ v, runFn (hnd 2 entry_at_subs) entry_at_cfg entry_at_lp Pentry_body37 Try.f37.results.toList (HP.st entry_at_hp v) (decOf entry_at_hx entry_at_toY) = entry_at_f (entry_at_toX v) := by intro v; kernel_rfl
theorem entry_at_ok : SpecOK Try.prog 37 entry_at_sp := specOK_mk (fn := Try.f37) (by kernel_rfl) (by kernel_rfl) (by kernel_rfl) entry_at_C (by kernel_rfl) (by kernel_rfl) Pentry_mo (by kernel_rfl) (fun _ => rfl) (d := 2) entry_at_S entry_at_LO entry_at_RG entry_at_run

noncomputable def entry_Find_hp : List HV := [.one (.sl .entry), .one (.str)]
noncomputable def entry_Find_hx : List HV := [.one (.int .i64), .one (.bool)]
noncomputable def entry_Find_toX : HP.V entry_Find_hp → (List Entry) × Str := fun v => (v.1, v.2.1)
noncomputable def entry_Find_toY : HX.V entry_Find_hx → Int × Bool := fun v => (v.1, v.2)
noncomputable def entry_Find_ofY : (Int × Bool) → HX.V entry_Find_hx := fun y => (y.1, y.2)
noncomputable def entry_Find_f : (List Entry) × Str → Option (Int × Bool) := fun x => entry_Find x.1 x.2
noncomputable def entry_Find_sp : Spec := mkSpec entry_Find_hp entry_Find_hx entry_Find_toX entry_Find_ofY entry_Find_f
noncomputable def entry_Find_lp {R : Type} : List (Nat × Hd R) := []
noncomputable def entry_Find_subs {R : Type} : List (Nat × Inl R) := []
noncomputable def entry_Find_cfg : Cfg := { T := Pentry_T, spec := [(37, entry_at_sp)], glob := GlobL.G Try.prog, eqs := Pentry_E, N := 21, fuel := 64, loops := [], joins := [], blocks := [], ovl := [], retA := none, fid := 25, rnd := false, saves := [] }
theorem entry_Find_C : CfgOK Try.prog entry_Find_cfg := ⟨tsOK_of Pentry_ts, specsL_ok (show SpecsL Try.prog entry_Find_cfg.spec from ⟨entry_at_ok, trivial⟩), Pentry_eqs, ovlL_ok (trivial), globsOK_of rfl, freshL_ok (show FreshL Try.prog entry_Find_cfg.fresh from trivial)⟩
theorem entry_Find_S {R : Type} : SubsOK Try.prog (R := R) 0 entry_Find_subs := subsOK_nil _ _
theorem entry_Find_LO {R : Type} : LoopsOK (R := R) (hnd 0 entry_Find_subs) entry_Find_cfg entry_Find_lp Pentry_body25 := loopsOK_of (l := []) (by kernel_rfl) (trivial)
theorem entry_Find_RG : RngsOK Try.prog entry_Find_cfg Pentry_body25 := rngs0 (by kernel_rfl)
theorem entry_Find_run : ∀ v, runFn (hnd 0 entry_Find_subs) entry_Find_cfg entry_Find_lp Pentry_body25 Try.f25.results.toList (HP.st entry_Find_hp v) (decOf entry_Find_hx entry_Find_toY) = entry_Find_f (entry_Find_toX v) := by intro v; kernel_rfl
theorem entry_Find_ok : SpecOK Try.prog 25 entry_Find_sp := specOK_mk (fn := Try.f25) (by kernel_rfl) (by kernel_rfl) (by kernel_rfl) entry_Find_C (by kernel_rfl) (by kernel_rfl) Pentry_mo (by kernel_rfl) (fun _ => rfl) (d := 0) entry_Find_S entry_Find_LO entry_Find_RG entry_Find_run

noncomputable def entry_Names_L3_hs : HS := ⟨[(3, .one (.own 0)), (6, .one (.sl .entry)), (7, .one (.int .i64)), (8, .one (.int .i64))], [(0, .row .str)], 1⟩
noncomputable def entry_Names_L3_l {R : Type} : Nat → HS.V entry_Names_L3_hs → (Ex → St → Option R) → Option R := fun q v K =>
  entry_Names_L3 v.1.2.1 v.1.2.2.1 (fun y6 => K (.exit 0) { regs := [(3, .v (.one (.own 0)))], mem := [(0, .row .str y6)], nx := 1 }) q v.1.2.2.2.1 v.2.1
noncomputable def entry_Names_hp : List HV := [.one (.sl .entry)]
noncomputable def entry_Names_hx : List HV := [.one (.sl .str)]
noncomputable def entry_Names_toX : HP.V entry_Names_hp → (List Entry) := fun v => (v.1)
noncomputable def entry_Names_toY : HX.V entry_Names_hx → (List Str) := fun v => (v)
noncomputable def entry_Names_ofY : (List Str) → HX.V entry_Names_hx := fun y => (y)
noncomputable def entry_Names_f : (List Entry) → Option ((List Str)) := fun x => entry_Names x
noncomputable def entry_Names_sp : Spec := mkSpec entry_Names_hp entry_Names_hx entry_Names_toX entry_Names_ofY entry_Names_f
noncomputable def entry_Names_lp {R : Type} : List (Nat × Hd R) := [(3, hdOf entry_Names_L3_hs entry_Names_L3_l)]
noncomputable def entry_Names_subs {R : Type} : List (Nat × Inl R) := []
noncomputable def entry_Names_cfg : Cfg := { T := Pentry_T, spec := [], glob := GlobL.G Try.prog, eqs := Pentry_E, N := 19, fuel := 64, loops := [(3, ⟨[3, 6, 7, 8], [(3, 0, .str)], [0], 1, [], [], []⟩)], joins := [], blocks := [(0, ⟨[3], [], [0], 1, [], [], []⟩)], ovl := [], retA := none, fid := 27, rnd := false, saves := [] }
theorem entry_Names_C : CfgOK Try.prog entry_Names_cfg := ⟨tsOK_of Pentry_ts, specsL_ok (show SpecsL Try.prog entry_Names_cfg.spec from trivial), Pentry_eqs, ovlL_ok (trivial), globsOK_of rfl, freshL_ok (show FreshL Try.prog entry_Names_cfg.fresh from trivial)⟩
theorem entry_Names_S {R : Type} : SubsOK Try.prog (R := R) 0 entry_Names_subs := subsOK_nil _ _
theorem entry_Names_L3_ok {R : Type} : LoopOK (R := R) (hnd 0 entry_Names_subs) entry_Names_cfg entry_Names_lp (sub [1, 1, 0, 1, 0, 0] Pentry_body27) (HS.V entry_Names_L3_hs) (HS.st entry_Names_L3_hs) (HS.sh entry_Names_L3_hs) entry_Names_L3_l (hdOf entry_Names_L3_hs entry_Names_L3_l) := loopOK_of entry_Names_L3_hs entry_Names_L3_l (fun _ _ => rfl) (by intro q v K; kernel_rfl)
theorem entry_Names_LO {R : Type} : LoopsOK (R := R) (hnd 0 entry_Names_subs) entry_Names_cfg entry_Names_lp Pentry_body27 := loopsOK_of (l := [sub [1, 1, 0, 1, 0, 0] Pentry_body27]) (by kernel_rfl) (loopsL_cons (b := sub [1, 1, 0, 1, 0, 0] Pentry_body27) (rid := 3) (by kernel_rfl) (by kernel_rfl) entry_Names_L3_ok (trivial))
theorem entry_Names_RG : RngsOK Try.prog entry_Names_cfg Pentry_body27 := rngs0 (by kernel_rfl)
theorem entry_Names_run : ∀ v, runFn (hnd 0 entry_Names_subs) entry_Names_cfg entry_Names_lp Pentry_body27 Try.f27.results.toList (HP.st entry_Names_hp v) (decOf entry_Names_hx entry_Names_toY) = entry_Names_f (entry_Names_toX v) := by intro v; kernel_rfl
theorem entry_Names_ok : SpecOK Try.prog 27 entry_Names_sp := specOK_mk (fn := Try.f27) (by kernel_rfl) (by kernel_rfl) (by kernel_rfl) entry_Names_C (by kernel_rfl) (by kernel_rfl) Pentry_mo (by kernel_rfl) (fun _ => rfl) (d := 0) entry_Names_S entry_Names_LO entry_Names_RG entry_Names_run

noncomputable def entry_Without_hp : List HV := [.one (.sl .entry), .one (.str)]
noncomputable def entry_Without_hx : List HV := [.one (.sl .entry)]
noncomputable def entry_Without_toX : HP.V entry_Without_hp → (List Entry) × Str := fun v => (v.1, v.2.1)
noncomputable def entry_Without_toY : HX.V entry_Without_hx → (List Entry) := fun v => (v)
noncomputable def entry_Without_ofY : (List Entry) → HX.V entry_Without_hx := fun y => (y)
noncomputable def entry_Without_f : (List Entry) × Str → Option ((List Entry)) := fun x => entry_Without x.1 x.2
noncomputable def entry_Without_sp : Spec := mkSpec entry_Without_hp entry_Without_hx entry_Without_toX entry_Without_ofY entry_Without_f
noncomputable def entry_Without_17_lp {R : Type} : List (Nat × Hd R) := []
noncomputable def entry_Without_17_subs {R : Type} : List (Nat × Inl R) := []
noncomputable def entry_Without_17_cfg : Cfg := { T := Pentry_T, spec := [(37, entry_at_sp)], glob := GlobL.G Try.prog, eqs := Pentry_E, N := 8, fuel := 64, loops := [], joins := [], blocks := [], ovl := [], retA := none, fid := 38, rnd := false, saves := [] }
theorem entry_Without_17_C : CfgOK Try.prog entry_Without_17_cfg := ⟨tsOK_of Pentry_ts, specsL_ok (show SpecsL Try.prog entry_Without_17_cfg.spec from ⟨entry_at_ok, trivial⟩), Pentry_eqs, ovlL_ok (trivial), globsOK_of rfl, freshL_ok (show FreshL Try.prog entry_Without_17_cfg.fresh from trivial)⟩
theorem entry_Without_17_S {R : Type} : SubsOK Try.prog (R := R) 0 entry_Without_17_subs := subsOK_nil _ _
theorem entry_Without_17_LO {R : Type} : LoopsOK (R := R) (hnd 0 entry_Without_17_subs) entry_Without_17_cfg entry_Without_17_lp Pentry_body38 := loopsOK_of (l := []) (by kernel_rfl) (trivial)
theorem entry_Without_17_RG : RngsOK Try.prog entry_Without_17_cfg Pentry_body38 := rngs0 (by kernel_rfl)
noncomputable def entry_Without_17_inl {R : Type} : Inl R := .mk 38 entry_Without_17_cfg entry_Without_17_lp Pentry_body38 Try.f38.results.toList entry_Without_17_subs
noncomputable def entry_Without_lp {R : Type} : List (Nat × Hd R) := []
noncomputable def entry_Without_subs {R : Type} : List (Nat × Inl R) := [(17, entry_Without_17_inl)]
noncomputable def entry_Without_cfg : Cfg := { T := Pentry_T, spec := [(37, entry_at_sp)], glob := GlobL.G Try.prog, eqs := Pentry_E, N := 35, fuel := 64, loops := [], joins := [], blocks := [], ovl := [], retA := none, fid := 29, rnd := false, saves := [] }
theorem entry_Without_C : CfgOK Try.prog entry_Without_cfg := ⟨tsOK_of Pentry_ts, specsL_ok (show SpecsL Try.prog entry_Without_cfg.spec from ⟨entry_at_ok, trivial⟩), Pentry_eqs, ovlL_ok (trivial), globsOK_of rfl, freshL_ok (show FreshL Try.prog entry_Without_cfg.fresh from trivial)⟩
theorem entry_Without_S {R : Type} : SubsOK Try.prog (R := R) 1 entry_Without_subs := subsOK_cons (fn := Try.f38) (by kernel_rfl) (by kernel_rfl) (by kernel_rfl) (by kernel_rfl) (by kernel_rfl) entry_Without_17_C entry_Without_17_LO entry_Without_17_RG entry_Without_17_S (subsOK_nil _ _)
theorem entry_Without_LO {R : Type} : LoopsOK (R := R) (hnd 1 entry_Without_subs) entry_Without_cfg entry_Without_lp Pentry_body29 := loopsOK_of (l := []) (by kernel_rfl) (trivial)
theorem entry_Without_RG : RngsOK Try.prog entry_Without_cfg Pentry_body29 := rngs0 (by kernel_rfl)
noncomputable def entry_Without_fr : FSpec := mkFresh entry_Without_hp entry_Without_toX (AB.row .entry) entry_Without_f
theorem entry_Without_runf : ∀ v, runFr (hnd 1 entry_Without_subs) entry_Without_cfg entry_Without_lp Pentry_body29 Try.f29.results.toList (HP.st entry_Without_hp v) (decRow .entry) = entry_Without_f (entry_Without_toX v) := by intro v; kernel_rfl
theorem entry_Without_fresh : FreshOK Try.prog 29 entry_Without_fr := freshOK_mk (fn := Try.f29) (by kernel_rfl) (by kernel_rfl) (by kernel_rfl) entry_Without_C (by kernel_rfl) (by kernel_rfl) Pentry_mo (by kernel_rfl) decRow_ok (d := 1) entry_Without_S entry_Without_LO entry_Without_RG entry_Without_runf
theorem entry_Without_run : ∀ v, runFn (hnd 1 entry_Without_subs) entry_Without_cfg entry_Without_lp Pentry_body29 Try.f29.results.toList (HP.st entry_Without_hp v) (decOf entry_Without_hx entry_Without_toY) = entry_Without_f (entry_Without_toX v) := by intro v; kernel_rfl
theorem entry_Without_ok : SpecOK Try.prog 29 entry_Without_sp := specOK_mk (fn := Try.f29) (by kernel_rfl) (by kernel_rfl) (by kernel_rfl) entry_Without_C (by kernel_rfl) (by kernel_rfl) Pentry_mo (by kernel_rfl) (fun _ => rfl) (d := 1) entry_Without_S entry_Without_LO entry_Without_RG entry_Without_run

noncomputable def entry_With_hp : List HV := [.one (.sl .entry), .one (.str), .one (.int .i64)]
noncomputable def entry_With_hx : List HV := [.one (.sl .entry)]
noncomputable def entry_With_toX : HP.V entry_With_hp → (List Entry) × Str × Int := fun v => (v.1, v.2.1, v.2.2.1)
noncomputable def entry_With_toY : HX.V entry_With_hx → (List Entry) := fun v => (v)
noncomputable def entry_With_ofY : (List Entry) → HX.V entry_With_hx := fun y => (y)
noncomputable def entry_With_f : (List Entry) × Str × Int → Option ((List Entry)) := fun x => entry_With x.1 x.2.1 x.2.2
noncomputable def entry_With_sp : Spec := mkSpec entry_With_hp entry_With_hx entry_With_toX entry_With_ofY entry_With_f
noncomputable def entry_With_17_lp {R : Type} : List (Nat × Hd R) := []
noncomputable def entry_With_17_subs {R : Type} : List (Nat × Inl R) := []
noncomputable def entry_With_17_cfg : Cfg := { T := Pentry_T, spec := [(37, entry_at_sp)], glob := GlobL.G Try.prog, eqs := Pentry_E, N := 8, fuel := 64, loops := [], joins := [], blocks := [], ovl := [44], retA := none, fid := 38, rnd := false, saves := [] }
theorem entry_With_17_C : CfgOK Try.prog entry_With_17_cfg := ⟨tsOK_of Pentry_ts, specsL_ok (show SpecsL Try.prog entry_With_17_cfg.spec from ⟨entry_at_ok, trivial⟩), Pentry_eqs, ovlL_ok (⟨ovl44, trivial⟩), globsOK_of rfl, freshL_ok (show FreshL Try.prog entry_With_17_cfg.fresh from trivial)⟩
theorem entry_With_17_S {R : Type} : SubsOK Try.prog (R := R) 0 entry_With_17_subs := subsOK_nil _ _
theorem entry_With_17_LO {R : Type} : LoopsOK (R := R) (hnd 0 entry_With_17_subs) entry_With_17_cfg entry_With_17_lp Pentry_body38 := loopsOK_of (l := []) (by kernel_rfl) (trivial)
theorem entry_With_17_RG : RngsOK Try.prog entry_With_17_cfg Pentry_body38 := rngs0 (by kernel_rfl)
noncomputable def entry_With_17_inl {R : Type} : Inl R := .mk 38 entry_With_17_cfg entry_With_17_lp Pentry_body38 Try.f38.results.toList entry_With_17_subs
noncomputable def entry_With_31_lp {R : Type} : List (Nat × Hd R) := []
noncomputable def entry_With_31_subs {R : Type} : List (Nat × Inl R) := []
noncomputable def entry_With_31_cfg : Cfg := { T := Pentry_T, spec := [(37, entry_at_sp)], glob := GlobL.G Try.prog, eqs := Pentry_E, N := 95, fuel := 64, loops := [], joins := [], blocks := [], ovl := [44], retA := none, fid := 39, rnd := false, saves := [] }
theorem entry_With_31_C : CfgOK Try.prog entry_With_31_cfg := ⟨tsOK_of Pentry_ts, specsL_ok (show SpecsL Try.prog entry_With_31_cfg.spec from ⟨entry_at_ok, trivial⟩), Pentry_eqs, ovlL_ok (⟨ovl44, trivial⟩), globsOK_of rfl, freshL_ok (show FreshL Try.prog entry_With_31_cfg.fresh from trivial)⟩
theorem entry_With_31_S {R : Type} : SubsOK Try.prog (R := R) 0 entry_With_31_subs := subsOK_nil _ _
theorem entry_With_31_LO {R : Type} : LoopsOK (R := R) (hnd 0 entry_With_31_subs) entry_With_31_cfg entry_With_31_lp Pentry_body39 := loopsOK_of (l := []) (by kernel_rfl) (trivial)
theorem entry_With_31_RG : RngsOK Try.prog entry_With_31_cfg Pentry_body39 := rngs0 (by kernel_rfl)
noncomputable def entry_With_31_inl {R : Type} : Inl R := .mk 39 entry_With_31_cfg entry_With_31_lp Pentry_body39 Try.f39.results.toList entry_With_31_subs
noncomputable def entry_With_lp {R : Type} : List (Nat × Hd R) := []
noncomputable def entry_With_subs {R : Type} : List (Nat × Inl R) := [(17, entry_With_17_inl), (31, entry_With_31_inl)]
noncomputable def entry_With_cfg : Cfg := { T := Pentry_T, spec := [(37, entry_at_sp)], glob := GlobL.G Try.prog, eqs := Pentry_E, N := 32, fuel := 64, loops := [], joins := [], blocks := [], ovl := [44], retA := none, fid := 32, rnd := false, saves := [] }
theorem entry_With_C : CfgOK Try.prog entry_With_cfg := ⟨tsOK_of Pentry_ts, specsL_ok (show SpecsL Try.prog entry_With_cfg.spec from ⟨entry_at_ok, trivial⟩), Pentry_eqs, ovlL_ok (⟨ovl44, trivial⟩), globsOK_of rfl, freshL_ok (show FreshL Try.prog entry_With_cfg.fresh from trivial)⟩
theorem entry_With_S {R : Type} : SubsOK Try.prog (R := R) 1 entry_With_subs := subsOK_cons (fn := Try.f38) (by kernel_rfl) (by kernel_rfl) (by kernel_rfl) (by kernel_rfl) (by kernel_rfl) entry_With_17_C entry_With_17_LO entry_With_17_RG entry_With_17_S (subsOK_cons (fn := Try.f39) (by kernel_rfl) (by kernel_rfl) (by kernel_rfl) (by kernel_rfl) (by kernel_rfl) entry_With_31_C entry_With_31_LO entry_With_31_RG entry_With_31_S (subsOK_nil _ _))
theorem entry_With_LO {R : Type} : LoopsOK (R := R) (hnd 1 entry_With_subs) entry_With_cfg entry_With_lp Pentry_body32 := loopsOK_of (l := []) (by kernel_rfl) (trivial)
theorem entry_With_RG : RngsOK Try.prog entry_With_cfg Pentry_body32 := rngs0 (by kernel_rfl)
noncomputable def entry_With_fr : FSpec := mkFresh entry_With_hp entry_With_toX (AB.row .entry) entry_With_f
theorem entry_With_runf : ∀ v, runFr (hnd 1 entry_With_subs) entry_With_cfg entry_With_lp Pentry_body32 Try.f32.results.toList (HP.st entry_With_hp v) (decRow .entry) = entry_With_f (entry_With_toX v) := by intro v; kernel_rfl
theorem entry_With_fresh : FreshOK Try.prog 32 entry_With_fr := freshOK_mk (fn := Try.f32) (by kernel_rfl) (by kernel_rfl) (by kernel_rfl) entry_With_C (by kernel_rfl) (by kernel_rfl) Pentry_mo (by kernel_rfl) decRow_ok (d := 1) entry_With_S entry_With_LO entry_With_RG entry_With_runf
theorem entry_With_run : ∀ v, runFn (hnd 1 entry_With_subs) entry_With_cfg entry_With_lp Pentry_body32 Try.f32.results.toList (HP.st entry_With_hp v) (decOf entry_With_hx entry_With_toY) = entry_With_f (entry_With_toX v) := by intro v; kernel_rfl
theorem entry_With_ok : SpecOK Try.prog 32 entry_With_sp := specOK_mk (fn := Try.f32) (by kernel_rfl) (by kernel_rfl) (by kernel_rfl) entry_With_C (by kernel_rfl) (by kernel_rfl) Pentry_mo (by kernel_rfl) (fun _ => rfl) (d := 1) entry_With_S entry_With_LO entry_With_RG entry_With_run
end Go.Eng
/- Each plain function is what the program's does. -/
set_option linter.unusedVariables false
set_option maxRecDepth 100000
namespace Go.Eng
open Go Go.Proofs
noncomputable def Pref03_T : List (Nat × TI) := [(9, ⟨false, 1, .one (.str []), .str⟩)]
noncomputable def Pref03_E : List (Nat × List EK) := []
theorem Pref03_mo : Try.prog.follows .mixedOrders = true := by kernel_rfl
theorem Pref03_ts : (Pref03_T.all fun x => tiB Try.prog x.1 x.2) = true := by kernel_rfl
theorem Pref03_eqs {c : Cfg} (h : c.eqs = Pref03_E := by rfl) : EqsOK Try.prog c := eqsOK_of (by rw [h]; kernel_rfl)
noncomputable def Pref03_body31 : Code := match Try.f31.body with | some b => b | none => .skip
noncomputable def ref03_May_L2_hs : HS := ⟨[(0, .one (.str)), (3, .one (.int .i64))], [], 0⟩
noncomputable def ref03_May_L2_l {R : Type} : Nat → HS.V ref03_May_L2_hs → (Ex → St → Option R) → Option R := fun q v K =>
  ref03_May_L2 v.1.1 (K .ret { regs := [(2, .v (.one (.bool false)))], mem := [], nx := 0 }) (K (.exit 0) { regs := [(0, .v (.one (.str v.1.1)))], mem := [], nx := 0 }) q v.1.2.1
noncomputable def ref03_May_hp : List HV := [.one (.str)]
noncomputable def ref03_May_hx : List HV := [.one (.bool)]
noncomputable def ref03_May_toX : HP.V ref03_May_hp → Str := fun v => (v.1)
noncomputable def ref03_May_toY : HX.V ref03_May_hx → Bool := fun v => (v)
noncomputable def ref03_May_ofY : Bool → HX.V ref03_May_hx := fun y => (y)
noncomputable def ref03_May_f : Str → Option (Bool) := fun x => ref03_May x
noncomputable def ref03_May_sp : Spec := mkSpec ref03_May_hp ref03_May_hx ref03_May_toX ref03_May_ofY ref03_May_f
noncomputable def ref03_May_lp {R : Type} : List (Nat × Hd R) := [(2, hdOf ref03_May_L2_hs ref03_May_L2_l)]
noncomputable def ref03_May_subs {R : Type} : List (Nat × Inl R) := []
noncomputable def ref03_May_cfg : Cfg := { T := Pref03_T, spec := [], glob := GlobL.G Try.prog, eqs := Pref03_E, N := 36, fuel := 64, loops := [(2, ⟨[0, 3], [], [], 0, [], [], []⟩)], joins := [], blocks := [(0, ⟨[0], [], [], 0, [], [], []⟩)], ovl := [], retA := some ⟨[2], [], [], 0, [], [], []⟩, fid := 31, rnd := false, saves := [] }
theorem ref03_May_C : CfgOK Try.prog ref03_May_cfg := ⟨tsOK_of Pref03_ts, specsL_ok (show SpecsL Try.prog ref03_May_cfg.spec from trivial), Pref03_eqs, ovlL_ok (trivial), globsOK_of rfl, freshL_ok (show FreshL Try.prog ref03_May_cfg.fresh from trivial)⟩
theorem ref03_May_S {R : Type} : SubsOK Try.prog (R := R) 0 ref03_May_subs := subsOK_nil _ _
theorem ref03_May_L2_ok {R : Type} : LoopOK (R := R) (hnd 0 ref03_May_subs) ref03_May_cfg ref03_May_lp (sub [1, 0, 1, 0, 0] Pref03_body31) (HS.V ref03_May_L2_hs) (HS.st ref03_May_L2_hs) (HS.sh ref03_May_L2_hs) ref03_May_L2_l (hdOf ref03_May_L2_hs ref03_May_L2_l) := loopOK_of ref03_May_L2_hs ref03_May_L2_l (fun _ _ => rfl) (by intro q v K; kernel_rfl)
theorem ref03_May_LO {R : Type} : LoopsOK (R := R) (hnd 0 ref03_May_subs) ref03_May_cfg ref03_May_lp Pref03_body31 := loopsOK_of (l := [sub [1, 0, 1, 0, 0] Pref03_body31]) (by kernel_rfl) (loopsL_cons (b := sub [1, 0, 1, 0, 0] Pref03_body31) (rid := 2) (by kernel_rfl) (by kernel_rfl) ref03_May_L2_ok (trivial))
theorem ref03_May_RG : RngsOK Try.prog ref03_May_cfg Pref03_body31 := rngs0 (by kernel_rfl)
theorem ref03_May_run : ∀ v, runFn (hnd 0 ref03_May_subs) ref03_May_cfg ref03_May_lp Pref03_body31 Try.f31.results.toList (HP.st ref03_May_hp v) (decOf ref03_May_hx ref03_May_toY) = ref03_May_f (ref03_May_toX v) := by intro v; kernel_rfl
theorem ref03_May_ok : SpecOK Try.prog 31 ref03_May_sp := specOK_mk (fn := Try.f31) (by kernel_rfl) (by kernel_rfl) (by kernel_rfl) ref03_May_C (by kernel_rfl) (by kernel_rfl) Pref03_mo (by kernel_rfl) (fun _ => rfl) (d := 0) ref03_May_S ref03_May_LO ref03_May_RG ref03_May_run
end Go.Eng
/- Each plain function is what the program's does. -/
set_option linter.unusedVariables false
set_option maxRecDepth 100000
namespace Go.Eng
open Go Go.Proofs
noncomputable def Pref04_T : List (Nat × TI) := [(3, ⟨false, 1, .one (.int .i64 0), .int .i64⟩), (9, ⟨false, 1, .one (.str []), .str⟩), (30, ⟨false, 1, .one (.clip .entry []), .slice .entry 44⟩), (44, ⟨true, 2, .agg [.str [], .int .i64 0], .struct [(0, 9), (1, 3)]⟩)]
noncomputable def Pref04_E : List (Nat × List EK) := [(44, [.s, .i])]
theorem Pref04_mo : Try.prog.follows .mixedOrders = true := by kernel_rfl
theorem Pref04_ts : (Pref04_T.all fun x => tiB Try.prog x.1 x.2) = true := by kernel_rfl
theorem Pref04_eqs {c : Cfg} (h : c.eqs = Pref04_E := by rfl) : EqsOK Try.prog c := eqsOK_of (by rw [h]; kernel_rfl)
noncomputable def Pref04_body24 : Code := match Try.f24.body with | some b => b | none => .skip
noncomputable def Pref04_body26 : Code := match Try.f26.body with | some b => b | none => .skip
noncomputable def Pref04_body28 : Code := match Try.f28.body with | some b => b | none => .skip
noncomputable def Pref04_body30 : Code := match Try.f30.body with | some b => b | none => .skip
noncomputable def Pref04_body33 : Code := match Try.f33.body with | some b => b | none => .skip
noncomputable def ref04_Same_L4_hs : HS := ⟨[(0, .one (.sl .entry)), (1, .one (.sl .entry)), (5, .one (.int .i64))], [], 0⟩
noncomputable def ref04_Same_L4_l {R : Type} : Nat → HS.V ref04_Same_L4_hs → (Ex → St → Option R) → Option R := fun q v K =>
  ref04_Same_L4 v.1.1 v.1.2.1 (K .ret { regs := [(4, .v (.one (.bool false)))], mem := [], nx := 0 }) (K (.exit 0) { regs := [], mem := [], nx := 0 }) q v.1.2.2.1
noncomputable def ref04_Same_hp : List HV := [.one (.sl .entry), .one (.sl .entry)]
noncomputable def ref04_Same_hx : List HV := [.one (.bool)]
noncomputable def ref04_Same_toX : HP.V ref04_Same_hp → (List Entry) × (List Entry) := fun v => (v.1, v.2.1)
noncomputable def ref04_Same_toY : HX.V ref04_Same_hx → Bool := fun v => (v)
noncomputable def ref04_Same_ofY : Bool → HX.V ref04_Same_hx := fun y => (y)
noncomputable def ref04_Same_f : (List Entry) × (List Entry) → Option (Bool) := fun x => ref04_Same x.1 x.2
noncomputable def ref04_Same_sp : Spec := mkSpec ref04_Same_hp ref04_Same_hx ref04_Same_toX ref04_Same_ofY ref04_Same_f
noncomputable def ref04_Same_lp {R : Type} : List (Nat × Hd R) := [(4, hdOf ref04_Same_L4_hs ref04_Same_L4_l)]
noncomputable def ref04_Same_subs {R : Type} : List (Nat × Inl R) := []
noncomputable def ref04_Same_cfg : Cfg := { T := Pref04_T, spec := [], glob := GlobL.G Try.prog, eqs := Pref04_E, N := 26, fuel := 64, loops := [(4, ⟨[0, 1, 5], [], [], 0, [], [], []⟩)], joins := [], blocks := [(0, ⟨[], [], [], 0, [], [], []⟩)], ovl := [], retA := some ⟨[4], [], [], 0, [], [], []⟩, fid := 28, rnd := false, saves := [] }
theorem ref04_Same_C : CfgOK Try.prog ref04_Same_cfg := ⟨tsOK_of Pref04_ts, specsL_ok (show SpecsL Try.prog ref04_Same_cfg.spec from trivial), Pref04_eqs, ovlL_ok (trivial), globsOK_of rfl, freshL_ok (show FreshL Try.prog ref04_Same_cfg.fresh from trivial)⟩
theorem ref04_Same_S {R : Type} : SubsOK Try.prog (R := R) 0 ref04_Same_subs := subsOK_nil _ _
theorem ref04_Same_L4_ok {R : Type} : LoopOK (R := R) (hnd 0 ref04_Same_subs) ref04_Same_cfg ref04_Same_lp (sub [1, 1, 0, 1, 0, 0] Pref04_body28) (HS.V ref04_Same_L4_hs) (HS.st ref04_Same_L4_hs) (HS.sh ref04_Same_L4_hs) ref04_Same_L4_l (hdOf ref04_Same_L4_hs ref04_Same_L4_l) := loopOK_of ref04_Same_L4_hs ref04_Same_L4_l (fun _ _ => rfl) (by intro q v K; kernel_rfl)
theorem ref04_Same_LO {R : Type} : LoopsOK (R := R) (hnd 0 ref04_Same_subs) ref04_Same_cfg ref04_Same_lp Pref04_body28 := loopsOK_of (l := [sub [1, 1, 0, 1, 0, 0] Pref04_body28]) (by kernel_rfl) (loopsL_cons (b := sub [1, 1, 0, 1, 0, 0] Pref04_body28) (rid := 4) (by kernel_rfl) (by kernel_rfl) ref04_Same_L4_ok (trivial))
theorem ref04_Same_RG : RngsOK Try.prog ref04_Same_cfg Pref04_body28 := rngs0 (by kernel_rfl)
theorem ref04_Same_run : ∀ v, runFn (hnd 0 ref04_Same_subs) ref04_Same_cfg ref04_Same_lp Pref04_body28 Try.f28.results.toList (HP.st ref04_Same_hp v) (decOf ref04_Same_hx ref04_Same_toY) = ref04_Same_f (ref04_Same_toX v) := by intro v; kernel_rfl
theorem ref04_Same_ok : SpecOK Try.prog 28 ref04_Same_sp := specOK_mk (fn := Try.f28) (by kernel_rfl) (by kernel_rfl) (by kernel_rfl) ref04_Same_C (by kernel_rfl) (by kernel_rfl) Pref04_mo (by kernel_rfl) (fun _ => rfl) (d := 0) ref04_Same_S ref04_Same_LO ref04_Same_RG ref04_Same_run

noncomputable def ref04_Right_L2_hs : HS := ⟨[(0, .one (.sl .entry)), (3, .one (.int .i64))], [], 0⟩
noncomputable def ref04_Right_L2_l {R : Type} : Nat → HS.V ref04_Right_L2_hs → (Ex → St → Option R) → Option R := fun q v K =>
  ref04_Right_L2 v.1.1 (K .ret { regs := [(2, .v (.one (.bool false)))], mem := [], nx := 0 }) (K (.exit 0) { regs := [], mem := [], nx := 0 }) q v.1.2.1
noncomputable def ref04_Right_hp : List HV := [.one (.sl .entry)]
noncomputable def ref04_Right_hx : List HV := [.one (.bool)]
noncomputable def ref04_Right_toX : HP.V ref04_Right_hp → (List Entry) := fun v => (v.1)
noncomputable def ref04_Right_toY : HX.V ref04_Right_hx → Bool := fun v => (v)
noncomputable def ref04_Right_ofY : Bool → HX.V ref04_Right_hx := fun y => (y)
noncomputable def ref04_Right_f : (List Entry) → Option (Bool) := fun x => ref04_Right x
noncomputable def ref04_Right_sp : Spec := mkSpec ref04_Right_hp ref04_Right_hx ref04_Right_toX ref04_Right_ofY ref04_Right_f
noncomputable def ref04_Right_lp {R : Type} : List (Nat × Hd R) := [(2, hdOf ref04_Right_L2_hs ref04_Right_L2_l)]
noncomputable def ref04_Right_subs {R : Type} : List (Nat × Inl R) := []
noncomputable def ref04_Right_cfg : Cfg := { T := Pref04_T, spec := [(31, ref03_May_sp)], glob := GlobL.G Try.prog, eqs := Pref04_E, N := 41, fuel := 64, loops := [(2, ⟨[0, 3], [], [], 0, [], [], []⟩)], joins := [], blocks := [(0, ⟨[], [], [], 0, [], [], []⟩)], ovl := [], retA := some ⟨[2], [], [], 0, [], [], []⟩, fid := 24, rnd := false, saves := [] }
theorem ref04_Right_C : CfgOK Try.prog ref04_Right_cfg := ⟨tsOK_of Pref04_ts, specsL_ok (show SpecsL Try.prog ref04_Right_cfg.spec from ⟨ref03_May_ok, trivial⟩), Pref04_eqs, ovlL_ok (trivial), globsOK_of rfl, freshL_ok (show FreshL Try.prog ref04_Right_cfg.fresh from trivial)⟩
theorem ref04_Right_S {R : Type} : SubsOK Try.prog (R := R) 0 ref04_Right_subs := subsOK_nil _ _
theorem ref04_Right_L2_ok {R : Type} : LoopOK (R := R) (hnd 0 ref04_Right_subs) ref04_Right_cfg ref04_Right_lp (sub [1, 0, 1, 0, 0] Pref04_body24) (HS.V ref04_Right_L2_hs) (HS.st ref04_Right_L2_hs) (HS.sh ref04_Right_L2_hs) ref04_Right_L2_l (hdOf ref04_Right_L2_hs ref04_Right_L2_l) := loopOK_of ref04_Right_L2_hs ref04_Right_L2_l (fun _ _ => rfl) (by intro q v K; kernel_rfl)
theorem ref04_Right_LO {R : Type} : LoopsOK (R := R) (hnd 0 ref04_Right_subs) ref04_Right_cfg ref04_Right_lp Pref04_body24 := loopsOK_of (l := [sub [1, 0, 1, 0, 0] Pref04_body24]) (by kernel_rfl) (loopsL_cons (b := sub [1, 0, 1, 0, 0] Pref04_body24) (rid := 2) (by kernel_rfl) (by kernel_rfl) ref04_Right_L2_ok (trivial))
theorem ref04_Right_RG : RngsOK Try.prog ref04_Right_cfg Pref04_body24 := rngs0 (by kernel_rfl)
theorem ref04_Right_run : ∀ v, runFn (hnd 0 ref04_Right_subs) ref04_Right_cfg ref04_Right_lp Pref04_body24 Try.f24.results.toList (HP.st ref04_Right_hp v) (decOf ref04_Right_hx ref04_Right_toY) = ref04_Right_f (ref04_Right_toX v) := by intro v; kernel_rfl
theorem ref04_Right_ok : SpecOK Try.prog 24 ref04_Right_sp := specOK_mk (fn := Try.f24) (by kernel_rfl) (by kernel_rfl) (by kernel_rfl) ref04_Right_C (by kernel_rfl) (by kernel_rfl) Pref04_mo (by kernel_rfl) (fun _ => rfl) (d := 0) ref04_Right_S ref04_Right_LO ref04_Right_RG ref04_Right_run

noncomputable def ref04_Find_L2_hs : HS := ⟨[(0, .one (.sl .entry)), (1, .one (.str)), (6, .one (.int .i64))], [], 0⟩
noncomputable def ref04_Find_L2_l {R : Type} : Nat → HS.V ref04_Find_L2_hs → (Ex → St → Option R) → Option R := fun q v K =>
  ref04_Find_L2 v.1.1 v.1.2.1 (fun y6 => K .ret { regs := [(4, .v (.one (.int .i64 y6))), (5, .v (.one (.bool true)))], mem := [], nx := 0 }) (K (.exit 0) { regs := [], mem := [], nx := 0 }) q v.1.2.2.1
noncomputable def ref04_Find_hp : List HV := [.one (.sl .entry), .one (.str)]
noncomputable def ref04_Find_hx : List HV := [.one (.int .i64), .one (.bool)]
noncomputable def ref04_Find_toX : HP.V ref04_Find_hp → (List Entry) × Str := fun v => (v.1, v.2.1)
noncomputable def ref04_Find_toY : HX.V ref04_Find_hx → Int × Bool := fun v => (v.1, v.2)
noncomputable def ref04_Find_ofY : (Int × Bool) → HX.V ref04_Find_hx := fun y => (y.1, y.2)
noncomputable def ref04_Find_f : (List Entry) × Str → Option (Int × Bool) := fun x => ref04_Find x.1 x.2
noncomputable def ref04_Find_sp : Spec := mkSpec ref04_Find_hp ref04_Find_hx ref04_Find_toX ref04_Find_ofY ref04_Find_f
noncomputable def ref04_Find_lp {R : Type} : List (Nat × Hd R) := [(2, hdOf ref04_Find_L2_hs ref04_Find_L2_l)]
noncomputable def ref04_Find_subs {R : Type} : List (Nat × Inl R) := []
noncomputable def ref04_Find_cfg : Cfg := { T := Pref04_T, spec := [], glob := GlobL.G Try.prog, eqs := Pref04_E, N := 25, fuel := 64, loops := [(2, ⟨[0, 1, 6], [], [], 0, [], [], []⟩)], joins := [], blocks := [(0, ⟨[], [], [], 0, [], [], []⟩)], ovl := [], retA := some ⟨[4, 5], [], [], 0, [], [], []⟩, fid := 26, rnd := false, saves := [] }
theorem ref04_Find_C : CfgOK Try.prog ref04_Find_cfg := ⟨tsOK_of Pref04_ts, specsL_ok (show SpecsL Try.prog ref04_Find_cfg.spec from trivial), Pref04_eqs, ovlL_ok (trivial), globsOK_of rfl, freshL_ok (show FreshL Try.prog ref04_Find_cfg.fresh from trivial)⟩
theorem ref04_Find_S {R : Type} : SubsOK Try.prog (R := R) 0 ref04_Find_subs := subsOK_nil _ _
theorem ref04_Find_L2_ok {R : Type} : LoopOK (R := R) (hnd 0 ref04_Find_subs) ref04_Find_cfg ref04_Find_lp (sub [1, 0, 1, 0, 0] Pref04_body26) (HS.V ref04_Find_L2_hs) (HS.st ref04_Find_L2_hs) (HS.sh ref04_Find_L2_hs) ref04_Find_L2_l (hdOf ref04_Find_L2_hs ref04_Find_L2_l) := loopOK_of ref04_Find_L2_hs ref04_Find_L2_l (fun _ _ => rfl) (by intro q v K; kernel_rfl)
theorem ref04_Find_LO {R : Type} : LoopsOK (R := R) (hnd 0 ref04_Find_subs) ref04_Find_cfg ref04_Find_lp Pref04_body26 := loopsOK_of (l := [sub [1, 0, 1, 0, 0] Pref04_body26]) (by kernel_rfl) (loopsL_cons (b := sub [1, 0, 1, 0, 0] Pref04_body26) (rid := 2) (by kernel_rfl) (by kernel_rfl) ref04_Find_L2_ok (trivial))
theorem ref04_Find_RG : RngsOK Try.prog ref04_Find_cfg Pref04_body26 := rngs0 (by kernel_rfl)
theorem ref04_Find_run : ∀ v, runFn (hnd 0 ref04_Find_subs) ref04_Find_cfg ref04_Find_lp Pref04_body26 Try.f26.results.toList (HP.st ref04_Find_hp v) (decOf ref04_Find_hx ref04_Find_toY) = ref04_Find_f (ref04_Find_toX v) := by intro v; kernel_rfl
theorem ref04_Find_ok : SpecOK Try.prog 26 ref04_Find_sp := specOK_mk (fn := Try.f26) (by kernel_rfl) (by kernel_rfl) (by kernel_rfl) ref04_Find_C (by kernel_rfl) (by kernel_rfl) Pref04_mo (by kernel_rfl) (fun _ => rfl) (d := 0) ref04_Find_S ref04_Find_LO ref04_Find_RG ref04_Find_run

noncomputable def ref04_Without_L3_hs : HS := ⟨[(0, .one (.sl .entry)), (1, .one (.str)), (5, .one (.own 0)), (6, .one (.int .i64))], [(0, .row .entry)], 1⟩
noncomputable def ref04_Without_L3_l {R : Type} : Nat → HS.V ref04_Without_L3_hs → (Ex → St → Option R) → Option R := fun q v K =>
  ref04_Without_L3 v.1.1 v.1.2.1 (fun y7 => K (.exit 0) { regs := [(5, .v (.one (.own 0)))], mem := [(0, .row .entry y7)], nx := 1 }) q v.1.2.2.2.1 v.2.1
noncomputable def ref04_Without_hp : List HV := [.one (.sl .entry), .one (.str)]
noncomputable def ref04_Without_hx : List HV := [.one (.sl .entry)]
noncomputable def ref04_Without_toX : HP.V ref04_Without_hp → (List Entry) × Str := fun v => (v.1, v.2.1)
noncomputable def ref04_Without_toY : HX.V ref04_Without_hx → (List Entry) := fun v => (v)
noncomputable def ref04_Without_ofY : (List Entry) → HX.V ref04_Without_hx := fun y => (y)
noncomputable def ref04_Without_f : (List Entry) × Str → Option ((List Entry)) := fun x => ref04_Without x.1 x.2
noncomputable def ref04_Without_sp : Spec := mkSpec ref04_Without_hp ref04_Without_hx ref04_Without_toX ref04_Without_ofY ref04_Without_f
noncomputable def ref04_Without_lp {R : Type} : List (Nat × Hd R) := [(3, hdOf ref04_Without_L3_hs ref04_Without_L3_l)]
noncomputable def ref04_Without_subs {R : Type} : List (Nat × Inl R) := []
noncomputable def ref04_Without_cfg : Cfg := { T := Pref04_T, spec := [], glob := GlobL.G Try.prog, eqs := Pref04_E, N := 28, fuel := 64, loops := [(3, ⟨[0, 1, 5, 6], [(5, 0, .entry)], [0], 1, [], [], []⟩)], joins := [], blocks := [(0, ⟨[5], [], [0], 1, [], [], []⟩)], ovl := [], retA := none, fid := 30, rnd := false, saves := [] }
theorem ref04_Without_C : CfgOK Try.prog ref04_Without_cfg := ⟨tsOK_of Pref04_ts, specsL_ok (show SpecsL Try.prog ref04_Without_cfg.spec from trivial), Pref04_eqs, ovlL_ok (trivial), globsOK_of rfl, freshL_ok (show FreshL Try.prog ref04_Without_cfg.fresh from trivial)⟩
theorem ref04_Without_S {R : Type} : SubsOK Try.prog (R := R) 0 ref04_Without_subs := subsOK_nil _ _
theorem ref04_Without_L3_ok {R : Type} : LoopOK (R := R) (hnd 0 ref04_Without_subs) ref04_Without_cfg ref04_Without_lp (sub [1, 1, 0, 1, 0, 0] Pref04_body30) (HS.V ref04_Without_L3_hs) (HS.st ref04_Without_L3_hs) (HS.sh ref04_Without_L3_hs) ref04_Without_L3_l (hdOf ref04_Without_L3_hs ref04_Without_L3_l) := loopOK_of ref04_Without_L3_hs ref04_Without_L3_l (fun _ _ => rfl) (by intro q v K; kernel_rfl)
theorem ref04_Without_LO {R : Type} : LoopsOK (R := R) (hnd 0 ref04_Without_subs) ref04_Without_cfg ref04_Without_lp Pref04_body30 := loopsOK_of (l := [sub [1, 1, 0, 1, 0, 0] Pref04_body30]) (by kernel_rfl) (loopsL_cons (b := sub [1, 1, 0, 1, 0, 0] Pref04_body30) (rid := 3) (by kernel_rfl) (by kernel_rfl) ref04_Without_L3_ok (trivial))
theorem ref04_Without_RG : RngsOK Try.prog ref04_Without_cfg Pref04_body30 := rngs0 (by kernel_rfl)
theorem ref04_Without_run : ∀ v, runFn (hnd 0 ref04_Without_subs) ref04_Without_cfg ref04_Without_lp Pref04_body30 Try.f30.results.toList (HP.st ref04_Without_hp v) (decOf ref04_Without_hx ref04_Without_toY) = ref04_Without_f (ref04_Without_toX v) := by intro v; kernel_rfl
theorem ref04_Without_ok : SpecOK Try.prog 30 ref04_Without_sp := specOK_mk (fn := Try.f30) (by kernel_rfl) (by kernel_rfl) (by kernel_rfl) ref04_Without_C (by kernel_rfl) (by kernel_rfl) Pref04_mo (by kernel_rfl) (fun _ => rfl) (d := 0) ref04_Without_S ref04_Without_LO ref04_Without_RG ref04_Without_run

noncomputable def ref04_With_L5_hs : HS := ⟨[(1, .one (.str)), (2, .one (.int .i64)), (7, .one (.sl .entry)), (8, .one (.own 0)), (9, .one (.bool)), (10, .one (.int .i64))], [(0, .row .entry)], 1⟩
noncomputable def ref04_With_L5_l {R : Type} : Nat → HS.V ref04_With_L5_hs → (Ex → St → Option R) → Option R := fun q v K =>
  ref04_With_L5 v.1.1 v.1.2.1 v.1.2.2.1 (fun y14 y15 => K (.exit 0) { regs := [(1, .v (.one (.str v.1.1))), (2, .v (.one (.int .i64 v.1.2.1))), (8, .v (.one (.own 0))), (9, .v (.one (.bool y14)))], mem := [(0, .row .entry y15)], nx := 1 }) q v.1.2.2.2.2.1 v.1.2.2.2.2.2.1 v.2.1
noncomputable def ref04_With_hp : List HV := [.one (.sl .entry), .one (.str), .one (.int .i64)]
noncomputable def ref04_With_hx : List HV := [.one (.sl .entry)]
noncomputable def ref04_With_toX : HP.V ref04_With_hp → (List Entry) × Str × Int := fun v => (v.1, v.2.1, v.2.2.1)
noncomputable def ref04_With_toY : HX.V ref04_With_hx → (List Entry) := fun v => (v)
noncomputable def ref04_With_ofY : (List Entry) → HX.V ref04_With_hx := fun y => (y)
noncomputable def ref04_With_f : (List Entry) × Str × Int → Option ((List Entry)) := fun x => ref04_With x.1 x.2.1 x.2.2
noncomputable def ref04_With_sp : Spec := mkSpec ref04_With_hp ref04_With_hx ref04_With_toX ref04_With_ofY ref04_With_f
noncomputable def ref04_With_lp {R : Type} : List (Nat × Hd R) := [(5, hdOf ref04_With_L5_hs ref04_With_L5_l)]
noncomputable def ref04_With_subs {R : Type} : List (Nat × Inl R) := []
noncomputable def ref04_With_cfg : Cfg := { T := Pref04_T, spec := [(30, ref04_Without_sp)], glob := GlobL.G Try.prog, eqs := Pref04_E, N := 53, fuel := 64, loops := [(5, ⟨[1, 2, 7, 8, 9, 10], [(8, 0, .entry)], [0], 1, [], [], []⟩)], joins := [], blocks := [(0, ⟨[1, 2, 8, 9], [], [0], 1, [], [], []⟩)], ovl := [], retA := none, fid := 33, rnd := false, saves := [] }
theorem ref04_With_C : CfgOK Try.prog ref04_With_cfg := ⟨tsOK_of Pref04_ts, specsL_ok (show SpecsL Try.prog ref04_With_cfg.spec from ⟨ref04_Without_ok, trivial⟩), Pref04_eqs, ovlL_ok (trivial), globsOK_of rfl, freshL_ok (show FreshL Try.prog ref04_With_cfg.fresh from trivial)⟩
theorem ref04_With_S {R : Type} : SubsOK Try.prog (R := R) 0 ref04_With_subs := subsOK_nil _ _
theorem ref04_With_L5_ok {R : Type} : LoopOK (R := R) (hnd 0 ref04_With_subs) ref04_With_cfg ref04_With_lp (sub [1, 1, 1, 1, 0, 1, 0, 0] Pref04_body33) (HS.V ref04_With_L5_hs) (HS.st ref04_With_L5_hs) (HS.sh ref04_With_L5_hs) ref04_With_L5_l (hdOf ref04_With_L5_hs ref04_With_L5_l) := loopOK_of ref04_With_L5_hs ref04_With_L5_l (fun _ _ => rfl) (by intro q v K; kernel_rfl)
theorem ref04_With_LO {R : Type} : LoopsOK (R := R) (hnd 0 ref04_With_subs) ref04_With_cfg ref04_With_lp Pref04_body33 := loopsOK_of (l := [sub [1, 1, 1, 1, 0, 1, 0, 0] Pref04_body33]) (by kernel_rfl) (loopsL_cons (b := sub [1, 1, 1, 1, 0, 1, 0, 0] Pref04_body33) (rid := 5) (by kernel_rfl) (by kernel_rfl) ref04_With_L5_ok (trivial))
theorem ref04_With_RG : RngsOK Try.prog ref04_With_cfg Pref04_body33 := rngs0 (by kernel_rfl)
theorem ref04_With_run : ∀ v, runFn (hnd 0 ref04_With_subs) ref04_With_cfg ref04_With_lp Pref04_body33 Try.f33.results.toList (HP.st ref04_With_hp v) (decOf ref04_With_hx ref04_With_toY) = ref04_With_f (ref04_With_toX v) := by intro v; kernel_rfl
theorem ref04_With_ok : SpecOK Try.prog 33 ref04_With_sp := specOK_mk (fn := Try.f33) (by kernel_rfl) (by kernel_rfl) (by kernel_rfl) ref04_With_C (by kernel_rfl) (by kernel_rfl) Pref04_mo (by kernel_rfl) (fun _ => rfl) (d := 0) ref04_With_S ref04_With_LO ref04_With_RG ref04_With_run
end Go.Eng
/- Each plain function is what the program's does. -/
set_option linter.unusedVariables false
set_option maxRecDepth 100000
namespace Go.Eng
open Go Go.Proofs
noncomputable def Plaw04_T : List (Nat × TI) := [(3, ⟨false, 1, .one (.int .i64 0), .int .i64⟩), (4, ⟨false, 1, .one (.bool false), .bool⟩), (5, ⟨false, 1, .one (.int .u8 0), .int .u8⟩), (9, ⟨false, 1, .one (.str []), .str⟩), (30, ⟨false, 1, .one (.clip .entry []), .slice .entry 44⟩), (41, ⟨false, 1, .one (.clip .str []), .slice .str 9⟩), (44, ⟨true, 2, .agg [.str [], .int .i64 0], .struct [(0, 9), (1, 3)]⟩), (51, ⟨false, 1, .one (.clip .byte []), .slice .byte 5⟩)]
noncomputable def Plaw04_E : List (Nat × List EK) := [(44, [.s, .i])]
theorem Plaw04_mo : Try.prog.follows .mixedOrders = true := by kernel_rfl
theorem Plaw04_ts : (Plaw04_T.all fun x => tiB Try.prog x.1 x.2) = true := by kernel_rfl
theorem Plaw04_eqs {c : Cfg} (h : c.eqs = Plaw04_E := by rfl) : EqsOK Try.prog c := eqsOK_of (by rw [h]; kernel_rfl)
noncomputable def Plaw04_body6 : Code := match Try.f6.body with | some b => b | none => .skip
noncomputable def Plaw04_body7 : Code := match Try.f7.body with | some b => b | none => .skip
noncomputable def Plaw04_body8 : Code := match Try.f8.body with | some b => b | none => .skip
noncomputable def Plaw04_body9 : Code := match Try.f9.body with | some b => b | none => .skip
noncomputable def Plaw04_body10 : Code := match Try.f10.body with | some b => b | none => .skip
noncomputable def Plaw04_body21 : Code := match Try.f21.body with | some b => b | none => .skip
noncomputable def Plaw04_body22 : Code := match Try.f22.body with | some b => b | none => .skip
noncomputable def law04_awake_hp : List HV := []
noncomputable def law04_awake_hx : List HV := [.one (.bool)]
noncomputable def law04_awake_toX : HP.V law04_awake_hp → Unit := fun v => ()
noncomputable def law04_awake_toY : HX.V law04_awake_hx → Bool := fun v => (v)
noncomputable def law04_awake_ofY : Bool → HX.V law04_awake_hx := fun y => (y)
noncomputable def law04_awake_f : Unit → Option (Bool) := fun x => law04_awake
noncomputable def law04_awake_sp : Spec := mkSpec law04_awake_hp law04_awake_hx law04_awake_toX law04_awake_ofY law04_awake_f
noncomputable def law04_awake_lp {R : Type} : List (Nat × Hd R) := []
noncomputable def law04_awake_subs {R : Type} : List (Nat × Inl R) := []
noncomputable def law04_awake_cfg : Cfg := { T := Plaw04_T, spec := [(23, entry_Right_sp), (25, entry_Find_sp), (27, entry_Names_sp), (28, ref04_Same_sp), (29, entry_Without_sp), (32, entry_With_sp)], glob := GlobL.G Try.prog, eqs := Plaw04_E, N := 61, fuel := 64, loops := [], joins := [], blocks := [], ovl := [], retA := none, fid := 21, rnd := false, saves := [] }
theorem law04_awake_C : CfgOK Try.prog law04_awake_cfg := ⟨tsOK_of Plaw04_ts, specsL_ok (show SpecsL Try.prog law04_awake_cfg.spec from ⟨entry_Right_ok, ⟨entry_Find_ok, ⟨entry_Names_ok, ⟨ref04_Same_ok, ⟨entry_Without_ok, ⟨entry_With_ok, trivial⟩⟩⟩⟩⟩⟩), Plaw04_eqs, ovlL_ok (trivial), globsOK_of rfl, freshL_ok (show FreshL Try.prog law04_awake_cfg.fresh from trivial)⟩
theorem law04_awake_S {R : Type} : SubsOK Try.prog (R := R) 0 law04_awake_subs := subsOK_nil _ _
theorem law04_awake_LO {R : Type} : LoopsOK (R := R) (hnd 0 law04_awake_subs) law04_awake_cfg law04_awake_lp Plaw04_body21 := loopsOK_of (l := []) (by kernel_rfl) (trivial)
theorem law04_awake_RG : RngsOK Try.prog law04_awake_cfg Plaw04_body21 := rngs0 (by kernel_rfl)
theorem law04_awake_run : ∀ v, runFn (hnd 0 law04_awake_subs) law04_awake_cfg law04_awake_lp Plaw04_body21 Try.f21.results.toList (HP.st law04_awake_hp v) (decOf law04_awake_hx law04_awake_toY) = law04_awake_f (law04_awake_toX v) := by intro v; kernel_rfl
theorem law04_awake_ok : SpecOK Try.prog 21 law04_awake_sp := specOK_mk (fn := Try.f21) (by kernel_rfl) (by kernel_rfl) (by kernel_rfl) law04_awake_C (by kernel_rfl) (by kernel_rfl) Plaw04_mo (by kernel_rfl) (fun _ => rfl) (d := 0) law04_awake_S law04_awake_LO law04_awake_RG law04_awake_run

noncomputable def law04_few_L2_hs : HS := ⟨[(0, .one (.sl .entry)), (3, .one (.int .i64))], [], 0⟩
noncomputable def law04_few_L2_l {R : Type} : Nat → HS.V law04_few_L2_hs → (Ex → St → Option R) → Option R := fun q v K =>
  law04_few_L2 v.1.1 (K .ret { regs := [(2, .v (.one (.bool false)))], mem := [], nx := 0 }) (K (.exit 0) { regs := [(0, .v (.one (.sl .entry v.1.1)))], mem := [], nx := 0 }) q v.1.2.1
noncomputable def law04_few_hp : List HV := [.one (.sl .entry)]
noncomputable def law04_few_hx : List HV := [.one (.bool)]
noncomputable def law04_few_toX : HP.V law04_few_hp → (List Entry) := fun v => (v.1)
noncomputable def law04_few_toY : HX.V law04_few_hx → Bool := fun v => (v)
noncomputable def law04_few_ofY : Bool → HX.V law04_few_hx := fun y => (y)
noncomputable def law04_few_f : (List Entry) → Option (Bool) := fun x => law04_few x
noncomputable def law04_few_sp : Spec := mkSpec law04_few_hp law04_few_hx law04_few_toX law04_few_ofY law04_few_f
noncomputable def law04_few_lp {R : Type} : List (Nat × Hd R) := [(2, hdOf law04_few_L2_hs law04_few_L2_l)]
noncomputable def law04_few_subs {R : Type} : List (Nat × Inl R) := []
noncomputable def law04_few_cfg : Cfg := { T := Plaw04_T, spec := [], glob := GlobL.G Try.prog, eqs := Plaw04_E, N := 24, fuel := 64, loops := [(2, ⟨[0, 3], [], [], 0, [], [], []⟩)], joins := [], blocks := [(0, ⟨[0], [], [], 0, [], [], []⟩)], ovl := [], retA := some ⟨[2], [], [], 0, [], [], []⟩, fid := 22, rnd := false, saves := [] }
theorem law04_few_C : CfgOK Try.prog law04_few_cfg := ⟨tsOK_of Plaw04_ts, specsL_ok (show SpecsL Try.prog law04_few_cfg.spec from trivial), Plaw04_eqs, ovlL_ok (trivial), globsOK_of rfl, freshL_ok (show FreshL Try.prog law04_few_cfg.fresh from trivial)⟩
theorem law04_few_S {R : Type} : SubsOK Try.prog (R := R) 0 law04_few_subs := subsOK_nil _ _
theorem law04_few_L2_ok {R : Type} : LoopOK (R := R) (hnd 0 law04_few_subs) law04_few_cfg law04_few_lp (sub [1, 0, 1, 0, 0] Plaw04_body22) (HS.V law04_few_L2_hs) (HS.st law04_few_L2_hs) (HS.sh law04_few_L2_hs) law04_few_L2_l (hdOf law04_few_L2_hs law04_few_L2_l) := loopOK_of law04_few_L2_hs law04_few_L2_l (fun _ _ => rfl) (by intro q v K; kernel_rfl)
theorem law04_few_LO {R : Type} : LoopsOK (R := R) (hnd 0 law04_few_subs) law04_few_cfg law04_few_lp Plaw04_body22 := loopsOK_of (l := [sub [1, 0, 1, 0, 0] Plaw04_body22]) (by kernel_rfl) (loopsL_cons (b := sub [1, 0, 1, 0, 0] Plaw04_body22) (rid := 2) (by kernel_rfl) (by kernel_rfl) law04_few_L2_ok (trivial))
theorem law04_few_RG : RngsOK Try.prog law04_few_cfg Plaw04_body22 := rngs0 (by kernel_rfl)
theorem law04_few_run : ∀ v, runFn (hnd 0 law04_few_subs) law04_few_cfg law04_few_lp Plaw04_body22 Try.f22.results.toList (HP.st law04_few_hp v) (decOf law04_few_hx law04_few_toY) = law04_few_f (law04_few_toX v) := by intro v; kernel_rfl
theorem law04_few_ok : SpecOK Try.prog 22 law04_few_sp := specOK_mk (fn := Try.f22) (by kernel_rfl) (by kernel_rfl) (by kernel_rfl) law04_few_C (by kernel_rfl) (by kernel_rfl) Plaw04_mo (by kernel_rfl) (fun _ => rfl) (d := 0) law04_few_S law04_few_LO law04_few_RG law04_few_run

noncomputable def law04_EntryRights_hp : List HV := [.one (.sl .entry)]
noncomputable def law04_EntryRights_hx : List HV := [.one (.bool)]
noncomputable def law04_EntryRights_toX : HP.V law04_EntryRights_hp → (List Entry) := fun v => (v.1)
noncomputable def law04_EntryRights_toY : HX.V law04_EntryRights_hx → Bool := fun v => (v)
noncomputable def law04_EntryRights_ofY : Bool → HX.V law04_EntryRights_hx := fun y => (y)
noncomputable def law04_EntryRights_f : (List Entry) → Option (Bool) := fun x => law04_EntryRights x
noncomputable def law04_EntryRights_sp : Spec := mkSpec law04_EntryRights_hp law04_EntryRights_hx law04_EntryRights_toX law04_EntryRights_ofY law04_EntryRights_f
noncomputable def law04_EntryRights_lp {R : Type} : List (Nat × Hd R) := []
noncomputable def law04_EntryRights_subs {R : Type} : List (Nat × Inl R) := []
noncomputable def law04_EntryRights_cfg : Cfg := { T := Plaw04_T, spec := [(21, law04_awake_sp), (22, law04_few_sp), (23, entry_Right_sp), (24, ref04_Right_sp)], glob := GlobL.G Try.prog, eqs := Plaw04_E, N := 16, fuel := 64, loops := [], joins := [], blocks := [], ovl := [], retA := none, fid := 6, rnd := false, saves := [] }
theorem law04_EntryRights_C : CfgOK Try.prog law04_EntryRights_cfg := ⟨tsOK_of Plaw04_ts, specsL_ok (show SpecsL Try.prog law04_EntryRights_cfg.spec from ⟨law04_awake_ok, ⟨law04_few_ok, ⟨entry_Right_ok, ⟨ref04_Right_ok, trivial⟩⟩⟩⟩), Plaw04_eqs, ovlL_ok (trivial), globsOK_of rfl, freshL_ok (show FreshL Try.prog law04_EntryRights_cfg.fresh from trivial)⟩
theorem law04_EntryRights_S {R : Type} : SubsOK Try.prog (R := R) 0 law04_EntryRights_subs := subsOK_nil _ _
theorem law04_EntryRights_LO {R : Type} : LoopsOK (R := R) (hnd 0 law04_EntryRights_subs) law04_EntryRights_cfg law04_EntryRights_lp Plaw04_body6 := loopsOK_of (l := []) (by kernel_rfl) (trivial)
theorem law04_EntryRights_RG : RngsOK Try.prog law04_EntryRights_cfg Plaw04_body6 := rngs0 (by kernel_rfl)
theorem law04_EntryRights_run : ∀ v, runFn (hnd 0 law04_EntryRights_subs) law04_EntryRights_cfg law04_EntryRights_lp Plaw04_body6 Try.f6.results.toList (HP.st law04_EntryRights_hp v) (decOf law04_EntryRights_hx law04_EntryRights_toY) = law04_EntryRights_f (law04_EntryRights_toX v) := by intro v; kernel_rfl
theorem law04_EntryRights_ok : SpecOK Try.prog 6 law04_EntryRights_sp := specOK_mk (fn := Try.f6) (by kernel_rfl) (by kernel_rfl) (by kernel_rfl) law04_EntryRights_C (by kernel_rfl) (by kernel_rfl) Plaw04_mo (by kernel_rfl) (fun _ => rfl) (d := 0) law04_EntryRights_S law04_EntryRights_LO law04_EntryRights_RG law04_EntryRights_run

noncomputable def law04_EntryFinds_L9_hs : HS := ⟨[(0, .one (.sl .entry)), (1, .one (.str)), (9, .one (.sl .str)), (10, .one (.int .i64))], [], 0⟩
noncomputable def law04_EntryFinds_L9_l {R : Type} : Nat → HS.V law04_EntryFinds_L9_hs → (Ex → St → Option R) → Option R := fun q v K =>
  law04_EntryFinds_L9 v.1.1 v.1.2.2.1 (K .ret { regs := [(4, .v (.one (.bool false)))], mem := [], nx := 0 }) (K (.exit 0) { regs := [(0, .v (.one (.sl .entry v.1.1))), (1, .v (.one (.str v.1.2.1)))], mem := [], nx := 0 }) q v.1.2.2.2.1
noncomputable def law04_EntryFinds_hp : List HV := [.one (.sl .entry), .one (.str)]
noncomputable def law04_EntryFinds_hx : List HV := [.one (.bool)]
noncomputable def law04_EntryFinds_toX : HP.V law04_EntryFinds_hp → (List Entry) × Str := fun v => (v.1, v.2.1)
noncomputable def law04_EntryFinds_toY : HX.V law04_EntryFinds_hx → Bool := fun v => (v)
noncomputable def law04_EntryFinds_ofY : Bool → HX.V law04_EntryFinds_hx := fun y => (y)
noncomputable def law04_EntryFinds_f : (List Entry) × Str → Option (Bool) := fun x => law04_EntryFinds x.1 x.2
noncomputable def law04_EntryFinds_sp : Spec := mkSpec law04_EntryFinds_hp law04_EntryFinds_hx law04_EntryFinds_toX law04_EntryFinds_ofY law04_EntryFinds_f
noncomputable def law04_EntryFinds_lp {R : Type} : List (Nat × Hd R) := [(9, hdOf law04_EntryFinds_L9_hs law04_EntryFinds_L9_l)]
noncomputable def law04_EntryFinds_subs {R : Type} : List (Nat × Inl R) := []
noncomputable def law04_EntryFinds_cfg : Cfg := { T := Plaw04_T, spec := [(21, law04_awake_sp), (22, law04_few_sp), (24, ref04_Right_sp), (25, entry_Find_sp), (26, ref04_Find_sp), (27, entry_Names_sp), (28, ref04_Same_sp), (29, entry_Without_sp), (30, ref04_Without_sp)], glob := GlobL.G Try.prog, eqs := Plaw04_E, N := 81, fuel := 64, loops := [(9, ⟨[0, 1, 9, 10], [], [], 0, [], [], []⟩)], joins := [], blocks := [(0, ⟨[0, 1], [], [], 0, [], [], []⟩)], ovl := [], retA := some ⟨[4], [], [], 0, [], [], []⟩, fid := 7, rnd := false, saves := [] }
theorem law04_EntryFinds_C : CfgOK Try.prog law04_EntryFinds_cfg := ⟨tsOK_of Plaw04_ts, specsL_ok (show SpecsL Try.prog law04_EntryFinds_cfg.spec from ⟨law04_awake_ok, ⟨law04_few_ok, ⟨ref04_Right_ok, ⟨entry_Find_ok, ⟨ref04_Find_ok, ⟨entry_Names_ok, ⟨ref04_Same_ok, ⟨entry_Without_ok, ⟨ref04_Without_ok, trivial⟩⟩⟩⟩⟩⟩⟩⟩⟩), Plaw04_eqs, ovlL_ok (trivial), globsOK_of rfl, freshL_ok (show FreshL Try.prog law04_EntryFinds_cfg.fresh from trivial)⟩
theorem law04_EntryFinds_S {R : Type} : SubsOK Try.prog (R := R) 0 law04_EntryFinds_subs := subsOK_nil _ _
theorem law04_EntryFinds_L9_ok {R : Type} : LoopOK (R := R) (hnd 0 law04_EntryFinds_subs) law04_EntryFinds_cfg law04_EntryFinds_lp (sub [1, 1, 1, 1, 1, 1, 0, 1, 0, 0] Plaw04_body7) (HS.V law04_EntryFinds_L9_hs) (HS.st law04_EntryFinds_L9_hs) (HS.sh law04_EntryFinds_L9_hs) law04_EntryFinds_L9_l (hdOf law04_EntryFinds_L9_hs law04_EntryFinds_L9_l) := loopOK_of law04_EntryFinds_L9_hs law04_EntryFinds_L9_l (fun _ _ => rfl) (by intro q v K; kernel_rfl)
theorem law04_EntryFinds_LO {R : Type} : LoopsOK (R := R) (hnd 0 law04_EntryFinds_subs) law04_EntryFinds_cfg law04_EntryFinds_lp Plaw04_body7 := loopsOK_of (l := [sub [1, 1, 1, 1, 1, 1, 0, 1, 0, 0] Plaw04_body7]) (by kernel_rfl) (loopsL_cons (b := sub [1, 1, 1, 1, 1, 1, 0, 1, 0, 0] Plaw04_body7) (rid := 9) (by kernel_rfl) (by kernel_rfl) law04_EntryFinds_L9_ok (trivial))
theorem law04_EntryFinds_RG : RngsOK Try.prog law04_EntryFinds_cfg Plaw04_body7 := rngs0 (by kernel_rfl)
theorem law04_EntryFinds_run : ∀ v, runFn (hnd 0 law04_EntryFinds_subs) law04_EntryFinds_cfg law04_EntryFinds_lp Plaw04_body7 Try.f7.results.toList (HP.st law04_EntryFinds_hp v) (decOf law04_EntryFinds_hx law04_EntryFinds_toY) = law04_EntryFinds_f (law04_EntryFinds_toX v) := by intro v; kernel_rfl
theorem law04_EntryFinds_ok : SpecOK Try.prog 7 law04_EntryFinds_sp := specOK_mk (fn := Try.f7) (by kernel_rfl) (by kernel_rfl) (by kernel_rfl) law04_EntryFinds_C (by kernel_rfl) (by kernel_rfl) Plaw04_mo (by kernel_rfl) (fun _ => rfl) (d := 0) law04_EntryFinds_S law04_EntryFinds_LO law04_EntryFinds_RG law04_EntryFinds_run

noncomputable def law04_EntryWith_hp : List HV := [.one (.sl .entry), .one (.str), .one (.int .i64)]
noncomputable def law04_EntryWith_hx : List HV := [.one (.bool)]
noncomputable def law04_EntryWith_toX : HP.V law04_EntryWith_hp → (List Entry) × Str × Int := fun v => (v.1, v.2.1, v.2.2.1)
noncomputable def law04_EntryWith_toY : HX.V law04_EntryWith_hx → Bool := fun v => (v)
noncomputable def law04_EntryWith_ofY : Bool → HX.V law04_EntryWith_hx := fun y => (y)
noncomputable def law04_EntryWith_f : (List Entry) × Str × Int → Option (Bool) := fun x => law04_EntryWith x.1 x.2.1 x.2.2
noncomputable def law04_EntryWith_sp : Spec := mkSpec law04_EntryWith_hp law04_EntryWith_hx law04_EntryWith_toX law04_EntryWith_ofY law04_EntryWith_f
noncomputable def law04_EntryWith_lp {R : Type} : List (Nat × Hd R) := []
noncomputable def law04_EntryWith_subs {R : Type} : List (Nat × Inl R) := []
noncomputable def law04_EntryWith_cfg : Cfg := { T := Plaw04_T, spec := [(21, law04_awake_sp), (22, law04_few_sp), (24, ref04_Right_sp), (28, ref04_Same_sp), (31, ref03_May_sp), (32, entry_With_sp), (33, ref04_With_sp)], glob := GlobL.G Try.prog, eqs := Plaw04_E, N := 38, fuel := 64, loops := [], joins := [], blocks := [], ovl := [], retA := none, fid := 8, rnd := false, saves := [] }
theorem law04_EntryWith_C : CfgOK Try.prog law04_EntryWith_cfg := ⟨tsOK_of Plaw04_ts, specsL_ok (show SpecsL Try.prog law04_EntryWith_cfg.spec from ⟨law04_awake_ok, ⟨law04_few_ok, ⟨ref04_Right_ok, ⟨ref04_Same_ok, ⟨ref03_May_ok, ⟨entry_With_ok, ⟨ref04_With_ok, trivial⟩⟩⟩⟩⟩⟩⟩), Plaw04_eqs, ovlL_ok (trivial), globsOK_of rfl, freshL_ok (show FreshL Try.prog law04_EntryWith_cfg.fresh from trivial)⟩
theorem law04_EntryWith_S {R : Type} : SubsOK Try.prog (R := R) 0 law04_EntryWith_subs := subsOK_nil _ _
theorem law04_EntryWith_LO {R : Type} : LoopsOK (R := R) (hnd 0 law04_EntryWith_subs) law04_EntryWith_cfg law04_EntryWith_lp Plaw04_body8 := loopsOK_of (l := []) (by kernel_rfl) (trivial)
theorem law04_EntryWith_RG : RngsOK Try.prog law04_EntryWith_cfg Plaw04_body8 := rngs0 (by kernel_rfl)
theorem law04_EntryWith_run : ∀ v, runFn (hnd 0 law04_EntryWith_subs) law04_EntryWith_cfg law04_EntryWith_lp Plaw04_body8 Try.f8.results.toList (HP.st law04_EntryWith_hp v) (decOf law04_EntryWith_hx law04_EntryWith_toY) = law04_EntryWith_f (law04_EntryWith_toX v) := by intro v; kernel_rfl
theorem law04_EntryWith_ok : SpecOK Try.prog 8 law04_EntryWith_sp := specOK_mk (fn := Try.f8) (by kernel_rfl) (by kernel_rfl) (by kernel_rfl) law04_EntryWith_C (by kernel_rfl) (by kernel_rfl) Plaw04_mo (by kernel_rfl) (fun _ => rfl) (d := 0) law04_EntryWith_S law04_EntryWith_LO law04_EntryWith_RG law04_EntryWith_run

noncomputable def law04_EntrySets_L6_hs : HS := ⟨[(0, .one (.sl .entry)), (1, .one (.sl .byte)), (2, .one (.str)), (7, .one (.sl .entry)), (8, .one (.int .i64)), (9, .one (.int .i64))], [], 0⟩
noncomputable def law04_EntrySets_L6_l {R : Type} : Nat → HS.V law04_EntrySets_L6_hs → (Ex → St → Option R) → Option R := fun q v K =>
  law04_EntrySets_L6 v.1.1 v.1.2.1 v.1.2.2.1 (fun y30 y31 => K (.exit 0) { regs := [(2, .v (.one (.str v.1.2.2.1))), (7, .v (.one (.sl .entry y30))), (8, .v (.one (.int .i64 y31)))], mem := [], nx := 0 }) q v.1.2.2.2.1 v.1.2.2.2.2.1 v.1.2.2.2.2.2.1
noncomputable def law04_EntrySets_hp : List HV := [.one (.sl .entry), .one (.sl .byte), .one (.str)]
noncomputable def law04_EntrySets_hx : List HV := [.one (.bool)]
noncomputable def law04_EntrySets_toX : HP.V law04_EntrySets_hp → (List Entry) × (List UInt8) × Str := fun v => (v.1, v.2.1, v.2.2.1)
noncomputable def law04_EntrySets_toY : HX.V law04_EntrySets_hx → Bool := fun v => (v)
noncomputable def law04_EntrySets_ofY : Bool → HX.V law04_EntrySets_hx := fun y => (y)
noncomputable def law04_EntrySets_f : (List Entry) × (List UInt8) × Str → Option (Bool) := fun x => law04_EntrySets x.1 x.2.1 x.2.2
noncomputable def law04_EntrySets_sp : Spec := mkSpec law04_EntrySets_hp law04_EntrySets_hx law04_EntrySets_toX law04_EntrySets_ofY law04_EntrySets_f
noncomputable def law04_EntrySets_lp {R : Type} : List (Nat × Hd R) := [(6, hdOf law04_EntrySets_L6_hs law04_EntrySets_L6_l)]
noncomputable def law04_EntrySets_subs {R : Type} : List (Nat × Inl R) := []
noncomputable def law04_EntrySets_cfg : Cfg := { T := Plaw04_T, spec := [(21, law04_awake_sp), (22, law04_few_sp), (23, entry_Right_sp), (25, entry_Find_sp), (29, entry_Without_sp), (31, ref03_May_sp), (32, entry_With_sp)], glob := GlobL.G Try.prog, eqs := Plaw04_E, N := 120, fuel := 64, loops := [(6, ⟨[0, 1, 2, 7, 8, 9], [], [], 0, [7], [], []⟩)], joins := [], blocks := [(0, ⟨[2, 7, 8], [], [], 0, [], [], []⟩)], ovl := [], retA := none, fid := 9, rnd := false, saves := [] }
theorem law04_EntrySets_C : CfgOK Try.prog law04_EntrySets_cfg := ⟨tsOK_of Plaw04_ts, specsL_ok (show SpecsL Try.prog law04_EntrySets_cfg.spec from ⟨law04_awake_ok, ⟨law04_few_ok, ⟨entry_Right_ok, ⟨entry_Find_ok, ⟨entry_Without_ok, ⟨ref03_May_ok, ⟨entry_With_ok, trivial⟩⟩⟩⟩⟩⟩⟩), Plaw04_eqs, ovlL_ok (trivial), globsOK_of rfl, freshL_ok (show FreshL Try.prog law04_EntrySets_cfg.fresh from trivial)⟩
theorem law04_EntrySets_S {R : Type} : SubsOK Try.prog (R := R) 0 law04_EntrySets_subs := subsOK_nil _ _
theorem law04_EntrySets_L6_ok {R : Type} : LoopOK (R := R) (hnd 0 law04_EntrySets_subs) law04_EntrySets_cfg law04_EntrySets_lp (sub [1, 1, 1, 1, 0, 1, 0, 0] Plaw04_body9) (HS.V law04_EntrySets_L6_hs) (HS.st law04_EntrySets_L6_hs) (HS.sh law04_EntrySets_L6_hs) law04_EntrySets_L6_l (hdOf law04_EntrySets_L6_hs law04_EntrySets_L6_l) := loopOK_of law04_EntrySets_L6_hs law04_EntrySets_L6_l (fun _ _ => rfl) (by intro q v K; kernel_rfl)
theorem law04_EntrySets_LO {R : Type} : LoopsOK (R := R) (hnd 0 law04_EntrySets_subs) law04_EntrySets_cfg law04_EntrySets_lp Plaw04_body9 := loopsOK_of (l := [sub [1, 1, 1, 1, 0, 1, 0, 0] Plaw04_body9]) (by kernel_rfl) (loopsL_cons (b := sub [1, 1, 1, 1, 0, 1, 0, 0] Plaw04_body9) (rid := 6) (by kernel_rfl) (by kernel_rfl) law04_EntrySets_L6_ok (trivial))
theorem law04_EntrySets_RG : RngsOK Try.prog law04_EntrySets_cfg Plaw04_body9 := rngs0 (by kernel_rfl)
theorem law04_EntrySets_run : ∀ v, runFn (hnd 0 law04_EntrySets_subs) law04_EntrySets_cfg law04_EntrySets_lp Plaw04_body9 Try.f9.results.toList (HP.st law04_EntrySets_hp v) (decOf law04_EntrySets_hx law04_EntrySets_toY) = law04_EntrySets_f (law04_EntrySets_toX v) := by intro v; kernel_rfl
theorem law04_EntrySets_ok : SpecOK Try.prog 9 law04_EntrySets_sp := specOK_mk (fn := Try.f9) (by kernel_rfl) (by kernel_rfl) (by kernel_rfl) law04_EntrySets_C (by kernel_rfl) (by kernel_rfl) Plaw04_mo (by kernel_rfl) (fun _ => rfl) (d := 0) law04_EntrySets_S law04_EntrySets_LO law04_EntrySets_RG law04_EntrySets_run

noncomputable def law04_EntryKeeps_L11_hs : HS := ⟨[(0, .one (.sl .entry)), (1, .one (.str)), (2, .one (.int .i64)), (8, .one (.sub 0)), (9, .one (.own 1)), (10, .one (.own 2)), (11, .one (.int .i64))], [(0, .row .entry), (1, .row .entry), (2, .row .entry)], 3⟩
noncomputable def law04_EntryKeeps_L11_l {R : Type} : Nat → HS.V law04_EntryKeeps_L11_hs → (Ex → St → Option R) → Option R := fun q v K =>
  law04_EntryKeeps_L11 v.1.2.2.2.1.1 v.1.2.2.2.1.2 (K (.exit 0) { regs := [(0, .v (.one (.sl .entry v.1.1))), (1, .v (.one (.str v.1.2.1))), (2, .v (.one (.int .i64 v.1.2.2.1))), (9, .v (.one (.own 1))), (10, .v (.one (.own 2)))], mem := [(1, .row .entry v.2.2.1), (2, .row .entry v.2.2.2.1)], nx := 3 }) q v.1.2.2.2.2.2.2.1 v.2.1
noncomputable def law04_EntryKeeps_hp : List HV := [.one (.sl .entry), .one (.str), .one (.int .i64)]
noncomputable def law04_EntryKeeps_hx : List HV := [.one (.bool)]
noncomputable def law04_EntryKeeps_toX : HP.V law04_EntryKeeps_hp → (List Entry) × Str × Int := fun v => (v.1, v.2.1, v.2.2.1)
noncomputable def law04_EntryKeeps_toY : HX.V law04_EntryKeeps_hx → Bool := fun v => (v)
noncomputable def law04_EntryKeeps_ofY : Bool → HX.V law04_EntryKeeps_hx := fun y => (y)
noncomputable def law04_EntryKeeps_f : (List Entry) × Str × Int → Option (Bool) := fun x => law04_EntryKeeps x.1 x.2.1 x.2.2
noncomputable def law04_EntryKeeps_sp : Spec := mkSpec law04_EntryKeeps_hp law04_EntryKeeps_hx law04_EntryKeeps_toX law04_EntryKeeps_ofY law04_EntryKeeps_f
noncomputable def law04_EntryKeeps_lp {R : Type} : List (Nat × Hd R) := [(11, hdOf law04_EntryKeeps_L11_hs law04_EntryKeeps_L11_l)]
noncomputable def law04_EntryKeeps_subs {R : Type} : List (Nat × Inl R) := []
noncomputable def law04_EntryKeeps_cfg : Cfg := { T := Plaw04_T, spec := [(21, law04_awake_sp), (22, law04_few_sp), (24, ref04_Right_sp), (28, ref04_Same_sp), (30, ref04_Without_sp), (31, ref03_May_sp), (33, ref04_With_sp)], glob := GlobL.G Try.prog, eqs := Plaw04_E, N := 88, fuel := 64, loops := [(11, ⟨[0, 1, 2, 8, 9, 10, 11], [], [0, 1, 2], 3, [], [], []⟩)], joins := [], blocks := [(0, ⟨[0, 1, 2, 9, 10], [], [1, 2], 3, [], [], []⟩)], ovl := [], retA := none, fid := 10, rnd := false, saves := [], fresh := [(29, entry_Without_fr), (32, entry_With_fr)] }
theorem law04_EntryKeeps_C : CfgOK Try.prog law04_EntryKeeps_cfg := ⟨tsOK_of Plaw04_ts, specsL_ok (show SpecsL Try.prog law04_EntryKeeps_cfg.spec from ⟨law04_awake_ok, ⟨law04_few_ok, ⟨ref04_Right_ok, ⟨ref04_Same_ok, ⟨ref04_Without_ok, ⟨ref03_May_ok, ⟨ref04_With_ok, trivial⟩⟩⟩⟩⟩⟩⟩), Plaw04_eqs, ovlL_ok (trivial), globsOK_of rfl, freshL_ok (show FreshL Try.prog law04_EntryKeeps_cfg.fresh from ⟨entry_Without_fresh, ⟨entry_With_fresh, trivial⟩⟩)⟩
theorem law04_EntryKeeps_S {R : Type} : SubsOK Try.prog (R := R) 0 law04_EntryKeeps_subs := subsOK_nil _ _
theorem law04_EntryKeeps_L11_ok {R : Type} : LoopOK (R := R) (hnd 0 law04_EntryKeeps_subs) law04_EntryKeeps_cfg law04_EntryKeeps_lp (sub [1, 1, 1, 1, 1, 1, 1, 1, 0, 1, 0, 0] Plaw04_body10) (HS.V law04_EntryKeeps_L11_hs) (HS.st law04_EntryKeeps_L11_hs) (HS.sh law04_EntryKeeps_L11_hs) law04_EntryKeeps_L11_l (hdOf law04_EntryKeeps_L11_hs law04_EntryKeeps_L11_l) := loopOK_of law04_EntryKeeps_L11_hs law04_EntryKeeps_L11_l (fun _ _ => rfl) (by intro q v K; kernel_rfl)
theorem law04_EntryKeeps_LO {R : Type} : LoopsOK (R := R) (hnd 0 law04_EntryKeeps_subs) law04_EntryKeeps_cfg law04_EntryKeeps_lp Plaw04_body10 := loopsOK_of (l := [sub [1, 1, 1, 1, 1, 1, 1, 1, 0, 1, 0, 0] Plaw04_body10]) (by kernel_rfl) (loopsL_cons (b := sub [1, 1, 1, 1, 1, 1, 1, 1, 0, 1, 0, 0] Plaw04_body10) (rid := 11) (by kernel_rfl) (by kernel_rfl) law04_EntryKeeps_L11_ok (trivial))
theorem law04_EntryKeeps_RG : RngsOK Try.prog law04_EntryKeeps_cfg Plaw04_body10 := rngs0 (by kernel_rfl)
theorem law04_EntryKeeps_run : ∀ v, runFn (hnd 0 law04_EntryKeeps_subs) law04_EntryKeeps_cfg law04_EntryKeeps_lp Plaw04_body10 Try.f10.results.toList (HP.st law04_EntryKeeps_hp v) (decOf law04_EntryKeeps_hx law04_EntryKeeps_toY) = law04_EntryKeeps_f (law04_EntryKeeps_toX v) := by intro v; kernel_rfl
theorem law04_EntryKeeps_ok : SpecOK Try.prog 10 law04_EntryKeeps_sp := specOK_mk (fn := Try.f10) (by kernel_rfl) (by kernel_rfl) (by kernel_rfl) law04_EntryKeeps_C (by kernel_rfl) (by kernel_rfl) Plaw04_mo (by kernel_rfl) (fun _ => rfl) (d := 0) law04_EntryKeeps_S law04_EntryKeeps_LO law04_EntryKeeps_RG law04_EntryKeeps_run
end Go.Eng
