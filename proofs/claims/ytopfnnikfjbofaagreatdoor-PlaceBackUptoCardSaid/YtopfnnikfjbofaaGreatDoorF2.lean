/- A part of the proofs of the laws of this seat: the engine that reads the program's code, plain functions, or facts of the program's functions. Conditions: none. -/
import Derived.Test.YtopfnnikfjbofaaGreatDoorF1
import Derived.Test.YtopfnnikfjbofaaGreatDoorP1
set_option linter.unusedSectionVars false
set_option linter.unusedVariables false
set_option linter.unusedSimpArgs false
set_option linter.unnecessarySimpa false
set_option linter.unusedVariables false
set_option maxRecDepth 100000
namespace Go.Eng
open Go Go.Proofs
noncomputable def qaym : List (Nat × TI) := [(3, ⟨false, 1, .one (.int .i64 0), .int .i64⟩), (4, ⟨false, 1, .one (.bool false), .bool⟩), (5, ⟨false, 1, .one (.int .u8 0), .int .u8⟩), (9, ⟨false, 1, .one (.str []), .str⟩), (21, ⟨false, 1, .one (.int .i32 0), .int .i32⟩), (44, ⟨false, 1, .one (.nilf), .other⟩), (84, ⟨false, 1, .one (.clip .str []), .slice .str 9⟩), (101, ⟨true, 3, .agg [.bool false, .clip .str [], .bool false], .struct [(0, 4), (1, 84), (2, 4)]⟩), (160, ⟨true, 256, .agg [.bool false, .bool false, .bool false, .bool false, .bool false, .bool false, .bool false, .bool false, .bool false, .bool false, .bool false, .bool false, .bool false, .bool false, .bool false, .bool false, .bool false, .bool false, .bool false, .bool false, .bool false, .bool false, .bool false, .bool false, .bool false, .bool false, .bool false, .bool false, .bool false, .bool false, .bool false, .bool false, .bool false, .bool false, .bool false, .bool false, .bool false, .bool false, .bool false, .bool false, .bool false, .bool false, .bool false, .bool false, .bool false, .bool false, .bool false, .bool false, .bool false, .bool false, .bool false, .bool false, .bool false, .bool false, .bool false, .bool false, .bool false, .bool false, .bool false, .bool false, .bool false, .bool false, .bool false, .bool false, .bool false, .bool false, .bool false, .bool false, .bool false, .bool false, .bool false, .bool false, .bool false, .bool false, .bool false, .bool false, .bool false, .bool false, .bool false, .bool false, .bool false, .bool false, .bool false, .bool false, .bool false, .bool false, .bool false, .bool false, .bool false, .bool false, .bool false, .bool false, .bool false, .bool false, .bool false, .bool false, .bool false, .bool false, .bool false, .bool false, .bool false, .bool false, .bool false, .bool false, .bool false, .bool false, .bool false, .bool false, .bool false, .bool false, .bool false, .bool false, .bool false, .bool false, .bool false, .bool false, .bool false, .bool false, .bool false, .bool false, .bool false, .bool false, .bool false, .bool false, .bool false, .bool false, .bool false, .bool false, .bool false, .bool false, .bool false, .bool false, .bool false, .bool false, .bool false, .bool false, .bool false, .bool false, .bool false, .bool false, .bool false, .bool false, .bool false, .bool false, .bool false, .bool false, .bool false, .bool false, .bool false, .bool false, .bool false, .bool false, .bool false, .bool false, .bool false, .bool false, .bool false, .bool false, .bool false, .bool false, .bool false, .bool false, .bool false, .bool false, .bool false, .bool false, .bool false, .bool false, .bool false, .bool false, .bool false, .bool false, .bool false, .bool false, .bool false, .bool false, .bool false, .bool false, .bool false, .bool false, .bool false, .bool false, .bool false, .bool false, .bool false, .bool false, .bool false, .bool false, .bool false, .bool false, .bool false, .bool false, .bool false, .bool false, .bool false, .bool false, .bool false, .bool false, .bool false, .bool false, .bool false, .bool false, .bool false, .bool false, .bool false, .bool false, .bool false, .bool false, .bool false, .bool false, .bool false, .bool false, .bool false, .bool false, .bool false, .bool false, .bool false, .bool false, .bool false, .bool false, .bool false, .bool false, .bool false, .bool false, .bool false, .bool false, .bool false, .bool false, .bool false, .bool false, .bool false, .bool false, .bool false, .bool false, .bool false, .bool false, .bool false, .bool false, .bool false, .bool false, .bool false, .bool false, .bool false, .bool false, .bool false, .bool false, .bool false, .bool false, .bool false, .bool false, .bool false, .bool false, .bool false, .bool false, .bool false, .bool false], .array 256 4⟩)]
noncomputable def qayn : List (Nat × List EK) := []
theorem qayo : Tryz.prog.follows .mixedOrders = true := by kernel_rfl
theorem qayp : (qaym.all fun x => tiB Tryz.prog x.1 x.2) = true := by kernel_rfl
theorem qayq {c : Cfg} (h : c.eqs = qayn := by rfl) : EqsOK Tryz.prog c := eqsOK_of (by rw [h]; kernel_rfl)
noncomputable def qayr : Code := match Tryz.f55.body with | some b => b | none => .skip
noncomputable def qays : Code := match Tryz.f78.body with | some b => b | none => .skip
noncomputable def qayt : Code := match Tryz.f79.body with | some b => b | none => .skip
noncomputable def qayu : Code := match Tryz.f85.body with | some b => b | none => .skip
noncomputable def qayv : Code := match Tryz.f86.body with | some b => b | none => .skip
noncomputable def qayw : Code := match Tryz.f87.body with | some b => b | none => .skip
noncomputable def qayx : Code := match Tryz.f88.body with | some b => b | none => .skip
noncomputable def qayy : Code := match Tryz.f89.body with | some b => b | none => .skip
noncomputable def qayz : Code := match Tryz.f90.body with | some b => b | none => .skip
noncomputable def qay0 : Code := match Tryz.f107.body with | some b => b | none => .skip
noncomputable def qay1 : Code := match Tryz.f108.body with | some b => b | none => .skip
noncomputable def qay2 : Code := match Tryz.f110.body with | some b => b | none => .skip
noncomputable def qay3 : Code := match Tryz.f111.body with | some b => b | none => .skip
noncomputable def qay4 : Code := match Tryz.f112.body with | some b => b | none => .skip
noncomputable def qay5 : Code := match Tryz.f114.body with | some b => b | none => .skip
noncomputable def qay6 : Code := match Tryz.f115.body with | some b => b | none => .skip
noncomputable def qay7 : Code := match Tryz.f126.body with | some b => b | none => .skip
noncomputable def qay8 : Code := match Tryz.f127.body with | some b => b | none => .skip
noncomputable def qay9 : Code := match Tryz.f129.body with | some b => b | none => .skip
noncomputable def qaza : Code := match Tryz.f133.body with | some b => b | none => .skip
noncomputable def qazb : Code := match Tryz.f138.body with | some b => b | none => .skip
noncomputable def qazc : Code := match Tryz.f140.body with | some b => b | none => .skip
noncomputable def qazd : Code := match Tryz.f143.body with | some b => b | none => .skip
noncomputable def qaze : Code := match Tryz.f144.body with | some b => b | none => .skip
noncomputable def qazf : Code := match Tryz.f145.body with | some b => b | none => .skip
noncomputable def qazg : Code := match Tryz.f146.body with | some b => b | none => .skip
noncomputable def qazh : Code := match Tryz.f151.body with | some b => b | none => .skip
noncomputable def qazi : Code := match Tryz.f154.body with | some b => b | none => .skip
noncomputable def qazj : Code := match Tryz.f155.body with | some b => b | none => .skip
noncomputable def qazk : List HV := [.one (.sl .str)]
noncomputable def qazl : List HV := [.one (.str)]
noncomputable def qazm : HP.V qazk → (List Str) := fun v => (v.1)
noncomputable def qazn : HX.V qazl → Str := fun v => (v)
noncomputable def qazo : Str → HX.V qazl := fun y => (y)
noncomputable def qazp : (List Str) → Option (Str) := fun x => path_Join x
noncomputable def qazq : Spec := mkSpec qazk qazl qazm qazo qazp
noncomputable def qazr {R : Type} : List (Nat × Hd R) := []
noncomputable def qazs {R : Type} : List (Nat × Inl R) := []
noncomputable def qazt : Cfg := { T := qaym, spec := [(113, strings_Join_sp)], glob := GlobL.G Tryz.prog, eqs := qayn, N := 9, fuel := 64, loops := [], joins := [], blocks := [], ovl := [], retA := none, fid := 87, rnd := false, saves := [] }
theorem qazu : CfgOK Tryz.prog qazt := ⟨tsOK_of qayp, specsL_ok (show SpecsL Tryz.prog qazt.spec from ⟨strings_Join_ok, trivial⟩), qayq, ovlL_ok (trivial), globsOK_of rfl, freshL_ok (show FreshL Tryz.prog qazt.fresh from trivial), specsL_ok (show SpecsL Tryz.prog qazt.gns from trivial)⟩
theorem qazv {R : Type} : SubsOK Tryz.prog (R := R) 0 qazs := subsOK_nil _ _
theorem qazw {R : Type} : LoopsOK (R := R) (hnd 0 qazs) qazt qazr qayw := loopsOK_of (l := []) (by kernel_rfl) (trivial)
theorem qazx : RngsOK Tryz.prog qazt qayw := rngs0 (by kernel_rfl)
theorem qazy : ∀ v, runFn (hnd 0 qazs) qazt qazr qayw Tryz.f87.results.toList (HP.st qazk v) (decOf qazl qazn) = qazp (qazm v) := by intro v; kernel_rfl
theorem qazz : SpecOK Tryz.prog 87 qazq := specOK_mk (fn := Tryz.f87) (by kernel_rfl) (by kernel_rfl) (by kernel_rfl) qazu (by kernel_rfl) (by kernel_rfl) qayo (by kernel_rfl) (fun _ => rfl) (d := 0) qazv qazw qazx qazy
noncomputable def qaz0 : HS := ⟨[(0, .one (.str)), (6, .one (.ptr 1 0)), (8, .one (.int .i64))], [(1, .cells [.boolk true, .boolk false, .boolk false, .boolk false, .boolk false, .boolk false, .boolk false, .boolk false, .boolk false, .boolk false, .boolk false, .boolk false, .boolk false, .boolk false, .boolk false, .boolk false, .boolk false, .boolk false, .boolk false, .boolk false, .boolk false, .boolk false, .boolk false, .boolk false, .boolk false, .boolk false, .boolk false, .boolk false, .boolk false, .boolk false, .boolk false, .boolk false, .boolk false, .boolk false, .boolk false, .boolk false, .boolk false, .boolk false, .boolk false, .boolk false, .boolk false, .boolk false, .boolk false, .boolk false, .boolk false, .boolk false, .boolk false, .boolk true, .boolk false, .boolk false, .boolk false, .boolk false, .boolk false, .boolk false, .boolk false, .boolk false, .boolk false, .boolk false, .boolk false, .boolk false, .boolk false, .boolk false, .boolk false, .boolk false, .boolk false, .boolk false, .boolk false, .boolk false, .boolk false, .boolk false, .boolk false, .boolk false, .boolk false, .boolk false, .boolk false, .boolk false, .boolk false, .boolk false, .boolk false, .boolk false, .boolk false, .boolk false, .boolk false, .boolk false, .boolk false, .boolk false, .boolk false, .boolk false, .boolk false, .boolk false, .boolk false, .boolk false, .boolk false, .boolk false, .boolk false, .boolk false, .boolk false, .boolk false, .boolk false, .boolk false, .boolk false, .boolk false, .boolk false, .boolk false, .boolk false, .boolk false, .boolk false, .boolk false, .boolk false, .boolk false, .boolk false, .boolk false, .boolk false, .boolk false, .boolk false, .boolk false, .boolk false, .boolk false, .boolk false, .boolk false, .boolk false, .boolk false, .boolk false, .boolk false, .boolk false, .boolk false, .boolk false, .boolk false, .boolk false, .boolk false, .boolk false, .boolk false, .boolk false, .boolk false, .boolk false, .boolk false, .boolk false, .boolk false, .boolk false, .boolk false, .boolk false, .boolk false, .boolk false, .boolk false, .boolk false, .boolk false, .boolk false, .boolk false, .boolk false, .boolk false, .boolk false, .boolk false, .boolk false, .boolk false, .boolk false, .boolk false, .boolk false, .boolk false, .boolk false, .boolk false, .boolk false, .boolk false, .boolk false, .boolk false, .boolk false, .boolk false, .boolk false, .boolk false, .boolk false, .boolk false, .boolk false, .boolk false, .boolk false, .boolk false, .boolk false, .boolk false, .boolk false, .boolk false, .boolk false, .boolk false, .boolk false, .boolk false, .boolk false, .boolk false, .boolk false, .boolk false, .boolk false, .boolk false, .boolk false, .boolk false, .boolk false, .boolk false, .boolk false, .boolk false, .boolk false, .boolk false, .boolk false, .boolk false, .boolk false, .boolk false, .boolk false, .boolk false, .boolk false, .boolk false, .boolk false, .boolk false, .boolk false, .boolk false, .boolk false, .boolk false, .boolk false, .boolk false, .boolk false, .boolk false, .boolk false, .boolk false, .boolk false, .boolk false, .boolk false, .boolk false, .boolk false, .boolk false, .boolk false, .boolk false, .boolk false, .boolk false, .boolk false, .boolk false, .boolk false, .boolk false, .boolk false, .boolk false, .boolk false, .boolk false, .boolk false, .boolk false, .boolk false, .boolk false, .boolk false, .boolk false, .boolk false, .boolk false, .boolk false, .boolk false, .boolk false, .boolk false, .boolk false, .boolk false, .boolk false, .boolk false, .boolk false, .boolk false, .boolk false, .boolk false, .boolk false, .boolk false])], 2⟩
noncomputable def qaz1 {R : Type} : Nat → HS.V qaz0 → (Ex → St → Option R) → Option R := fun q v K =>
  strings_ContainsAny_7_L12 v.1.1 (fun y5 => K .ret { regs := [(4, .v (.one (.int .i64 y5)))], mem := [], nx := 0 }) (K (.exit 0) { regs := [], mem := [], nx := 0 }) q v.1.2.2.1
noncomputable def qaz2 : HS := ⟨[(175, .one (.iter 1)), (1000001, .one (.strk ([47, 0] : Str))), (1000009, .one (.int .i64)), (1000045, .one (.iter 0))], [(0, .iter), (1, .iter)], 2⟩
noncomputable def qaz3 {R : Type} : Nat → HS.V qaz2 → (Ex → St → Option R) → Option R := fun q v K =>
  strings_ContainsAny_7_52_L38 v.2.2.1.1 (fun y15 => K .ret { regs := [(4, .v (.one (.int .i64 y15))), (1000001, .v (.one (.str ([47, 0] : Str)))), (1000009, .v (.one (.int .i64 v.1.2.2.1))), (1000045, .v (.one (.iter 0)))], mem := [(0, .iter v.2.1.1 v.2.1.2)], nx := 1 }) (K (.exit 9) { regs := [(1000001, .v (.one (.str ([47, 0] : Str)))), (1000009, .v (.one (.int .i64 v.1.2.2.1))), (1000045, .v (.one (.iter 0)))], mem := [(0, .iter v.2.1.1 v.2.1.2)], nx := 1 }) q v.2.2.1.2
noncomputable def qaz4 : HS := ⟨[(0, .one (.strk ([47, 0] : Str))), (7, .one (.str)), (8, .one (.int .i64)), (9, .one (.int .i64)), (12, .one (.int .i64)), (1000001, .one (.strk ([47, 0] : Str))), (1000009, .one (.int .i64)), (1000045, .one (.iter 0))], [(0, .iter)], 1⟩
noncomputable def qaz5 {R : Type} : Nat → HS.V qaz4 → (Ex → St → Option R) → Option R := fun q v K =>
  strings_ContainsAny_7_52_L12 v.1.2.1 v.1.2.2.1 v.1.2.2.2.1 (K (.exit 3) { regs := [(8, .v (.one (.int .i64 v.1.2.2.1))), (9, .v (.one (.int .i64 v.1.2.2.2.1))), (1000001, .v (.one (.str ([47, 0] : Str)))), (1000009, .v (.one (.int .i64 v.1.2.2.2.2.2.2.1))), (1000045, .v (.one (.iter 0)))], mem := [(0, .iter v.2.1.1 v.2.1.2)], nx := 1 }) q v.1.2.2.2.2.1
noncomputable def qaz6 : HS := ⟨[(0, .one (.strk ([47, 0] : Str))), (7, .one (.str)), (8, .one (.int .i64)), (9, .one (.int .i64)), (1000001, .one (.strk ([47, 0] : Str))), (1000009, .one (.int .i64)), (1000045, .one (.iter 0))], [(0, .iter)], 1⟩
noncomputable def qaz7 {R : Type} : Nat → HS.V qaz6 → (Ex → St → Option R) → Option R := fun q v K =>
  strings_ContainsAny_7_52_L5 v.1.2.1 v.1.2.2.1 v.1.2.2.2.1 (fun y50 => K .ret { regs := [(4, .v (.one (.int .i64 y50))), (1000001, .v (.one (.str ([47, 0] : Str)))), (1000009, .v (.one (.int .i64 v.1.2.2.2.2.2.1))), (1000045, .v (.one (.iter 0)))], mem := [(0, .iter v.2.1.1 v.2.1.2)], nx := 1 }) (K (.exit 1) { regs := [(1000001, .v (.one (.str ([47, 0] : Str)))), (1000009, .v (.one (.int .i64 v.1.2.2.2.2.2.1))), (1000045, .v (.one (.iter 0)))], mem := [(0, .iter v.2.1.1 v.2.1.2)], nx := 1 }) q
noncomputable def qaz8 : HS := ⟨[(1, .one (.strk ([47, 0] : Str))), (45, .one (.iter 0))], [(0, .iter)], 1⟩
noncomputable def qaz9 {R : Type} : Nat → HS.V qaz8 → (Ex → St → Option R) → Option R := fun q v K =>
  strings_ContainsAny_7_L18 v.2.1.1 (fun y66 => K .ret { regs := [(4, .v (.one (.int .i64 y66)))], mem := [], nx := 0 }) (K (.exit 2) { regs := [], mem := [], nx := 0 }) q v.2.1.2
noncomputable def qa0a : List HV := [.one (.str), .one (.strk ([47, 0] : Str))]
noncomputable def qa0b : List HV := [.one (.bool)]
noncomputable def qa0c : HP.V qa0a → Str := fun v => (v.1)
noncomputable def qa0d : HX.V qa0b → Bool := fun v => (v)
noncomputable def qa0e : Bool → HX.V qa0b := fun y => (y)
noncomputable def qa0f : Str → Option (Bool) := fun x => strings_ContainsAny x
noncomputable def qa0g : Spec := mkSpec qa0a qa0b qa0c qa0e qa0f
noncomputable def qa0h {R : Type} : List (Nat × Hd R) := []
noncomputable def qa0i {R : Type} : List (Nat × Inl R) := []
noncomputable def qa0j : Cfg := { T := qaym, spec := [], glob := GlobL.G Tryz.prog, eqs := qayn, N := 5, fuel := 64, loops := [], joins := [], blocks := [], ovl := [], retA := none, fid := 144, rnd := false, saves := [] }
theorem qa0k : CfgOK Tryz.prog qa0j := ⟨tsOK_of qayp, specsL_ok (show SpecsL Tryz.prog qa0j.spec from trivial), qayq, ovlL_ok (trivial), globsOK_of rfl, freshL_ok (show FreshL Tryz.prog qa0j.fresh from trivial), specsL_ok (show SpecsL Tryz.prog qa0j.gns from trivial)⟩
theorem qa0l {R : Type} : SubsOK Tryz.prog (R := R) 1 qa0i := subsOK_nil _ _
theorem qa0m {R : Type} : LoopsOK (R := R) (hnd 1 qa0i) qa0j qa0h qaze := loopsOK_of (l := []) (by kernel_rfl) (trivial)
theorem qa0n : RngsOK Tryz.prog qa0j qaze := rngs0 (by kernel_rfl)
noncomputable def qa0o {R : Type} : Inl R := .mk 144 qa0j qa0h qaze Tryz.f144.results.toList qa0i
noncomputable def qa0p {R : Type} : List (Nat × Hd R) := []
noncomputable def qa0q {R : Type} : List (Nat × Inl R) := []
noncomputable def qa0r : Cfg := { T := qaym, spec := [], glob := GlobL.G Tryz.prog, eqs := qayn, N := 21, fuel := 64, loops := [(2, ⟨[0, 2, 4, 1000000, 1000001], [], [0], 1, [], [], [], []⟩)], joins := [], blocks := [(0, ⟨[2, 1000000, 1000001], [], [0], 1, [], [], [], []⟩)], ovl := [], retA := some ⟨[2, 3, 1000000, 1000001], [], [0], 1, [], [], [], []⟩, fid := 145, rnd := false, saves := [] }
theorem qa0s : CfgOK Tryz.prog qa0r := ⟨tsOK_of qayp, specsL_ok (show SpecsL Tryz.prog qa0r.spec from trivial), qayq, ovlL_ok (trivial), globsOK_of rfl, freshL_ok (show FreshL Tryz.prog qa0r.fresh from trivial), specsL_ok (show SpecsL Tryz.prog qa0r.gns from trivial)⟩
theorem qa0t {R : Type} : SubsOK Tryz.prog (R := R) 1 qa0q := subsOK_nil _ _
theorem qa0u {R : Type} : LoopsOK (R := R) (hnd 1 qa0q) qa0r qa0p qazf := loopsOK_of (l := [sub [1, 0, 1, 0, 0] qazf]) (by kernel_rfl) (loopsL_skip (b := sub [1, 0, 1, 0, 0] qazf) (rid := 2) (by kernel_rfl) (by kernel_rfl) (trivial))
theorem qa0v : RngsOK Tryz.prog qa0r qazf := rngs0 (by kernel_rfl)
noncomputable def qa0w {R : Type} : Inl R := .mk 145 qa0r qa0p qazf Tryz.f145.results.toList qa0q
noncomputable def qa0x {R : Type} : List (Nat × Hd R) := []
noncomputable def qa0y {R : Type} : List (Nat × Inl R) := []
noncomputable def qa0z : Cfg := { T := qaym, spec := [], glob := GlobL.G Tryz.prog, eqs := qayn, N := 10, fuel := 64, loops := [], joins := [], blocks := [], ovl := [], retA := none, fid := 146, rnd := false, saves := [] }
theorem qa00 : CfgOK Tryz.prog qa0z := ⟨tsOK_of qayp, specsL_ok (show SpecsL Tryz.prog qa0z.spec from trivial), qayq, ovlL_ok (trivial), globsOK_of rfl, freshL_ok (show FreshL Tryz.prog qa0z.fresh from trivial), specsL_ok (show SpecsL Tryz.prog qa0z.gns from trivial)⟩
theorem qa01 {R : Type} : SubsOK Tryz.prog (R := R) 1 qa0y := subsOK_nil _ _
theorem qa02 {R : Type} : LoopsOK (R := R) (hnd 1 qa0y) qa0z qa0x qazg := loopsOK_of (l := []) (by kernel_rfl) (trivial)
theorem qa03 : RngsOK Tryz.prog qa0z qazg := rngs0 (by kernel_rfl)
noncomputable def qa04 {R : Type} : Inl R := .mk 146 qa0z qa0x qazg Tryz.f146.results.toList qa0y
noncomputable def qa05 {R : Type} : List (Nat × Hd R) := []
noncomputable def qa06 {R : Type} : List (Nat × Inl R) := []
noncomputable def qa07 : Cfg := { T := qaym, spec := [(158, stringslite_IndexByte_sp)], glob := GlobL.G Tryz.prog, eqs := qayn, N := 8, fuel := 64, loops := [], joins := [], blocks := [], ovl := [], retA := none, fid := 154, rnd := false, saves := [] }
theorem qa08 : CfgOK Tryz.prog qa07 := ⟨tsOK_of qayp, specsL_ok (show SpecsL Tryz.prog qa07.spec from ⟨stringslite_IndexByte_ok, trivial⟩), qayq, ovlL_ok (trivial), globsOK_of rfl, freshL_ok (show FreshL Tryz.prog qa07.fresh from trivial), specsL_ok (show SpecsL Tryz.prog qa07.gns from trivial)⟩
theorem qa09 {R : Type} : SubsOK Tryz.prog (R := R) 0 qa06 := subsOK_nil _ _
theorem qa1a {R : Type} : LoopsOK (R := R) (hnd 0 qa06) qa07 qa05 qazi := loopsOK_of (l := []) (by kernel_rfl) (trivial)
theorem qa1b : RngsOK Tryz.prog qa07 qazi := rngs0 (by kernel_rfl)
noncomputable def qa1c {R : Type} : Inl R := .mk 154 qa07 qa05 qazi Tryz.f154.results.toList qa06
noncomputable def qa1d {R : Type} : List (Nat × Hd R) := []
noncomputable def qa1e {R : Type} : List (Nat × Inl R) := []
noncomputable def qa1f : Cfg := { T := qaym, spec := [], glob := GlobL.G Tryz.prog, eqs := qayn, N := 17, fuel := 64, loops := [], joins := [], blocks := [], ovl := [], retA := none, fid := 155, rnd := false, saves := [] }
theorem qa1g : CfgOK Tryz.prog qa1f := ⟨tsOK_of qayp, specsL_ok (show SpecsL Tryz.prog qa1f.spec from trivial), qayq, ovlL_ok (trivial), globsOK_of rfl, freshL_ok (show FreshL Tryz.prog qa1f.fresh from trivial), specsL_ok (show SpecsL Tryz.prog qa1f.gns from trivial)⟩
theorem qa1h {R : Type} : SubsOK Tryz.prog (R := R) 0 qa1e := subsOK_nil _ _
theorem qa1i {R : Type} : LoopsOK (R := R) (hnd 0 qa1e) qa1f qa1d qazj := loopsOK_of (l := []) (by kernel_rfl) (trivial)
theorem qa1j : RngsOK Tryz.prog qa1f qazj := rngs0 (by kernel_rfl)
noncomputable def qa1k {R : Type} : Inl R := .mk 155 qa1f qa1d qazj Tryz.f155.results.toList qa1e
noncomputable def qa1l {R : Type} : List (Nat × Hd R) := []
noncomputable def qa1m {R : Type} : List (Nat × Inl R) := []
noncomputable def qa1n : Cfg := { T := qaym, spec := [(158, stringslite_IndexByte_sp)], glob := GlobL.G Tryz.prog, eqs := qayn, N := 8, fuel := 64, loops := [], joins := [], blocks := [], ovl := [], retA := none, fid := 154, rnd := false, saves := [] }
theorem qa1o : CfgOK Tryz.prog qa1n := ⟨tsOK_of qayp, specsL_ok (show SpecsL Tryz.prog qa1n.spec from ⟨stringslite_IndexByte_ok, trivial⟩), qayq, ovlL_ok (trivial), globsOK_of rfl, freshL_ok (show FreshL Tryz.prog qa1n.fresh from trivial), specsL_ok (show SpecsL Tryz.prog qa1n.gns from trivial)⟩
theorem qa1p {R : Type} : SubsOK Tryz.prog (R := R) 0 qa1m := subsOK_nil _ _
theorem qa1q {R : Type} : LoopsOK (R := R) (hnd 0 qa1m) qa1n qa1l qazi := loopsOK_of (l := []) (by kernel_rfl) (trivial)
theorem qa1r : RngsOK Tryz.prog qa1n qazi := rngs0 (by kernel_rfl)
noncomputable def qa1s {R : Type} : Inl R := .mk 154 qa1n qa1l qazi Tryz.f154.results.toList qa1m
noncomputable def qa1t {R : Type} : List (Nat × Hd R) := [(38, hdOf qaz2 qaz3), (5, hdOf qaz6 qaz7), (12, hdOf qaz4 qaz5)]
noncomputable def qa1u {R : Type} : List (Nat × Inl R) := [(170, qa1c), (185, qa1k), (41, qa1s)]
noncomputable def qa1v : Cfg := { T := qaym, spec := [], glob := GlobL.G Tryz.prog, eqs := qayn, N := 187, fuel := 64, loops := [(38, ⟨[175, 1000001, 1000009, 1000045], [], [0, 1], 2, [], [], [], []⟩), (12, ⟨[0, 7, 8, 9, 12, 1000001, 1000009, 1000045], [], [0], 1, [], [], [], []⟩), (5, ⟨[0, 7, 8, 9, 1000001, 1000009, 1000045], [], [0], 1, [], [], [], []⟩)], joins := [], blocks := [(9, ⟨[1000001, 1000009, 1000045], [], [0], 1, [], [], [], []⟩), (1, ⟨[1000001, 1000009, 1000045], [], [0], 1, [], [], [], []⟩), (3, ⟨[8, 9, 1000001, 1000009, 1000045], [], [0], 1, [], [], [], []⟩)], ovl := [], retA := some ⟨[4, 1000001, 1000009, 1000045], [], [0], 1, [], [], [], []⟩, fid := 143, rnd := false, saves := [] }
theorem qa1w : CfgOK Tryz.prog qa1v := ⟨tsOK_of qayp, specsL_ok (show SpecsL Tryz.prog qa1v.spec from trivial), qayq, ovlL_ok (trivial), globsOK_of rfl, freshL_ok (show FreshL Tryz.prog qa1v.fresh from trivial), specsL_ok (show SpecsL Tryz.prog qa1v.gns from trivial)⟩
theorem qa1x {R : Type} : SubsOK Tryz.prog (R := R) 1 qa1u := subsOK_cons (fn := Tryz.f154) (by kernel_rfl) (by kernel_rfl) (by kernel_rfl) (by kernel_rfl) (by kernel_rfl) qa08 qa1a qa1b qa09 (subsOK_cons (fn := Tryz.f155) (by kernel_rfl) (by kernel_rfl) (by kernel_rfl) (by kernel_rfl) (by kernel_rfl) qa1g qa1i qa1j qa1h (subsOK_cons (fn := Tryz.f154) (by kernel_rfl) (by kernel_rfl) (by kernel_rfl) (by kernel_rfl) (by kernel_rfl) qa1o qa1q qa1r qa1p (subsOK_nil _ _)))
theorem qa1y {R : Type} : LoopOK (R := R) (hnd 1 qa1u) qa1v qa1t (sub [1, 0, 1, 1, 1, 0, 0, 1, 0, 0] qazd) (HS.V qaz2) (HS.st qaz2) (HS.sh qaz2) qaz3 (hdOf qaz2 qaz3) := loopOK_of qaz2 qaz3 (fun _ _ => rfl) (by intro q v K; kernel_rfl)
theorem qa1z {R : Type} : LoopOK (R := R) (hnd 1 qa1u) qa1v qa1t (sub [1, 0, 1, 1, 1, 1, 1, 1, 0, 1, 1, 1, 1, 0, 0, 0] qazd) (HS.V qaz6) (HS.st qaz6) (HS.sh qaz6) qaz7 (hdOf qaz6 qaz7) := loopOK_of qaz6 qaz7 (fun _ _ => rfl) (by intro q v K; kernel_rfl)
theorem qa10 {R : Type} : LoopOK (R := R) (hnd 1 qa1u) qa1v qa1t (sub [1, 0, 1, 1, 1, 1, 1, 1, 0, 1, 1, 1, 1, 0, 0, 0, 1, 0, 0, 1, 0, 1, 0, 0] qazd) (HS.V qaz4) (HS.st qaz4) (HS.sh qaz4) qaz5 (hdOf qaz4 qaz5) := loopOK_of qaz4 qaz5 (fun _ _ => rfl) (by intro q v K; kernel_rfl)
theorem qa11 {R : Type} : LoopsOK (R := R) (hnd 1 qa1u) qa1v qa1t qazd := loopsOK_of (l := [sub [1, 0, 1, 1, 1, 0, 0, 1, 0, 0] qazd, sub [1, 0, 1, 1, 1, 1, 1, 1, 0, 1, 1, 1, 1, 0, 0, 0] qazd, sub [1, 0, 1, 1, 1, 1, 1, 1, 0, 1, 1, 1, 1, 0, 0, 0, 1, 0, 0, 1, 0, 1, 0, 0] qazd, sub [1, 0, 1, 1, 1, 1, 1, 1, 0, 1, 1, 1, 1, 1, 1, 1, 0, 1, 0, 1, 1, 1, 0, 0] qazd, sub [1, 0, 1, 1, 1, 1, 1, 1, 0, 1, 1, 1, 1, 1, 1, 1, 0, 1, 0, 1, 1, 1, 0, 0, 1, 0, 0, 1, 0, 0, 1, 0, 0] qazd]) (by kernel_rfl) (loopsL_cons (b := sub [1, 0, 1, 1, 1, 0, 0, 1, 0, 0] qazd) (rid := 38) (by kernel_rfl) (by kernel_rfl) qa1y (loopsL_cons (b := sub [1, 0, 1, 1, 1, 1, 1, 1, 0, 1, 1, 1, 1, 0, 0, 0] qazd) (rid := 5) (by kernel_rfl) (by kernel_rfl) qa1z (loopsL_cons (b := sub [1, 0, 1, 1, 1, 1, 1, 1, 0, 1, 1, 1, 1, 0, 0, 0, 1, 0, 0, 1, 0, 1, 0, 0] qazd) (rid := 12) (by kernel_rfl) (by kernel_rfl) qa10 (loopsL_skip (b := sub [1, 0, 1, 1, 1, 1, 1, 1, 0, 1, 1, 1, 1, 1, 1, 1, 0, 1, 0, 1, 1, 1, 0, 0] qazd) (rid := 25) (by kernel_rfl) (by kernel_rfl) (loopsL_skip (b := sub [1, 0, 1, 1, 1, 1, 1, 1, 0, 1, 1, 1, 1, 1, 1, 1, 0, 1, 0, 1, 1, 1, 0, 0, 1, 0, 0, 1, 0, 0, 1, 0, 0] qazd) (rid := 29) (by kernel_rfl) (by kernel_rfl) (trivial))))))
theorem qa12 : RngsOK Tryz.prog qa1v qazd := rngs0 (by kernel_rfl)
noncomputable def qa13 {R : Type} : Inl R := .mk 143 qa1v qa1t qazd Tryz.f143.results.toList qa1u
noncomputable def qa14 {R : Type} : List (Nat × Hd R) := [(12, hdOf qaz0 qaz1), (18, hdOf qaz8 qaz9)]
noncomputable def qa15 {R : Type} : List (Nat × Inl R) := [(26, qa0o), (29, qa0w), (42, qa04), (52, qa13)]
noncomputable def qa16 : Cfg := { T := qaym, spec := [], glob := GlobL.G Tryz.prog, eqs := qayn, N := 55, fuel := 64, loops := [(18, ⟨[1, 45], [], [0], 1, [], [], [], []⟩), (12, ⟨[0, 6, 8], [], [1], 2, [], [], [], []⟩)], joins := [], blocks := [(2, ⟨[], [], [], 0, [], [], [], []⟩), (0, ⟨[], [], [], 0, [], [], [], []⟩)], ovl := [], retA := some ⟨[4], [], [], 0, [], [], [], []⟩, fid := 133, rnd := false, saves := [] }
theorem qa17 : CfgOK Tryz.prog qa16 := ⟨tsOK_of qayp, specsL_ok (show SpecsL Tryz.prog qa16.spec from trivial), qayq, ovlL_ok (trivial), globsOK_of rfl, freshL_ok (show FreshL Tryz.prog qa16.fresh from trivial), specsL_ok (show SpecsL Tryz.prog qa16.gns from trivial)⟩
theorem qa18 {R : Type} : SubsOK Tryz.prog (R := R) 2 qa15 := subsOK_cons (fn := Tryz.f144) (by kernel_rfl) (by kernel_rfl) (by kernel_rfl) (by kernel_rfl) (by kernel_rfl) qa0k qa0m qa0n qa0l (subsOK_cons (fn := Tryz.f145) (by kernel_rfl) (by kernel_rfl) (by kernel_rfl) (by kernel_rfl) (by kernel_rfl) qa0s qa0u qa0v qa0t (subsOK_cons (fn := Tryz.f146) (by kernel_rfl) (by kernel_rfl) (by kernel_rfl) (by kernel_rfl) (by kernel_rfl) qa00 qa02 qa03 qa01 (subsOK_cons (fn := Tryz.f143) (by kernel_rfl) (by kernel_rfl) (by kernel_rfl) (by kernel_rfl) (by kernel_rfl) qa1w qa11 qa12 qa1x (subsOK_nil _ _))))
theorem qa19 {R : Type} : LoopOK (R := R) (hnd 2 qa15) qa16 qa14 (sub [1, 1, 1, 0, 1, 0, 1, 1, 0, 0, 1, 0, 0] qaza) (HS.V qaz0) (HS.st qaz0) (HS.sh qaz0) qaz1 (hdOf qaz0 qaz1) := loopOK_of qaz0 qaz1 (fun _ _ => rfl) (by intro q v K; kernel_rfl)
theorem qa2a {R : Type} : LoopOK (R := R) (hnd 2 qa15) qa16 qa14 (sub [1, 1, 1, 1, 0, 1, 0, 0] qaza) (HS.V qaz8) (HS.st qaz8) (HS.sh qaz8) qaz9 (hdOf qaz8 qaz9) := loopOK_of qaz8 qaz9 (fun _ _ => rfl) (by intro q v K; kernel_rfl)
theorem qa2b {R : Type} : LoopsOK (R := R) (hnd 2 qa15) qa16 qa14 qaza := loopsOK_of (l := [sub [1, 1, 1, 0, 1, 0, 1, 1, 0, 0, 1, 0, 0] qaza, sub [1, 1, 1, 1, 0, 1, 0, 0] qaza]) (by kernel_rfl) (loopsL_cons (b := sub [1, 1, 1, 0, 1, 0, 1, 1, 0, 0, 1, 0, 0] qaza) (rid := 12) (by kernel_rfl) (by kernel_rfl) qa19 (loopsL_cons (b := sub [1, 1, 1, 1, 0, 1, 0, 0] qaza) (rid := 18) (by kernel_rfl) (by kernel_rfl) qa2a (trivial)))
theorem qa2c : RngsOK Tryz.prog qa16 qaza := rngs0 (by kernel_rfl)
noncomputable def qa2d {R : Type} : Inl R := .mk 133 qa16 qa14 qaza Tryz.f133.results.toList qa15
noncomputable def qa2e {R : Type} : List (Nat × Hd R) := []
noncomputable def qa2f {R : Type} : List (Nat × Inl R) := [(7, qa2d)]
noncomputable def qa2g : Cfg := { T := qaym, spec := [], glob := GlobL.G Tryz.prog, eqs := qayn, N := 9, fuel := 64, loops := [], joins := [], blocks := [], ovl := [], retA := none, fid := 115, rnd := false, saves := [] }
theorem qa2h : CfgOK Tryz.prog qa2g := ⟨tsOK_of qayp, specsL_ok (show SpecsL Tryz.prog qa2g.spec from trivial), qayq, ovlL_ok (trivial), globsOK_of rfl, freshL_ok (show FreshL Tryz.prog qa2g.fresh from trivial), specsL_ok (show SpecsL Tryz.prog qa2g.gns from trivial)⟩
theorem qa2i {R : Type} : SubsOK Tryz.prog (R := R) 3 qa2f := subsOK_cons (fn := Tryz.f133) (by kernel_rfl) (by kernel_rfl) (by kernel_rfl) (by kernel_rfl) (by kernel_rfl) qa17 qa2b qa2c qa18 (subsOK_nil _ _)
theorem qa2j {R : Type} : LoopsOK (R := R) (hnd 3 qa2f) qa2g qa2e qay6 := loopsOK_of (l := []) (by kernel_rfl) (trivial)
theorem qa2k : RngsOK Tryz.prog qa2g qay6 := rngs0 (by kernel_rfl)
theorem qa2l : ∀ v, runFn (hnd 3 qa2f) qa2g qa2e qay6 Tryz.f115.results.toList (HP.st qa0a v) (decOf qa0b qa0d) = qa0f (qa0c v) := by intro v; kernel_rfl
theorem qa2m : SpecOK Tryz.prog 115 qa0g := specOK_mk (fn := Tryz.f115) (by kernel_rfl) (by kernel_rfl) (by kernel_rfl) qa2h (by kernel_rfl) (by kernel_rfl) qayo (by kernel_rfl) (fun _ => rfl) (d := 3) qa2i qa2j qa2k qa2l
noncomputable def qa2n : List HV := [.one (.str)]
noncomputable def qa2o : List HV := [.one (.bool)]
noncomputable def qa2p : HP.V qa2n → Str := fun v => (v.1)
noncomputable def qa2q : HX.V qa2o → Bool := fun v => (v)
noncomputable def qa2r : Bool → HX.V qa2o := fun y => (y)
noncomputable def qa2s : Str → Option (Bool) := fun x => path_May x
noncomputable def qa2t : Spec := mkSpec qa2n qa2o qa2p qa2r qa2s
noncomputable def qa2u {R : Type} : List (Nat × Hd R) := []
noncomputable def qa2v {R : Type} : List (Nat × Inl R) := []
noncomputable def qa2w : Cfg := { T := qaym, spec := [(115, qa0g)], glob := GlobL.G Tryz.prog, eqs := qayn, N := 23, fuel := 64, loops := [], joins := [], blocks := [], ovl := [], retA := none, fid := 90, rnd := false, saves := [] }
theorem qa2x : CfgOK Tryz.prog qa2w := ⟨tsOK_of qayp, specsL_ok (show SpecsL Tryz.prog qa2w.spec from ⟨qa2m, trivial⟩), qayq, ovlL_ok (trivial), globsOK_of rfl, freshL_ok (show FreshL Tryz.prog qa2w.fresh from trivial), specsL_ok (show SpecsL Tryz.prog qa2w.gns from trivial)⟩
theorem qa2y {R : Type} : SubsOK Tryz.prog (R := R) 0 qa2v := subsOK_nil _ _
theorem qa2z {R : Type} : LoopsOK (R := R) (hnd 0 qa2v) qa2w qa2u qayz := loopsOK_of (l := []) (by kernel_rfl) (trivial)
theorem qa20 : RngsOK Tryz.prog qa2w qayz := rngs0 (by kernel_rfl)
theorem qa21 : ∀ v, runFn (hnd 0 qa2v) qa2w qa2u qayz Tryz.f90.results.toList (HP.st qa2n v) (decOf qa2o qa2q) = qa2s (qa2p v) := by intro v; kernel_rfl
theorem qa22 : SpecOK Tryz.prog 90 qa2t := specOK_mk (fn := Tryz.f90) (by kernel_rfl) (by kernel_rfl) (by kernel_rfl) qa2x (by kernel_rfl) (by kernel_rfl) qayo (by kernel_rfl) (fun _ => rfl) (d := 0) qa2y qa2z qa20 qa21
noncomputable def qa23 : HS := ⟨[(0, .one (.yld 9)), (1, .one (.ptr 6 0)), (2, .one (.ptr 5 0)), (3, .one (.ptr 7 0)), (2000002, .one (.ptr 2 0)), (4000000, .one (.str))], [(2, .cells [.own 10]), (3, .loop true 13 110 3 [(2, .one (.ptr 2 0))]), (4, .cells [.yld 3]), (5, .cells [.str]), (6, .cells [.strk ([47] : Str)]), (7, .cells [.intk .i64 (0 : Int)]), (9, .loop true 15 111 3 [(2, .one (.ptr 4 0))]), (10, .row .str)], 11⟩
noncomputable def qa24 {R : Type} : Nat → HS.V qa23 → (Ex → St → Option R) → Option R := fun q v K =>
  path_Plain_7_4_1000003_1000003_L5 (fun y6 y7 => K (.exit 2) { regs := [(0, .v (.one (.yld 9))), (2, .v (.one (.ptr 5 0))), (2000002, .v (.one (.ptr 2 0))), (4000000, .v (.one (.str v.1.2.2.2.2.2.1)))], mem := [(2, .cells [.own 10]), (3, .loop true 13 110 3 [(2, .v (.one (.ptr 2 0)))]), (4, .cells [.yld 3]), (5, .cells [.str y6]), (9, .loop true 15 111 3 [(2, .v (.one (.ptr 4 0)))]), (10, .row .str y7)], nx := 11 }) q v.2.2.2.2.1.1 v.2.2.2.2.2.2.2.2.1
noncomputable def qa25 : HS := ⟨[(0, .one (.own 10)), (1, .one (.fnc 89)), (7, .one (.int .i64)), (8, .one (.int .i64)), (2000004, .one (.own 10)), (2000012, .one (.bool))], [(10, .row .str)], 11⟩
noncomputable def qa26 {R : Type} : Nat → HS.V qa25 → (Ex → St → Option R) → Option R := fun q v K =>
  path_Plain_14_7_L2 v.1.2.2.1 v.2.1 (fun y17 => K .ret { regs := [(4, .v (.one (.int .i64 y17))), (2000004, .v (.one (.own 10))), (2000012, .v (.one (.bool v.1.2.2.2.2.2.1)))], mem := [(10, .row .str v.2.1)], nx := 11 }) (K (.exit 0) { regs := [(2000004, .v (.one (.own 10))), (2000012, .v (.one (.bool v.1.2.2.2.2.2.1)))], mem := [(10, .row .str v.2.1)], nx := 11 }) q v.1.2.2.2.1
noncomputable def qa27 : List HV := [.one (.str)]
noncomputable def qa28 : List HV := [.one (.sl .str), .one (.bool)]
noncomputable def qa29 : HP.V qa27 → Str := fun v => (v.1)
noncomputable def qa3a : HX.V qa28 → (List Str) × Bool := fun v => (v.1, v.2)
noncomputable def qa3b : (List Str) × Bool → HX.V qa28 := fun y => (y.1, y.2)
noncomputable def qa3c : Str → Option ((List Str) × Bool) := fun x => path_Plain x
noncomputable def qa3d : Spec := mkSpec qa27 qa28 qa29 qa3b qa3c
noncomputable def qa3e {R : Type} : List (Nat × Hd R) := []
noncomputable def qa3f {R : Type} : List (Nat × Inl R) := []
noncomputable def qa3g : Cfg := { T := qaym, spec := [(87, qazq)], glob := GlobL.G Tryz.prog, eqs := qayn, N := 4, fuel := 64, loops := [], joins := [], blocks := [], ovl := [], retA := none, fid := 86, rnd := false, saves := [] }
theorem qa3h : CfgOK Tryz.prog qa3g := ⟨tsOK_of qayp, specsL_ok (show SpecsL Tryz.prog qa3g.spec from ⟨qazz, trivial⟩), qayq, ovlL_ok (trivial), globsOK_of rfl, freshL_ok (show FreshL Tryz.prog qa3g.fresh from trivial), specsL_ok (show SpecsL Tryz.prog qa3g.gns from trivial)⟩
theorem qa3i {R : Type} : SubsOK Tryz.prog (R := R) 5 qa3f := subsOK_nil _ _
theorem qa3j {R : Type} : LoopsOK (R := R) (hnd 5 qa3f) qa3g qa3e qayv := loopsOK_of (l := []) (by kernel_rfl) (trivial)
theorem qa3k : RngsOK Tryz.prog qa3g qayv := rngs0 (by kernel_rfl)
noncomputable def qa3l {R : Type} : Inl R := .mk 86 qa3g qa3e qayv Tryz.f86.results.toList qa3f
noncomputable def qa3m {R : Type} : List (Nat × Hd R) := []
noncomputable def qa3n {R : Type} : List (Nat × Inl R) := []
noncomputable def qa3o : Cfg := { T := qaym, spec := [(87, qazq)], glob := GlobL.G Tryz.prog, eqs := qayn, N := 8, fuel := 64, loops := [], joins := [], blocks := [], ovl := [], retA := none, fid := 129, rnd := false, saves := [] }
theorem qa3p : CfgOK Tryz.prog qa3o := ⟨tsOK_of qayp, specsL_ok (show SpecsL Tryz.prog qa3o.spec from ⟨qazz, trivial⟩), qayq, ovlL_ok (trivial), globsOK_of rfl, freshL_ok (show FreshL Tryz.prog qa3o.fresh from trivial), specsL_ok (show SpecsL Tryz.prog qa3o.gns from trivial)⟩
theorem qa3q {R : Type} : SubsOK Tryz.prog (R := R) 1 qa3n := subsOK_nil _ _
theorem qa3r {R : Type} : LoopsOK (R := R) (hnd 1 qa3n) qa3o qa3m qay9 := loopsOK_of (l := []) (by kernel_rfl) (trivial)
theorem qa3s : RngsOK Tryz.prog qa3o qay9 := rngs0 (by kernel_rfl)
noncomputable def qa3t {R : Type} : Inl R := .mk 129 qa3o qa3m qay9 Tryz.f129.results.toList qa3n
noncomputable def qa3u {R : Type} : List (Nat × Hd R) := []
noncomputable def qa3v {R : Type} : List (Nat × Inl R) := [(7, qa3t)]
noncomputable def qa3w : Cfg := { T := qaym, spec := [(87, qazq)], glob := GlobL.G Tryz.prog, eqs := qayn, N := 8, fuel := 64, loops := [], joins := [], blocks := [], ovl := [], retA := none, fid := 112, rnd := false, saves := [] }
theorem qa3x : CfgOK Tryz.prog qa3w := ⟨tsOK_of qayp, specsL_ok (show SpecsL Tryz.prog qa3w.spec from ⟨qazz, trivial⟩), qayq, ovlL_ok (trivial), globsOK_of rfl, freshL_ok (show FreshL Tryz.prog qa3w.fresh from trivial), specsL_ok (show SpecsL Tryz.prog qa3w.gns from trivial)⟩
theorem qa3y {R : Type} : SubsOK Tryz.prog (R := R) 2 qa3v := subsOK_cons (fn := Tryz.f129) (by kernel_rfl) (by kernel_rfl) (by kernel_rfl) (by kernel_rfl) (by kernel_rfl) qa3p qa3r qa3s qa3q (subsOK_nil _ _)
theorem qa3z {R : Type} : LoopsOK (R := R) (hnd 2 qa3v) qa3w qa3u qay4 := loopsOK_of (l := []) (by kernel_rfl) (trivial)
theorem qa30 : RngsOK Tryz.prog qa3w qay4 := rngs0 (by kernel_rfl)
noncomputable def qa31 {R : Type} : Inl R := .mk 112 qa3w qa3u qay4 Tryz.f112.results.toList qa3v
noncomputable def qa32 {R : Type} : List (Nat × Hd R) := []
noncomputable def qa33 {R : Type} : List (Nat × Inl R) := []
noncomputable def qa34 : Cfg := { T := qaym, spec := [(87, qazq), (158, stringslite_IndexByte_sp)], glob := GlobL.G Tryz.prog, eqs := qayn, N := 143, fuel := 64, loops := [], joins := [], blocks := [], ovl := [], retA := some ⟨[4, 2000000, 2000001, 2000002, 2000003, 4000002, 6000000], [], [2, 3, 4, 5, 6, 7, 9, 10], 11, [], [], [], []⟩, fid := 151, rnd := false, saves := [] }
theorem qa35 : CfgOK Tryz.prog qa34 := ⟨tsOK_of qayp, specsL_ok (show SpecsL Tryz.prog qa34.spec from ⟨qazz, ⟨stringslite_IndexByte_ok, trivial⟩⟩), qayq, ovlL_ok (trivial), globsOK_of rfl, freshL_ok (show FreshL Tryz.prog qa34.fresh from trivial), specsL_ok (show SpecsL Tryz.prog qa34.gns from trivial)⟩
theorem qa36 {R : Type} : SubsOK Tryz.prog (R := R) 0 qa33 := subsOK_nil _ _
theorem qa37 {R : Type} : LoopsOK (R := R) (hnd 0 qa33) qa34 qa32 qazh := loopsOK_of (l := [sub [1, 1, 1, 1, 1, 1, 1, 1, 0, 0, 0] qazh]) (by kernel_rfl) (loopsL_skip (b := sub [1, 1, 1, 1, 1, 1, 1, 1, 0, 0, 0] qazh) (rid := 15) (by kernel_rfl) (by kernel_rfl) (trivial))
theorem qa38 : RngsOK Tryz.prog qa34 qazh := rngs0 (by kernel_rfl)
noncomputable def qa39 {R : Type} : Inl R := .mk 151 qa34 qa32 qazh Tryz.f151.results.toList qa33
noncomputable def qa4a {R : Type} : List (Nat × Hd R) := []
noncomputable def qa4b {R : Type} : List (Nat × Inl R) := [(7, qa39)]
noncomputable def qa4c : Cfg := { T := qaym, spec := [(87, qazq)], glob := GlobL.G Tryz.prog, eqs := qayn, N := 8, fuel := 64, loops := [], joins := [], blocks := [], ovl := [], retA := none, fid := 140, rnd := false, saves := [] }
theorem qa4d : CfgOK Tryz.prog qa4c := ⟨tsOK_of qayp, specsL_ok (show SpecsL Tryz.prog qa4c.spec from ⟨qazz, trivial⟩), qayq, ovlL_ok (trivial), globsOK_of rfl, freshL_ok (show FreshL Tryz.prog qa4c.fresh from trivial), specsL_ok (show SpecsL Tryz.prog qa4c.gns from trivial)⟩
theorem qa4e {R : Type} : SubsOK Tryz.prog (R := R) 1 qa4b := subsOK_cons (fn := Tryz.f151) (by kernel_rfl) (by kernel_rfl) (by kernel_rfl) (by kernel_rfl) (by kernel_rfl) qa35 qa37 qa38 qa36 (subsOK_nil _ _)
theorem qa4f {R : Type} : LoopsOK (R := R) (hnd 1 qa4b) qa4c qa4a qazc := loopsOK_of (l := []) (by kernel_rfl) (trivial)
theorem qa4g : RngsOK Tryz.prog qa4c qazc := rngs0 (by kernel_rfl)
noncomputable def qa4h {R : Type} : Inl R := .mk 140 qa4c qa4a qazc Tryz.f140.results.toList qa4b
noncomputable def qa4i : Code := (rngGet 3 qay2).2.1
noncomputable def qa4j : Code := (rngGet 3 qay2).2.2
noncomputable def qa4k {R : Type} : List (Nat × Hd R) := []
noncomputable def qa4l {R : Type} : List (Nat × Inl R) := []
noncomputable def qa4m : Cfg := { T := qaym, spec := [(87, qazq)], glob := GlobL.G Tryz.prog, eqs := qayn, N := 13, fuel := 64, loops := [], joins := [], blocks := [], ovl := [], retA := none, fid := 110, rnd := true, saves := [] }
theorem qa4n : CfgOK Tryz.prog qa4m := ⟨tsOK_of qayp, specsL_ok (show SpecsL Tryz.prog qa4m.spec from ⟨qazz, trivial⟩), qayq, ovlL_ok (trivial), globsOK_of rfl, freshL_ok (show FreshL Tryz.prog qa4m.fresh from trivial), specsL_ok (show SpecsL Tryz.prog qa4m.gns from trivial)⟩
theorem qa4o {R : Type} : SubsOK Tryz.prog (R := R) 0 qa4l := subsOK_nil _ _
theorem qa4p {R : Type} : LoopsOK (R := R) (hnd 0 qa4l) qa4m qa4k qa4i := loopsOK_of (l := []) (by kernel_rfl) (trivial)
theorem qa4q {R : Type} : LoopsOK (R := R) (hnd 0 qa4l) qa4m qa4k qa4j := loopsOK_of (l := []) (by kernel_rfl) (trivial)
noncomputable def qa4r {R : Type} : Inl R := .rnd 110 3 qa4m qa4k [7] qa4i qa4j qa4l
noncomputable def qa4s : Code := (rngGet 3 qay3).2.1
noncomputable def qa4t : Code := (rngGet 3 qay3).2.2
noncomputable def qa4u {R : Type} : List (Nat × Hd R) := []
noncomputable def qa4v {R : Type} : List (Nat × Inl R) := [(12, qa4r)]
noncomputable def qa4w : Cfg := { T := qaym, spec := [(87, qazq)], glob := GlobL.G Tryz.prog, eqs := qayn, N := 15, fuel := 64, loops := [], joins := [], blocks := [], ovl := [], retA := none, fid := 111, rnd := true, saves := [] }
theorem qa4x : CfgOK Tryz.prog qa4w := ⟨tsOK_of qayp, specsL_ok (show SpecsL Tryz.prog qa4w.spec from ⟨qazz, trivial⟩), qayq, ovlL_ok (trivial), globsOK_of rfl, freshL_ok (show FreshL Tryz.prog qa4w.fresh from trivial), specsL_ok (show SpecsL Tryz.prog qa4w.gns from trivial)⟩
theorem qa4y {R : Type} : SubsOK Tryz.prog (R := R) 1 qa4v := subsOK_round (by kernel_rfl) qa4n qa4p qa4q qa4o (subsOK_nil _ _)
theorem qa4z {R : Type} : LoopsOK (R := R) (hnd 1 qa4v) qa4w qa4u qa4s := loopsOK_of (l := []) (by kernel_rfl) (trivial)
theorem qa40 {R : Type} : LoopsOK (R := R) (hnd 1 qa4v) qa4w qa4u qa4t := loopsOK_of (l := []) (by kernel_rfl) (trivial)
noncomputable def qa41 {R : Type} : Inl R := .rnd 111 3 qa4w qa4u [6] qa4s qa4t qa4v
noncomputable def qa42 : Code := (rngGet 3 qay2).2.1
noncomputable def qa43 : Code := (rngGet 3 qay2).2.2
noncomputable def qa44 {R : Type} : List (Nat × Hd R) := []
noncomputable def qa45 {R : Type} : List (Nat × Inl R) := []
noncomputable def qa46 : Cfg := { T := qaym, spec := [(87, qazq)], glob := GlobL.G Tryz.prog, eqs := qayn, N := 13, fuel := 64, loops := [], joins := [], blocks := [], ovl := [], retA := none, fid := 110, rnd := true, saves := [] }
theorem qa47 : CfgOK Tryz.prog qa46 := ⟨tsOK_of qayp, specsL_ok (show SpecsL Tryz.prog qa46.spec from ⟨qazz, trivial⟩), qayq, ovlL_ok (trivial), globsOK_of rfl, freshL_ok (show FreshL Tryz.prog qa46.fresh from trivial), specsL_ok (show SpecsL Tryz.prog qa46.gns from trivial)⟩
theorem qa48 {R : Type} : SubsOK Tryz.prog (R := R) 0 qa45 := subsOK_nil _ _
theorem qa49 {R : Type} : LoopsOK (R := R) (hnd 0 qa45) qa46 qa44 qa42 := loopsOK_of (l := []) (by kernel_rfl) (trivial)
theorem qa5a {R : Type} : LoopsOK (R := R) (hnd 0 qa45) qa46 qa44 qa43 := loopsOK_of (l := []) (by kernel_rfl) (trivial)
noncomputable def qa5b {R : Type} : Inl R := .rnd 110 3 qa46 qa44 [7] qa42 qa43 qa45
noncomputable def qa5c : Code := (rngGet 3 qay3).2.1
noncomputable def qa5d : Code := (rngGet 3 qay3).2.2
noncomputable def qa5e {R : Type} : List (Nat × Hd R) := []
noncomputable def qa5f {R : Type} : List (Nat × Inl R) := [(12, qa5b)]
noncomputable def qa5g : Cfg := { T := qaym, spec := [(87, qazq)], glob := GlobL.G Tryz.prog, eqs := qayn, N := 15, fuel := 64, loops := [], joins := [], blocks := [], ovl := [], retA := none, fid := 111, rnd := true, saves := [] }
theorem qa5h : CfgOK Tryz.prog qa5g := ⟨tsOK_of qayp, specsL_ok (show SpecsL Tryz.prog qa5g.spec from ⟨qazz, trivial⟩), qayq, ovlL_ok (trivial), globsOK_of rfl, freshL_ok (show FreshL Tryz.prog qa5g.fresh from trivial), specsL_ok (show SpecsL Tryz.prog qa5g.gns from trivial)⟩
theorem qa5i {R : Type} : SubsOK Tryz.prog (R := R) 1 qa5f := subsOK_round (by kernel_rfl) qa47 qa49 qa5a qa48 (subsOK_nil _ _)
theorem qa5j {R : Type} : LoopsOK (R := R) (hnd 1 qa5f) qa5g qa5e qa5c := loopsOK_of (l := []) (by kernel_rfl) (trivial)
theorem qa5k {R : Type} : LoopsOK (R := R) (hnd 1 qa5f) qa5g qa5e qa5d := loopsOK_of (l := []) (by kernel_rfl) (trivial)
noncomputable def qa5l {R : Type} : Inl R := .rnd 111 3 qa5g qa5e [6] qa5c qa5d qa5f
noncomputable def qa5m {R : Type} : List (Nat × Hd R) := [(5, hdOf qa23 qa24)]
noncomputable def qa5n {R : Type} : List (Nat × Inl R) := [(31, qa4h), (41, qa41), (51, qa5l)]
noncomputable def qa5o : Cfg := { T := qaym, spec := [(87, qazq)], glob := GlobL.G Tryz.prog, eqs := qayn, N := 52, fuel := 64, loops := [(5, ⟨[0, 1, 2, 3, 2000002, 4000000], [], [2, 3, 4, 5, 6, 7, 9, 10], 11, [], [], [(2, 0, 10, .str)], []⟩)], joins := [], blocks := [(2, ⟨[0, 2, 2000002, 4000000], [], [2, 3, 4, 5, 9, 10], 11, [], [], [], []⟩)], ovl := [], retA := none, fid := 138, rnd := false, saves := [] }
theorem qa5p : CfgOK Tryz.prog qa5o := ⟨tsOK_of qayp, specsL_ok (show SpecsL Tryz.prog qa5o.spec from ⟨qazz, trivial⟩), qayq, ovlL_ok (trivial), globsOK_of rfl, freshL_ok (show FreshL Tryz.prog qa5o.fresh from trivial), specsL_ok (show SpecsL Tryz.prog qa5o.gns from trivial)⟩
theorem qa5q {R : Type} : SubsOK Tryz.prog (R := R) 2 qa5n := subsOK_cons (fn := Tryz.f140) (by kernel_rfl) (by kernel_rfl) (by kernel_rfl) (by kernel_rfl) (by kernel_rfl) qa4d qa4f qa4g qa4e (subsOK_round (by kernel_rfl) qa4x qa4z qa40 qa4y (subsOK_round (by kernel_rfl) qa5h qa5j qa5k qa5i (subsOK_nil _ _)))
theorem qa5r {R : Type} : LoopOK (R := R) (hnd 2 qa5n) qa5o qa5m (sub [1, 0, 0, 0] qazb) (HS.V qa23) (HS.st qa23) (HS.sh qa23) qa24 (hdOf qa23 qa24) := loopOK_of qa23 qa24 (fun _ _ => rfl) (by intro q v K; kernel_rfl)
theorem qa5s {R : Type} : LoopsOK (R := R) (hnd 2 qa5n) qa5o qa5m qazb := loopsOK_of (l := [sub [0, 1, 0, 0, 0, 0] qazb, sub [1, 0, 0, 0] qazb]) (by kernel_rfl) (loopsL_skip (b := sub [0, 1, 0, 0, 0, 0] qazb) (rid := 1) (by kernel_rfl) (by kernel_rfl) (loopsL_cons (b := sub [1, 0, 0, 0] qazb) (rid := 5) (by kernel_rfl) (by kernel_rfl) qa5r (trivial)))
theorem qa5t : RngsOK Tryz.prog qa5o qazb := rngs0 (by kernel_rfl)
noncomputable def qa5u {R : Type} : Inl R := .mk 138 qa5o qa5m qazb Tryz.f138.results.toList qa5n
noncomputable def qa5v {R : Type} : List (Nat × Hd R) := []
noncomputable def qa5w {R : Type} : List (Nat × Inl R) := [(5, qa31), (1000003, qa5u)]
noncomputable def qa5x : Cfg := { T := qaym, spec := [(87, qazq)], glob := GlobL.G Tryz.prog, eqs := qayn, N := 15, fuel := 64, loops := [], joins := [], blocks := [], ovl := [], retA := none, fid := 111, rnd := false, saves := [(3, [2])] }
theorem qa5y : CfgOK Tryz.prog qa5x := ⟨tsOK_of qayp, specsL_ok (show SpecsL Tryz.prog qa5x.spec from ⟨qazz, trivial⟩), qayq, ovlL_ok (trivial), globsOK_of rfl, freshL_ok (show FreshL Tryz.prog qa5x.fresh from trivial), specsL_ok (show SpecsL Tryz.prog qa5x.gns from trivial)⟩
theorem qa5z {R : Type} : SubsOK Tryz.prog (R := R) 3 qa5w := subsOK_cons (fn := Tryz.f112) (by kernel_rfl) (by kernel_rfl) (by kernel_rfl) (by kernel_rfl) (by kernel_rfl) qa3x qa3z qa30 qa3y (subsOK_cons (fn := Tryz.f138) (by kernel_rfl) (by kernel_rfl) (by kernel_rfl) (by kernel_rfl) (by kernel_rfl) qa5p qa5s qa5t qa5q (subsOK_nil _ _))
theorem qa50 {R : Type} : LoopsOK (R := R) (hnd 3 qa5w) qa5x qa5v qay3 := loopsOK_of (l := []) (by kernel_rfl) (trivial)
theorem qa51 : RngsOK Tryz.prog qa5x qay3 := rngs1 (x := rngGet 3 qay3) (by kernel_rfl) (by kernel_rfl)
noncomputable def qa52 {R : Type} : Inl R := .mk 111 qa5x qa5v qay3 Tryz.f111.results.toList qa5w
noncomputable def qa53 {R : Type} : List (Nat × Hd R) := []
noncomputable def qa54 {R : Type} : List (Nat × Inl R) := [(1000003, qa52)]
noncomputable def qa55 : Cfg := { T := qaym, spec := [(87, qazq)], glob := GlobL.G Tryz.prog, eqs := qayn, N := 13, fuel := 64, loops := [], joins := [], blocks := [], ovl := [], retA := none, fid := 110, rnd := false, saves := [(3, [2])] }
theorem qa56 : CfgOK Tryz.prog qa55 := ⟨tsOK_of qayp, specsL_ok (show SpecsL Tryz.prog qa55.spec from ⟨qazz, trivial⟩), qayq, ovlL_ok (trivial), globsOK_of rfl, freshL_ok (show FreshL Tryz.prog qa55.fresh from trivial), specsL_ok (show SpecsL Tryz.prog qa55.gns from trivial)⟩
theorem qa57 {R : Type} : SubsOK Tryz.prog (R := R) 4 qa54 := subsOK_cons (fn := Tryz.f111) (by kernel_rfl) (by kernel_rfl) (by kernel_rfl) (by kernel_rfl) (by kernel_rfl) qa5y qa50 qa51 qa5z (subsOK_nil _ _)
theorem qa58 {R : Type} : LoopsOK (R := R) (hnd 4 qa54) qa55 qa53 qay2 := loopsOK_of (l := []) (by kernel_rfl) (trivial)
theorem qa59 : RngsOK Tryz.prog qa55 qay2 := rngs1 (x := rngGet 3 qay2) (by kernel_rfl) (by kernel_rfl)
noncomputable def qa6a {R : Type} : Inl R := .mk 110 qa55 qa53 qay2 Tryz.f110.results.toList qa54
noncomputable def qa6b {R : Type} : List (Nat × Hd R) := []
noncomputable def qa6c {R : Type} : List (Nat × Inl R) := [(4, qa6a)]
noncomputable def qa6d : Cfg := { T := qaym, spec := [(87, qazq)], glob := GlobL.G Tryz.prog, eqs := qayn, N := 5, fuel := 64, loops := [], joins := [], blocks := [], ovl := [], retA := none, fid := 85, rnd := false, saves := [] }
theorem qa6e : CfgOK Tryz.prog qa6d := ⟨tsOK_of qayp, specsL_ok (show SpecsL Tryz.prog qa6d.spec from ⟨qazz, trivial⟩), qayq, ovlL_ok (trivial), globsOK_of rfl, freshL_ok (show FreshL Tryz.prog qa6d.fresh from trivial), specsL_ok (show SpecsL Tryz.prog qa6d.gns from trivial)⟩
theorem qa6f {R : Type} : SubsOK Tryz.prog (R := R) 5 qa6c := subsOK_cons (fn := Tryz.f110) (by kernel_rfl) (by kernel_rfl) (by kernel_rfl) (by kernel_rfl) (by kernel_rfl) qa56 qa58 qa59 qa57 (subsOK_nil _ _)
theorem qa6g {R : Type} : LoopsOK (R := R) (hnd 5 qa6c) qa6d qa6b qayu := loopsOK_of (l := []) (by kernel_rfl) (trivial)
theorem qa6h : RngsOK Tryz.prog qa6d qayu := rngs0 (by kernel_rfl)
noncomputable def qa6i {R : Type} : Inl R := .mk 85 qa6d qa6b qayu Tryz.f85.results.toList qa6c
noncomputable def qa6j {R : Type} : List (Nat × Hd R) := []
noncomputable def qa6k {R : Type} : List (Nat × Inl R) := []
noncomputable def qa6l : Cfg := { T := qaym, spec := [(87, qazq), (90, qa2t)], glob := GlobL.G Tryz.prog, eqs := qayn, N := 6, fuel := 64, loops := [], joins := [], blocks := [], ovl := [], retA := none, fid := 89, rnd := false, saves := [] }
theorem qa6m : CfgOK Tryz.prog qa6l := ⟨tsOK_of qayp, specsL_ok (show SpecsL Tryz.prog qa6l.spec from ⟨qazz, ⟨qa22, trivial⟩⟩), qayq, ovlL_ok (trivial), globsOK_of rfl, freshL_ok (show FreshL Tryz.prog qa6l.fresh from trivial), specsL_ok (show SpecsL Tryz.prog qa6l.gns from trivial)⟩
theorem qa6n {R : Type} : SubsOK Tryz.prog (R := R) 3 qa6k := subsOK_nil _ _
theorem qa6o {R : Type} : LoopsOK (R := R) (hnd 3 qa6k) qa6l qa6j qayy := loopsOK_of (l := []) (by kernel_rfl) (trivial)
theorem qa6p : RngsOK Tryz.prog qa6l qayy := rngs0 (by kernel_rfl)
noncomputable def qa6q {R : Type} : Inl R := .mk 89 qa6l qa6j qayy Tryz.f89.results.toList qa6k
noncomputable def qa6r {R : Type} : List (Nat × Hd R) := [(2, hdOf qa25 qa26)]
noncomputable def qa6s {R : Type} : List (Nat × Inl R) := [(16, qa6q)]
noncomputable def qa6t : Cfg := { T := qaym, spec := [(87, qazq)], glob := GlobL.G Tryz.prog, eqs := qayn, N := 19, fuel := 64, loops := [(2, ⟨[0, 1, 7, 8, 2000004, 2000012], [], [10], 11, [], [], [], []⟩)], joins := [], blocks := [(0, ⟨[2000004, 2000012], [], [10], 11, [], [], [], []⟩)], ovl := [], retA := some ⟨[4, 2000004, 2000012], [], [10], 11, [], [], [], []⟩, fid := 114, rnd := false, saves := [] }
theorem qa6u : CfgOK Tryz.prog qa6t := ⟨tsOK_of qayp, specsL_ok (show SpecsL Tryz.prog qa6t.spec from ⟨qazz, trivial⟩), qayq, ovlL_ok (trivial), globsOK_of rfl, freshL_ok (show FreshL Tryz.prog qa6t.fresh from trivial), specsL_ok (show SpecsL Tryz.prog qa6t.gns from trivial)⟩
theorem qa6v {R : Type} : SubsOK Tryz.prog (R := R) 4 qa6s := subsOK_cons (fn := Tryz.f89) (by kernel_rfl) (by kernel_rfl) (by kernel_rfl) (by kernel_rfl) (by kernel_rfl) qa6m qa6o qa6p qa6n (subsOK_nil _ _)
theorem qa6w {R : Type} : LoopOK (R := R) (hnd 4 qa6s) qa6t qa6r (sub [1, 0, 1, 0, 0] qay5) (HS.V qa25) (HS.st qa25) (HS.sh qa25) qa26 (hdOf qa25 qa26) := loopOK_of qa25 qa26 (fun _ _ => rfl) (by intro q v K; kernel_rfl)
theorem qa6x {R : Type} : LoopsOK (R := R) (hnd 4 qa6s) qa6t qa6r qay5 := loopsOK_of (l := [sub [1, 0, 1, 0, 0] qay5]) (by kernel_rfl) (loopsL_cons (b := sub [1, 0, 1, 0, 0] qay5) (rid := 2) (by kernel_rfl) (by kernel_rfl) qa6w (trivial))
theorem qa6y : RngsOK Tryz.prog qa6t qay5 := rngs0 (by kernel_rfl)
noncomputable def qa6z {R : Type} : Inl R := .mk 114 qa6t qa6r qay5 Tryz.f114.results.toList qa6s
noncomputable def qa60 {R : Type} : List (Nat × Hd R) := []
noncomputable def qa61 {R : Type} : List (Nat × Inl R) := [(7, qa6z)]
noncomputable def qa62 : Cfg := { T := qaym, spec := [(87, qazq)], glob := GlobL.G Tryz.prog, eqs := qayn, N := 9, fuel := 64, loops := [], joins := [], blocks := [], ovl := [], retA := none, fid := 88, rnd := false, saves := [] }
theorem qa63 : CfgOK Tryz.prog qa62 := ⟨tsOK_of qayp, specsL_ok (show SpecsL Tryz.prog qa62.spec from ⟨qazz, trivial⟩), qayq, ovlL_ok (trivial), globsOK_of rfl, freshL_ok (show FreshL Tryz.prog qa62.fresh from trivial), specsL_ok (show SpecsL Tryz.prog qa62.gns from trivial)⟩
theorem qa64 {R : Type} : SubsOK Tryz.prog (R := R) 5 qa61 := subsOK_cons (fn := Tryz.f114) (by kernel_rfl) (by kernel_rfl) (by kernel_rfl) (by kernel_rfl) (by kernel_rfl) qa6u qa6x qa6y qa6v (subsOK_nil _ _)
theorem qa65 {R : Type} : LoopsOK (R := R) (hnd 5 qa61) qa62 qa60 qayx := loopsOK_of (l := []) (by kernel_rfl) (trivial)
theorem qa66 : RngsOK Tryz.prog qa62 qayx := rngs0 (by kernel_rfl)
noncomputable def qa67 {R : Type} : Inl R := .mk 88 qa62 qa60 qayx Tryz.f88.results.toList qa61
noncomputable def qa68 {R : Type} : List (Nat × Hd R) := []
noncomputable def qa69 {R : Type} : List (Nat × Inl R) := [(6, qa3l), (7, qa6i), (14, qa67)]
noncomputable def qa7a : Cfg := { T := qaym, spec := [(87, qazq)], glob := GlobL.G Tryz.prog, eqs := qayn, N := 17, fuel := 64, loops := [], joins := [], blocks := [], ovl := [], retA := none, fid := 55, rnd := false, saves := [] }
theorem qa7b : CfgOK Tryz.prog qa7a := ⟨tsOK_of qayp, specsL_ok (show SpecsL Tryz.prog qa7a.spec from ⟨qazz, trivial⟩), qayq, ovlL_ok (trivial), globsOK_of rfl, freshL_ok (show FreshL Tryz.prog qa7a.fresh from trivial), specsL_ok (show SpecsL Tryz.prog qa7a.gns from trivial)⟩
theorem qa7c {R : Type} : SubsOK Tryz.prog (R := R) 6 qa69 := subsOK_cons (fn := Tryz.f86) (by kernel_rfl) (by kernel_rfl) (by kernel_rfl) (by kernel_rfl) (by kernel_rfl) qa3h qa3j qa3k qa3i (subsOK_cons (fn := Tryz.f85) (by kernel_rfl) (by kernel_rfl) (by kernel_rfl) (by kernel_rfl) (by kernel_rfl) qa6e qa6g qa6h qa6f (subsOK_cons (fn := Tryz.f88) (by kernel_rfl) (by kernel_rfl) (by kernel_rfl) (by kernel_rfl) (by kernel_rfl) qa63 qa65 qa66 qa64 (subsOK_nil _ _)))
theorem qa7d {R : Type} : LoopsOK (R := R) (hnd 6 qa69) qa7a qa68 qayr := loopsOK_of (l := []) (by kernel_rfl) (trivial)
theorem qa7e : RngsOK Tryz.prog qa7a qayr := rngs0 (by kernel_rfl)
theorem qa7f : ∀ v, runFn (hnd 6 qa69) qa7a qa68 qayr Tryz.f55.results.toList (HP.st qa27 v) (decOf qa28 qa3a) = qa3c (qa29 v) := by intro v; kernel_rfl
theorem qa7g : SpecOK Tryz.prog 55 qa3d := specOK_mk (fn := Tryz.f55) (by kernel_rfl) (by kernel_rfl) (by kernel_rfl) qa7b (by kernel_rfl) (by kernel_rfl) qayo (by kernel_rfl) (fun _ => rfl) (d := 6) qa7c qa7d qa7e qa7f
noncomputable def qa7h : HS := ⟨[(0, .one (.yld 9)), (1, .one (.ptr 6 0)), (2, .one (.ptr 5 0)), (3, .one (.ptr 7 0)), (2000000, .one (.str)), (2000002, .one (.ptr 0 0))], [(0, .cells [.boolk false]), (3, .loop true 13 78 3 [(2, .one (.ptr 0 0))]), (4, .cells [.yld 3]), (5, .cells [.str]), (6, .cells [.strk ([47] : Str)]), (7, .cells [.intk .i64 (0 : Int)]), (9, .loop true 15 111 3 [(2, .one (.ptr 4 0))])], 10⟩
noncomputable def qa7i {R : Type} : Nat → HS.V qa7h → (Ex → St → Option R) → Option R := fun q v K =>
  path_Long_1000003_1000003_L5 (K .ret { regs := [(2000000, .v (.one (.str v.1.2.2.2.2.1))), (2000002, .v (.one (.ptr 0 0)))], mem := [(0, .cells [.bool true]), (3, .over .ret), (9, .over .ret)], nx := 10 }) (fun y8 => K (.exit 2) { regs := [(0, .v (.one (.yld 9))), (2, .v (.one (.ptr 5 0))), (2000000, .v (.one (.str v.1.2.2.2.2.1))), (2000002, .v (.one (.ptr 0 0)))], mem := [(0, .cells [.bool false]), (3, .loop true 13 78 3 [(2, .v (.one (.ptr 0 0)))]), (4, .cells [.yld 3]), (5, .cells [.str y8]), (9, .loop true 15 111 3 [(2, .v (.one (.ptr 4 0)))])], nx := 10 }) q v.2.2.2.2.1.1
noncomputable def qa7j : List HV := [.one (.str)]
noncomputable def qa7k : List HV := [.one (.bool)]
noncomputable def qa7l : HP.V qa7j → Str := fun v => (v.1)
noncomputable def qa7m : HX.V qa7k → Bool := fun v => (v)
noncomputable def qa7n : Bool → HX.V qa7k := fun y => (y)
noncomputable def qa7o : Str → Option (Bool) := fun x => path_Long x
noncomputable def qa7p : Spec := mkSpec qa7j qa7k qa7l qa7n qa7o
noncomputable def qa7q {R : Type} : List (Nat × Hd R) := []
noncomputable def qa7r {R : Type} : List (Nat × Inl R) := []
noncomputable def qa7s : Cfg := { T := qaym, spec := [], glob := GlobL.G Tryz.prog, eqs := qayn, N := 4, fuel := 64, loops := [], joins := [], blocks := [], ovl := [], retA := none, fid := 86, rnd := false, saves := [] }
theorem qa7t : CfgOK Tryz.prog qa7s := ⟨tsOK_of qayp, specsL_ok (show SpecsL Tryz.prog qa7s.spec from trivial), qayq, ovlL_ok (trivial), globsOK_of rfl, freshL_ok (show FreshL Tryz.prog qa7s.fresh from trivial), specsL_ok (show SpecsL Tryz.prog qa7s.gns from trivial)⟩
theorem qa7u {R : Type} : SubsOK Tryz.prog (R := R) 3 qa7r := subsOK_nil _ _
theorem qa7v {R : Type} : LoopsOK (R := R) (hnd 3 qa7r) qa7s qa7q qayv := loopsOK_of (l := []) (by kernel_rfl) (trivial)
theorem qa7w : RngsOK Tryz.prog qa7s qayv := rngs0 (by kernel_rfl)
noncomputable def qa7x {R : Type} : Inl R := .mk 86 qa7s qa7q qayv Tryz.f86.results.toList qa7r
noncomputable def qa7y {R : Type} : List (Nat × Hd R) := []
noncomputable def qa7z {R : Type} : List (Nat × Inl R) := []
noncomputable def qa70 : Cfg := { T := qaym, spec := [], glob := GlobL.G Tryz.prog, eqs := qayn, N := 8, fuel := 64, loops := [], joins := [], blocks := [], ovl := [], retA := none, fid := 129, rnd := false, saves := [] }
theorem qa71 : CfgOK Tryz.prog qa70 := ⟨tsOK_of qayp, specsL_ok (show SpecsL Tryz.prog qa70.spec from trivial), qayq, ovlL_ok (trivial), globsOK_of rfl, freshL_ok (show FreshL Tryz.prog qa70.fresh from trivial), specsL_ok (show SpecsL Tryz.prog qa70.gns from trivial)⟩
theorem qa72 {R : Type} : SubsOK Tryz.prog (R := R) 1 qa7z := subsOK_nil _ _
theorem qa73 {R : Type} : LoopsOK (R := R) (hnd 1 qa7z) qa70 qa7y qay9 := loopsOK_of (l := []) (by kernel_rfl) (trivial)
theorem qa74 : RngsOK Tryz.prog qa70 qay9 := rngs0 (by kernel_rfl)
noncomputable def qa75 {R : Type} : Inl R := .mk 129 qa70 qa7y qay9 Tryz.f129.results.toList qa7z
noncomputable def qa76 {R : Type} : List (Nat × Hd R) := []
noncomputable def qa77 {R : Type} : List (Nat × Inl R) := [(7, qa75)]
noncomputable def qa78 : Cfg := { T := qaym, spec := [], glob := GlobL.G Tryz.prog, eqs := qayn, N := 8, fuel := 64, loops := [], joins := [], blocks := [], ovl := [], retA := none, fid := 112, rnd := false, saves := [] }
theorem qa79 : CfgOK Tryz.prog qa78 := ⟨tsOK_of qayp, specsL_ok (show SpecsL Tryz.prog qa78.spec from trivial), qayq, ovlL_ok (trivial), globsOK_of rfl, freshL_ok (show FreshL Tryz.prog qa78.fresh from trivial), specsL_ok (show SpecsL Tryz.prog qa78.gns from trivial)⟩
theorem qa8a {R : Type} : SubsOK Tryz.prog (R := R) 2 qa77 := subsOK_cons (fn := Tryz.f129) (by kernel_rfl) (by kernel_rfl) (by kernel_rfl) (by kernel_rfl) (by kernel_rfl) qa71 qa73 qa74 qa72 (subsOK_nil _ _)
theorem qa8b {R : Type} : LoopsOK (R := R) (hnd 2 qa77) qa78 qa76 qay4 := loopsOK_of (l := []) (by kernel_rfl) (trivial)
theorem qa8c : RngsOK Tryz.prog qa78 qay4 := rngs0 (by kernel_rfl)
noncomputable def qa8d {R : Type} : Inl R := .mk 112 qa78 qa76 qay4 Tryz.f112.results.toList qa77
noncomputable def qa8e {R : Type} : List (Nat × Hd R) := []
noncomputable def qa8f {R : Type} : List (Nat × Inl R) := []
noncomputable def qa8g : Cfg := { T := qaym, spec := [(158, stringslite_IndexByte_sp)], glob := GlobL.G Tryz.prog, eqs := qayn, N := 143, fuel := 64, loops := [], joins := [], blocks := [], ovl := [], retA := some ⟨[4, 2000000, 2000001, 2000002, 2000003, 4000000, 4000002], [], [0, 3, 4, 5, 6, 7, 9], 10, [], [], [], []⟩, fid := 151, rnd := false, saves := [] }
theorem qa8h : CfgOK Tryz.prog qa8g := ⟨tsOK_of qayp, specsL_ok (show SpecsL Tryz.prog qa8g.spec from ⟨stringslite_IndexByte_ok, trivial⟩), qayq, ovlL_ok (trivial), globsOK_of rfl, freshL_ok (show FreshL Tryz.prog qa8g.fresh from trivial), specsL_ok (show SpecsL Tryz.prog qa8g.gns from trivial)⟩
theorem qa8i {R : Type} : SubsOK Tryz.prog (R := R) 0 qa8f := subsOK_nil _ _
theorem qa8j {R : Type} : LoopsOK (R := R) (hnd 0 qa8f) qa8g qa8e qazh := loopsOK_of (l := [sub [1, 1, 1, 1, 1, 1, 1, 1, 0, 0, 0] qazh]) (by kernel_rfl) (loopsL_skip (b := sub [1, 1, 1, 1, 1, 1, 1, 1, 0, 0, 0] qazh) (rid := 15) (by kernel_rfl) (by kernel_rfl) (trivial))
theorem qa8k : RngsOK Tryz.prog qa8g qazh := rngs0 (by kernel_rfl)
noncomputable def qa8l {R : Type} : Inl R := .mk 151 qa8g qa8e qazh Tryz.f151.results.toList qa8f
noncomputable def qa8m {R : Type} : List (Nat × Hd R) := []
noncomputable def qa8n {R : Type} : List (Nat × Inl R) := [(7, qa8l)]
noncomputable def qa8o : Cfg := { T := qaym, spec := [], glob := GlobL.G Tryz.prog, eqs := qayn, N := 8, fuel := 64, loops := [], joins := [], blocks := [], ovl := [], retA := none, fid := 140, rnd := false, saves := [] }
theorem qa8p : CfgOK Tryz.prog qa8o := ⟨tsOK_of qayp, specsL_ok (show SpecsL Tryz.prog qa8o.spec from trivial), qayq, ovlL_ok (trivial), globsOK_of rfl, freshL_ok (show FreshL Tryz.prog qa8o.fresh from trivial), specsL_ok (show SpecsL Tryz.prog qa8o.gns from trivial)⟩
theorem qa8q {R : Type} : SubsOK Tryz.prog (R := R) 1 qa8n := subsOK_cons (fn := Tryz.f151) (by kernel_rfl) (by kernel_rfl) (by kernel_rfl) (by kernel_rfl) (by kernel_rfl) qa8h qa8j qa8k qa8i (subsOK_nil _ _)
theorem qa8r {R : Type} : LoopsOK (R := R) (hnd 1 qa8n) qa8o qa8m qazc := loopsOK_of (l := []) (by kernel_rfl) (trivial)
theorem qa8s : RngsOK Tryz.prog qa8o qazc := rngs0 (by kernel_rfl)
noncomputable def qa8t {R : Type} : Inl R := .mk 140 qa8o qa8m qazc Tryz.f140.results.toList qa8n
noncomputable def qa8u : Code := (rngGet 3 qays).2.1
noncomputable def qa8v : Code := (rngGet 3 qays).2.2
noncomputable def qa8w {R : Type} : List (Nat × Hd R) := []
noncomputable def qa8x {R : Type} : List (Nat × Inl R) := []
noncomputable def qa8y : Cfg := { T := qaym, spec := [], glob := GlobL.G Tryz.prog, eqs := qayn, N := 13, fuel := 64, loops := [], joins := [], blocks := [], ovl := [], retA := none, fid := 78, rnd := true, saves := [] }
theorem qa8z : CfgOK Tryz.prog qa8y := ⟨tsOK_of qayp, specsL_ok (show SpecsL Tryz.prog qa8y.spec from trivial), qayq, ovlL_ok (trivial), globsOK_of rfl, freshL_ok (show FreshL Tryz.prog qa8y.fresh from trivial), specsL_ok (show SpecsL Tryz.prog qa8y.gns from trivial)⟩
theorem qa80 {R : Type} : SubsOK Tryz.prog (R := R) 0 qa8x := subsOK_nil _ _
theorem qa81 {R : Type} : LoopsOK (R := R) (hnd 0 qa8x) qa8y qa8w qa8u := loopsOK_of (l := []) (by kernel_rfl) (trivial)
theorem qa82 {R : Type} : LoopsOK (R := R) (hnd 0 qa8x) qa8y qa8w qa8v := loopsOK_of (l := []) (by kernel_rfl) (trivial)
noncomputable def qa83 {R : Type} : Inl R := .rnd 78 3 qa8y qa8w [6] qa8u qa8v qa8x
noncomputable def qa84 : Code := (rngGet 3 qay3).2.1
noncomputable def qa85 : Code := (rngGet 3 qay3).2.2
noncomputable def qa86 {R : Type} : List (Nat × Hd R) := []
noncomputable def qa87 {R : Type} : List (Nat × Inl R) := [(12, qa83)]
noncomputable def qa88 : Cfg := { T := qaym, spec := [], glob := GlobL.G Tryz.prog, eqs := qayn, N := 15, fuel := 64, loops := [], joins := [], blocks := [], ovl := [], retA := none, fid := 111, rnd := true, saves := [] }
theorem qa89 : CfgOK Tryz.prog qa88 := ⟨tsOK_of qayp, specsL_ok (show SpecsL Tryz.prog qa88.spec from trivial), qayq, ovlL_ok (trivial), globsOK_of rfl, freshL_ok (show FreshL Tryz.prog qa88.fresh from trivial), specsL_ok (show SpecsL Tryz.prog qa88.gns from trivial)⟩
theorem qa9a {R : Type} : SubsOK Tryz.prog (R := R) 1 qa87 := subsOK_round (by kernel_rfl) qa8z qa81 qa82 qa80 (subsOK_nil _ _)
theorem qa9b {R : Type} : LoopsOK (R := R) (hnd 1 qa87) qa88 qa86 qa84 := loopsOK_of (l := []) (by kernel_rfl) (trivial)
theorem qa9c {R : Type} : LoopsOK (R := R) (hnd 1 qa87) qa88 qa86 qa85 := loopsOK_of (l := []) (by kernel_rfl) (trivial)
noncomputable def qa9d {R : Type} : Inl R := .rnd 111 3 qa88 qa86 [6] qa84 qa85 qa87
noncomputable def qa9e : Code := (rngGet 3 qays).2.1
noncomputable def qa9f : Code := (rngGet 3 qays).2.2
noncomputable def qa9g {R : Type} : List (Nat × Hd R) := []
noncomputable def qa9h {R : Type} : List (Nat × Inl R) := []
noncomputable def qa9i : Cfg := { T := qaym, spec := [], glob := GlobL.G Tryz.prog, eqs := qayn, N := 13, fuel := 64, loops := [], joins := [], blocks := [], ovl := [], retA := none, fid := 78, rnd := true, saves := [] }
theorem qa9j : CfgOK Tryz.prog qa9i := ⟨tsOK_of qayp, specsL_ok (show SpecsL Tryz.prog qa9i.spec from trivial), qayq, ovlL_ok (trivial), globsOK_of rfl, freshL_ok (show FreshL Tryz.prog qa9i.fresh from trivial), specsL_ok (show SpecsL Tryz.prog qa9i.gns from trivial)⟩
theorem qa9k {R : Type} : SubsOK Tryz.prog (R := R) 0 qa9h := subsOK_nil _ _
theorem qa9l {R : Type} : LoopsOK (R := R) (hnd 0 qa9h) qa9i qa9g qa9e := loopsOK_of (l := []) (by kernel_rfl) (trivial)
theorem qa9m {R : Type} : LoopsOK (R := R) (hnd 0 qa9h) qa9i qa9g qa9f := loopsOK_of (l := []) (by kernel_rfl) (trivial)
noncomputable def qa9n {R : Type} : Inl R := .rnd 78 3 qa9i qa9g [6] qa9e qa9f qa9h
noncomputable def qa9o : Code := (rngGet 3 qay3).2.1
noncomputable def qa9p : Code := (rngGet 3 qay3).2.2
noncomputable def qa9q {R : Type} : List (Nat × Hd R) := []
noncomputable def qa9r {R : Type} : List (Nat × Inl R) := [(12, qa9n)]
noncomputable def qa9s : Cfg := { T := qaym, spec := [], glob := GlobL.G Tryz.prog, eqs := qayn, N := 15, fuel := 64, loops := [], joins := [], blocks := [], ovl := [], retA := none, fid := 111, rnd := true, saves := [] }
theorem qa9t : CfgOK Tryz.prog qa9s := ⟨tsOK_of qayp, specsL_ok (show SpecsL Tryz.prog qa9s.spec from trivial), qayq, ovlL_ok (trivial), globsOK_of rfl, freshL_ok (show FreshL Tryz.prog qa9s.fresh from trivial), specsL_ok (show SpecsL Tryz.prog qa9s.gns from trivial)⟩
theorem qa9u {R : Type} : SubsOK Tryz.prog (R := R) 1 qa9r := subsOK_round (by kernel_rfl) qa9j qa9l qa9m qa9k (subsOK_nil _ _)
theorem qa9v {R : Type} : LoopsOK (R := R) (hnd 1 qa9r) qa9s qa9q qa9o := loopsOK_of (l := []) (by kernel_rfl) (trivial)
theorem qa9w {R : Type} : LoopsOK (R := R) (hnd 1 qa9r) qa9s qa9q qa9p := loopsOK_of (l := []) (by kernel_rfl) (trivial)
noncomputable def qa9x {R : Type} : Inl R := .rnd 111 3 qa9s qa9q [6] qa9o qa9p qa9r
noncomputable def qa9y {R : Type} : List (Nat × Hd R) := [(5, hdOf qa7h qa7i)]
noncomputable def qa9z {R : Type} : List (Nat × Inl R) := [(31, qa8t), (41, qa9d), (51, qa9x)]
noncomputable def qa90 : Cfg := { T := qaym, spec := [], glob := GlobL.G Tryz.prog, eqs := qayn, N := 52, fuel := 64, loops := [(5, ⟨[0, 1, 2, 3, 2000000, 2000002], [], [0, 3, 4, 5, 6, 7, 9], 10, [], [], [], []⟩)], joins := [], blocks := [(2, ⟨[0, 2, 2000000, 2000002], [], [0, 3, 4, 5, 9], 10, [], [], [], []⟩)], ovl := [], retA := some ⟨[2000000, 2000002], [], [0, 3, 9], 10, [], [], [], []⟩, fid := 138, rnd := false, saves := [] }
theorem qa91 : CfgOK Tryz.prog qa90 := ⟨tsOK_of qayp, specsL_ok (show SpecsL Tryz.prog qa90.spec from trivial), qayq, ovlL_ok (trivial), globsOK_of rfl, freshL_ok (show FreshL Tryz.prog qa90.fresh from trivial), specsL_ok (show SpecsL Tryz.prog qa90.gns from trivial)⟩
theorem qa92 {R : Type} : SubsOK Tryz.prog (R := R) 2 qa9z := subsOK_cons (fn := Tryz.f140) (by kernel_rfl) (by kernel_rfl) (by kernel_rfl) (by kernel_rfl) (by kernel_rfl) qa8p qa8r qa8s qa8q (subsOK_round (by kernel_rfl) qa89 qa9b qa9c qa9a (subsOK_round (by kernel_rfl) qa9t qa9v qa9w qa9u (subsOK_nil _ _)))
theorem qa93 {R : Type} : LoopOK (R := R) (hnd 2 qa9z) qa90 qa9y (sub [1, 0, 0, 0] qazb) (HS.V qa7h) (HS.st qa7h) (HS.sh qa7h) qa7i (hdOf qa7h qa7i) := loopOK_of qa7h qa7i (fun _ _ => rfl) (by intro q v K; kernel_rfl)
theorem qa94 {R : Type} : LoopsOK (R := R) (hnd 2 qa9z) qa90 qa9y qazb := loopsOK_of (l := [sub [0, 1, 0, 0, 0, 0] qazb, sub [1, 0, 0, 0] qazb]) (by kernel_rfl) (loopsL_skip (b := sub [0, 1, 0, 0, 0, 0] qazb) (rid := 1) (by kernel_rfl) (by kernel_rfl) (loopsL_cons (b := sub [1, 0, 0, 0] qazb) (rid := 5) (by kernel_rfl) (by kernel_rfl) qa93 (trivial)))
theorem qa95 : RngsOK Tryz.prog qa90 qazb := rngs0 (by kernel_rfl)
noncomputable def qa96 {R : Type} : Inl R := .mk 138 qa90 qa9y qazb Tryz.f138.results.toList qa9z
noncomputable def qa97 {R : Type} : List (Nat × Hd R) := []
noncomputable def qa98 {R : Type} : List (Nat × Inl R) := [(5, qa8d), (1000003, qa96)]
noncomputable def qa99 : Cfg := { T := qaym, spec := [], glob := GlobL.G Tryz.prog, eqs := qayn, N := 15, fuel := 64, loops := [], joins := [], blocks := [], ovl := [], retA := none, fid := 111, rnd := false, saves := [(3, [2])] }
theorem qbaa : CfgOK Tryz.prog qa99 := ⟨tsOK_of qayp, specsL_ok (show SpecsL Tryz.prog qa99.spec from trivial), qayq, ovlL_ok (trivial), globsOK_of rfl, freshL_ok (show FreshL Tryz.prog qa99.fresh from trivial), specsL_ok (show SpecsL Tryz.prog qa99.gns from trivial)⟩
theorem qbab {R : Type} : SubsOK Tryz.prog (R := R) 3 qa98 := subsOK_cons (fn := Tryz.f112) (by kernel_rfl) (by kernel_rfl) (by kernel_rfl) (by kernel_rfl) (by kernel_rfl) qa79 qa8b qa8c qa8a (subsOK_cons (fn := Tryz.f138) (by kernel_rfl) (by kernel_rfl) (by kernel_rfl) (by kernel_rfl) (by kernel_rfl) qa91 qa94 qa95 qa92 (subsOK_nil _ _))
theorem qbac {R : Type} : LoopsOK (R := R) (hnd 3 qa98) qa99 qa97 qay3 := loopsOK_of (l := []) (by kernel_rfl) (trivial)
theorem qbad : RngsOK Tryz.prog qa99 qay3 := rngs1 (x := rngGet 3 qay3) (by kernel_rfl) (by kernel_rfl)
noncomputable def qbae {R : Type} : Inl R := .mk 111 qa99 qa97 qay3 Tryz.f111.results.toList qa98
noncomputable def qbaf {R : Type} : List (Nat × Hd R) := []
noncomputable def qbag {R : Type} : List (Nat × Inl R) := [(5, qa7x), (1000003, qbae)]
noncomputable def qbah : Cfg := { T := qaym, spec := [], glob := GlobL.G Tryz.prog, eqs := qayn, N := 13, fuel := 64, loops := [], joins := [], blocks := [], ovl := [], retA := none, fid := 78, rnd := false, saves := [(3, [2])] }
theorem qbai : CfgOK Tryz.prog qbah := ⟨tsOK_of qayp, specsL_ok (show SpecsL Tryz.prog qbah.spec from trivial), qayq, ovlL_ok (trivial), globsOK_of rfl, freshL_ok (show FreshL Tryz.prog qbah.fresh from trivial), specsL_ok (show SpecsL Tryz.prog qbah.gns from trivial)⟩
theorem qbaj {R : Type} : SubsOK Tryz.prog (R := R) 4 qbag := subsOK_cons (fn := Tryz.f86) (by kernel_rfl) (by kernel_rfl) (by kernel_rfl) (by kernel_rfl) (by kernel_rfl) qa7t qa7v qa7w qa7u (subsOK_cons (fn := Tryz.f111) (by kernel_rfl) (by kernel_rfl) (by kernel_rfl) (by kernel_rfl) (by kernel_rfl) qbaa qbac qbad qbab (subsOK_nil _ _))
theorem qbak {R : Type} : LoopsOK (R := R) (hnd 4 qbag) qbah qbaf qays := loopsOK_of (l := []) (by kernel_rfl) (trivial)
theorem qbal : RngsOK Tryz.prog qbah qays := rngs1 (x := rngGet 3 qays) (by kernel_rfl) (by kernel_rfl)
theorem qbam : ∀ v, runFn (hnd 4 qbag) qbah qbaf qays Tryz.f78.results.toList (HP.st qa7j v) (decOf qa7k qa7m) = qa7o (qa7l v) := by intro v; kernel_rfl
theorem qban : SpecOK Tryz.prog 78 qa7p := specOK_mk (fn := Tryz.f78) (by kernel_rfl) (by kernel_rfl) (by kernel_rfl) qbai (by kernel_rfl) (by kernel_rfl) qayo (by kernel_rfl) (fun _ => rfl) (d := 4) qbaj qbak qbal qbam
noncomputable def qbao : HS := ⟨[(0, .one (.yld 10)), (1, .one (.ptr 7 0)), (2, .one (.ptr 6 0)), (3, .one (.ptr 8 0)), (2000002, .one (.ptr 3 0)), (4000000, .one (.str)), (4000002, .one (.ptr 0 0))], [(0, .cells [.bool, .sl .str, .bool]), (3, .cells [.own 11]), (4, .loop true 13 110 3 [(2, .one (.ptr 3 0))]), (5, .cells [.yld 4]), (6, .cells [.str]), (7, .cells [.strk ([47] : Str)]), (8, .cells [.intk .i64 (0 : Int)]), (10, .loop true 15 111 3 [(2, .one (.ptr 5 0))]), (11, .row .str)], 12⟩
noncomputable def qbap {R : Type} : Nat → HS.V qbao → (Ex → St → Option R) → Option R := fun q v K =>
  path_Read_6_4_1000003_1000003_L5 (fun y8 y9 => K (.exit 2) { regs := [(0, .v (.one (.yld 10))), (2, .v (.one (.ptr 6 0))), (2000002, .v (.one (.ptr 3 0))), (4000000, .v (.one (.str v.1.2.2.2.2.2.1))), (4000002, .v (.one (.ptr 0 0)))], mem := [(0, .cells [.bool ((⟨v.2.1.1, v.2.1.2.1, v.2.1.2.2.1⟩ : Pth).abs), .sl .str ((⟨v.2.1.1, v.2.1.2.1, v.2.1.2.2.1⟩ : Pth).names), .bool ((⟨v.2.1.1, v.2.1.2.1, v.2.1.2.2.1⟩ : Pth).slash)]), (3, .cells [.own 11]), (4, .loop true 13 110 3 [(2, .v (.one (.ptr 3 0)))]), (5, .cells [.yld 4]), (6, .cells [.str y8]), (10, .loop true 15 111 3 [(2, .v (.one (.ptr 5 0)))]), (11, .row .str y9)], nx := 12 }) q v.2.2.2.2.2.1.1 v.2.2.2.2.2.2.2.2.2.1
noncomputable def qbaq : List HV := [.one (.str)]
noncomputable def qbar : List HV := [.agg [.bool, .sl .str, .bool]]
noncomputable def qbas : HP.V qbaq → Str := fun v => (v.1)
noncomputable def qbat : HX.V qbar → Pth := fun v => ((⟨v.1, v.2.1, v.2.2.1⟩ : Pth))
noncomputable def qbau : Pth → HX.V qbar := fun y => ((y.abs, (y.names, (y.slash, ()))))
noncomputable def qbav : Str → Option (Pth) := fun x => path_Read x
noncomputable def qbaw : Spec := mkSpec qbaq qbar qbas qbau qbav
noncomputable def qbax {R : Type} : List (Nat × Hd R) := []
noncomputable def qbay {R : Type} : List (Nat × Inl R) := []
noncomputable def qbaz : Cfg := { T := qaym, spec := [], glob := GlobL.G Tryz.prog, eqs := qayn, N := 4, fuel := 64, loops := [], joins := [], blocks := [], ovl := [], retA := none, fid := 86, rnd := false, saves := [] }
theorem qba0 : CfgOK Tryz.prog qbaz := ⟨tsOK_of qayp, specsL_ok (show SpecsL Tryz.prog qbaz.spec from trivial), qayq, ovlL_ok (trivial), globsOK_of rfl, freshL_ok (show FreshL Tryz.prog qbaz.fresh from trivial), specsL_ok (show SpecsL Tryz.prog qbaz.gns from trivial)⟩
theorem qba1 {R : Type} : SubsOK Tryz.prog (R := R) 5 qbay := subsOK_nil _ _
theorem qba2 {R : Type} : LoopsOK (R := R) (hnd 5 qbay) qbaz qbax qayv := loopsOK_of (l := []) (by kernel_rfl) (trivial)
theorem qba3 : RngsOK Tryz.prog qbaz qayv := rngs0 (by kernel_rfl)
noncomputable def qba4 {R : Type} : Inl R := .mk 86 qbaz qbax qayv Tryz.f86.results.toList qbay
noncomputable def qba5 {R : Type} : List (Nat × Hd R) := []
noncomputable def qba6 {R : Type} : List (Nat × Inl R) := []
noncomputable def qba7 : Cfg := { T := qaym, spec := [], glob := GlobL.G Tryz.prog, eqs := qayn, N := 8, fuel := 64, loops := [], joins := [], blocks := [], ovl := [], retA := none, fid := 129, rnd := false, saves := [] }
theorem qba8 : CfgOK Tryz.prog qba7 := ⟨tsOK_of qayp, specsL_ok (show SpecsL Tryz.prog qba7.spec from trivial), qayq, ovlL_ok (trivial), globsOK_of rfl, freshL_ok (show FreshL Tryz.prog qba7.fresh from trivial), specsL_ok (show SpecsL Tryz.prog qba7.gns from trivial)⟩
theorem qba9 {R : Type} : SubsOK Tryz.prog (R := R) 1 qba6 := subsOK_nil _ _
theorem qbba {R : Type} : LoopsOK (R := R) (hnd 1 qba6) qba7 qba5 qay9 := loopsOK_of (l := []) (by kernel_rfl) (trivial)
theorem qbbb : RngsOK Tryz.prog qba7 qay9 := rngs0 (by kernel_rfl)
noncomputable def qbbc {R : Type} : Inl R := .mk 129 qba7 qba5 qay9 Tryz.f129.results.toList qba6
noncomputable def qbbd {R : Type} : List (Nat × Hd R) := []
noncomputable def qbbe {R : Type} : List (Nat × Inl R) := [(7, qbbc)]
noncomputable def qbbf : Cfg := { T := qaym, spec := [], glob := GlobL.G Tryz.prog, eqs := qayn, N := 8, fuel := 64, loops := [], joins := [], blocks := [], ovl := [], retA := none, fid := 112, rnd := false, saves := [] }
theorem qbbg : CfgOK Tryz.prog qbbf := ⟨tsOK_of qayp, specsL_ok (show SpecsL Tryz.prog qbbf.spec from trivial), qayq, ovlL_ok (trivial), globsOK_of rfl, freshL_ok (show FreshL Tryz.prog qbbf.fresh from trivial), specsL_ok (show SpecsL Tryz.prog qbbf.gns from trivial)⟩
theorem qbbh {R : Type} : SubsOK Tryz.prog (R := R) 2 qbbe := subsOK_cons (fn := Tryz.f129) (by kernel_rfl) (by kernel_rfl) (by kernel_rfl) (by kernel_rfl) (by kernel_rfl) qba8 qbba qbbb qba9 (subsOK_nil _ _)
theorem qbbi {R : Type} : LoopsOK (R := R) (hnd 2 qbbe) qbbf qbbd qay4 := loopsOK_of (l := []) (by kernel_rfl) (trivial)
theorem qbbj : RngsOK Tryz.prog qbbf qay4 := rngs0 (by kernel_rfl)
noncomputable def qbbk {R : Type} : Inl R := .mk 112 qbbf qbbd qay4 Tryz.f112.results.toList qbbe
noncomputable def qbbl {R : Type} : List (Nat × Hd R) := []
noncomputable def qbbm {R : Type} : List (Nat × Inl R) := []
noncomputable def qbbn : Cfg := { T := qaym, spec := [(158, stringslite_IndexByte_sp)], glob := GlobL.G Tryz.prog, eqs := qayn, N := 143, fuel := 64, loops := [], joins := [], blocks := [], ovl := [], retA := some ⟨[4, 2000000, 2000001, 2000002, 2000003, 4000002, 6000000, 6000002], [], [0, 3, 4, 5, 6, 7, 8, 10, 11], 12, [], [], [], []⟩, fid := 151, rnd := false, saves := [] }
theorem qbbo : CfgOK Tryz.prog qbbn := ⟨tsOK_of qayp, specsL_ok (show SpecsL Tryz.prog qbbn.spec from ⟨stringslite_IndexByte_ok, trivial⟩), qayq, ovlL_ok (trivial), globsOK_of rfl, freshL_ok (show FreshL Tryz.prog qbbn.fresh from trivial), specsL_ok (show SpecsL Tryz.prog qbbn.gns from trivial)⟩
theorem qbbp {R : Type} : SubsOK Tryz.prog (R := R) 0 qbbm := subsOK_nil _ _
theorem qbbq {R : Type} : LoopsOK (R := R) (hnd 0 qbbm) qbbn qbbl qazh := loopsOK_of (l := [sub [1, 1, 1, 1, 1, 1, 1, 1, 0, 0, 0] qazh]) (by kernel_rfl) (loopsL_skip (b := sub [1, 1, 1, 1, 1, 1, 1, 1, 0, 0, 0] qazh) (rid := 15) (by kernel_rfl) (by kernel_rfl) (trivial))
theorem qbbr : RngsOK Tryz.prog qbbn qazh := rngs0 (by kernel_rfl)
noncomputable def qbbs {R : Type} : Inl R := .mk 151 qbbn qbbl qazh Tryz.f151.results.toList qbbm
noncomputable def qbbt {R : Type} : List (Nat × Hd R) := []
noncomputable def qbbu {R : Type} : List (Nat × Inl R) := [(7, qbbs)]
noncomputable def qbbv : Cfg := { T := qaym, spec := [], glob := GlobL.G Tryz.prog, eqs := qayn, N := 8, fuel := 64, loops := [], joins := [], blocks := [], ovl := [], retA := none, fid := 140, rnd := false, saves := [] }
theorem qbbw : CfgOK Tryz.prog qbbv := ⟨tsOK_of qayp, specsL_ok (show SpecsL Tryz.prog qbbv.spec from trivial), qayq, ovlL_ok (trivial), globsOK_of rfl, freshL_ok (show FreshL Tryz.prog qbbv.fresh from trivial), specsL_ok (show SpecsL Tryz.prog qbbv.gns from trivial)⟩
theorem qbbx {R : Type} : SubsOK Tryz.prog (R := R) 1 qbbu := subsOK_cons (fn := Tryz.f151) (by kernel_rfl) (by kernel_rfl) (by kernel_rfl) (by kernel_rfl) (by kernel_rfl) qbbo qbbq qbbr qbbp (subsOK_nil _ _)
theorem qbby {R : Type} : LoopsOK (R := R) (hnd 1 qbbu) qbbv qbbt qazc := loopsOK_of (l := []) (by kernel_rfl) (trivial)
theorem qbbz : RngsOK Tryz.prog qbbv qazc := rngs0 (by kernel_rfl)
noncomputable def qbb0 {R : Type} : Inl R := .mk 140 qbbv qbbt qazc Tryz.f140.results.toList qbbu
noncomputable def qbb1 : Code := (rngGet 3 qay2).2.1
noncomputable def qbb2 : Code := (rngGet 3 qay2).2.2
noncomputable def qbb3 {R : Type} : List (Nat × Hd R) := []
noncomputable def qbb4 {R : Type} : List (Nat × Inl R) := []
noncomputable def qbb5 : Cfg := { T := qaym, spec := [], glob := GlobL.G Tryz.prog, eqs := qayn, N := 13, fuel := 64, loops := [], joins := [], blocks := [], ovl := [], retA := none, fid := 110, rnd := true, saves := [] }
theorem qbb6 : CfgOK Tryz.prog qbb5 := ⟨tsOK_of qayp, specsL_ok (show SpecsL Tryz.prog qbb5.spec from trivial), qayq, ovlL_ok (trivial), globsOK_of rfl, freshL_ok (show FreshL Tryz.prog qbb5.fresh from trivial), specsL_ok (show SpecsL Tryz.prog qbb5.gns from trivial)⟩
theorem qbb7 {R : Type} : SubsOK Tryz.prog (R := R) 0 qbb4 := subsOK_nil _ _
theorem qbb8 {R : Type} : LoopsOK (R := R) (hnd 0 qbb4) qbb5 qbb3 qbb1 := loopsOK_of (l := []) (by kernel_rfl) (trivial)
theorem qbb9 {R : Type} : LoopsOK (R := R) (hnd 0 qbb4) qbb5 qbb3 qbb2 := loopsOK_of (l := []) (by kernel_rfl) (trivial)
noncomputable def qbca {R : Type} : Inl R := .rnd 110 3 qbb5 qbb3 [7] qbb1 qbb2 qbb4
noncomputable def qbcb : Code := (rngGet 3 qay3).2.1
noncomputable def qbcc : Code := (rngGet 3 qay3).2.2
noncomputable def qbcd {R : Type} : List (Nat × Hd R) := []
noncomputable def qbce {R : Type} : List (Nat × Inl R) := [(12, qbca)]
noncomputable def qbcf : Cfg := { T := qaym, spec := [], glob := GlobL.G Tryz.prog, eqs := qayn, N := 15, fuel := 64, loops := [], joins := [], blocks := [], ovl := [], retA := none, fid := 111, rnd := true, saves := [] }
theorem qbcg : CfgOK Tryz.prog qbcf := ⟨tsOK_of qayp, specsL_ok (show SpecsL Tryz.prog qbcf.spec from trivial), qayq, ovlL_ok (trivial), globsOK_of rfl, freshL_ok (show FreshL Tryz.prog qbcf.fresh from trivial), specsL_ok (show SpecsL Tryz.prog qbcf.gns from trivial)⟩
theorem qbch {R : Type} : SubsOK Tryz.prog (R := R) 1 qbce := subsOK_round (by kernel_rfl) qbb6 qbb8 qbb9 qbb7 (subsOK_nil _ _)
theorem qbci {R : Type} : LoopsOK (R := R) (hnd 1 qbce) qbcf qbcd qbcb := loopsOK_of (l := []) (by kernel_rfl) (trivial)
theorem qbcj {R : Type} : LoopsOK (R := R) (hnd 1 qbce) qbcf qbcd qbcc := loopsOK_of (l := []) (by kernel_rfl) (trivial)
noncomputable def qbck {R : Type} : Inl R := .rnd 111 3 qbcf qbcd [6] qbcb qbcc qbce
noncomputable def qbcl : Code := (rngGet 3 qay2).2.1
noncomputable def qbcm : Code := (rngGet 3 qay2).2.2
noncomputable def qbcn {R : Type} : List (Nat × Hd R) := []
noncomputable def qbco {R : Type} : List (Nat × Inl R) := []
noncomputable def qbcp : Cfg := { T := qaym, spec := [], glob := GlobL.G Tryz.prog, eqs := qayn, N := 13, fuel := 64, loops := [], joins := [], blocks := [], ovl := [], retA := none, fid := 110, rnd := true, saves := [] }
theorem qbcq : CfgOK Tryz.prog qbcp := ⟨tsOK_of qayp, specsL_ok (show SpecsL Tryz.prog qbcp.spec from trivial), qayq, ovlL_ok (trivial), globsOK_of rfl, freshL_ok (show FreshL Tryz.prog qbcp.fresh from trivial), specsL_ok (show SpecsL Tryz.prog qbcp.gns from trivial)⟩
theorem qbcr {R : Type} : SubsOK Tryz.prog (R := R) 0 qbco := subsOK_nil _ _
theorem qbcs {R : Type} : LoopsOK (R := R) (hnd 0 qbco) qbcp qbcn qbcl := loopsOK_of (l := []) (by kernel_rfl) (trivial)
theorem qbct {R : Type} : LoopsOK (R := R) (hnd 0 qbco) qbcp qbcn qbcm := loopsOK_of (l := []) (by kernel_rfl) (trivial)
noncomputable def qbcu {R : Type} : Inl R := .rnd 110 3 qbcp qbcn [7] qbcl qbcm qbco
noncomputable def qbcv : Code := (rngGet 3 qay3).2.1
noncomputable def qbcw : Code := (rngGet 3 qay3).2.2
noncomputable def qbcx {R : Type} : List (Nat × Hd R) := []
noncomputable def qbcy {R : Type} : List (Nat × Inl R) := [(12, qbcu)]
noncomputable def qbcz : Cfg := { T := qaym, spec := [], glob := GlobL.G Tryz.prog, eqs := qayn, N := 15, fuel := 64, loops := [], joins := [], blocks := [], ovl := [], retA := none, fid := 111, rnd := true, saves := [] }
theorem qbc0 : CfgOK Tryz.prog qbcz := ⟨tsOK_of qayp, specsL_ok (show SpecsL Tryz.prog qbcz.spec from trivial), qayq, ovlL_ok (trivial), globsOK_of rfl, freshL_ok (show FreshL Tryz.prog qbcz.fresh from trivial), specsL_ok (show SpecsL Tryz.prog qbcz.gns from trivial)⟩
theorem qbc1 {R : Type} : SubsOK Tryz.prog (R := R) 1 qbcy := subsOK_round (by kernel_rfl) qbcq qbcs qbct qbcr (subsOK_nil _ _)
theorem qbc2 {R : Type} : LoopsOK (R := R) (hnd 1 qbcy) qbcz qbcx qbcv := loopsOK_of (l := []) (by kernel_rfl) (trivial)
theorem qbc3 {R : Type} : LoopsOK (R := R) (hnd 1 qbcy) qbcz qbcx qbcw := loopsOK_of (l := []) (by kernel_rfl) (trivial)
noncomputable def qbc4 {R : Type} : Inl R := .rnd 111 3 qbcz qbcx [6] qbcv qbcw qbcy
noncomputable def qbc5 {R : Type} : List (Nat × Hd R) := [(5, hdOf qbao qbap)]
noncomputable def qbc6 {R : Type} : List (Nat × Inl R) := [(31, qbb0), (41, qbck), (51, qbc4)]
noncomputable def qbc7 : Cfg := { T := qaym, spec := [], glob := GlobL.G Tryz.prog, eqs := qayn, N := 52, fuel := 64, loops := [(5, ⟨[0, 1, 2, 3, 2000002, 4000000, 4000002], [], [0, 3, 4, 5, 6, 7, 8, 10, 11], 12, [], [0], [(3, 0, 11, .str)], []⟩)], joins := [], blocks := [(2, ⟨[0, 2, 2000002, 4000000, 4000002], [], [0, 3, 4, 5, 6, 10, 11], 12, [], [], [], []⟩)], ovl := [], retA := none, fid := 138, rnd := false, saves := [] }
theorem qbc8 : CfgOK Tryz.prog qbc7 := ⟨tsOK_of qayp, specsL_ok (show SpecsL Tryz.prog qbc7.spec from trivial), qayq, ovlL_ok (trivial), globsOK_of rfl, freshL_ok (show FreshL Tryz.prog qbc7.fresh from trivial), specsL_ok (show SpecsL Tryz.prog qbc7.gns from trivial)⟩
theorem qbc9 {R : Type} : SubsOK Tryz.prog (R := R) 2 qbc6 := subsOK_cons (fn := Tryz.f140) (by kernel_rfl) (by kernel_rfl) (by kernel_rfl) (by kernel_rfl) (by kernel_rfl) qbbw qbby qbbz qbbx (subsOK_round (by kernel_rfl) qbcg qbci qbcj qbch (subsOK_round (by kernel_rfl) qbc0 qbc2 qbc3 qbc1 (subsOK_nil _ _)))
theorem qbda {R : Type} : LoopOK (R := R) (hnd 2 qbc6) qbc7 qbc5 (sub [1, 0, 0, 0] qazb) (HS.V qbao) (HS.st qbao) (HS.sh qbao) qbap (hdOf qbao qbap) := loopOK_of qbao qbap (fun _ _ => rfl) (by intro q v K; kernel_rfl)
theorem qbdb {R : Type} : LoopsOK (R := R) (hnd 2 qbc6) qbc7 qbc5 qazb := loopsOK_of (l := [sub [0, 1, 0, 0, 0, 0] qazb, sub [1, 0, 0, 0] qazb]) (by kernel_rfl) (loopsL_skip (b := sub [0, 1, 0, 0, 0, 0] qazb) (rid := 1) (by kernel_rfl) (by kernel_rfl) (loopsL_cons (b := sub [1, 0, 0, 0] qazb) (rid := 5) (by kernel_rfl) (by kernel_rfl) qbda (trivial)))
theorem qbdc : RngsOK Tryz.prog qbc7 qazb := rngs0 (by kernel_rfl)
noncomputable def qbdd {R : Type} : Inl R := .mk 138 qbc7 qbc5 qazb Tryz.f138.results.toList qbc6
noncomputable def qbde {R : Type} : List (Nat × Hd R) := []
noncomputable def qbdf {R : Type} : List (Nat × Inl R) := [(5, qbbk), (1000003, qbdd)]
noncomputable def qbdg : Cfg := { T := qaym, spec := [], glob := GlobL.G Tryz.prog, eqs := qayn, N := 15, fuel := 64, loops := [], joins := [], blocks := [], ovl := [], retA := none, fid := 111, rnd := false, saves := [(3, [2])] }
theorem qbdh : CfgOK Tryz.prog qbdg := ⟨tsOK_of qayp, specsL_ok (show SpecsL Tryz.prog qbdg.spec from trivial), qayq, ovlL_ok (trivial), globsOK_of rfl, freshL_ok (show FreshL Tryz.prog qbdg.fresh from trivial), specsL_ok (show SpecsL Tryz.prog qbdg.gns from trivial)⟩
theorem qbdi {R : Type} : SubsOK Tryz.prog (R := R) 3 qbdf := subsOK_cons (fn := Tryz.f112) (by kernel_rfl) (by kernel_rfl) (by kernel_rfl) (by kernel_rfl) (by kernel_rfl) qbbg qbbi qbbj qbbh (subsOK_cons (fn := Tryz.f138) (by kernel_rfl) (by kernel_rfl) (by kernel_rfl) (by kernel_rfl) (by kernel_rfl) qbc8 qbdb qbdc qbc9 (subsOK_nil _ _))
theorem qbdj {R : Type} : LoopsOK (R := R) (hnd 3 qbdf) qbdg qbde qay3 := loopsOK_of (l := []) (by kernel_rfl) (trivial)
theorem qbdk : RngsOK Tryz.prog qbdg qay3 := rngs1 (x := rngGet 3 qay3) (by kernel_rfl) (by kernel_rfl)
noncomputable def qbdl {R : Type} : Inl R := .mk 111 qbdg qbde qay3 Tryz.f111.results.toList qbdf
noncomputable def qbdm {R : Type} : List (Nat × Hd R) := []
noncomputable def qbdn {R : Type} : List (Nat × Inl R) := [(1000003, qbdl)]
noncomputable def qbdo : Cfg := { T := qaym, spec := [], glob := GlobL.G Tryz.prog, eqs := qayn, N := 13, fuel := 64, loops := [], joins := [], blocks := [], ovl := [], retA := none, fid := 110, rnd := false, saves := [(3, [2])] }
theorem qbdp : CfgOK Tryz.prog qbdo := ⟨tsOK_of qayp, specsL_ok (show SpecsL Tryz.prog qbdo.spec from trivial), qayq, ovlL_ok (trivial), globsOK_of rfl, freshL_ok (show FreshL Tryz.prog qbdo.fresh from trivial), specsL_ok (show SpecsL Tryz.prog qbdo.gns from trivial)⟩
theorem qbdq {R : Type} : SubsOK Tryz.prog (R := R) 4 qbdn := subsOK_cons (fn := Tryz.f111) (by kernel_rfl) (by kernel_rfl) (by kernel_rfl) (by kernel_rfl) (by kernel_rfl) qbdh qbdj qbdk qbdi (subsOK_nil _ _)
theorem qbdr {R : Type} : LoopsOK (R := R) (hnd 4 qbdn) qbdo qbdm qay2 := loopsOK_of (l := []) (by kernel_rfl) (trivial)
theorem qbds : RngsOK Tryz.prog qbdo qay2 := rngs1 (x := rngGet 3 qay2) (by kernel_rfl) (by kernel_rfl)
noncomputable def qbdt {R : Type} : Inl R := .mk 110 qbdo qbdm qay2 Tryz.f110.results.toList qbdn
noncomputable def qbdu {R : Type} : List (Nat × Hd R) := []
noncomputable def qbdv {R : Type} : List (Nat × Inl R) := [(4, qbdt)]
noncomputable def qbdw : Cfg := { T := qaym, spec := [], glob := GlobL.G Tryz.prog, eqs := qayn, N := 5, fuel := 64, loops := [], joins := [], blocks := [], ovl := [], retA := none, fid := 85, rnd := false, saves := [] }
theorem qbdx : CfgOK Tryz.prog qbdw := ⟨tsOK_of qayp, specsL_ok (show SpecsL Tryz.prog qbdw.spec from trivial), qayq, ovlL_ok (trivial), globsOK_of rfl, freshL_ok (show FreshL Tryz.prog qbdw.fresh from trivial), specsL_ok (show SpecsL Tryz.prog qbdw.gns from trivial)⟩
theorem qbdy {R : Type} : SubsOK Tryz.prog (R := R) 5 qbdv := subsOK_cons (fn := Tryz.f110) (by kernel_rfl) (by kernel_rfl) (by kernel_rfl) (by kernel_rfl) (by kernel_rfl) qbdp qbdr qbds qbdq (subsOK_nil _ _)
theorem qbdz {R : Type} : LoopsOK (R := R) (hnd 5 qbdv) qbdw qbdu qayu := loopsOK_of (l := []) (by kernel_rfl) (trivial)
theorem qbd0 : RngsOK Tryz.prog qbdw qayu := rngs0 (by kernel_rfl)
noncomputable def qbd1 {R : Type} : Inl R := .mk 85 qbdw qbdu qayu Tryz.f85.results.toList qbdv
noncomputable def qbd2 {R : Type} : List (Nat × Hd R) := []
noncomputable def qbd3 {R : Type} : List (Nat × Inl R) := []
noncomputable def qbd4 : Cfg := { T := qaym, spec := [], glob := GlobL.G Tryz.prog, eqs := qayn, N := 18, fuel := 64, loops := [], joins := [], blocks := [], ovl := [], retA := none, fid := 126, rnd := false, saves := [] }
theorem qbd5 : CfgOK Tryz.prog qbd4 := ⟨tsOK_of qayp, specsL_ok (show SpecsL Tryz.prog qbd4.spec from trivial), qayq, ovlL_ok (trivial), globsOK_of rfl, freshL_ok (show FreshL Tryz.prog qbd4.fresh from trivial), specsL_ok (show SpecsL Tryz.prog qbd4.gns from trivial)⟩
theorem qbd6 {R : Type} : SubsOK Tryz.prog (R := R) 4 qbd3 := subsOK_nil _ _
theorem qbd7 {R : Type} : LoopsOK (R := R) (hnd 4 qbd3) qbd4 qbd2 qay7 := loopsOK_of (l := []) (by kernel_rfl) (trivial)
theorem qbd8 : RngsOK Tryz.prog qbd4 qay7 := rngs0 (by kernel_rfl)
noncomputable def qbd9 {R : Type} : Inl R := .mk 126 qbd4 qbd2 qay7 Tryz.f126.results.toList qbd3
noncomputable def qbea {R : Type} : List (Nat × Hd R) := []
noncomputable def qbeb {R : Type} : List (Nat × Inl R) := [(7, qbd9)]
noncomputable def qbec : Cfg := { T := qaym, spec := [], glob := GlobL.G Tryz.prog, eqs := qayn, N := 8, fuel := 64, loops := [], joins := [], blocks := [], ovl := [], retA := none, fid := 107, rnd := false, saves := [] }
theorem qbed : CfgOK Tryz.prog qbec := ⟨tsOK_of qayp, specsL_ok (show SpecsL Tryz.prog qbec.spec from trivial), qayq, ovlL_ok (trivial), globsOK_of rfl, freshL_ok (show FreshL Tryz.prog qbec.fresh from trivial), specsL_ok (show SpecsL Tryz.prog qbec.gns from trivial)⟩
theorem qbee {R : Type} : SubsOK Tryz.prog (R := R) 5 qbeb := subsOK_cons (fn := Tryz.f126) (by kernel_rfl) (by kernel_rfl) (by kernel_rfl) (by kernel_rfl) (by kernel_rfl) qbd5 qbd7 qbd8 qbd6 (subsOK_nil _ _)
theorem qbef {R : Type} : LoopsOK (R := R) (hnd 5 qbeb) qbec qbea qay0 := loopsOK_of (l := []) (by kernel_rfl) (trivial)
theorem qbeg : RngsOK Tryz.prog qbec qay0 := rngs0 (by kernel_rfl)
noncomputable def qbeh {R : Type} : Inl R := .mk 107 qbec qbea qay0 Tryz.f107.results.toList qbeb
noncomputable def qbei {R : Type} : List (Nat × Hd R) := []
noncomputable def qbej {R : Type} : List (Nat × Inl R) := []
noncomputable def qbek : Cfg := { T := qaym, spec := [], glob := GlobL.G Tryz.prog, eqs := qayn, N := 21, fuel := 64, loops := [], joins := [], blocks := [], ovl := [], retA := none, fid := 127, rnd := false, saves := [] }
theorem qbel : CfgOK Tryz.prog qbek := ⟨tsOK_of qayp, specsL_ok (show SpecsL Tryz.prog qbek.spec from trivial), qayq, ovlL_ok (trivial), globsOK_of rfl, freshL_ok (show FreshL Tryz.prog qbek.fresh from trivial), specsL_ok (show SpecsL Tryz.prog qbek.gns from trivial)⟩
theorem qbem {R : Type} : SubsOK Tryz.prog (R := R) 4 qbej := subsOK_nil _ _
theorem qben {R : Type} : LoopsOK (R := R) (hnd 4 qbej) qbek qbei qay8 := loopsOK_of (l := []) (by kernel_rfl) (trivial)
theorem qbeo : RngsOK Tryz.prog qbek qay8 := rngs0 (by kernel_rfl)
noncomputable def qbep {R : Type} : Inl R := .mk 127 qbek qbei qay8 Tryz.f127.results.toList qbej
noncomputable def qbeq {R : Type} : List (Nat × Hd R) := []
noncomputable def qber {R : Type} : List (Nat × Inl R) := [(7, qbep)]
noncomputable def qbes : Cfg := { T := qaym, spec := [], glob := GlobL.G Tryz.prog, eqs := qayn, N := 8, fuel := 64, loops := [], joins := [], blocks := [], ovl := [], retA := none, fid := 108, rnd := false, saves := [] }
theorem qbet : CfgOK Tryz.prog qbes := ⟨tsOK_of qayp, specsL_ok (show SpecsL Tryz.prog qbes.spec from trivial), qayq, ovlL_ok (trivial), globsOK_of rfl, freshL_ok (show FreshL Tryz.prog qbes.fresh from trivial), specsL_ok (show SpecsL Tryz.prog qbes.gns from trivial)⟩
theorem qbeu {R : Type} : SubsOK Tryz.prog (R := R) 5 qber := subsOK_cons (fn := Tryz.f127) (by kernel_rfl) (by kernel_rfl) (by kernel_rfl) (by kernel_rfl) (by kernel_rfl) qbel qben qbeo qbem (subsOK_nil _ _)
theorem qbev {R : Type} : LoopsOK (R := R) (hnd 5 qber) qbes qbeq qay1 := loopsOK_of (l := []) (by kernel_rfl) (trivial)
theorem qbew : RngsOK Tryz.prog qbes qay1 := rngs0 (by kernel_rfl)
noncomputable def qbex {R : Type} : Inl R := .mk 108 qbes qbeq qay1 Tryz.f108.results.toList qber
noncomputable def qbey {R : Type} : List (Nat × Hd R) := []
noncomputable def qbez {R : Type} : List (Nat × Inl R) := [(5, qba4), (6, qbd1), (8, qbeh), (15, qbex)]
noncomputable def qbe0 : Cfg := { T := qaym, spec := [], glob := GlobL.G Tryz.prog, eqs := qayn, N := 18, fuel := 64, loops := [], joins := [], blocks := [], ovl := [], retA := none, fid := 79, rnd := false, saves := [] }
theorem qbe1 : CfgOK Tryz.prog qbe0 := ⟨tsOK_of qayp, specsL_ok (show SpecsL Tryz.prog qbe0.spec from trivial), qayq, ovlL_ok (trivial), globsOK_of rfl, freshL_ok (show FreshL Tryz.prog qbe0.fresh from trivial), specsL_ok (show SpecsL Tryz.prog qbe0.gns from trivial)⟩
theorem qbe2 {R : Type} : SubsOK Tryz.prog (R := R) 6 qbez := subsOK_cons (fn := Tryz.f86) (by kernel_rfl) (by kernel_rfl) (by kernel_rfl) (by kernel_rfl) (by kernel_rfl) qba0 qba2 qba3 qba1 (subsOK_cons (fn := Tryz.f85) (by kernel_rfl) (by kernel_rfl) (by kernel_rfl) (by kernel_rfl) (by kernel_rfl) qbdx qbdz qbd0 qbdy (subsOK_cons (fn := Tryz.f107) (by kernel_rfl) (by kernel_rfl) (by kernel_rfl) (by kernel_rfl) (by kernel_rfl) qbed qbef qbeg qbee (subsOK_cons (fn := Tryz.f108) (by kernel_rfl) (by kernel_rfl) (by kernel_rfl) (by kernel_rfl) (by kernel_rfl) qbet qbev qbew qbeu (subsOK_nil _ _))))
theorem qbe3 {R : Type} : LoopsOK (R := R) (hnd 6 qbez) qbe0 qbey qayt := loopsOK_of (l := []) (by kernel_rfl) (trivial)
theorem qbe4 : RngsOK Tryz.prog qbe0 qayt := rngs0 (by kernel_rfl)
theorem qbe5 : ∀ v, runFn (hnd 6 qbez) qbe0 qbey qayt Tryz.f79.results.toList (HP.st qbaq v) (decOf qbar qbat) = qbav (qbas v) := by intro v; kernel_rfl
theorem qbe6 : SpecOK Tryz.prog 79 qbaw := specOK_mk (fn := Tryz.f79) (by kernel_rfl) (by kernel_rfl) (by kernel_rfl) qbe1 (by kernel_rfl) (by kernel_rfl) qayo (by kernel_rfl) (fun _ => rfl) (d := 6) qbe2 qbe3 qbe4 qbe5
end Go.Eng
set_option linter.unusedVariables false
set_option maxRecDepth 100000
namespace Go.Eng
open Go Go.Proofs
noncomputable def qbe7 : List (Nat × TI) := [(3, ⟨false, 1, .one (.int .i64 0), .int .i64⟩), (22, ⟨false, 1, .one (.clip .inode []), .slice .inode 34⟩), (24, ⟨true, 4, .agg [.int .i64 0, .int .i64 0, .int .i64 0, .clip .inode []], .struct [(0, 3), (1, 3), (2, 3), (3, 22)]⟩), (34, ⟨true, 6, .agg [.int .i64 0, .int .i64 0, .int .i64 0, .str [], .int .i64 0, .clip .entry []], .struct [(0, 3), (1, 3), (2, 3), (3, 9), (4, 3), (5, 32)]⟩), (153, ⟨false, 1, .one (.int .u64 0), .int .u64⟩)]
noncomputable def qbe8 : List (Nat × List EK) := []
theorem qbe9 : Tryz.prog.follows .mixedOrders = true := by kernel_rfl
theorem qbfa : (qbe7.all fun x => tiB Tryz.prog x.1 x.2) = true := by kernel_rfl
theorem qbfb {c : Cfg} (h : c.eqs = qbe8 := by rfl) : EqsOK Tryz.prog c := eqsOK_of (by rw [h]; kernel_rfl)
noncomputable def qbfc : Code := match Tryz.f56.body with | some b => b | none => .skip
noncomputable def qbfd : Code := match Tryz.f70.body with | some b => b | none => .skip
noncomputable def qbfe : Code := match Tryz.f91.body with | some b => b | none => .skip
noncomputable def qbff : Code := match Tryz.f101.body with | some b => b | none => .skip
noncomputable def qbfg : Code := match Tryz.f102.body with | some b => b | none => .skip
noncomputable def qbfh : Code := match Tryz.f116.body with | some b => b | none => .skip
noncomputable def qbfi : Code := match Tryz.f117.body with | some b => b | none => .skip
noncomputable def qbfj : Code := match Tryz.f118.body with | some b => b | none => .skip
noncomputable def qbfk : Code := match Tryz.f134.body with | some b => b | none => .skip
noncomputable def qbfl : HS := ⟨[(0, .one (.sl .inode)), (1, .one (.int .i64)), (2, .one (.fnc 117)), (8, .one (.int .i64)), (9, .one (.int .i64)), (10, .one (.int .i64))], [], 0⟩
noncomputable def qbfm {R : Type} : Nat → HS.V qbfl → (Ex → St → Option R) → Option R := fun q v K =>
  table_at_9_L3 v.1.1 v.1.2.1 (fun y10 => K (.exit 0) { regs := [(0, .v (.one (.sl .inode v.1.1))), (1, .v (.one (.int .i64 v.1.2.1))), (2, .v (.one (.fnc 117))), (8, .v (.one (.int .i64 v.1.2.2.2.1))), (9, .v (.one (.int .i64 y10)))], mem := [], nx := 0 }) q v.1.2.2.2.2.1 v.1.2.2.2.2.2.1
noncomputable def qbfn : List HV := [.agg [.int .i64, .int .i64, .int .i64, .sl .inode], .one (.int .i64)]
noncomputable def qbfo : List HV := [.one (.int .i64), .one (.bool)]
noncomputable def qbfp : HP.V qbfn → Fs × Int := fun v => ((⟨v.1.1, v.1.2.1, v.1.2.2.1, v.1.2.2.2.1⟩ : Fs), v.2.1)
noncomputable def qbfq : HX.V qbfo → Int × Bool := fun v => (v.1, v.2)
noncomputable def qbfr : (Int × Bool) → HX.V qbfo := fun y => (y.1, y.2)
noncomputable def qbfs : (Fs × Int) → Option (Int × Bool) := fun x => table_at x.1 x.2
noncomputable def qbft : Spec := mkSpec qbfn qbfo qbfp qbfr qbfs
noncomputable def qbfu {R : Type} : List (Nat × Hd R) := []
noncomputable def qbfv {R : Type} : List (Nat × Inl R) := []
noncomputable def qbfw : Cfg := { T := qbe7, spec := [], glob := GlobL.G Tryz.prog, eqs := qbe8, N := 6, fuel := 64, loops := [], joins := [], blocks := [], ovl := [], retA := none, fid := 134, rnd := false, saves := [] }
theorem qbfx : CfgOK Tryz.prog qbfw := ⟨tsOK_of qbfa, specsL_ok (show SpecsL Tryz.prog qbfw.spec from trivial), qbfb, ovlL_ok (trivial), globsOK_of rfl, freshL_ok (show FreshL Tryz.prog qbfw.fresh from trivial), specsL_ok (show SpecsL Tryz.prog qbfw.gns from trivial)⟩
theorem qbfy {R : Type} : SubsOK Tryz.prog (R := R) 0 qbfv := subsOK_nil _ _
theorem qbfz {R : Type} : LoopsOK (R := R) (hnd 0 qbfv) qbfw qbfu qbfk := loopsOK_of (l := []) (by kernel_rfl) (trivial)
theorem qbf0 : RngsOK Tryz.prog qbfw qbfk := rngs0 (by kernel_rfl)
noncomputable def qbf1 {R : Type} : Inl R := .mk 134 qbfw qbfu qbfk Tryz.f134.results.toList qbfv
noncomputable def qbf2 {R : Type} : List (Nat × Hd R) := []
noncomputable def qbf3 {R : Type} : List (Nat × Inl R) := []
noncomputable def qbf4 : Cfg := { T := qbe7, spec := [], glob := GlobL.G Tryz.prog, eqs := qbe8, N := 6, fuel := 64, loops := [], joins := [], blocks := [], ovl := [], retA := none, fid := 134, rnd := false, saves := [] }
theorem qbf5 : CfgOK Tryz.prog qbf4 := ⟨tsOK_of qbfa, specsL_ok (show SpecsL Tryz.prog qbf4.spec from trivial), qbfb, ovlL_ok (trivial), globsOK_of rfl, freshL_ok (show FreshL Tryz.prog qbf4.fresh from trivial), specsL_ok (show SpecsL Tryz.prog qbf4.gns from trivial)⟩
theorem qbf6 {R : Type} : SubsOK Tryz.prog (R := R) 0 qbf3 := subsOK_nil _ _
theorem qbf7 {R : Type} : LoopsOK (R := R) (hnd 0 qbf3) qbf4 qbf2 qbfk := loopsOK_of (l := []) (by kernel_rfl) (trivial)
theorem qbf8 : RngsOK Tryz.prog qbf4 qbfk := rngs0 (by kernel_rfl)
noncomputable def qbf9 {R : Type} : Inl R := .mk 134 qbf4 qbf2 qbfk Tryz.f134.results.toList qbf3
noncomputable def qbga {R : Type} : List (Nat × Hd R) := []
noncomputable def qbgb {R : Type} : List (Nat × Inl R) := [(8, qbf1), (10, qbf9)]
noncomputable def qbgc : Cfg := { T := qbe7, spec := [], glob := GlobL.G Tryz.prog, eqs := qbe8, N := 20, fuel := 64, loops := [], joins := [], blocks := [], ovl := [], retA := none, fid := 118, rnd := false, saves := [] }
theorem qbgd : CfgOK Tryz.prog qbgc := ⟨tsOK_of qbfa, specsL_ok (show SpecsL Tryz.prog qbgc.spec from trivial), qbfb, ovlL_ok (trivial), globsOK_of rfl, freshL_ok (show FreshL Tryz.prog qbgc.fresh from trivial), specsL_ok (show SpecsL Tryz.prog qbgc.gns from trivial)⟩
theorem qbge {R : Type} : SubsOK Tryz.prog (R := R) 1 qbgb := subsOK_cons (fn := Tryz.f134) (by kernel_rfl) (by kernel_rfl) (by kernel_rfl) (by kernel_rfl) (by kernel_rfl) qbfx qbfz qbf0 qbfy (subsOK_cons (fn := Tryz.f134) (by kernel_rfl) (by kernel_rfl) (by kernel_rfl) (by kernel_rfl) (by kernel_rfl) qbf5 qbf7 qbf8 qbf6 (subsOK_nil _ _))
theorem qbgf {R : Type} : LoopsOK (R := R) (hnd 1 qbgb) qbgc qbga qbfj := loopsOK_of (l := []) (by kernel_rfl) (trivial)
theorem qbgg : RngsOK Tryz.prog qbgc qbfj := rngs0 (by kernel_rfl)
noncomputable def qbgh {R : Type} : Inl R := .mk 118 qbgc qbga qbfj Tryz.f118.results.toList qbgb
noncomputable def qbgi {R : Type} : List (Nat × Hd R) := []
noncomputable def qbgj {R : Type} : List (Nat × Inl R) := [(8, qbgh)]
noncomputable def qbgk : Cfg := { T := qbe7, spec := [], glob := GlobL.G Tryz.prog, eqs := qbe8, N := 9, fuel := 64, loops := [], joins := [], blocks := [], ovl := [], retA := none, fid := 117, rnd := false, saves := [] }
theorem qbgl : CfgOK Tryz.prog qbgk := ⟨tsOK_of qbfa, specsL_ok (show SpecsL Tryz.prog qbgk.spec from trivial), qbfb, ovlL_ok (trivial), globsOK_of rfl, freshL_ok (show FreshL Tryz.prog qbgk.fresh from trivial), specsL_ok (show SpecsL Tryz.prog qbgk.gns from trivial)⟩
theorem qbgm {R : Type} : SubsOK Tryz.prog (R := R) 2 qbgj := subsOK_cons (fn := Tryz.f118) (by kernel_rfl) (by kernel_rfl) (by kernel_rfl) (by kernel_rfl) (by kernel_rfl) qbgd qbgf qbgg qbge (subsOK_nil _ _)
theorem qbgn {R : Type} : LoopsOK (R := R) (hnd 2 qbgj) qbgk qbgi qbfi := loopsOK_of (l := []) (by kernel_rfl) (trivial)
theorem qbgo : RngsOK Tryz.prog qbgk qbfi := rngs0 (by kernel_rfl)
noncomputable def qbgp {R : Type} : Inl R := .mk 117 qbgk qbgi qbfi Tryz.f117.results.toList qbgj
noncomputable def qbgq {R : Type} : List (Nat × Hd R) := []
noncomputable def qbgr {R : Type} : List (Nat × Inl R) := []
noncomputable def qbgs : Cfg := { T := qbe7, spec := [], glob := GlobL.G Tryz.prog, eqs := qbe8, N := 6, fuel := 64, loops := [], joins := [], blocks := [], ovl := [], retA := none, fid := 134, rnd := false, saves := [] }
theorem qbgt : CfgOK Tryz.prog qbgs := ⟨tsOK_of qbfa, specsL_ok (show SpecsL Tryz.prog qbgs.spec from trivial), qbfb, ovlL_ok (trivial), globsOK_of rfl, freshL_ok (show FreshL Tryz.prog qbgs.fresh from trivial), specsL_ok (show SpecsL Tryz.prog qbgs.gns from trivial)⟩
theorem qbgu {R : Type} : SubsOK Tryz.prog (R := R) 0 qbgr := subsOK_nil _ _
theorem qbgv {R : Type} : LoopsOK (R := R) (hnd 0 qbgr) qbgs qbgq qbfk := loopsOK_of (l := []) (by kernel_rfl) (trivial)
theorem qbgw : RngsOK Tryz.prog qbgs qbfk := rngs0 (by kernel_rfl)
noncomputable def qbgx {R : Type} : Inl R := .mk 134 qbgs qbgq qbfk Tryz.f134.results.toList qbgr
noncomputable def qbgy {R : Type} : List (Nat × Hd R) := []
noncomputable def qbgz {R : Type} : List (Nat × Inl R) := []
noncomputable def qbg0 : Cfg := { T := qbe7, spec := [], glob := GlobL.G Tryz.prog, eqs := qbe8, N := 6, fuel := 64, loops := [], joins := [], blocks := [], ovl := [], retA := none, fid := 134, rnd := false, saves := [] }
theorem qbg1 : CfgOK Tryz.prog qbg0 := ⟨tsOK_of qbfa, specsL_ok (show SpecsL Tryz.prog qbg0.spec from trivial), qbfb, ovlL_ok (trivial), globsOK_of rfl, freshL_ok (show FreshL Tryz.prog qbg0.fresh from trivial), specsL_ok (show SpecsL Tryz.prog qbg0.gns from trivial)⟩
theorem qbg2 {R : Type} : SubsOK Tryz.prog (R := R) 0 qbgz := subsOK_nil _ _
theorem qbg3 {R : Type} : LoopsOK (R := R) (hnd 0 qbgz) qbg0 qbgy qbfk := loopsOK_of (l := []) (by kernel_rfl) (trivial)
theorem qbg4 : RngsOK Tryz.prog qbg0 qbfk := rngs0 (by kernel_rfl)
noncomputable def qbg5 {R : Type} : Inl R := .mk 134 qbg0 qbgy qbfk Tryz.f134.results.toList qbgz
noncomputable def qbg6 {R : Type} : List (Nat × Hd R) := []
noncomputable def qbg7 {R : Type} : List (Nat × Inl R) := [(8, qbgx), (10, qbg5)]
noncomputable def qbg8 : Cfg := { T := qbe7, spec := [], glob := GlobL.G Tryz.prog, eqs := qbe8, N := 20, fuel := 64, loops := [], joins := [], blocks := [], ovl := [], retA := none, fid := 118, rnd := false, saves := [] }
theorem qbg9 : CfgOK Tryz.prog qbg8 := ⟨tsOK_of qbfa, specsL_ok (show SpecsL Tryz.prog qbg8.spec from trivial), qbfb, ovlL_ok (trivial), globsOK_of rfl, freshL_ok (show FreshL Tryz.prog qbg8.fresh from trivial), specsL_ok (show SpecsL Tryz.prog qbg8.gns from trivial)⟩
theorem qbha {R : Type} : SubsOK Tryz.prog (R := R) 1 qbg7 := subsOK_cons (fn := Tryz.f134) (by kernel_rfl) (by kernel_rfl) (by kernel_rfl) (by kernel_rfl) (by kernel_rfl) qbgt qbgv qbgw qbgu (subsOK_cons (fn := Tryz.f134) (by kernel_rfl) (by kernel_rfl) (by kernel_rfl) (by kernel_rfl) (by kernel_rfl) qbg1 qbg3 qbg4 qbg2 (subsOK_nil _ _))
theorem qbhb {R : Type} : LoopsOK (R := R) (hnd 1 qbg7) qbg8 qbg6 qbfj := loopsOK_of (l := []) (by kernel_rfl) (trivial)
theorem qbhc : RngsOK Tryz.prog qbg8 qbfj := rngs0 (by kernel_rfl)
noncomputable def qbhd {R : Type} : Inl R := .mk 118 qbg8 qbg6 qbfj Tryz.f118.results.toList qbg7
noncomputable def qbhe {R : Type} : List (Nat × Hd R) := []
noncomputable def qbhf {R : Type} : List (Nat × Inl R) := [(8, qbhd)]
noncomputable def qbhg : Cfg := { T := qbe7, spec := [], glob := GlobL.G Tryz.prog, eqs := qbe8, N := 9, fuel := 64, loops := [], joins := [], blocks := [], ovl := [], retA := none, fid := 117, rnd := false, saves := [] }
theorem qbhh : CfgOK Tryz.prog qbhg := ⟨tsOK_of qbfa, specsL_ok (show SpecsL Tryz.prog qbhg.spec from trivial), qbfb, ovlL_ok (trivial), globsOK_of rfl, freshL_ok (show FreshL Tryz.prog qbhg.fresh from trivial), specsL_ok (show SpecsL Tryz.prog qbhg.gns from trivial)⟩
theorem qbhi {R : Type} : SubsOK Tryz.prog (R := R) 2 qbhf := subsOK_cons (fn := Tryz.f118) (by kernel_rfl) (by kernel_rfl) (by kernel_rfl) (by kernel_rfl) (by kernel_rfl) qbg9 qbhb qbhc qbha (subsOK_nil _ _)
theorem qbhj {R : Type} : LoopsOK (R := R) (hnd 2 qbhf) qbhg qbhe qbfi := loopsOK_of (l := []) (by kernel_rfl) (trivial)
theorem qbhk : RngsOK Tryz.prog qbhg qbfi := rngs0 (by kernel_rfl)
noncomputable def qbhl {R : Type} : Inl R := .mk 117 qbhg qbhe qbfi Tryz.f117.results.toList qbhf
noncomputable def qbhm {R : Type} : List (Nat × Hd R) := [(3, hdOf qbfl qbfm)]
noncomputable def qbhn {R : Type} : List (Nat × Inl R) := [(30, qbgp), (46, qbhl)]
noncomputable def qbho : Cfg := { T := qbe7, spec := [], glob := GlobL.G Tryz.prog, eqs := qbe8, N := 49, fuel := 64, loops := [(3, ⟨[0, 1, 2, 8, 9, 10], [], [], 0, [], [], [], []⟩)], joins := [], blocks := [(0, ⟨[0, 1, 2, 8, 9], [], [], 0, [], [], [], []⟩)], ovl := [], retA := none, fid := 116, rnd := false, saves := [] }
theorem qbhp : CfgOK Tryz.prog qbho := ⟨tsOK_of qbfa, specsL_ok (show SpecsL Tryz.prog qbho.spec from trivial), qbfb, ovlL_ok (trivial), globsOK_of rfl, freshL_ok (show FreshL Tryz.prog qbho.fresh from trivial), specsL_ok (show SpecsL Tryz.prog qbho.gns from trivial)⟩
theorem qbhq {R : Type} : SubsOK Tryz.prog (R := R) 3 qbhn := subsOK_cons (fn := Tryz.f117) (by kernel_rfl) (by kernel_rfl) (by kernel_rfl) (by kernel_rfl) (by kernel_rfl) qbgl qbgn qbgo qbgm (subsOK_cons (fn := Tryz.f117) (by kernel_rfl) (by kernel_rfl) (by kernel_rfl) (by kernel_rfl) (by kernel_rfl) qbhh qbhj qbhk qbhi (subsOK_nil _ _))
theorem qbhr {R : Type} : LoopOK (R := R) (hnd 3 qbhn) qbho qbhm (sub [1, 1, 1, 0, 0, 0] qbfh) (HS.V qbfl) (HS.st qbfl) (HS.sh qbfl) qbfm (hdOf qbfl qbfm) := loopOK_of qbfl qbfm (fun _ _ => rfl) (by intro q v K; kernel_rfl)
theorem qbhs {R : Type} : LoopsOK (R := R) (hnd 3 qbhn) qbho qbhm qbfh := loopsOK_of (l := [sub [1, 1, 1, 0, 0, 0] qbfh]) (by kernel_rfl) (loopsL_cons (b := sub [1, 1, 1, 0, 0, 0] qbfh) (rid := 3) (by kernel_rfl) (by kernel_rfl) qbhr (trivial))
theorem qbht : RngsOK Tryz.prog qbho qbfh := rngs0 (by kernel_rfl)
noncomputable def qbhu {R : Type} : Inl R := .mk 116 qbho qbhm qbfh Tryz.f116.results.toList qbhn
noncomputable def qbhv {R : Type} : List (Nat × Hd R) := []
noncomputable def qbhw {R : Type} : List (Nat × Inl R) := [(9, qbhu)]
noncomputable def qbhx : Cfg := { T := qbe7, spec := [], glob := GlobL.G Tryz.prog, eqs := qbe8, N := 12, fuel := 64, loops := [], joins := [], blocks := [], ovl := [], retA := none, fid := 91, rnd := false, saves := [] }
theorem qbhy : CfgOK Tryz.prog qbhx := ⟨tsOK_of qbfa, specsL_ok (show SpecsL Tryz.prog qbhx.spec from trivial), qbfb, ovlL_ok (trivial), globsOK_of rfl, freshL_ok (show FreshL Tryz.prog qbhx.fresh from trivial), specsL_ok (show SpecsL Tryz.prog qbhx.gns from trivial)⟩
theorem qbhz {R : Type} : SubsOK Tryz.prog (R := R) 4 qbhw := subsOK_cons (fn := Tryz.f116) (by kernel_rfl) (by kernel_rfl) (by kernel_rfl) (by kernel_rfl) (by kernel_rfl) qbhp qbhs qbht qbhq (subsOK_nil _ _)
theorem qbh0 {R : Type} : LoopsOK (R := R) (hnd 4 qbhw) qbhx qbhv qbfe := loopsOK_of (l := []) (by kernel_rfl) (trivial)
theorem qbh1 : RngsOK Tryz.prog qbhx qbfe := rngs0 (by kernel_rfl)
theorem qbh2 : ∀ v, runFn (hnd 4 qbhw) qbhx qbhv qbfe Tryz.f91.results.toList (HP.st qbfn v) (decOf qbfo qbfq) = qbfs (qbfp v) := by intro v; kernel_rfl
theorem qbh3 : SpecOK Tryz.prog 91 qbft := specOK_mk (fn := Tryz.f91) (by kernel_rfl) (by kernel_rfl) (by kernel_rfl) qbhy (by kernel_rfl) (by kernel_rfl) qbe9 (by kernel_rfl) (fun _ => rfl) (d := 4) qbhz qbh0 qbh1 qbh2
noncomputable def qbh4 : List HV := [.agg [.int .i64, .int .i64, .int .i64, .sl .inode], .one (.int .i64)]
noncomputable def qbh5 : List HV := [.agg [.int .i64, .int .i64, .int .i64, .str, .int .i64, .sl .entry], .one (.bool)]
noncomputable def qbh6 : HP.V qbh4 → Fs × Int := fun v => ((⟨v.1.1, v.1.2.1, v.1.2.2.1, v.1.2.2.2.1⟩ : Fs), v.2.1)
noncomputable def qbh7 : HX.V qbh5 → Inode × Bool := fun v => ((⟨v.1.1, v.1.2.1, v.1.2.2.1, v.1.2.2.2.1, v.1.2.2.2.2.1, v.1.2.2.2.2.2.1⟩ : Inode), v.2)
noncomputable def qbh8 : (Inode × Bool) → HX.V qbh5 := fun y => ((y.1.ino, (y.1.kind, (y.1.links, (y.1.data, (y.1.parent, (y.1.entries, ())))))), y.2)
noncomputable def qbh9 : (Fs × Int) → Option (Inode × Bool) := fun x => table_Get x.1 x.2
noncomputable def qbia : Spec := mkSpec qbh4 qbh5 qbh6 qbh8 qbh9
noncomputable def qbib {R : Type} : List (Nat × Hd R) := []
noncomputable def qbic {R : Type} : List (Nat × Inl R) := []
noncomputable def qbid : Cfg := { T := qbe7, spec := [(91, qbft)], glob := GlobL.G Tryz.prog, eqs := qbe8, N := 22, fuel := 64, loops := [], joins := [], blocks := [], ovl := [], retA := none, fid := 56, rnd := false, saves := [] }
theorem qbie : CfgOK Tryz.prog qbid := ⟨tsOK_of qbfa, specsL_ok (show SpecsL Tryz.prog qbid.spec from ⟨qbh3, trivial⟩), qbfb, ovlL_ok (trivial), globsOK_of rfl, freshL_ok (show FreshL Tryz.prog qbid.fresh from trivial), specsL_ok (show SpecsL Tryz.prog qbid.gns from trivial)⟩
theorem qbif {R : Type} : SubsOK Tryz.prog (R := R) 0 qbic := subsOK_nil _ _
theorem qbig {R : Type} : LoopsOK (R := R) (hnd 0 qbic) qbid qbib qbfc := loopsOK_of (l := []) (by kernel_rfl) (trivial)
theorem qbih : RngsOK Tryz.prog qbid qbfc := rngs0 (by kernel_rfl)
theorem qbii : ∀ v, runFn (hnd 0 qbic) qbid qbib qbfc Tryz.f56.results.toList (HP.st qbh4 v) (decOf qbh5 qbh7) = qbh9 (qbh6 v) := by intro v; kernel_rfl
theorem qbij : SpecOK Tryz.prog 56 qbia := specOK_mk (fn := Tryz.f56) (by kernel_rfl) (by kernel_rfl) (by kernel_rfl) qbie (by kernel_rfl) (by kernel_rfl) qbe9 (by kernel_rfl) (fun _ => rfl) (d := 0) qbif qbig qbih qbii
noncomputable def qbik : List HV := [.agg [.int .i64, .int .i64, .int .i64, .sl .inode], .agg [.int .i64, .int .i64, .int .i64, .str, .int .i64, .sl .entry]]
noncomputable def qbil : List HV := [.agg [.int .i64, .int .i64, .int .i64, .sl .inode]]
noncomputable def qbim : HP.V qbik → Fs × Inode := fun v => ((⟨v.1.1, v.1.2.1, v.1.2.2.1, v.1.2.2.2.1⟩ : Fs), (⟨v.2.1.1, v.2.1.2.1, v.2.1.2.2.1, v.2.1.2.2.2.1, v.2.1.2.2.2.2.1, v.2.1.2.2.2.2.2.1⟩ : Inode))
noncomputable def qbin : HX.V qbil → Fs := fun v => ((⟨v.1, v.2.1, v.2.2.1, v.2.2.2.1⟩ : Fs))
noncomputable def qbio : Fs → HX.V qbil := fun y => ((y.maxInodes, (y.maxBytes, (y.next, (y.inodes, ())))))
noncomputable def qbip : (Fs × Inode) → Option (Fs) := fun x => table_Set x.1 x.2
noncomputable def qbiq : Spec := mkSpec qbik qbil qbim qbio qbip
noncomputable def qbir {R : Type} : List (Nat × Hd R) := []
noncomputable def qbis {R : Type} : List (Nat × Inl R) := []
noncomputable def qbit : Cfg := { T := qbe7, spec := [(91, qbft)], glob := GlobL.G Tryz.prog, eqs := qbe8, N := 8, fuel := 64, loops := [], joins := [], blocks := [], ovl := [124], retA := none, fid := 101, rnd := false, saves := [] }
theorem qbiu : CfgOK Tryz.prog qbit := ⟨tsOK_of qbfa, specsL_ok (show SpecsL Tryz.prog qbit.spec from ⟨qbh3, trivial⟩), qbfb, ovlL_ok (⟨ovl124, trivial⟩), globsOK_of rfl, freshL_ok (show FreshL Tryz.prog qbit.fresh from trivial), specsL_ok (show SpecsL Tryz.prog qbit.gns from trivial)⟩
theorem qbiv {R : Type} : SubsOK Tryz.prog (R := R) 0 qbis := subsOK_nil _ _
theorem qbiw {R : Type} : LoopsOK (R := R) (hnd 0 qbis) qbit qbir qbff := loopsOK_of (l := []) (by kernel_rfl) (trivial)
theorem qbix : RngsOK Tryz.prog qbit qbff := rngs0 (by kernel_rfl)
noncomputable def qbiy {R : Type} : Inl R := .mk 101 qbit qbir qbff Tryz.f101.results.toList qbis
noncomputable def qbiz {R : Type} : List (Nat × Hd R) := []
noncomputable def qbi0 {R : Type} : List (Nat × Inl R) := []
noncomputable def qbi1 : Cfg := { T := qbe7, spec := [(91, qbft)], glob := GlobL.G Tryz.prog, eqs := qbe8, N := 95, fuel := 64, loops := [], joins := [], blocks := [], ovl := [124], retA := none, fid := 102, rnd := false, saves := [] }
theorem qbi2 : CfgOK Tryz.prog qbi1 := ⟨tsOK_of qbfa, specsL_ok (show SpecsL Tryz.prog qbi1.spec from ⟨qbh3, trivial⟩), qbfb, ovlL_ok (⟨ovl124, trivial⟩), globsOK_of rfl, freshL_ok (show FreshL Tryz.prog qbi1.fresh from trivial), specsL_ok (show SpecsL Tryz.prog qbi1.gns from trivial)⟩
theorem qbi3 {R : Type} : SubsOK Tryz.prog (R := R) 0 qbi0 := subsOK_nil _ _
theorem qbi4 {R : Type} : LoopsOK (R := R) (hnd 0 qbi0) qbi1 qbiz qbfg := loopsOK_of (l := []) (by kernel_rfl) (trivial)
theorem qbi5 : RngsOK Tryz.prog qbi1 qbfg := rngs0 (by kernel_rfl)
noncomputable def qbi6 {R : Type} : Inl R := .mk 102 qbi1 qbiz qbfg Tryz.f102.results.toList qbi0
noncomputable def qbi7 {R : Type} : List (Nat × Hd R) := []
noncomputable def qbi8 {R : Type} : List (Nat × Inl R) := [(16, qbiy), (30, qbi6)]
noncomputable def qbi9 : Cfg := { T := qbe7, spec := [(91, qbft)], glob := GlobL.G Tryz.prog, eqs := qbe8, N := 33, fuel := 64, loops := [], joins := [], blocks := [], ovl := [124], retA := none, fid := 70, rnd := false, saves := [] }
theorem qbja : CfgOK Tryz.prog qbi9 := ⟨tsOK_of qbfa, specsL_ok (show SpecsL Tryz.prog qbi9.spec from ⟨qbh3, trivial⟩), qbfb, ovlL_ok (⟨ovl124, trivial⟩), globsOK_of rfl, freshL_ok (show FreshL Tryz.prog qbi9.fresh from trivial), specsL_ok (show SpecsL Tryz.prog qbi9.gns from trivial)⟩
theorem qbjb {R : Type} : SubsOK Tryz.prog (R := R) 1 qbi8 := subsOK_cons (fn := Tryz.f101) (by kernel_rfl) (by kernel_rfl) (by kernel_rfl) (by kernel_rfl) (by kernel_rfl) qbiu qbiw qbix qbiv (subsOK_cons (fn := Tryz.f102) (by kernel_rfl) (by kernel_rfl) (by kernel_rfl) (by kernel_rfl) (by kernel_rfl) qbi2 qbi4 qbi5 qbi3 (subsOK_nil _ _))
theorem qbjc {R : Type} : LoopsOK (R := R) (hnd 1 qbi8) qbi9 qbi7 qbfd := loopsOK_of (l := []) (by kernel_rfl) (trivial)
theorem qbjd : RngsOK Tryz.prog qbi9 qbfd := rngs0 (by kernel_rfl)
theorem qbje : ∀ v, runFn (hnd 1 qbi8) qbi9 qbi7 qbfd Tryz.f70.results.toList (HP.st qbik v) (decOf qbil qbin) = qbip (qbim v) := by intro v; kernel_rfl
theorem qbjf : SpecOK Tryz.prog 70 qbiq := specOK_mk (fn := Tryz.f70) (by kernel_rfl) (by kernel_rfl) (by kernel_rfl) qbja (by kernel_rfl) (by kernel_rfl) qbe9 (by kernel_rfl) (fun _ => rfl) (d := 1) qbjb qbjc qbjd qbje
end Go.Eng
set_option linter.unusedVariables false
set_option maxRecDepth 100000
namespace Go.Eng
open Go Go.Proofs
noncomputable def qbjg : List (Nat × TI) := [(3, ⟨false, 1, .one (.int .i64 0), .int .i64⟩), (9, ⟨false, 1, .one (.str []), .str⟩), (24, ⟨true, 4, .agg [.int .i64 0, .int .i64 0, .int .i64 0, .clip .inode []], .struct [(0, 3), (1, 3), (2, 3), (3, 22)]⟩), (32, ⟨false, 1, .one (.clip .entry []), .slice .entry 90⟩), (34, ⟨true, 6, .agg [.int .i64 0, .int .i64 0, .int .i64 0, .str [], .int .i64 0, .clip .entry []], .struct [(0, 3), (1, 3), (2, 3), (3, 9), (4, 3), (5, 32)]⟩), (38, ⟨true, 3, .agg [.int .i64 0, .str [], .int .i64 0], .struct [(0, 3), (1, 9), (2, 3)]⟩), (84, ⟨false, 1, .one (.clip .str []), .slice .str 9⟩)]
noncomputable def qbjh : List (Nat × List EK) := []
theorem qbji : Tryz.prog.follows .mixedOrders = true := by kernel_rfl
theorem qbjj : (qbjg.all fun x => tiB Tryz.prog x.1 x.2) = true := by kernel_rfl
theorem qbjk {c : Cfg} (h : c.eqs = qbjh := by rfl) : EqsOK Tryz.prog c := eqsOK_of (by rw [h]; kernel_rfl)
noncomputable def qbjl : Code := match Tryz.f21.body with | some b => b | none => .skip
noncomputable def qbjm : Code := match Tryz.f22.body with | some b => b | none => .skip
noncomputable def qbjn : Code := match Tryz.f25.body with | some b => b | none => .skip
noncomputable def qbjo : Code := match Tryz.f27.body with | some b => b | none => .skip
noncomputable def qbjp : Code := match Tryz.f60.body with | some b => b | none => .skip
noncomputable def qbjq : Code := match Tryz.f61.body with | some b => b | none => .skip
noncomputable def qbjr : HS := ⟨[(2, .one (.ptr 0 0)), (4, .one (.ptr 1 0)), (8, .one (.ptr 2 0)), (24, .one (.sl .str)), (25, .one (.int .i64)), (26, .one (.int .i64))], [(0, .cells [.int .i64, .int .i64, .int .i64, .sl .inode]), (1, .cells [.int .i64, .str, .int .i64]), (2, .cells [.int .i64, .str, .int .i64])], 3⟩
noncomputable def qbjs {R : Type} : Nat → HS.V qbjr → (Ex → St → Option R) → Option R := fun q v K =>
  place_At_L6 v.1.2.2.2.1 v.1.2.2.2.2.1 (⟨v.2.1.1, v.2.1.2.1, v.2.1.2.2.1, v.2.1.2.2.2.1⟩ : Fs) (fun y11 => K .ret { regs := [(4, .v (.one (.ptr 1 0))), (5, .v (.one (.int .i64 y11)))], mem := [(1, .cells [.int .i64 ((⟨0, [], 0⟩ : Spotted).dir), .str ((⟨0, [], 0⟩ : Spotted).name), .int .i64 ((⟨0, [], 0⟩ : Spotted).ino)])], nx := 2 }) (fun y14 => K (.exit 0) { regs := [(4, .v (.one (.ptr 1 0))), (8, .v (.one (.ptr 2 0)))], mem := [(1, .cells [.int .i64 ((⟨v.2.2.1.1, v.2.2.1.2.1, v.2.2.1.2.2.1⟩ : Spotted).dir), .str ((⟨v.2.2.1.1, v.2.2.1.2.1, v.2.2.1.2.2.1⟩ : Spotted).name), .int .i64 ((⟨v.2.2.1.1, v.2.2.1.2.1, v.2.2.1.2.2.1⟩ : Spotted).ino)]), (2, .cells [.int .i64 y14.dir, .str y14.name, .int .i64 y14.ino])], nx := 3 }) q v.1.2.2.2.2.2.1 (⟨v.2.2.2.1.1, v.2.2.2.1.2.1, v.2.2.2.1.2.2.1⟩ : Spotted)
noncomputable def qbjt : List HV := [.agg [.int .i64, .int .i64, .int .i64, .sl .inode], .one (.str)]
noncomputable def qbju : List HV := [.agg [.int .i64, .str, .int .i64], .one (.int .i64)]
noncomputable def qbjv : HP.V qbjt → Fs × Str := fun v => ((⟨v.1.1, v.1.2.1, v.1.2.2.1, v.1.2.2.2.1⟩ : Fs), v.2.1)
noncomputable def qbjw : HX.V qbju → Spotted × Int := fun v => ((⟨v.1.1, v.1.2.1, v.1.2.2.1⟩ : Spotted), v.2)
noncomputable def qbjx : (Spotted × Int) → HX.V qbju := fun y => ((y.1.dir, (y.1.name, (y.1.ino, ()))), y.2)
noncomputable def qbjy : (Fs × Str) → Option (Spotted × Int) := fun x => place_At x.1 x.2
noncomputable def qbjz : Spec := mkSpec qbjt qbju qbjv qbjx qbjy
noncomputable def qbj0 {R : Type} : List (Nat × Hd R) := [(6, hdOf qbjr qbjs)]
noncomputable def qbj1 {R : Type} : List (Nat × Inl R) := []
noncomputable def qbj2 : Cfg := { T := qbjg, spec := [(55, qa3d), (56, qbia), (57, qaws)], glob := GlobL.G Tryz.prog, eqs := qbjh, N := 60, fuel := 64, loops := [(6, ⟨[2, 4, 8, 24, 25, 26], [], [0, 1, 2], 3, [], [], [], []⟩)], joins := [], blocks := [(0, ⟨[4, 8], [], [1, 2], 3, [], [], [], []⟩)], ovl := [], retA := some ⟨[4, 5], [], [1], 2, [], [], [], []⟩, fid := 21, rnd := false, saves := [] }
theorem qbj3 : CfgOK Tryz.prog qbj2 := ⟨tsOK_of qbjj, specsL_ok (show SpecsL Tryz.prog qbj2.spec from ⟨qa7g, ⟨qbij, ⟨qaw1, trivial⟩⟩⟩), qbjk, ovlL_ok (trivial), globsOK_of rfl, freshL_ok (show FreshL Tryz.prog qbj2.fresh from trivial), specsL_ok (show SpecsL Tryz.prog qbj2.gns from trivial)⟩
theorem qbj4 {R : Type} : SubsOK Tryz.prog (R := R) 0 qbj1 := subsOK_nil _ _
theorem qbj5 {R : Type} : LoopOK (R := R) (hnd 0 qbj1) qbj2 qbj0 (sub [1, 1, 1, 1, 0, 1, 0, 0] qbjl) (HS.V qbjr) (HS.st qbjr) (HS.sh qbjr) qbjs (hdOf qbjr qbjs) := loopOK_of qbjr qbjs (fun _ _ => rfl) (by intro q v K; kernel_rfl)
theorem qbj6 {R : Type} : LoopsOK (R := R) (hnd 0 qbj1) qbj2 qbj0 qbjl := loopsOK_of (l := [sub [1, 1, 1, 1, 0, 1, 0, 0] qbjl]) (by kernel_rfl) (loopsL_cons (b := sub [1, 1, 1, 1, 0, 1, 0, 0] qbjl) (rid := 6) (by kernel_rfl) (by kernel_rfl) qbj5 (trivial))
theorem qbj7 : RngsOK Tryz.prog qbj2 qbjl := rngs0 (by kernel_rfl)
theorem qbj8 : ∀ v, runFn (hnd 0 qbj1) qbj2 qbj0 qbjl Tryz.f21.results.toList (HP.st qbjt v) (decOf qbju qbjw) = qbjy (qbjv v) := by intro v; kernel_rfl
theorem qbj9 : SpecOK Tryz.prog 21 qbjz := specOK_mk (fn := Tryz.f21) (by kernel_rfl) (by kernel_rfl) (by kernel_rfl) qbj3 (by kernel_rfl) (by kernel_rfl) qbji (by kernel_rfl) (fun _ => rfl) (d := 0) qbj4 qbj6 qbj7 qbj8
noncomputable def qbka : List HV := [.agg [.int .i64, .int .i64, .int .i64, .sl .inode], .one (.str)]
noncomputable def qbkb : List HV := [.agg [.int .i64, .int .i64, .int .i64, .str, .int .i64, .sl .entry], .one (.int .i64)]
noncomputable def qbkc : HP.V qbka → Fs × Str := fun v => ((⟨v.1.1, v.1.2.1, v.1.2.2.1, v.1.2.2.2.1⟩ : Fs), v.2.1)
noncomputable def qbkd : HX.V qbkb → Inode × Int := fun v => ((⟨v.1.1, v.1.2.1, v.1.2.2.1, v.1.2.2.2.1, v.1.2.2.2.2.1, v.1.2.2.2.2.2.1⟩ : Inode), v.2)
noncomputable def qbke : (Inode × Int) → HX.V qbkb := fun y => ((y.1.ino, (y.1.kind, (y.1.links, (y.1.data, (y.1.parent, (y.1.entries, ())))))), y.2)
noncomputable def qbkf : (Fs × Str) → Option (Inode × Int) := fun x => place_Get x.1 x.2
noncomputable def qbkg : Spec := mkSpec qbka qbkb qbkc qbke qbkf
noncomputable def qbkh {R : Type} : List (Nat × Hd R) := []
noncomputable def qbki {R : Type} : List (Nat × Inl R) := []
noncomputable def qbkj : Cfg := { T := qbjg, spec := [(21, qbjz), (56, qbia)], glob := GlobL.G Tryz.prog, eqs := qbjh, N := 31, fuel := 64, loops := [], joins := [], blocks := [], ovl := [], retA := none, fid := 22, rnd := false, saves := [] }
theorem qbkk : CfgOK Tryz.prog qbkj := ⟨tsOK_of qbjj, specsL_ok (show SpecsL Tryz.prog qbkj.spec from ⟨qbj9, ⟨qbij, trivial⟩⟩), qbjk, ovlL_ok (trivial), globsOK_of rfl, freshL_ok (show FreshL Tryz.prog qbkj.fresh from trivial), specsL_ok (show SpecsL Tryz.prog qbkj.gns from trivial)⟩
theorem qbkl {R : Type} : SubsOK Tryz.prog (R := R) 0 qbki := subsOK_nil _ _
theorem qbkm {R : Type} : LoopsOK (R := R) (hnd 0 qbki) qbkj qbkh qbjm := loopsOK_of (l := []) (by kernel_rfl) (trivial)
theorem qbkn : RngsOK Tryz.prog qbkj qbjm := rngs0 (by kernel_rfl)
theorem qbko : ∀ v, runFn (hnd 0 qbki) qbkj qbkh qbjm Tryz.f22.results.toList (HP.st qbka v) (decOf qbkb qbkd) = qbkf (qbkc v) := by intro v; kernel_rfl
theorem qbkp : SpecOK Tryz.prog 22 qbkg := specOK_mk (fn := Tryz.f22) (by kernel_rfl) (by kernel_rfl) (by kernel_rfl) qbkk (by kernel_rfl) (by kernel_rfl) qbji (by kernel_rfl) (fun _ => rfl) (d := 0) qbkl qbkm qbkn qbko
noncomputable def qbkq : List HV := [.agg [.int .i64, .int .i64, .int .i64, .sl .inode], .one (.str), .one (.int .i64)]
noncomputable def qbkr : List HV := [.agg [.int .i64, .int .i64, .int .i64, .sl .inode]]
noncomputable def qbks : HP.V qbkq → Fs × Str × Int := fun v => ((⟨v.1.1, v.1.2.1, v.1.2.2.1, v.1.2.2.2.1⟩ : Fs), v.2.1, v.2.2.1)
noncomputable def qbkt : HX.V qbkr → Fs := fun v => ((⟨v.1, v.2.1, v.2.2.1, v.2.2.2.1⟩ : Fs))
noncomputable def qbku : Fs → HX.V qbkr := fun y => ((y.maxInodes, (y.maxBytes, (y.next, (y.inodes, ())))))
noncomputable def qbkv : (Fs × Str × Int) → Option (Fs) := fun x => place_Put x.1 x.2.1 x.2.2
noncomputable def qbkw : Spec := mkSpec qbkq qbkr qbks qbku qbkv
noncomputable def qbkx {R : Type} : List (Nat × Hd R) := []
noncomputable def qbky {R : Type} : List (Nat × Inl R) := []
noncomputable def qbkz : Cfg := { T := qbjg, spec := [(21, qbjz), (56, qbia), (62, qaw8), (70, qbiq)], glob := GlobL.G Tryz.prog, eqs := qbjh, N := 10, fuel := 64, loops := [], joins := [], blocks := [], ovl := [], retA := none, fid := 61, rnd := false, saves := [] }
theorem qbk0 : CfgOK Tryz.prog qbkz := ⟨tsOK_of qbjj, specsL_ok (show SpecsL Tryz.prog qbkz.spec from ⟨qbj9, ⟨qbij, ⟨qaxx, ⟨qbjf, trivial⟩⟩⟩⟩), qbjk, ovlL_ok (trivial), globsOK_of rfl, freshL_ok (show FreshL Tryz.prog qbkz.fresh from trivial), specsL_ok (show SpecsL Tryz.prog qbkz.gns from trivial)⟩
theorem qbk1 {R : Type} : SubsOK Tryz.prog (R := R) 0 qbky := subsOK_nil _ _
theorem qbk2 {R : Type} : LoopsOK (R := R) (hnd 0 qbky) qbkz qbkx qbjq := loopsOK_of (l := []) (by kernel_rfl) (trivial)
theorem qbk3 : RngsOK Tryz.prog qbkz qbjq := rngs0 (by kernel_rfl)
noncomputable def qbk4 {R : Type} : Inl R := .mk 61 qbkz qbkx qbjq Tryz.f61.results.toList qbky
noncomputable def qbk5 {R : Type} : List (Nat × Hd R) := []
noncomputable def qbk6 {R : Type} : List (Nat × Inl R) := [(36, qbk4)]
noncomputable def qbk7 : Cfg := { T := qbjg, spec := [(21, qbjz), (56, qbia), (70, qbiq)], glob := GlobL.G Tryz.prog, eqs := qbjh, N := 41, fuel := 64, loops := [], joins := [], blocks := [], ovl := [], retA := none, fid := 60, rnd := false, saves := [] }
theorem qbk8 : CfgOK Tryz.prog qbk7 := ⟨tsOK_of qbjj, specsL_ok (show SpecsL Tryz.prog qbk7.spec from ⟨qbj9, ⟨qbij, ⟨qbjf, trivial⟩⟩⟩), qbjk, ovlL_ok (trivial), globsOK_of rfl, freshL_ok (show FreshL Tryz.prog qbk7.fresh from trivial), specsL_ok (show SpecsL Tryz.prog qbk7.gns from trivial)⟩
theorem qbk9 {R : Type} : SubsOK Tryz.prog (R := R) 1 qbk6 := subsOK_cons (fn := Tryz.f61) (by kernel_rfl) (by kernel_rfl) (by kernel_rfl) (by kernel_rfl) (by kernel_rfl) qbk0 qbk2 qbk3 qbk1 (subsOK_nil _ _)
theorem qbla {R : Type} : LoopsOK (R := R) (hnd 1 qbk6) qbk7 qbk5 qbjp := loopsOK_of (l := []) (by kernel_rfl) (trivial)
theorem qblb : RngsOK Tryz.prog qbk7 qbjp := rngs0 (by kernel_rfl)
noncomputable def qblc {R : Type} : Inl R := .mk 60 qbk7 qbk5 qbjp Tryz.f60.results.toList qbk6
noncomputable def qbld {R : Type} : List (Nat × Hd R) := []
noncomputable def qble {R : Type} : List (Nat × Inl R) := [(10, qblc)]
noncomputable def qblf : Cfg := { T := qbjg, spec := [], glob := GlobL.G Tryz.prog, eqs := qbjh, N := 11, fuel := 64, loops := [], joins := [], blocks := [], ovl := [], retA := none, fid := 25, rnd := false, saves := [] }
theorem qblg : CfgOK Tryz.prog qblf := ⟨tsOK_of qbjj, specsL_ok (show SpecsL Tryz.prog qblf.spec from trivial), qbjk, ovlL_ok (trivial), globsOK_of rfl, freshL_ok (show FreshL Tryz.prog qblf.fresh from trivial), specsL_ok (show SpecsL Tryz.prog qblf.gns from trivial)⟩
theorem qblh {R : Type} : SubsOK Tryz.prog (R := R) 2 qble := subsOK_cons (fn := Tryz.f60) (by kernel_rfl) (by kernel_rfl) (by kernel_rfl) (by kernel_rfl) (by kernel_rfl) qbk8 qbla qblb qbk9 (subsOK_nil _ _)
theorem qbli {R : Type} : LoopsOK (R := R) (hnd 2 qble) qblf qbld qbjn := loopsOK_of (l := []) (by kernel_rfl) (trivial)
theorem qblj : RngsOK Tryz.prog qblf qbjn := rngs0 (by kernel_rfl)
theorem qblk : ∀ v, runFn (hnd 2 qble) qblf qbld qbjn Tryz.f25.results.toList (HP.st qbkq v) (decOf qbkr qbkt) = qbkv (qbks v) := by intro v; kernel_rfl
theorem qbll : SpecOK Tryz.prog 25 qbkw := specOK_mk (fn := Tryz.f25) (by kernel_rfl) (by kernel_rfl) (by kernel_rfl) qblg (by kernel_rfl) (by kernel_rfl) qbji (by kernel_rfl) (fun _ => rfl) (d := 2) qblh qbli qblj qblk
noncomputable def qblm : List HV := [.agg [.int .i64, .int .i64, .int .i64, .sl .inode], .one (.str)]
noncomputable def qbln : List HV := [.agg [.int .i64, .int .i64, .int .i64, .sl .inode]]
noncomputable def qblo : HP.V qblm → Fs × Str := fun v => ((⟨v.1.1, v.1.2.1, v.1.2.2.1, v.1.2.2.2.1⟩ : Fs), v.2.1)
noncomputable def qblp : HX.V qbln → Fs := fun v => ((⟨v.1, v.2.1, v.2.2.1, v.2.2.2.1⟩ : Fs))
noncomputable def qblq : Fs → HX.V qbln := fun y => ((y.maxInodes, (y.maxBytes, (y.next, (y.inodes, ())))))
noncomputable def qblr : (Fs × Str) → Option (Fs) := fun x => place_Take x.1 x.2
noncomputable def qbls : Spec := mkSpec qblm qbln qblo qblq qblr
noncomputable def qblt {R : Type} : List (Nat × Hd R) := []
noncomputable def qblu {R : Type} : List (Nat × Inl R) := []
noncomputable def qblv : Cfg := { T := qbjg, spec := [(21, qbjz), (56, qbia), (64, qax4), (70, qbiq)], glob := GlobL.G Tryz.prog, eqs := qbjh, N := 41, fuel := 64, loops := [], joins := [], blocks := [], ovl := [], retA := none, fid := 60, rnd := false, saves := [] }
theorem qblw : CfgOK Tryz.prog qblv := ⟨tsOK_of qbjj, specsL_ok (show SpecsL Tryz.prog qblv.spec from ⟨qbj9, ⟨qbij, ⟨qayl, ⟨qbjf, trivial⟩⟩⟩⟩), qbjk, ovlL_ok (trivial), globsOK_of rfl, freshL_ok (show FreshL Tryz.prog qblv.fresh from trivial), specsL_ok (show SpecsL Tryz.prog qblv.gns from trivial)⟩
theorem qblx {R : Type} : SubsOK Tryz.prog (R := R) 0 qblu := subsOK_nil _ _
theorem qbly {R : Type} : LoopsOK (R := R) (hnd 0 qblu) qblv qblt qbjp := loopsOK_of (l := []) (by kernel_rfl) (trivial)
theorem qblz : RngsOK Tryz.prog qblv qbjp := rngs0 (by kernel_rfl)
noncomputable def qbl0 {R : Type} : Inl R := .mk 60 qblv qblt qbjp Tryz.f60.results.toList qblu
noncomputable def qbl1 {R : Type} : List (Nat × Hd R) := []
noncomputable def qbl2 {R : Type} : List (Nat × Inl R) := [(7, qbl0)]
noncomputable def qbl3 : Cfg := { T := qbjg, spec := [(64, qax4)], glob := GlobL.G Tryz.prog, eqs := qbjh, N := 8, fuel := 64, loops := [], joins := [], blocks := [], ovl := [], retA := none, fid := 27, rnd := false, saves := [] }
theorem qbl4 : CfgOK Tryz.prog qbl3 := ⟨tsOK_of qbjj, specsL_ok (show SpecsL Tryz.prog qbl3.spec from ⟨qayl, trivial⟩), qbjk, ovlL_ok (trivial), globsOK_of rfl, freshL_ok (show FreshL Tryz.prog qbl3.fresh from trivial), specsL_ok (show SpecsL Tryz.prog qbl3.gns from trivial)⟩
theorem qbl5 {R : Type} : SubsOK Tryz.prog (R := R) 1 qbl2 := subsOK_cons (fn := Tryz.f60) (by kernel_rfl) (by kernel_rfl) (by kernel_rfl) (by kernel_rfl) (by kernel_rfl) qblw qbly qblz qblx (subsOK_nil _ _)
theorem qbl6 {R : Type} : LoopsOK (R := R) (hnd 1 qbl2) qbl3 qbl1 qbjo := loopsOK_of (l := []) (by kernel_rfl) (trivial)
theorem qbl7 : RngsOK Tryz.prog qbl3 qbjo := rngs0 (by kernel_rfl)
theorem qbl8 : ∀ v, runFn (hnd 1 qbl2) qbl3 qbl1 qbjo Tryz.f27.results.toList (HP.st qblm v) (decOf qbln qblp) = qblr (qblo v) := by intro v; kernel_rfl
theorem qbl9 : SpecOK Tryz.prog 27 qbls := specOK_mk (fn := Tryz.f27) (by kernel_rfl) (by kernel_rfl) (by kernel_rfl) qbl4 (by kernel_rfl) (by kernel_rfl) qbji (by kernel_rfl) (fun _ => rfl) (d := 1) qbl5 qbl6 qbl7 qbl8
end Go.Eng
set_option linter.unusedVariables false
set_option maxRecDepth 100000
namespace Go.Eng
open Go Go.Proofs
noncomputable def qbma : List (Nat × TI) := [(3, ⟨false, 1, .one (.int .i64 0), .int .i64⟩), (9, ⟨false, 1, .one (.str []), .str⟩), (84, ⟨false, 1, .one (.clip .str []), .slice .str 9⟩), (140, ⟨false, 1, .one (.clip .strs []), .slice .strs 84⟩)]
noncomputable def qbmb : List (Nat × List EK) := []
theorem qbmc : Tryz.prog.follows .mixedOrders = true := by kernel_rfl
theorem qbmd : (qbma.all fun x => tiB Tryz.prog x.1 x.2) = true := by kernel_rfl
theorem qbme {c : Cfg} (h : c.eqs = qbmb := by rfl) : EqsOK Tryz.prog c := eqsOK_of (by rw [h]; kernel_rfl)
noncomputable def qbmf : Code := match Tryz.f109.body with | some b => b | none => .skip
noncomputable def qbmg : Code := match Tryz.f128.body with | some b => b | none => .skip
noncomputable def qbmh : HS := ⟨[(0, .one (.sl .strs)), (3, .one (.int .i64)), (9, .one (.sl .strs)), (10, .one (.int .i64)), (11, .one (.int .i64))], [], 0⟩
noncomputable def qbmi {R : Type} : Nat → HS.V qbmh → (Ex → St → Option R) → Option R := fun q v K =>
  slices_Concat_string_L3 v.1.2.2.1 v.1.2.2.2.1 (fun y8 => K (.exit 0) { regs := [(0, .v (.one (.sl .strs v.1.1))), (3, .v (.one (.int .i64 y8)))], mem := [], nx := 0 }) q v.1.2.1 v.1.2.2.2.2.1
noncomputable def qbmj : HS := ⟨[(6, .one (.sub 0)), (25, .one (.sl .strs)), (26, .one (.int .i64)), (27, .one (.int .i64))], [(0, .row .str)], 1⟩
noncomputable def qbmk {R : Type} : Nat → HS.V qbmj → (Ex → St → Option R) → Option R := fun q v K =>
  slices_Concat_string_L11 v.1.1.1 v.1.2.1 v.1.2.2.1 (fun y18 y19 => K (.exit 2) { regs := [(6, .v (.one (.sub 0 v.1.1.1 y18)))], mem := [(0, .row .str y19)], nx := 1 }) q v.1.1.2 v.1.2.2.2.1 v.2.1
noncomputable def qbml : List HV := [.one (.sl .strs)]
noncomputable def qbmm : List HV := [.one (.sl .str)]
noncomputable def qbmn : HP.V qbml → (List (List Str)) := fun v => (v.1)
noncomputable def qbmo : HX.V qbmm → (List Str) := fun v => (v)
noncomputable def qbmp : (List Str) → HX.V qbmm := fun y => (y)
noncomputable def qbmq : (List (List Str)) → Option ((List Str)) := fun x => slices_Concat_string x
noncomputable def qbmr : Spec := mkSpec qbml qbmm qbmn qbmp qbmq
noncomputable def qbms {R : Type} : List (Nat × Hd R) := []
noncomputable def qbmt {R : Type} : List (Nat × Inl R) := []
noncomputable def qbmu : Cfg := { T := qbma, spec := [], glob := GlobL.G Tryz.prog, eqs := qbmb, N := 27, fuel := 64, loops := [], joins := [], blocks := [], ovl := [], retA := none, fid := 128, rnd := false, saves := [], nilc := true }
theorem qbmv : CfgOK Tryz.prog qbmu := ⟨tsOK_of qbmd, specsL_ok (show SpecsL Tryz.prog qbmu.spec from trivial), qbme, ovlL_ok (trivial), globsOK_of rfl, freshL_ok (show FreshL Tryz.prog qbmu.fresh from trivial), specsL_ok (show SpecsL Tryz.prog qbmu.gns from trivial)⟩
theorem qbmw {R : Type} : SubsOK Tryz.prog (R := R) 0 qbmt := subsOK_nil _ _
theorem qbmx {R : Type} : LoopsOK (R := R) (hnd 0 qbmt) qbmu qbms qbmg := loopsOK_of (l := []) (by kernel_rfl) (trivial)
theorem qbmy : RngsOK Tryz.prog qbmu qbmg := rngs0 (by kernel_rfl)
noncomputable def qbmz {R : Type} : Inl R := .mk 128 qbmu qbms qbmg Tryz.f128.results.toList qbmt
noncomputable def qbm0 {R : Type} : List (Nat × Hd R) := [(3, hdOf qbmh qbmi), (11, hdOf qbmj qbmk)]
noncomputable def qbm1 {R : Type} : List (Nat × Inl R) := [(24, qbmz)]
noncomputable def qbm2 : Cfg := { T := qbma, spec := [], glob := GlobL.G Tryz.prog, eqs := qbmb, N := 36, fuel := 64, loops := [(11, ⟨[6, 25, 26, 27], [], [0], 1, [], [], [], [(6, 0, .str)]⟩), (3, ⟨[0, 3, 9, 10, 11], [], [], 0, [], [], [], []⟩)], joins := [], blocks := [(2, ⟨[6], [], [0], 1, [], [], [], []⟩), (0, ⟨[0, 3], [], [], 0, [], [], [], []⟩)], ovl := [], retA := none, fid := 109, rnd := false, saves := [], nilc := true }
theorem qbm3 : CfgOK Tryz.prog qbm2 := ⟨tsOK_of qbmd, specsL_ok (show SpecsL Tryz.prog qbm2.spec from trivial), qbme, ovlL_ok (trivial), globsOK_of rfl, freshL_ok (show FreshL Tryz.prog qbm2.fresh from trivial), specsL_ok (show SpecsL Tryz.prog qbm2.gns from trivial)⟩
theorem qbm4 {R : Type} : SubsOK Tryz.prog (R := R) 1 qbm1 := subsOK_cons (fn := Tryz.f128) (by kernel_rfl) (by kernel_rfl) (by kernel_rfl) (by kernel_rfl) (by kernel_rfl) qbmv qbmx qbmy qbmw (subsOK_nil _ _)
theorem qbm5 {R : Type} : LoopOK (R := R) (hnd 1 qbm1) qbm2 qbm0 (sub [1, 1, 0, 1, 0, 0] qbmf) (HS.V qbmh) (HS.st qbmh) (HS.sh qbmh) qbmi (hdOf qbmh qbmi) := loopOK_of qbmh qbmi (fun _ _ => rfl) (by intro q v K; kernel_rfl)
theorem qbm6 {R : Type} : LoopOK (R := R) (hnd 1 qbm1) qbm2 qbm0 (sub [1, 1, 1, 1, 0, 1, 0, 0] qbmf) (HS.V qbmj) (HS.st qbmj) (HS.sh qbmj) qbmk (hdOf qbmj qbmk) := loopOK_of qbmj qbmk (fun _ _ => rfl) (by intro q v K; kernel_rfl)
theorem qbm7 {R : Type} : LoopsOK (R := R) (hnd 1 qbm1) qbm2 qbm0 qbmf := loopsOK_of (l := [sub [1, 1, 0, 1, 0, 0] qbmf, sub [1, 1, 1, 1, 0, 1, 0, 0] qbmf]) (by kernel_rfl) (loopsL_cons (b := sub [1, 1, 0, 1, 0, 0] qbmf) (rid := 3) (by kernel_rfl) (by kernel_rfl) qbm5 (loopsL_cons (b := sub [1, 1, 1, 1, 0, 1, 0, 0] qbmf) (rid := 11) (by kernel_rfl) (by kernel_rfl) qbm6 (trivial)))
theorem qbm8 : RngsOK Tryz.prog qbm2 qbmf := rngs0 (by kernel_rfl)
theorem qbm9 : ∀ v, runFn (hnd 1 qbm1) qbm2 qbm0 qbmf Tryz.f109.results.toList (HP.st qbml v) (decOf qbmm qbmo) = qbmq (qbmn v) := by intro v; kernel_rfl
theorem qbna : SpecOK Tryz.prog 109 qbmr := specOK_mk (fn := Tryz.f109) (by kernel_rfl) (by kernel_rfl) (by kernel_rfl) qbm3 (by kernel_rfl) (by kernel_rfl) qbmc (by kernel_rfl) (fun _ => rfl) (d := 1) qbm4 qbm7 qbm8 qbm9
end Go.Eng
set_option linter.unusedVariables false
set_option maxRecDepth 100000
namespace Go.Eng
open Go Go.Proofs
noncomputable def qbnb : List (Nat × TI) := [(3, ⟨false, 1, .one (.int .i64 0), .int .i64⟩), (4, ⟨false, 1, .one (.bool false), .bool⟩), (9, ⟨false, 1, .one (.str []), .str⟩), (24, ⟨true, 4, .agg [.int .i64 0, .int .i64 0, .int .i64 0, .clip .inode []], .struct [(0, 3), (1, 3), (2, 3), (3, 22)]⟩), (32, ⟨false, 1, .one (.clip .entry []), .slice .entry 90⟩), (34, ⟨true, 6, .agg [.int .i64 0, .int .i64 0, .int .i64 0, .str [], .int .i64 0, .clip .entry []], .struct [(0, 3), (1, 3), (2, 3), (3, 9), (4, 3), (5, 32)]⟩), (38, ⟨true, 3, .agg [.int .i64 0, .str [], .int .i64 0], .struct [(0, 3), (1, 9), (2, 3)]⟩), (84, ⟨false, 1, .one (.clip .str []), .slice .str 9⟩), (101, ⟨true, 3, .agg [.bool false, .clip .str [], .bool false], .struct [(0, 4), (1, 84), (2, 4)]⟩), (104, ⟨true, 11, .agg [.int .i64 0, .int .i64 0, .int .i64 0, .clip .inode [], .bool false, .bool false, .clip .str [], .int .i64 0, .str [], .int .i64 0, .int .i64 0], .struct [(0, 24), (4, 4), (5, 4), (6, 84), (7, 38), (10, 3)]⟩), (140, ⟨false, 1, .one (.clip .strs []), .slice .strs 84⟩)]
noncomputable def qbnc : List (Nat × List EK) := []
theorem qbnd : Tryz.prog.follows .mixedOrders = true := by kernel_rfl
theorem qbne : (qbnb.all fun x => tiB Tryz.prog x.1 x.2) = true := by kernel_rfl
theorem qbnf {c : Cfg} (h : c.eqs = qbnc := by rfl) : EqsOK Tryz.prog c := eqsOK_of (by rw [h]; kernel_rfl)
noncomputable def qbng : Code := match Tryz.f17.body with | some b => b | none => .skip
noncomputable def qbnh : Code := match Tryz.f46.body with | some b => b | none => .skip
noncomputable def qbni : Code := match Tryz.f47.body with | some b => b | none => .skip
noncomputable def qbnj : Code := match Tryz.f50.body with | some b => b | none => .skip
noncomputable def qbnk : Code := match Tryz.f51.body with | some b => b | none => .skip
noncomputable def qbnl : Code := match Tryz.f80.body with | some b => b | none => .skip
noncomputable def qbnm : Code := match Tryz.f81.body with | some b => b | none => .skip
noncomputable def qbnn : List HV := [.agg [.int .i64, .int .i64, .int .i64, .sl .inode], .one (.str)]
noncomputable def qbno : List HV := [.one (.int .i64), .one (.int .i64)]
noncomputable def qbnp : HP.V qbnn → Fs × Str := fun v => ((⟨v.1.1, v.1.2.1, v.1.2.2.1, v.1.2.2.2.1⟩ : Fs), v.2.1)
noncomputable def qbnq : HX.V qbno → Int × Int := fun v => (v.1, v.2)
noncomputable def qbnr : (Int × Int) → HX.V qbno := fun y => (y.1, y.2)
noncomputable def qbns : (Fs × Str) → Option (Int × Int) := fun x => seek_Home x.1 x.2
noncomputable def qbnt : Spec := mkSpec qbnn qbno qbnp qbnr qbns
noncomputable def qbnu {R : Type} : List (Nat × Hd R) := []
noncomputable def qbnv {R : Type} : List (Nat × Inl R) := []
noncomputable def qbnw : Cfg := { T := qbnb, spec := [(22, qbkg)], glob := GlobL.G Tryz.prog, eqs := qbnc, N := 24, fuel := 64, loops := [], joins := [], blocks := [], ovl := [], retA := none, fid := 46, rnd := false, saves := [] }
theorem qbnx : CfgOK Tryz.prog qbnw := ⟨tsOK_of qbne, specsL_ok (show SpecsL Tryz.prog qbnw.spec from ⟨qbkp, trivial⟩), qbnf, ovlL_ok (trivial), globsOK_of rfl, freshL_ok (show FreshL Tryz.prog qbnw.fresh from trivial), specsL_ok (show SpecsL Tryz.prog qbnw.gns from trivial)⟩
theorem qbny {R : Type} : SubsOK Tryz.prog (R := R) 0 qbnv := subsOK_nil _ _
theorem qbnz {R : Type} : LoopsOK (R := R) (hnd 0 qbnv) qbnw qbnu qbnh := loopsOK_of (l := []) (by kernel_rfl) (trivial)
theorem qbn0 : RngsOK Tryz.prog qbnw qbnh := rngs0 (by kernel_rfl)
theorem qbn1 : ∀ v, runFn (hnd 0 qbnv) qbnw qbnu qbnh Tryz.f46.results.toList (HP.st qbnn v) (decOf qbno qbnq) = qbns (qbnp v) := by intro v; kernel_rfl
theorem qbn2 : SpecOK Tryz.prog 46 qbnt := specOK_mk (fn := Tryz.f46) (by kernel_rfl) (by kernel_rfl) (by kernel_rfl) qbnx (by kernel_rfl) (by kernel_rfl) qbnd (by kernel_rfl) (fun _ => rfl) (d := 0) qbny qbnz qbn0 qbn1
noncomputable def qbn3 : HS := ⟨[(0, .one (.ptr 4 0)), (2, .one (.ptr 5 0)), (1000008, .one (.ptr 1 0))], [(1, .cells [.int .i64, .str, .int .i64]), (4, .cells [.int .i64, .int .i64, .int .i64, .sl .inode, .bool, .bool, .sl .str, .int .i64, .str, .int .i64, .int .i64]), (5, .cells [.int .i64, .str, .int .i64])], 6⟩
noncomputable def qbn4 {R : Type} : Nat → HS.V qbn3 → (Ex → St → Option R) → Option R := fun q v K =>
  seek_Seek_25_L1 v.2.2.1.1 v.2.2.1.2.1 v.2.2.1.2.2.1 v.2.2.1.2.2.2.1 v.2.2.1.2.2.2.2.1 (fun y36 => K .ret { regs := [(2, .v (.one (.ptr 5 0))), (3, .v (.one (.int .i64 y36))), (1000008, .v (.one (.ptr 1 0)))], mem := [(1, .cells [.int .i64 ((⟨v.2.1.1, v.2.1.2.1, v.2.1.2.2.1⟩ : Spotted).dir), .str ((⟨v.2.1.1, v.2.1.2.1, v.2.1.2.2.1⟩ : Spotted).name), .int .i64 ((⟨v.2.1.1, v.2.1.2.1, v.2.1.2.2.1⟩ : Spotted).ino)]), (5, .cells [.int .i64 ((⟨0, [], 0⟩ : Spotted).dir), .str ((⟨0, [], 0⟩ : Spotted).name), .int .i64 ((⟨0, [], 0⟩ : Spotted).ino)])], nx := 6 }) (fun y45 y46 y47 y48 y49 y50 => K (.exit 0) { regs := [(0, .v (.one (.ptr 4 0))), (2, .v (.one (.ptr 5 0))), (1000008, .v (.one (.ptr 1 0)))], mem := [(1, .cells [.int .i64 ((⟨v.2.1.1, v.2.1.2.1, v.2.1.2.2.1⟩ : Spotted).dir), .str ((⟨v.2.1.1, v.2.1.2.1, v.2.1.2.2.1⟩ : Spotted).name), .int .i64 ((⟨v.2.1.1, v.2.1.2.1, v.2.1.2.2.1⟩ : Spotted).ino)]), (4, .cells [.int .i64 v.2.2.1.1, .int .i64 v.2.2.1.2.1, .int .i64 v.2.2.1.2.2.1, .sl .inode v.2.2.1.2.2.2.1, .bool v.2.2.1.2.2.2.2.1, .bool y45, .sl .str y46, .int .i64 y47, .str y48, .int .i64 y49, .int .i64 y50]), (5, .cells [.int .i64 ((⟨v.2.2.2.1.1, v.2.2.2.1.2.1, v.2.2.2.1.2.2.1⟩ : Spotted).dir), .str ((⟨v.2.2.2.1.1, v.2.2.2.1.2.1, v.2.2.2.1.2.2.1⟩ : Spotted).name), .int .i64 ((⟨v.2.2.2.1.1, v.2.2.2.1.2.1, v.2.2.2.1.2.2.1⟩ : Spotted).ino)])], nx := 6 }) q v.2.2.1.2.2.2.2.2.1 v.2.2.1.2.2.2.2.2.2.1 v.2.2.1.2.2.2.2.2.2.2.1 v.2.2.1.2.2.2.2.2.2.2.2.1 v.2.2.1.2.2.2.2.2.2.2.2.2.1 v.2.2.1.2.2.2.2.2.2.2.2.2.2.1
noncomputable def qbn5 : List HV := [.agg [.int .i64, .int .i64, .int .i64, .sl .inode], .one (.str), .one (.str), .one (.bool)]
noncomputable def qbn6 : List HV := [.agg [.int .i64, .str, .int .i64], .one (.int .i64)]
noncomputable def qbn7 : HP.V qbn5 → Fs × Str × Str × Bool := fun v => ((⟨v.1.1, v.1.2.1, v.1.2.2.1, v.1.2.2.2.1⟩ : Fs), v.2.1, v.2.2.1, v.2.2.2.1)
noncomputable def qbn8 : HX.V qbn6 → Spotted × Int := fun v => ((⟨v.1.1, v.1.2.1, v.1.2.2.1⟩ : Spotted), v.2)
noncomputable def qbn9 : (Spotted × Int) → HX.V qbn6 := fun y => ((y.1.dir, (y.1.name, (y.1.ino, ()))), y.2)
noncomputable def qboa : (Fs × Str × Str × Bool) → Option (Spotted × Int) := fun x => seek_Seek x.1 x.2.1 x.2.2.1 x.2.2.2
noncomputable def qbob : Spec := mkSpec qbn5 qbn6 qbn7 qbn9 qboa
noncomputable def qboc {R : Type} : List (Nat × Hd R) := []
noncomputable def qbod {R : Type} : List (Nat × Inl R) := []
noncomputable def qboe : Cfg := { T := qbnb, spec := [(46, qbnt), (78, qa7p), (79, qbaw)], glob := GlobL.G Tryz.prog, eqs := qbnc, N := 49, fuel := 64, loops := [], joins := [], blocks := [], ovl := [], retA := none, fid := 50, rnd := false, saves := [] }
theorem qbof : CfgOK Tryz.prog qboe := ⟨tsOK_of qbne, specsL_ok (show SpecsL Tryz.prog qboe.spec from ⟨qbn2, ⟨qban, ⟨qbe6, trivial⟩⟩⟩), qbnf, ovlL_ok (trivial), globsOK_of rfl, freshL_ok (show FreshL Tryz.prog qboe.fresh from trivial), specsL_ok (show SpecsL Tryz.prog qboe.gns from trivial)⟩
theorem qbog {R : Type} : SubsOK Tryz.prog (R := R) 1 qbod := subsOK_nil _ _
theorem qboh {R : Type} : LoopsOK (R := R) (hnd 1 qbod) qboe qboc qbnj := loopsOK_of (l := []) (by kernel_rfl) (trivial)
theorem qboi : RngsOK Tryz.prog qboe qbnj := rngs0 (by kernel_rfl)
noncomputable def qboj {R : Type} : Inl R := .mk 50 qboe qboc qbnj Tryz.f50.results.toList qbod
noncomputable def qbok {R : Type} : List (Nat × Hd R) := []
noncomputable def qbol {R : Type} : List (Nat × Inl R) := []
noncomputable def qbom : Cfg := { T := qbnb, spec := [(56, qbia), (57, qaws), (78, qa7p), (79, qbaw)], glob := GlobL.G Tryz.prog, eqs := qbnc, N := 70, fuel := 64, loops := [], joins := [], blocks := [], ovl := [], retA := none, fid := 80, rnd := false, saves := [], gns := [(109, qbmr)] }
theorem qbon : CfgOK Tryz.prog qbom := ⟨tsOK_of qbne, specsL_ok (show SpecsL Tryz.prog qbom.spec from ⟨qbij, ⟨qaw1, ⟨qban, ⟨qbe6, trivial⟩⟩⟩⟩), qbnf, ovlL_ok (trivial), globsOK_of rfl, freshL_ok (show FreshL Tryz.prog qbom.fresh from trivial), specsL_ok (show SpecsL Tryz.prog qbom.gns from ⟨qbna, trivial⟩)⟩
theorem qboo {R : Type} : SubsOK Tryz.prog (R := R) 0 qbol := subsOK_nil _ _
theorem qbop {R : Type} : LoopsOK (R := R) (hnd 0 qbol) qbom qbok qbnl := loopsOK_of (l := []) (by kernel_rfl) (trivial)
theorem qboq : RngsOK Tryz.prog qbom qbnl := rngs0 (by kernel_rfl)
noncomputable def qbor {R : Type} : Inl R := .mk 80 qbom qbok qbnl Tryz.f80.results.toList qbol
noncomputable def qbos {R : Type} : List (Nat × Hd R) := []
noncomputable def qbot {R : Type} : List (Nat × Inl R) := []
noncomputable def qbou : Cfg := { T := qbnb, spec := [(56, qbia), (57, qaws)], glob := GlobL.G Tryz.prog, eqs := qbnc, N := 36, fuel := 64, loops := [], joins := [], blocks := [], ovl := [], retA := none, fid := 81, rnd := false, saves := [] }
theorem qbov : CfgOK Tryz.prog qbou := ⟨tsOK_of qbne, specsL_ok (show SpecsL Tryz.prog qbou.spec from ⟨qbij, ⟨qaw1, trivial⟩⟩), qbnf, ovlL_ok (trivial), globsOK_of rfl, freshL_ok (show FreshL Tryz.prog qbou.fresh from trivial), specsL_ok (show SpecsL Tryz.prog qbou.gns from trivial)⟩
theorem qbow {R : Type} : SubsOK Tryz.prog (R := R) 0 qbot := subsOK_nil _ _
theorem qbox {R : Type} : LoopsOK (R := R) (hnd 0 qbot) qbou qbos qbnm := loopsOK_of (l := []) (by kernel_rfl) (trivial)
theorem qboy : RngsOK Tryz.prog qbou qbnm := rngs0 (by kernel_rfl)
noncomputable def qboz {R : Type} : Inl R := .mk 81 qbou qbos qbnm Tryz.f81.results.toList qbot
noncomputable def qbo0 {R : Type} : List (Nat × Hd R) := [(1, hdOf qbn3 qbn4)]
noncomputable def qbo1 {R : Type} : List (Nat × Inl R) := [(114, qbor), (128, qboz)]
noncomputable def qbo2 : Cfg := { T := qbnb, spec := [(56, qbia), (57, qaws)], glob := GlobL.G Tryz.prog, eqs := qbnc, N := 131, fuel := 64, loops := [(1, ⟨[0, 2, 1000008], [], [1, 4, 5], 6, [], [], [], []⟩)], joins := [], blocks := [(0, ⟨[0, 2, 1000008], [], [1, 4, 5], 6, [], [], [], []⟩)], ovl := [], retA := some ⟨[2, 3, 1000008], [], [1, 5], 6, [], [], [], []⟩, fid := 51, rnd := false, saves := [] }
theorem qbo3 : CfgOK Tryz.prog qbo2 := ⟨tsOK_of qbne, specsL_ok (show SpecsL Tryz.prog qbo2.spec from ⟨qbij, ⟨qaw1, trivial⟩⟩), qbnf, ovlL_ok (trivial), globsOK_of rfl, freshL_ok (show FreshL Tryz.prog qbo2.fresh from trivial), specsL_ok (show SpecsL Tryz.prog qbo2.gns from trivial)⟩
theorem qbo4 {R : Type} : SubsOK Tryz.prog (R := R) 1 qbo1 := subsOK_cons (fn := Tryz.f80) (by kernel_rfl) (by kernel_rfl) (by kernel_rfl) (by kernel_rfl) (by kernel_rfl) qbon qbop qboq qboo (subsOK_cons (fn := Tryz.f81) (by kernel_rfl) (by kernel_rfl) (by kernel_rfl) (by kernel_rfl) (by kernel_rfl) qbov qbox qboy qbow (subsOK_nil _ _))
theorem qbo5 {R : Type} : LoopOK (R := R) (hnd 1 qbo1) qbo2 qbo0 (sub [1, 0, 1, 0, 0, 0] qbnk) (HS.V qbn3) (HS.st qbn3) (HS.sh qbn3) qbn4 (hdOf qbn3 qbn4) := loopOK_of qbn3 qbn4 (fun _ _ => rfl) (by intro q v K; kernel_rfl)
theorem qbo6 {R : Type} : LoopsOK (R := R) (hnd 1 qbo1) qbo2 qbo0 qbnk := loopsOK_of (l := [sub [1, 0, 1, 0, 0, 0] qbnk]) (by kernel_rfl) (loopsL_cons (b := sub [1, 0, 1, 0, 0, 0] qbnk) (rid := 1) (by kernel_rfl) (by kernel_rfl) qbo5 (trivial))
theorem qbo7 : RngsOK Tryz.prog qbo2 qbnk := rngs0 (by kernel_rfl)
noncomputable def qbo8 {R : Type} : Inl R := .mk 51 qbo2 qbo0 qbnk Tryz.f51.results.toList qbo1
noncomputable def qbo9 {R : Type} : List (Nat × Hd R) := []
noncomputable def qbpa {R : Type} : List (Nat × Inl R) := [(17, qboj), (25, qbo8)]
noncomputable def qbpb : Cfg := { T := qbnb, spec := [], glob := GlobL.G Tryz.prog, eqs := qbnc, N := 28, fuel := 64, loops := [], joins := [], blocks := [], ovl := [], retA := none, fid := 17, rnd := false, saves := [] }
theorem qbpc : CfgOK Tryz.prog qbpb := ⟨tsOK_of qbne, specsL_ok (show SpecsL Tryz.prog qbpb.spec from trivial), qbnf, ovlL_ok (trivial), globsOK_of rfl, freshL_ok (show FreshL Tryz.prog qbpb.fresh from trivial), specsL_ok (show SpecsL Tryz.prog qbpb.gns from trivial)⟩
theorem qbpd {R : Type} : SubsOK Tryz.prog (R := R) 2 qbpa := subsOK_cons (fn := Tryz.f50) (by kernel_rfl) (by kernel_rfl) (by kernel_rfl) (by kernel_rfl) (by kernel_rfl) qbof qboh qboi qbog (subsOK_cons (fn := Tryz.f51) (by kernel_rfl) (by kernel_rfl) (by kernel_rfl) (by kernel_rfl) (by kernel_rfl) qbo3 qbo6 qbo7 qbo4 (subsOK_nil _ _))
theorem qbpe {R : Type} : LoopsOK (R := R) (hnd 2 qbpa) qbpb qbo9 qbng := loopsOK_of (l := []) (by kernel_rfl) (trivial)
theorem qbpf : RngsOK Tryz.prog qbpb qbng := rngs0 (by kernel_rfl)
theorem qbpg : ∀ v, runFn (hnd 2 qbpa) qbpb qbo9 qbng Tryz.f17.results.toList (HP.st qbn5 v) (decOf qbn6 qbn8) = qboa (qbn7 v) := by intro v; kernel_rfl
theorem qbph : SpecOK Tryz.prog 17 qbob := specOK_mk (fn := Tryz.f17) (by kernel_rfl) (by kernel_rfl) (by kernel_rfl) qbpc (by kernel_rfl) (by kernel_rfl) qbnd (by kernel_rfl) (fun _ => rfl) (d := 2) qbpd qbpe qbpf qbpg
noncomputable def qbpi : List HV := [.agg [.int .i64, .int .i64, .int .i64, .sl .inode], .one (.str), .one (.str)]
noncomputable def qbpj : List HV := [.one (.bool)]
noncomputable def qbpk : HP.V qbpi → Fs × Str × Str := fun v => ((⟨v.1.1, v.1.2.1, v.1.2.2.1, v.1.2.2.2.1⟩ : Fs), v.2.1, v.2.2.1)
noncomputable def qbpl : HX.V qbpj → Bool := fun v => (v)
noncomputable def qbpm : Bool → HX.V qbpj := fun y => (y)
noncomputable def qbpn : (Fs × Str × Str) → Option (Bool) := fun x => seek_Dir x.1 x.2.1 x.2.2
noncomputable def qbpo : Spec := mkSpec qbpi qbpj qbpk qbpm qbpn
noncomputable def qbpp {R : Type} : List (Nat × Hd R) := []
noncomputable def qbpq {R : Type} : List (Nat × Inl R) := []
noncomputable def qbpr : Cfg := { T := qbnb, spec := [(17, qbob), (56, qbia)], glob := GlobL.G Tryz.prog, eqs := qbnc, N := 35, fuel := 64, loops := [], joins := [], blocks := [], ovl := [], retA := none, fid := 47, rnd := false, saves := [] }
theorem qbps : CfgOK Tryz.prog qbpr := ⟨tsOK_of qbne, specsL_ok (show SpecsL Tryz.prog qbpr.spec from ⟨qbph, ⟨qbij, trivial⟩⟩), qbnf, ovlL_ok (trivial), globsOK_of rfl, freshL_ok (show FreshL Tryz.prog qbpr.fresh from trivial), specsL_ok (show SpecsL Tryz.prog qbpr.gns from trivial)⟩
theorem qbpt {R : Type} : SubsOK Tryz.prog (R := R) 0 qbpq := subsOK_nil _ _
theorem qbpu {R : Type} : LoopsOK (R := R) (hnd 0 qbpq) qbpr qbpp qbni := loopsOK_of (l := []) (by kernel_rfl) (trivial)
theorem qbpv : RngsOK Tryz.prog qbpr qbni := rngs0 (by kernel_rfl)
theorem qbpw : ∀ v, runFn (hnd 0 qbpq) qbpr qbpp qbni Tryz.f47.results.toList (HP.st qbpi v) (decOf qbpj qbpl) = qbpn (qbpk v) := by intro v; kernel_rfl
theorem qbpx : SpecOK Tryz.prog 47 qbpo := specOK_mk (fn := Tryz.f47) (by kernel_rfl) (by kernel_rfl) (by kernel_rfl) qbps (by kernel_rfl) (by kernel_rfl) qbnd (by kernel_rfl) (fun _ => rfl) (d := 0) qbpt qbpu qbpv qbpw
end Go.Eng
