/- A part of the proofs of the laws of this seat: the engine that reads the program's code, plain functions, or facts of the program's functions. Conditions: none. -/
import Derived.Test.YtopfnnikfjbofaaDoorF1
import Derived.Test.YtopfnnikfjbofaaDoorP1
set_option linter.unusedSectionVars false
set_option linter.unusedVariables false
set_option linter.unusedSimpArgs false
set_option linter.unnecessarySimpa false
set_option linter.unusedVariables false
set_option maxRecDepth 100000
namespace Go.Eng
open Go Go.Proofs
noncomputable def qasu : List (Nat × TI) := [(3, ⟨false, 1, .one (.int .i64 0), .int .i64⟩), (4, ⟨false, 1, .one (.bool false), .bool⟩), (5, ⟨false, 1, .one (.int .u8 0), .int .u8⟩), (9, ⟨false, 1, .one (.str []), .str⟩), (21, ⟨false, 1, .one (.int .i32 0), .int .i32⟩), (64, ⟨false, 1, .one (.clip .str []), .slice .str 9⟩), (69, ⟨false, 1, .one (.nilf), .other⟩), (71, ⟨true, 3, .agg [.bool false, .clip .str [], .bool false], .struct [(0, 4), (1, 64), (2, 4)]⟩), (123, ⟨true, 256, .agg [.bool false, .bool false, .bool false, .bool false, .bool false, .bool false, .bool false, .bool false, .bool false, .bool false, .bool false, .bool false, .bool false, .bool false, .bool false, .bool false, .bool false, .bool false, .bool false, .bool false, .bool false, .bool false, .bool false, .bool false, .bool false, .bool false, .bool false, .bool false, .bool false, .bool false, .bool false, .bool false, .bool false, .bool false, .bool false, .bool false, .bool false, .bool false, .bool false, .bool false, .bool false, .bool false, .bool false, .bool false, .bool false, .bool false, .bool false, .bool false, .bool false, .bool false, .bool false, .bool false, .bool false, .bool false, .bool false, .bool false, .bool false, .bool false, .bool false, .bool false, .bool false, .bool false, .bool false, .bool false, .bool false, .bool false, .bool false, .bool false, .bool false, .bool false, .bool false, .bool false, .bool false, .bool false, .bool false, .bool false, .bool false, .bool false, .bool false, .bool false, .bool false, .bool false, .bool false, .bool false, .bool false, .bool false, .bool false, .bool false, .bool false, .bool false, .bool false, .bool false, .bool false, .bool false, .bool false, .bool false, .bool false, .bool false, .bool false, .bool false, .bool false, .bool false, .bool false, .bool false, .bool false, .bool false, .bool false, .bool false, .bool false, .bool false, .bool false, .bool false, .bool false, .bool false, .bool false, .bool false, .bool false, .bool false, .bool false, .bool false, .bool false, .bool false, .bool false, .bool false, .bool false, .bool false, .bool false, .bool false, .bool false, .bool false, .bool false, .bool false, .bool false, .bool false, .bool false, .bool false, .bool false, .bool false, .bool false, .bool false, .bool false, .bool false, .bool false, .bool false, .bool false, .bool false, .bool false, .bool false, .bool false, .bool false, .bool false, .bool false, .bool false, .bool false, .bool false, .bool false, .bool false, .bool false, .bool false, .bool false, .bool false, .bool false, .bool false, .bool false, .bool false, .bool false, .bool false, .bool false, .bool false, .bool false, .bool false, .bool false, .bool false, .bool false, .bool false, .bool false, .bool false, .bool false, .bool false, .bool false, .bool false, .bool false, .bool false, .bool false, .bool false, .bool false, .bool false, .bool false, .bool false, .bool false, .bool false, .bool false, .bool false, .bool false, .bool false, .bool false, .bool false, .bool false, .bool false, .bool false, .bool false, .bool false, .bool false, .bool false, .bool false, .bool false, .bool false, .bool false, .bool false, .bool false, .bool false, .bool false, .bool false, .bool false, .bool false, .bool false, .bool false, .bool false, .bool false, .bool false, .bool false, .bool false, .bool false, .bool false, .bool false, .bool false, .bool false, .bool false, .bool false, .bool false, .bool false, .bool false, .bool false, .bool false, .bool false, .bool false, .bool false, .bool false, .bool false, .bool false, .bool false, .bool false, .bool false, .bool false, .bool false, .bool false, .bool false, .bool false, .bool false, .bool false, .bool false, .bool false, .bool false, .bool false, .bool false, .bool false], .array 256 4⟩)]
noncomputable def qasv : List (Nat × List EK) := []
theorem qasw : Tryd.prog.follows .mixedOrders = true := by kernel_rfl
theorem qasx : (qasu.all fun x => tiB Tryd.prog x.1 x.2) = true := by kernel_rfl
theorem qasy {c : Cfg} (h : c.eqs = qasv := by rfl) : EqsOK Tryd.prog c := eqsOK_of (by rw [h]; kernel_rfl)
noncomputable def qasz : Code := match Tryd.f34.body with | some b => b | none => .skip
noncomputable def qas0 : Code := match Tryd.f35.body with | some b => b | none => .skip
noncomputable def qas1 : Code := match Tryd.f49.body with | some b => b | none => .skip
noncomputable def qas2 : Code := match Tryd.f50.body with | some b => b | none => .skip
noncomputable def qas3 : Code := match Tryd.f51.body with | some b => b | none => .skip
noncomputable def qas4 : Code := match Tryd.f52.body with | some b => b | none => .skip
noncomputable def qas5 : Code := match Tryd.f55.body with | some b => b | none => .skip
noncomputable def qas6 : Code := match Tryd.f59.body with | some b => b | none => .skip
noncomputable def qas7 : Code := match Tryd.f60.body with | some b => b | none => .skip
noncomputable def qas8 : Code := match Tryd.f61.body with | some b => b | none => .skip
noncomputable def qas9 : Code := match Tryd.f62.body with | some b => b | none => .skip
noncomputable def qata : Code := match Tryd.f63.body with | some b => b | none => .skip
noncomputable def qatb : Code := match Tryd.f68.body with | some b => b | none => .skip
noncomputable def qatc : Code := match Tryd.f69.body with | some b => b | none => .skip
noncomputable def qatd : Code := match Tryd.f70.body with | some b => b | none => .skip
noncomputable def qate : Code := match Tryd.f71.body with | some b => b | none => .skip
noncomputable def qatf : Code := match Tryd.f73.body with | some b => b | none => .skip
noncomputable def qatg : Code := match Tryd.f76.body with | some b => b | none => .skip
noncomputable def qath : Code := match Tryd.f77.body with | some b => b | none => .skip
noncomputable def qati : Code := match Tryd.f78.body with | some b => b | none => .skip
noncomputable def qatj : Code := match Tryd.f80.body with | some b => b | none => .skip
noncomputable def qatk : Code := match Tryd.f85.body with | some b => b | none => .skip
noncomputable def qatl : Code := match Tryd.f87.body with | some b => b | none => .skip
noncomputable def qatm : Code := match Tryd.f90.body with | some b => b | none => .skip
noncomputable def qatn : Code := match Tryd.f91.body with | some b => b | none => .skip
noncomputable def qato : Code := match Tryd.f92.body with | some b => b | none => .skip
noncomputable def qatp : Code := match Tryd.f93.body with | some b => b | none => .skip
noncomputable def qatq : Code := match Tryd.f100.body with | some b => b | none => .skip
noncomputable def qatr : Code := match Tryd.f101.body with | some b => b | none => .skip
noncomputable def qats : List HV := [.one (.sl .str)]
noncomputable def qatt : List HV := [.one (.str)]
noncomputable def qatu : HP.V qats → (List Str) := fun v => (v.1)
noncomputable def qatv : HX.V qatt → Str := fun v => (v)
noncomputable def qatw : Str → HX.V qatt := fun y => (y)
noncomputable def qatx : (List Str) → Option (Str) := fun x => path_Join x
noncomputable def qaty : Spec := mkSpec qats qatt qatu qatw qatx
noncomputable def qatz {R : Type} : List (Nat × Hd R) := []
noncomputable def qat0 {R : Type} : List (Nat × Inl R) := []
noncomputable def qat1 : Cfg := { T := qasu, spec := [(75, strings_Join_sp)], glob := GlobL.G Tryd.prog, eqs := qasv, N := 9, fuel := 64, loops := [], joins := [], blocks := [], ovl := [], retA := none, fid := 68, rnd := false, saves := [] }
theorem qat2 : CfgOK Tryd.prog qat1 := ⟨tsOK_of qasx, specsL_ok (show SpecsL Tryd.prog qat1.spec from ⟨strings_Join_ok, trivial⟩), qasy, ovlL_ok (trivial), globsOK_of rfl, freshL_ok (show FreshL Tryd.prog qat1.fresh from trivial), specsL_ok (show SpecsL Tryd.prog qat1.gns from trivial)⟩
theorem qat3 {R : Type} : SubsOK Tryd.prog (R := R) 0 qat0 := subsOK_nil _ _
theorem qat4 {R : Type} : LoopsOK (R := R) (hnd 0 qat0) qat1 qatz qatb := loopsOK_of (l := []) (by kernel_rfl) (trivial)
theorem qat5 : RngsOK Tryd.prog qat1 qatb := rngs0 (by kernel_rfl)
theorem qat6 : ∀ v, runFn (hnd 0 qat0) qat1 qatz qatb Tryd.f68.results.toList (HP.st qats v) (decOf qatt qatv) = qatx (qatu v) := by intro v; kernel_rfl
theorem qat7 : SpecOK Tryd.prog 68 qaty := specOK_mk (fn := Tryd.f68) (by kernel_rfl) (by kernel_rfl) (by kernel_rfl) qat2 (by kernel_rfl) (by kernel_rfl) qasw (by kernel_rfl) (fun _ => rfl) (d := 0) qat3 qat4 qat5 qat6
noncomputable def qat8 : HS := ⟨[(0, .one (.str)), (6, .one (.ptr 1 0)), (8, .one (.int .i64))], [(1, .cells [.boolk true, .boolk false, .boolk false, .boolk false, .boolk false, .boolk false, .boolk false, .boolk false, .boolk false, .boolk false, .boolk false, .boolk false, .boolk false, .boolk false, .boolk false, .boolk false, .boolk false, .boolk false, .boolk false, .boolk false, .boolk false, .boolk false, .boolk false, .boolk false, .boolk false, .boolk false, .boolk false, .boolk false, .boolk false, .boolk false, .boolk false, .boolk false, .boolk false, .boolk false, .boolk false, .boolk false, .boolk false, .boolk false, .boolk false, .boolk false, .boolk false, .boolk false, .boolk false, .boolk false, .boolk false, .boolk false, .boolk false, .boolk true, .boolk false, .boolk false, .boolk false, .boolk false, .boolk false, .boolk false, .boolk false, .boolk false, .boolk false, .boolk false, .boolk false, .boolk false, .boolk false, .boolk false, .boolk false, .boolk false, .boolk false, .boolk false, .boolk false, .boolk false, .boolk false, .boolk false, .boolk false, .boolk false, .boolk false, .boolk false, .boolk false, .boolk false, .boolk false, .boolk false, .boolk false, .boolk false, .boolk false, .boolk false, .boolk false, .boolk false, .boolk false, .boolk false, .boolk false, .boolk false, .boolk false, .boolk false, .boolk false, .boolk false, .boolk false, .boolk false, .boolk false, .boolk false, .boolk false, .boolk false, .boolk false, .boolk false, .boolk false, .boolk false, .boolk false, .boolk false, .boolk false, .boolk false, .boolk false, .boolk false, .boolk false, .boolk false, .boolk false, .boolk false, .boolk false, .boolk false, .boolk false, .boolk false, .boolk false, .boolk false, .boolk false, .boolk false, .boolk false, .boolk false, .boolk false, .boolk false, .boolk false, .boolk false, .boolk false, .boolk false, .boolk false, .boolk false, .boolk false, .boolk false, .boolk false, .boolk false, .boolk false, .boolk false, .boolk false, .boolk false, .boolk false, .boolk false, .boolk false, .boolk false, .boolk false, .boolk false, .boolk false, .boolk false, .boolk false, .boolk false, .boolk false, .boolk false, .boolk false, .boolk false, .boolk false, .boolk false, .boolk false, .boolk false, .boolk false, .boolk false, .boolk false, .boolk false, .boolk false, .boolk false, .boolk false, .boolk false, .boolk false, .boolk false, .boolk false, .boolk false, .boolk false, .boolk false, .boolk false, .boolk false, .boolk false, .boolk false, .boolk false, .boolk false, .boolk false, .boolk false, .boolk false, .boolk false, .boolk false, .boolk false, .boolk false, .boolk false, .boolk false, .boolk false, .boolk false, .boolk false, .boolk false, .boolk false, .boolk false, .boolk false, .boolk false, .boolk false, .boolk false, .boolk false, .boolk false, .boolk false, .boolk false, .boolk false, .boolk false, .boolk false, .boolk false, .boolk false, .boolk false, .boolk false, .boolk false, .boolk false, .boolk false, .boolk false, .boolk false, .boolk false, .boolk false, .boolk false, .boolk false, .boolk false, .boolk false, .boolk false, .boolk false, .boolk false, .boolk false, .boolk false, .boolk false, .boolk false, .boolk false, .boolk false, .boolk false, .boolk false, .boolk false, .boolk false, .boolk false, .boolk false, .boolk false, .boolk false, .boolk false, .boolk false, .boolk false, .boolk false, .boolk false, .boolk false, .boolk false, .boolk false, .boolk false, .boolk false, .boolk false, .boolk false, .boolk false, .boolk false, .boolk false, .boolk false, .boolk false, .boolk false, .boolk false, .boolk false, .boolk false, .boolk false])], 2⟩
noncomputable def qat9 {R : Type} : Nat → HS.V qat8 → (Ex → St → Option R) → Option R := fun q v K =>
  strings_ContainsAny_7_L12 v.1.1 (fun y5 => K .ret { regs := [(4, .v (.one (.int .i64 y5)))], mem := [], nx := 0 }) (K (.exit 0) { regs := [], mem := [], nx := 0 }) q v.1.2.2.1
noncomputable def qaua : HS := ⟨[(175, .one (.iter 1)), (1000001, .one (.strk ([47, 0] : Str))), (1000009, .one (.int .i64)), (1000045, .one (.iter 0))], [(0, .iter), (1, .iter)], 2⟩
noncomputable def qaub {R : Type} : Nat → HS.V qaua → (Ex → St → Option R) → Option R := fun q v K =>
  strings_ContainsAny_7_52_L38 v.2.2.1.1 (fun y15 => K .ret { regs := [(4, .v (.one (.int .i64 y15))), (1000001, .v (.one (.str ([47, 0] : Str)))), (1000009, .v (.one (.int .i64 v.1.2.2.1))), (1000045, .v (.one (.iter 0)))], mem := [(0, .iter v.2.1.1 v.2.1.2)], nx := 1 }) (K (.exit 9) { regs := [(1000001, .v (.one (.str ([47, 0] : Str)))), (1000009, .v (.one (.int .i64 v.1.2.2.1))), (1000045, .v (.one (.iter 0)))], mem := [(0, .iter v.2.1.1 v.2.1.2)], nx := 1 }) q v.2.2.1.2
noncomputable def qauc : HS := ⟨[(0, .one (.strk ([47, 0] : Str))), (7, .one (.str)), (8, .one (.int .i64)), (9, .one (.int .i64)), (12, .one (.int .i64)), (1000001, .one (.strk ([47, 0] : Str))), (1000009, .one (.int .i64)), (1000045, .one (.iter 0))], [(0, .iter)], 1⟩
noncomputable def qaud {R : Type} : Nat → HS.V qauc → (Ex → St → Option R) → Option R := fun q v K =>
  strings_ContainsAny_7_52_L12 v.1.2.1 v.1.2.2.1 v.1.2.2.2.1 (K (.exit 3) { regs := [(8, .v (.one (.int .i64 v.1.2.2.1))), (9, .v (.one (.int .i64 v.1.2.2.2.1))), (1000001, .v (.one (.str ([47, 0] : Str)))), (1000009, .v (.one (.int .i64 v.1.2.2.2.2.2.2.1))), (1000045, .v (.one (.iter 0)))], mem := [(0, .iter v.2.1.1 v.2.1.2)], nx := 1 }) q v.1.2.2.2.2.1
noncomputable def qaue : HS := ⟨[(0, .one (.strk ([47, 0] : Str))), (7, .one (.str)), (8, .one (.int .i64)), (9, .one (.int .i64)), (1000001, .one (.strk ([47, 0] : Str))), (1000009, .one (.int .i64)), (1000045, .one (.iter 0))], [(0, .iter)], 1⟩
noncomputable def qauf {R : Type} : Nat → HS.V qaue → (Ex → St → Option R) → Option R := fun q v K =>
  strings_ContainsAny_7_52_L5 v.1.2.1 v.1.2.2.1 v.1.2.2.2.1 (fun y50 => K .ret { regs := [(4, .v (.one (.int .i64 y50))), (1000001, .v (.one (.str ([47, 0] : Str)))), (1000009, .v (.one (.int .i64 v.1.2.2.2.2.2.1))), (1000045, .v (.one (.iter 0)))], mem := [(0, .iter v.2.1.1 v.2.1.2)], nx := 1 }) (K (.exit 1) { regs := [(1000001, .v (.one (.str ([47, 0] : Str)))), (1000009, .v (.one (.int .i64 v.1.2.2.2.2.2.1))), (1000045, .v (.one (.iter 0)))], mem := [(0, .iter v.2.1.1 v.2.1.2)], nx := 1 }) q
noncomputable def qaug : HS := ⟨[(1, .one (.strk ([47, 0] : Str))), (45, .one (.iter 0))], [(0, .iter)], 1⟩
noncomputable def qauh {R : Type} : Nat → HS.V qaug → (Ex → St → Option R) → Option R := fun q v K =>
  strings_ContainsAny_7_L18 v.2.1.1 (fun y66 => K .ret { regs := [(4, .v (.one (.int .i64 y66)))], mem := [], nx := 0 }) (K (.exit 2) { regs := [], mem := [], nx := 0 }) q v.2.1.2
noncomputable def qaui : List HV := [.one (.str), .one (.strk ([47, 0] : Str))]
noncomputable def qauj : List HV := [.one (.bool)]
noncomputable def qauk : HP.V qaui → Str := fun v => (v.1)
noncomputable def qaul : HX.V qauj → Bool := fun v => (v)
noncomputable def qaum : Bool → HX.V qauj := fun y => (y)
noncomputable def qaun : Str → Option (Bool) := fun x => strings_ContainsAny x
noncomputable def qauo : Spec := mkSpec qaui qauj qauk qaum qaun
noncomputable def qaup {R : Type} : List (Nat × Hd R) := []
noncomputable def qauq {R : Type} : List (Nat × Inl R) := []
noncomputable def qaur : Cfg := { T := qasu, spec := [], glob := GlobL.G Tryd.prog, eqs := qasv, N := 5, fuel := 64, loops := [], joins := [], blocks := [], ovl := [], retA := none, fid := 91, rnd := false, saves := [] }
theorem qaus : CfgOK Tryd.prog qaur := ⟨tsOK_of qasx, specsL_ok (show SpecsL Tryd.prog qaur.spec from trivial), qasy, ovlL_ok (trivial), globsOK_of rfl, freshL_ok (show FreshL Tryd.prog qaur.fresh from trivial), specsL_ok (show SpecsL Tryd.prog qaur.gns from trivial)⟩
theorem qaut {R : Type} : SubsOK Tryd.prog (R := R) 1 qauq := subsOK_nil _ _
theorem qauu {R : Type} : LoopsOK (R := R) (hnd 1 qauq) qaur qaup qatn := loopsOK_of (l := []) (by kernel_rfl) (trivial)
theorem qauv : RngsOK Tryd.prog qaur qatn := rngs0 (by kernel_rfl)
noncomputable def qauw {R : Type} : Inl R := .mk 91 qaur qaup qatn Tryd.f91.results.toList qauq
noncomputable def qaux {R : Type} : List (Nat × Hd R) := []
noncomputable def qauy {R : Type} : List (Nat × Inl R) := []
noncomputable def qauz : Cfg := { T := qasu, spec := [], glob := GlobL.G Tryd.prog, eqs := qasv, N := 21, fuel := 64, loops := [(2, ⟨[0, 2, 4, 1000000, 1000001], [], [0], 1, [], [], [], []⟩)], joins := [], blocks := [(0, ⟨[2, 1000000, 1000001], [], [0], 1, [], [], [], []⟩)], ovl := [], retA := some ⟨[2, 3, 1000000, 1000001], [], [0], 1, [], [], [], []⟩, fid := 92, rnd := false, saves := [] }
theorem qau0 : CfgOK Tryd.prog qauz := ⟨tsOK_of qasx, specsL_ok (show SpecsL Tryd.prog qauz.spec from trivial), qasy, ovlL_ok (trivial), globsOK_of rfl, freshL_ok (show FreshL Tryd.prog qauz.fresh from trivial), specsL_ok (show SpecsL Tryd.prog qauz.gns from trivial)⟩
theorem qau1 {R : Type} : SubsOK Tryd.prog (R := R) 1 qauy := subsOK_nil _ _
theorem qau2 {R : Type} : LoopsOK (R := R) (hnd 1 qauy) qauz qaux qato := loopsOK_of (l := [sub [1, 0, 1, 0, 0] qato]) (by kernel_rfl) (loopsL_skip (b := sub [1, 0, 1, 0, 0] qato) (rid := 2) (by kernel_rfl) (by kernel_rfl) (trivial))
theorem qau3 : RngsOK Tryd.prog qauz qato := rngs0 (by kernel_rfl)
noncomputable def qau4 {R : Type} : Inl R := .mk 92 qauz qaux qato Tryd.f92.results.toList qauy
noncomputable def qau5 {R : Type} : List (Nat × Hd R) := []
noncomputable def qau6 {R : Type} : List (Nat × Inl R) := []
noncomputable def qau7 : Cfg := { T := qasu, spec := [], glob := GlobL.G Tryd.prog, eqs := qasv, N := 10, fuel := 64, loops := [], joins := [], blocks := [], ovl := [], retA := none, fid := 93, rnd := false, saves := [] }
theorem qau8 : CfgOK Tryd.prog qau7 := ⟨tsOK_of qasx, specsL_ok (show SpecsL Tryd.prog qau7.spec from trivial), qasy, ovlL_ok (trivial), globsOK_of rfl, freshL_ok (show FreshL Tryd.prog qau7.fresh from trivial), specsL_ok (show SpecsL Tryd.prog qau7.gns from trivial)⟩
theorem qau9 {R : Type} : SubsOK Tryd.prog (R := R) 1 qau6 := subsOK_nil _ _
theorem qava {R : Type} : LoopsOK (R := R) (hnd 1 qau6) qau7 qau5 qatp := loopsOK_of (l := []) (by kernel_rfl) (trivial)
theorem qavb : RngsOK Tryd.prog qau7 qatp := rngs0 (by kernel_rfl)
noncomputable def qavc {R : Type} : Inl R := .mk 93 qau7 qau5 qatp Tryd.f93.results.toList qau6
noncomputable def qavd {R : Type} : List (Nat × Hd R) := []
noncomputable def qave {R : Type} : List (Nat × Inl R) := []
noncomputable def qavf : Cfg := { T := qasu, spec := [(94, stringslite_IndexByte_sp)], glob := GlobL.G Tryd.prog, eqs := qasv, N := 8, fuel := 64, loops := [], joins := [], blocks := [], ovl := [], retA := none, fid := 100, rnd := false, saves := [] }
theorem qavg : CfgOK Tryd.prog qavf := ⟨tsOK_of qasx, specsL_ok (show SpecsL Tryd.prog qavf.spec from ⟨stringslite_IndexByte_ok, trivial⟩), qasy, ovlL_ok (trivial), globsOK_of rfl, freshL_ok (show FreshL Tryd.prog qavf.fresh from trivial), specsL_ok (show SpecsL Tryd.prog qavf.gns from trivial)⟩
theorem qavh {R : Type} : SubsOK Tryd.prog (R := R) 0 qave := subsOK_nil _ _
theorem qavi {R : Type} : LoopsOK (R := R) (hnd 0 qave) qavf qavd qatq := loopsOK_of (l := []) (by kernel_rfl) (trivial)
theorem qavj : RngsOK Tryd.prog qavf qatq := rngs0 (by kernel_rfl)
noncomputable def qavk {R : Type} : Inl R := .mk 100 qavf qavd qatq Tryd.f100.results.toList qave
noncomputable def qavl {R : Type} : List (Nat × Hd R) := []
noncomputable def qavm {R : Type} : List (Nat × Inl R) := []
noncomputable def qavn : Cfg := { T := qasu, spec := [], glob := GlobL.G Tryd.prog, eqs := qasv, N := 17, fuel := 64, loops := [], joins := [], blocks := [], ovl := [], retA := none, fid := 101, rnd := false, saves := [] }
theorem qavo : CfgOK Tryd.prog qavn := ⟨tsOK_of qasx, specsL_ok (show SpecsL Tryd.prog qavn.spec from trivial), qasy, ovlL_ok (trivial), globsOK_of rfl, freshL_ok (show FreshL Tryd.prog qavn.fresh from trivial), specsL_ok (show SpecsL Tryd.prog qavn.gns from trivial)⟩
theorem qavp {R : Type} : SubsOK Tryd.prog (R := R) 0 qavm := subsOK_nil _ _
theorem qavq {R : Type} : LoopsOK (R := R) (hnd 0 qavm) qavn qavl qatr := loopsOK_of (l := []) (by kernel_rfl) (trivial)
theorem qavr : RngsOK Tryd.prog qavn qatr := rngs0 (by kernel_rfl)
noncomputable def qavs {R : Type} : Inl R := .mk 101 qavn qavl qatr Tryd.f101.results.toList qavm
noncomputable def qavt {R : Type} : List (Nat × Hd R) := []
noncomputable def qavu {R : Type} : List (Nat × Inl R) := []
noncomputable def qavv : Cfg := { T := qasu, spec := [(94, stringslite_IndexByte_sp)], glob := GlobL.G Tryd.prog, eqs := qasv, N := 8, fuel := 64, loops := [], joins := [], blocks := [], ovl := [], retA := none, fid := 100, rnd := false, saves := [] }
theorem qavw : CfgOK Tryd.prog qavv := ⟨tsOK_of qasx, specsL_ok (show SpecsL Tryd.prog qavv.spec from ⟨stringslite_IndexByte_ok, trivial⟩), qasy, ovlL_ok (trivial), globsOK_of rfl, freshL_ok (show FreshL Tryd.prog qavv.fresh from trivial), specsL_ok (show SpecsL Tryd.prog qavv.gns from trivial)⟩
theorem qavx {R : Type} : SubsOK Tryd.prog (R := R) 0 qavu := subsOK_nil _ _
theorem qavy {R : Type} : LoopsOK (R := R) (hnd 0 qavu) qavv qavt qatq := loopsOK_of (l := []) (by kernel_rfl) (trivial)
theorem qavz : RngsOK Tryd.prog qavv qatq := rngs0 (by kernel_rfl)
noncomputable def qav0 {R : Type} : Inl R := .mk 100 qavv qavt qatq Tryd.f100.results.toList qavu
noncomputable def qav1 {R : Type} : List (Nat × Hd R) := [(38, hdOf qaua qaub), (5, hdOf qaue qauf), (12, hdOf qauc qaud)]
noncomputable def qav2 {R : Type} : List (Nat × Inl R) := [(170, qavk), (185, qavs), (41, qav0)]
noncomputable def qav3 : Cfg := { T := qasu, spec := [], glob := GlobL.G Tryd.prog, eqs := qasv, N := 187, fuel := 64, loops := [(38, ⟨[175, 1000001, 1000009, 1000045], [], [0, 1], 2, [], [], [], []⟩), (12, ⟨[0, 7, 8, 9, 12, 1000001, 1000009, 1000045], [], [0], 1, [], [], [], []⟩), (5, ⟨[0, 7, 8, 9, 1000001, 1000009, 1000045], [], [0], 1, [], [], [], []⟩)], joins := [], blocks := [(9, ⟨[1000001, 1000009, 1000045], [], [0], 1, [], [], [], []⟩), (1, ⟨[1000001, 1000009, 1000045], [], [0], 1, [], [], [], []⟩), (3, ⟨[8, 9, 1000001, 1000009, 1000045], [], [0], 1, [], [], [], []⟩)], ovl := [], retA := some ⟨[4, 1000001, 1000009, 1000045], [], [0], 1, [], [], [], []⟩, fid := 90, rnd := false, saves := [] }
theorem qav4 : CfgOK Tryd.prog qav3 := ⟨tsOK_of qasx, specsL_ok (show SpecsL Tryd.prog qav3.spec from trivial), qasy, ovlL_ok (trivial), globsOK_of rfl, freshL_ok (show FreshL Tryd.prog qav3.fresh from trivial), specsL_ok (show SpecsL Tryd.prog qav3.gns from trivial)⟩
theorem qav5 {R : Type} : SubsOK Tryd.prog (R := R) 1 qav2 := subsOK_cons (fn := Tryd.f100) (by kernel_rfl) (by kernel_rfl) (by kernel_rfl) (by kernel_rfl) (by kernel_rfl) qavg qavi qavj qavh (subsOK_cons (fn := Tryd.f101) (by kernel_rfl) (by kernel_rfl) (by kernel_rfl) (by kernel_rfl) (by kernel_rfl) qavo qavq qavr qavp (subsOK_cons (fn := Tryd.f100) (by kernel_rfl) (by kernel_rfl) (by kernel_rfl) (by kernel_rfl) (by kernel_rfl) qavw qavy qavz qavx (subsOK_nil _ _)))
theorem qav6 {R : Type} : LoopOK (R := R) (hnd 1 qav2) qav3 qav1 (sub [1, 0, 1, 1, 1, 0, 0, 1, 0, 0] qatm) (HS.V qaua) (HS.st qaua) (HS.sh qaua) qaub (hdOf qaua qaub) := loopOK_of qaua qaub (fun _ _ => rfl) (by intro q v K; kernel_rfl)
theorem qav7 {R : Type} : LoopOK (R := R) (hnd 1 qav2) qav3 qav1 (sub [1, 0, 1, 1, 1, 1, 1, 1, 0, 1, 1, 1, 1, 0, 0, 0] qatm) (HS.V qaue) (HS.st qaue) (HS.sh qaue) qauf (hdOf qaue qauf) := loopOK_of qaue qauf (fun _ _ => rfl) (by intro q v K; kernel_rfl)
theorem qav8 {R : Type} : LoopOK (R := R) (hnd 1 qav2) qav3 qav1 (sub [1, 0, 1, 1, 1, 1, 1, 1, 0, 1, 1, 1, 1, 0, 0, 0, 1, 0, 0, 1, 0, 1, 0, 0] qatm) (HS.V qauc) (HS.st qauc) (HS.sh qauc) qaud (hdOf qauc qaud) := loopOK_of qauc qaud (fun _ _ => rfl) (by intro q v K; kernel_rfl)
theorem qav9 {R : Type} : LoopsOK (R := R) (hnd 1 qav2) qav3 qav1 qatm := loopsOK_of (l := [sub [1, 0, 1, 1, 1, 0, 0, 1, 0, 0] qatm, sub [1, 0, 1, 1, 1, 1, 1, 1, 0, 1, 1, 1, 1, 0, 0, 0] qatm, sub [1, 0, 1, 1, 1, 1, 1, 1, 0, 1, 1, 1, 1, 0, 0, 0, 1, 0, 0, 1, 0, 1, 0, 0] qatm, sub [1, 0, 1, 1, 1, 1, 1, 1, 0, 1, 1, 1, 1, 1, 1, 1, 0, 1, 0, 1, 1, 1, 0, 0] qatm, sub [1, 0, 1, 1, 1, 1, 1, 1, 0, 1, 1, 1, 1, 1, 1, 1, 0, 1, 0, 1, 1, 1, 0, 0, 1, 0, 0, 1, 0, 0, 1, 0, 0] qatm]) (by kernel_rfl) (loopsL_cons (b := sub [1, 0, 1, 1, 1, 0, 0, 1, 0, 0] qatm) (rid := 38) (by kernel_rfl) (by kernel_rfl) qav6 (loopsL_cons (b := sub [1, 0, 1, 1, 1, 1, 1, 1, 0, 1, 1, 1, 1, 0, 0, 0] qatm) (rid := 5) (by kernel_rfl) (by kernel_rfl) qav7 (loopsL_cons (b := sub [1, 0, 1, 1, 1, 1, 1, 1, 0, 1, 1, 1, 1, 0, 0, 0, 1, 0, 0, 1, 0, 1, 0, 0] qatm) (rid := 12) (by kernel_rfl) (by kernel_rfl) qav8 (loopsL_skip (b := sub [1, 0, 1, 1, 1, 1, 1, 1, 0, 1, 1, 1, 1, 1, 1, 1, 0, 1, 0, 1, 1, 1, 0, 0] qatm) (rid := 25) (by kernel_rfl) (by kernel_rfl) (loopsL_skip (b := sub [1, 0, 1, 1, 1, 1, 1, 1, 0, 1, 1, 1, 1, 1, 1, 1, 0, 1, 0, 1, 1, 1, 0, 0, 1, 0, 0, 1, 0, 0, 1, 0, 0] qatm) (rid := 29) (by kernel_rfl) (by kernel_rfl) (trivial))))))
theorem qawa : RngsOK Tryd.prog qav3 qatm := rngs0 (by kernel_rfl)
noncomputable def qawb {R : Type} : Inl R := .mk 90 qav3 qav1 qatm Tryd.f90.results.toList qav2
noncomputable def qawc {R : Type} : List (Nat × Hd R) := [(12, hdOf qat8 qat9), (18, hdOf qaug qauh)]
noncomputable def qawd {R : Type} : List (Nat × Inl R) := [(26, qauw), (29, qau4), (42, qavc), (52, qawb)]
noncomputable def qawe : Cfg := { T := qasu, spec := [], glob := GlobL.G Tryd.prog, eqs := qasv, N := 55, fuel := 64, loops := [(18, ⟨[1, 45], [], [0], 1, [], [], [], []⟩), (12, ⟨[0, 6, 8], [], [1], 2, [], [], [], []⟩)], joins := [], blocks := [(2, ⟨[], [], [], 0, [], [], [], []⟩), (0, ⟨[], [], [], 0, [], [], [], []⟩)], ovl := [], retA := some ⟨[4], [], [], 0, [], [], [], []⟩, fid := 85, rnd := false, saves := [] }
theorem qawf : CfgOK Tryd.prog qawe := ⟨tsOK_of qasx, specsL_ok (show SpecsL Tryd.prog qawe.spec from trivial), qasy, ovlL_ok (trivial), globsOK_of rfl, freshL_ok (show FreshL Tryd.prog qawe.fresh from trivial), specsL_ok (show SpecsL Tryd.prog qawe.gns from trivial)⟩
theorem qawg {R : Type} : SubsOK Tryd.prog (R := R) 2 qawd := subsOK_cons (fn := Tryd.f91) (by kernel_rfl) (by kernel_rfl) (by kernel_rfl) (by kernel_rfl) (by kernel_rfl) qaus qauu qauv qaut (subsOK_cons (fn := Tryd.f92) (by kernel_rfl) (by kernel_rfl) (by kernel_rfl) (by kernel_rfl) (by kernel_rfl) qau0 qau2 qau3 qau1 (subsOK_cons (fn := Tryd.f93) (by kernel_rfl) (by kernel_rfl) (by kernel_rfl) (by kernel_rfl) (by kernel_rfl) qau8 qava qavb qau9 (subsOK_cons (fn := Tryd.f90) (by kernel_rfl) (by kernel_rfl) (by kernel_rfl) (by kernel_rfl) (by kernel_rfl) qav4 qav9 qawa qav5 (subsOK_nil _ _))))
theorem qawh {R : Type} : LoopOK (R := R) (hnd 2 qawd) qawe qawc (sub [1, 1, 1, 0, 1, 0, 1, 1, 0, 0, 1, 0, 0] qatk) (HS.V qat8) (HS.st qat8) (HS.sh qat8) qat9 (hdOf qat8 qat9) := loopOK_of qat8 qat9 (fun _ _ => rfl) (by intro q v K; kernel_rfl)
theorem qawi {R : Type} : LoopOK (R := R) (hnd 2 qawd) qawe qawc (sub [1, 1, 1, 1, 0, 1, 0, 0] qatk) (HS.V qaug) (HS.st qaug) (HS.sh qaug) qauh (hdOf qaug qauh) := loopOK_of qaug qauh (fun _ _ => rfl) (by intro q v K; kernel_rfl)
theorem qawj {R : Type} : LoopsOK (R := R) (hnd 2 qawd) qawe qawc qatk := loopsOK_of (l := [sub [1, 1, 1, 0, 1, 0, 1, 1, 0, 0, 1, 0, 0] qatk, sub [1, 1, 1, 1, 0, 1, 0, 0] qatk]) (by kernel_rfl) (loopsL_cons (b := sub [1, 1, 1, 0, 1, 0, 1, 1, 0, 0, 1, 0, 0] qatk) (rid := 12) (by kernel_rfl) (by kernel_rfl) qawh (loopsL_cons (b := sub [1, 1, 1, 1, 0, 1, 0, 0] qatk) (rid := 18) (by kernel_rfl) (by kernel_rfl) qawi (trivial)))
theorem qawk : RngsOK Tryd.prog qawe qatk := rngs0 (by kernel_rfl)
noncomputable def qawl {R : Type} : Inl R := .mk 85 qawe qawc qatk Tryd.f85.results.toList qawd
noncomputable def qawm {R : Type} : List (Nat × Hd R) := []
noncomputable def qawn {R : Type} : List (Nat × Inl R) := [(7, qawl)]
noncomputable def qawo : Cfg := { T := qasu, spec := [], glob := GlobL.G Tryd.prog, eqs := qasv, N := 9, fuel := 64, loops := [], joins := [], blocks := [], ovl := [], retA := none, fid := 77, rnd := false, saves := [] }
theorem qawp : CfgOK Tryd.prog qawo := ⟨tsOK_of qasx, specsL_ok (show SpecsL Tryd.prog qawo.spec from trivial), qasy, ovlL_ok (trivial), globsOK_of rfl, freshL_ok (show FreshL Tryd.prog qawo.fresh from trivial), specsL_ok (show SpecsL Tryd.prog qawo.gns from trivial)⟩
theorem qawq {R : Type} : SubsOK Tryd.prog (R := R) 3 qawn := subsOK_cons (fn := Tryd.f85) (by kernel_rfl) (by kernel_rfl) (by kernel_rfl) (by kernel_rfl) (by kernel_rfl) qawf qawj qawk qawg (subsOK_nil _ _)
theorem qawr {R : Type} : LoopsOK (R := R) (hnd 3 qawn) qawo qawm qath := loopsOK_of (l := []) (by kernel_rfl) (trivial)
theorem qaws : RngsOK Tryd.prog qawo qath := rngs0 (by kernel_rfl)
theorem qawt : ∀ v, runFn (hnd 3 qawn) qawo qawm qath Tryd.f77.results.toList (HP.st qaui v) (decOf qauj qaul) = qaun (qauk v) := by intro v; kernel_rfl
theorem qawu : SpecOK Tryd.prog 77 qauo := specOK_mk (fn := Tryd.f77) (by kernel_rfl) (by kernel_rfl) (by kernel_rfl) qawp (by kernel_rfl) (by kernel_rfl) qasw (by kernel_rfl) (fun _ => rfl) (d := 3) qawq qawr qaws qawt
noncomputable def qawv : List HV := [.one (.str)]
noncomputable def qaww : List HV := [.one (.bool)]
noncomputable def qawx : HP.V qawv → Str := fun v => (v.1)
noncomputable def qawy : HX.V qaww → Bool := fun v => (v)
noncomputable def qawz : Bool → HX.V qaww := fun y => (y)
noncomputable def qaw0 : Str → Option (Bool) := fun x => path_May x
noncomputable def qaw1 : Spec := mkSpec qawv qaww qawx qawz qaw0
noncomputable def qaw2 {R : Type} : List (Nat × Hd R) := []
noncomputable def qaw3 {R : Type} : List (Nat × Inl R) := []
noncomputable def qaw4 : Cfg := { T := qasu, spec := [(77, qauo)], glob := GlobL.G Tryd.prog, eqs := qasv, N := 23, fuel := 64, loops := [], joins := [], blocks := [], ovl := [], retA := none, fid := 71, rnd := false, saves := [] }
theorem qaw5 : CfgOK Tryd.prog qaw4 := ⟨tsOK_of qasx, specsL_ok (show SpecsL Tryd.prog qaw4.spec from ⟨qawu, trivial⟩), qasy, ovlL_ok (trivial), globsOK_of rfl, freshL_ok (show FreshL Tryd.prog qaw4.fresh from trivial), specsL_ok (show SpecsL Tryd.prog qaw4.gns from trivial)⟩
theorem qaw6 {R : Type} : SubsOK Tryd.prog (R := R) 0 qaw3 := subsOK_nil _ _
theorem qaw7 {R : Type} : LoopsOK (R := R) (hnd 0 qaw3) qaw4 qaw2 qate := loopsOK_of (l := []) (by kernel_rfl) (trivial)
theorem qaw8 : RngsOK Tryd.prog qaw4 qate := rngs0 (by kernel_rfl)
theorem qaw9 : ∀ v, runFn (hnd 0 qaw3) qaw4 qaw2 qate Tryd.f71.results.toList (HP.st qawv v) (decOf qaww qawy) = qaw0 (qawx v) := by intro v; kernel_rfl
theorem qaxa : SpecOK Tryd.prog 71 qaw1 := specOK_mk (fn := Tryd.f71) (by kernel_rfl) (by kernel_rfl) (by kernel_rfl) qaw5 (by kernel_rfl) (by kernel_rfl) qasw (by kernel_rfl) (fun _ => rfl) (d := 0) qaw6 qaw7 qaw8 qaw9
noncomputable def qaxb : HS := ⟨[(0, .one (.yld 9)), (1, .one (.ptr 6 0)), (2, .one (.ptr 5 0)), (3, .one (.ptr 7 0)), (2000002, .one (.ptr 2 0)), (4000000, .one (.str))], [(2, .cells [.own 10]), (3, .loop true 13 61 3 [(2, .one (.ptr 2 0))]), (4, .cells [.yld 3]), (5, .cells [.str]), (6, .cells [.strk ([47] : Str)]), (7, .cells [.intk .i64 (0 : Int)]), (9, .loop true 15 59 3 [(2, .one (.ptr 4 0))]), (10, .row .str)], 11⟩
noncomputable def qaxc {R : Type} : Nat → HS.V qaxb → (Ex → St → Option R) → Option R := fun q v K =>
  path_Plain_7_4_1000003_1000003_L5 (fun y6 y7 => K (.exit 2) { regs := [(0, .v (.one (.yld 9))), (2, .v (.one (.ptr 5 0))), (2000002, .v (.one (.ptr 2 0))), (4000000, .v (.one (.str v.1.2.2.2.2.2.1)))], mem := [(2, .cells [.own 10]), (3, .loop true 13 61 3 [(2, .v (.one (.ptr 2 0)))]), (4, .cells [.yld 3]), (5, .cells [.str y6]), (9, .loop true 15 59 3 [(2, .v (.one (.ptr 4 0)))]), (10, .row .str y7)], nx := 11 }) q v.2.2.2.2.1.1 v.2.2.2.2.2.2.2.2.1
noncomputable def qaxd : HS := ⟨[(0, .one (.own 10)), (1, .one (.fnc 70)), (7, .one (.int .i64)), (8, .one (.int .i64)), (2000004, .one (.own 10)), (2000012, .one (.bool))], [(10, .row .str)], 11⟩
noncomputable def qaxe {R : Type} : Nat → HS.V qaxd → (Ex → St → Option R) → Option R := fun q v K =>
  path_Plain_14_7_L2 v.1.2.2.1 v.2.1 (fun y17 => K .ret { regs := [(4, .v (.one (.int .i64 y17))), (2000004, .v (.one (.own 10))), (2000012, .v (.one (.bool v.1.2.2.2.2.2.1)))], mem := [(10, .row .str v.2.1)], nx := 11 }) (K (.exit 0) { regs := [(2000004, .v (.one (.own 10))), (2000012, .v (.one (.bool v.1.2.2.2.2.2.1)))], mem := [(10, .row .str v.2.1)], nx := 11 }) q v.1.2.2.2.1
noncomputable def qaxf : List HV := [.one (.str)]
noncomputable def qaxg : List HV := [.one (.sl .str), .one (.bool)]
noncomputable def qaxh : HP.V qaxf → Str := fun v => (v.1)
noncomputable def qaxi : HX.V qaxg → (List Str) × Bool := fun v => (v.1, v.2)
noncomputable def qaxj : (List Str) × Bool → HX.V qaxg := fun y => (y.1, y.2)
noncomputable def qaxk : Str → Option ((List Str) × Bool) := fun x => path_Plain x
noncomputable def qaxl : Spec := mkSpec qaxf qaxg qaxh qaxj qaxk
noncomputable def qaxm {R : Type} : List (Nat × Hd R) := []
noncomputable def qaxn {R : Type} : List (Nat × Inl R) := []
noncomputable def qaxo : Cfg := { T := qasu, spec := [(68, qaty)], glob := GlobL.G Tryd.prog, eqs := qasv, N := 4, fuel := 64, loops := [], joins := [], blocks := [], ovl := [], retA := none, fid := 49, rnd := false, saves := [] }
theorem qaxp : CfgOK Tryd.prog qaxo := ⟨tsOK_of qasx, specsL_ok (show SpecsL Tryd.prog qaxo.spec from ⟨qat7, trivial⟩), qasy, ovlL_ok (trivial), globsOK_of rfl, freshL_ok (show FreshL Tryd.prog qaxo.fresh from trivial), specsL_ok (show SpecsL Tryd.prog qaxo.gns from trivial)⟩
theorem qaxq {R : Type} : SubsOK Tryd.prog (R := R) 5 qaxn := subsOK_nil _ _
theorem qaxr {R : Type} : LoopsOK (R := R) (hnd 5 qaxn) qaxo qaxm qas1 := loopsOK_of (l := []) (by kernel_rfl) (trivial)
theorem qaxs : RngsOK Tryd.prog qaxo qas1 := rngs0 (by kernel_rfl)
noncomputable def qaxt {R : Type} : Inl R := .mk 49 qaxo qaxm qas1 Tryd.f49.results.toList qaxn
noncomputable def qaxu {R : Type} : List (Nat × Hd R) := []
noncomputable def qaxv {R : Type} : List (Nat × Inl R) := []
noncomputable def qaxw : Cfg := { T := qasu, spec := [(68, qaty)], glob := GlobL.G Tryd.prog, eqs := qasv, N := 8, fuel := 64, loops := [], joins := [], blocks := [], ovl := [], retA := none, fid := 73, rnd := false, saves := [] }
theorem qaxx : CfgOK Tryd.prog qaxw := ⟨tsOK_of qasx, specsL_ok (show SpecsL Tryd.prog qaxw.spec from ⟨qat7, trivial⟩), qasy, ovlL_ok (trivial), globsOK_of rfl, freshL_ok (show FreshL Tryd.prog qaxw.fresh from trivial), specsL_ok (show SpecsL Tryd.prog qaxw.gns from trivial)⟩
theorem qaxy {R : Type} : SubsOK Tryd.prog (R := R) 1 qaxv := subsOK_nil _ _
theorem qaxz {R : Type} : LoopsOK (R := R) (hnd 1 qaxv) qaxw qaxu qatf := loopsOK_of (l := []) (by kernel_rfl) (trivial)
theorem qax0 : RngsOK Tryd.prog qaxw qatf := rngs0 (by kernel_rfl)
noncomputable def qax1 {R : Type} : Inl R := .mk 73 qaxw qaxu qatf Tryd.f73.results.toList qaxv
noncomputable def qax2 {R : Type} : List (Nat × Hd R) := []
noncomputable def qax3 {R : Type} : List (Nat × Inl R) := [(7, qax1)]
noncomputable def qax4 : Cfg := { T := qasu, spec := [(68, qaty)], glob := GlobL.G Tryd.prog, eqs := qasv, N := 8, fuel := 64, loops := [], joins := [], blocks := [], ovl := [], retA := none, fid := 60, rnd := false, saves := [] }
theorem qax5 : CfgOK Tryd.prog qax4 := ⟨tsOK_of qasx, specsL_ok (show SpecsL Tryd.prog qax4.spec from ⟨qat7, trivial⟩), qasy, ovlL_ok (trivial), globsOK_of rfl, freshL_ok (show FreshL Tryd.prog qax4.fresh from trivial), specsL_ok (show SpecsL Tryd.prog qax4.gns from trivial)⟩
theorem qax6 {R : Type} : SubsOK Tryd.prog (R := R) 2 qax3 := subsOK_cons (fn := Tryd.f73) (by kernel_rfl) (by kernel_rfl) (by kernel_rfl) (by kernel_rfl) (by kernel_rfl) qaxx qaxz qax0 qaxy (subsOK_nil _ _)
theorem qax7 {R : Type} : LoopsOK (R := R) (hnd 2 qax3) qax4 qax2 qas7 := loopsOK_of (l := []) (by kernel_rfl) (trivial)
theorem qax8 : RngsOK Tryd.prog qax4 qas7 := rngs0 (by kernel_rfl)
noncomputable def qax9 {R : Type} : Inl R := .mk 60 qax4 qax2 qas7 Tryd.f60.results.toList qax3
noncomputable def qaya {R : Type} : List (Nat × Hd R) := []
noncomputable def qayb {R : Type} : List (Nat × Inl R) := []
noncomputable def qayc : Cfg := { T := qasu, spec := [(68, qaty), (94, stringslite_IndexByte_sp)], glob := GlobL.G Tryd.prog, eqs := qasv, N := 143, fuel := 64, loops := [], joins := [], blocks := [], ovl := [], retA := some ⟨[4, 2000000, 2000001, 2000002, 2000003, 4000002, 6000000], [], [2, 3, 4, 5, 6, 7, 9, 10], 11, [], [], [], []⟩, fid := 87, rnd := false, saves := [] }
theorem qayd : CfgOK Tryd.prog qayc := ⟨tsOK_of qasx, specsL_ok (show SpecsL Tryd.prog qayc.spec from ⟨qat7, ⟨stringslite_IndexByte_ok, trivial⟩⟩), qasy, ovlL_ok (trivial), globsOK_of rfl, freshL_ok (show FreshL Tryd.prog qayc.fresh from trivial), specsL_ok (show SpecsL Tryd.prog qayc.gns from trivial)⟩
theorem qaye {R : Type} : SubsOK Tryd.prog (R := R) 0 qayb := subsOK_nil _ _
theorem qayf {R : Type} : LoopsOK (R := R) (hnd 0 qayb) qayc qaya qatl := loopsOK_of (l := [sub [1, 1, 1, 1, 1, 1, 1, 1, 0, 0, 0] qatl]) (by kernel_rfl) (loopsL_skip (b := sub [1, 1, 1, 1, 1, 1, 1, 1, 0, 0, 0] qatl) (rid := 15) (by kernel_rfl) (by kernel_rfl) (trivial))
theorem qayg : RngsOK Tryd.prog qayc qatl := rngs0 (by kernel_rfl)
noncomputable def qayh {R : Type} : Inl R := .mk 87 qayc qaya qatl Tryd.f87.results.toList qayb
noncomputable def qayi {R : Type} : List (Nat × Hd R) := []
noncomputable def qayj {R : Type} : List (Nat × Inl R) := [(7, qayh)]
noncomputable def qayk : Cfg := { T := qasu, spec := [(68, qaty)], glob := GlobL.G Tryd.prog, eqs := qasv, N := 8, fuel := 64, loops := [], joins := [], blocks := [], ovl := [], retA := none, fid := 80, rnd := false, saves := [] }
theorem qayl : CfgOK Tryd.prog qayk := ⟨tsOK_of qasx, specsL_ok (show SpecsL Tryd.prog qayk.spec from ⟨qat7, trivial⟩), qasy, ovlL_ok (trivial), globsOK_of rfl, freshL_ok (show FreshL Tryd.prog qayk.fresh from trivial), specsL_ok (show SpecsL Tryd.prog qayk.gns from trivial)⟩
theorem qaym {R : Type} : SubsOK Tryd.prog (R := R) 1 qayj := subsOK_cons (fn := Tryd.f87) (by kernel_rfl) (by kernel_rfl) (by kernel_rfl) (by kernel_rfl) (by kernel_rfl) qayd qayf qayg qaye (subsOK_nil _ _)
theorem qayn {R : Type} : LoopsOK (R := R) (hnd 1 qayj) qayk qayi qatj := loopsOK_of (l := []) (by kernel_rfl) (trivial)
theorem qayo : RngsOK Tryd.prog qayk qatj := rngs0 (by kernel_rfl)
noncomputable def qayp {R : Type} : Inl R := .mk 80 qayk qayi qatj Tryd.f80.results.toList qayj
noncomputable def qayq : Code := (rngGet 3 qas8).2.1
noncomputable def qayr : Code := (rngGet 3 qas8).2.2
noncomputable def qays {R : Type} : List (Nat × Hd R) := []
noncomputable def qayt {R : Type} : List (Nat × Inl R) := []
noncomputable def qayu : Cfg := { T := qasu, spec := [(68, qaty)], glob := GlobL.G Tryd.prog, eqs := qasv, N := 13, fuel := 64, loops := [], joins := [], blocks := [], ovl := [], retA := none, fid := 61, rnd := true, saves := [] }
theorem qayv : CfgOK Tryd.prog qayu := ⟨tsOK_of qasx, specsL_ok (show SpecsL Tryd.prog qayu.spec from ⟨qat7, trivial⟩), qasy, ovlL_ok (trivial), globsOK_of rfl, freshL_ok (show FreshL Tryd.prog qayu.fresh from trivial), specsL_ok (show SpecsL Tryd.prog qayu.gns from trivial)⟩
theorem qayw {R : Type} : SubsOK Tryd.prog (R := R) 0 qayt := subsOK_nil _ _
theorem qayx {R : Type} : LoopsOK (R := R) (hnd 0 qayt) qayu qays qayq := loopsOK_of (l := []) (by kernel_rfl) (trivial)
theorem qayy {R : Type} : LoopsOK (R := R) (hnd 0 qayt) qayu qays qayr := loopsOK_of (l := []) (by kernel_rfl) (trivial)
noncomputable def qayz {R : Type} : Inl R := .rnd 61 3 qayu qays [7] qayq qayr qayt
noncomputable def qay0 : Code := (rngGet 3 qas6).2.1
noncomputable def qay1 : Code := (rngGet 3 qas6).2.2
noncomputable def qay2 {R : Type} : List (Nat × Hd R) := []
noncomputable def qay3 {R : Type} : List (Nat × Inl R) := [(12, qayz)]
noncomputable def qay4 : Cfg := { T := qasu, spec := [(68, qaty)], glob := GlobL.G Tryd.prog, eqs := qasv, N := 15, fuel := 64, loops := [], joins := [], blocks := [], ovl := [], retA := none, fid := 59, rnd := true, saves := [] }
theorem qay5 : CfgOK Tryd.prog qay4 := ⟨tsOK_of qasx, specsL_ok (show SpecsL Tryd.prog qay4.spec from ⟨qat7, trivial⟩), qasy, ovlL_ok (trivial), globsOK_of rfl, freshL_ok (show FreshL Tryd.prog qay4.fresh from trivial), specsL_ok (show SpecsL Tryd.prog qay4.gns from trivial)⟩
theorem qay6 {R : Type} : SubsOK Tryd.prog (R := R) 1 qay3 := subsOK_round (by kernel_rfl) qayv qayx qayy qayw (subsOK_nil _ _)
theorem qay7 {R : Type} : LoopsOK (R := R) (hnd 1 qay3) qay4 qay2 qay0 := loopsOK_of (l := []) (by kernel_rfl) (trivial)
theorem qay8 {R : Type} : LoopsOK (R := R) (hnd 1 qay3) qay4 qay2 qay1 := loopsOK_of (l := []) (by kernel_rfl) (trivial)
noncomputable def qay9 {R : Type} : Inl R := .rnd 59 3 qay4 qay2 [6] qay0 qay1 qay3
noncomputable def qaza : Code := (rngGet 3 qas8).2.1
noncomputable def qazb : Code := (rngGet 3 qas8).2.2
noncomputable def qazc {R : Type} : List (Nat × Hd R) := []
noncomputable def qazd {R : Type} : List (Nat × Inl R) := []
noncomputable def qaze : Cfg := { T := qasu, spec := [(68, qaty)], glob := GlobL.G Tryd.prog, eqs := qasv, N := 13, fuel := 64, loops := [], joins := [], blocks := [], ovl := [], retA := none, fid := 61, rnd := true, saves := [] }
theorem qazf : CfgOK Tryd.prog qaze := ⟨tsOK_of qasx, specsL_ok (show SpecsL Tryd.prog qaze.spec from ⟨qat7, trivial⟩), qasy, ovlL_ok (trivial), globsOK_of rfl, freshL_ok (show FreshL Tryd.prog qaze.fresh from trivial), specsL_ok (show SpecsL Tryd.prog qaze.gns from trivial)⟩
theorem qazg {R : Type} : SubsOK Tryd.prog (R := R) 0 qazd := subsOK_nil _ _
theorem qazh {R : Type} : LoopsOK (R := R) (hnd 0 qazd) qaze qazc qaza := loopsOK_of (l := []) (by kernel_rfl) (trivial)
theorem qazi {R : Type} : LoopsOK (R := R) (hnd 0 qazd) qaze qazc qazb := loopsOK_of (l := []) (by kernel_rfl) (trivial)
noncomputable def qazj {R : Type} : Inl R := .rnd 61 3 qaze qazc [7] qaza qazb qazd
noncomputable def qazk : Code := (rngGet 3 qas6).2.1
noncomputable def qazl : Code := (rngGet 3 qas6).2.2
noncomputable def qazm {R : Type} : List (Nat × Hd R) := []
noncomputable def qazn {R : Type} : List (Nat × Inl R) := [(12, qazj)]
noncomputable def qazo : Cfg := { T := qasu, spec := [(68, qaty)], glob := GlobL.G Tryd.prog, eqs := qasv, N := 15, fuel := 64, loops := [], joins := [], blocks := [], ovl := [], retA := none, fid := 59, rnd := true, saves := [] }
theorem qazp : CfgOK Tryd.prog qazo := ⟨tsOK_of qasx, specsL_ok (show SpecsL Tryd.prog qazo.spec from ⟨qat7, trivial⟩), qasy, ovlL_ok (trivial), globsOK_of rfl, freshL_ok (show FreshL Tryd.prog qazo.fresh from trivial), specsL_ok (show SpecsL Tryd.prog qazo.gns from trivial)⟩
theorem qazq {R : Type} : SubsOK Tryd.prog (R := R) 1 qazn := subsOK_round (by kernel_rfl) qazf qazh qazi qazg (subsOK_nil _ _)
theorem qazr {R : Type} : LoopsOK (R := R) (hnd 1 qazn) qazo qazm qazk := loopsOK_of (l := []) (by kernel_rfl) (trivial)
theorem qazs {R : Type} : LoopsOK (R := R) (hnd 1 qazn) qazo qazm qazl := loopsOK_of (l := []) (by kernel_rfl) (trivial)
noncomputable def qazt {R : Type} : Inl R := .rnd 59 3 qazo qazm [6] qazk qazl qazn
noncomputable def qazu {R : Type} : List (Nat × Hd R) := [(5, hdOf qaxb qaxc)]
noncomputable def qazv {R : Type} : List (Nat × Inl R) := [(31, qayp), (41, qay9), (51, qazt)]
noncomputable def qazw : Cfg := { T := qasu, spec := [(68, qaty)], glob := GlobL.G Tryd.prog, eqs := qasv, N := 52, fuel := 64, loops := [(5, ⟨[0, 1, 2, 3, 2000002, 4000000], [], [2, 3, 4, 5, 6, 7, 9, 10], 11, [], [], [(2, 0, 10, .str)], []⟩)], joins := [], blocks := [(2, ⟨[0, 2, 2000002, 4000000], [], [2, 3, 4, 5, 9, 10], 11, [], [], [], []⟩)], ovl := [], retA := none, fid := 78, rnd := false, saves := [] }
theorem qazx : CfgOK Tryd.prog qazw := ⟨tsOK_of qasx, specsL_ok (show SpecsL Tryd.prog qazw.spec from ⟨qat7, trivial⟩), qasy, ovlL_ok (trivial), globsOK_of rfl, freshL_ok (show FreshL Tryd.prog qazw.fresh from trivial), specsL_ok (show SpecsL Tryd.prog qazw.gns from trivial)⟩
theorem qazy {R : Type} : SubsOK Tryd.prog (R := R) 2 qazv := subsOK_cons (fn := Tryd.f80) (by kernel_rfl) (by kernel_rfl) (by kernel_rfl) (by kernel_rfl) (by kernel_rfl) qayl qayn qayo qaym (subsOK_round (by kernel_rfl) qay5 qay7 qay8 qay6 (subsOK_round (by kernel_rfl) qazp qazr qazs qazq (subsOK_nil _ _)))
theorem qazz {R : Type} : LoopOK (R := R) (hnd 2 qazv) qazw qazu (sub [1, 0, 0, 0] qati) (HS.V qaxb) (HS.st qaxb) (HS.sh qaxb) qaxc (hdOf qaxb qaxc) := loopOK_of qaxb qaxc (fun _ _ => rfl) (by intro q v K; kernel_rfl)
theorem qaz0 {R : Type} : LoopsOK (R := R) (hnd 2 qazv) qazw qazu qati := loopsOK_of (l := [sub [0, 1, 0, 0, 0, 0] qati, sub [1, 0, 0, 0] qati]) (by kernel_rfl) (loopsL_skip (b := sub [0, 1, 0, 0, 0, 0] qati) (rid := 1) (by kernel_rfl) (by kernel_rfl) (loopsL_cons (b := sub [1, 0, 0, 0] qati) (rid := 5) (by kernel_rfl) (by kernel_rfl) qazz (trivial)))
theorem qaz1 : RngsOK Tryd.prog qazw qati := rngs0 (by kernel_rfl)
noncomputable def qaz2 {R : Type} : Inl R := .mk 78 qazw qazu qati Tryd.f78.results.toList qazv
noncomputable def qaz3 {R : Type} : List (Nat × Hd R) := []
noncomputable def qaz4 {R : Type} : List (Nat × Inl R) := [(5, qax9), (1000003, qaz2)]
noncomputable def qaz5 : Cfg := { T := qasu, spec := [(68, qaty)], glob := GlobL.G Tryd.prog, eqs := qasv, N := 15, fuel := 64, loops := [], joins := [], blocks := [], ovl := [], retA := none, fid := 59, rnd := false, saves := [(3, [2])] }
theorem qaz6 : CfgOK Tryd.prog qaz5 := ⟨tsOK_of qasx, specsL_ok (show SpecsL Tryd.prog qaz5.spec from ⟨qat7, trivial⟩), qasy, ovlL_ok (trivial), globsOK_of rfl, freshL_ok (show FreshL Tryd.prog qaz5.fresh from trivial), specsL_ok (show SpecsL Tryd.prog qaz5.gns from trivial)⟩
theorem qaz7 {R : Type} : SubsOK Tryd.prog (R := R) 3 qaz4 := subsOK_cons (fn := Tryd.f60) (by kernel_rfl) (by kernel_rfl) (by kernel_rfl) (by kernel_rfl) (by kernel_rfl) qax5 qax7 qax8 qax6 (subsOK_cons (fn := Tryd.f78) (by kernel_rfl) (by kernel_rfl) (by kernel_rfl) (by kernel_rfl) (by kernel_rfl) qazx qaz0 qaz1 qazy (subsOK_nil _ _))
theorem qaz8 {R : Type} : LoopsOK (R := R) (hnd 3 qaz4) qaz5 qaz3 qas6 := loopsOK_of (l := []) (by kernel_rfl) (trivial)
theorem qaz9 : RngsOK Tryd.prog qaz5 qas6 := rngs1 (x := rngGet 3 qas6) (by kernel_rfl) (by kernel_rfl)
noncomputable def qa0a {R : Type} : Inl R := .mk 59 qaz5 qaz3 qas6 Tryd.f59.results.toList qaz4
noncomputable def qa0b {R : Type} : List (Nat × Hd R) := []
noncomputable def qa0c {R : Type} : List (Nat × Inl R) := [(1000003, qa0a)]
noncomputable def qa0d : Cfg := { T := qasu, spec := [(68, qaty)], glob := GlobL.G Tryd.prog, eqs := qasv, N := 13, fuel := 64, loops := [], joins := [], blocks := [], ovl := [], retA := none, fid := 61, rnd := false, saves := [(3, [2])] }
theorem qa0e : CfgOK Tryd.prog qa0d := ⟨tsOK_of qasx, specsL_ok (show SpecsL Tryd.prog qa0d.spec from ⟨qat7, trivial⟩), qasy, ovlL_ok (trivial), globsOK_of rfl, freshL_ok (show FreshL Tryd.prog qa0d.fresh from trivial), specsL_ok (show SpecsL Tryd.prog qa0d.gns from trivial)⟩
theorem qa0f {R : Type} : SubsOK Tryd.prog (R := R) 4 qa0c := subsOK_cons (fn := Tryd.f59) (by kernel_rfl) (by kernel_rfl) (by kernel_rfl) (by kernel_rfl) (by kernel_rfl) qaz6 qaz8 qaz9 qaz7 (subsOK_nil _ _)
theorem qa0g {R : Type} : LoopsOK (R := R) (hnd 4 qa0c) qa0d qa0b qas8 := loopsOK_of (l := []) (by kernel_rfl) (trivial)
theorem qa0h : RngsOK Tryd.prog qa0d qas8 := rngs1 (x := rngGet 3 qas8) (by kernel_rfl) (by kernel_rfl)
noncomputable def qa0i {R : Type} : Inl R := .mk 61 qa0d qa0b qas8 Tryd.f61.results.toList qa0c
noncomputable def qa0j {R : Type} : List (Nat × Hd R) := []
noncomputable def qa0k {R : Type} : List (Nat × Inl R) := [(4, qa0i)]
noncomputable def qa0l : Cfg := { T := qasu, spec := [(68, qaty)], glob := GlobL.G Tryd.prog, eqs := qasv, N := 5, fuel := 64, loops := [], joins := [], blocks := [], ovl := [], retA := none, fid := 50, rnd := false, saves := [] }
theorem qa0m : CfgOK Tryd.prog qa0l := ⟨tsOK_of qasx, specsL_ok (show SpecsL Tryd.prog qa0l.spec from ⟨qat7, trivial⟩), qasy, ovlL_ok (trivial), globsOK_of rfl, freshL_ok (show FreshL Tryd.prog qa0l.fresh from trivial), specsL_ok (show SpecsL Tryd.prog qa0l.gns from trivial)⟩
theorem qa0n {R : Type} : SubsOK Tryd.prog (R := R) 5 qa0k := subsOK_cons (fn := Tryd.f61) (by kernel_rfl) (by kernel_rfl) (by kernel_rfl) (by kernel_rfl) (by kernel_rfl) qa0e qa0g qa0h qa0f (subsOK_nil _ _)
theorem qa0o {R : Type} : LoopsOK (R := R) (hnd 5 qa0k) qa0l qa0j qas2 := loopsOK_of (l := []) (by kernel_rfl) (trivial)
theorem qa0p : RngsOK Tryd.prog qa0l qas2 := rngs0 (by kernel_rfl)
noncomputable def qa0q {R : Type} : Inl R := .mk 50 qa0l qa0j qas2 Tryd.f50.results.toList qa0k
noncomputable def qa0r {R : Type} : List (Nat × Hd R) := []
noncomputable def qa0s {R : Type} : List (Nat × Inl R) := []
noncomputable def qa0t : Cfg := { T := qasu, spec := [(68, qaty), (71, qaw1)], glob := GlobL.G Tryd.prog, eqs := qasv, N := 6, fuel := 64, loops := [], joins := [], blocks := [], ovl := [], retA := none, fid := 70, rnd := false, saves := [] }
theorem qa0u : CfgOK Tryd.prog qa0t := ⟨tsOK_of qasx, specsL_ok (show SpecsL Tryd.prog qa0t.spec from ⟨qat7, ⟨qaxa, trivial⟩⟩), qasy, ovlL_ok (trivial), globsOK_of rfl, freshL_ok (show FreshL Tryd.prog qa0t.fresh from trivial), specsL_ok (show SpecsL Tryd.prog qa0t.gns from trivial)⟩
theorem qa0v {R : Type} : SubsOK Tryd.prog (R := R) 3 qa0s := subsOK_nil _ _
theorem qa0w {R : Type} : LoopsOK (R := R) (hnd 3 qa0s) qa0t qa0r qatd := loopsOK_of (l := []) (by kernel_rfl) (trivial)
theorem qa0x : RngsOK Tryd.prog qa0t qatd := rngs0 (by kernel_rfl)
noncomputable def qa0y {R : Type} : Inl R := .mk 70 qa0t qa0r qatd Tryd.f70.results.toList qa0s
noncomputable def qa0z {R : Type} : List (Nat × Hd R) := [(2, hdOf qaxd qaxe)]
noncomputable def qa00 {R : Type} : List (Nat × Inl R) := [(16, qa0y)]
noncomputable def qa01 : Cfg := { T := qasu, spec := [(68, qaty)], glob := GlobL.G Tryd.prog, eqs := qasv, N := 19, fuel := 64, loops := [(2, ⟨[0, 1, 7, 8, 2000004, 2000012], [], [10], 11, [], [], [], []⟩)], joins := [], blocks := [(0, ⟨[2000004, 2000012], [], [10], 11, [], [], [], []⟩)], ovl := [], retA := some ⟨[4, 2000004, 2000012], [], [10], 11, [], [], [], []⟩, fid := 76, rnd := false, saves := [] }
theorem qa02 : CfgOK Tryd.prog qa01 := ⟨tsOK_of qasx, specsL_ok (show SpecsL Tryd.prog qa01.spec from ⟨qat7, trivial⟩), qasy, ovlL_ok (trivial), globsOK_of rfl, freshL_ok (show FreshL Tryd.prog qa01.fresh from trivial), specsL_ok (show SpecsL Tryd.prog qa01.gns from trivial)⟩
theorem qa03 {R : Type} : SubsOK Tryd.prog (R := R) 4 qa00 := subsOK_cons (fn := Tryd.f70) (by kernel_rfl) (by kernel_rfl) (by kernel_rfl) (by kernel_rfl) (by kernel_rfl) qa0u qa0w qa0x qa0v (subsOK_nil _ _)
theorem qa04 {R : Type} : LoopOK (R := R) (hnd 4 qa00) qa01 qa0z (sub [1, 0, 1, 0, 0] qatg) (HS.V qaxd) (HS.st qaxd) (HS.sh qaxd) qaxe (hdOf qaxd qaxe) := loopOK_of qaxd qaxe (fun _ _ => rfl) (by intro q v K; kernel_rfl)
theorem qa05 {R : Type} : LoopsOK (R := R) (hnd 4 qa00) qa01 qa0z qatg := loopsOK_of (l := [sub [1, 0, 1, 0, 0] qatg]) (by kernel_rfl) (loopsL_cons (b := sub [1, 0, 1, 0, 0] qatg) (rid := 2) (by kernel_rfl) (by kernel_rfl) qa04 (trivial))
theorem qa06 : RngsOK Tryd.prog qa01 qatg := rngs0 (by kernel_rfl)
noncomputable def qa07 {R : Type} : Inl R := .mk 76 qa01 qa0z qatg Tryd.f76.results.toList qa00
noncomputable def qa08 {R : Type} : List (Nat × Hd R) := []
noncomputable def qa09 {R : Type} : List (Nat × Inl R) := [(7, qa07)]
noncomputable def qa1a : Cfg := { T := qasu, spec := [(68, qaty)], glob := GlobL.G Tryd.prog, eqs := qasv, N := 9, fuel := 64, loops := [], joins := [], blocks := [], ovl := [], retA := none, fid := 69, rnd := false, saves := [] }
theorem qa1b : CfgOK Tryd.prog qa1a := ⟨tsOK_of qasx, specsL_ok (show SpecsL Tryd.prog qa1a.spec from ⟨qat7, trivial⟩), qasy, ovlL_ok (trivial), globsOK_of rfl, freshL_ok (show FreshL Tryd.prog qa1a.fresh from trivial), specsL_ok (show SpecsL Tryd.prog qa1a.gns from trivial)⟩
theorem qa1c {R : Type} : SubsOK Tryd.prog (R := R) 5 qa09 := subsOK_cons (fn := Tryd.f76) (by kernel_rfl) (by kernel_rfl) (by kernel_rfl) (by kernel_rfl) (by kernel_rfl) qa02 qa05 qa06 qa03 (subsOK_nil _ _)
theorem qa1d {R : Type} : LoopsOK (R := R) (hnd 5 qa09) qa1a qa08 qatc := loopsOK_of (l := []) (by kernel_rfl) (trivial)
theorem qa1e : RngsOK Tryd.prog qa1a qatc := rngs0 (by kernel_rfl)
noncomputable def qa1f {R : Type} : Inl R := .mk 69 qa1a qa08 qatc Tryd.f69.results.toList qa09
noncomputable def qa1g {R : Type} : List (Nat × Hd R) := []
noncomputable def qa1h {R : Type} : List (Nat × Inl R) := [(6, qaxt), (7, qa0q), (14, qa1f)]
noncomputable def qa1i : Cfg := { T := qasu, spec := [(68, qaty)], glob := GlobL.G Tryd.prog, eqs := qasv, N := 17, fuel := 64, loops := [], joins := [], blocks := [], ovl := [], retA := none, fid := 55, rnd := false, saves := [] }
theorem qa1j : CfgOK Tryd.prog qa1i := ⟨tsOK_of qasx, specsL_ok (show SpecsL Tryd.prog qa1i.spec from ⟨qat7, trivial⟩), qasy, ovlL_ok (trivial), globsOK_of rfl, freshL_ok (show FreshL Tryd.prog qa1i.fresh from trivial), specsL_ok (show SpecsL Tryd.prog qa1i.gns from trivial)⟩
theorem qa1k {R : Type} : SubsOK Tryd.prog (R := R) 6 qa1h := subsOK_cons (fn := Tryd.f49) (by kernel_rfl) (by kernel_rfl) (by kernel_rfl) (by kernel_rfl) (by kernel_rfl) qaxp qaxr qaxs qaxq (subsOK_cons (fn := Tryd.f50) (by kernel_rfl) (by kernel_rfl) (by kernel_rfl) (by kernel_rfl) (by kernel_rfl) qa0m qa0o qa0p qa0n (subsOK_cons (fn := Tryd.f69) (by kernel_rfl) (by kernel_rfl) (by kernel_rfl) (by kernel_rfl) (by kernel_rfl) qa1b qa1d qa1e qa1c (subsOK_nil _ _)))
theorem qa1l {R : Type} : LoopsOK (R := R) (hnd 6 qa1h) qa1i qa1g qas5 := loopsOK_of (l := []) (by kernel_rfl) (trivial)
theorem qa1m : RngsOK Tryd.prog qa1i qas5 := rngs0 (by kernel_rfl)
theorem qa1n : ∀ v, runFn (hnd 6 qa1h) qa1i qa1g qas5 Tryd.f55.results.toList (HP.st qaxf v) (decOf qaxg qaxi) = qaxk (qaxh v) := by intro v; kernel_rfl
theorem qa1o : SpecOK Tryd.prog 55 qaxl := specOK_mk (fn := Tryd.f55) (by kernel_rfl) (by kernel_rfl) (by kernel_rfl) qa1j (by kernel_rfl) (by kernel_rfl) qasw (by kernel_rfl) (fun _ => rfl) (d := 6) qa1k qa1l qa1m qa1n
noncomputable def qa1p : HS := ⟨[(0, .one (.yld 9)), (1, .one (.ptr 6 0)), (2, .one (.ptr 5 0)), (3, .one (.ptr 7 0)), (2000000, .one (.str)), (2000002, .one (.ptr 0 0))], [(0, .cells [.boolk false]), (3, .loop true 13 34 3 [(2, .one (.ptr 0 0))]), (4, .cells [.yld 3]), (5, .cells [.str]), (6, .cells [.strk ([47] : Str)]), (7, .cells [.intk .i64 (0 : Int)]), (9, .loop true 15 59 3 [(2, .one (.ptr 4 0))])], 10⟩
noncomputable def qa1q {R : Type} : Nat → HS.V qa1p → (Ex → St → Option R) → Option R := fun q v K =>
  path_Long_1000003_1000003_L5 (K .ret { regs := [(2000000, .v (.one (.str v.1.2.2.2.2.1))), (2000002, .v (.one (.ptr 0 0)))], mem := [(0, .cells [.bool true]), (3, .over .ret), (9, .over .ret)], nx := 10 }) (fun y8 => K (.exit 2) { regs := [(0, .v (.one (.yld 9))), (2, .v (.one (.ptr 5 0))), (2000000, .v (.one (.str v.1.2.2.2.2.1))), (2000002, .v (.one (.ptr 0 0)))], mem := [(0, .cells [.bool false]), (3, .loop true 13 34 3 [(2, .v (.one (.ptr 0 0)))]), (4, .cells [.yld 3]), (5, .cells [.str y8]), (9, .loop true 15 59 3 [(2, .v (.one (.ptr 4 0)))])], nx := 10 }) q v.2.2.2.2.1.1
noncomputable def qa1r : List HV := [.one (.str)]
noncomputable def qa1s : List HV := [.one (.bool)]
noncomputable def qa1t : HP.V qa1r → Str := fun v => (v.1)
noncomputable def qa1u : HX.V qa1s → Bool := fun v => (v)
noncomputable def qa1v : Bool → HX.V qa1s := fun y => (y)
noncomputable def qa1w : Str → Option (Bool) := fun x => path_Long x
noncomputable def qa1x : Spec := mkSpec qa1r qa1s qa1t qa1v qa1w
noncomputable def qa1y {R : Type} : List (Nat × Hd R) := []
noncomputable def qa1z {R : Type} : List (Nat × Inl R) := []
noncomputable def qa10 : Cfg := { T := qasu, spec := [], glob := GlobL.G Tryd.prog, eqs := qasv, N := 4, fuel := 64, loops := [], joins := [], blocks := [], ovl := [], retA := none, fid := 49, rnd := false, saves := [] }
theorem qa11 : CfgOK Tryd.prog qa10 := ⟨tsOK_of qasx, specsL_ok (show SpecsL Tryd.prog qa10.spec from trivial), qasy, ovlL_ok (trivial), globsOK_of rfl, freshL_ok (show FreshL Tryd.prog qa10.fresh from trivial), specsL_ok (show SpecsL Tryd.prog qa10.gns from trivial)⟩
theorem qa12 {R : Type} : SubsOK Tryd.prog (R := R) 3 qa1z := subsOK_nil _ _
theorem qa13 {R : Type} : LoopsOK (R := R) (hnd 3 qa1z) qa10 qa1y qas1 := loopsOK_of (l := []) (by kernel_rfl) (trivial)
theorem qa14 : RngsOK Tryd.prog qa10 qas1 := rngs0 (by kernel_rfl)
noncomputable def qa15 {R : Type} : Inl R := .mk 49 qa10 qa1y qas1 Tryd.f49.results.toList qa1z
noncomputable def qa16 {R : Type} : List (Nat × Hd R) := []
noncomputable def qa17 {R : Type} : List (Nat × Inl R) := []
noncomputable def qa18 : Cfg := { T := qasu, spec := [], glob := GlobL.G Tryd.prog, eqs := qasv, N := 8, fuel := 64, loops := [], joins := [], blocks := [], ovl := [], retA := none, fid := 73, rnd := false, saves := [] }
theorem qa19 : CfgOK Tryd.prog qa18 := ⟨tsOK_of qasx, specsL_ok (show SpecsL Tryd.prog qa18.spec from trivial), qasy, ovlL_ok (trivial), globsOK_of rfl, freshL_ok (show FreshL Tryd.prog qa18.fresh from trivial), specsL_ok (show SpecsL Tryd.prog qa18.gns from trivial)⟩
theorem qa2a {R : Type} : SubsOK Tryd.prog (R := R) 1 qa17 := subsOK_nil _ _
theorem qa2b {R : Type} : LoopsOK (R := R) (hnd 1 qa17) qa18 qa16 qatf := loopsOK_of (l := []) (by kernel_rfl) (trivial)
theorem qa2c : RngsOK Tryd.prog qa18 qatf := rngs0 (by kernel_rfl)
noncomputable def qa2d {R : Type} : Inl R := .mk 73 qa18 qa16 qatf Tryd.f73.results.toList qa17
noncomputable def qa2e {R : Type} : List (Nat × Hd R) := []
noncomputable def qa2f {R : Type} : List (Nat × Inl R) := [(7, qa2d)]
noncomputable def qa2g : Cfg := { T := qasu, spec := [], glob := GlobL.G Tryd.prog, eqs := qasv, N := 8, fuel := 64, loops := [], joins := [], blocks := [], ovl := [], retA := none, fid := 60, rnd := false, saves := [] }
theorem qa2h : CfgOK Tryd.prog qa2g := ⟨tsOK_of qasx, specsL_ok (show SpecsL Tryd.prog qa2g.spec from trivial), qasy, ovlL_ok (trivial), globsOK_of rfl, freshL_ok (show FreshL Tryd.prog qa2g.fresh from trivial), specsL_ok (show SpecsL Tryd.prog qa2g.gns from trivial)⟩
theorem qa2i {R : Type} : SubsOK Tryd.prog (R := R) 2 qa2f := subsOK_cons (fn := Tryd.f73) (by kernel_rfl) (by kernel_rfl) (by kernel_rfl) (by kernel_rfl) (by kernel_rfl) qa19 qa2b qa2c qa2a (subsOK_nil _ _)
theorem qa2j {R : Type} : LoopsOK (R := R) (hnd 2 qa2f) qa2g qa2e qas7 := loopsOK_of (l := []) (by kernel_rfl) (trivial)
theorem qa2k : RngsOK Tryd.prog qa2g qas7 := rngs0 (by kernel_rfl)
noncomputable def qa2l {R : Type} : Inl R := .mk 60 qa2g qa2e qas7 Tryd.f60.results.toList qa2f
noncomputable def qa2m {R : Type} : List (Nat × Hd R) := []
noncomputable def qa2n {R : Type} : List (Nat × Inl R) := []
noncomputable def qa2o : Cfg := { T := qasu, spec := [(94, stringslite_IndexByte_sp)], glob := GlobL.G Tryd.prog, eqs := qasv, N := 143, fuel := 64, loops := [], joins := [], blocks := [], ovl := [], retA := some ⟨[4, 2000000, 2000001, 2000002, 2000003, 4000000, 4000002], [], [0, 3, 4, 5, 6, 7, 9], 10, [], [], [], []⟩, fid := 87, rnd := false, saves := [] }
theorem qa2p : CfgOK Tryd.prog qa2o := ⟨tsOK_of qasx, specsL_ok (show SpecsL Tryd.prog qa2o.spec from ⟨stringslite_IndexByte_ok, trivial⟩), qasy, ovlL_ok (trivial), globsOK_of rfl, freshL_ok (show FreshL Tryd.prog qa2o.fresh from trivial), specsL_ok (show SpecsL Tryd.prog qa2o.gns from trivial)⟩
theorem qa2q {R : Type} : SubsOK Tryd.prog (R := R) 0 qa2n := subsOK_nil _ _
theorem qa2r {R : Type} : LoopsOK (R := R) (hnd 0 qa2n) qa2o qa2m qatl := loopsOK_of (l := [sub [1, 1, 1, 1, 1, 1, 1, 1, 0, 0, 0] qatl]) (by kernel_rfl) (loopsL_skip (b := sub [1, 1, 1, 1, 1, 1, 1, 1, 0, 0, 0] qatl) (rid := 15) (by kernel_rfl) (by kernel_rfl) (trivial))
theorem qa2s : RngsOK Tryd.prog qa2o qatl := rngs0 (by kernel_rfl)
noncomputable def qa2t {R : Type} : Inl R := .mk 87 qa2o qa2m qatl Tryd.f87.results.toList qa2n
noncomputable def qa2u {R : Type} : List (Nat × Hd R) := []
noncomputable def qa2v {R : Type} : List (Nat × Inl R) := [(7, qa2t)]
noncomputable def qa2w : Cfg := { T := qasu, spec := [], glob := GlobL.G Tryd.prog, eqs := qasv, N := 8, fuel := 64, loops := [], joins := [], blocks := [], ovl := [], retA := none, fid := 80, rnd := false, saves := [] }
theorem qa2x : CfgOK Tryd.prog qa2w := ⟨tsOK_of qasx, specsL_ok (show SpecsL Tryd.prog qa2w.spec from trivial), qasy, ovlL_ok (trivial), globsOK_of rfl, freshL_ok (show FreshL Tryd.prog qa2w.fresh from trivial), specsL_ok (show SpecsL Tryd.prog qa2w.gns from trivial)⟩
theorem qa2y {R : Type} : SubsOK Tryd.prog (R := R) 1 qa2v := subsOK_cons (fn := Tryd.f87) (by kernel_rfl) (by kernel_rfl) (by kernel_rfl) (by kernel_rfl) (by kernel_rfl) qa2p qa2r qa2s qa2q (subsOK_nil _ _)
theorem qa2z {R : Type} : LoopsOK (R := R) (hnd 1 qa2v) qa2w qa2u qatj := loopsOK_of (l := []) (by kernel_rfl) (trivial)
theorem qa20 : RngsOK Tryd.prog qa2w qatj := rngs0 (by kernel_rfl)
noncomputable def qa21 {R : Type} : Inl R := .mk 80 qa2w qa2u qatj Tryd.f80.results.toList qa2v
noncomputable def qa22 : Code := (rngGet 3 qasz).2.1
noncomputable def qa23 : Code := (rngGet 3 qasz).2.2
noncomputable def qa24 {R : Type} : List (Nat × Hd R) := []
noncomputable def qa25 {R : Type} : List (Nat × Inl R) := []
noncomputable def qa26 : Cfg := { T := qasu, spec := [], glob := GlobL.G Tryd.prog, eqs := qasv, N := 13, fuel := 64, loops := [], joins := [], blocks := [], ovl := [], retA := none, fid := 34, rnd := true, saves := [] }
theorem qa27 : CfgOK Tryd.prog qa26 := ⟨tsOK_of qasx, specsL_ok (show SpecsL Tryd.prog qa26.spec from trivial), qasy, ovlL_ok (trivial), globsOK_of rfl, freshL_ok (show FreshL Tryd.prog qa26.fresh from trivial), specsL_ok (show SpecsL Tryd.prog qa26.gns from trivial)⟩
theorem qa28 {R : Type} : SubsOK Tryd.prog (R := R) 0 qa25 := subsOK_nil _ _
theorem qa29 {R : Type} : LoopsOK (R := R) (hnd 0 qa25) qa26 qa24 qa22 := loopsOK_of (l := []) (by kernel_rfl) (trivial)
theorem qa3a {R : Type} : LoopsOK (R := R) (hnd 0 qa25) qa26 qa24 qa23 := loopsOK_of (l := []) (by kernel_rfl) (trivial)
noncomputable def qa3b {R : Type} : Inl R := .rnd 34 3 qa26 qa24 [6] qa22 qa23 qa25
noncomputable def qa3c : Code := (rngGet 3 qas6).2.1
noncomputable def qa3d : Code := (rngGet 3 qas6).2.2
noncomputable def qa3e {R : Type} : List (Nat × Hd R) := []
noncomputable def qa3f {R : Type} : List (Nat × Inl R) := [(12, qa3b)]
noncomputable def qa3g : Cfg := { T := qasu, spec := [], glob := GlobL.G Tryd.prog, eqs := qasv, N := 15, fuel := 64, loops := [], joins := [], blocks := [], ovl := [], retA := none, fid := 59, rnd := true, saves := [] }
theorem qa3h : CfgOK Tryd.prog qa3g := ⟨tsOK_of qasx, specsL_ok (show SpecsL Tryd.prog qa3g.spec from trivial), qasy, ovlL_ok (trivial), globsOK_of rfl, freshL_ok (show FreshL Tryd.prog qa3g.fresh from trivial), specsL_ok (show SpecsL Tryd.prog qa3g.gns from trivial)⟩
theorem qa3i {R : Type} : SubsOK Tryd.prog (R := R) 1 qa3f := subsOK_round (by kernel_rfl) qa27 qa29 qa3a qa28 (subsOK_nil _ _)
theorem qa3j {R : Type} : LoopsOK (R := R) (hnd 1 qa3f) qa3g qa3e qa3c := loopsOK_of (l := []) (by kernel_rfl) (trivial)
theorem qa3k {R : Type} : LoopsOK (R := R) (hnd 1 qa3f) qa3g qa3e qa3d := loopsOK_of (l := []) (by kernel_rfl) (trivial)
noncomputable def qa3l {R : Type} : Inl R := .rnd 59 3 qa3g qa3e [6] qa3c qa3d qa3f
noncomputable def qa3m : Code := (rngGet 3 qasz).2.1
noncomputable def qa3n : Code := (rngGet 3 qasz).2.2
noncomputable def qa3o {R : Type} : List (Nat × Hd R) := []
noncomputable def qa3p {R : Type} : List (Nat × Inl R) := []
noncomputable def qa3q : Cfg := { T := qasu, spec := [], glob := GlobL.G Tryd.prog, eqs := qasv, N := 13, fuel := 64, loops := [], joins := [], blocks := [], ovl := [], retA := none, fid := 34, rnd := true, saves := [] }
theorem qa3r : CfgOK Tryd.prog qa3q := ⟨tsOK_of qasx, specsL_ok (show SpecsL Tryd.prog qa3q.spec from trivial), qasy, ovlL_ok (trivial), globsOK_of rfl, freshL_ok (show FreshL Tryd.prog qa3q.fresh from trivial), specsL_ok (show SpecsL Tryd.prog qa3q.gns from trivial)⟩
theorem qa3s {R : Type} : SubsOK Tryd.prog (R := R) 0 qa3p := subsOK_nil _ _
theorem qa3t {R : Type} : LoopsOK (R := R) (hnd 0 qa3p) qa3q qa3o qa3m := loopsOK_of (l := []) (by kernel_rfl) (trivial)
theorem qa3u {R : Type} : LoopsOK (R := R) (hnd 0 qa3p) qa3q qa3o qa3n := loopsOK_of (l := []) (by kernel_rfl) (trivial)
noncomputable def qa3v {R : Type} : Inl R := .rnd 34 3 qa3q qa3o [6] qa3m qa3n qa3p
noncomputable def qa3w : Code := (rngGet 3 qas6).2.1
noncomputable def qa3x : Code := (rngGet 3 qas6).2.2
noncomputable def qa3y {R : Type} : List (Nat × Hd R) := []
noncomputable def qa3z {R : Type} : List (Nat × Inl R) := [(12, qa3v)]
noncomputable def qa30 : Cfg := { T := qasu, spec := [], glob := GlobL.G Tryd.prog, eqs := qasv, N := 15, fuel := 64, loops := [], joins := [], blocks := [], ovl := [], retA := none, fid := 59, rnd := true, saves := [] }
theorem qa31 : CfgOK Tryd.prog qa30 := ⟨tsOK_of qasx, specsL_ok (show SpecsL Tryd.prog qa30.spec from trivial), qasy, ovlL_ok (trivial), globsOK_of rfl, freshL_ok (show FreshL Tryd.prog qa30.fresh from trivial), specsL_ok (show SpecsL Tryd.prog qa30.gns from trivial)⟩
theorem qa32 {R : Type} : SubsOK Tryd.prog (R := R) 1 qa3z := subsOK_round (by kernel_rfl) qa3r qa3t qa3u qa3s (subsOK_nil _ _)
theorem qa33 {R : Type} : LoopsOK (R := R) (hnd 1 qa3z) qa30 qa3y qa3w := loopsOK_of (l := []) (by kernel_rfl) (trivial)
theorem qa34 {R : Type} : LoopsOK (R := R) (hnd 1 qa3z) qa30 qa3y qa3x := loopsOK_of (l := []) (by kernel_rfl) (trivial)
noncomputable def qa35 {R : Type} : Inl R := .rnd 59 3 qa30 qa3y [6] qa3w qa3x qa3z
noncomputable def qa36 {R : Type} : List (Nat × Hd R) := [(5, hdOf qa1p qa1q)]
noncomputable def qa37 {R : Type} : List (Nat × Inl R) := [(31, qa21), (41, qa3l), (51, qa35)]
noncomputable def qa38 : Cfg := { T := qasu, spec := [], glob := GlobL.G Tryd.prog, eqs := qasv, N := 52, fuel := 64, loops := [(5, ⟨[0, 1, 2, 3, 2000000, 2000002], [], [0, 3, 4, 5, 6, 7, 9], 10, [], [], [], []⟩)], joins := [], blocks := [(2, ⟨[0, 2, 2000000, 2000002], [], [0, 3, 4, 5, 9], 10, [], [], [], []⟩)], ovl := [], retA := some ⟨[2000000, 2000002], [], [0, 3, 9], 10, [], [], [], []⟩, fid := 78, rnd := false, saves := [] }
theorem qa39 : CfgOK Tryd.prog qa38 := ⟨tsOK_of qasx, specsL_ok (show SpecsL Tryd.prog qa38.spec from trivial), qasy, ovlL_ok (trivial), globsOK_of rfl, freshL_ok (show FreshL Tryd.prog qa38.fresh from trivial), specsL_ok (show SpecsL Tryd.prog qa38.gns from trivial)⟩
theorem qa4a {R : Type} : SubsOK Tryd.prog (R := R) 2 qa37 := subsOK_cons (fn := Tryd.f80) (by kernel_rfl) (by kernel_rfl) (by kernel_rfl) (by kernel_rfl) (by kernel_rfl) qa2x qa2z qa20 qa2y (subsOK_round (by kernel_rfl) qa3h qa3j qa3k qa3i (subsOK_round (by kernel_rfl) qa31 qa33 qa34 qa32 (subsOK_nil _ _)))
theorem qa4b {R : Type} : LoopOK (R := R) (hnd 2 qa37) qa38 qa36 (sub [1, 0, 0, 0] qati) (HS.V qa1p) (HS.st qa1p) (HS.sh qa1p) qa1q (hdOf qa1p qa1q) := loopOK_of qa1p qa1q (fun _ _ => rfl) (by intro q v K; kernel_rfl)
theorem qa4c {R : Type} : LoopsOK (R := R) (hnd 2 qa37) qa38 qa36 qati := loopsOK_of (l := [sub [0, 1, 0, 0, 0, 0] qati, sub [1, 0, 0, 0] qati]) (by kernel_rfl) (loopsL_skip (b := sub [0, 1, 0, 0, 0, 0] qati) (rid := 1) (by kernel_rfl) (by kernel_rfl) (loopsL_cons (b := sub [1, 0, 0, 0] qati) (rid := 5) (by kernel_rfl) (by kernel_rfl) qa4b (trivial)))
theorem qa4d : RngsOK Tryd.prog qa38 qati := rngs0 (by kernel_rfl)
noncomputable def qa4e {R : Type} : Inl R := .mk 78 qa38 qa36 qati Tryd.f78.results.toList qa37
noncomputable def qa4f {R : Type} : List (Nat × Hd R) := []
noncomputable def qa4g {R : Type} : List (Nat × Inl R) := [(5, qa2l), (1000003, qa4e)]
noncomputable def qa4h : Cfg := { T := qasu, spec := [], glob := GlobL.G Tryd.prog, eqs := qasv, N := 15, fuel := 64, loops := [], joins := [], blocks := [], ovl := [], retA := none, fid := 59, rnd := false, saves := [(3, [2])] }
theorem qa4i : CfgOK Tryd.prog qa4h := ⟨tsOK_of qasx, specsL_ok (show SpecsL Tryd.prog qa4h.spec from trivial), qasy, ovlL_ok (trivial), globsOK_of rfl, freshL_ok (show FreshL Tryd.prog qa4h.fresh from trivial), specsL_ok (show SpecsL Tryd.prog qa4h.gns from trivial)⟩
theorem qa4j {R : Type} : SubsOK Tryd.prog (R := R) 3 qa4g := subsOK_cons (fn := Tryd.f60) (by kernel_rfl) (by kernel_rfl) (by kernel_rfl) (by kernel_rfl) (by kernel_rfl) qa2h qa2j qa2k qa2i (subsOK_cons (fn := Tryd.f78) (by kernel_rfl) (by kernel_rfl) (by kernel_rfl) (by kernel_rfl) (by kernel_rfl) qa39 qa4c qa4d qa4a (subsOK_nil _ _))
theorem qa4k {R : Type} : LoopsOK (R := R) (hnd 3 qa4g) qa4h qa4f qas6 := loopsOK_of (l := []) (by kernel_rfl) (trivial)
theorem qa4l : RngsOK Tryd.prog qa4h qas6 := rngs1 (x := rngGet 3 qas6) (by kernel_rfl) (by kernel_rfl)
noncomputable def qa4m {R : Type} : Inl R := .mk 59 qa4h qa4f qas6 Tryd.f59.results.toList qa4g
noncomputable def qa4n {R : Type} : List (Nat × Hd R) := []
noncomputable def qa4o {R : Type} : List (Nat × Inl R) := [(5, qa15), (1000003, qa4m)]
noncomputable def qa4p : Cfg := { T := qasu, spec := [], glob := GlobL.G Tryd.prog, eqs := qasv, N := 13, fuel := 64, loops := [], joins := [], blocks := [], ovl := [], retA := none, fid := 34, rnd := false, saves := [(3, [2])] }
theorem qa4q : CfgOK Tryd.prog qa4p := ⟨tsOK_of qasx, specsL_ok (show SpecsL Tryd.prog qa4p.spec from trivial), qasy, ovlL_ok (trivial), globsOK_of rfl, freshL_ok (show FreshL Tryd.prog qa4p.fresh from trivial), specsL_ok (show SpecsL Tryd.prog qa4p.gns from trivial)⟩
theorem qa4r {R : Type} : SubsOK Tryd.prog (R := R) 4 qa4o := subsOK_cons (fn := Tryd.f49) (by kernel_rfl) (by kernel_rfl) (by kernel_rfl) (by kernel_rfl) (by kernel_rfl) qa11 qa13 qa14 qa12 (subsOK_cons (fn := Tryd.f59) (by kernel_rfl) (by kernel_rfl) (by kernel_rfl) (by kernel_rfl) (by kernel_rfl) qa4i qa4k qa4l qa4j (subsOK_nil _ _))
theorem qa4s {R : Type} : LoopsOK (R := R) (hnd 4 qa4o) qa4p qa4n qasz := loopsOK_of (l := []) (by kernel_rfl) (trivial)
theorem qa4t : RngsOK Tryd.prog qa4p qasz := rngs1 (x := rngGet 3 qasz) (by kernel_rfl) (by kernel_rfl)
theorem qa4u : ∀ v, runFn (hnd 4 qa4o) qa4p qa4n qasz Tryd.f34.results.toList (HP.st qa1r v) (decOf qa1s qa1u) = qa1w (qa1t v) := by intro v; kernel_rfl
theorem qa4v : SpecOK Tryd.prog 34 qa1x := specOK_mk (fn := Tryd.f34) (by kernel_rfl) (by kernel_rfl) (by kernel_rfl) qa4q (by kernel_rfl) (by kernel_rfl) qasw (by kernel_rfl) (fun _ => rfl) (d := 4) qa4r qa4s qa4t qa4u
noncomputable def qa4w : HS := ⟨[(0, .one (.yld 10)), (1, .one (.ptr 7 0)), (2, .one (.ptr 6 0)), (3, .one (.ptr 8 0)), (2000002, .one (.ptr 3 0)), (4000000, .one (.str)), (4000002, .one (.ptr 0 0))], [(0, .cells [.bool, .sl .str, .bool]), (3, .cells [.own 11]), (4, .loop true 13 61 3 [(2, .one (.ptr 3 0))]), (5, .cells [.yld 4]), (6, .cells [.str]), (7, .cells [.strk ([47] : Str)]), (8, .cells [.intk .i64 (0 : Int)]), (10, .loop true 15 59 3 [(2, .one (.ptr 5 0))]), (11, .row .str)], 12⟩
noncomputable def qa4x {R : Type} : Nat → HS.V qa4w → (Ex → St → Option R) → Option R := fun q v K =>
  path_Read_6_4_1000003_1000003_L5 (fun y8 y9 => K (.exit 2) { regs := [(0, .v (.one (.yld 10))), (2, .v (.one (.ptr 6 0))), (2000002, .v (.one (.ptr 3 0))), (4000000, .v (.one (.str v.1.2.2.2.2.2.1))), (4000002, .v (.one (.ptr 0 0)))], mem := [(0, .cells [.bool ((⟨v.2.1.1, v.2.1.2.1, v.2.1.2.2.1⟩ : Pth).abs), .sl .str ((⟨v.2.1.1, v.2.1.2.1, v.2.1.2.2.1⟩ : Pth).names), .bool ((⟨v.2.1.1, v.2.1.2.1, v.2.1.2.2.1⟩ : Pth).slash)]), (3, .cells [.own 11]), (4, .loop true 13 61 3 [(2, .v (.one (.ptr 3 0)))]), (5, .cells [.yld 4]), (6, .cells [.str y8]), (10, .loop true 15 59 3 [(2, .v (.one (.ptr 5 0)))]), (11, .row .str y9)], nx := 12 }) q v.2.2.2.2.2.1.1 v.2.2.2.2.2.2.2.2.2.1
noncomputable def qa4y : List HV := [.one (.str)]
noncomputable def qa4z : List HV := [.agg [.bool, .sl .str, .bool]]
noncomputable def qa40 : HP.V qa4y → Str := fun v => (v.1)
noncomputable def qa41 : HX.V qa4z → Pth := fun v => ((⟨v.1, v.2.1, v.2.2.1⟩ : Pth))
noncomputable def qa42 : Pth → HX.V qa4z := fun y => ((y.abs, (y.names, (y.slash, ()))))
noncomputable def qa43 : Str → Option (Pth) := fun x => path_Read x
noncomputable def qa44 : Spec := mkSpec qa4y qa4z qa40 qa42 qa43
noncomputable def qa45 {R : Type} : List (Nat × Hd R) := []
noncomputable def qa46 {R : Type} : List (Nat × Inl R) := []
noncomputable def qa47 : Cfg := { T := qasu, spec := [], glob := GlobL.G Tryd.prog, eqs := qasv, N := 4, fuel := 64, loops := [], joins := [], blocks := [], ovl := [], retA := none, fid := 49, rnd := false, saves := [] }
theorem qa48 : CfgOK Tryd.prog qa47 := ⟨tsOK_of qasx, specsL_ok (show SpecsL Tryd.prog qa47.spec from trivial), qasy, ovlL_ok (trivial), globsOK_of rfl, freshL_ok (show FreshL Tryd.prog qa47.fresh from trivial), specsL_ok (show SpecsL Tryd.prog qa47.gns from trivial)⟩
theorem qa49 {R : Type} : SubsOK Tryd.prog (R := R) 5 qa46 := subsOK_nil _ _
theorem qa5a {R : Type} : LoopsOK (R := R) (hnd 5 qa46) qa47 qa45 qas1 := loopsOK_of (l := []) (by kernel_rfl) (trivial)
theorem qa5b : RngsOK Tryd.prog qa47 qas1 := rngs0 (by kernel_rfl)
noncomputable def qa5c {R : Type} : Inl R := .mk 49 qa47 qa45 qas1 Tryd.f49.results.toList qa46
noncomputable def qa5d {R : Type} : List (Nat × Hd R) := []
noncomputable def qa5e {R : Type} : List (Nat × Inl R) := []
noncomputable def qa5f : Cfg := { T := qasu, spec := [], glob := GlobL.G Tryd.prog, eqs := qasv, N := 8, fuel := 64, loops := [], joins := [], blocks := [], ovl := [], retA := none, fid := 73, rnd := false, saves := [] }
theorem qa5g : CfgOK Tryd.prog qa5f := ⟨tsOK_of qasx, specsL_ok (show SpecsL Tryd.prog qa5f.spec from trivial), qasy, ovlL_ok (trivial), globsOK_of rfl, freshL_ok (show FreshL Tryd.prog qa5f.fresh from trivial), specsL_ok (show SpecsL Tryd.prog qa5f.gns from trivial)⟩
theorem qa5h {R : Type} : SubsOK Tryd.prog (R := R) 1 qa5e := subsOK_nil _ _
theorem qa5i {R : Type} : LoopsOK (R := R) (hnd 1 qa5e) qa5f qa5d qatf := loopsOK_of (l := []) (by kernel_rfl) (trivial)
theorem qa5j : RngsOK Tryd.prog qa5f qatf := rngs0 (by kernel_rfl)
noncomputable def qa5k {R : Type} : Inl R := .mk 73 qa5f qa5d qatf Tryd.f73.results.toList qa5e
noncomputable def qa5l {R : Type} : List (Nat × Hd R) := []
noncomputable def qa5m {R : Type} : List (Nat × Inl R) := [(7, qa5k)]
noncomputable def qa5n : Cfg := { T := qasu, spec := [], glob := GlobL.G Tryd.prog, eqs := qasv, N := 8, fuel := 64, loops := [], joins := [], blocks := [], ovl := [], retA := none, fid := 60, rnd := false, saves := [] }
theorem qa5o : CfgOK Tryd.prog qa5n := ⟨tsOK_of qasx, specsL_ok (show SpecsL Tryd.prog qa5n.spec from trivial), qasy, ovlL_ok (trivial), globsOK_of rfl, freshL_ok (show FreshL Tryd.prog qa5n.fresh from trivial), specsL_ok (show SpecsL Tryd.prog qa5n.gns from trivial)⟩
theorem qa5p {R : Type} : SubsOK Tryd.prog (R := R) 2 qa5m := subsOK_cons (fn := Tryd.f73) (by kernel_rfl) (by kernel_rfl) (by kernel_rfl) (by kernel_rfl) (by kernel_rfl) qa5g qa5i qa5j qa5h (subsOK_nil _ _)
theorem qa5q {R : Type} : LoopsOK (R := R) (hnd 2 qa5m) qa5n qa5l qas7 := loopsOK_of (l := []) (by kernel_rfl) (trivial)
theorem qa5r : RngsOK Tryd.prog qa5n qas7 := rngs0 (by kernel_rfl)
noncomputable def qa5s {R : Type} : Inl R := .mk 60 qa5n qa5l qas7 Tryd.f60.results.toList qa5m
noncomputable def qa5t {R : Type} : List (Nat × Hd R) := []
noncomputable def qa5u {R : Type} : List (Nat × Inl R) := []
noncomputable def qa5v : Cfg := { T := qasu, spec := [(94, stringslite_IndexByte_sp)], glob := GlobL.G Tryd.prog, eqs := qasv, N := 143, fuel := 64, loops := [], joins := [], blocks := [], ovl := [], retA := some ⟨[4, 2000000, 2000001, 2000002, 2000003, 4000002, 6000000, 6000002], [], [0, 3, 4, 5, 6, 7, 8, 10, 11], 12, [], [], [], []⟩, fid := 87, rnd := false, saves := [] }
theorem qa5w : CfgOK Tryd.prog qa5v := ⟨tsOK_of qasx, specsL_ok (show SpecsL Tryd.prog qa5v.spec from ⟨stringslite_IndexByte_ok, trivial⟩), qasy, ovlL_ok (trivial), globsOK_of rfl, freshL_ok (show FreshL Tryd.prog qa5v.fresh from trivial), specsL_ok (show SpecsL Tryd.prog qa5v.gns from trivial)⟩
theorem qa5x {R : Type} : SubsOK Tryd.prog (R := R) 0 qa5u := subsOK_nil _ _
theorem qa5y {R : Type} : LoopsOK (R := R) (hnd 0 qa5u) qa5v qa5t qatl := loopsOK_of (l := [sub [1, 1, 1, 1, 1, 1, 1, 1, 0, 0, 0] qatl]) (by kernel_rfl) (loopsL_skip (b := sub [1, 1, 1, 1, 1, 1, 1, 1, 0, 0, 0] qatl) (rid := 15) (by kernel_rfl) (by kernel_rfl) (trivial))
theorem qa5z : RngsOK Tryd.prog qa5v qatl := rngs0 (by kernel_rfl)
noncomputable def qa50 {R : Type} : Inl R := .mk 87 qa5v qa5t qatl Tryd.f87.results.toList qa5u
noncomputable def qa51 {R : Type} : List (Nat × Hd R) := []
noncomputable def qa52 {R : Type} : List (Nat × Inl R) := [(7, qa50)]
noncomputable def qa53 : Cfg := { T := qasu, spec := [], glob := GlobL.G Tryd.prog, eqs := qasv, N := 8, fuel := 64, loops := [], joins := [], blocks := [], ovl := [], retA := none, fid := 80, rnd := false, saves := [] }
theorem qa54 : CfgOK Tryd.prog qa53 := ⟨tsOK_of qasx, specsL_ok (show SpecsL Tryd.prog qa53.spec from trivial), qasy, ovlL_ok (trivial), globsOK_of rfl, freshL_ok (show FreshL Tryd.prog qa53.fresh from trivial), specsL_ok (show SpecsL Tryd.prog qa53.gns from trivial)⟩
theorem qa55 {R : Type} : SubsOK Tryd.prog (R := R) 1 qa52 := subsOK_cons (fn := Tryd.f87) (by kernel_rfl) (by kernel_rfl) (by kernel_rfl) (by kernel_rfl) (by kernel_rfl) qa5w qa5y qa5z qa5x (subsOK_nil _ _)
theorem qa56 {R : Type} : LoopsOK (R := R) (hnd 1 qa52) qa53 qa51 qatj := loopsOK_of (l := []) (by kernel_rfl) (trivial)
theorem qa57 : RngsOK Tryd.prog qa53 qatj := rngs0 (by kernel_rfl)
noncomputable def qa58 {R : Type} : Inl R := .mk 80 qa53 qa51 qatj Tryd.f80.results.toList qa52
noncomputable def qa59 : Code := (rngGet 3 qas8).2.1
noncomputable def qa6a : Code := (rngGet 3 qas8).2.2
noncomputable def qa6b {R : Type} : List (Nat × Hd R) := []
noncomputable def qa6c {R : Type} : List (Nat × Inl R) := []
noncomputable def qa6d : Cfg := { T := qasu, spec := [], glob := GlobL.G Tryd.prog, eqs := qasv, N := 13, fuel := 64, loops := [], joins := [], blocks := [], ovl := [], retA := none, fid := 61, rnd := true, saves := [] }
theorem qa6e : CfgOK Tryd.prog qa6d := ⟨tsOK_of qasx, specsL_ok (show SpecsL Tryd.prog qa6d.spec from trivial), qasy, ovlL_ok (trivial), globsOK_of rfl, freshL_ok (show FreshL Tryd.prog qa6d.fresh from trivial), specsL_ok (show SpecsL Tryd.prog qa6d.gns from trivial)⟩
theorem qa6f {R : Type} : SubsOK Tryd.prog (R := R) 0 qa6c := subsOK_nil _ _
theorem qa6g {R : Type} : LoopsOK (R := R) (hnd 0 qa6c) qa6d qa6b qa59 := loopsOK_of (l := []) (by kernel_rfl) (trivial)
theorem qa6h {R : Type} : LoopsOK (R := R) (hnd 0 qa6c) qa6d qa6b qa6a := loopsOK_of (l := []) (by kernel_rfl) (trivial)
noncomputable def qa6i {R : Type} : Inl R := .rnd 61 3 qa6d qa6b [7] qa59 qa6a qa6c
noncomputable def qa6j : Code := (rngGet 3 qas6).2.1
noncomputable def qa6k : Code := (rngGet 3 qas6).2.2
noncomputable def qa6l {R : Type} : List (Nat × Hd R) := []
noncomputable def qa6m {R : Type} : List (Nat × Inl R) := [(12, qa6i)]
noncomputable def qa6n : Cfg := { T := qasu, spec := [], glob := GlobL.G Tryd.prog, eqs := qasv, N := 15, fuel := 64, loops := [], joins := [], blocks := [], ovl := [], retA := none, fid := 59, rnd := true, saves := [] }
theorem qa6o : CfgOK Tryd.prog qa6n := ⟨tsOK_of qasx, specsL_ok (show SpecsL Tryd.prog qa6n.spec from trivial), qasy, ovlL_ok (trivial), globsOK_of rfl, freshL_ok (show FreshL Tryd.prog qa6n.fresh from trivial), specsL_ok (show SpecsL Tryd.prog qa6n.gns from trivial)⟩
theorem qa6p {R : Type} : SubsOK Tryd.prog (R := R) 1 qa6m := subsOK_round (by kernel_rfl) qa6e qa6g qa6h qa6f (subsOK_nil _ _)
theorem qa6q {R : Type} : LoopsOK (R := R) (hnd 1 qa6m) qa6n qa6l qa6j := loopsOK_of (l := []) (by kernel_rfl) (trivial)
theorem qa6r {R : Type} : LoopsOK (R := R) (hnd 1 qa6m) qa6n qa6l qa6k := loopsOK_of (l := []) (by kernel_rfl) (trivial)
noncomputable def qa6s {R : Type} : Inl R := .rnd 59 3 qa6n qa6l [6] qa6j qa6k qa6m
noncomputable def qa6t : Code := (rngGet 3 qas8).2.1
noncomputable def qa6u : Code := (rngGet 3 qas8).2.2
noncomputable def qa6v {R : Type} : List (Nat × Hd R) := []
noncomputable def qa6w {R : Type} : List (Nat × Inl R) := []
noncomputable def qa6x : Cfg := { T := qasu, spec := [], glob := GlobL.G Tryd.prog, eqs := qasv, N := 13, fuel := 64, loops := [], joins := [], blocks := [], ovl := [], retA := none, fid := 61, rnd := true, saves := [] }
theorem qa6y : CfgOK Tryd.prog qa6x := ⟨tsOK_of qasx, specsL_ok (show SpecsL Tryd.prog qa6x.spec from trivial), qasy, ovlL_ok (trivial), globsOK_of rfl, freshL_ok (show FreshL Tryd.prog qa6x.fresh from trivial), specsL_ok (show SpecsL Tryd.prog qa6x.gns from trivial)⟩
theorem qa6z {R : Type} : SubsOK Tryd.prog (R := R) 0 qa6w := subsOK_nil _ _
theorem qa60 {R : Type} : LoopsOK (R := R) (hnd 0 qa6w) qa6x qa6v qa6t := loopsOK_of (l := []) (by kernel_rfl) (trivial)
theorem qa61 {R : Type} : LoopsOK (R := R) (hnd 0 qa6w) qa6x qa6v qa6u := loopsOK_of (l := []) (by kernel_rfl) (trivial)
noncomputable def qa62 {R : Type} : Inl R := .rnd 61 3 qa6x qa6v [7] qa6t qa6u qa6w
noncomputable def qa63 : Code := (rngGet 3 qas6).2.1
noncomputable def qa64 : Code := (rngGet 3 qas6).2.2
noncomputable def qa65 {R : Type} : List (Nat × Hd R) := []
noncomputable def qa66 {R : Type} : List (Nat × Inl R) := [(12, qa62)]
noncomputable def qa67 : Cfg := { T := qasu, spec := [], glob := GlobL.G Tryd.prog, eqs := qasv, N := 15, fuel := 64, loops := [], joins := [], blocks := [], ovl := [], retA := none, fid := 59, rnd := true, saves := [] }
theorem qa68 : CfgOK Tryd.prog qa67 := ⟨tsOK_of qasx, specsL_ok (show SpecsL Tryd.prog qa67.spec from trivial), qasy, ovlL_ok (trivial), globsOK_of rfl, freshL_ok (show FreshL Tryd.prog qa67.fresh from trivial), specsL_ok (show SpecsL Tryd.prog qa67.gns from trivial)⟩
theorem qa69 {R : Type} : SubsOK Tryd.prog (R := R) 1 qa66 := subsOK_round (by kernel_rfl) qa6y qa60 qa61 qa6z (subsOK_nil _ _)
theorem qa7a {R : Type} : LoopsOK (R := R) (hnd 1 qa66) qa67 qa65 qa63 := loopsOK_of (l := []) (by kernel_rfl) (trivial)
theorem qa7b {R : Type} : LoopsOK (R := R) (hnd 1 qa66) qa67 qa65 qa64 := loopsOK_of (l := []) (by kernel_rfl) (trivial)
noncomputable def qa7c {R : Type} : Inl R := .rnd 59 3 qa67 qa65 [6] qa63 qa64 qa66
noncomputable def qa7d {R : Type} : List (Nat × Hd R) := [(5, hdOf qa4w qa4x)]
noncomputable def qa7e {R : Type} : List (Nat × Inl R) := [(31, qa58), (41, qa6s), (51, qa7c)]
noncomputable def qa7f : Cfg := { T := qasu, spec := [], glob := GlobL.G Tryd.prog, eqs := qasv, N := 52, fuel := 64, loops := [(5, ⟨[0, 1, 2, 3, 2000002, 4000000, 4000002], [], [0, 3, 4, 5, 6, 7, 8, 10, 11], 12, [], [0], [(3, 0, 11, .str)], []⟩)], joins := [], blocks := [(2, ⟨[0, 2, 2000002, 4000000, 4000002], [], [0, 3, 4, 5, 6, 10, 11], 12, [], [], [], []⟩)], ovl := [], retA := none, fid := 78, rnd := false, saves := [] }
theorem qa7g : CfgOK Tryd.prog qa7f := ⟨tsOK_of qasx, specsL_ok (show SpecsL Tryd.prog qa7f.spec from trivial), qasy, ovlL_ok (trivial), globsOK_of rfl, freshL_ok (show FreshL Tryd.prog qa7f.fresh from trivial), specsL_ok (show SpecsL Tryd.prog qa7f.gns from trivial)⟩
theorem qa7h {R : Type} : SubsOK Tryd.prog (R := R) 2 qa7e := subsOK_cons (fn := Tryd.f80) (by kernel_rfl) (by kernel_rfl) (by kernel_rfl) (by kernel_rfl) (by kernel_rfl) qa54 qa56 qa57 qa55 (subsOK_round (by kernel_rfl) qa6o qa6q qa6r qa6p (subsOK_round (by kernel_rfl) qa68 qa7a qa7b qa69 (subsOK_nil _ _)))
theorem qa7i {R : Type} : LoopOK (R := R) (hnd 2 qa7e) qa7f qa7d (sub [1, 0, 0, 0] qati) (HS.V qa4w) (HS.st qa4w) (HS.sh qa4w) qa4x (hdOf qa4w qa4x) := loopOK_of qa4w qa4x (fun _ _ => rfl) (by intro q v K; kernel_rfl)
theorem qa7j {R : Type} : LoopsOK (R := R) (hnd 2 qa7e) qa7f qa7d qati := loopsOK_of (l := [sub [0, 1, 0, 0, 0, 0] qati, sub [1, 0, 0, 0] qati]) (by kernel_rfl) (loopsL_skip (b := sub [0, 1, 0, 0, 0, 0] qati) (rid := 1) (by kernel_rfl) (by kernel_rfl) (loopsL_cons (b := sub [1, 0, 0, 0] qati) (rid := 5) (by kernel_rfl) (by kernel_rfl) qa7i (trivial)))
theorem qa7k : RngsOK Tryd.prog qa7f qati := rngs0 (by kernel_rfl)
noncomputable def qa7l {R : Type} : Inl R := .mk 78 qa7f qa7d qati Tryd.f78.results.toList qa7e
noncomputable def qa7m {R : Type} : List (Nat × Hd R) := []
noncomputable def qa7n {R : Type} : List (Nat × Inl R) := [(5, qa5s), (1000003, qa7l)]
noncomputable def qa7o : Cfg := { T := qasu, spec := [], glob := GlobL.G Tryd.prog, eqs := qasv, N := 15, fuel := 64, loops := [], joins := [], blocks := [], ovl := [], retA := none, fid := 59, rnd := false, saves := [(3, [2])] }
theorem qa7p : CfgOK Tryd.prog qa7o := ⟨tsOK_of qasx, specsL_ok (show SpecsL Tryd.prog qa7o.spec from trivial), qasy, ovlL_ok (trivial), globsOK_of rfl, freshL_ok (show FreshL Tryd.prog qa7o.fresh from trivial), specsL_ok (show SpecsL Tryd.prog qa7o.gns from trivial)⟩
theorem qa7q {R : Type} : SubsOK Tryd.prog (R := R) 3 qa7n := subsOK_cons (fn := Tryd.f60) (by kernel_rfl) (by kernel_rfl) (by kernel_rfl) (by kernel_rfl) (by kernel_rfl) qa5o qa5q qa5r qa5p (subsOK_cons (fn := Tryd.f78) (by kernel_rfl) (by kernel_rfl) (by kernel_rfl) (by kernel_rfl) (by kernel_rfl) qa7g qa7j qa7k qa7h (subsOK_nil _ _))
theorem qa7r {R : Type} : LoopsOK (R := R) (hnd 3 qa7n) qa7o qa7m qas6 := loopsOK_of (l := []) (by kernel_rfl) (trivial)
theorem qa7s : RngsOK Tryd.prog qa7o qas6 := rngs1 (x := rngGet 3 qas6) (by kernel_rfl) (by kernel_rfl)
noncomputable def qa7t {R : Type} : Inl R := .mk 59 qa7o qa7m qas6 Tryd.f59.results.toList qa7n
noncomputable def qa7u {R : Type} : List (Nat × Hd R) := []
noncomputable def qa7v {R : Type} : List (Nat × Inl R) := [(1000003, qa7t)]
noncomputable def qa7w : Cfg := { T := qasu, spec := [], glob := GlobL.G Tryd.prog, eqs := qasv, N := 13, fuel := 64, loops := [], joins := [], blocks := [], ovl := [], retA := none, fid := 61, rnd := false, saves := [(3, [2])] }
theorem qa7x : CfgOK Tryd.prog qa7w := ⟨tsOK_of qasx, specsL_ok (show SpecsL Tryd.prog qa7w.spec from trivial), qasy, ovlL_ok (trivial), globsOK_of rfl, freshL_ok (show FreshL Tryd.prog qa7w.fresh from trivial), specsL_ok (show SpecsL Tryd.prog qa7w.gns from trivial)⟩
theorem qa7y {R : Type} : SubsOK Tryd.prog (R := R) 4 qa7v := subsOK_cons (fn := Tryd.f59) (by kernel_rfl) (by kernel_rfl) (by kernel_rfl) (by kernel_rfl) (by kernel_rfl) qa7p qa7r qa7s qa7q (subsOK_nil _ _)
theorem qa7z {R : Type} : LoopsOK (R := R) (hnd 4 qa7v) qa7w qa7u qas8 := loopsOK_of (l := []) (by kernel_rfl) (trivial)
theorem qa70 : RngsOK Tryd.prog qa7w qas8 := rngs1 (x := rngGet 3 qas8) (by kernel_rfl) (by kernel_rfl)
noncomputable def qa71 {R : Type} : Inl R := .mk 61 qa7w qa7u qas8 Tryd.f61.results.toList qa7v
noncomputable def qa72 {R : Type} : List (Nat × Hd R) := []
noncomputable def qa73 {R : Type} : List (Nat × Inl R) := [(4, qa71)]
noncomputable def qa74 : Cfg := { T := qasu, spec := [], glob := GlobL.G Tryd.prog, eqs := qasv, N := 5, fuel := 64, loops := [], joins := [], blocks := [], ovl := [], retA := none, fid := 50, rnd := false, saves := [] }
theorem qa75 : CfgOK Tryd.prog qa74 := ⟨tsOK_of qasx, specsL_ok (show SpecsL Tryd.prog qa74.spec from trivial), qasy, ovlL_ok (trivial), globsOK_of rfl, freshL_ok (show FreshL Tryd.prog qa74.fresh from trivial), specsL_ok (show SpecsL Tryd.prog qa74.gns from trivial)⟩
theorem qa76 {R : Type} : SubsOK Tryd.prog (R := R) 5 qa73 := subsOK_cons (fn := Tryd.f61) (by kernel_rfl) (by kernel_rfl) (by kernel_rfl) (by kernel_rfl) (by kernel_rfl) qa7x qa7z qa70 qa7y (subsOK_nil _ _)
theorem qa77 {R : Type} : LoopsOK (R := R) (hnd 5 qa73) qa74 qa72 qas2 := loopsOK_of (l := []) (by kernel_rfl) (trivial)
theorem qa78 : RngsOK Tryd.prog qa74 qas2 := rngs0 (by kernel_rfl)
noncomputable def qa79 {R : Type} : Inl R := .mk 50 qa74 qa72 qas2 Tryd.f50.results.toList qa73
noncomputable def qa8a {R : Type} : List (Nat × Hd R) := []
noncomputable def qa8b {R : Type} : List (Nat × Inl R) := []
noncomputable def qa8c : Cfg := { T := qasu, spec := [], glob := GlobL.G Tryd.prog, eqs := qasv, N := 18, fuel := 64, loops := [], joins := [], blocks := [], ovl := [], retA := none, fid := 62, rnd := false, saves := [] }
theorem qa8d : CfgOK Tryd.prog qa8c := ⟨tsOK_of qasx, specsL_ok (show SpecsL Tryd.prog qa8c.spec from trivial), qasy, ovlL_ok (trivial), globsOK_of rfl, freshL_ok (show FreshL Tryd.prog qa8c.fresh from trivial), specsL_ok (show SpecsL Tryd.prog qa8c.gns from trivial)⟩
theorem qa8e {R : Type} : SubsOK Tryd.prog (R := R) 4 qa8b := subsOK_nil _ _
theorem qa8f {R : Type} : LoopsOK (R := R) (hnd 4 qa8b) qa8c qa8a qas9 := loopsOK_of (l := []) (by kernel_rfl) (trivial)
theorem qa8g : RngsOK Tryd.prog qa8c qas9 := rngs0 (by kernel_rfl)
noncomputable def qa8h {R : Type} : Inl R := .mk 62 qa8c qa8a qas9 Tryd.f62.results.toList qa8b
noncomputable def qa8i {R : Type} : List (Nat × Hd R) := []
noncomputable def qa8j {R : Type} : List (Nat × Inl R) := [(7, qa8h)]
noncomputable def qa8k : Cfg := { T := qasu, spec := [], glob := GlobL.G Tryd.prog, eqs := qasv, N := 8, fuel := 64, loops := [], joins := [], blocks := [], ovl := [], retA := none, fid := 51, rnd := false, saves := [] }
theorem qa8l : CfgOK Tryd.prog qa8k := ⟨tsOK_of qasx, specsL_ok (show SpecsL Tryd.prog qa8k.spec from trivial), qasy, ovlL_ok (trivial), globsOK_of rfl, freshL_ok (show FreshL Tryd.prog qa8k.fresh from trivial), specsL_ok (show SpecsL Tryd.prog qa8k.gns from trivial)⟩
theorem qa8m {R : Type} : SubsOK Tryd.prog (R := R) 5 qa8j := subsOK_cons (fn := Tryd.f62) (by kernel_rfl) (by kernel_rfl) (by kernel_rfl) (by kernel_rfl) (by kernel_rfl) qa8d qa8f qa8g qa8e (subsOK_nil _ _)
theorem qa8n {R : Type} : LoopsOK (R := R) (hnd 5 qa8j) qa8k qa8i qas3 := loopsOK_of (l := []) (by kernel_rfl) (trivial)
theorem qa8o : RngsOK Tryd.prog qa8k qas3 := rngs0 (by kernel_rfl)
noncomputable def qa8p {R : Type} : Inl R := .mk 51 qa8k qa8i qas3 Tryd.f51.results.toList qa8j
noncomputable def qa8q {R : Type} : List (Nat × Hd R) := []
noncomputable def qa8r {R : Type} : List (Nat × Inl R) := []
noncomputable def qa8s : Cfg := { T := qasu, spec := [], glob := GlobL.G Tryd.prog, eqs := qasv, N := 21, fuel := 64, loops := [], joins := [], blocks := [], ovl := [], retA := none, fid := 63, rnd := false, saves := [] }
theorem qa8t : CfgOK Tryd.prog qa8s := ⟨tsOK_of qasx, specsL_ok (show SpecsL Tryd.prog qa8s.spec from trivial), qasy, ovlL_ok (trivial), globsOK_of rfl, freshL_ok (show FreshL Tryd.prog qa8s.fresh from trivial), specsL_ok (show SpecsL Tryd.prog qa8s.gns from trivial)⟩
theorem qa8u {R : Type} : SubsOK Tryd.prog (R := R) 4 qa8r := subsOK_nil _ _
theorem qa8v {R : Type} : LoopsOK (R := R) (hnd 4 qa8r) qa8s qa8q qata := loopsOK_of (l := []) (by kernel_rfl) (trivial)
theorem qa8w : RngsOK Tryd.prog qa8s qata := rngs0 (by kernel_rfl)
noncomputable def qa8x {R : Type} : Inl R := .mk 63 qa8s qa8q qata Tryd.f63.results.toList qa8r
noncomputable def qa8y {R : Type} : List (Nat × Hd R) := []
noncomputable def qa8z {R : Type} : List (Nat × Inl R) := [(7, qa8x)]
noncomputable def qa80 : Cfg := { T := qasu, spec := [], glob := GlobL.G Tryd.prog, eqs := qasv, N := 8, fuel := 64, loops := [], joins := [], blocks := [], ovl := [], retA := none, fid := 52, rnd := false, saves := [] }
theorem qa81 : CfgOK Tryd.prog qa80 := ⟨tsOK_of qasx, specsL_ok (show SpecsL Tryd.prog qa80.spec from trivial), qasy, ovlL_ok (trivial), globsOK_of rfl, freshL_ok (show FreshL Tryd.prog qa80.fresh from trivial), specsL_ok (show SpecsL Tryd.prog qa80.gns from trivial)⟩
theorem qa82 {R : Type} : SubsOK Tryd.prog (R := R) 5 qa8z := subsOK_cons (fn := Tryd.f63) (by kernel_rfl) (by kernel_rfl) (by kernel_rfl) (by kernel_rfl) (by kernel_rfl) qa8t qa8v qa8w qa8u (subsOK_nil _ _)
theorem qa83 {R : Type} : LoopsOK (R := R) (hnd 5 qa8z) qa80 qa8y qas4 := loopsOK_of (l := []) (by kernel_rfl) (trivial)
theorem qa84 : RngsOK Tryd.prog qa80 qas4 := rngs0 (by kernel_rfl)
noncomputable def qa85 {R : Type} : Inl R := .mk 52 qa80 qa8y qas4 Tryd.f52.results.toList qa8z
noncomputable def qa86 {R : Type} : List (Nat × Hd R) := []
noncomputable def qa87 {R : Type} : List (Nat × Inl R) := [(5, qa5c), (6, qa79), (8, qa8p), (15, qa85)]
noncomputable def qa88 : Cfg := { T := qasu, spec := [], glob := GlobL.G Tryd.prog, eqs := qasv, N := 18, fuel := 64, loops := [], joins := [], blocks := [], ovl := [], retA := none, fid := 35, rnd := false, saves := [] }
theorem qa89 : CfgOK Tryd.prog qa88 := ⟨tsOK_of qasx, specsL_ok (show SpecsL Tryd.prog qa88.spec from trivial), qasy, ovlL_ok (trivial), globsOK_of rfl, freshL_ok (show FreshL Tryd.prog qa88.fresh from trivial), specsL_ok (show SpecsL Tryd.prog qa88.gns from trivial)⟩
theorem qa9a {R : Type} : SubsOK Tryd.prog (R := R) 6 qa87 := subsOK_cons (fn := Tryd.f49) (by kernel_rfl) (by kernel_rfl) (by kernel_rfl) (by kernel_rfl) (by kernel_rfl) qa48 qa5a qa5b qa49 (subsOK_cons (fn := Tryd.f50) (by kernel_rfl) (by kernel_rfl) (by kernel_rfl) (by kernel_rfl) (by kernel_rfl) qa75 qa77 qa78 qa76 (subsOK_cons (fn := Tryd.f51) (by kernel_rfl) (by kernel_rfl) (by kernel_rfl) (by kernel_rfl) (by kernel_rfl) qa8l qa8n qa8o qa8m (subsOK_cons (fn := Tryd.f52) (by kernel_rfl) (by kernel_rfl) (by kernel_rfl) (by kernel_rfl) (by kernel_rfl) qa81 qa83 qa84 qa82 (subsOK_nil _ _))))
theorem qa9b {R : Type} : LoopsOK (R := R) (hnd 6 qa87) qa88 qa86 qas0 := loopsOK_of (l := []) (by kernel_rfl) (trivial)
theorem qa9c : RngsOK Tryd.prog qa88 qas0 := rngs0 (by kernel_rfl)
theorem qa9d : ∀ v, runFn (hnd 6 qa87) qa88 qa86 qas0 Tryd.f35.results.toList (HP.st qa4y v) (decOf qa4z qa41) = qa43 (qa40 v) := by intro v; kernel_rfl
theorem qa9e : SpecOK Tryd.prog 35 qa44 := specOK_mk (fn := Tryd.f35) (by kernel_rfl) (by kernel_rfl) (by kernel_rfl) qa89 (by kernel_rfl) (by kernel_rfl) qasw (by kernel_rfl) (fun _ => rfl) (d := 6) qa9a qa9b qa9c qa9d
end Go.Eng
set_option linter.unusedVariables false
set_option maxRecDepth 100000
namespace Go.Eng
open Go Go.Proofs
noncomputable def qa9f : List (Nat × TI) := [(3, ⟨false, 1, .one (.int .i64 0), .int .i64⟩), (22, ⟨false, 1, .one (.clip .inode []), .slice .inode 33⟩), (24, ⟨true, 4, .agg [.int .i64 0, .int .i64 0, .int .i64 0, .clip .inode []], .struct [(0, 3), (1, 3), (2, 3), (3, 22)]⟩), (33, ⟨true, 6, .agg [.int .i64 0, .int .i64 0, .int .i64 0, .str [], .int .i64 0, .clip .entry []], .struct [(0, 3), (1, 3), (2, 3), (3, 9), (4, 3), (5, 31)]⟩), (103, ⟨false, 1, .one (.int .u64 0), .int .u64⟩)]
noncomputable def qa9g : List (Nat × List EK) := []
theorem qa9h : Tryd.prog.follows .mixedOrders = true := by kernel_rfl
theorem qa9i : (qa9f.all fun x => tiB Tryd.prog x.1 x.2) = true := by kernel_rfl
theorem qa9j {c : Cfg} (h : c.eqs = qa9g := by rfl) : EqsOK Tryd.prog c := eqsOK_of (by rw [h]; kernel_rfl)
noncomputable def qa9k : Code := match Tryd.f24.body with | some b => b | none => .skip
noncomputable def qa9l : Code := match Tryd.f41.body with | some b => b | none => .skip
noncomputable def qa9m : Code := match Tryd.f56.body with | some b => b | none => .skip
noncomputable def qa9n : Code := match Tryd.f57.body with | some b => b | none => .skip
noncomputable def qa9o : Code := match Tryd.f58.body with | some b => b | none => .skip
noncomputable def qa9p : Code := match Tryd.f72.body with | some b => b | none => .skip
noncomputable def qa9q : HS := ⟨[(0, .one (.sl .inode)), (1, .one (.int .i64)), (2, .one (.fnc 57)), (8, .one (.int .i64)), (9, .one (.int .i64)), (10, .one (.int .i64))], [], 0⟩
noncomputable def qa9r {R : Type} : Nat → HS.V qa9q → (Ex → St → Option R) → Option R := fun q v K =>
  table_at_9_L3 v.1.1 v.1.2.1 (fun y10 => K (.exit 0) { regs := [(0, .v (.one (.sl .inode v.1.1))), (1, .v (.one (.int .i64 v.1.2.1))), (2, .v (.one (.fnc 57))), (8, .v (.one (.int .i64 v.1.2.2.2.1))), (9, .v (.one (.int .i64 y10)))], mem := [], nx := 0 }) q v.1.2.2.2.2.1 v.1.2.2.2.2.2.1
noncomputable def qa9s : List HV := [.agg [.int .i64, .int .i64, .int .i64, .sl .inode], .one (.int .i64)]
noncomputable def qa9t : List HV := [.one (.int .i64), .one (.bool)]
noncomputable def qa9u : HP.V qa9s → Fs × Int := fun v => ((⟨v.1.1, v.1.2.1, v.1.2.2.1, v.1.2.2.2.1⟩ : Fs), v.2.1)
noncomputable def qa9v : HX.V qa9t → Int × Bool := fun v => (v.1, v.2)
noncomputable def qa9w : (Int × Bool) → HX.V qa9t := fun y => (y.1, y.2)
noncomputable def qa9x : (Fs × Int) → Option (Int × Bool) := fun x => table_at x.1 x.2
noncomputable def qa9y : Spec := mkSpec qa9s qa9t qa9u qa9w qa9x
noncomputable def qa9z {R : Type} : List (Nat × Hd R) := []
noncomputable def qa90 {R : Type} : List (Nat × Inl R) := []
noncomputable def qa91 : Cfg := { T := qa9f, spec := [], glob := GlobL.G Tryd.prog, eqs := qa9g, N := 6, fuel := 64, loops := [], joins := [], blocks := [], ovl := [], retA := none, fid := 72, rnd := false, saves := [] }
theorem qa92 : CfgOK Tryd.prog qa91 := ⟨tsOK_of qa9i, specsL_ok (show SpecsL Tryd.prog qa91.spec from trivial), qa9j, ovlL_ok (trivial), globsOK_of rfl, freshL_ok (show FreshL Tryd.prog qa91.fresh from trivial), specsL_ok (show SpecsL Tryd.prog qa91.gns from trivial)⟩
theorem qa93 {R : Type} : SubsOK Tryd.prog (R := R) 0 qa90 := subsOK_nil _ _
theorem qa94 {R : Type} : LoopsOK (R := R) (hnd 0 qa90) qa91 qa9z qa9p := loopsOK_of (l := []) (by kernel_rfl) (trivial)
theorem qa95 : RngsOK Tryd.prog qa91 qa9p := rngs0 (by kernel_rfl)
noncomputable def qa96 {R : Type} : Inl R := .mk 72 qa91 qa9z qa9p Tryd.f72.results.toList qa90
noncomputable def qa97 {R : Type} : List (Nat × Hd R) := []
noncomputable def qa98 {R : Type} : List (Nat × Inl R) := []
noncomputable def qa99 : Cfg := { T := qa9f, spec := [], glob := GlobL.G Tryd.prog, eqs := qa9g, N := 6, fuel := 64, loops := [], joins := [], blocks := [], ovl := [], retA := none, fid := 72, rnd := false, saves := [] }
theorem qbaa : CfgOK Tryd.prog qa99 := ⟨tsOK_of qa9i, specsL_ok (show SpecsL Tryd.prog qa99.spec from trivial), qa9j, ovlL_ok (trivial), globsOK_of rfl, freshL_ok (show FreshL Tryd.prog qa99.fresh from trivial), specsL_ok (show SpecsL Tryd.prog qa99.gns from trivial)⟩
theorem qbab {R : Type} : SubsOK Tryd.prog (R := R) 0 qa98 := subsOK_nil _ _
theorem qbac {R : Type} : LoopsOK (R := R) (hnd 0 qa98) qa99 qa97 qa9p := loopsOK_of (l := []) (by kernel_rfl) (trivial)
theorem qbad : RngsOK Tryd.prog qa99 qa9p := rngs0 (by kernel_rfl)
noncomputable def qbae {R : Type} : Inl R := .mk 72 qa99 qa97 qa9p Tryd.f72.results.toList qa98
noncomputable def qbaf {R : Type} : List (Nat × Hd R) := []
noncomputable def qbag {R : Type} : List (Nat × Inl R) := [(8, qa96), (10, qbae)]
noncomputable def qbah : Cfg := { T := qa9f, spec := [], glob := GlobL.G Tryd.prog, eqs := qa9g, N := 20, fuel := 64, loops := [], joins := [], blocks := [], ovl := [], retA := none, fid := 58, rnd := false, saves := [] }
theorem qbai : CfgOK Tryd.prog qbah := ⟨tsOK_of qa9i, specsL_ok (show SpecsL Tryd.prog qbah.spec from trivial), qa9j, ovlL_ok (trivial), globsOK_of rfl, freshL_ok (show FreshL Tryd.prog qbah.fresh from trivial), specsL_ok (show SpecsL Tryd.prog qbah.gns from trivial)⟩
theorem qbaj {R : Type} : SubsOK Tryd.prog (R := R) 1 qbag := subsOK_cons (fn := Tryd.f72) (by kernel_rfl) (by kernel_rfl) (by kernel_rfl) (by kernel_rfl) (by kernel_rfl) qa92 qa94 qa95 qa93 (subsOK_cons (fn := Tryd.f72) (by kernel_rfl) (by kernel_rfl) (by kernel_rfl) (by kernel_rfl) (by kernel_rfl) qbaa qbac qbad qbab (subsOK_nil _ _))
theorem qbak {R : Type} : LoopsOK (R := R) (hnd 1 qbag) qbah qbaf qa9o := loopsOK_of (l := []) (by kernel_rfl) (trivial)
theorem qbal : RngsOK Tryd.prog qbah qa9o := rngs0 (by kernel_rfl)
noncomputable def qbam {R : Type} : Inl R := .mk 58 qbah qbaf qa9o Tryd.f58.results.toList qbag
noncomputable def qban {R : Type} : List (Nat × Hd R) := []
noncomputable def qbao {R : Type} : List (Nat × Inl R) := [(8, qbam)]
noncomputable def qbap : Cfg := { T := qa9f, spec := [], glob := GlobL.G Tryd.prog, eqs := qa9g, N := 9, fuel := 64, loops := [], joins := [], blocks := [], ovl := [], retA := none, fid := 57, rnd := false, saves := [] }
theorem qbaq : CfgOK Tryd.prog qbap := ⟨tsOK_of qa9i, specsL_ok (show SpecsL Tryd.prog qbap.spec from trivial), qa9j, ovlL_ok (trivial), globsOK_of rfl, freshL_ok (show FreshL Tryd.prog qbap.fresh from trivial), specsL_ok (show SpecsL Tryd.prog qbap.gns from trivial)⟩
theorem qbar {R : Type} : SubsOK Tryd.prog (R := R) 2 qbao := subsOK_cons (fn := Tryd.f58) (by kernel_rfl) (by kernel_rfl) (by kernel_rfl) (by kernel_rfl) (by kernel_rfl) qbai qbak qbal qbaj (subsOK_nil _ _)
theorem qbas {R : Type} : LoopsOK (R := R) (hnd 2 qbao) qbap qban qa9n := loopsOK_of (l := []) (by kernel_rfl) (trivial)
theorem qbat : RngsOK Tryd.prog qbap qa9n := rngs0 (by kernel_rfl)
noncomputable def qbau {R : Type} : Inl R := .mk 57 qbap qban qa9n Tryd.f57.results.toList qbao
noncomputable def qbav {R : Type} : List (Nat × Hd R) := []
noncomputable def qbaw {R : Type} : List (Nat × Inl R) := []
noncomputable def qbax : Cfg := { T := qa9f, spec := [], glob := GlobL.G Tryd.prog, eqs := qa9g, N := 6, fuel := 64, loops := [], joins := [], blocks := [], ovl := [], retA := none, fid := 72, rnd := false, saves := [] }
theorem qbay : CfgOK Tryd.prog qbax := ⟨tsOK_of qa9i, specsL_ok (show SpecsL Tryd.prog qbax.spec from trivial), qa9j, ovlL_ok (trivial), globsOK_of rfl, freshL_ok (show FreshL Tryd.prog qbax.fresh from trivial), specsL_ok (show SpecsL Tryd.prog qbax.gns from trivial)⟩
theorem qbaz {R : Type} : SubsOK Tryd.prog (R := R) 0 qbaw := subsOK_nil _ _
theorem qba0 {R : Type} : LoopsOK (R := R) (hnd 0 qbaw) qbax qbav qa9p := loopsOK_of (l := []) (by kernel_rfl) (trivial)
theorem qba1 : RngsOK Tryd.prog qbax qa9p := rngs0 (by kernel_rfl)
noncomputable def qba2 {R : Type} : Inl R := .mk 72 qbax qbav qa9p Tryd.f72.results.toList qbaw
noncomputable def qba3 {R : Type} : List (Nat × Hd R) := []
noncomputable def qba4 {R : Type} : List (Nat × Inl R) := []
noncomputable def qba5 : Cfg := { T := qa9f, spec := [], glob := GlobL.G Tryd.prog, eqs := qa9g, N := 6, fuel := 64, loops := [], joins := [], blocks := [], ovl := [], retA := none, fid := 72, rnd := false, saves := [] }
theorem qba6 : CfgOK Tryd.prog qba5 := ⟨tsOK_of qa9i, specsL_ok (show SpecsL Tryd.prog qba5.spec from trivial), qa9j, ovlL_ok (trivial), globsOK_of rfl, freshL_ok (show FreshL Tryd.prog qba5.fresh from trivial), specsL_ok (show SpecsL Tryd.prog qba5.gns from trivial)⟩
theorem qba7 {R : Type} : SubsOK Tryd.prog (R := R) 0 qba4 := subsOK_nil _ _
theorem qba8 {R : Type} : LoopsOK (R := R) (hnd 0 qba4) qba5 qba3 qa9p := loopsOK_of (l := []) (by kernel_rfl) (trivial)
theorem qba9 : RngsOK Tryd.prog qba5 qa9p := rngs0 (by kernel_rfl)
noncomputable def qbba {R : Type} : Inl R := .mk 72 qba5 qba3 qa9p Tryd.f72.results.toList qba4
noncomputable def qbbb {R : Type} : List (Nat × Hd R) := []
noncomputable def qbbc {R : Type} : List (Nat × Inl R) := [(8, qba2), (10, qbba)]
noncomputable def qbbd : Cfg := { T := qa9f, spec := [], glob := GlobL.G Tryd.prog, eqs := qa9g, N := 20, fuel := 64, loops := [], joins := [], blocks := [], ovl := [], retA := none, fid := 58, rnd := false, saves := [] }
theorem qbbe : CfgOK Tryd.prog qbbd := ⟨tsOK_of qa9i, specsL_ok (show SpecsL Tryd.prog qbbd.spec from trivial), qa9j, ovlL_ok (trivial), globsOK_of rfl, freshL_ok (show FreshL Tryd.prog qbbd.fresh from trivial), specsL_ok (show SpecsL Tryd.prog qbbd.gns from trivial)⟩
theorem qbbf {R : Type} : SubsOK Tryd.prog (R := R) 1 qbbc := subsOK_cons (fn := Tryd.f72) (by kernel_rfl) (by kernel_rfl) (by kernel_rfl) (by kernel_rfl) (by kernel_rfl) qbay qba0 qba1 qbaz (subsOK_cons (fn := Tryd.f72) (by kernel_rfl) (by kernel_rfl) (by kernel_rfl) (by kernel_rfl) (by kernel_rfl) qba6 qba8 qba9 qba7 (subsOK_nil _ _))
theorem qbbg {R : Type} : LoopsOK (R := R) (hnd 1 qbbc) qbbd qbbb qa9o := loopsOK_of (l := []) (by kernel_rfl) (trivial)
theorem qbbh : RngsOK Tryd.prog qbbd qa9o := rngs0 (by kernel_rfl)
noncomputable def qbbi {R : Type} : Inl R := .mk 58 qbbd qbbb qa9o Tryd.f58.results.toList qbbc
noncomputable def qbbj {R : Type} : List (Nat × Hd R) := []
noncomputable def qbbk {R : Type} : List (Nat × Inl R) := [(8, qbbi)]
noncomputable def qbbl : Cfg := { T := qa9f, spec := [], glob := GlobL.G Tryd.prog, eqs := qa9g, N := 9, fuel := 64, loops := [], joins := [], blocks := [], ovl := [], retA := none, fid := 57, rnd := false, saves := [] }
theorem qbbm : CfgOK Tryd.prog qbbl := ⟨tsOK_of qa9i, specsL_ok (show SpecsL Tryd.prog qbbl.spec from trivial), qa9j, ovlL_ok (trivial), globsOK_of rfl, freshL_ok (show FreshL Tryd.prog qbbl.fresh from trivial), specsL_ok (show SpecsL Tryd.prog qbbl.gns from trivial)⟩
theorem qbbn {R : Type} : SubsOK Tryd.prog (R := R) 2 qbbk := subsOK_cons (fn := Tryd.f58) (by kernel_rfl) (by kernel_rfl) (by kernel_rfl) (by kernel_rfl) (by kernel_rfl) qbbe qbbg qbbh qbbf (subsOK_nil _ _)
theorem qbbo {R : Type} : LoopsOK (R := R) (hnd 2 qbbk) qbbl qbbj qa9n := loopsOK_of (l := []) (by kernel_rfl) (trivial)
theorem qbbp : RngsOK Tryd.prog qbbl qa9n := rngs0 (by kernel_rfl)
noncomputable def qbbq {R : Type} : Inl R := .mk 57 qbbl qbbj qa9n Tryd.f57.results.toList qbbk
noncomputable def qbbr {R : Type} : List (Nat × Hd R) := [(3, hdOf qa9q qa9r)]
noncomputable def qbbs {R : Type} : List (Nat × Inl R) := [(30, qbau), (46, qbbq)]
noncomputable def qbbt : Cfg := { T := qa9f, spec := [], glob := GlobL.G Tryd.prog, eqs := qa9g, N := 49, fuel := 64, loops := [(3, ⟨[0, 1, 2, 8, 9, 10], [], [], 0, [], [], [], []⟩)], joins := [], blocks := [(0, ⟨[0, 1, 2, 8, 9], [], [], 0, [], [], [], []⟩)], ovl := [], retA := none, fid := 56, rnd := false, saves := [] }
theorem qbbu : CfgOK Tryd.prog qbbt := ⟨tsOK_of qa9i, specsL_ok (show SpecsL Tryd.prog qbbt.spec from trivial), qa9j, ovlL_ok (trivial), globsOK_of rfl, freshL_ok (show FreshL Tryd.prog qbbt.fresh from trivial), specsL_ok (show SpecsL Tryd.prog qbbt.gns from trivial)⟩
theorem qbbv {R : Type} : SubsOK Tryd.prog (R := R) 3 qbbs := subsOK_cons (fn := Tryd.f57) (by kernel_rfl) (by kernel_rfl) (by kernel_rfl) (by kernel_rfl) (by kernel_rfl) qbaq qbas qbat qbar (subsOK_cons (fn := Tryd.f57) (by kernel_rfl) (by kernel_rfl) (by kernel_rfl) (by kernel_rfl) (by kernel_rfl) qbbm qbbo qbbp qbbn (subsOK_nil _ _))
theorem qbbw {R : Type} : LoopOK (R := R) (hnd 3 qbbs) qbbt qbbr (sub [1, 1, 1, 0, 0, 0] qa9m) (HS.V qa9q) (HS.st qa9q) (HS.sh qa9q) qa9r (hdOf qa9q qa9r) := loopOK_of qa9q qa9r (fun _ _ => rfl) (by intro q v K; kernel_rfl)
theorem qbbx {R : Type} : LoopsOK (R := R) (hnd 3 qbbs) qbbt qbbr qa9m := loopsOK_of (l := [sub [1, 1, 1, 0, 0, 0] qa9m]) (by kernel_rfl) (loopsL_cons (b := sub [1, 1, 1, 0, 0, 0] qa9m) (rid := 3) (by kernel_rfl) (by kernel_rfl) qbbw (trivial))
theorem qbby : RngsOK Tryd.prog qbbt qa9m := rngs0 (by kernel_rfl)
noncomputable def qbbz {R : Type} : Inl R := .mk 56 qbbt qbbr qa9m Tryd.f56.results.toList qbbs
noncomputable def qbb0 {R : Type} : List (Nat × Hd R) := []
noncomputable def qbb1 {R : Type} : List (Nat × Inl R) := [(9, qbbz)]
noncomputable def qbb2 : Cfg := { T := qa9f, spec := [], glob := GlobL.G Tryd.prog, eqs := qa9g, N := 12, fuel := 64, loops := [], joins := [], blocks := [], ovl := [], retA := none, fid := 41, rnd := false, saves := [] }
theorem qbb3 : CfgOK Tryd.prog qbb2 := ⟨tsOK_of qa9i, specsL_ok (show SpecsL Tryd.prog qbb2.spec from trivial), qa9j, ovlL_ok (trivial), globsOK_of rfl, freshL_ok (show FreshL Tryd.prog qbb2.fresh from trivial), specsL_ok (show SpecsL Tryd.prog qbb2.gns from trivial)⟩
theorem qbb4 {R : Type} : SubsOK Tryd.prog (R := R) 4 qbb1 := subsOK_cons (fn := Tryd.f56) (by kernel_rfl) (by kernel_rfl) (by kernel_rfl) (by kernel_rfl) (by kernel_rfl) qbbu qbbx qbby qbbv (subsOK_nil _ _)
theorem qbb5 {R : Type} : LoopsOK (R := R) (hnd 4 qbb1) qbb2 qbb0 qa9l := loopsOK_of (l := []) (by kernel_rfl) (trivial)
theorem qbb6 : RngsOK Tryd.prog qbb2 qa9l := rngs0 (by kernel_rfl)
theorem qbb7 : ∀ v, runFn (hnd 4 qbb1) qbb2 qbb0 qa9l Tryd.f41.results.toList (HP.st qa9s v) (decOf qa9t qa9v) = qa9x (qa9u v) := by intro v; kernel_rfl
theorem qbb8 : SpecOK Tryd.prog 41 qa9y := specOK_mk (fn := Tryd.f41) (by kernel_rfl) (by kernel_rfl) (by kernel_rfl) qbb3 (by kernel_rfl) (by kernel_rfl) qa9h (by kernel_rfl) (fun _ => rfl) (d := 4) qbb4 qbb5 qbb6 qbb7
noncomputable def qbb9 : List HV := [.agg [.int .i64, .int .i64, .int .i64, .sl .inode], .one (.int .i64)]
noncomputable def qbca : List HV := [.agg [.int .i64, .int .i64, .int .i64, .str, .int .i64, .sl .entry], .one (.bool)]
noncomputable def qbcb : HP.V qbb9 → Fs × Int := fun v => ((⟨v.1.1, v.1.2.1, v.1.2.2.1, v.1.2.2.2.1⟩ : Fs), v.2.1)
noncomputable def qbcc : HX.V qbca → Inode × Bool := fun v => ((⟨v.1.1, v.1.2.1, v.1.2.2.1, v.1.2.2.2.1, v.1.2.2.2.2.1, v.1.2.2.2.2.2.1⟩ : Inode), v.2)
noncomputable def qbcd : (Inode × Bool) → HX.V qbca := fun y => ((y.1.ino, (y.1.kind, (y.1.links, (y.1.data, (y.1.parent, (y.1.entries, ())))))), y.2)
noncomputable def qbce : (Fs × Int) → Option (Inode × Bool) := fun x => table_Get x.1 x.2
noncomputable def qbcf : Spec := mkSpec qbb9 qbca qbcb qbcd qbce
noncomputable def qbcg {R : Type} : List (Nat × Hd R) := []
noncomputable def qbch {R : Type} : List (Nat × Inl R) := []
noncomputable def qbci : Cfg := { T := qa9f, spec := [(41, qa9y)], glob := GlobL.G Tryd.prog, eqs := qa9g, N := 22, fuel := 64, loops := [], joins := [], blocks := [], ovl := [], retA := none, fid := 24, rnd := false, saves := [] }
theorem qbcj : CfgOK Tryd.prog qbci := ⟨tsOK_of qa9i, specsL_ok (show SpecsL Tryd.prog qbci.spec from ⟨qbb8, trivial⟩), qa9j, ovlL_ok (trivial), globsOK_of rfl, freshL_ok (show FreshL Tryd.prog qbci.fresh from trivial), specsL_ok (show SpecsL Tryd.prog qbci.gns from trivial)⟩
theorem qbck {R : Type} : SubsOK Tryd.prog (R := R) 0 qbch := subsOK_nil _ _
theorem qbcl {R : Type} : LoopsOK (R := R) (hnd 0 qbch) qbci qbcg qa9k := loopsOK_of (l := []) (by kernel_rfl) (trivial)
theorem qbcm : RngsOK Tryd.prog qbci qa9k := rngs0 (by kernel_rfl)
theorem qbcn : ∀ v, runFn (hnd 0 qbch) qbci qbcg qa9k Tryd.f24.results.toList (HP.st qbb9 v) (decOf qbca qbcc) = qbce (qbcb v) := by intro v; kernel_rfl
theorem qbco : SpecOK Tryd.prog 24 qbcf := specOK_mk (fn := Tryd.f24) (by kernel_rfl) (by kernel_rfl) (by kernel_rfl) qbcj (by kernel_rfl) (by kernel_rfl) qa9h (by kernel_rfl) (fun _ => rfl) (d := 0) qbck qbcl qbcm qbcn
end Go.Eng
set_option linter.unusedVariables false
set_option maxRecDepth 100000
namespace Go.Eng
open Go Go.Proofs
noncomputable def qbcp : List (Nat × TI) := [(3, ⟨false, 1, .one (.int .i64 0), .int .i64⟩), (9, ⟨false, 1, .one (.str []), .str⟩), (24, ⟨true, 4, .agg [.int .i64 0, .int .i64 0, .int .i64 0, .clip .inode []], .struct [(0, 3), (1, 3), (2, 3), (3, 22)]⟩), (31, ⟨false, 1, .one (.clip .entry []), .slice .entry 46⟩), (33, ⟨true, 6, .agg [.int .i64 0, .int .i64 0, .int .i64 0, .str [], .int .i64 0, .clip .entry []], .struct [(0, 3), (1, 3), (2, 3), (3, 9), (4, 3), (5, 31)]⟩), (37, ⟨true, 3, .agg [.int .i64 0, .str [], .int .i64 0], .struct [(0, 3), (1, 9), (2, 3)]⟩), (64, ⟨false, 1, .one (.clip .str []), .slice .str 9⟩)]
noncomputable def qbcq : List (Nat × List EK) := []
theorem qbcr : Tryd.prog.follows .mixedOrders = true := by kernel_rfl
theorem qbcs : (qbcp.all fun x => tiB Tryd.prog x.1 x.2) = true := by kernel_rfl
theorem qbct {c : Cfg} (h : c.eqs = qbcq := by rfl) : EqsOK Tryd.prog c := eqsOK_of (by rw [h]; kernel_rfl)
noncomputable def qbcu : Code := match Tryd.f23.body with | some b => b | none => .skip
noncomputable def qbcv : Code := match Tryd.f40.body with | some b => b | none => .skip
noncomputable def qbcw : HS := ⟨[(2, .one (.ptr 0 0)), (4, .one (.ptr 1 0)), (8, .one (.ptr 2 0)), (24, .one (.sl .str)), (25, .one (.int .i64)), (26, .one (.int .i64))], [(0, .cells [.int .i64, .int .i64, .int .i64, .sl .inode]), (1, .cells [.int .i64, .str, .int .i64]), (2, .cells [.int .i64, .str, .int .i64])], 3⟩
noncomputable def qbcx {R : Type} : Nat → HS.V qbcw → (Ex → St → Option R) → Option R := fun q v K =>
  place_At_L6 v.1.2.2.2.1 v.1.2.2.2.2.1 (⟨v.2.1.1, v.2.1.2.1, v.2.1.2.2.1, v.2.1.2.2.2.1⟩ : Fs) (fun y11 => K .ret { regs := [(4, .v (.one (.ptr 1 0))), (5, .v (.one (.int .i64 y11)))], mem := [(1, .cells [.int .i64 ((⟨0, [], 0⟩ : Spotted).dir), .str ((⟨0, [], 0⟩ : Spotted).name), .int .i64 ((⟨0, [], 0⟩ : Spotted).ino)])], nx := 2 }) (fun y14 => K (.exit 0) { regs := [(4, .v (.one (.ptr 1 0))), (8, .v (.one (.ptr 2 0)))], mem := [(1, .cells [.int .i64 ((⟨v.2.2.1.1, v.2.2.1.2.1, v.2.2.1.2.2.1⟩ : Spotted).dir), .str ((⟨v.2.2.1.1, v.2.2.1.2.1, v.2.2.1.2.2.1⟩ : Spotted).name), .int .i64 ((⟨v.2.2.1.1, v.2.2.1.2.1, v.2.2.1.2.2.1⟩ : Spotted).ino)]), (2, .cells [.int .i64 y14.dir, .str y14.name, .int .i64 y14.ino])], nx := 3 }) q v.1.2.2.2.2.2.1 (⟨v.2.2.2.1.1, v.2.2.2.1.2.1, v.2.2.2.1.2.2.1⟩ : Spotted)
noncomputable def qbcy : List HV := [.agg [.int .i64, .int .i64, .int .i64, .sl .inode], .one (.str)]
noncomputable def qbcz : List HV := [.agg [.int .i64, .str, .int .i64], .one (.int .i64)]
noncomputable def qbc0 : HP.V qbcy → Fs × Str := fun v => ((⟨v.1.1, v.1.2.1, v.1.2.2.1, v.1.2.2.2.1⟩ : Fs), v.2.1)
noncomputable def qbc1 : HX.V qbcz → Spotted × Int := fun v => ((⟨v.1.1, v.1.2.1, v.1.2.2.1⟩ : Spotted), v.2)
noncomputable def qbc2 : (Spotted × Int) → HX.V qbcz := fun y => ((y.1.dir, (y.1.name, (y.1.ino, ()))), y.2)
noncomputable def qbc3 : (Fs × Str) → Option (Spotted × Int) := fun x => place_At x.1 x.2
noncomputable def qbc4 : Spec := mkSpec qbcy qbcz qbc0 qbc2 qbc3
noncomputable def qbc5 {R : Type} : List (Nat × Hd R) := [(6, hdOf qbcw qbcx)]
noncomputable def qbc6 {R : Type} : List (Nat × Inl R) := []
noncomputable def qbc7 : Cfg := { T := qbcp, spec := [(24, qbcf), (36, qask), (55, qaxl)], glob := GlobL.G Tryd.prog, eqs := qbcq, N := 60, fuel := 64, loops := [(6, ⟨[2, 4, 8, 24, 25, 26], [], [0, 1, 2], 3, [], [], [], []⟩)], joins := [], blocks := [(0, ⟨[4, 8], [], [1, 2], 3, [], [], [], []⟩)], ovl := [], retA := some ⟨[4, 5], [], [1], 2, [], [], [], []⟩, fid := 40, rnd := false, saves := [] }
theorem qbc8 : CfgOK Tryd.prog qbc7 := ⟨tsOK_of qbcs, specsL_ok (show SpecsL Tryd.prog qbc7.spec from ⟨qbco, ⟨qast, ⟨qa1o, trivial⟩⟩⟩), qbct, ovlL_ok (trivial), globsOK_of rfl, freshL_ok (show FreshL Tryd.prog qbc7.fresh from trivial), specsL_ok (show SpecsL Tryd.prog qbc7.gns from trivial)⟩
theorem qbc9 {R : Type} : SubsOK Tryd.prog (R := R) 0 qbc6 := subsOK_nil _ _
theorem qbda {R : Type} : LoopOK (R := R) (hnd 0 qbc6) qbc7 qbc5 (sub [1, 1, 1, 1, 0, 1, 0, 0] qbcv) (HS.V qbcw) (HS.st qbcw) (HS.sh qbcw) qbcx (hdOf qbcw qbcx) := loopOK_of qbcw qbcx (fun _ _ => rfl) (by intro q v K; kernel_rfl)
theorem qbdb {R : Type} : LoopsOK (R := R) (hnd 0 qbc6) qbc7 qbc5 qbcv := loopsOK_of (l := [sub [1, 1, 1, 1, 0, 1, 0, 0] qbcv]) (by kernel_rfl) (loopsL_cons (b := sub [1, 1, 1, 1, 0, 1, 0, 0] qbcv) (rid := 6) (by kernel_rfl) (by kernel_rfl) qbda (trivial))
theorem qbdc : RngsOK Tryd.prog qbc7 qbcv := rngs0 (by kernel_rfl)
theorem qbdd : ∀ v, runFn (hnd 0 qbc6) qbc7 qbc5 qbcv Tryd.f40.results.toList (HP.st qbcy v) (decOf qbcz qbc1) = qbc3 (qbc0 v) := by intro v; kernel_rfl
theorem qbde : SpecOK Tryd.prog 40 qbc4 := specOK_mk (fn := Tryd.f40) (by kernel_rfl) (by kernel_rfl) (by kernel_rfl) qbc8 (by kernel_rfl) (by kernel_rfl) qbcr (by kernel_rfl) (fun _ => rfl) (d := 0) qbc9 qbdb qbdc qbdd
noncomputable def qbdf : List HV := [.agg [.int .i64, .int .i64, .int .i64, .sl .inode], .one (.str)]
noncomputable def qbdg : List HV := [.agg [.int .i64, .int .i64, .int .i64, .str, .int .i64, .sl .entry], .one (.int .i64)]
noncomputable def qbdh : HP.V qbdf → Fs × Str := fun v => ((⟨v.1.1, v.1.2.1, v.1.2.2.1, v.1.2.2.2.1⟩ : Fs), v.2.1)
noncomputable def qbdi : HX.V qbdg → Inode × Int := fun v => ((⟨v.1.1, v.1.2.1, v.1.2.2.1, v.1.2.2.2.1, v.1.2.2.2.2.1, v.1.2.2.2.2.2.1⟩ : Inode), v.2)
noncomputable def qbdj : (Inode × Int) → HX.V qbdg := fun y => ((y.1.ino, (y.1.kind, (y.1.links, (y.1.data, (y.1.parent, (y.1.entries, ())))))), y.2)
noncomputable def qbdk : (Fs × Str) → Option (Inode × Int) := fun x => place_Get x.1 x.2
noncomputable def qbdl : Spec := mkSpec qbdf qbdg qbdh qbdj qbdk
noncomputable def qbdm {R : Type} : List (Nat × Hd R) := []
noncomputable def qbdn {R : Type} : List (Nat × Inl R) := []
noncomputable def qbdo : Cfg := { T := qbcp, spec := [(24, qbcf), (40, qbc4)], glob := GlobL.G Tryd.prog, eqs := qbcq, N := 31, fuel := 64, loops := [], joins := [], blocks := [], ovl := [], retA := none, fid := 23, rnd := false, saves := [] }
theorem qbdp : CfgOK Tryd.prog qbdo := ⟨tsOK_of qbcs, specsL_ok (show SpecsL Tryd.prog qbdo.spec from ⟨qbco, ⟨qbde, trivial⟩⟩), qbct, ovlL_ok (trivial), globsOK_of rfl, freshL_ok (show FreshL Tryd.prog qbdo.fresh from trivial), specsL_ok (show SpecsL Tryd.prog qbdo.gns from trivial)⟩
theorem qbdq {R : Type} : SubsOK Tryd.prog (R := R) 0 qbdn := subsOK_nil _ _
theorem qbdr {R : Type} : LoopsOK (R := R) (hnd 0 qbdn) qbdo qbdm qbcu := loopsOK_of (l := []) (by kernel_rfl) (trivial)
theorem qbds : RngsOK Tryd.prog qbdo qbcu := rngs0 (by kernel_rfl)
theorem qbdt : ∀ v, runFn (hnd 0 qbdn) qbdo qbdm qbcu Tryd.f23.results.toList (HP.st qbdf v) (decOf qbdg qbdi) = qbdk (qbdh v) := by intro v; kernel_rfl
theorem qbdu : SpecOK Tryd.prog 23 qbdl := specOK_mk (fn := Tryd.f23) (by kernel_rfl) (by kernel_rfl) (by kernel_rfl) qbdp (by kernel_rfl) (by kernel_rfl) qbcr (by kernel_rfl) (fun _ => rfl) (d := 0) qbdq qbdr qbds qbdt
end Go.Eng
set_option linter.unusedVariables false
set_option maxRecDepth 100000
namespace Go.Eng
open Go Go.Proofs
noncomputable def qbdv : List (Nat × TI) := [(3, ⟨false, 1, .one (.int .i64 0), .int .i64⟩), (9, ⟨false, 1, .one (.str []), .str⟩), (64, ⟨false, 1, .one (.clip .str []), .slice .str 9⟩), (99, ⟨false, 1, .one (.clip .strs []), .slice .strs 64⟩)]
noncomputable def qbdw : List (Nat × List EK) := []
theorem qbdx : Tryd.prog.follows .mixedOrders = true := by kernel_rfl
theorem qbdy : (qbdv.all fun x => tiB Tryd.prog x.1 x.2) = true := by kernel_rfl
theorem qbdz {c : Cfg} (h : c.eqs = qbdw := by rfl) : EqsOK Tryd.prog c := eqsOK_of (by rw [h]; kernel_rfl)
noncomputable def qbd0 : Code := match Tryd.f54.body with | some b => b | none => .skip
noncomputable def qbd1 : Code := match Tryd.f67.body with | some b => b | none => .skip
noncomputable def qbd2 : HS := ⟨[(0, .one (.sl .strs)), (3, .one (.int .i64)), (9, .one (.sl .strs)), (10, .one (.int .i64)), (11, .one (.int .i64))], [], 0⟩
noncomputable def qbd3 {R : Type} : Nat → HS.V qbd2 → (Ex → St → Option R) → Option R := fun q v K =>
  slices_Concat_string_L3 v.1.2.2.1 v.1.2.2.2.1 (fun y8 => K (.exit 0) { regs := [(0, .v (.one (.sl .strs v.1.1))), (3, .v (.one (.int .i64 y8)))], mem := [], nx := 0 }) q v.1.2.1 v.1.2.2.2.2.1
noncomputable def qbd4 : HS := ⟨[(6, .one (.sub 0)), (25, .one (.sl .strs)), (26, .one (.int .i64)), (27, .one (.int .i64))], [(0, .row .str)], 1⟩
noncomputable def qbd5 {R : Type} : Nat → HS.V qbd4 → (Ex → St → Option R) → Option R := fun q v K =>
  slices_Concat_string_L11 v.1.1.1 v.1.2.1 v.1.2.2.1 (fun y18 y19 => K (.exit 2) { regs := [(6, .v (.one (.sub 0 v.1.1.1 y18)))], mem := [(0, .row .str y19)], nx := 1 }) q v.1.1.2 v.1.2.2.2.1 v.2.1
noncomputable def qbd6 : List HV := [.one (.sl .strs)]
noncomputable def qbd7 : List HV := [.one (.sl .str)]
noncomputable def qbd8 : HP.V qbd6 → (List (List Str)) := fun v => (v.1)
noncomputable def qbd9 : HX.V qbd7 → (List Str) := fun v => (v)
noncomputable def qbea : (List Str) → HX.V qbd7 := fun y => (y)
noncomputable def qbeb : (List (List Str)) → Option ((List Str)) := fun x => slices_Concat_string x
noncomputable def qbec : Spec := mkSpec qbd6 qbd7 qbd8 qbea qbeb
noncomputable def qbed {R : Type} : List (Nat × Hd R) := []
noncomputable def qbee {R : Type} : List (Nat × Inl R) := []
noncomputable def qbef : Cfg := { T := qbdv, spec := [], glob := GlobL.G Tryd.prog, eqs := qbdw, N := 27, fuel := 64, loops := [], joins := [], blocks := [], ovl := [], retA := none, fid := 67, rnd := false, saves := [], nilc := true }
theorem qbeg : CfgOK Tryd.prog qbef := ⟨tsOK_of qbdy, specsL_ok (show SpecsL Tryd.prog qbef.spec from trivial), qbdz, ovlL_ok (trivial), globsOK_of rfl, freshL_ok (show FreshL Tryd.prog qbef.fresh from trivial), specsL_ok (show SpecsL Tryd.prog qbef.gns from trivial)⟩
theorem qbeh {R : Type} : SubsOK Tryd.prog (R := R) 0 qbee := subsOK_nil _ _
theorem qbei {R : Type} : LoopsOK (R := R) (hnd 0 qbee) qbef qbed qbd1 := loopsOK_of (l := []) (by kernel_rfl) (trivial)
theorem qbej : RngsOK Tryd.prog qbef qbd1 := rngs0 (by kernel_rfl)
noncomputable def qbek {R : Type} : Inl R := .mk 67 qbef qbed qbd1 Tryd.f67.results.toList qbee
noncomputable def qbel {R : Type} : List (Nat × Hd R) := [(3, hdOf qbd2 qbd3), (11, hdOf qbd4 qbd5)]
noncomputable def qbem {R : Type} : List (Nat × Inl R) := [(24, qbek)]
noncomputable def qben : Cfg := { T := qbdv, spec := [], glob := GlobL.G Tryd.prog, eqs := qbdw, N := 36, fuel := 64, loops := [(11, ⟨[6, 25, 26, 27], [], [0], 1, [], [], [], [(6, 0, .str)]⟩), (3, ⟨[0, 3, 9, 10, 11], [], [], 0, [], [], [], []⟩)], joins := [], blocks := [(2, ⟨[6], [], [0], 1, [], [], [], []⟩), (0, ⟨[0, 3], [], [], 0, [], [], [], []⟩)], ovl := [], retA := none, fid := 54, rnd := false, saves := [], nilc := true }
theorem qbeo : CfgOK Tryd.prog qben := ⟨tsOK_of qbdy, specsL_ok (show SpecsL Tryd.prog qben.spec from trivial), qbdz, ovlL_ok (trivial), globsOK_of rfl, freshL_ok (show FreshL Tryd.prog qben.fresh from trivial), specsL_ok (show SpecsL Tryd.prog qben.gns from trivial)⟩
theorem qbep {R : Type} : SubsOK Tryd.prog (R := R) 1 qbem := subsOK_cons (fn := Tryd.f67) (by kernel_rfl) (by kernel_rfl) (by kernel_rfl) (by kernel_rfl) (by kernel_rfl) qbeg qbei qbej qbeh (subsOK_nil _ _)
theorem qbeq {R : Type} : LoopOK (R := R) (hnd 1 qbem) qben qbel (sub [1, 1, 0, 1, 0, 0] qbd0) (HS.V qbd2) (HS.st qbd2) (HS.sh qbd2) qbd3 (hdOf qbd2 qbd3) := loopOK_of qbd2 qbd3 (fun _ _ => rfl) (by intro q v K; kernel_rfl)
theorem qber {R : Type} : LoopOK (R := R) (hnd 1 qbem) qben qbel (sub [1, 1, 1, 1, 0, 1, 0, 0] qbd0) (HS.V qbd4) (HS.st qbd4) (HS.sh qbd4) qbd5 (hdOf qbd4 qbd5) := loopOK_of qbd4 qbd5 (fun _ _ => rfl) (by intro q v K; kernel_rfl)
theorem qbes {R : Type} : LoopsOK (R := R) (hnd 1 qbem) qben qbel qbd0 := loopsOK_of (l := [sub [1, 1, 0, 1, 0, 0] qbd0, sub [1, 1, 1, 1, 0, 1, 0, 0] qbd0]) (by kernel_rfl) (loopsL_cons (b := sub [1, 1, 0, 1, 0, 0] qbd0) (rid := 3) (by kernel_rfl) (by kernel_rfl) qbeq (loopsL_cons (b := sub [1, 1, 1, 1, 0, 1, 0, 0] qbd0) (rid := 11) (by kernel_rfl) (by kernel_rfl) qber (trivial)))
theorem qbet : RngsOK Tryd.prog qben qbd0 := rngs0 (by kernel_rfl)
theorem qbeu : ∀ v, runFn (hnd 1 qbem) qben qbel qbd0 Tryd.f54.results.toList (HP.st qbd6 v) (decOf qbd7 qbd9) = qbeb (qbd8 v) := by intro v; kernel_rfl
theorem qbev : SpecOK Tryd.prog 54 qbec := specOK_mk (fn := Tryd.f54) (by kernel_rfl) (by kernel_rfl) (by kernel_rfl) qbeo (by kernel_rfl) (by kernel_rfl) qbdx (by kernel_rfl) (fun _ => rfl) (d := 1) qbep qbes qbet qbeu
end Go.Eng
set_option linter.unusedVariables false
set_option maxRecDepth 100000
namespace Go.Eng
open Go Go.Proofs
noncomputable def qbew : List (Nat × TI) := [(3, ⟨false, 1, .one (.int .i64 0), .int .i64⟩), (4, ⟨false, 1, .one (.bool false), .bool⟩), (9, ⟨false, 1, .one (.str []), .str⟩), (24, ⟨true, 4, .agg [.int .i64 0, .int .i64 0, .int .i64 0, .clip .inode []], .struct [(0, 3), (1, 3), (2, 3), (3, 22)]⟩), (31, ⟨false, 1, .one (.clip .entry []), .slice .entry 46⟩), (33, ⟨true, 6, .agg [.int .i64 0, .int .i64 0, .int .i64 0, .str [], .int .i64 0, .clip .entry []], .struct [(0, 3), (1, 3), (2, 3), (3, 9), (4, 3), (5, 31)]⟩), (37, ⟨true, 3, .agg [.int .i64 0, .str [], .int .i64 0], .struct [(0, 3), (1, 9), (2, 3)]⟩), (64, ⟨false, 1, .one (.clip .str []), .slice .str 9⟩), (71, ⟨true, 3, .agg [.bool false, .clip .str [], .bool false], .struct [(0, 4), (1, 64), (2, 4)]⟩), (74, ⟨true, 11, .agg [.int .i64 0, .int .i64 0, .int .i64 0, .clip .inode [], .bool false, .bool false, .clip .str [], .int .i64 0, .str [], .int .i64 0, .int .i64 0], .struct [(0, 24), (4, 4), (5, 4), (6, 64), (7, 37), (10, 3)]⟩), (99, ⟨false, 1, .one (.clip .strs []), .slice .strs 64⟩)]
noncomputable def qbex : List (Nat × List EK) := []
theorem qbey : Tryd.prog.follows .mixedOrders = true := by kernel_rfl
theorem qbez : (qbew.all fun x => tiB Tryd.prog x.1 x.2) = true := by kernel_rfl
theorem qbe0 {c : Cfg} (h : c.eqs = qbex := by rfl) : EqsOK Tryd.prog c := eqsOK_of (by rw [h]; kernel_rfl)
noncomputable def qbe1 : Code := match Tryd.f9.body with | some b => b | none => .skip
noncomputable def qbe2 : Code := match Tryd.f13.body with | some b => b | none => .skip
noncomputable def qbe3 : Code := match Tryd.f14.body with | some b => b | none => .skip
noncomputable def qbe4 : Code := match Tryd.f19.body with | some b => b | none => .skip
noncomputable def qbe5 : Code := match Tryd.f20.body with | some b => b | none => .skip
noncomputable def qbe6 : Code := match Tryd.f37.body with | some b => b | none => .skip
noncomputable def qbe7 : Code := match Tryd.f38.body with | some b => b | none => .skip
noncomputable def qbe8 : List HV := [.agg [.int .i64, .int .i64, .int .i64, .sl .inode], .one (.str)]
noncomputable def qbe9 : List HV := [.one (.int .i64), .one (.int .i64)]
noncomputable def qbfa : HP.V qbe8 → Fs × Str := fun v => ((⟨v.1.1, v.1.2.1, v.1.2.2.1, v.1.2.2.2.1⟩ : Fs), v.2.1)
noncomputable def qbfb : HX.V qbe9 → Int × Int := fun v => (v.1, v.2)
noncomputable def qbfc : (Int × Int) → HX.V qbe9 := fun y => (y.1, y.2)
noncomputable def qbfd : (Fs × Str) → Option (Int × Int) := fun x => seek_Home x.1 x.2
noncomputable def qbfe : Spec := mkSpec qbe8 qbe9 qbfa qbfc qbfd
noncomputable def qbff {R : Type} : List (Nat × Hd R) := []
noncomputable def qbfg {R : Type} : List (Nat × Inl R) := []
noncomputable def qbfh : Cfg := { T := qbew, spec := [(23, qbdl)], glob := GlobL.G Tryd.prog, eqs := qbex, N := 24, fuel := 64, loops := [], joins := [], blocks := [], ovl := [], retA := none, fid := 13, rnd := false, saves := [] }
theorem qbfi : CfgOK Tryd.prog qbfh := ⟨tsOK_of qbez, specsL_ok (show SpecsL Tryd.prog qbfh.spec from ⟨qbdu, trivial⟩), qbe0, ovlL_ok (trivial), globsOK_of rfl, freshL_ok (show FreshL Tryd.prog qbfh.fresh from trivial), specsL_ok (show SpecsL Tryd.prog qbfh.gns from trivial)⟩
theorem qbfj {R : Type} : SubsOK Tryd.prog (R := R) 0 qbfg := subsOK_nil _ _
theorem qbfk {R : Type} : LoopsOK (R := R) (hnd 0 qbfg) qbfh qbff qbe2 := loopsOK_of (l := []) (by kernel_rfl) (trivial)
theorem qbfl : RngsOK Tryd.prog qbfh qbe2 := rngs0 (by kernel_rfl)
theorem qbfm : ∀ v, runFn (hnd 0 qbfg) qbfh qbff qbe2 Tryd.f13.results.toList (HP.st qbe8 v) (decOf qbe9 qbfb) = qbfd (qbfa v) := by intro v; kernel_rfl
theorem qbfn : SpecOK Tryd.prog 13 qbfe := specOK_mk (fn := Tryd.f13) (by kernel_rfl) (by kernel_rfl) (by kernel_rfl) qbfi (by kernel_rfl) (by kernel_rfl) qbey (by kernel_rfl) (fun _ => rfl) (d := 0) qbfj qbfk qbfl qbfm
noncomputable def qbfo : HS := ⟨[(0, .one (.ptr 4 0)), (2, .one (.ptr 5 0)), (1000008, .one (.ptr 1 0))], [(1, .cells [.int .i64, .str, .int .i64]), (4, .cells [.int .i64, .int .i64, .int .i64, .sl .inode, .bool, .bool, .sl .str, .int .i64, .str, .int .i64, .int .i64]), (5, .cells [.int .i64, .str, .int .i64])], 6⟩
noncomputable def qbfp {R : Type} : Nat → HS.V qbfo → (Ex → St → Option R) → Option R := fun q v K =>
  seek_Seek_25_L1 v.2.2.1.1 v.2.2.1.2.1 v.2.2.1.2.2.1 v.2.2.1.2.2.2.1 v.2.2.1.2.2.2.2.1 (fun y36 => K .ret { regs := [(2, .v (.one (.ptr 5 0))), (3, .v (.one (.int .i64 y36))), (1000008, .v (.one (.ptr 1 0)))], mem := [(1, .cells [.int .i64 ((⟨v.2.1.1, v.2.1.2.1, v.2.1.2.2.1⟩ : Spotted).dir), .str ((⟨v.2.1.1, v.2.1.2.1, v.2.1.2.2.1⟩ : Spotted).name), .int .i64 ((⟨v.2.1.1, v.2.1.2.1, v.2.1.2.2.1⟩ : Spotted).ino)]), (5, .cells [.int .i64 ((⟨0, [], 0⟩ : Spotted).dir), .str ((⟨0, [], 0⟩ : Spotted).name), .int .i64 ((⟨0, [], 0⟩ : Spotted).ino)])], nx := 6 }) (fun y45 y46 y47 y48 y49 y50 => K (.exit 0) { regs := [(0, .v (.one (.ptr 4 0))), (2, .v (.one (.ptr 5 0))), (1000008, .v (.one (.ptr 1 0)))], mem := [(1, .cells [.int .i64 ((⟨v.2.1.1, v.2.1.2.1, v.2.1.2.2.1⟩ : Spotted).dir), .str ((⟨v.2.1.1, v.2.1.2.1, v.2.1.2.2.1⟩ : Spotted).name), .int .i64 ((⟨v.2.1.1, v.2.1.2.1, v.2.1.2.2.1⟩ : Spotted).ino)]), (4, .cells [.int .i64 v.2.2.1.1, .int .i64 v.2.2.1.2.1, .int .i64 v.2.2.1.2.2.1, .sl .inode v.2.2.1.2.2.2.1, .bool v.2.2.1.2.2.2.2.1, .bool y45, .sl .str y46, .int .i64 y47, .str y48, .int .i64 y49, .int .i64 y50]), (5, .cells [.int .i64 ((⟨v.2.2.2.1.1, v.2.2.2.1.2.1, v.2.2.2.1.2.2.1⟩ : Spotted).dir), .str ((⟨v.2.2.2.1.1, v.2.2.2.1.2.1, v.2.2.2.1.2.2.1⟩ : Spotted).name), .int .i64 ((⟨v.2.2.2.1.1, v.2.2.2.1.2.1, v.2.2.2.1.2.2.1⟩ : Spotted).ino)])], nx := 6 }) q v.2.2.1.2.2.2.2.2.1 v.2.2.1.2.2.2.2.2.2.1 v.2.2.1.2.2.2.2.2.2.2.1 v.2.2.1.2.2.2.2.2.2.2.2.1 v.2.2.1.2.2.2.2.2.2.2.2.2.1 v.2.2.1.2.2.2.2.2.2.2.2.2.2.1
noncomputable def qbfq : List HV := [.agg [.int .i64, .int .i64, .int .i64, .sl .inode], .one (.str), .one (.str), .one (.bool)]
noncomputable def qbfr : List HV := [.agg [.int .i64, .str, .int .i64], .one (.int .i64)]
noncomputable def qbfs : HP.V qbfq → Fs × Str × Str × Bool := fun v => ((⟨v.1.1, v.1.2.1, v.1.2.2.1, v.1.2.2.2.1⟩ : Fs), v.2.1, v.2.2.1, v.2.2.2.1)
noncomputable def qbft : HX.V qbfr → Spotted × Int := fun v => ((⟨v.1.1, v.1.2.1, v.1.2.2.1⟩ : Spotted), v.2)
noncomputable def qbfu : (Spotted × Int) → HX.V qbfr := fun y => ((y.1.dir, (y.1.name, (y.1.ino, ()))), y.2)
noncomputable def qbfv : (Fs × Str × Str × Bool) → Option (Spotted × Int) := fun x => seek_Seek x.1 x.2.1 x.2.2.1 x.2.2.2
noncomputable def qbfw : Spec := mkSpec qbfq qbfr qbfs qbfu qbfv
noncomputable def qbfx {R : Type} : List (Nat × Hd R) := []
noncomputable def qbfy {R : Type} : List (Nat × Inl R) := []
noncomputable def qbfz : Cfg := { T := qbew, spec := [(13, qbfe), (34, qa1x), (35, qa44)], glob := GlobL.G Tryd.prog, eqs := qbex, N := 49, fuel := 64, loops := [], joins := [], blocks := [], ovl := [], retA := none, fid := 19, rnd := false, saves := [] }
theorem qbf0 : CfgOK Tryd.prog qbfz := ⟨tsOK_of qbez, specsL_ok (show SpecsL Tryd.prog qbfz.spec from ⟨qbfn, ⟨qa4v, ⟨qa9e, trivial⟩⟩⟩), qbe0, ovlL_ok (trivial), globsOK_of rfl, freshL_ok (show FreshL Tryd.prog qbfz.fresh from trivial), specsL_ok (show SpecsL Tryd.prog qbfz.gns from trivial)⟩
theorem qbf1 {R : Type} : SubsOK Tryd.prog (R := R) 1 qbfy := subsOK_nil _ _
theorem qbf2 {R : Type} : LoopsOK (R := R) (hnd 1 qbfy) qbfz qbfx qbe4 := loopsOK_of (l := []) (by kernel_rfl) (trivial)
theorem qbf3 : RngsOK Tryd.prog qbfz qbe4 := rngs0 (by kernel_rfl)
noncomputable def qbf4 {R : Type} : Inl R := .mk 19 qbfz qbfx qbe4 Tryd.f19.results.toList qbfy
noncomputable def qbf5 {R : Type} : List (Nat × Hd R) := []
noncomputable def qbf6 {R : Type} : List (Nat × Inl R) := []
noncomputable def qbf7 : Cfg := { T := qbew, spec := [(24, qbcf), (34, qa1x), (35, qa44), (36, qask)], glob := GlobL.G Tryd.prog, eqs := qbex, N := 70, fuel := 64, loops := [], joins := [], blocks := [], ovl := [], retA := none, fid := 37, rnd := false, saves := [], gns := [(54, qbec)] }
theorem qbf8 : CfgOK Tryd.prog qbf7 := ⟨tsOK_of qbez, specsL_ok (show SpecsL Tryd.prog qbf7.spec from ⟨qbco, ⟨qa4v, ⟨qa9e, ⟨qast, trivial⟩⟩⟩⟩), qbe0, ovlL_ok (trivial), globsOK_of rfl, freshL_ok (show FreshL Tryd.prog qbf7.fresh from trivial), specsL_ok (show SpecsL Tryd.prog qbf7.gns from ⟨qbev, trivial⟩)⟩
theorem qbf9 {R : Type} : SubsOK Tryd.prog (R := R) 0 qbf6 := subsOK_nil _ _
theorem qbga {R : Type} : LoopsOK (R := R) (hnd 0 qbf6) qbf7 qbf5 qbe6 := loopsOK_of (l := []) (by kernel_rfl) (trivial)
theorem qbgb : RngsOK Tryd.prog qbf7 qbe6 := rngs0 (by kernel_rfl)
noncomputable def qbgc {R : Type} : Inl R := .mk 37 qbf7 qbf5 qbe6 Tryd.f37.results.toList qbf6
noncomputable def qbgd {R : Type} : List (Nat × Hd R) := []
noncomputable def qbge {R : Type} : List (Nat × Inl R) := []
noncomputable def qbgf : Cfg := { T := qbew, spec := [(24, qbcf), (36, qask)], glob := GlobL.G Tryd.prog, eqs := qbex, N := 36, fuel := 64, loops := [], joins := [], blocks := [], ovl := [], retA := none, fid := 38, rnd := false, saves := [] }
theorem qbgg : CfgOK Tryd.prog qbgf := ⟨tsOK_of qbez, specsL_ok (show SpecsL Tryd.prog qbgf.spec from ⟨qbco, ⟨qast, trivial⟩⟩), qbe0, ovlL_ok (trivial), globsOK_of rfl, freshL_ok (show FreshL Tryd.prog qbgf.fresh from trivial), specsL_ok (show SpecsL Tryd.prog qbgf.gns from trivial)⟩
theorem qbgh {R : Type} : SubsOK Tryd.prog (R := R) 0 qbge := subsOK_nil _ _
theorem qbgi {R : Type} : LoopsOK (R := R) (hnd 0 qbge) qbgf qbgd qbe7 := loopsOK_of (l := []) (by kernel_rfl) (trivial)
theorem qbgj : RngsOK Tryd.prog qbgf qbe7 := rngs0 (by kernel_rfl)
noncomputable def qbgk {R : Type} : Inl R := .mk 38 qbgf qbgd qbe7 Tryd.f38.results.toList qbge
noncomputable def qbgl {R : Type} : List (Nat × Hd R) := [(1, hdOf qbfo qbfp)]
noncomputable def qbgm {R : Type} : List (Nat × Inl R) := [(114, qbgc), (128, qbgk)]
noncomputable def qbgn : Cfg := { T := qbew, spec := [(24, qbcf), (36, qask)], glob := GlobL.G Tryd.prog, eqs := qbex, N := 131, fuel := 64, loops := [(1, ⟨[0, 2, 1000008], [], [1, 4, 5], 6, [], [], [], []⟩)], joins := [], blocks := [(0, ⟨[0, 2, 1000008], [], [1, 4, 5], 6, [], [], [], []⟩)], ovl := [], retA := some ⟨[2, 3, 1000008], [], [1, 5], 6, [], [], [], []⟩, fid := 20, rnd := false, saves := [] }
theorem qbgo : CfgOK Tryd.prog qbgn := ⟨tsOK_of qbez, specsL_ok (show SpecsL Tryd.prog qbgn.spec from ⟨qbco, ⟨qast, trivial⟩⟩), qbe0, ovlL_ok (trivial), globsOK_of rfl, freshL_ok (show FreshL Tryd.prog qbgn.fresh from trivial), specsL_ok (show SpecsL Tryd.prog qbgn.gns from trivial)⟩
theorem qbgp {R : Type} : SubsOK Tryd.prog (R := R) 1 qbgm := subsOK_cons (fn := Tryd.f37) (by kernel_rfl) (by kernel_rfl) (by kernel_rfl) (by kernel_rfl) (by kernel_rfl) qbf8 qbga qbgb qbf9 (subsOK_cons (fn := Tryd.f38) (by kernel_rfl) (by kernel_rfl) (by kernel_rfl) (by kernel_rfl) (by kernel_rfl) qbgg qbgi qbgj qbgh (subsOK_nil _ _))
theorem qbgq {R : Type} : LoopOK (R := R) (hnd 1 qbgm) qbgn qbgl (sub [1, 0, 1, 0, 0, 0] qbe5) (HS.V qbfo) (HS.st qbfo) (HS.sh qbfo) qbfp (hdOf qbfo qbfp) := loopOK_of qbfo qbfp (fun _ _ => rfl) (by intro q v K; kernel_rfl)
theorem qbgr {R : Type} : LoopsOK (R := R) (hnd 1 qbgm) qbgn qbgl qbe5 := loopsOK_of (l := [sub [1, 0, 1, 0, 0, 0] qbe5]) (by kernel_rfl) (loopsL_cons (b := sub [1, 0, 1, 0, 0, 0] qbe5) (rid := 1) (by kernel_rfl) (by kernel_rfl) qbgq (trivial))
theorem qbgs : RngsOK Tryd.prog qbgn qbe5 := rngs0 (by kernel_rfl)
noncomputable def qbgt {R : Type} : Inl R := .mk 20 qbgn qbgl qbe5 Tryd.f20.results.toList qbgm
noncomputable def qbgu {R : Type} : List (Nat × Hd R) := []
noncomputable def qbgv {R : Type} : List (Nat × Inl R) := [(17, qbf4), (25, qbgt)]
noncomputable def qbgw : Cfg := { T := qbew, spec := [], glob := GlobL.G Tryd.prog, eqs := qbex, N := 28, fuel := 64, loops := [], joins := [], blocks := [], ovl := [], retA := none, fid := 9, rnd := false, saves := [] }
theorem qbgx : CfgOK Tryd.prog qbgw := ⟨tsOK_of qbez, specsL_ok (show SpecsL Tryd.prog qbgw.spec from trivial), qbe0, ovlL_ok (trivial), globsOK_of rfl, freshL_ok (show FreshL Tryd.prog qbgw.fresh from trivial), specsL_ok (show SpecsL Tryd.prog qbgw.gns from trivial)⟩
theorem qbgy {R : Type} : SubsOK Tryd.prog (R := R) 2 qbgv := subsOK_cons (fn := Tryd.f19) (by kernel_rfl) (by kernel_rfl) (by kernel_rfl) (by kernel_rfl) (by kernel_rfl) qbf0 qbf2 qbf3 qbf1 (subsOK_cons (fn := Tryd.f20) (by kernel_rfl) (by kernel_rfl) (by kernel_rfl) (by kernel_rfl) (by kernel_rfl) qbgo qbgr qbgs qbgp (subsOK_nil _ _))
theorem qbgz {R : Type} : LoopsOK (R := R) (hnd 2 qbgv) qbgw qbgu qbe1 := loopsOK_of (l := []) (by kernel_rfl) (trivial)
theorem qbg0 : RngsOK Tryd.prog qbgw qbe1 := rngs0 (by kernel_rfl)
theorem qbg1 : ∀ v, runFn (hnd 2 qbgv) qbgw qbgu qbe1 Tryd.f9.results.toList (HP.st qbfq v) (decOf qbfr qbft) = qbfv (qbfs v) := by intro v; kernel_rfl
theorem qbg2 : SpecOK Tryd.prog 9 qbfw := specOK_mk (fn := Tryd.f9) (by kernel_rfl) (by kernel_rfl) (by kernel_rfl) qbgx (by kernel_rfl) (by kernel_rfl) qbey (by kernel_rfl) (fun _ => rfl) (d := 2) qbgy qbgz qbg0 qbg1
noncomputable def qbg3 : List HV := [.agg [.int .i64, .int .i64, .int .i64, .sl .inode], .one (.str), .one (.str)]
noncomputable def qbg4 : List HV := [.one (.bool)]
noncomputable def qbg5 : HP.V qbg3 → Fs × Str × Str := fun v => ((⟨v.1.1, v.1.2.1, v.1.2.2.1, v.1.2.2.2.1⟩ : Fs), v.2.1, v.2.2.1)
noncomputable def qbg6 : HX.V qbg4 → Bool := fun v => (v)
noncomputable def qbg7 : Bool → HX.V qbg4 := fun y => (y)
noncomputable def qbg8 : (Fs × Str × Str) → Option (Bool) := fun x => seek_Dir x.1 x.2.1 x.2.2
noncomputable def qbg9 : Spec := mkSpec qbg3 qbg4 qbg5 qbg7 qbg8
noncomputable def qbha {R : Type} : List (Nat × Hd R) := []
noncomputable def qbhb {R : Type} : List (Nat × Inl R) := []
noncomputable def qbhc : Cfg := { T := qbew, spec := [(9, qbfw), (24, qbcf)], glob := GlobL.G Tryd.prog, eqs := qbex, N := 35, fuel := 64, loops := [], joins := [], blocks := [], ovl := [], retA := none, fid := 14, rnd := false, saves := [] }
theorem qbhd : CfgOK Tryd.prog qbhc := ⟨tsOK_of qbez, specsL_ok (show SpecsL Tryd.prog qbhc.spec from ⟨qbg2, ⟨qbco, trivial⟩⟩), qbe0, ovlL_ok (trivial), globsOK_of rfl, freshL_ok (show FreshL Tryd.prog qbhc.fresh from trivial), specsL_ok (show SpecsL Tryd.prog qbhc.gns from trivial)⟩
theorem qbhe {R : Type} : SubsOK Tryd.prog (R := R) 0 qbhb := subsOK_nil _ _
theorem qbhf {R : Type} : LoopsOK (R := R) (hnd 0 qbhb) qbhc qbha qbe3 := loopsOK_of (l := []) (by kernel_rfl) (trivial)
theorem qbhg : RngsOK Tryd.prog qbhc qbe3 := rngs0 (by kernel_rfl)
theorem qbhh : ∀ v, runFn (hnd 0 qbhb) qbhc qbha qbe3 Tryd.f14.results.toList (HP.st qbg3 v) (decOf qbg4 qbg6) = qbg8 (qbg5 v) := by intro v; kernel_rfl
theorem qbhi : SpecOK Tryd.prog 14 qbg9 := specOK_mk (fn := Tryd.f14) (by kernel_rfl) (by kernel_rfl) (by kernel_rfl) qbhd (by kernel_rfl) (by kernel_rfl) qbey (by kernel_rfl) (fun _ => rfl) (d := 0) qbhe qbhf qbhg qbhh
end Go.Eng
set_option linter.unusedVariables false
set_option maxRecDepth 100000
namespace Go.Eng
open Go Go.Proofs
noncomputable def qbhj : List (Nat × TI) := [(3, ⟨false, 1, .one (.int .i64 0), .int .i64⟩), (4, ⟨false, 1, .one (.bool false), .bool⟩), (5, ⟨false, 1, .one (.int .u8 0), .int .u8⟩), (9, ⟨false, 1, .one (.str []), .str⟩), (24, ⟨true, 4, .agg [.int .i64 0, .int .i64 0, .int .i64 0, .clip .inode []], .struct [(0, 3), (1, 3), (2, 3), (3, 22)]⟩), (27, ⟨false, 1, .one (.clip .seen []), .slice .seen 30⟩), (30, ⟨true, 2, .agg [.str [], .int .i64 0], .struct [(0, 9), (1, 3)]⟩), (31, ⟨false, 1, .one (.clip .entry []), .slice .entry 46⟩), (33, ⟨true, 6, .agg [.int .i64 0, .int .i64 0, .int .i64 0, .str [], .int .i64 0, .clip .entry []], .struct [(0, 3), (1, 3), (2, 3), (3, 9), (4, 3), (5, 31)]⟩), (37, ⟨true, 3, .agg [.int .i64 0, .str [], .int .i64 0], .struct [(0, 3), (1, 9), (2, 3)]⟩), (46, ⟨true, 2, .agg [.str [], .int .i64 0], .struct [(0, 9), (1, 3)]⟩)]
noncomputable def qbhk : List (Nat × List EK) := [(37, [.i, .s, .i])]
theorem qbhl : Tryd.prog.follows .mixedOrders = true := by kernel_rfl
theorem qbhm : (qbhj.all fun x => tiB Tryd.prog x.1 x.2) = true := by kernel_rfl
theorem qbhn {c : Cfg} (h : c.eqs = qbhk := by rfl) : EqsOK Tryd.prog c := eqsOK_of (by rw [h]; kernel_rfl)
noncomputable def qbho : Code := match Tryd.f3.body with | some b => b | none => .skip
noncomputable def qbhp : Code := match Tryd.f4.body with | some b => b | none => .skip
noncomputable def qbhq : Code := match Tryd.f5.body with | some b => b | none => .skip
noncomputable def qbhr : Code := match Tryd.f12.body with | some b => b | none => .skip
noncomputable def qbhs : List HV := []
noncomputable def qbht : List HV := [.agg [.int .i64, .int .i64, .int .i64, .sl .inode]]
noncomputable def qbhu : HP.V qbhs → Unit := fun v => ()
noncomputable def qbhv : HX.V qbht → Fs := fun v => ((⟨v.1, v.2.1, v.2.2.1, v.2.2.2.1⟩ : Fs))
noncomputable def qbhw : Fs → HX.V qbht := fun y => ((y.maxInodes, (y.maxBytes, (y.next, (y.inodes, ())))))
noncomputable def qbhx : Unit → Option (Fs) := fun x => law10_small
noncomputable def qbhy : Spec := mkSpec qbhs qbht qbhu qbhw qbhx
noncomputable def qbhz {R : Type} : List (Nat × Hd R) := []
noncomputable def qbh0 {R : Type} : List (Nat × Inl R) := []
noncomputable def qbh1 : Cfg := { T := qbhj, spec := [(21, qaar), (22, qabs)], glob := GlobL.G Tryd.prog, eqs := qbhk, N := 21, fuel := 64, loops := [], joins := [], blocks := [], ovl := [], retA := none, fid := 12, rnd := false, saves := [] }
theorem qbh2 : CfgOK Tryd.prog qbh1 := ⟨tsOK_of qbhm, specsL_ok (show SpecsL Tryd.prog qbh1.spec from ⟨qaa0, ⟨qab2, trivial⟩⟩), qbhn, ovlL_ok (trivial), globsOK_of rfl, freshL_ok (show FreshL Tryd.prog qbh1.fresh from trivial), specsL_ok (show SpecsL Tryd.prog qbh1.gns from trivial)⟩
theorem qbh3 {R : Type} : SubsOK Tryd.prog (R := R) 0 qbh0 := subsOK_nil _ _
theorem qbh4 {R : Type} : LoopsOK (R := R) (hnd 0 qbh0) qbh1 qbhz qbhr := loopsOK_of (l := []) (by kernel_rfl) (trivial)
theorem qbh5 : RngsOK Tryd.prog qbh1 qbhr := rngs0 (by kernel_rfl)
theorem qbh6 : ∀ v, runFn (hnd 0 qbh0) qbh1 qbhz qbhr Tryd.f12.results.toList (HP.st qbhs v) (decOf qbht qbhv) = qbhx (qbhu v) := by intro v; kernel_rfl
theorem qbh7 : SpecOK Tryd.prog 12 qbhy := specOK_mk (fn := Tryd.f12) (by kernel_rfl) (by kernel_rfl) (by kernel_rfl) qbh2 (by kernel_rfl) (by kernel_rfl) qbhl (by kernel_rfl) (fun _ => rfl) (d := 0) qbh3 qbh4 qbh5 qbh6
noncomputable def qbh8 : List HV := []
noncomputable def qbh9 : List HV := [.one (.bool)]
noncomputable def qbia : HP.V qbh8 → Unit := fun v => ()
noncomputable def qbib : HX.V qbh9 → Bool := fun v => (v)
noncomputable def qbic : Bool → HX.V qbh9 := fun y => (y)
noncomputable def qbid : Unit → Option (Bool) := fun x => law10_awake
noncomputable def qbie : Spec := mkSpec qbh8 qbh9 qbia qbic qbid
noncomputable def qbif {R : Type} : List (Nat × Hd R) := []
noncomputable def qbig {R : Type} : List (Nat × Inl R) := []
noncomputable def qbih : Cfg := { T := qbhj, spec := [(9, qbfw), (12, qbhy), (13, qbfe), (14, qbg9)], glob := GlobL.G Tryd.prog, eqs := qbhk, N := 111, fuel := 64, loops := [], joins := [], blocks := [], ovl := [], retA := none, fid := 5, rnd := false, saves := [] }
theorem qbii : CfgOK Tryd.prog qbih := ⟨tsOK_of qbhm, specsL_ok (show SpecsL Tryd.prog qbih.spec from ⟨qbg2, ⟨qbh7, ⟨qbfn, ⟨qbhi, trivial⟩⟩⟩⟩), qbhn, ovlL_ok (trivial), globsOK_of rfl, freshL_ok (show FreshL Tryd.prog qbih.fresh from trivial), specsL_ok (show SpecsL Tryd.prog qbih.gns from trivial)⟩
theorem qbij {R : Type} : SubsOK Tryd.prog (R := R) 0 qbig := subsOK_nil _ _
theorem qbik {R : Type} : LoopsOK (R := R) (hnd 0 qbig) qbih qbif qbhq := loopsOK_of (l := []) (by kernel_rfl) (trivial)
theorem qbil : RngsOK Tryd.prog qbih qbhq := rngs0 (by kernel_rfl)
theorem qbim : ∀ v, runFn (hnd 0 qbig) qbih qbif qbhq Tryd.f5.results.toList (HP.st qbh8 v) (decOf qbh9 qbib) = qbid (qbia v) := by intro v; kernel_rfl
theorem qbin : SpecOK Tryd.prog 5 qbie := specOK_mk (fn := Tryd.f5) (by kernel_rfl) (by kernel_rfl) (by kernel_rfl) qbii (by kernel_rfl) (by kernel_rfl) qbhl (by kernel_rfl) (fun _ => rfl) (d := 0) qbij qbik qbil qbim
noncomputable def qbio : List HV := [.agg [.int .i64, .int .i64, .int .i64, .sl .inode], .one (.int .u8)]
noncomputable def qbip : List HV := [.one (.bool)]
noncomputable def qbiq : HP.V qbio → Fs × Int := fun v => ((⟨v.1.1, v.1.2.1, v.1.2.2.1, v.1.2.2.2.1⟩ : Fs), v.2.1)
noncomputable def qbir : HX.V qbip → Bool := fun v => (v)
noncomputable def qbis : Bool → HX.V qbip := fun y => (y)
noncomputable def qbit : (Fs × Int) → Option (Bool) := fun x => law10_SeekDots x.1 x.2
noncomputable def qbiu : Spec := mkSpec qbio qbip qbiq qbis qbit
noncomputable def qbiv {R : Type} : List (Nat × Hd R) := []
noncomputable def qbiw {R : Type} : List (Nat × Inl R) := []
noncomputable def qbix : Cfg := { T := qbhj, spec := [(5, qbie), (6, qam3), (7, qaot), (8, qapz), (9, qbfw)], glob := GlobL.G Tryd.prog, eqs := qbhk, N := 118, fuel := 64, loops := [], joins := [], blocks := [], ovl := [], retA := none, fid := 3, rnd := false, saves := [] }
theorem qbiy : CfgOK Tryd.prog qbix := ⟨tsOK_of qbhm, specsL_ok (show SpecsL Tryd.prog qbix.spec from ⟨qbin, ⟨qanc, ⟨qao2, ⟨qap8, ⟨qbg2, trivial⟩⟩⟩⟩⟩), qbhn, ovlL_ok (trivial), globsOK_of rfl, freshL_ok (show FreshL Tryd.prog qbix.fresh from trivial), specsL_ok (show SpecsL Tryd.prog qbix.gns from trivial)⟩
theorem qbiz {R : Type} : SubsOK Tryd.prog (R := R) 0 qbiw := subsOK_nil _ _
theorem qbi0 {R : Type} : LoopsOK (R := R) (hnd 0 qbiw) qbix qbiv qbho := loopsOK_of (l := []) (by kernel_rfl) (trivial)
theorem qbi1 : RngsOK Tryd.prog qbix qbho := rngs0 (by kernel_rfl)
theorem qbi2 : ∀ v, runFn (hnd 0 qbiw) qbix qbiv qbho Tryd.f3.results.toList (HP.st qbio v) (decOf qbip qbir) = qbit (qbiq v) := by intro v; kernel_rfl
theorem qbi3 : SpecOK Tryd.prog 3 qbiu := specOK_mk (fn := Tryd.f3) (by kernel_rfl) (by kernel_rfl) (by kernel_rfl) qbiy (by kernel_rfl) (by kernel_rfl) qbhl (by kernel_rfl) (fun _ => rfl) (d := 0) qbiz qbi0 qbi1 qbi2
noncomputable def qbi4 : HS := ⟨[(7, .one (.ptr 1 0)), (11, .one (.ptr 3 0)), (13, .one (.int .i64)), (14, .one (.int .i64))], [(1, .cells [.int .i64, .str, .int .i64]), (3, .cells [.int .i64, .int .i64, .int .i64, .str, .int .i64, .sl .entry])], 4⟩
noncomputable def qbi5 {R : Type} : Nat → HS.V qbi4 → (Ex → St → Option R) → Option R := fun q v K =>
  law10_SeekFollows_L14 (⟨v.2.1.1, v.2.1.2.1, v.2.1.2.2.1⟩ : Spotted) (⟨v.2.2.1.1, v.2.2.1.2.1, v.2.2.1.2.2.1, v.2.2.1.2.2.2.1, v.2.2.1.2.2.2.2.1, v.2.2.1.2.2.2.2.2.1⟩ : Inode) (fun y16 => K (.exit 0) { regs := [(7, .v (.one (.ptr 1 0))), (13, .v (.one (.int .i64 y16)))], mem := [(1, .cells [.int .i64 ((⟨v.2.1.1, v.2.1.2.1, v.2.1.2.2.1⟩ : Spotted).dir), .str ((⟨v.2.1.1, v.2.1.2.1, v.2.1.2.2.1⟩ : Spotted).name), .int .i64 ((⟨v.2.1.1, v.2.1.2.1, v.2.1.2.2.1⟩ : Spotted).ino)])], nx := 2 }) q v.1.2.2.1 v.1.2.2.2.1
noncomputable def qbi6 : List HV := [.agg [.int .i64, .int .i64, .int .i64, .sl .inode], .one (.str), .one (.str)]
noncomputable def qbi7 : List HV := [.one (.bool)]
noncomputable def qbi8 : HP.V qbi6 → Fs × Str × Str := fun v => ((⟨v.1.1, v.1.2.1, v.1.2.2.1, v.1.2.2.2.1⟩ : Fs), v.2.1, v.2.2.1)
noncomputable def qbi9 : HX.V qbi7 → Bool := fun v => (v)
noncomputable def qbja : Bool → HX.V qbi7 := fun y => (y)
noncomputable def qbjb : (Fs × Str × Str) → Option (Bool) := fun x => law10_SeekFollows x.1 x.2.1 x.2.2
noncomputable def qbjc : Spec := mkSpec qbi6 qbi7 qbi8 qbja qbjb
noncomputable def qbjd {R : Type} : List (Nat × Hd R) := [(14, hdOf qbi4 qbi5)]
noncomputable def qbje {R : Type} : List (Nat × Inl R) := []
noncomputable def qbjf : Cfg := { T := qbhj, spec := [(5, qbie), (6, qam3), (9, qbfw), (10, qaqn), (11, qacx)], glob := GlobL.G Tryd.prog, eqs := qbhk, N := 118, fuel := 64, loops := [(14, ⟨[7, 11, 13, 14], [], [1, 3], 4, [], [], [], []⟩)], joins := [], blocks := [(0, ⟨[7, 13], [], [1], 2, [], [], [], []⟩)], ovl := [], retA := none, fid := 4, rnd := false, saves := [] }
theorem qbjg : CfgOK Tryd.prog qbjf := ⟨tsOK_of qbhm, specsL_ok (show SpecsL Tryd.prog qbjf.spec from ⟨qbin, ⟨qanc, ⟨qbg2, ⟨qaqx, ⟨qac7, trivial⟩⟩⟩⟩⟩), qbhn, ovlL_ok (trivial), globsOK_of rfl, freshL_ok (show FreshL Tryd.prog qbjf.fresh from trivial), specsL_ok (show SpecsL Tryd.prog qbjf.gns from trivial)⟩
theorem qbjh {R : Type} : SubsOK Tryd.prog (R := R) 0 qbje := subsOK_nil _ _
theorem qbji {R : Type} : LoopOK (R := R) (hnd 0 qbje) qbjf qbjd (sub [1, 1, 1, 1, 1, 1, 1, 1, 1, 0, 1, 0, 0] qbhp) (HS.V qbi4) (HS.st qbi4) (HS.sh qbi4) qbi5 (hdOf qbi4 qbi5) := loopOK_of qbi4 qbi5 (fun _ _ => rfl) (by intro q v K; kernel_rfl)
theorem qbjj {R : Type} : LoopsOK (R := R) (hnd 0 qbje) qbjf qbjd qbhp := loopsOK_of (l := [sub [1, 1, 1, 1, 1, 1, 1, 1, 1, 0, 1, 0, 0] qbhp]) (by kernel_rfl) (loopsL_cons (b := sub [1, 1, 1, 1, 1, 1, 1, 1, 1, 0, 1, 0, 0] qbhp) (rid := 14) (by kernel_rfl) (by kernel_rfl) qbji (trivial))
theorem qbjk : RngsOK Tryd.prog qbjf qbhp := rngs0 (by kernel_rfl)
theorem qbjl : ∀ v, runFn (hnd 0 qbje) qbjf qbjd qbhp Tryd.f4.results.toList (HP.st qbi6 v) (decOf qbi7 qbi9) = qbjb (qbi8 v) := by intro v; kernel_rfl
theorem qbjm : SpecOK Tryd.prog 4 qbjc := specOK_mk (fn := Tryd.f4) (by kernel_rfl) (by kernel_rfl) (by kernel_rfl) qbjg (by kernel_rfl) (by kernel_rfl) qbhl (by kernel_rfl) (fun _ => rfl) (d := 0) qbjh qbjj qbjk qbjl
end Go.Eng
