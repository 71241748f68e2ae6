import Derived.Test.YtiaemhkkfjpdlaaRoomLift
import Derived.Test.YtiaemhkkfjpdlaaProg
/- Each plain function is what the program's does. -/
set_option linter.unusedVariables false
set_option maxRecDepth 100000
namespace Go.Eng
open Go Go.Proofs
noncomputable def T : List (Nat × TI) := [(3, ⟨false, 1, .one (.int .i64 0), .int .i64⟩), (4, ⟨false, 1, .one (.bool false), .bool⟩), (5, ⟨false, 1, .one (.int .u8 0), .int .u8⟩), (9, ⟨false, 1, .one (.str []), .str⟩), (22, ⟨false, 1, .one (.clip .inode []), .slice .inode 32⟩), (24, ⟨true, 4, .agg [.int .i64 0, .int .i64 0, .int .i64 0, .clip .inode []], .struct [(0, 3), (1, 3), (2, 3), (3, 22)]⟩), (30, ⟨false, 1, .one (.clip .entry []), .slice .entry 44⟩), (32, ⟨true, 6, .agg [.int .i64 0, .int .i64 0, .int .i64 0, .str [], .int .i64 0, .clip .entry []], .struct [(0, 3), (1, 3), (2, 3), (3, 9), (4, 3), (5, 30)]⟩), (44, ⟨true, 2, .agg [.str [], .int .i64 0], .struct [(0, 9), (1, 3)]⟩)]
noncomputable def E : List (Nat × List EK) := []
theorem mo : Try.prog.follows .mixedOrders = true := by kernel_rfl
theorem ts : (T.all fun x => tiB Try.prog x.1 x.2) = true := by kernel_rfl
theorem eqs {c : Cfg} (h : c.eqs = E := by rfl) : EqsOK Try.prog c := eqsOK_of (by rw [h]; kernel_rfl)
noncomputable def body3 : Code := match Try.f3.body with | some b => b | none => .skip
noncomputable def body4 : Code := match Try.f4.body with | some b => b | none => .skip
noncomputable def body5 : Code := match Try.f5.body with | some b => b | none => .skip
noncomputable def body11 : Code := match Try.f11.body with | some b => b | none => .skip
noncomputable def body12 : Code := match Try.f12.body with | some b => b | none => .skip
noncomputable def body13 : Code := match Try.f13.body with | some b => b | none => .skip
noncomputable def body14 : Code := match Try.f14.body with | some b => b | none => .skip
noncomputable def body15 : Code := match Try.f15.body with | some b => b | none => .skip
noncomputable def body16 : Code := match Try.f16.body with | some b => b | none => .skip
noncomputable def body17 : Code := match Try.f17.body with | some b => b | none => .skip
noncomputable def body18 : Code := match Try.f18.body with | some b => b | none => .skip
noncomputable def body19 : Code := match Try.f19.body with | some b => b | none => .skip
noncomputable def body20 : Code := match Try.f20.body with | some b => b | none => .skip
noncomputable def body34 : Code := match Try.f34.body with | some b => b | none => .skip
noncomputable def body35 : Code := match Try.f35.body with | some b => b | none => .skip
noncomputable def ref05_New_hp : List HV := [.one (.int .i64), .one (.int .i64)]
noncomputable def ref05_New_hx : List HV := [.agg [.int .i64, .int .i64, .int .i64, .sl .inode]]
noncomputable def ref05_New_toX : HP.V ref05_New_hp → Int × Int := fun v => (v.1, v.2.1)
noncomputable def ref05_New_toY : HX.V ref05_New_hx → Fs := fun v => ((⟨v.1, v.2.1, v.2.2.1, v.2.2.2.1⟩ : Fs))
noncomputable def ref05_New_ofY : Fs → HX.V ref05_New_hx := fun y => ((y.maxInodes, (y.maxBytes, (y.next, (y.inodes, ())))))
noncomputable def ref05_New_f : (Int × Int) → Option (Fs) := fun x => ref05_New x.1 x.2
noncomputable def ref05_New_sp : Spec := mkSpec ref05_New_hp ref05_New_hx ref05_New_toX ref05_New_ofY ref05_New_f
noncomputable def ref05_New_lp {R : Type} : List (Nat × Hd R) := []
noncomputable def ref05_New_subs {R : Type} : List (Nat × Inl R) := []
noncomputable def ref05_New_cfg : Cfg := { T := T, spec := [], glob := [], eqs := E, N := 10, fuel := 64, loops := [], joins := [], blocks := [], ovl := [], retA := none }
theorem ref05_New_C : CfgOK Try.prog ref05_New_cfg := ⟨tsOK_of ts, specsL_ok (show SpecsL Try.prog ref05_New_cfg.spec from trivial), eqs, ovlL_ok (trivial)⟩
theorem ref05_New_S {R : Type} : SubsOK Try.prog (R := R) 0 ref05_New_subs := subsOK_nil _ _
theorem ref05_New_LO {R : Type} : LoopsOK (R := R) (hnd 0 ref05_New_subs) ref05_New_cfg ref05_New_lp body34 := loopsOK_of (l := []) (by kernel_rfl) (trivial)
theorem ref05_New_run : ∀ v, runFn (hnd 0 ref05_New_subs) ref05_New_cfg ref05_New_lp body34 Try.f34.results.toList (HP.st ref05_New_hp v) (decOf ref05_New_hx ref05_New_toY) = ref05_New_f (ref05_New_toX v) := by intro v; kernel_rfl
theorem ref05_New_ok : SpecOK Try.prog 34 ref05_New_sp := specOK_mk (fn := Try.f34) (by kernel_rfl) (by kernel_rfl) (by kernel_rfl) ref05_New_C (by kernel_rfl) (by kernel_rfl) mo (by kernel_rfl) (fun _ => rfl) (d := 0) ref05_New_S ref05_New_LO ref05_New_run

noncomputable def ref05_Drop_L3_hs : HS := ⟨[(1, .one (.int .i64)), (2, .one (.ptr 0 0)), (4, .one (.ptr 1 0)), (5, .one (.own 2)), (6, .one (.int .i64))], [(0, .cells [.int .i64, .int .i64, .int .i64, .sl .inode]), (1, .cells [.int .i64, .int .i64, .int .i64, .sl .inode]), (2, .row .inode)], 3⟩
noncomputable def ref05_Drop_L3_l {R : Type} : Nat → HS.V ref05_Drop_L3_hs → (Ex → St → Option R) → Option R := fun q v K =>
  ref05_Drop_L3 v.1.1 (⟨v.2.1.1, v.2.1.2.1, v.2.1.2.2.1, v.2.1.2.2.2.1⟩ : Fs) (fun y10 => K (.exit 0) { regs := [(2, .v (.one (.ptr 0 0))), (4, .v (.one (.ptr 1 0))), (5, .v (.one (.own 2)))], mem := [(0, .cells [.int .i64 ((⟨v.2.1.1, v.2.1.2.1, v.2.1.2.2.1, v.2.1.2.2.2.1⟩ : Fs).maxInodes), .int .i64 ((⟨v.2.1.1, v.2.1.2.1, v.2.1.2.2.1, v.2.1.2.2.2.1⟩ : Fs).maxBytes), .int .i64 ((⟨v.2.1.1, v.2.1.2.1, v.2.1.2.2.1, v.2.1.2.2.2.1⟩ : Fs).next), .sl .inode ((⟨v.2.1.1, v.2.1.2.1, v.2.1.2.2.1, v.2.1.2.2.2.1⟩ : Fs).inodes)]), (1, .cells [.int .i64 ((⟨v.2.2.1.1, v.2.2.1.2.1, v.2.2.1.2.2.1, v.2.2.1.2.2.2.1⟩ : Fs).maxInodes), .int .i64 ((⟨v.2.2.1.1, v.2.2.1.2.1, v.2.2.1.2.2.1, v.2.2.1.2.2.2.1⟩ : Fs).maxBytes), .int .i64 ((⟨v.2.2.1.1, v.2.2.1.2.1, v.2.2.1.2.2.1, v.2.2.1.2.2.2.1⟩ : Fs).next), .sl .inode ((⟨v.2.2.1.1, v.2.2.1.2.1, v.2.2.1.2.2.1, v.2.2.1.2.2.2.1⟩ : Fs).inodes)]), (2, .row .inode y10)], nx := 3 }) q v.1.2.2.2.2.1 v.2.2.2.1
noncomputable def ref05_Drop_hp : List HV := [.agg [.int .i64, .int .i64, .int .i64, .sl .inode], .one (.int .i64)]
noncomputable def ref05_Drop_hx : List HV := [.agg [.int .i64, .int .i64, .int .i64, .sl .inode]]
noncomputable def ref05_Drop_toX : HP.V ref05_Drop_hp → Fs × Int := fun v => ((⟨v.1.1, v.1.2.1, v.1.2.2.1, v.1.2.2.2.1⟩ : Fs), v.2.1)
noncomputable def ref05_Drop_toY : HX.V ref05_Drop_hx → Fs := fun v => ((⟨v.1, v.2.1, v.2.2.1, v.2.2.2.1⟩ : Fs))
noncomputable def ref05_Drop_ofY : Fs → HX.V ref05_Drop_hx := fun y => ((y.maxInodes, (y.maxBytes, (y.next, (y.inodes, ())))))
noncomputable def ref05_Drop_f : (Fs × Int) → Option (Fs) := fun x => ref05_Drop x.1 x.2
noncomputable def ref05_Drop_sp : Spec := mkSpec ref05_Drop_hp ref05_Drop_hx ref05_Drop_toX ref05_Drop_ofY ref05_Drop_f
noncomputable def ref05_Drop_lp {R : Type} : List (Nat × Hd R) := [(3, hdOf ref05_Drop_L3_hs ref05_Drop_L3_l)]
noncomputable def ref05_Drop_subs {R : Type} : List (Nat × Inl R) := []
noncomputable def ref05_Drop_cfg : Cfg := { T := T, spec := [], glob := [], eqs := E, N := 33, fuel := 64, loops := [(3, ⟨[1, 2, 4, 5, 6], [(5, 2, .inode)], [0, 1, 2], 3, [], [1]⟩)], joins := [], blocks := [(0, ⟨[2, 4, 5], [], [0, 1, 2], 3, [], []⟩)], ovl := [], retA := none }
theorem ref05_Drop_C : CfgOK Try.prog ref05_Drop_cfg := ⟨tsOK_of ts, specsL_ok (show SpecsL Try.prog ref05_Drop_cfg.spec from trivial), eqs, ovlL_ok (trivial)⟩
theorem ref05_Drop_S {R : Type} : SubsOK Try.prog (R := R) 0 ref05_Drop_subs := subsOK_nil _ _
theorem ref05_Drop_L3_ok {R : Type} : LoopOK (R := R) (hnd 0 ref05_Drop_subs) ref05_Drop_cfg ref05_Drop_lp (sub [1, 1, 0, 1, 0, 0] body35) (HS.V ref05_Drop_L3_hs) (HS.st ref05_Drop_L3_hs) (HS.sh ref05_Drop_L3_hs) ref05_Drop_L3_l (hdOf ref05_Drop_L3_hs ref05_Drop_L3_l) := loopOK_of ref05_Drop_L3_hs ref05_Drop_L3_l (fun _ _ => rfl) (by intro q v K; kernel_rfl)
theorem ref05_Drop_LO {R : Type} : LoopsOK (R := R) (hnd 0 ref05_Drop_subs) ref05_Drop_cfg ref05_Drop_lp body35 := loopsOK_of (l := [sub [1, 1, 0, 1, 0, 0] body35]) (by kernel_rfl) (loopsL_cons (b := sub [1, 1, 0, 1, 0, 0] body35) (rid := 3) (by kernel_rfl) (by kernel_rfl) ref05_Drop_L3_ok (trivial))
theorem ref05_Drop_run : ∀ v, runFn (hnd 0 ref05_Drop_subs) ref05_Drop_cfg ref05_Drop_lp body35 Try.f35.results.toList (HP.st ref05_Drop_hp v) (decOf ref05_Drop_hx ref05_Drop_toY) = ref05_Drop_f (ref05_Drop_toX v) := by intro v; kernel_rfl
theorem ref05_Drop_ok : SpecOK Try.prog 35 ref05_Drop_sp := specOK_mk (fn := Try.f35) (by kernel_rfl) (by kernel_rfl) (by kernel_rfl) ref05_Drop_C (by kernel_rfl) (by kernel_rfl) mo (by kernel_rfl) (fun _ => rfl) (d := 0) ref05_Drop_S ref05_Drop_LO ref05_Drop_run

noncomputable def ref05_Set_L5_hs : HS := ⟨[(2, .one (.ptr 0 0)), (3, .one (.ptr 1 0)), (4, .one (.ptr 2 0)), (5, .one (.sl .inode)), (6, .one (.own 3)), (7, .one (.bool)), (8, .one (.int .i64))], [(0, .cells [.int .i64, .int .i64, .int .i64, .sl .inode]), (1, .cells [.int .i64, .int .i64, .int .i64, .str, .int .i64, .sl .entry]), (2, .cells [.int .i64, .int .i64, .int .i64, .sl .inode]), (3, .row .inode)], 4⟩
noncomputable def ref05_Set_L5_l {R : Type} : Nat → HS.V ref05_Set_L5_hs → (Ex → St → Option R) → Option R := fun q v K =>
  ref05_Set_L5 v.1.2.2.2.1 (⟨v.2.2.1.1, v.2.2.1.2.1, v.2.2.1.2.2.1, v.2.2.1.2.2.2.1, v.2.2.1.2.2.2.2.1, v.2.2.1.2.2.2.2.2.1⟩ : Inode) (fun y13 y17 => K (.exit 0) { regs := [(2, .v (.one (.ptr 0 0))), (3, .v (.one (.ptr 1 0))), (4, .v (.one (.ptr 2 0))), (6, .v (.one (.own 3))), (7, .v (.one (.bool y13)))], mem := [(0, .cells [.int .i64 ((⟨v.2.1.1, v.2.1.2.1, v.2.1.2.2.1, v.2.1.2.2.2.1⟩ : Fs).maxInodes), .int .i64 ((⟨v.2.1.1, v.2.1.2.1, v.2.1.2.2.1, v.2.1.2.2.2.1⟩ : Fs).maxBytes), .int .i64 ((⟨v.2.1.1, v.2.1.2.1, v.2.1.2.2.1, v.2.1.2.2.2.1⟩ : Fs).next), .sl .inode ((⟨v.2.1.1, v.2.1.2.1, v.2.1.2.2.1, v.2.1.2.2.2.1⟩ : Fs).inodes)]), (1, .cells [.int .i64 ((⟨v.2.2.1.1, v.2.2.1.2.1, v.2.2.1.2.2.1, v.2.2.1.2.2.2.1, v.2.2.1.2.2.2.2.1, v.2.2.1.2.2.2.2.2.1⟩ : Inode).ino), .int .i64 ((⟨v.2.2.1.1, v.2.2.1.2.1, v.2.2.1.2.2.1, v.2.2.1.2.2.2.1, v.2.2.1.2.2.2.2.1, v.2.2.1.2.2.2.2.2.1⟩ : Inode).kind), .int .i64 ((⟨v.2.2.1.1, v.2.2.1.2.1, v.2.2.1.2.2.1, v.2.2.1.2.2.2.1, v.2.2.1.2.2.2.2.1, v.2.2.1.2.2.2.2.2.1⟩ : Inode).links), .str ((⟨v.2.2.1.1, v.2.2.1.2.1, v.2.2.1.2.2.1, v.2.2.1.2.2.2.1, v.2.2.1.2.2.2.2.1, v.2.2.1.2.2.2.2.2.1⟩ : Inode).data), .int .i64 ((⟨v.2.2.1.1, v.2.2.1.2.1, v.2.2.1.2.2.1, v.2.2.1.2.2.2.1, v.2.2.1.2.2.2.2.1, v.2.2.1.2.2.2.2.2.1⟩ : Inode).parent), .sl .entry ((⟨v.2.2.1.1, v.2.2.1.2.1, v.2.2.1.2.2.1, v.2.2.1.2.2.2.1, v.2.2.1.2.2.2.2.1, v.2.2.1.2.2.2.2.2.1⟩ : Inode).entries)]), (2, .cells [.int .i64 ((⟨v.2.2.2.1.1, v.2.2.2.1.2.1, v.2.2.2.1.2.2.1, v.2.2.2.1.2.2.2.1⟩ : Fs).maxInodes), .int .i64 ((⟨v.2.2.2.1.1, v.2.2.2.1.2.1, v.2.2.2.1.2.2.1, v.2.2.2.1.2.2.2.1⟩ : Fs).maxBytes), .int .i64 ((⟨v.2.2.2.1.1, v.2.2.2.1.2.1, v.2.2.2.1.2.2.1, v.2.2.2.1.2.2.2.1⟩ : Fs).next), .sl .inode ((⟨v.2.2.2.1.1, v.2.2.2.1.2.1, v.2.2.2.1.2.2.1, v.2.2.2.1.2.2.2.1⟩ : Fs).inodes)]), (3, .row .inode y17)], nx := 4 }) q v.1.2.2.2.2.2.1 v.1.2.2.2.2.2.2.1 v.2.2.2.2.1
noncomputable def ref05_Set_hp : List HV := [.agg [.int .i64, .int .i64, .int .i64, .sl .inode], .agg [.int .i64, .int .i64, .int .i64, .str, .int .i64, .sl .entry]]
noncomputable def ref05_Set_hx : List HV := [.agg [.int .i64, .int .i64, .int .i64, .sl .inode]]
noncomputable def ref05_Set_toX : HP.V ref05_Set_hp → Fs × Inode := fun v => ((⟨v.1.1, v.1.2.1, v.1.2.2.1, v.1.2.2.2.1⟩ : Fs), (⟨v.2.1.1, v.2.1.2.1, v.2.1.2.2.1, v.2.1.2.2.2.1, v.2.1.2.2.2.2.1, v.2.1.2.2.2.2.2.1⟩ : Inode))
noncomputable def ref05_Set_toY : HX.V ref05_Set_hx → Fs := fun v => ((⟨v.1, v.2.1, v.2.2.1, v.2.2.2.1⟩ : Fs))
noncomputable def ref05_Set_ofY : Fs → HX.V ref05_Set_hx := fun y => ((y.maxInodes, (y.maxBytes, (y.next, (y.inodes, ())))))
noncomputable def ref05_Set_f : (Fs × Inode) → Option (Fs) := fun x => ref05_Set x.1 x.2
noncomputable def ref05_Set_sp : Spec := mkSpec ref05_Set_hp ref05_Set_hx ref05_Set_toX ref05_Set_ofY ref05_Set_f
noncomputable def ref05_Set_lp {R : Type} : List (Nat × Hd R) := [(5, hdOf ref05_Set_L5_hs ref05_Set_L5_l)]
noncomputable def ref05_Set_subs {R : Type} : List (Nat × Inl R) := []
noncomputable def ref05_Set_cfg : Cfg := { T := T, spec := [(35, ref05_Drop_sp)], glob := [], eqs := E, N := 52, fuel := 64, loops := [(5, ⟨[2, 3, 4, 5, 6, 7, 8], [(6, 3, .inode)], [0, 1, 2, 3], 4, [], [2]⟩)], joins := [], blocks := [(0, ⟨[2, 3, 4, 6, 7], [], [0, 1, 2, 3], 4, [], []⟩)], ovl := [], retA := none }
theorem ref05_Set_C : CfgOK Try.prog ref05_Set_cfg := ⟨tsOK_of ts, specsL_ok (show SpecsL Try.prog ref05_Set_cfg.spec from ⟨ref05_Drop_ok, trivial⟩), eqs, ovlL_ok (trivial)⟩
theorem ref05_Set_S {R : Type} : SubsOK Try.prog (R := R) 0 ref05_Set_subs := subsOK_nil _ _
theorem ref05_Set_L5_ok {R : Type} : LoopOK (R := R) (hnd 0 ref05_Set_subs) ref05_Set_cfg ref05_Set_lp (sub [1, 1, 1, 1, 0, 1, 0, 0] body20) (HS.V ref05_Set_L5_hs) (HS.st ref05_Set_L5_hs) (HS.sh ref05_Set_L5_hs) ref05_Set_L5_l (hdOf ref05_Set_L5_hs ref05_Set_L5_l) := loopOK_of ref05_Set_L5_hs ref05_Set_L5_l (fun _ _ => rfl) (by intro q v K; kernel_rfl)
theorem ref05_Set_LO {R : Type} : LoopsOK (R := R) (hnd 0 ref05_Set_subs) ref05_Set_cfg ref05_Set_lp body20 := loopsOK_of (l := [sub [1, 1, 1, 1, 0, 1, 0, 0] body20]) (by kernel_rfl) (loopsL_cons (b := sub [1, 1, 1, 1, 0, 1, 0, 0] body20) (rid := 5) (by kernel_rfl) (by kernel_rfl) ref05_Set_L5_ok (trivial))
theorem ref05_Set_run : ∀ v, runFn (hnd 0 ref05_Set_subs) ref05_Set_cfg ref05_Set_lp body20 Try.f20.results.toList (HP.st ref05_Set_hp v) (decOf ref05_Set_hx ref05_Set_toY) = ref05_Set_f (ref05_Set_toX v) := by intro v; kernel_rfl
theorem ref05_Set_ok : SpecOK Try.prog 20 ref05_Set_sp := specOK_mk (fn := Try.f20) (by kernel_rfl) (by kernel_rfl) (by kernel_rfl) ref05_Set_C (by kernel_rfl) (by kernel_rfl) mo (by kernel_rfl) (fun _ => rfl) (d := 0) ref05_Set_S ref05_Set_LO ref05_Set_run

noncomputable def ref05_Get_L2_hs : HS := ⟨[(1, .one (.int .i64)), (2, .one (.ptr 0 0)), (4, .one (.ptr 1 0)), (6, .one (.int .i64))], [(0, .cells [.int .i64, .int .i64, .int .i64, .sl .inode]), (1, .cells [.int .i64, .int .i64, .int .i64, .str, .int .i64, .sl .entry])], 2⟩
noncomputable def ref05_Get_L2_l {R : Type} : Nat → HS.V ref05_Get_L2_hs → (Ex → St → Option R) → Option R := fun q v K =>
  ref05_Get_L2 v.1.1 (⟨v.2.1.1, v.2.1.2.1, v.2.1.2.2.1, v.2.1.2.2.2.1⟩ : Fs) (fun y8 => K .ret { regs := [(4, .v (.one (.ptr 1 0))), (5, .v (.one (.bool true)))], mem := [(1, .cells [.int .i64 y8.ino, .int .i64 y8.kind, .int .i64 y8.links, .str y8.data, .int .i64 y8.parent, .sl .entry y8.entries])], nx := 2 }) (K (.exit 0) { regs := [(4, .v (.one (.ptr 1 0)))], mem := [(1, .cells [.int .i64 ((⟨v.2.2.1.1, v.2.2.1.2.1, v.2.2.1.2.2.1, v.2.2.1.2.2.2.1, v.2.2.1.2.2.2.2.1, v.2.2.1.2.2.2.2.2.1⟩ : Inode).ino), .int .i64 ((⟨v.2.2.1.1, v.2.2.1.2.1, v.2.2.1.2.2.1, v.2.2.1.2.2.2.1, v.2.2.1.2.2.2.2.1, v.2.2.1.2.2.2.2.2.1⟩ : Inode).kind), .int .i64 ((⟨v.2.2.1.1, v.2.2.1.2.1, v.2.2.1.2.2.1, v.2.2.1.2.2.2.1, v.2.2.1.2.2.2.2.1, v.2.2.1.2.2.2.2.2.1⟩ : Inode).links), .str ((⟨v.2.2.1.1, v.2.2.1.2.1, v.2.2.1.2.2.1, v.2.2.1.2.2.2.1, v.2.2.1.2.2.2.2.1, v.2.2.1.2.2.2.2.2.1⟩ : Inode).data), .int .i64 ((⟨v.2.2.1.1, v.2.2.1.2.1, v.2.2.1.2.2.1, v.2.2.1.2.2.2.1, v.2.2.1.2.2.2.2.1, v.2.2.1.2.2.2.2.2.1⟩ : Inode).parent), .sl .entry ((⟨v.2.2.1.1, v.2.2.1.2.1, v.2.2.1.2.2.1, v.2.2.1.2.2.2.1, v.2.2.1.2.2.2.2.1, v.2.2.1.2.2.2.2.2.1⟩ : Inode).entries)])], nx := 2 }) q v.1.2.2.2.1
noncomputable def ref05_Get_hp : List HV := [.agg [.int .i64, .int .i64, .int .i64, .sl .inode], .one (.int .i64)]
noncomputable def ref05_Get_hx : List HV := [.agg [.int .i64, .int .i64, .int .i64, .str, .int .i64, .sl .entry], .one (.bool)]
noncomputable def ref05_Get_toX : HP.V ref05_Get_hp → Fs × Int := fun v => ((⟨v.1.1, v.1.2.1, v.1.2.2.1, v.1.2.2.2.1⟩ : Fs), v.2.1)
noncomputable def ref05_Get_toY : HX.V ref05_Get_hx → Inode × Bool := fun v => ((⟨v.1.1, v.1.2.1, v.1.2.2.1, v.1.2.2.2.1, v.1.2.2.2.2.1, v.1.2.2.2.2.2.1⟩ : Inode), v.2)
noncomputable def ref05_Get_ofY : (Inode × Bool) → HX.V ref05_Get_hx := fun y => ((y.1.ino, (y.1.kind, (y.1.links, (y.1.data, (y.1.parent, (y.1.entries, ())))))), y.2)
noncomputable def ref05_Get_f : (Fs × Int) → Option (Inode × Bool) := fun x => ref05_Get x.1 x.2
noncomputable def ref05_Get_sp : Spec := mkSpec ref05_Get_hp ref05_Get_hx ref05_Get_toX ref05_Get_ofY ref05_Get_f
noncomputable def ref05_Get_lp {R : Type} : List (Nat × Hd R) := [(2, hdOf ref05_Get_L2_hs ref05_Get_L2_l)]
noncomputable def ref05_Get_subs {R : Type} : List (Nat × Inl R) := []
noncomputable def ref05_Get_cfg : Cfg := { T := T, spec := [], glob := [], eqs := E, N := 28, fuel := 64, loops := [(2, ⟨[1, 2, 4, 6], [], [0, 1], 2, [], [1]⟩)], joins := [], blocks := [(0, ⟨[4], [], [1], 2, [], []⟩)], ovl := [], retA := some ⟨[4, 5], [], [1], 2, [], [1]⟩ }
theorem ref05_Get_C : CfgOK Try.prog ref05_Get_cfg := ⟨tsOK_of ts, specsL_ok (show SpecsL Try.prog ref05_Get_cfg.spec from trivial), eqs, ovlL_ok (trivial)⟩
theorem ref05_Get_S {R : Type} : SubsOK Try.prog (R := R) 0 ref05_Get_subs := subsOK_nil _ _
theorem ref05_Get_L2_ok {R : Type} : LoopOK (R := R) (hnd 0 ref05_Get_subs) ref05_Get_cfg ref05_Get_lp (sub [1, 0, 1, 0, 0] body19) (HS.V ref05_Get_L2_hs) (HS.st ref05_Get_L2_hs) (HS.sh ref05_Get_L2_hs) ref05_Get_L2_l (hdOf ref05_Get_L2_hs ref05_Get_L2_l) := loopOK_of ref05_Get_L2_hs ref05_Get_L2_l (fun _ _ => rfl) (by intro q v K; kernel_rfl)
theorem ref05_Get_LO {R : Type} : LoopsOK (R := R) (hnd 0 ref05_Get_subs) ref05_Get_cfg ref05_Get_lp body19 := loopsOK_of (l := [sub [1, 0, 1, 0, 0] body19]) (by kernel_rfl) (loopsL_cons (b := sub [1, 0, 1, 0, 0] body19) (rid := 2) (by kernel_rfl) (by kernel_rfl) ref05_Get_L2_ok (trivial))
theorem ref05_Get_run : ∀ v, runFn (hnd 0 ref05_Get_subs) ref05_Get_cfg ref05_Get_lp body19 Try.f19.results.toList (HP.st ref05_Get_hp v) (decOf ref05_Get_hx ref05_Get_toY) = ref05_Get_f (ref05_Get_toX v) := by intro v; kernel_rfl
theorem ref05_Get_ok : SpecOK Try.prog 19 ref05_Get_sp := specOK_mk (fn := Try.f19) (by kernel_rfl) (by kernel_rfl) (by kernel_rfl) ref05_Get_C (by kernel_rfl) (by kernel_rfl) mo (by kernel_rfl) (fun _ => rfl) (d := 0) ref05_Get_S ref05_Get_LO ref05_Get_run

noncomputable def ref05_Few_L8_hs : HS := ⟨[(1, .one (.ptr 0 0)), (3, .one (.int .i64)), (4, .one (.ptr 1 0)), (5, .one (.int .i64))], [(0, .cells [.int .i64, .int .i64, .int .i64, .sl .inode]), (1, .cells [.int .i64, .int .i64, .int .i64, .str, .int .i64, .sl .entry])], 2⟩
noncomputable def ref05_Few_L8_l {R : Type} : Nat → HS.V ref05_Few_L8_hs → (Ex → St → Option R) → Option R := fun q v K =>
  ref05_Few_L8 (⟨v.2.2.1.1, v.2.2.1.2.1, v.2.2.1.2.2.1, v.2.2.1.2.2.2.1, v.2.2.1.2.2.2.2.1, v.2.2.1.2.2.2.2.2.1⟩ : Inode) (K .ret { regs := [(2, .v (.one (.bool false)))], mem := [], nx := 0 }) (K (.exit 2) { regs := [(1, .v (.one (.ptr 0 0))), (3, .v (.one (.int .i64 v.1.2.1)))], mem := [(0, .cells [.int .i64 ((⟨v.2.1.1, v.2.1.2.1, v.2.1.2.2.1, v.2.1.2.2.2.1⟩ : Fs).maxInodes), .int .i64 ((⟨v.2.1.1, v.2.1.2.1, v.2.1.2.2.1, v.2.1.2.2.2.1⟩ : Fs).maxBytes), .int .i64 ((⟨v.2.1.1, v.2.1.2.1, v.2.1.2.2.1, v.2.1.2.2.2.1⟩ : Fs).next), .sl .inode ((⟨v.2.1.1, v.2.1.2.1, v.2.1.2.2.1, v.2.1.2.2.2.1⟩ : Fs).inodes)])], nx := 1 }) q v.1.2.2.2.1
noncomputable def ref05_Few_L2_hs : HS := ⟨[(1, .one (.ptr 0 0)), (3, .one (.int .i64))], [(0, .cells [.int .i64, .int .i64, .int .i64, .sl .inode])], 1⟩
noncomputable def ref05_Few_L2_l {R : Type} : Nat → HS.V ref05_Few_L2_hs → (Ex → St → Option R) → Option R := fun q v K =>
  ref05_Few_L2 (⟨v.2.1.1, v.2.1.2.1, v.2.1.2.2.1, v.2.1.2.2.2.1⟩ : Fs) (K .ret { regs := [(2, .v (.one (.bool false)))], mem := [], nx := 0 }) (K (.exit 0) { regs := [(1, .v (.one (.ptr 0 0)))], mem := [(0, .cells [.int .i64 ((⟨v.2.1.1, v.2.1.2.1, v.2.1.2.2.1, v.2.1.2.2.2.1⟩ : Fs).maxInodes), .int .i64 ((⟨v.2.1.1, v.2.1.2.1, v.2.1.2.2.1, v.2.1.2.2.2.1⟩ : Fs).maxBytes), .int .i64 ((⟨v.2.1.1, v.2.1.2.1, v.2.1.2.2.1, v.2.1.2.2.2.1⟩ : Fs).next), .sl .inode ((⟨v.2.1.1, v.2.1.2.1, v.2.1.2.2.1, v.2.1.2.2.2.1⟩ : Fs).inodes)])], nx := 1 }) q v.1.2.1
noncomputable def ref05_Few_hp : List HV := [.agg [.int .i64, .int .i64, .int .i64, .sl .inode]]
noncomputable def ref05_Few_hx : List HV := [.one (.bool)]
noncomputable def ref05_Few_toX : HP.V ref05_Few_hp → Fs := fun v => ((⟨v.1.1, v.1.2.1, v.1.2.2.1, v.1.2.2.2.1⟩ : Fs))
noncomputable def ref05_Few_toY : HX.V ref05_Few_hx → Bool := fun v => (v)
noncomputable def ref05_Few_ofY : Bool → HX.V ref05_Few_hx := fun y => (y)
noncomputable def ref05_Few_f : Fs → Option (Bool) := fun x => ref05_Few x
noncomputable def ref05_Few_sp : Spec := mkSpec ref05_Few_hp ref05_Few_hx ref05_Few_toX ref05_Few_ofY ref05_Few_f
noncomputable def ref05_Few_lp {R : Type} : List (Nat × Hd R) := [(2, hdOf ref05_Few_L2_hs ref05_Few_L2_l), (8, hdOf ref05_Few_L8_hs ref05_Few_L8_l)]
noncomputable def ref05_Few_subs {R : Type} : List (Nat × Inl R) := []
noncomputable def ref05_Few_cfg : Cfg := { T := T, spec := [], glob := [], eqs := E, N := 51, fuel := 64, loops := [(8, ⟨[1, 3, 4, 5], [], [0, 1], 2, [], []⟩), (2, ⟨[1, 3], [], [0], 1, [], []⟩)], joins := [], blocks := [(0, ⟨[1], [], [0], 1, [], []⟩), (1, ⟨[1, 3], [], [0], 1, [], []⟩), (2, ⟨[1, 3], [], [0], 1, [], []⟩)], ovl := [], retA := some ⟨[2], [], [], 0, [], []⟩ }
theorem ref05_Few_C : CfgOK Try.prog ref05_Few_cfg := ⟨tsOK_of ts, specsL_ok (show SpecsL Try.prog ref05_Few_cfg.spec from trivial), eqs, ovlL_ok (trivial)⟩
theorem ref05_Few_S {R : Type} : SubsOK Try.prog (R := R) 0 ref05_Few_subs := subsOK_nil _ _
theorem ref05_Few_L2_ok {R : Type} : LoopOK (R := R) (hnd 0 ref05_Few_subs) ref05_Few_cfg ref05_Few_lp (sub [1, 0, 1, 0, 0] body12) (HS.V ref05_Few_L2_hs) (HS.st ref05_Few_L2_hs) (HS.sh ref05_Few_L2_hs) ref05_Few_L2_l (hdOf ref05_Few_L2_hs ref05_Few_L2_l) := loopOK_of ref05_Few_L2_hs ref05_Few_L2_l (fun _ _ => rfl) (by intro q v K; kernel_rfl)
theorem ref05_Few_L8_ok {R : Type} : LoopOK (R := R) (hnd 0 ref05_Few_subs) ref05_Few_cfg ref05_Few_lp (sub [1, 0, 1, 0, 0, 1, 0, 0, 1, 1, 1, 0, 0] body12) (HS.V ref05_Few_L8_hs) (HS.st ref05_Few_L8_hs) (HS.sh ref05_Few_L8_hs) ref05_Few_L8_l (hdOf ref05_Few_L8_hs ref05_Few_L8_l) := loopOK_of ref05_Few_L8_hs ref05_Few_L8_l (fun _ _ => rfl) (by intro q v K; kernel_rfl)
theorem ref05_Few_LO {R : Type} : LoopsOK (R := R) (hnd 0 ref05_Few_subs) ref05_Few_cfg ref05_Few_lp body12 := loopsOK_of (l := [sub [1, 0, 1, 0, 0] body12, sub [1, 0, 1, 0, 0, 1, 0, 0, 1, 1, 1, 0, 0] body12]) (by kernel_rfl) (loopsL_cons (b := sub [1, 0, 1, 0, 0] body12) (rid := 2) (by kernel_rfl) (by kernel_rfl) ref05_Few_L2_ok (loopsL_cons (b := sub [1, 0, 1, 0, 0, 1, 0, 0, 1, 1, 1, 0, 0] body12) (rid := 8) (by kernel_rfl) (by kernel_rfl) ref05_Few_L8_ok (trivial)))
theorem ref05_Few_run : ∀ v, runFn (hnd 0 ref05_Few_subs) ref05_Few_cfg ref05_Few_lp body12 Try.f12.results.toList (HP.st ref05_Few_hp v) (decOf ref05_Few_hx ref05_Few_toY) = ref05_Few_f (ref05_Few_toX v) := by intro v; kernel_rfl
theorem ref05_Few_ok : SpecOK Try.prog 12 ref05_Few_sp := specOK_mk (fn := Try.f12) (by kernel_rfl) (by kernel_rfl) (by kernel_rfl) ref05_Few_C (by kernel_rfl) (by kernel_rfl) mo (by kernel_rfl) (fun _ => rfl) (d := 0) ref05_Few_S ref05_Few_LO ref05_Few_run

noncomputable def ref06_Bytes_L3_hs : HS := ⟨[(1, .one (.ptr 0 0)), (3, .one (.int .i64)), (4, .one (.int .i64))], [(0, .cells [.int .i64, .int .i64, .int .i64, .sl .inode])], 1⟩
noncomputable def ref06_Bytes_L3_l {R : Type} : Nat → HS.V ref06_Bytes_L3_hs → (Ex → St → Option R) → Option R := fun q v K =>
  ref06_Bytes_L3 (⟨v.2.1.1, v.2.1.2.1, v.2.1.2.2.1, v.2.1.2.2.2.1⟩ : Fs) (fun y6 => K (.exit 0) { regs := [(3, .v (.one (.int .i64 y6)))], mem := [], nx := 0 }) q v.1.2.1 v.1.2.2.1
noncomputable def ref06_Bytes_hp : List HV := [.agg [.int .i64, .int .i64, .int .i64, .sl .inode]]
noncomputable def ref06_Bytes_hx : List HV := [.one (.int .i64)]
noncomputable def ref06_Bytes_toX : HP.V ref06_Bytes_hp → Fs := fun v => ((⟨v.1.1, v.1.2.1, v.1.2.2.1, v.1.2.2.2.1⟩ : Fs))
noncomputable def ref06_Bytes_toY : HX.V ref06_Bytes_hx → Int := fun v => (v)
noncomputable def ref06_Bytes_ofY : Int → HX.V ref06_Bytes_hx := fun y => (y)
noncomputable def ref06_Bytes_f : Fs → Option (Int) := fun x => ref06_Bytes x
noncomputable def ref06_Bytes_sp : Spec := mkSpec ref06_Bytes_hp ref06_Bytes_hx ref06_Bytes_toX ref06_Bytes_ofY ref06_Bytes_f
noncomputable def ref06_Bytes_lp {R : Type} : List (Nat × Hd R) := [(3, hdOf ref06_Bytes_L3_hs ref06_Bytes_L3_l)]
noncomputable def ref06_Bytes_subs {R : Type} : List (Nat × Inl R) := []
noncomputable def ref06_Bytes_cfg : Cfg := { T := T, spec := [], glob := [], eqs := E, N := 29, fuel := 64, loops := [(3, ⟨[1, 3, 4], [], [0], 1, [], []⟩)], joins := [], blocks := [(0, ⟨[3], [], [], 0, [], []⟩)], ovl := [], retA := none }
theorem ref06_Bytes_C : CfgOK Try.prog ref06_Bytes_cfg := ⟨tsOK_of ts, specsL_ok (show SpecsL Try.prog ref06_Bytes_cfg.spec from trivial), eqs, ovlL_ok (trivial)⟩
theorem ref06_Bytes_S {R : Type} : SubsOK Try.prog (R := R) 0 ref06_Bytes_subs := subsOK_nil _ _
theorem ref06_Bytes_L3_ok {R : Type} : LoopOK (R := R) (hnd 0 ref06_Bytes_subs) ref06_Bytes_cfg ref06_Bytes_lp (sub [1, 1, 0, 1, 0, 0] body16) (HS.V ref06_Bytes_L3_hs) (HS.st ref06_Bytes_L3_hs) (HS.sh ref06_Bytes_L3_hs) ref06_Bytes_L3_l (hdOf ref06_Bytes_L3_hs ref06_Bytes_L3_l) := loopOK_of ref06_Bytes_L3_hs ref06_Bytes_L3_l (fun _ _ => rfl) (by intro q v K; kernel_rfl)
theorem ref06_Bytes_LO {R : Type} : LoopsOK (R := R) (hnd 0 ref06_Bytes_subs) ref06_Bytes_cfg ref06_Bytes_lp body16 := loopsOK_of (l := [sub [1, 1, 0, 1, 0, 0] body16]) (by kernel_rfl) (loopsL_cons (b := sub [1, 1, 0, 1, 0, 0] body16) (rid := 3) (by kernel_rfl) (by kernel_rfl) ref06_Bytes_L3_ok (trivial))
theorem ref06_Bytes_run : ∀ v, runFn (hnd 0 ref06_Bytes_subs) ref06_Bytes_cfg ref06_Bytes_lp body16 Try.f16.results.toList (HP.st ref06_Bytes_hp v) (decOf ref06_Bytes_hx ref06_Bytes_toY) = ref06_Bytes_f (ref06_Bytes_toX v) := by intro v; kernel_rfl
theorem ref06_Bytes_ok : SpecOK Try.prog 16 ref06_Bytes_sp := specOK_mk (fn := Try.f16) (by kernel_rfl) (by kernel_rfl) (by kernel_rfl) ref06_Bytes_C (by kernel_rfl) (by kernel_rfl) mo (by kernel_rfl) (fun _ => rfl) (d := 0) ref06_Bytes_S ref06_Bytes_LO ref06_Bytes_run

noncomputable def ref06_Fits_hp : List HV := [.agg [.int .i64, .int .i64, .int .i64, .sl .inode], .one (.int .i64), .one (.int .i64)]
noncomputable def ref06_Fits_hx : List HV := [.one (.bool)]
noncomputable def ref06_Fits_toX : HP.V ref06_Fits_hp → Fs × Int × Int := fun v => ((⟨v.1.1, v.1.2.1, v.1.2.2.1, v.1.2.2.2.1⟩ : Fs), v.2.1, v.2.2.1)
noncomputable def ref06_Fits_toY : HX.V ref06_Fits_hx → Bool := fun v => (v)
noncomputable def ref06_Fits_ofY : Bool → HX.V ref06_Fits_hx := fun y => (y)
noncomputable def ref06_Fits_f : (Fs × Int × Int) → Option (Bool) := fun x => ref06_Fits x.1 x.2.1 x.2.2
noncomputable def ref06_Fits_sp : Spec := mkSpec ref06_Fits_hp ref06_Fits_hx ref06_Fits_toX ref06_Fits_ofY ref06_Fits_f
noncomputable def ref06_Fits_lp {R : Type} : List (Nat × Hd R) := []
noncomputable def ref06_Fits_subs {R : Type} : List (Nat × Inl R) := []
noncomputable def ref06_Fits_cfg : Cfg := { T := T, spec := [(16, ref06_Bytes_sp)], glob := [], eqs := E, N := 22, fuel := 64, loops := [], joins := [], blocks := [], ovl := [], retA := none }
theorem ref06_Fits_C : CfgOK Try.prog ref06_Fits_cfg := ⟨tsOK_of ts, specsL_ok (show SpecsL Try.prog ref06_Fits_cfg.spec from ⟨ref06_Bytes_ok, trivial⟩), eqs, ovlL_ok (trivial)⟩
theorem ref06_Fits_S {R : Type} : SubsOK Try.prog (R := R) 0 ref06_Fits_subs := subsOK_nil _ _
theorem ref06_Fits_LO {R : Type} : LoopsOK (R := R) (hnd 0 ref06_Fits_subs) ref06_Fits_cfg ref06_Fits_lp body18 := loopsOK_of (l := []) (by kernel_rfl) (trivial)
theorem ref06_Fits_run : ∀ v, runFn (hnd 0 ref06_Fits_subs) ref06_Fits_cfg ref06_Fits_lp body18 Try.f18.results.toList (HP.st ref06_Fits_hp v) (decOf ref06_Fits_hx ref06_Fits_toY) = ref06_Fits_f (ref06_Fits_toX v) := by intro v; kernel_rfl
theorem ref06_Fits_ok : SpecOK Try.prog 18 ref06_Fits_sp := specOK_mk (fn := Try.f18) (by kernel_rfl) (by kernel_rfl) (by kernel_rfl) ref06_Fits_C (by kernel_rfl) (by kernel_rfl) mo (by kernel_rfl) (fun _ => rfl) (d := 0) ref06_Fits_S ref06_Fits_LO ref06_Fits_run

noncomputable def room_Inodes_hp : List HV := [.agg [.int .i64, .int .i64, .int .i64, .sl .inode]]
noncomputable def room_Inodes_hx : List HV := [.one (.int .i64)]
noncomputable def room_Inodes_toX : HP.V room_Inodes_hp → Fs := fun v => ((⟨v.1.1, v.1.2.1, v.1.2.2.1, v.1.2.2.2.1⟩ : Fs))
noncomputable def room_Inodes_toY : HX.V room_Inodes_hx → Int := fun v => (v)
noncomputable def room_Inodes_ofY : Int → HX.V room_Inodes_hx := fun y => (y)
noncomputable def room_Inodes_f : Fs → Option (Int) := fun x => room_Inodes x
noncomputable def room_Inodes_sp : Spec := mkSpec room_Inodes_hp room_Inodes_hx room_Inodes_toX room_Inodes_ofY room_Inodes_f
noncomputable def room_Inodes_lp {R : Type} : List (Nat × Hd R) := []
noncomputable def room_Inodes_subs {R : Type} : List (Nat × Inl R) := []
noncomputable def room_Inodes_cfg : Cfg := { T := T, spec := [], glob := [], eqs := E, N := 6, fuel := 64, loops := [], joins := [], blocks := [], ovl := [], retA := none }
theorem room_Inodes_C : CfgOK Try.prog room_Inodes_cfg := ⟨tsOK_of ts, specsL_ok (show SpecsL Try.prog room_Inodes_cfg.spec from trivial), eqs, ovlL_ok (trivial)⟩
theorem room_Inodes_S {R : Type} : SubsOK Try.prog (R := R) 0 room_Inodes_subs := subsOK_nil _ _
theorem room_Inodes_LO {R : Type} : LoopsOK (R := R) (hnd 0 room_Inodes_subs) room_Inodes_cfg room_Inodes_lp body14 := loopsOK_of (l := []) (by kernel_rfl) (trivial)
theorem room_Inodes_run : ∀ v, runFn (hnd 0 room_Inodes_subs) room_Inodes_cfg room_Inodes_lp body14 Try.f14.results.toList (HP.st room_Inodes_hp v) (decOf room_Inodes_hx room_Inodes_toY) = room_Inodes_f (room_Inodes_toX v) := by intro v; kernel_rfl
theorem room_Inodes_ok : SpecOK Try.prog 14 room_Inodes_sp := specOK_mk (fn := Try.f14) (by kernel_rfl) (by kernel_rfl) (by kernel_rfl) room_Inodes_C (by kernel_rfl) (by kernel_rfl) mo (by kernel_rfl) (fun _ => rfl) (d := 0) room_Inodes_S room_Inodes_LO room_Inodes_run

noncomputable def room_Bytes_L3_hs : HS := ⟨[(1, .one (.ptr 0 0)), (3, .one (.int .i64)), (7, .one (.int .i64)), (8, .one (.int .i64))], [(0, .cells [.int .i64, .int .i64, .int .i64, .sl .inode])], 1⟩
noncomputable def room_Bytes_L3_l {R : Type} : Nat → HS.V room_Bytes_L3_hs → (Ex → St → Option R) → Option R := fun q v K =>
  room_Bytes_L3 v.1.2.2.1 (⟨v.2.1.1, v.2.1.2.1, v.2.1.2.2.1, v.2.1.2.2.2.1⟩ : Fs) (fun y7 => K (.exit 0) { regs := [(3, .v (.one (.int .i64 y7)))], mem := [], nx := 0 }) q v.1.2.1 v.1.2.2.2.1
noncomputable def room_Bytes_hp : List HV := [.agg [.int .i64, .int .i64, .int .i64, .sl .inode]]
noncomputable def room_Bytes_hx : List HV := [.one (.int .i64)]
noncomputable def room_Bytes_toX : HP.V room_Bytes_hp → Fs := fun v => ((⟨v.1.1, v.1.2.1, v.1.2.2.1, v.1.2.2.2.1⟩ : Fs))
noncomputable def room_Bytes_toY : HX.V room_Bytes_hx → Int := fun v => (v)
noncomputable def room_Bytes_ofY : Int → HX.V room_Bytes_hx := fun y => (y)
noncomputable def room_Bytes_f : Fs → Option (Int) := fun x => room_Bytes x
noncomputable def room_Bytes_sp : Spec := mkSpec room_Bytes_hp room_Bytes_hx room_Bytes_toX room_Bytes_ofY room_Bytes_f
noncomputable def room_Bytes_lp {R : Type} : List (Nat × Hd R) := [(3, hdOf room_Bytes_L3_hs room_Bytes_L3_l)]
noncomputable def room_Bytes_subs {R : Type} : List (Nat × Inl R) := []
noncomputable def room_Bytes_cfg : Cfg := { T := T, spec := [], glob := [], eqs := E, N := 29, fuel := 64, loops := [(3, ⟨[1, 3, 7, 8], [], [0], 1, [], []⟩)], joins := [], blocks := [(0, ⟨[3], [], [], 0, [], []⟩)], ovl := [], retA := none }
theorem room_Bytes_C : CfgOK Try.prog room_Bytes_cfg := ⟨tsOK_of ts, specsL_ok (show SpecsL Try.prog room_Bytes_cfg.spec from trivial), eqs, ovlL_ok (trivial)⟩
theorem room_Bytes_S {R : Type} : SubsOK Try.prog (R := R) 0 room_Bytes_subs := subsOK_nil _ _
theorem room_Bytes_L3_ok {R : Type} : LoopOK (R := R) (hnd 0 room_Bytes_subs) room_Bytes_cfg room_Bytes_lp (sub [1, 1, 0, 1, 0, 0] body15) (HS.V room_Bytes_L3_hs) (HS.st room_Bytes_L3_hs) (HS.sh room_Bytes_L3_hs) room_Bytes_L3_l (hdOf room_Bytes_L3_hs room_Bytes_L3_l) := loopOK_of room_Bytes_L3_hs room_Bytes_L3_l (fun _ _ => rfl) (by intro q v K; kernel_rfl)
theorem room_Bytes_LO {R : Type} : LoopsOK (R := R) (hnd 0 room_Bytes_subs) room_Bytes_cfg room_Bytes_lp body15 := loopsOK_of (l := [sub [1, 1, 0, 1, 0, 0] body15]) (by kernel_rfl) (loopsL_cons (b := sub [1, 1, 0, 1, 0, 0] body15) (rid := 3) (by kernel_rfl) (by kernel_rfl) room_Bytes_L3_ok (trivial))
theorem room_Bytes_run : ∀ v, runFn (hnd 0 room_Bytes_subs) room_Bytes_cfg room_Bytes_lp body15 Try.f15.results.toList (HP.st room_Bytes_hp v) (decOf room_Bytes_hx room_Bytes_toY) = room_Bytes_f (room_Bytes_toX v) := by intro v; kernel_rfl
theorem room_Bytes_ok : SpecOK Try.prog 15 room_Bytes_sp := specOK_mk (fn := Try.f15) (by kernel_rfl) (by kernel_rfl) (by kernel_rfl) room_Bytes_C (by kernel_rfl) (by kernel_rfl) mo (by kernel_rfl) (fun _ => rfl) (d := 0) room_Bytes_S room_Bytes_LO room_Bytes_run

noncomputable def room_Fits_hp : List HV := [.agg [.int .i64, .int .i64, .int .i64, .sl .inode], .one (.int .i64), .one (.int .i64)]
noncomputable def room_Fits_hx : List HV := [.one (.bool)]
noncomputable def room_Fits_toX : HP.V room_Fits_hp → Fs × Int × Int := fun v => ((⟨v.1.1, v.1.2.1, v.1.2.2.1, v.1.2.2.2.1⟩ : Fs), v.2.1, v.2.2.1)
noncomputable def room_Fits_toY : HX.V room_Fits_hx → Bool := fun v => (v)
noncomputable def room_Fits_ofY : Bool → HX.V room_Fits_hx := fun y => (y)
noncomputable def room_Fits_f : (Fs × Int × Int) → Option (Bool) := fun x => room_Fits x.1 x.2.1 x.2.2
noncomputable def room_Fits_sp : Spec := mkSpec room_Fits_hp room_Fits_hx room_Fits_toX room_Fits_ofY room_Fits_f
noncomputable def room_Fits_lp {R : Type} : List (Nat × Hd R) := []
noncomputable def room_Fits_subs {R : Type} : List (Nat × Inl R) := []
noncomputable def room_Fits_cfg : Cfg := { T := T, spec := [(14, room_Inodes_sp), (15, room_Bytes_sp)], glob := [], eqs := E, N := 23, fuel := 64, loops := [], joins := [], blocks := [], ovl := [], retA := none }
theorem room_Fits_C : CfgOK Try.prog room_Fits_cfg := ⟨tsOK_of ts, specsL_ok (show SpecsL Try.prog room_Fits_cfg.spec from ⟨room_Inodes_ok, ⟨room_Bytes_ok, trivial⟩⟩), eqs, ovlL_ok (trivial)⟩
theorem room_Fits_S {R : Type} : SubsOK Try.prog (R := R) 0 room_Fits_subs := subsOK_nil _ _
theorem room_Fits_LO {R : Type} : LoopsOK (R := R) (hnd 0 room_Fits_subs) room_Fits_cfg room_Fits_lp body17 := loopsOK_of (l := []) (by kernel_rfl) (trivial)
theorem room_Fits_run : ∀ v, runFn (hnd 0 room_Fits_subs) room_Fits_cfg room_Fits_lp body17 Try.f17.results.toList (HP.st room_Fits_hp v) (decOf room_Fits_hx room_Fits_toY) = room_Fits_f (room_Fits_toX v) := by intro v; kernel_rfl
theorem room_Fits_ok : SpecOK Try.prog 17 room_Fits_sp := specOK_mk (fn := Try.f17) (by kernel_rfl) (by kernel_rfl) (by kernel_rfl) room_Fits_C (by kernel_rfl) (by kernel_rfl) mo (by kernel_rfl) (fun _ => rfl) (d := 0) room_Fits_S room_Fits_LO room_Fits_run

noncomputable def law06_within_hp : List HV := [.one (.int .i64)]
noncomputable def law06_within_hx : List HV := [.one (.bool)]
noncomputable def law06_within_toX : HP.V law06_within_hp → Int := fun v => (v.1)
noncomputable def law06_within_toY : HX.V law06_within_hx → Bool := fun v => (v)
noncomputable def law06_within_ofY : Bool → HX.V law06_within_hx := fun y => (y)
noncomputable def law06_within_f : Int → Option (Bool) := fun x => law06_within x
noncomputable def law06_within_sp : Spec := mkSpec law06_within_hp law06_within_hx law06_within_toX law06_within_ofY law06_within_f
noncomputable def law06_within_lp {R : Type} : List (Nat × Hd R) := []
noncomputable def law06_within_subs {R : Type} : List (Nat × Inl R) := []
noncomputable def law06_within_cfg : Cfg := { T := T, spec := [], glob := [], eqs := E, N := 9, fuel := 64, loops := [], joins := [], blocks := [], ovl := [], retA := none }
theorem law06_within_C : CfgOK Try.prog law06_within_cfg := ⟨tsOK_of ts, specsL_ok (show SpecsL Try.prog law06_within_cfg.spec from trivial), eqs, ovlL_ok (trivial)⟩
theorem law06_within_S {R : Type} : SubsOK Try.prog (R := R) 0 law06_within_subs := subsOK_nil _ _
theorem law06_within_LO {R : Type} : LoopsOK (R := R) (hnd 0 law06_within_subs) law06_within_cfg law06_within_lp body13 := loopsOK_of (l := []) (by kernel_rfl) (trivial)
theorem law06_within_run : ∀ v, runFn (hnd 0 law06_within_subs) law06_within_cfg law06_within_lp body13 Try.f13.results.toList (HP.st law06_within_hp v) (decOf law06_within_hx law06_within_toY) = law06_within_f (law06_within_toX v) := by intro v; kernel_rfl
theorem law06_within_ok : SpecOK Try.prog 13 law06_within_sp := specOK_mk (fn := Try.f13) (by kernel_rfl) (by kernel_rfl) (by kernel_rfl) law06_within_C (by kernel_rfl) (by kernel_rfl) mo (by kernel_rfl) (fun _ => rfl) (d := 0) law06_within_S law06_within_LO law06_within_run

noncomputable def law06_awake_hp : List HV := []
noncomputable def law06_awake_hx : List HV := [.one (.bool)]
noncomputable def law06_awake_toX : HP.V law06_awake_hp → Unit := fun v => ()
noncomputable def law06_awake_toY : HX.V law06_awake_hx → Bool := fun v => (v)
noncomputable def law06_awake_ofY : Bool → HX.V law06_awake_hx := fun y => (y)
noncomputable def law06_awake_f : Unit → Option (Bool) := fun x => law06_awake
noncomputable def law06_awake_sp : Spec := mkSpec law06_awake_hp law06_awake_hx law06_awake_toX law06_awake_ofY law06_awake_f
noncomputable def law06_awake_lp {R : Type} : List (Nat × Hd R) := []
noncomputable def law06_awake_subs {R : Type} : List (Nat × Inl R) := []
noncomputable def law06_awake_cfg : Cfg := { T := T, spec := [(14, room_Inodes_sp), (15, room_Bytes_sp), (17, room_Fits_sp), (20, ref05_Set_sp), (34, ref05_New_sp)], glob := [], eqs := E, N := 39, fuel := 64, loops := [], joins := [], blocks := [], ovl := [], retA := none }
theorem law06_awake_C : CfgOK Try.prog law06_awake_cfg := ⟨tsOK_of ts, specsL_ok (show SpecsL Try.prog law06_awake_cfg.spec from ⟨room_Inodes_ok, ⟨room_Bytes_ok, ⟨room_Fits_ok, ⟨ref05_Set_ok, ⟨ref05_New_ok, trivial⟩⟩⟩⟩⟩), eqs, ovlL_ok (trivial)⟩
theorem law06_awake_S {R : Type} : SubsOK Try.prog (R := R) 0 law06_awake_subs := subsOK_nil _ _
theorem law06_awake_LO {R : Type} : LoopsOK (R := R) (hnd 0 law06_awake_subs) law06_awake_cfg law06_awake_lp body11 := loopsOK_of (l := []) (by kernel_rfl) (trivial)
theorem law06_awake_run : ∀ v, runFn (hnd 0 law06_awake_subs) law06_awake_cfg law06_awake_lp body11 Try.f11.results.toList (HP.st law06_awake_hp v) (decOf law06_awake_hx law06_awake_toY) = law06_awake_f (law06_awake_toX v) := by intro v; kernel_rfl
theorem law06_awake_ok : SpecOK Try.prog 11 law06_awake_sp := specOK_mk (fn := Try.f11) (by kernel_rfl) (by kernel_rfl) (by kernel_rfl) law06_awake_C (by kernel_rfl) (by kernel_rfl) mo (by kernel_rfl) (fun _ => rfl) (d := 0) law06_awake_S law06_awake_LO law06_awake_run

noncomputable def law06_RoomCounts_hp : List HV := [.agg [.int .i64, .int .i64, .int .i64, .sl .inode], .one (.int .i64), .one (.int .i64)]
noncomputable def law06_RoomCounts_hx : List HV := [.one (.bool)]
noncomputable def law06_RoomCounts_toX : HP.V law06_RoomCounts_hp → Fs × Int × Int := fun v => ((⟨v.1.1, v.1.2.1, v.1.2.2.1, v.1.2.2.2.1⟩ : Fs), v.2.1, v.2.2.1)
noncomputable def law06_RoomCounts_toY : HX.V law06_RoomCounts_hx → Bool := fun v => (v)
noncomputable def law06_RoomCounts_ofY : Bool → HX.V law06_RoomCounts_hx := fun y => (y)
noncomputable def law06_RoomCounts_f : (Fs × Int × Int) → Option (Bool) := fun x => law06_RoomCounts x.1 x.2.1 x.2.2
noncomputable def law06_RoomCounts_sp : Spec := mkSpec law06_RoomCounts_hp law06_RoomCounts_hx law06_RoomCounts_toX law06_RoomCounts_ofY law06_RoomCounts_f
noncomputable def law06_RoomCounts_lp {R : Type} : List (Nat × Hd R) := []
noncomputable def law06_RoomCounts_subs {R : Type} : List (Nat × Inl R) := []
noncomputable def law06_RoomCounts_cfg : Cfg := { T := T, spec := [(11, law06_awake_sp), (12, ref05_Few_sp), (13, law06_within_sp), (14, room_Inodes_sp), (15, room_Bytes_sp), (16, ref06_Bytes_sp), (17, room_Fits_sp), (18, ref06_Fits_sp)], glob := [], eqs := E, N := 49, fuel := 64, loops := [], joins := [], blocks := [], ovl := [], retA := none }
theorem law06_RoomCounts_C : CfgOK Try.prog law06_RoomCounts_cfg := ⟨tsOK_of ts, specsL_ok (show SpecsL Try.prog law06_RoomCounts_cfg.spec from ⟨law06_awake_ok, ⟨ref05_Few_ok, ⟨law06_within_ok, ⟨room_Inodes_ok, ⟨room_Bytes_ok, ⟨ref06_Bytes_ok, ⟨room_Fits_ok, ⟨ref06_Fits_ok, trivial⟩⟩⟩⟩⟩⟩⟩⟩), eqs, ovlL_ok (trivial)⟩
theorem law06_RoomCounts_S {R : Type} : SubsOK Try.prog (R := R) 0 law06_RoomCounts_subs := subsOK_nil _ _
theorem law06_RoomCounts_LO {R : Type} : LoopsOK (R := R) (hnd 0 law06_RoomCounts_subs) law06_RoomCounts_cfg law06_RoomCounts_lp body3 := loopsOK_of (l := []) (by kernel_rfl) (trivial)
theorem law06_RoomCounts_run : ∀ v, runFn (hnd 0 law06_RoomCounts_subs) law06_RoomCounts_cfg law06_RoomCounts_lp body3 Try.f3.results.toList (HP.st law06_RoomCounts_hp v) (decOf law06_RoomCounts_hx law06_RoomCounts_toY) = law06_RoomCounts_f (law06_RoomCounts_toX v) := by intro v; kernel_rfl
theorem law06_RoomCounts_ok : SpecOK Try.prog 3 law06_RoomCounts_sp := specOK_mk (fn := Try.f3) (by kernel_rfl) (by kernel_rfl) (by kernel_rfl) law06_RoomCounts_C (by kernel_rfl) (by kernel_rfl) mo (by kernel_rfl) (fun _ => rfl) (d := 0) law06_RoomCounts_S law06_RoomCounts_LO law06_RoomCounts_run

noncomputable def law06_RoomMore_hp : List HV := [.agg [.int .i64, .int .i64, .int .i64, .sl .inode], .agg [.int .i64, .int .i64, .int .i64, .str, .int .i64, .sl .entry], .one (.int .u8), .one (.int .u8)]
noncomputable def law06_RoomMore_hx : List HV := [.one (.bool)]
noncomputable def law06_RoomMore_toX : HP.V law06_RoomMore_hp → Fs × Inode × Int × Int := fun v => ((⟨v.1.1, v.1.2.1, v.1.2.2.1, v.1.2.2.2.1⟩ : Fs), (⟨v.2.1.1, v.2.1.2.1, v.2.1.2.2.1, v.2.1.2.2.2.1, v.2.1.2.2.2.2.1, v.2.1.2.2.2.2.2.1⟩ : Inode), v.2.2.1, v.2.2.2.1)
noncomputable def law06_RoomMore_toY : HX.V law06_RoomMore_hx → Bool := fun v => (v)
noncomputable def law06_RoomMore_ofY : Bool → HX.V law06_RoomMore_hx := fun y => (y)
noncomputable def law06_RoomMore_f : (Fs × Inode × Int × Int) → Option (Bool) := fun x => law06_RoomMore x.1 x.2.1 x.2.2.1 x.2.2.2
noncomputable def law06_RoomMore_sp : Spec := mkSpec law06_RoomMore_hp law06_RoomMore_hx law06_RoomMore_toX law06_RoomMore_ofY law06_RoomMore_f
noncomputable def law06_RoomMore_lp {R : Type} : List (Nat × Hd R) := []
noncomputable def law06_RoomMore_subs {R : Type} : List (Nat × Inl R) := []
noncomputable def law06_RoomMore_cfg : Cfg := { T := T, spec := [(11, law06_awake_sp), (12, ref05_Few_sp), (14, room_Inodes_sp), (15, room_Bytes_sp), (17, room_Fits_sp), (19, ref05_Get_sp), (20, ref05_Set_sp)], glob := [], eqs := E, N := 91, fuel := 64, loops := [], joins := [], blocks := [], ovl := [], retA := none }
theorem law06_RoomMore_C : CfgOK Try.prog law06_RoomMore_cfg := ⟨tsOK_of ts, specsL_ok (show SpecsL Try.prog law06_RoomMore_cfg.spec from ⟨law06_awake_ok, ⟨ref05_Few_ok, ⟨room_Inodes_ok, ⟨room_Bytes_ok, ⟨room_Fits_ok, ⟨ref05_Get_ok, ⟨ref05_Set_ok, trivial⟩⟩⟩⟩⟩⟩⟩), eqs, ovlL_ok (trivial)⟩
theorem law06_RoomMore_S {R : Type} : SubsOK Try.prog (R := R) 0 law06_RoomMore_subs := subsOK_nil _ _
theorem law06_RoomMore_LO {R : Type} : LoopsOK (R := R) (hnd 0 law06_RoomMore_subs) law06_RoomMore_cfg law06_RoomMore_lp body4 := loopsOK_of (l := []) (by kernel_rfl) (trivial)
theorem law06_RoomMore_run : ∀ v, runFn (hnd 0 law06_RoomMore_subs) law06_RoomMore_cfg law06_RoomMore_lp body4 Try.f4.results.toList (HP.st law06_RoomMore_hp v) (decOf law06_RoomMore_hx law06_RoomMore_toY) = law06_RoomMore_f (law06_RoomMore_toX v) := by intro v; kernel_rfl
theorem law06_RoomMore_ok : SpecOK Try.prog 4 law06_RoomMore_sp := specOK_mk (fn := Try.f4) (by kernel_rfl) (by kernel_rfl) (by kernel_rfl) law06_RoomMore_C (by kernel_rfl) (by kernel_rfl) mo (by kernel_rfl) (fun _ => rfl) (d := 0) law06_RoomMore_S law06_RoomMore_LO law06_RoomMore_run

noncomputable def law06_RoomFiles_L7_hs : HS := ⟨[(1, .one (.int .u8)), (5, .one (.ptr 1 0)), (6, .one (.int .i64)), (7, .one (.int .i64))], [(1, .cells [.int .i64, .int .i64, .int .i64, .own 2]), (2, .row .inode)], 3⟩
noncomputable def law06_RoomFiles_L7_l {R : Type} : Nat → HS.V law06_RoomFiles_L7_hs → (Ex → St → Option R) → Option R := fun q v K =>
  law06_RoomFiles_L7 v.1.1 (fun y18 y22 => K (.exit 0) { regs := [(5, .v (.one (.ptr 1 0))), (6, .v (.one (.int .i64 y18)))], mem := [(1, .cells [.int .i64 v.2.1.1, .int .i64 v.2.1.2.1, .int .i64 v.2.1.2.2.1, .own 2]), (2, .row .inode y22)], nx := 3 }) q v.1.2.2.1 v.1.2.2.2.1 v.2.2.1
noncomputable def law06_RoomFiles_hp : List HV := [.agg [.int .i64, .int .i64, .int .i64, .sl .inode], .one (.int .u8)]
noncomputable def law06_RoomFiles_hx : List HV := [.one (.bool)]
noncomputable def law06_RoomFiles_toX : HP.V law06_RoomFiles_hp → Fs × Int := fun v => ((⟨v.1.1, v.1.2.1, v.1.2.2.1, v.1.2.2.2.1⟩ : Fs), v.2.1)
noncomputable def law06_RoomFiles_toY : HX.V law06_RoomFiles_hx → Bool := fun v => (v)
noncomputable def law06_RoomFiles_ofY : Bool → HX.V law06_RoomFiles_hx := fun y => (y)
noncomputable def law06_RoomFiles_f : (Fs × Int) → Option (Bool) := fun x => law06_RoomFiles x.1 x.2
noncomputable def law06_RoomFiles_sp : Spec := mkSpec law06_RoomFiles_hp law06_RoomFiles_hx law06_RoomFiles_toX law06_RoomFiles_ofY law06_RoomFiles_f
noncomputable def law06_RoomFiles_lp {R : Type} : List (Nat × Hd R) := [(7, hdOf law06_RoomFiles_L7_hs law06_RoomFiles_L7_l)]
noncomputable def law06_RoomFiles_subs {R : Type} : List (Nat × Inl R) := []
noncomputable def law06_RoomFiles_cfg : Cfg := { T := T, spec := [(11, law06_awake_sp), (12, ref05_Few_sp), (15, room_Bytes_sp)], glob := [], eqs := E, N := 69, fuel := 64, loops := [(7, ⟨[1, 5, 6, 7], [], [1, 2], 3, [], []⟩)], joins := [], blocks := [(0, ⟨[5, 6], [], [1, 2], 3, [], []⟩)], ovl := [], retA := none }
theorem law06_RoomFiles_C : CfgOK Try.prog law06_RoomFiles_cfg := ⟨tsOK_of ts, specsL_ok (show SpecsL Try.prog law06_RoomFiles_cfg.spec from ⟨law06_awake_ok, ⟨ref05_Few_ok, ⟨room_Bytes_ok, trivial⟩⟩⟩), eqs, ovlL_ok (trivial)⟩
theorem law06_RoomFiles_S {R : Type} : SubsOK Try.prog (R := R) 0 law06_RoomFiles_subs := subsOK_nil _ _
theorem law06_RoomFiles_L7_ok {R : Type} : LoopOK (R := R) (hnd 0 law06_RoomFiles_subs) law06_RoomFiles_cfg law06_RoomFiles_lp (sub [1, 1, 1, 1, 1, 0, 1, 0, 0] body5) (HS.V law06_RoomFiles_L7_hs) (HS.st law06_RoomFiles_L7_hs) (HS.sh law06_RoomFiles_L7_hs) law06_RoomFiles_L7_l (hdOf law06_RoomFiles_L7_hs law06_RoomFiles_L7_l) := loopOK_of law06_RoomFiles_L7_hs law06_RoomFiles_L7_l (fun _ _ => rfl) (by intro q v K; kernel_rfl)
theorem law06_RoomFiles_LO {R : Type} : LoopsOK (R := R) (hnd 0 law06_RoomFiles_subs) law06_RoomFiles_cfg law06_RoomFiles_lp body5 := loopsOK_of (l := [sub [1, 1, 1, 1, 1, 0, 1, 0, 0] body5]) (by kernel_rfl) (loopsL_cons (b := sub [1, 1, 1, 1, 1, 0, 1, 0, 0] body5) (rid := 7) (by kernel_rfl) (by kernel_rfl) law06_RoomFiles_L7_ok (trivial))
theorem law06_RoomFiles_run : ∀ v, runFn (hnd 0 law06_RoomFiles_subs) law06_RoomFiles_cfg law06_RoomFiles_lp body5 Try.f5.results.toList (HP.st law06_RoomFiles_hp v) (decOf law06_RoomFiles_hx law06_RoomFiles_toY) = law06_RoomFiles_f (law06_RoomFiles_toX v) := by intro v; kernel_rfl
theorem law06_RoomFiles_ok : SpecOK Try.prog 5 law06_RoomFiles_sp := specOK_mk (fn := Try.f5) (by kernel_rfl) (by kernel_rfl) (by kernel_rfl) law06_RoomFiles_C (by kernel_rfl) (by kernel_rfl) mo (by kernel_rfl) (fun _ => rfl) (d := 0) law06_RoomFiles_S law06_RoomFiles_LO law06_RoomFiles_run
end Go.Eng
