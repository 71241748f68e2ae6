/- A part of the proofs of the laws of this seat: the engine that reads the program's code, plain functions, or facts of the program's functions. Conditions: none. -/
import Derived.Test.YtopfnnikfjbofaaGreatDoorF1
import Derived.Test.YtopfnnikfjbofaaGreatDoorP1
import Derived.Test.YtopfnnikfjbofaaGreatDoorF2
import Derived.Test.YtopfnnikfjbofaaGreatDoorP3
set_option linter.unusedSectionVars false
set_option linter.unusedVariables false
set_option linter.unusedSimpArgs false
set_option linter.unnecessarySimpa false
set_option linter.unusedVariables false
set_option maxRecDepth 100000
namespace Go.Eng
open Go Go.Proofs
noncomputable def qbpy : List (Nat × TI) := [(3, ⟨false, 1, .one (.int .i64 0), .int .i64⟩), (5, ⟨false, 1, .one (.int .u8 0), .int .u8⟩), (9, ⟨false, 1, .one (.str []), .str⟩), (24, ⟨true, 4, .agg [.int .i64 0, .int .i64 0, .int .i64 0, .clip .inode []], .struct [(0, 3), (1, 3), (2, 3), (3, 22)]⟩), (28, ⟨false, 1, .one (.clip .seen []), .slice .seen 31⟩), (31, ⟨true, 2, .agg [.str [], .int .i64 0], .struct [(0, 9), (1, 3)]⟩), (32, ⟨false, 1, .one (.clip .entry []), .slice .entry 90⟩), (34, ⟨true, 6, .agg [.int .i64 0, .int .i64 0, .int .i64 0, .str [], .int .i64 0, .clip .entry []], .struct [(0, 3), (1, 3), (2, 3), (3, 9), (4, 3), (5, 32)]⟩), (38, ⟨true, 3, .agg [.int .i64 0, .str [], .int .i64 0], .struct [(0, 3), (1, 9), (2, 3)]⟩), (90, ⟨true, 2, .agg [.str [], .int .i64 0], .struct [(0, 9), (1, 3)]⟩)]
noncomputable def qbpz : List (Nat × List EK) := [(38, [.i, .s, .i])]
theorem qbp0 : Tryz.prog.follows .mixedOrders = true := by kernel_rfl
theorem qbp1 : (qbpy.all fun x => tiB Tryz.prog x.1 x.2) = true := by kernel_rfl
theorem qbp2 {c : Cfg} (h : c.eqs = qbpz := by rfl) : EqsOK Tryz.prog c := eqsOK_of (by rw [h]; kernel_rfl)
noncomputable def qbp3 : Code := match Tryz.f3.body with | some b => b | none => .skip
noncomputable def qbp4 : Code := match Tryz.f12.body with | some b => b | none => .skip
noncomputable def qbp5 : Code := match Tryz.f45.body with | some b => b | none => .skip
noncomputable def qbp6 : List HV := []
noncomputable def qbp7 : List HV := [.agg [.int .i64, .int .i64, .int .i64, .sl .inode]]
noncomputable def qbp8 : HP.V qbp6 → Unit := fun v => ()
noncomputable def qbp9 : HX.V qbp7 → Fs := fun v => ((⟨v.1, v.2.1, v.2.2.1, v.2.2.2.1⟩ : Fs))
noncomputable def qbqa : Fs → HX.V qbp7 := fun y => ((y.maxInodes, (y.maxBytes, (y.next, (y.inodes, ())))))
noncomputable def qbqb : Unit → Option (Fs) := fun x => law10_small
noncomputable def qbqc : Spec := mkSpec qbp6 qbp7 qbp8 qbqa qbqb
noncomputable def qbqd {R : Type} : List (Nat × Hd R) := []
noncomputable def qbqe {R : Type} : List (Nat × Inl R) := []
noncomputable def qbqf : Cfg := { T := qbpy, spec := [(53, qaf4), (54, qag5)], glob := GlobL.G Tryz.prog, eqs := qbpz, N := 21, fuel := 64, loops := [], joins := [], blocks := [], ovl := [], retA := none, fid := 45, rnd := false, saves := [] }
theorem qbqg : CfgOK Tryz.prog qbqf := ⟨tsOK_of qbp1, specsL_ok (show SpecsL Tryz.prog qbqf.spec from ⟨qagd, ⟨qahf, trivial⟩⟩), qbp2, ovlL_ok (trivial), globsOK_of rfl, freshL_ok (show FreshL Tryz.prog qbqf.fresh from trivial), specsL_ok (show SpecsL Tryz.prog qbqf.gns from trivial)⟩
theorem qbqh {R : Type} : SubsOK Tryz.prog (R := R) 0 qbqe := subsOK_nil _ _
theorem qbqi {R : Type} : LoopsOK (R := R) (hnd 0 qbqe) qbqf qbqd qbp5 := loopsOK_of (l := []) (by kernel_rfl) (trivial)
theorem qbqj : RngsOK Tryz.prog qbqf qbp5 := rngs0 (by kernel_rfl)
theorem qbqk : ∀ v, runFn (hnd 0 qbqe) qbqf qbqd qbp5 Tryz.f45.results.toList (HP.st qbp6 v) (decOf qbp7 qbp9) = qbqb (qbp8 v) := by intro v; kernel_rfl
theorem qbql : SpecOK Tryz.prog 45 qbqc := specOK_mk (fn := Tryz.f45) (by kernel_rfl) (by kernel_rfl) (by kernel_rfl) qbqg (by kernel_rfl) (by kernel_rfl) qbp0 (by kernel_rfl) (fun _ => rfl) (d := 0) qbqh qbqi qbqj qbqk
noncomputable def qbqm : List HV := []
noncomputable def qbqn : List HV := [.one (.bool)]
noncomputable def qbqo : HP.V qbqm → Unit := fun v => ()
noncomputable def qbqp : HX.V qbqn → Bool := fun v => (v)
noncomputable def qbqq : Bool → HX.V qbqn := fun y => (y)
noncomputable def qbqr : Unit → Option (Bool) := fun x => law10_awake
noncomputable def qbqs : Spec := mkSpec qbqm qbqn qbqo qbqq qbqr
noncomputable def qbqt {R : Type} : List (Nat × Hd R) := []
noncomputable def qbqu {R : Type} : List (Nat × Inl R) := []
noncomputable def qbqv : Cfg := { T := qbpy, spec := [(17, qbob), (45, qbqc), (46, qbnt), (47, qbpo)], glob := GlobL.G Tryz.prog, eqs := qbpz, N := 111, fuel := 64, loops := [], joins := [], blocks := [], ovl := [], retA := none, fid := 12, rnd := false, saves := [] }
theorem qbqw : CfgOK Tryz.prog qbqv := ⟨tsOK_of qbp1, specsL_ok (show SpecsL Tryz.prog qbqv.spec from ⟨qbph, ⟨qbql, ⟨qbn2, ⟨qbpx, trivial⟩⟩⟩⟩), qbp2, ovlL_ok (trivial), globsOK_of rfl, freshL_ok (show FreshL Tryz.prog qbqv.fresh from trivial), specsL_ok (show SpecsL Tryz.prog qbqv.gns from trivial)⟩
theorem qbqx {R : Type} : SubsOK Tryz.prog (R := R) 0 qbqu := subsOK_nil _ _
theorem qbqy {R : Type} : LoopsOK (R := R) (hnd 0 qbqu) qbqv qbqt qbp4 := loopsOK_of (l := []) (by kernel_rfl) (trivial)
theorem qbqz : RngsOK Tryz.prog qbqv qbp4 := rngs0 (by kernel_rfl)
theorem qbq0 : ∀ v, runFn (hnd 0 qbqu) qbqv qbqt qbp4 Tryz.f12.results.toList (HP.st qbqm v) (decOf qbqn qbqp) = qbqr (qbqo v) := by intro v; kernel_rfl
theorem qbq1 : SpecOK Tryz.prog 12 qbqs := specOK_mk (fn := Tryz.f12) (by kernel_rfl) (by kernel_rfl) (by kernel_rfl) qbqw (by kernel_rfl) (by kernel_rfl) qbp0 (by kernel_rfl) (fun _ => rfl) (d := 0) qbqx qbqy qbqz qbq0
noncomputable def qbq2 : List HV := [.agg [.int .i64, .int .i64, .int .i64, .sl .inode], .one (.str), .one (.int .u8), .one (.str)]
noncomputable def qbq3 : List HV := [.one (.bool)]
noncomputable def qbq4 : HP.V qbq2 → Fs × Str × Int × Str := fun v => ((⟨v.1.1, v.1.2.1, v.1.2.2.1, v.1.2.2.2.1⟩ : Fs), v.2.1, v.2.2.1, v.2.2.2.1)
noncomputable def qbq5 : HX.V qbq3 → Bool := fun v => (v)
noncomputable def qbq6 : Bool → HX.V qbq3 := fun y => (y)
noncomputable def qbq7 : (Fs × Str × Int × Str) → Option (Bool) := fun x => law10_SeekPlain x.1 x.2.1 x.2.2.1 x.2.2.2
noncomputable def qbq8 : Spec := mkSpec qbq2 qbq3 qbq4 qbq6 qbq7
noncomputable def qbq9 {R : Type} : List (Nat × Hd R) := []
noncomputable def qbra {R : Type} : List (Nat × Inl R) := []
noncomputable def qbrb : Cfg := { T := qbpy, spec := [(12, qbqs), (13, qap9), (14, qaur), (15, qarz), (16, qas7), (17, qbob), (18, qasq), (19, qaar)], glob := GlobL.G Tryz.prog, eqs := qbpz, N := 114, fuel := 64, loops := [], joins := [], blocks := [], ovl := [], retA := none, fid := 3, rnd := false, saves := [] }
theorem qbrc : CfgOK Tryz.prog qbrb := ⟨tsOK_of qbp1, specsL_ok (show SpecsL Tryz.prog qbrb.spec from ⟨qbq1, ⟨qaqi, ⟨qau1, ⟨qar8, ⟨qatg, ⟨qbph, ⟨qas0, ⟨qaa1, trivial⟩⟩⟩⟩⟩⟩⟩⟩), qbp2, ovlL_ok (trivial), globsOK_of rfl, freshL_ok (show FreshL Tryz.prog qbrb.fresh from trivial), specsL_ok (show SpecsL Tryz.prog qbrb.gns from trivial)⟩
theorem qbrd {R : Type} : SubsOK Tryz.prog (R := R) 0 qbra := subsOK_nil _ _
theorem qbre {R : Type} : LoopsOK (R := R) (hnd 0 qbra) qbrb qbq9 qbp3 := loopsOK_of (l := []) (by kernel_rfl) (trivial)
theorem qbrf : RngsOK Tryz.prog qbrb qbp3 := rngs0 (by kernel_rfl)
theorem qbrg : ∀ v, runFn (hnd 0 qbra) qbrb qbq9 qbp3 Tryz.f3.results.toList (HP.st qbq2 v) (decOf qbq3 qbq5) = qbq7 (qbq4 v) := by intro v; kernel_rfl
theorem qbrh : SpecOK Tryz.prog 3 qbq8 := specOK_mk (fn := Tryz.f3) (by kernel_rfl) (by kernel_rfl) (by kernel_rfl) qbrc (by kernel_rfl) (by kernel_rfl) qbp0 (by kernel_rfl) (fun _ => rfl) (d := 0) qbrd qbre qbrf qbrg
end Go.Eng
set_option linter.unusedVariables false
set_option maxRecDepth 100000
namespace Go.Eng
open Go Go.Proofs
noncomputable def qbri : List (Nat × TI) := [(3, ⟨false, 1, .one (.int .i64 0), .int .i64⟩), (9, ⟨false, 1, .one (.str []), .str⟩), (24, ⟨true, 4, .agg [.int .i64 0, .int .i64 0, .int .i64 0, .clip .inode []], .struct [(0, 3), (1, 3), (2, 3), (3, 22)]⟩), (28, ⟨false, 1, .one (.clip .seen []), .slice .seen 31⟩), (31, ⟨true, 2, .agg [.str [], .int .i64 0], .struct [(0, 9), (1, 3)]⟩), (32, ⟨false, 1, .one (.clip .entry []), .slice .entry 90⟩), (34, ⟨true, 6, .agg [.int .i64 0, .int .i64 0, .int .i64 0, .str [], .int .i64 0, .clip .entry []], .struct [(0, 3), (1, 3), (2, 3), (3, 9), (4, 3), (5, 32)]⟩), (38, ⟨true, 3, .agg [.int .i64 0, .str [], .int .i64 0], .struct [(0, 3), (1, 9), (2, 3)]⟩), (90, ⟨true, 2, .agg [.str [], .int .i64 0], .struct [(0, 9), (1, 3)]⟩)]
noncomputable def qbrj : List (Nat × List EK) := [(38, [.i, .s, .i])]
theorem qbrk : Tryz.prog.follows .mixedOrders = true := by kernel_rfl
theorem qbrl : (qbri.all fun x => tiB Tryz.prog x.1 x.2) = true := by kernel_rfl
theorem qbrm {c : Cfg} (h : c.eqs = qbrj := by rfl) : EqsOK Tryz.prog c := eqsOK_of (by rw [h]; kernel_rfl)
noncomputable def qbrn : Code := match Tryz.f4.body with | some b => b | none => .skip
noncomputable def qbro : Code := match Tryz.f5.body with | some b => b | none => .skip
noncomputable def qbrp : Code := match Tryz.f6.body with | some b => b | none => .skip
noncomputable def qbrq : Code := match Tryz.f20.body with | some b => b | none => .skip
noncomputable def qbrr : List HV := []
noncomputable def qbrs : List HV := [.one (.bool)]
noncomputable def qbrt : HP.V qbrr → Unit := fun v => ()
noncomputable def qbru : HX.V qbrs → Bool := fun v => (v)
noncomputable def qbrv : Bool → HX.V qbrs := fun y => (y)
noncomputable def qbrw : Unit → Option (Bool) := fun x => law09_awake
noncomputable def qbrx : Spec := mkSpec qbrr qbrs qbrt qbrv qbrw
noncomputable def qbry {R : Type} : List (Nat × Hd R) := []
noncomputable def qbrz {R : Type} : List (Nat × Inl R) := []
noncomputable def qbr0 : Cfg := { T := qbri, spec := [(21, qbjz), (22, qbkg), (24, qaj9), (25, qbkw), (27, qbls), (29, qaho), (53, qaf4), (54, qag5)], glob := GlobL.G Tryz.prog, eqs := qbrj, N := 113, fuel := 64, loops := [], joins := [], blocks := [], ovl := [], retA := none, fid := 20, rnd := false, saves := [] }
theorem qbr1 : CfgOK Tryz.prog qbr0 := ⟨tsOK_of qbrl, specsL_ok (show SpecsL Tryz.prog qbr0.spec from ⟨qbj9, ⟨qbkp, ⟨qaki, ⟨qbll, ⟨qbl9, ⟨qahy, ⟨qagd, ⟨qahf, trivial⟩⟩⟩⟩⟩⟩⟩⟩), qbrm, ovlL_ok (trivial), globsOK_of rfl, freshL_ok (show FreshL Tryz.prog qbr0.fresh from trivial), specsL_ok (show SpecsL Tryz.prog qbr0.gns from trivial)⟩
theorem qbr2 {R : Type} : SubsOK Tryz.prog (R := R) 0 qbrz := subsOK_nil _ _
theorem qbr3 {R : Type} : LoopsOK (R := R) (hnd 0 qbrz) qbr0 qbry qbrq := loopsOK_of (l := []) (by kernel_rfl) (trivial)
theorem qbr4 : RngsOK Tryz.prog qbr0 qbrq := rngs0 (by kernel_rfl)
theorem qbr5 : ∀ v, runFn (hnd 0 qbrz) qbr0 qbry qbrq Tryz.f20.results.toList (HP.st qbrr v) (decOf qbrs qbru) = qbrw (qbrt v) := by intro v; kernel_rfl
theorem qbr6 : SpecOK Tryz.prog 20 qbrx := specOK_mk (fn := Tryz.f20) (by kernel_rfl) (by kernel_rfl) (by kernel_rfl) qbr1 (by kernel_rfl) (by kernel_rfl) qbrk (by kernel_rfl) (fun _ => rfl) (d := 0) qbr2 qbr3 qbr4 qbr5
noncomputable def qbr7 : List HV := [.agg [.int .i64, .int .i64, .int .i64, .sl .inode], .one (.str)]
noncomputable def qbr8 : List HV := [.one (.bool)]
noncomputable def qbr9 : HP.V qbr7 → Fs × Str := fun v => ((⟨v.1.1, v.1.2.1, v.1.2.2.1, v.1.2.2.2.1⟩ : Fs), v.2.1)
noncomputable def qbsa : HX.V qbr8 → Bool := fun v => (v)
noncomputable def qbsb : Bool → HX.V qbr8 := fun y => (y)
noncomputable def qbsc : (Fs × Str) → Option (Bool) := fun x => law09_PlaceAts x.1 x.2
noncomputable def qbsd : Spec := mkSpec qbr7 qbr8 qbr9 qbsb qbsc
noncomputable def qbse {R : Type} : List (Nat × Hd R) := []
noncomputable def qbsf {R : Type} : List (Nat × Inl R) := []
noncomputable def qbsg : Cfg := { T := qbri, spec := [(13, qap9), (16, qas7), (18, qasq), (20, qbrx), (21, qbjz), (22, qbkg), (23, qaja)], glob := GlobL.G Tryz.prog, eqs := qbrj, N := 68, fuel := 64, loops := [], joins := [], blocks := [], ovl := [], retA := none, fid := 4, rnd := false, saves := [] }
theorem qbsh : CfgOK Tryz.prog qbsg := ⟨tsOK_of qbrl, specsL_ok (show SpecsL Tryz.prog qbsg.spec from ⟨qaqi, ⟨qatg, ⟨qas0, ⟨qbr6, ⟨qbj9, ⟨qbkp, ⟨qajj, trivial⟩⟩⟩⟩⟩⟩⟩), qbrm, ovlL_ok (trivial), globsOK_of rfl, freshL_ok (show FreshL Tryz.prog qbsg.fresh from trivial), specsL_ok (show SpecsL Tryz.prog qbsg.gns from trivial)⟩
theorem qbsi {R : Type} : SubsOK Tryz.prog (R := R) 0 qbsf := subsOK_nil _ _
theorem qbsj {R : Type} : LoopsOK (R := R) (hnd 0 qbsf) qbsg qbse qbrn := loopsOK_of (l := []) (by kernel_rfl) (trivial)
theorem qbsk : RngsOK Tryz.prog qbsg qbrn := rngs0 (by kernel_rfl)
theorem qbsl : ∀ v, runFn (hnd 0 qbsf) qbsg qbse qbrn Tryz.f4.results.toList (HP.st qbr7 v) (decOf qbr8 qbsa) = qbsc (qbr9 v) := by intro v; kernel_rfl
theorem qbsm : SpecOK Tryz.prog 4 qbsd := specOK_mk (fn := Tryz.f4) (by kernel_rfl) (by kernel_rfl) (by kernel_rfl) qbsh (by kernel_rfl) (by kernel_rfl) qbrk (by kernel_rfl) (fun _ => rfl) (d := 0) qbsi qbsj qbsk qbsl
noncomputable def qbsn : List HV := [.agg [.int .i64, .int .i64, .int .i64, .sl .inode], .one (.str), .one (.int .i64)]
noncomputable def qbso : List HV := [.one (.bool)]
noncomputable def qbsp : HP.V qbsn → Fs × Str × Int := fun v => ((⟨v.1.1, v.1.2.1, v.1.2.2.1, v.1.2.2.2.1⟩ : Fs), v.2.1, v.2.2.1)
noncomputable def qbsq : HX.V qbso → Bool := fun v => (v)
noncomputable def qbsr : Bool → HX.V qbso := fun y => (y)
noncomputable def qbss : (Fs × Str × Int) → Option (Bool) := fun x => law09_PlacePuts x.1 x.2.1 x.2.2
noncomputable def qbst : Spec := mkSpec qbsn qbso qbsp qbsr qbss
noncomputable def qbsu {R : Type} : List (Nat × Hd R) := []
noncomputable def qbsv {R : Type} : List (Nat × Inl R) := []
noncomputable def qbsw : Cfg := { T := qbri, spec := [(13, qap9), (18, qasq), (20, qbrx), (24, qaj9), (25, qbkw), (26, qatn), (27, qbls), (28, qat3)], glob := GlobL.G Tryz.prog, eqs := qbrj, N := 57, fuel := 64, loops := [], joins := [], blocks := [], ovl := [], retA := none, fid := 5, rnd := false, saves := [] }
theorem qbsx : CfgOK Tryz.prog qbsw := ⟨tsOK_of qbrl, specsL_ok (show SpecsL Tryz.prog qbsw.spec from ⟨qaqi, ⟨qas0, ⟨qbr6, ⟨qaki, ⟨qbll, ⟨qatw, ⟨qbl9, ⟨qauc, trivial⟩⟩⟩⟩⟩⟩⟩⟩), qbrm, ovlL_ok (trivial), globsOK_of rfl, freshL_ok (show FreshL Tryz.prog qbsw.fresh from trivial), specsL_ok (show SpecsL Tryz.prog qbsw.gns from trivial)⟩
theorem qbsy {R : Type} : SubsOK Tryz.prog (R := R) 0 qbsv := subsOK_nil _ _
theorem qbsz {R : Type} : LoopsOK (R := R) (hnd 0 qbsv) qbsw qbsu qbro := loopsOK_of (l := []) (by kernel_rfl) (trivial)
theorem qbs0 : RngsOK Tryz.prog qbsw qbro := rngs0 (by kernel_rfl)
theorem qbs1 : ∀ v, runFn (hnd 0 qbsv) qbsw qbsu qbro Tryz.f5.results.toList (HP.st qbsn v) (decOf qbso qbsq) = qbss (qbsp v) := by intro v; kernel_rfl
theorem qbs2 : SpecOK Tryz.prog 5 qbst := specOK_mk (fn := Tryz.f5) (by kernel_rfl) (by kernel_rfl) (by kernel_rfl) qbsx (by kernel_rfl) (by kernel_rfl) qbrk (by kernel_rfl) (fun _ => rfl) (d := 0) qbsy qbsz qbs0 qbs1
noncomputable def qbs3 : HS := ⟨[(1, .one (.str)), (2, .one (.ptr 0 0)), (5, .one (.sl .seen)), (6, .one (.int .i64))], [(0, .cells [.int .i64, .int .i64, .int .i64, .sl .inode])], 1⟩
noncomputable def qbs4 {R : Type} : Nat → HS.V qbs3 → (Ex → St → Option R) → Option R := fun q v K =>
  law09_PlaceBack_L5 v.1.1 v.1.2.2.1 (⟨v.2.1.1, v.2.1.2.1, v.2.1.2.2.1, v.2.1.2.2.2.1⟩ : Fs) (K .ret { regs := [(4, .v (.one (.bool false)))], mem := [], nx := 0 }) (K (.exit 0) { regs := [], mem := [], nx := 0 }) q v.1.2.2.2.1
noncomputable def qbs5 : List HV := [.agg [.int .i64, .int .i64, .int .i64, .sl .inode], .one (.str)]
noncomputable def qbs6 : List HV := [.one (.bool)]
noncomputable def qbs7 : HP.V qbs5 → Fs × Str := fun v => ((⟨v.1.1, v.1.2.1, v.1.2.2.1, v.1.2.2.2.1⟩ : Fs), v.2.1)
noncomputable def qbs8 : HX.V qbs6 → Bool := fun v => (v)
noncomputable def qbs9 : Bool → HX.V qbs6 := fun y => (y)
noncomputable def qbta : (Fs × Str) → Option (Bool) := fun x => law09_PlaceBack x.1 x.2
noncomputable def qbtb : Spec := mkSpec qbs5 qbs6 qbs7 qbs9 qbta
noncomputable def qbtc {R : Type} : List (Nat × Hd R) := [(5, hdOf qbs3 qbs4)]
noncomputable def qbtd {R : Type} : List (Nat × Inl R) := []
noncomputable def qbte : Cfg := { T := qbri, spec := [(13, qap9), (15, qarz), (20, qbrx), (21, qbjz), (22, qbkg), (29, qaho), (30, qado)], glob := GlobL.G Tryz.prog, eqs := qbrj, N := 139, fuel := 64, loops := [(5, ⟨[1, 2, 5, 6], [], [0], 1, [], [], [], []⟩)], joins := [], blocks := [(0, ⟨[], [], [], 0, [], [], [], []⟩)], ovl := [], retA := some ⟨[4], [], [], 0, [], [], [], []⟩, fid := 6, rnd := false, saves := [] }
theorem qbtf : CfgOK Tryz.prog qbte := ⟨tsOK_of qbrl, specsL_ok (show SpecsL Tryz.prog qbte.spec from ⟨qaqi, ⟨qar8, ⟨qbr6, ⟨qbj9, ⟨qbkp, ⟨qahy, ⟨qady, trivial⟩⟩⟩⟩⟩⟩⟩), qbrm, ovlL_ok (trivial), globsOK_of rfl, freshL_ok (show FreshL Tryz.prog qbte.fresh from trivial), specsL_ok (show SpecsL Tryz.prog qbte.gns from trivial)⟩
theorem qbtg {R : Type} : SubsOK Tryz.prog (R := R) 0 qbtd := subsOK_nil _ _
theorem qbth {R : Type} : LoopOK (R := R) (hnd 0 qbtd) qbte qbtc (sub [1, 1, 1, 0, 1, 0, 0] qbrp) (HS.V qbs3) (HS.st qbs3) (HS.sh qbs3) qbs4 (hdOf qbs3 qbs4) := loopOK_of qbs3 qbs4 (fun _ _ => rfl) (by intro q v K; kernel_rfl)
theorem qbti {R : Type} : LoopsOK (R := R) (hnd 0 qbtd) qbte qbtc qbrp := loopsOK_of (l := [sub [1, 1, 1, 0, 1, 0, 0] qbrp]) (by kernel_rfl) (loopsL_cons (b := sub [1, 1, 1, 0, 1, 0, 0] qbrp) (rid := 5) (by kernel_rfl) (by kernel_rfl) qbth (trivial))
theorem qbtj : RngsOK Tryz.prog qbte qbrp := rngs0 (by kernel_rfl)
theorem qbtk : ∀ v, runFn (hnd 0 qbtd) qbte qbtc qbrp Tryz.f6.results.toList (HP.st qbs5 v) (decOf qbs6 qbs8) = qbta (qbs7 v) := by intro v; kernel_rfl
theorem qbtl : SpecOK Tryz.prog 6 qbtb := specOK_mk (fn := Tryz.f6) (by kernel_rfl) (by kernel_rfl) (by kernel_rfl) qbtf (by kernel_rfl) (by kernel_rfl) qbrk (by kernel_rfl) (fun _ => rfl) (d := 0) qbtg qbti qbtj qbtk
end Go.Eng
