/- A part of the proofs of the laws of this seat: the engine that reads the program's code, plain functions, or facts of the program's functions. Conditions: none. -/
import Derived.Test.YtopfnnikfjbofaaGreatDoorE5
import Derived.Test.YtopfnnikfjbofaaGreatDoorF1
import Derived.Test.YtopfnnikfjbofaaGreatDoorP1
set_option linter.unusedSectionVars false
set_option linter.unusedVariables false
set_option linter.unusedSimpArgs false
set_option linter.unnecessarySimpa false
set_option linter.unusedVariables false
set_option maxRecDepth 100000
namespace Go.Eng
noncomputable section
open Go Go.Proofs
def qa7t : List (Nat × TI) := [(3, ⟨false, 1, .one (.int .i64 0), .int .i64⟩), (9, ⟨false, 1, .one (.str []), .str⟩), (22, ⟨false, 1, .one (.clip .inode []), .slice .inode 34⟩), (24, ⟨true, 4, .agg [.int .i64 0, .int .i64 0, .int .i64 0, .clip .inode []], .struct [(0, 3), (1, 3), (2, 3), (3, 22)]⟩), (32, ⟨false, 1, .one (.clip .entry []), .slice .entry 90⟩), (34, ⟨true, 6, .agg [.int .i64 0, .int .i64 0, .int .i64 0, .str [], .int .i64 0, .clip .entry []], .struct [(0, 3), (1, 3), (2, 3), (3, 9), (4, 3), (5, 32)]⟩), (90, ⟨true, 2, .agg [.str [], .int .i64 0], .struct [(0, 9), (1, 3)]⟩), (125, ⟨false, 1, .one (.clip .int []), .slice .int 3⟩)]
def qa7u : List (Nat × List EK) := []
theorem qa7v : Tryz.prog.follows .mixedOrders = true := by kernel_rfl
theorem qa7w : (qa7t.all fun x => tiB Tryz.prog x.1 x.2) = true := by kernel_rfl
theorem qa7x : (qa7u.all fun x => eqB Tryz.prog x.1 x.2) = true := by kernel_rfl
def qa7y : Code := bd Tryz.f72
def qa7z : Code := bd Tryz.f73
def qa70 : Code := bd Tryz.f74
def qa71 : Code := bd Tryz.f75
def qa72 : Code := bd Tryz.f76
def qa73 : Code := bd Tryz.f106
def qa74 : HS := ⟨[(1, .one (.ptr 0 0)), (3, .one (.int .i64))], [(0, .cells hFs)], 1⟩
def qa75 {R : Type} : Nat → HS.V qa74 → (Ex → St → Option R) → Option R := fun q v K =>
  ref07_first_L4 (cFs v.2.1) (K .ret { regs := [(2, .v (.one (.bool false)))], mem := [], nx := 0 }) (K (.exit 0) { regs := [(1, .v (.one (.ptr 0 0)))], mem := [(0, .cells (rFs (cFs v.2.1)))], nx := 1 }) q v.1.2.1
def qa76 : List HV := [.agg hFs]
def qa77 : List HV := [.one (.bool)]
def qa78 : HP.V qa76 → Fs := fun v => ((cFs v.1))
def qa79 : HX.V qa77 → Bool := fun v => (v)
def qa8a : Bool → HX.V qa77 := fun y => (y)
def qa8b : Fs → Option (Bool) := fun x => ref07_first x
def qa8c : Spec := mkSpec qa76 qa77 qa78 qa8a qa8b
def qa8d {R : Type} : List (Nat × Hd R) := [(4, hdOf qa74 qa75)]
def qa8e {R : Type} : List (Nat × Inl R) := []
def qa8f : Cfg := { T := qa7t, spec := [(29, qa4l), (104, qa42)], glob := GlobL.G Tryz.prog, eqs := qa7u, N := 69, fuel := 64, loops := [(4, ⟨[1, 3], [], [0], 1, [], [], [], []⟩)], blocks := [(0, ⟨[1], [], [0], 1, [], [], [], []⟩)], retA := some ⟨[2], [], [], 0, [], [], [], []⟩, fid := 72 }
theorem qa8g : CfgOK Tryz.prog qa8f := cfgC qa7w qa7x ⟨qa4t, ⟨qa5a, trivial⟩⟩
theorem qa8h {R : Type} : SubsOK Tryz.prog (R := R) 0 qa8e := subsOK_nil _ _
theorem qa8i {R : Type} : LoopOK (R := R) (hnd 0 qa8e) qa8f qa8d (sub [1, 1, 0, 1, 0, 0] qa7y) (HS.V qa74) (HS.st qa74) (HS.sh qa74) qa75 (hdOf qa74 qa75) := loopOK_of qa74 qa75 (fun _ _ => rfl) (by intro q v K; kernel_rfl)
theorem qa8j {R : Type} : LoopsOK (R := R) (hnd 0 qa8e) qa8f qa8d qa7y := loopsOK_of (l := [sub [1, 1, 0, 1, 0, 0] qa7y]) (by kernel_rfl) (loopsL_cons (b := sub [1, 1, 0, 1, 0, 0] qa7y) (rid := 4) (by kernel_rfl) (by kernel_rfl) qa8i (trivial))
theorem qa8k : SpecOK Tryz.prog 72 qa8c := specOK_a Tryz.f72 qa8g qa7v (d := 0) qa8h qa8j (rngs0 (by kernel_rfl)) (toY := qa79)
def qa8l : HS := ⟨[(1, .one (.ptr 0 0)), (3, .one (.int .i64)), (4, .one (.ptr 1 0)), (5, .one (.int .i64))], [(0, .cells hFs), (1, .cells hIn)], 2⟩
def qa8m {R : Type} : Nat → HS.V qa8l → (Ex → St → Option R) → Option R := fun q v K =>
  ref07_second_L14 (cIn v.2.2.1) (K .ret { regs := [(2, .v (.one (.bool false)))], mem := [], nx := 0 }) (K (.exit 2) { regs := [(1, .v (.one (.ptr 0 0))), (3, .v (.one (.int .i64 v.1.2.1)))], mem := [(0, .cells (rFs (cFs v.2.1)))], nx := 1 }) q v.1.2.2.2.1
def qa8n : HS := ⟨[(1, .one (.ptr 0 0)), (3, .one (.int .i64))], [(0, .cells hFs)], 1⟩
def qa8o {R : Type} : Nat → HS.V qa8n → (Ex → St → Option R) → Option R := fun q v K =>
  ref07_second_L2 (cFs v.2.1) (K .ret { regs := [(2, .v (.one (.bool false)))], mem := [], nx := 0 }) (K (.exit 0) { regs := [], mem := [], nx := 0 }) q v.1.2.1
def qa8p : List HV := [.agg hFs]
def qa8q : List HV := [.one (.bool)]
def qa8r : HP.V qa8p → Fs := fun v => ((cFs v.1))
def qa8s : HX.V qa8q → Bool := fun v => (v)
def qa8t : Bool → HX.V qa8q := fun y => (y)
def qa8u : Fs → Option (Bool) := fun x => ref07_second x
def qa8v : Spec := mkSpec qa8p qa8q qa8r qa8t qa8u
def qa8w {R : Type} : List (Nat × Hd R) := [(2, hdOf qa8n qa8o), (14, hdOf qa8l qa8m)]
def qa8x {R : Type} : List (Nat × Inl R) := []
def qa8y : Cfg := { T := qa7t, spec := [(105, qa1n)], glob := GlobL.G Tryz.prog, eqs := qa7u, N := 91, fuel := 64, loops := [(14, ⟨[1, 3, 4, 5], [], [0, 1], 2, [], [], [], []⟩), (2, ⟨[1, 3], [], [0], 1, [], [], [], []⟩)], blocks := [(0, ⟨[], [], [], 0, [], [], [], []⟩), (1, ⟨[1, 3], [], [0], 1, [], [], [], []⟩), (2, ⟨[1, 3], [], [0], 1, [], [], [], []⟩)], retA := some ⟨[2], [], [], 0, [], [], [], []⟩, fid := 73 }
theorem qa8z : CfgOK Tryz.prog qa8y := cfgC qa7w qa7x ⟨qa1v, trivial⟩
theorem qa80 {R : Type} : SubsOK Tryz.prog (R := R) 0 qa8x := subsOK_nil _ _
theorem qa81 {R : Type} : LoopOK (R := R) (hnd 0 qa8x) qa8y qa8w (sub [1, 0, 1, 0, 0] qa7z) (HS.V qa8n) (HS.st qa8n) (HS.sh qa8n) qa8o (hdOf qa8n qa8o) := loopOK_of qa8n qa8o (fun _ _ => rfl) (by intro q v K; kernel_rfl)
theorem qa82 {R : Type} : LoopOK (R := R) (hnd 0 qa8x) qa8y qa8w (sub [1, 0, 1, 0, 0, 1, 0, 0, 1, 1, 1, 1, 1, 1, 0, 0] qa7z) (HS.V qa8l) (HS.st qa8l) (HS.sh qa8l) qa8m (hdOf qa8l qa8m) := loopOK_of qa8l qa8m (fun _ _ => rfl) (by intro q v K; kernel_rfl)
theorem qa83 {R : Type} : LoopsOK (R := R) (hnd 0 qa8x) qa8y qa8w qa7z := loopsOK_of (l := [sub [1, 0, 1, 0, 0] qa7z, sub [1, 0, 1, 0, 0, 1, 0, 0, 1, 1, 1, 1, 1, 1, 0, 0] qa7z]) (by kernel_rfl) (loopsL_cons (b := sub [1, 0, 1, 0, 0] qa7z) (rid := 2) (by kernel_rfl) (by kernel_rfl) qa81 (loopsL_cons (b := sub [1, 0, 1, 0, 0, 1, 0, 0, 1, 1, 1, 1, 1, 1, 0, 0] qa7z) (rid := 14) (by kernel_rfl) (by kernel_rfl) qa82 (trivial)))
theorem qa84 : SpecOK Tryz.prog 73 qa8v := specOK_a Tryz.f73 qa8z qa7v (d := 0) qa80 qa83 (rngs0 (by kernel_rfl)) (toY := qa8s)
def qa85 : HS := ⟨[(1, .one (.ptr 0 0)), (3, .one (.int .i64)), (4, .one (.int .i64))], [(0, .cells hFs)], 1⟩
def qa86 {R : Type} : Nat → HS.V qa85 → (Ex → St → Option R) → Option R := fun q v K =>
  ref07_third_L5 v.1.2.1 (cFs v.2.1) (K .ret { regs := [(2, .v (.one (.bool false)))], mem := [], nx := 0 }) (K (.exit 2) { regs := [(1, .v (.one (.ptr 0 0))), (3, .v (.one (.int .i64 v.1.2.1)))], mem := [(0, .cells (rFs (cFs v.2.1)))], nx := 1 }) q v.1.2.2.1
def qa87 : HS := ⟨[(1, .one (.ptr 0 0)), (3, .one (.int .i64))], [(0, .cells hFs)], 1⟩
def qa88 {R : Type} : Nat → HS.V qa87 → (Ex → St → Option R) → Option R := fun q v K =>
  ref07_third_L2 (cFs v.2.1) (K .ret { regs := [(2, .v (.one (.bool false)))], mem := [], nx := 0 }) (K (.exit 0) { regs := [], mem := [], nx := 0 }) q v.1.2.1
def qa89 : List HV := [.agg hFs]
def qa9a : List HV := [.one (.bool)]
def qa9b : HP.V qa89 → Fs := fun v => ((cFs v.1))
def qa9c : HX.V qa9a → Bool := fun v => (v)
def qa9d : Bool → HX.V qa9a := fun y => (y)
def qa9e : Fs → Option (Bool) := fun x => ref07_third x
def qa9f : Spec := mkSpec qa89 qa9a qa9b qa9d qa9e
def qa9g {R : Type} : List (Nat × Hd R) := [(2, hdOf qa87 qa88), (5, hdOf qa85 qa86)]
def qa9h {R : Type} : List (Nat × Inl R) := []
def qa9i : Cfg := { T := qa7t, spec := [(29, qa4l)], glob := GlobL.G Tryz.prog, eqs := qa7u, N := 42, fuel := 64, loops := [(5, ⟨[1, 3, 4], [], [0], 1, [], [], [], []⟩), (2, ⟨[1, 3], [], [0], 1, [], [], [], []⟩)], blocks := [(0, ⟨[], [], [], 0, [], [], [], []⟩), (1, ⟨[1, 3], [], [0], 1, [], [], [], []⟩), (2, ⟨[1, 3], [], [0], 1, [], [], [], []⟩)], retA := some ⟨[2], [], [], 0, [], [], [], []⟩, fid := 74 }
theorem qa9j : CfgOK Tryz.prog qa9i := cfgC qa7w qa7x ⟨qa4t, trivial⟩
theorem qa9k {R : Type} : SubsOK Tryz.prog (R := R) 0 qa9h := subsOK_nil _ _
theorem qa9l {R : Type} : LoopOK (R := R) (hnd 0 qa9h) qa9i qa9g (sub [1, 0, 1, 0, 0] qa70) (HS.V qa87) (HS.st qa87) (HS.sh qa87) qa88 (hdOf qa87 qa88) := loopOK_of qa87 qa88 (fun _ _ => rfl) (by intro q v K; kernel_rfl)
theorem qa9m {R : Type} : LoopOK (R := R) (hnd 0 qa9h) qa9i qa9g (sub [1, 0, 1, 0, 0, 1, 0, 0, 1, 0, 0] qa70) (HS.V qa85) (HS.st qa85) (HS.sh qa85) qa86 (hdOf qa85 qa86) := loopOK_of qa85 qa86 (fun _ _ => rfl) (by intro q v K; kernel_rfl)
theorem qa9n {R : Type} : LoopsOK (R := R) (hnd 0 qa9h) qa9i qa9g qa70 := loopsOK_of (l := [sub [1, 0, 1, 0, 0] qa70, sub [1, 0, 1, 0, 0, 1, 0, 0, 1, 0, 0] qa70]) (by kernel_rfl) (loopsL_cons (b := sub [1, 0, 1, 0, 0] qa70) (rid := 2) (by kernel_rfl) (by kernel_rfl) qa9l (loopsL_cons (b := sub [1, 0, 1, 0, 0, 1, 0, 0, 1, 0, 0] qa70) (rid := 5) (by kernel_rfl) (by kernel_rfl) qa9m (trivial)))
theorem qa9o : SpecOK Tryz.prog 74 qa9f := specOK_a Tryz.f74 qa9j qa7v (d := 0) qa9k qa9n (rngs0 (by kernel_rfl)) (toY := qa9c)
def qa9p : HS := ⟨[(1, .one (.int .i64)), (2, .one (.ptr 0 0)), (6, .one (.int .i64)), (7, .one (.int .i64)), (8, .one (.int .i64)), (9, .one (.int .i64))], [(0, .cells hFs)], 1⟩
def qa9q {R : Type} : Nat → HS.V qa9p → (Ex → St → Option R) → Option R := fun q v K =>
  ref07_Names_L7 v.1.1 v.1.2.2.2.2.1 (cFs v.2.1) (fun y17 y18 => K (.exit 2) { regs := [(1, .v (.one (.int .i64 v.1.1))), (2, .v (.one (.ptr 0 0))), (6, .v (.one (.int .i64 y17))), (7, .v (.one (.int .i64 y18))), (8, .v (.one (.int .i64 v.1.2.2.2.2.1)))], mem := [(0, .cells (rFs (cFs v.2.1)))], nx := 1 }) q v.1.2.2.1 v.1.2.2.2.1 v.1.2.2.2.2.2.1
def qa9r : HS := ⟨[(1, .one (.int .i64)), (2, .one (.ptr 0 0)), (6, .one (.int .i64)), (7, .one (.int .i64)), (8, .one (.int .i64))], [(0, .cells hFs)], 1⟩
def qa9s {R : Type} : Nat → HS.V qa9r → (Ex → St → Option R) → Option R := fun q v K =>
  ref07_Names_L4 v.1.1 (cFs v.2.1) (fun y23 y24 => K (.exit 0) { regs := [(6, .v (.one (.int .i64 y23))), (7, .v (.one (.int .i64 y24)))], mem := [], nx := 0 }) q v.1.2.2.1 v.1.2.2.2.1 v.1.2.2.2.2.1
def qa9t : List HV := [.agg hFs, .one (.int .i64)]
def qa9u : List HV := [.one (.int .i64), .one (.int .i64)]
def qa9v : HP.V qa9t → Fs × Int := fun v => ((cFs v.1), v.2.1)
def qa9w : HX.V qa9u → Int × Int := fun v => (v.1, v.2)
def qa9x : (Int × Int) → HX.V qa9u := fun y => (y.1, y.2)
def qa9y : (Fs × Int) → Option (Int × Int) := fun x => ref07_Names x.1 x.2
def qa9z : Spec := mkSpec qa9t qa9u qa9v qa9x qa9y
def qa90 {R : Type} : List (Nat × Hd R) := [(4, hdOf qa9r qa9s), (7, hdOf qa9p qa9q)]
def qa91 {R : Type} : List (Nat × Inl R) := []
def qa92 : Cfg := { T := qa7t, glob := GlobL.G Tryz.prog, eqs := qa7u, N := 50, fuel := 64, loops := [(7, ⟨[1, 2, 6, 7, 8, 9], [], [0], 1, [], [], [], []⟩), (4, ⟨[1, 2, 6, 7, 8], [], [0], 1, [], [], [], []⟩)], blocks := [(0, ⟨[6, 7], [], [], 0, [], [], [], []⟩), (1, ⟨[1, 2, 6, 7, 8], [], [0], 1, [], [], [], []⟩), (2, ⟨[1, 2, 6, 7, 8], [], [0], 1, [], [], [], []⟩)], fid := 106 }
theorem qa93 : CfgOK Tryz.prog qa92 := cfgC qa7w qa7x trivial
theorem qa94 {R : Type} : SubsOK Tryz.prog (R := R) 0 qa91 := subsOK_nil _ _
theorem qa95 {R : Type} : LoopOK (R := R) (hnd 0 qa91) qa92 qa90 (sub [1, 1, 1, 0, 1, 0, 0] qa73) (HS.V qa9r) (HS.st qa9r) (HS.sh qa9r) qa9s (hdOf qa9r qa9s) := loopOK_of qa9r qa9s (fun _ _ => rfl) (by intro q v K; kernel_rfl)
theorem qa96 {R : Type} : LoopOK (R := R) (hnd 0 qa91) qa92 qa90 (sub [1, 1, 1, 0, 1, 0, 0, 1, 0, 0, 1, 0, 0] qa73) (HS.V qa9p) (HS.st qa9p) (HS.sh qa9p) qa9q (hdOf qa9p qa9q) := loopOK_of qa9p qa9q (fun _ _ => rfl) (by intro q v K; kernel_rfl)
theorem qa97 {R : Type} : LoopsOK (R := R) (hnd 0 qa91) qa92 qa90 qa73 := loopsOK_of (l := [sub [1, 1, 1, 0, 1, 0, 0] qa73, sub [1, 1, 1, 0, 1, 0, 0, 1, 0, 0, 1, 0, 0] qa73]) (by kernel_rfl) (loopsL_cons (b := sub [1, 1, 1, 0, 1, 0, 0] qa73) (rid := 4) (by kernel_rfl) (by kernel_rfl) qa95 (loopsL_cons (b := sub [1, 1, 1, 0, 1, 0, 0, 1, 0, 0, 1, 0, 0] qa73) (rid := 7) (by kernel_rfl) (by kernel_rfl) qa96 (trivial)))
theorem qa98 : SpecOK Tryz.prog 106 qa9z := specOK_a Tryz.f106 qa93 qa7v (d := 0) qa94 qa97 (rngs0 (by kernel_rfl)) (toY := qa9w)
def qa99 : HS := ⟨[(1, .one (.ptr 0 0)), (3, .one (.int .i64))], [(0, .cells hFs)], 1⟩
def qbaa {R : Type} : Nat → HS.V qa99 → (Ex → St → Option R) → Option R := fun q v K =>
  ref07_fourth_L2 (cFs v.2.1) (K .ret { regs := [(2, .v (.one (.bool false)))], mem := [], nx := 0 }) (K (.exit 0) { regs := [], mem := [], nx := 0 }) q v.1.2.1
def qbab : List HV := [.agg hFs]
def qbac : List HV := [.one (.bool)]
def qbad : HP.V qbab → Fs := fun v => ((cFs v.1))
def qbae : HX.V qbac → Bool := fun v => (v)
def qbaf : Bool → HX.V qbac := fun y => (y)
def qbag : Fs → Option (Bool) := fun x => ref07_fourth x
def qbah : Spec := mkSpec qbab qbac qbad qbaf qbag
def qbai {R : Type} : List (Nat × Hd R) := [(2, hdOf qa99 qbaa)]
def qbaj {R : Type} : List (Nat × Inl R) := []
def qbak : Cfg := { T := qa7t, spec := [(106, qa9z)], glob := GlobL.G Tryz.prog, eqs := qa7u, N := 57, fuel := 64, loops := [(2, ⟨[1, 3], [], [0], 1, [], [], [], []⟩)], blocks := [(0, ⟨[], [], [], 0, [], [], [], []⟩)], retA := some ⟨[2], [], [], 0, [], [], [], []⟩, fid := 75 }
theorem qbal : CfgOK Tryz.prog qbak := cfgC qa7w qa7x ⟨qa98, trivial⟩
theorem qbam {R : Type} : SubsOK Tryz.prog (R := R) 0 qbaj := subsOK_nil _ _
theorem qban {R : Type} : LoopOK (R := R) (hnd 0 qbaj) qbak qbai (sub [1, 0, 1, 0, 0] qa71) (HS.V qa99) (HS.st qa99) (HS.sh qa99) qbaa (hdOf qa99 qbaa) := loopOK_of qa99 qbaa (fun _ _ => rfl) (by intro q v K; kernel_rfl)
theorem qbao {R : Type} : LoopsOK (R := R) (hnd 0 qbaj) qbak qbai qa71 := loopsOK_of (l := [sub [1, 0, 1, 0, 0] qa71]) (by kernel_rfl) (loopsL_cons (b := sub [1, 0, 1, 0, 0] qa71) (rid := 2) (by kernel_rfl) (by kernel_rfl) qban (trivial))
theorem qbap : SpecOK Tryz.prog 75 qbah := specOK_a Tryz.f75 qbal qa7v (d := 0) qbam qbao (rngs0 (by kernel_rfl)) (toY := qbae)
def qbaq : HS := ⟨[(1, .one (.ptr 0 0)), (3, .one (.own 1)), (4, .one (.int .i64)), (5, .one (.ptr 2 0)), (7, .one (.int .i64)), (8, .one (.bool)), (9, .one (.int .i64))], [(0, .cells hFs), (1, .row .int), (2, .cells hIn)], 3⟩
def qbar {R : Type} : Nat → HS.V qbaq → (Ex → St → Option R) → Option R := fun q v K =>
  ref07_fifth_L11 v.1.2.2.2.2.1 v.2.2.1 (cIn v.2.2.2.1) (fun y22 => K (.exit 4) { regs := [(1, .v (.one (.ptr 0 0))), (3, .v (.one (.own 1))), (4, .v (.one (.int .i64 v.1.2.2.1))), (5, .v (.one (.ptr 2 0))), (7, .v (.one (.int .i64 v.1.2.2.2.2.1))), (8, .v (.one (.bool y22)))], mem := [(0, .cells (rFs (cFs v.2.1))), (1, .row .int v.2.2.1), (2, .cells (rIn (cIn v.2.2.2.1)))], nx := 3 }) q v.1.2.2.2.2.2.1 v.1.2.2.2.2.2.2.1
def qbas : HS := ⟨[(1, .one (.ptr 0 0)), (3, .one (.own 1)), (4, .one (.int .i64)), (5, .one (.ptr 2 0)), (7, .one (.int .i64))], [(0, .cells hFs), (1, .row .int), (2, .cells hIn)], 3⟩
def qbat {R : Type} : Nat → HS.V qbas → (Ex → St → Option R) → Option R := fun q v K =>
  ref07_fifth_L7 (cIn v.2.2.2.1) (fun y30 => K (.exit 2) { regs := [(1, .v (.one (.ptr 0 0))), (3, .v (.one (.own 1))), (4, .v (.one (.int .i64 v.1.2.2.1)))], mem := [(0, .cells (rFs (cFs v.2.1))), (1, .row .int y30)], nx := 2 }) q v.1.2.2.2.2.1 v.2.2.1
def qbau : HS := ⟨[(1, .one (.ptr 0 0)), (3, .one (.own 1)), (4, .one (.int .i64))], [(0, .cells hFs), (1, .row .int)], 2⟩
def qbav {R : Type} : Nat → HS.V qbau → (Ex → St → Option R) → Option R := fun q v K =>
  ref07_fifth_L3 (cFs v.2.1) (fun y33 => K (.exit 0) { regs := [(1, .v (.one (.ptr 0 0))), (3, .v (.one (.own 1)))], mem := [(0, .cells (rFs (cFs v.2.1))), (1, .row .int y33)], nx := 2 }) q v.1.2.2.1 v.2.2.1
def qbaw : List HV := [.agg hFs]
def qbax : List HV := [.one (.bool)]
def qbay : HP.V qbaw → Fs := fun v => ((cFs v.1))
def qbaz : HX.V qbax → Bool := fun v => (v)
def qba0 : Bool → HX.V qbax := fun y => (y)
def qba1 : Fs → Option (Bool) := fun x => ref07_fifth x
def qba2 : Spec := mkSpec qbaw qbax qbay qba0 qba1
def qba3 {R : Type} : List (Nat × Hd R) := [(3, hdOf qbau qbav), (7, hdOf qbas qbat), (11, hdOf qbaq qbar)]
def qba4 {R : Type} : List (Nat × Inl R) := []
def qba5 : Cfg := { T := qa7t, spec := [(29, qa4l)], glob := GlobL.G Tryz.prog, eqs := qa7u, N := 70, fuel := 64, loops := [(11, ⟨[1, 3, 4, 5, 7, 8, 9], [], [0, 1, 2], 3, [], [], [], []⟩), (7, ⟨[1, 3, 4, 5, 7], [], [0, 1, 2], 3, [], [], [], []⟩), (3, ⟨[1, 3, 4], [], [0, 1], 2, [], [], [], []⟩)], blocks := [(0, ⟨[1, 3], [], [0, 1], 2, [], [], [], []⟩), (1, ⟨[1, 3, 4], [], [0, 1], 2, [], [], [], []⟩), (2, ⟨[1, 3, 4], [], [0, 1], 2, [], [], [], []⟩), (3, ⟨[1, 3, 4, 5, 7], [], [0, 1, 2], 3, [], [], [], []⟩), (4, ⟨[1, 3, 4, 5, 7, 8], [], [0, 1, 2], 3, [], [], [], []⟩)], fid := 76 }
theorem qba6 : CfgOK Tryz.prog qba5 := cfgC qa7w qa7x ⟨qa4t, trivial⟩
theorem qba7 {R : Type} : SubsOK Tryz.prog (R := R) 0 qba4 := subsOK_nil _ _
theorem qba8 {R : Type} : LoopOK (R := R) (hnd 0 qba4) qba5 qba3 (sub [1, 1, 0, 1, 0, 0] qa72) (HS.V qbau) (HS.st qbau) (HS.sh qbau) qbav (hdOf qbau qbav) := loopOK_of qbau qbav (fun _ _ => rfl) (by intro q v K; kernel_rfl)
theorem qba9 {R : Type} : LoopOK (R := R) (hnd 0 qba4) qba5 qba3 (sub [1, 1, 0, 1, 0, 0, 1, 0, 0, 1, 1, 0, 0] qa72) (HS.V qbas) (HS.st qbas) (HS.sh qbas) qbat (hdOf qbas qbat) := loopOK_of qbas qbat (fun _ _ => rfl) (by intro q v K; kernel_rfl)
theorem qbba {R : Type} : LoopOK (R := R) (hnd 0 qba4) qba5 qba3 (sub [1, 1, 0, 1, 0, 0, 1, 0, 0, 1, 1, 0, 0, 1, 0, 0, 1, 0, 1, 0, 0] qa72) (HS.V qbaq) (HS.st qbaq) (HS.sh qbaq) qbar (hdOf qbaq qbar) := loopOK_of qbaq qbar (fun _ _ => rfl) (by intro q v K; kernel_rfl)
theorem qbbb {R : Type} : LoopsOK (R := R) (hnd 0 qba4) qba5 qba3 qa72 := loopsOK_of (l := [sub [1, 1, 0, 1, 0, 0] qa72, sub [1, 1, 0, 1, 0, 0, 1, 0, 0, 1, 1, 0, 0] qa72, sub [1, 1, 0, 1, 0, 0, 1, 0, 0, 1, 1, 0, 0, 1, 0, 0, 1, 0, 1, 0, 0] qa72]) (by kernel_rfl) (loopsL_cons (b := sub [1, 1, 0, 1, 0, 0] qa72) (rid := 3) (by kernel_rfl) (by kernel_rfl) qba8 (loopsL_cons (b := sub [1, 1, 0, 1, 0, 0, 1, 0, 0, 1, 1, 0, 0] qa72) (rid := 7) (by kernel_rfl) (by kernel_rfl) qba9 (loopsL_cons (b := sub [1, 1, 0, 1, 0, 0, 1, 0, 0, 1, 1, 0, 0, 1, 0, 0, 1, 0, 1, 0, 0] qa72) (rid := 11) (by kernel_rfl) (by kernel_rfl) qbba (trivial))))
theorem qbbc : SpecOK Tryz.prog 76 qba2 := specOK_a Tryz.f76 qba6 qa7v (d := 0) qba7 qbbb (rngs0 (by kernel_rfl)) (toY := qbaz)
def qbbd : List HV := [.agg hFs]
def qbbe : List HV := [.one (.int .i64)]
def qbbf : HP.V qbbd → Fs := fun v => ((cFs v.1))
def qbbg : HX.V qbbe → Int := fun v => (v)
def qbbh : Int → HX.V qbbe := fun y => (y)
def qbbi : Fs → Option (Int) := fun x => ref07_Check x
def qbbj : Spec := mkSpec qbbd qbbe qbbf qbbh qbbi
def qbbk : Cfg := { T := qa7t, spec := [(71, qa7p), (72, qa8c), (73, qa8v), (74, qa9f), (75, qbah), (76, qba2)], glob := GlobL.G Tryz.prog, eqs := qa7u, N := 21, fuel := 64, fid := 44 }
theorem qbbl : CfgOK Tryz.prog qbbk := cfgC qa7w qa7x ⟨qa7s, ⟨qa8k, ⟨qa84, ⟨qa9o, ⟨qbap, ⟨qbbc, trivial⟩⟩⟩⟩⟩⟩
theorem qbbm : SpecOK Tryz.prog 44 qbbj := specOK_0 Tryz.f44 qbbl qa7v (toY := qbbg)
def qbbn : List HV := [.agg hFs]
def qbbo : List HV := [.one (.bool)]
def qbbp : HP.V qbbn → Fs := fun v => ((cFs v.1))
def qbbq : HX.V qbbo → Bool := fun v => (v)
def qbbr : Bool → HX.V qbbo := fun y => (y)
def qbbs : Fs → Option (Bool) := fun x => ref07_Ok x
def qbbt : Spec := mkSpec qbbn qbbo qbbp qbbr qbbs
def qbbu : Cfg := { T := qa7t, spec := [(44, qbbj), (48, qa5l)], glob := GlobL.G Tryz.prog, eqs := qa7u, N := 10, fuel := 64, fid := 13 }
theorem qbbv : CfgOK Tryz.prog qbbu := cfgC qa7w qa7x ⟨qbbm, ⟨qa5u, trivial⟩⟩
theorem qbbw : SpecOK Tryz.prog 13 qbbt := specOK_0 Tryz.f13 qbbv qa7v (toY := qbbq)
end
end Go.Eng
set_option linter.unusedVariables false
set_option maxRecDepth 100000
namespace Go.Eng
noncomputable section
open Go Go.Proofs
def qbbx : List (Nat × TI) := [(3, ⟨false, 1, .one (.int .i64 0), .int .i64⟩), (9, ⟨false, 1, .one (.str []), .str⟩), (22, ⟨false, 1, .one (.clip .inode []), .slice .inode 34⟩), (24, ⟨true, 4, .agg [.int .i64 0, .int .i64 0, .int .i64 0, .clip .inode []], .struct [(0, 3), (1, 3), (2, 3), (3, 22)]⟩), (28, ⟨false, 1, .one (.clip .seen []), .slice .seen 31⟩), (31, ⟨true, 2, .agg [.str [], .int .i64 0], .struct [(0, 9), (1, 3)]⟩), (32, ⟨false, 1, .one (.clip .entry []), .slice .entry 90⟩), (34, ⟨true, 6, .agg [.int .i64 0, .int .i64 0, .int .i64 0, .str [], .int .i64 0, .clip .entry []], .struct [(0, 3), (1, 3), (2, 3), (3, 9), (4, 3), (5, 32)]⟩), (90, ⟨true, 2, .agg [.str [], .int .i64 0], .struct [(0, 9), (1, 3)]⟩)]
def qbby : List (Nat × List EK) := [(31, [.s, .i])]
theorem qbbz : Tryz.prog.follows .mixedOrders = true := by kernel_rfl
theorem qbb0 : (qbbx.all fun x => tiB Tryz.prog x.1 x.2) = true := by kernel_rfl
theorem qbb1 : (qbby.all fun x => eqB Tryz.prog x.1 x.2) = true := by kernel_rfl
def qbb2 : Code := bd Tryz.f43
def qbb3 : Code := bd Tryz.f49
def qbb4 : List HV := [.one (.str), .one (.str)]
def qbb5 : List HV := [.one (.str)]
def qbb6 : HP.V qbb4 → Str × Str := fun v => (v.1, v.2.1)
def qbb7 : HX.V qbb5 → Str := fun v => (v)
def qbb8 : Str → HX.V qbb5 := fun y => (y)
def qbb9 : (Str × Str) → Option (Str) := fun x => ref08_under x.1 x.2
def qbca : Spec := mkSpec qbb4 qbb5 qbb6 qbb8 qbb9
def qbcb : Cfg := { T := qbbx, glob := GlobL.G Tryz.prog, eqs := qbby, N := 14, fuel := 64, fid := 77 }
theorem qbcc : CfgOK Tryz.prog qbcb := cfgC qbb0 qbb1 trivial
theorem qbcd : SpecOK Tryz.prog 77 qbca := specOK_0 Tryz.f77 qbcc qbbz (toY := qbb7)
def qbce : HS := ⟨[(2, .one (.str)), (3, .one (.int .i64)), (4, .one (.ptr 0 0)), (9, .one (.ptr 1 0)), (11, .one (.own 2)), (12, .one (.int .i64))], [(0, .cells hFs), (1, .cells hIn), (2, .row .seen)], 3⟩
def qbcf {R : Type} (nn : Nat) : Nat → HS.V qbce → (Ex → St → Option R) → Option R := fun q v K =>
  ref08_Below_L6 (ref08_Below_r nn) v.1.1 v.1.2.1 (cFs v.2.1) (cIn v.2.2.1) (fun y12 => K (.exit 0) { regs := [(11, .v (.one (.own 2)))], mem := [(2, .row .seen y12)], nx := 3 }) q v.1.2.2.2.2.2.1 v.2.2.2.1
def qbcg : List HV := [.agg hFs, .one (.int .i64), .one (.str), .one (.int .i64)]
def qbch : List HV := [.one (.sl .seen)]
def qbci : HP.V qbcg → Fs × Int × Str × Int := fun v => ((cFs v.1), v.2.1, v.2.2.1, v.2.2.2.1)
def qbcj : HX.V qbch → (List Seen) := fun v => (v)
def qbck : (List Seen) → HX.V qbch := fun y => (y)
def qbcl (nn : Nat) : (Fs × Int × Str × Int) → Option ((List Seen)) := fun x => ref08_Below_r nn x.1 x.2.1 x.2.2.1 x.2.2.2
def qbcm (nn : Nat) : Spec := mkSpec qbcg qbch qbci qbck (qbcl nn)
def qbcn : (Fs × Int × Str × Int) → Option ((List Seen)) := fun x => ref08_Below x.1 x.2.1 x.2.2.1 x.2.2.2
def qbco : Spec := mkSpec qbcg qbch qbci qbck qbcn
def qbcp {R : Type} (nn : Nat) : List (Nat × Hd R) := [(6, hdOf qbce (qbcf nn))]
def qbcq {R : Type} (nn : Nat) : List (Nat × Inl R) := []
def qbcr (nn : Nat) : Cfg := { T := qbbx, spec := [(29, qa4l), (49, qbcm nn), (77, qbca)], glob := GlobL.G Tryz.prog, eqs := qbby, N := 57, fuel := 64, loops := [(6, ⟨[2, 3, 4, 9, 11, 12], [], [0, 1, 2], 3, [], [], [], []⟩)], blocks := [(0, ⟨[11], [], [2], 3, [], [], [], []⟩)], fid := 49 }
theorem qbcs (nn : Nat) (hrec : SpecOK Tryz.prog 49 (qbcm nn)) : CfgOK Tryz.prog (qbcr nn) := cfgC qbb0 qbb1 ⟨qa4t, ⟨hrec, ⟨qbcd, trivial⟩⟩⟩
theorem qbct {R : Type} (nn : Nat) : SubsOK Tryz.prog (R := R) 0 (qbcq nn) := subsOK_nil _ _
theorem qbcu {R : Type} (nn : Nat) : LoopOK (R := R) (hnd 0 (qbcq nn)) (qbcr nn) (qbcp nn) (sub [1, 1, 1, 1, 0, 1, 0, 0] qbb3) (HS.V qbce) (HS.st qbce) (HS.sh qbce) (qbcf nn) (hdOf qbce (qbcf nn)) := loopOK_of qbce (qbcf nn) (fun _ _ => rfl) (by intro q v K; kernel_rfl)
theorem qbcv {R : Type} (nn : Nat) : LoopsOK (R := R) (hnd 0 (qbcq nn)) (qbcr nn) (qbcp nn) qbb3 := loopsOK_of (l := [sub [1, 1, 1, 1, 0, 1, 0, 0] qbb3]) (by kernel_rfl) (loopsL_cons (b := sub [1, 1, 1, 1, 0, 1, 0, 0] qbb3) (rid := 6) (by kernel_rfl) (by kernel_rfl) (qbcu nn) (trivial))
theorem qbcw (nn : Nat) : RngsOK Tryz.prog (qbcr nn) qbb3 := rngs0 (by kernel_rfl)
theorem qbcx (nn : Nat) : ∀ v, runFn (hnd 0 (qbcq nn)) (qbcr nn) (qbcp nn) qbb3 Tryz.f49.results.toList (HP.st qbcg v) (decOf qbch qbcj) = qbcl (nn + 1) (qbci v) := by intro v; kernel_rfl
theorem qbcy : ∀ nn, SpecOK Tryz.prog 49 (qbcm nn)
  | 0 => ⟨enters_of (fn := Tryz.f49) (body := qbb3) (by kernel_rfl) (by kernel_rfl) (by kernel_rfl), fun S w args vs x y _ _ _ _ h => by cases h⟩
  | nn + 1 => specOK_mk (fn := Tryz.f49) (by kernel_rfl) (by kernel_rfl) (by kernel_rfl) (qbcs nn (qbcy nn)) (by kernel_rfl) (by kernel_rfl) qbbz (by kernel_rfl) (fun _ => rfl) (d := 0) (qbct nn) (qbcv nn) (qbcw nn) (qbcx nn)
theorem qbcz : SpecOK Tryz.prog 49 qbco := qbcy FUEL
def qbc0 : List HV := [.agg hFs]
def qbc1 : List HV := [.one (.sl .seen)]
def qbc2 : HP.V qbc0 → Fs := fun v => ((cFs v.1))
def qbc3 : HX.V qbc1 → (List Seen) := fun v => (v)
def qbc4 : (List Seen) → HX.V qbc1 := fun y => (y)
def qbc5 : Fs → Option ((List Seen)) := fun x => ref08_List x
def qbc6 : Spec := mkSpec qbc0 qbc1 qbc2 qbc4 qbc5
def qbc7 : Cfg := { T := qbbx, spec := [(49, qbco)], glob := GlobL.G Tryz.prog, eqs := qbby, N := 8, fuel := 64, fid := 15 }
theorem qbc8 : CfgOK Tryz.prog qbc7 := cfgC qbb0 qbb1 ⟨qbcz, trivial⟩
theorem qbc9 : SpecOK Tryz.prog 15 qbc6 := specOK_0 Tryz.f15 qbc8 qbbz (toY := qbc3)
def qbda : HS := ⟨[(0, .one (.sl .seen)), (1, .one (.sl .seen)), (5, .one (.int .i64))], [], 0⟩
def qbdb {R : Type} : Nat → HS.V qbda → (Ex → St → Option R) → Option R := fun q v K =>
  ref08_Same_L4 v.1.1 v.1.2.1 (K .ret { regs := [(4, .v (.one (.bool false)))], mem := [], nx := 0 }) (K (.exit 0) { regs := [], mem := [], nx := 0 }) q v.1.2.2.1
def qbdc : List HV := [.one (.sl .seen), .one (.sl .seen)]
def qbdd : List HV := [.one (.bool)]
def qbde : HP.V qbdc → (List Seen) × (List Seen) := fun v => (v.1, v.2.1)
def qbdf : HX.V qbdd → Bool := fun v => (v)
def qbdg : Bool → HX.V qbdd := fun y => (y)
def qbdh : (List Seen) × (List Seen) → Option (Bool) := fun x => ref08_Same x.1 x.2
def qbdi : Spec := mkSpec qbdc qbdd qbde qbdg qbdh
def qbdj {R : Type} : List (Nat × Hd R) := [(4, hdOf qbda qbdb)]
def qbdk {R : Type} : List (Nat × Inl R) := []
def qbdl : Cfg := { T := qbbx, glob := GlobL.G Tryz.prog, eqs := qbby, N := 26, fuel := 64, loops := [(4, ⟨[0, 1, 5], [], [], 0, [], [], [], []⟩)], blocks := [(0, ⟨[], [], [], 0, [], [], [], []⟩)], retA := some ⟨[4], [], [], 0, [], [], [], []⟩, fid := 43 }
theorem qbdm : CfgOK Tryz.prog qbdl := cfgC qbb0 qbb1 trivial
theorem qbdn {R : Type} : SubsOK Tryz.prog (R := R) 0 qbdk := subsOK_nil _ _
theorem qbdo {R : Type} : LoopOK (R := R) (hnd 0 qbdk) qbdl qbdj (sub [1, 1, 0, 1, 0, 0] qbb2) (HS.V qbda) (HS.st qbda) (HS.sh qbda) qbdb (hdOf qbda qbdb) := loopOK_of qbda qbdb (fun _ _ => rfl) (by intro q v K; kernel_rfl)
theorem qbdp {R : Type} : LoopsOK (R := R) (hnd 0 qbdk) qbdl qbdj qbb2 := loopsOK_of (l := [sub [1, 1, 0, 1, 0, 0] qbb2]) (by kernel_rfl) (loopsL_cons (b := sub [1, 1, 0, 1, 0, 0] qbb2) (rid := 4) (by kernel_rfl) (by kernel_rfl) qbdo (trivial))
theorem qbdq : SpecOK Tryz.prog 43 qbdi := specOK_a Tryz.f43 qbdm qbbz (d := 0) qbdn qbdp (rngs0 (by kernel_rfl)) (toY := qbdf)
end
end Go.Eng
set_option linter.unusedVariables false
set_option maxRecDepth 100000
namespace Go.Eng
noncomputable section
open Go Go.Proofs
def qbdr : List (Nat × TI) := [(3, ⟨false, 1, .one (.int .i64 0), .int .i64⟩), (9, ⟨false, 1, .one (.str []), .str⟩), (24, ⟨true, 4, .agg [.int .i64 0, .int .i64 0, .int .i64 0, .clip .inode []], .struct [(0, 3), (1, 3), (2, 3), (3, 22)]⟩), (32, ⟨false, 1, .one (.clip .entry []), .slice .entry 90⟩), (34, ⟨true, 6, .agg [.int .i64 0, .int .i64 0, .int .i64 0, .str [], .int .i64 0, .clip .entry []], .struct [(0, 3), (1, 3), (2, 3), (3, 9), (4, 3), (5, 32)]⟩), (38, ⟨true, 3, .agg [.int .i64 0, .str [], .int .i64 0], .struct [(0, 3), (1, 9), (2, 3)]⟩), (84, ⟨false, 1, .one (.clip .str []), .slice .str 9⟩)]
def qbds : List (Nat × List EK) := []
theorem qbdt : Tryz.prog.follows .mixedOrders = true := by kernel_rfl
theorem qbdu : (qbdr.all fun x => tiB Tryz.prog x.1 x.2) = true := by kernel_rfl
theorem qbdv : (qbds.all fun x => eqB Tryz.prog x.1 x.2) = true := by kernel_rfl
def qbdw : Code := bd Tryz.f18
def qbdx : HS := ⟨[(2, .one (.ptr 0 0)), (4, .one (.ptr 1 0)), (6, .one (.sl .str)), (8, .one (.ptr 2 0)), (9, .one (.int .i64))], [(0, .cells hFs), (1, .cells [.int .i64, .str, .int .i64]), (2, .cells [.int .i64, .str, .int .i64])], 3⟩
def qbdy {R : Type} : Nat → HS.V qbdx → (Ex → St → Option R) → Option R := fun q v K =>
  ref09_At_L6 v.1.2.2.1 (cFs v.2.1) (fun y11 => K .ret { regs := [(4, .v (.one (.ptr 1 0))), (5, .v (.one (.int .i64 y11)))], mem := [(1, .cells [.int .i64 ((⟨0, [], 0⟩ : Spotted).dir), .str ((⟨0, [], 0⟩ : Spotted).name), .int .i64 ((⟨0, [], 0⟩ : Spotted).ino)])], nx := 2 }) (fun y14 => K (.exit 0) { regs := [(4, .v (.one (.ptr 1 0))), (8, .v (.one (.ptr 2 0)))], mem := [(1, .cells [.int .i64 ((⟨v.2.2.1.1, v.2.2.1.2.1, v.2.2.1.2.2.1⟩ : Spotted).dir), .str ((⟨v.2.2.1.1, v.2.2.1.2.1, v.2.2.1.2.2.1⟩ : Spotted).name), .int .i64 ((⟨v.2.2.1.1, v.2.2.1.2.1, v.2.2.1.2.2.1⟩ : Spotted).ino)]), (2, .cells [.int .i64 y14.dir, .str y14.name, .int .i64 y14.ino])], nx := 3 }) q v.1.2.2.2.2.1 (⟨v.2.2.2.1.1, v.2.2.2.1.2.1, v.2.2.2.1.2.2.1⟩ : Spotted)
def qbdz : List HV := [.agg hFs, .one (.str)]
def qbd0 : List HV := [.agg [.int .i64, .str, .int .i64], .one (.int .i64)]
def qbd1 : HP.V qbdz → Fs × Str := fun v => ((cFs v.1), v.2.1)
def qbd2 : HX.V qbd0 → Spotted × Int := fun v => ((⟨v.1.1, v.1.2.1, v.1.2.2.1⟩ : Spotted), v.2)
def qbd3 : (Spotted × Int) → HX.V qbd0 := fun y => ((y.1.dir, (y.1.name, (y.1.ino, ()))), y.2)
def qbd4 : (Fs × Str) → Option (Spotted × Int) := fun x => ref09_At x.1 x.2
def qbd5 : Spec := mkSpec qbdz qbd0 qbd1 qbd3 qbd4
def qbd6 {R : Type} : List (Nat × Hd R) := [(6, hdOf qbdx qbdy)]
def qbd7 {R : Type} : List (Nat × Inl R) := []
def qbd8 : Cfg := { T := qbdr, spec := [(29, qa4l), (30, qa14), (52, qaz7)], glob := GlobL.G Tryz.prog, eqs := qbds, N := 63, fuel := 64, loops := [(6, ⟨[2, 4, 6, 8, 9], [], [0, 1, 2], 3, [], [], [], []⟩)], blocks := [(0, ⟨[4, 8], [], [1, 2], 3, [], [], [], []⟩)], retA := some ⟨[4, 5], [], [1], 2, [], [], [], []⟩, fid := 18 }
theorem qbd9 : CfgOK Tryz.prog qbd8 := cfgC qbdu qbdv ⟨qa4t, ⟨qa2c, ⟨qa0f, trivial⟩⟩⟩
theorem qbea {R : Type} : SubsOK Tryz.prog (R := R) 0 qbd7 := subsOK_nil _ _
theorem qbeb {R : Type} : LoopOK (R := R) (hnd 0 qbd7) qbd8 qbd6 (sub [1, 1, 1, 1, 0, 1, 0, 0] qbdw) (HS.V qbdx) (HS.st qbdx) (HS.sh qbdx) qbdy (hdOf qbdx qbdy) := loopOK_of qbdx qbdy (fun _ _ => rfl) (by intro q v K; kernel_rfl)
theorem qbec {R : Type} : LoopsOK (R := R) (hnd 0 qbd7) qbd8 qbd6 qbdw := loopsOK_of (l := [sub [1, 1, 1, 1, 0, 1, 0, 0] qbdw]) (by kernel_rfl) (loopsL_cons (b := sub [1, 1, 1, 1, 0, 1, 0, 0] qbdw) (rid := 6) (by kernel_rfl) (by kernel_rfl) qbeb (trivial))
theorem qbed : SpecOK Tryz.prog 18 qbd5 := specOK_a Tryz.f18 qbd9 qbdt (d := 0) qbea qbec (rngs0 (by kernel_rfl)) (toY := qbd2)
def qbee : List HV := [.agg hFs, .one (.str)]
def qbef : List HV := [.agg hIn, .one (.int .i64)]
def qbeg : HP.V qbee → Fs × Str := fun v => ((cFs v.1), v.2.1)
def qbeh : HX.V qbef → Inode × Int := fun v => ((cIn v.1), v.2)
def qbei : (Inode × Int) → HX.V qbef := fun y => ((y.1.ino, (y.1.kind, (y.1.links, (y.1.data, (y.1.parent, (y.1.entries, ())))))), y.2)
def qbej : (Fs × Str) → Option (Inode × Int) := fun x => ref09_Get x.1 x.2
def qbek : Spec := mkSpec qbee qbef qbeg qbei qbej
def qbel : Cfg := { T := qbdr, spec := [(18, qbd5), (29, qa4l)], glob := GlobL.G Tryz.prog, eqs := qbds, N := 32, fuel := 64, fid := 16 }
theorem qbem : CfgOK Tryz.prog qbel := cfgC qbdu qbdv ⟨qbed, ⟨qa4t, trivial⟩⟩
theorem qben : SpecOK Tryz.prog 16 qbek := specOK_0 Tryz.f16 qbem qbdt (toY := qbeh)
end
end Go.Eng
set_option linter.unusedVariables false
set_option maxRecDepth 100000
namespace Go.Eng
noncomputable section
open Go Go.Proofs
def qbeo : List (Nat × TI) := [(3, ⟨false, 1, .one (.int .i64 0), .int .i64⟩), (4, ⟨false, 1, .one (.bool false), .bool⟩), (9, ⟨false, 1, .one (.str []), .str⟩), (22, ⟨false, 1, .one (.clip .inode []), .slice .inode 34⟩), (24, ⟨true, 4, .agg [.int .i64 0, .int .i64 0, .int .i64 0, .clip .inode []], .struct [(0, 3), (1, 3), (2, 3), (3, 22)]⟩), (32, ⟨false, 1, .one (.clip .entry []), .slice .entry 90⟩), (34, ⟨true, 6, .agg [.int .i64 0, .int .i64 0, .int .i64 0, .str [], .int .i64 0, .clip .entry []], .struct [(0, 3), (1, 3), (2, 3), (3, 9), (4, 3), (5, 32)]⟩), (38, ⟨true, 3, .agg [.int .i64 0, .str [], .int .i64 0], .struct [(0, 3), (1, 9), (2, 3)]⟩), (84, ⟨false, 1, .one (.clip .str []), .slice .str 9⟩), (101, ⟨true, 3, .agg [.bool false, .clip .str [], .bool false], .struct [(0, 4), (1, 84), (2, 4)]⟩)]
def qbep : List (Nat × List EK) := []
theorem qbeq : Tryz.prog.follows .mixedOrders = true := by kernel_rfl
theorem qber : (qbeo.all fun x => tiB Tryz.prog x.1 x.2) = true := by kernel_rfl
theorem qbes : (qbep.all fun x => eqB Tryz.prog x.1 x.2) = true := by kernel_rfl
def qbet : Code := bd Tryz.f14
def qbeu : Code := bd Tryz.f98
def qbev : HS := ⟨[(1, .one (.str)), (2, .one (.str)), (3, .one (.ptr 0 0)), (7, .one (.int .i64))], [(0, .cells hFs)], 1⟩
def qbew {R : Type} : Nat → HS.V qbev → (Ex → St → Option R) → Option R := fun q v K =>
  ref10_Short_L2 (cFs v.2.1) (K .ret { regs := [(6, .v (.one (.bool false)))], mem := [], nx := 0 }) (K (.exit 0) { regs := [(1, .v (.one (.str v.1.1))), (2, .v (.one (.str v.1.2.1)))], mem := [], nx := 0 }) q v.1.2.2.2.1
def qbex : List HV := [.agg hFs, .one (.str), .one (.str)]
def qbey : List HV := [.one (.bool)]
def qbez : HP.V qbex → Fs × Str × Str := fun v => ((cFs v.1), v.2.1, v.2.2.1)
def qbe0 : HX.V qbey → Bool := fun v => (v)
def qbe1 : Bool → HX.V qbey := fun y => (y)
def qbe2 : (Fs × Str × Str) → Option (Bool) := fun x => ref10_Short x.1 x.2.1 x.2.2
def qbe3 : Spec := mkSpec qbex qbey qbez qbe1 qbe2
def qbe4 {R : Type} : List (Nat × Hd R) := [(2, hdOf qbev qbew)]
def qbe5 {R : Type} : List (Nat × Inl R) := []
def qbe6 : Cfg := { T := qbeo, glob := GlobL.G Tryz.prog, eqs := qbep, N := 44, fuel := 64, loops := [(2, ⟨[1, 2, 3, 7], [], [0], 1, [], [], [], []⟩)], blocks := [(0, ⟨[1, 2], [], [], 0, [], [], [], []⟩)], retA := some ⟨[6], [], [], 0, [], [], [], []⟩, fid := 14 }
theorem qbe7 : CfgOK Tryz.prog qbe6 := cfgC qber qbes trivial
theorem qbe8 {R : Type} : SubsOK Tryz.prog (R := R) 0 qbe5 := subsOK_nil _ _
theorem qbe9 {R : Type} : LoopOK (R := R) (hnd 0 qbe5) qbe6 qbe4 (sub [1, 0, 1, 0, 0] qbet) (HS.V qbev) (HS.st qbev) (HS.sh qbev) qbew (hdOf qbev qbew) := loopOK_of qbev qbew (fun _ _ => rfl) (by intro q v K; kernel_rfl)
theorem qbfa {R : Type} : LoopsOK (R := R) (hnd 0 qbe5) qbe6 qbe4 qbet := loopsOK_of (l := [sub [1, 0, 1, 0, 0] qbet]) (by kernel_rfl) (loopsL_cons (b := sub [1, 0, 1, 0, 0] qbet) (rid := 2) (by kernel_rfl) (by kernel_rfl) qbe9 (trivial))
theorem qbfb : SpecOK Tryz.prog 14 qbe3 := specOK_a Tryz.f14 qbe7 qbeq (d := 0) qbe8 qbfa (rngs0 (by kernel_rfl)) (toY := qbe0)
def qbfc : List HV := [.agg hFs, .one (.str)]
def qbfd : List HV := [.one (.int .i64), .one (.int .i64)]
def qbfe : HP.V qbfc → Fs × Str := fun v => ((cFs v.1), v.2.1)
def qbff : HX.V qbfd → Int × Int := fun v => (v.1, v.2)
def qbfg : (Int × Int) → HX.V qbfd := fun y => (y.1, y.2)
def qbfh : (Fs × Str) → Option (Int × Int) := fun x => ref10_Home x.1 x.2
def qbfi : Spec := mkSpec qbfc qbfd qbfe qbfg qbfh
def qbfj : Cfg := { T := qbeo, spec := [(16, qbek)], glob := GlobL.G Tryz.prog, eqs := qbep, N := 22, fuel := 64, fid := 97 }
theorem qbfk : CfgOK Tryz.prog qbfj := cfgC qber qbes ⟨qben, trivial⟩
theorem qbfl : SpecOK Tryz.prog 97 qbfi := specOK_0 Tryz.f97 qbfk qbeq (toY := qbff)
def qbfm : List HV := [.agg hFs, .agg [.int .i64, .str, .int .i64], .one (.sl .str), .one (.bool), .one (.bool), .one (.int .i64)]
def qbfn : List HV := [.agg [.int .i64, .str, .int .i64], .one (.int .i64)]
def qbfo : HP.V qbfm → Fs × Spotted × (List Str) × Bool × Bool × Int := fun v => ((cFs v.1), (⟨v.2.1.1, v.2.1.2.1, v.2.1.2.2.1⟩ : Spotted), v.2.2.1, v.2.2.2.1, v.2.2.2.2.1, v.2.2.2.2.2.1)
def qbfp : HX.V qbfn → Spotted × Int := fun v => ((⟨v.1.1, v.1.2.1, v.1.2.2.1⟩ : Spotted), v.2)
def qbfq : (Spotted × Int) → HX.V qbfn := fun y => ((y.1.dir, (y.1.name, (y.1.ino, ()))), y.2)
def qbfr (nn : Nat) : (Fs × Spotted × (List Str) × Bool × Bool × Int) → Option (Spotted × Int) := fun x => ref10_on_r nn x.1 x.2.1 x.2.2.1 x.2.2.2.1 x.2.2.2.2.1 x.2.2.2.2.2
def qbfs (nn : Nat) : Spec := mkSpec qbfm qbfn qbfo qbfq (qbfr nn)
def qbft : (Fs × Spotted × (List Str) × Bool × Bool × Int) → Option (Spotted × Int) := fun x => ref10_on x.1 x.2.1 x.2.2.1 x.2.2.2.1 x.2.2.2.2.1 x.2.2.2.2.2
def qbfu : Spec := mkSpec qbfm qbfn qbfo qbfq qbft
def qbfv {R : Type} (nn : Nat) : List (Nat × Hd R) := []
def qbfw {R : Type} (nn : Nat) : List (Nat × Inl R) := []
def qbfx (nn : Nat) : Cfg := { T := qbeo, spec := [(29, qa4l), (30, qa14), (95, qa0o), (96, qa03), (98, qbfs nn)], glob := GlobL.G Tryz.prog, eqs := qbep, N := 176, fuel := 64, fid := 98 }
theorem qbfy (nn : Nat) (hrec : SpecOK Tryz.prog 98 (qbfs nn)) : CfgOK Tryz.prog (qbfx nn) := cfgC qber qbes ⟨qa4t, ⟨qa2c, ⟨qa0w, ⟨qa06, ⟨hrec, trivial⟩⟩⟩⟩⟩
theorem qbfz {R : Type} (nn : Nat) : SubsOK Tryz.prog (R := R) 0 (qbfw nn) := subsOK_nil _ _
theorem qbf0 {R : Type} (nn : Nat) : LoopsOK (R := R) (hnd 0 (qbfw nn)) (qbfx nn) (qbfv nn) qbeu := loopsOK_of (l := []) (by kernel_rfl) (trivial)
theorem qbf1 (nn : Nat) : RngsOK Tryz.prog (qbfx nn) qbeu := rngs0 (by kernel_rfl)
theorem qbf2 (nn : Nat) : ∀ v, runFn (hnd 0 (qbfw nn)) (qbfx nn) (qbfv nn) qbeu Tryz.f98.results.toList (HP.st qbfm v) (decOf qbfn qbfp) = qbfr (nn + 1) (qbfo v) := by intro v; kernel_rfl
theorem qbf3 : ∀ nn, SpecOK Tryz.prog 98 (qbfs nn)
  | 0 => ⟨enters_of (fn := Tryz.f98) (body := qbeu) (by kernel_rfl) (by kernel_rfl) (by kernel_rfl), fun S w args vs x y _ _ _ _ h => by cases h⟩
  | nn + 1 => specOK_mk (fn := Tryz.f98) (by kernel_rfl) (by kernel_rfl) (by kernel_rfl) (qbfy nn (qbf3 nn)) (by kernel_rfl) (by kernel_rfl) qbeq (by kernel_rfl) (fun _ => rfl) (d := 0) (qbfz nn) (qbf0 nn) (qbf1 nn) (qbf2 nn)
theorem qbf4 : SpecOK Tryz.prog 98 qbfu := qbf3 FUEL
def qbf5 : List HV := [.agg hFs, .one (.str), .one (.str), .one (.bool)]
def qbf6 : List HV := [.agg [.int .i64, .str, .int .i64], .one (.int .i64)]
def qbf7 : HP.V qbf5 → Fs × Str × Str × Bool := fun v => ((cFs v.1), v.2.1, v.2.2.1, v.2.2.2.1)
def qbf8 : HX.V qbf6 → Spotted × Int := fun v => ((⟨v.1.1, v.1.2.1, v.1.2.2.1⟩ : Spotted), v.2)
def qbf9 : (Spotted × Int) → HX.V qbf6 := fun y => ((y.1.dir, (y.1.name, (y.1.ino, ()))), y.2)
def qbga : (Fs × Str × Str × Bool) → Option (Spotted × Int) := fun x => ref10_Seek x.1 x.2.1 x.2.2.1 x.2.2.2
def qbgb : Spec := mkSpec qbf5 qbf6 qbf7 qbf9 qbga
def qbgc : Cfg := { T := qbeo, spec := [(95, qa0o), (96, qa03), (97, qbfi), (98, qbfu)], glob := GlobL.G Tryz.prog, eqs := qbep, N := 47, fuel := 64, fid := 67 }
theorem qbgd : CfgOK Tryz.prog qbgc := cfgC qber qbes ⟨qa0w, ⟨qa06, ⟨qbfl, ⟨qbf4, trivial⟩⟩⟩⟩
theorem qbge : SpecOK Tryz.prog 67 qbgb := specOK_0 Tryz.f67 qbgd qbeq (toY := qbf8)
end
end Go.Eng
set_option linter.unusedVariables false
set_option maxRecDepth 100000
namespace Go.Eng
noncomputable section
open Go Go.Proofs
def qbgf : List (Nat × TI) := [(3, ⟨false, 1, .one (.int .i64 0), .int .i64⟩), (4, ⟨false, 1, .one (.bool false), .bool⟩), (9, ⟨false, 1, .one (.str []), .str⟩), (24, ⟨true, 4, .agg [.int .i64 0, .int .i64 0, .int .i64 0, .clip .inode []], .struct [(0, 3), (1, 3), (2, 3), (3, 22)]⟩), (34, ⟨true, 6, .agg [.int .i64 0, .int .i64 0, .int .i64 0, .str [], .int .i64 0, .clip .entry []], .struct [(0, 3), (1, 3), (2, 3), (3, 9), (4, 3), (5, 32)]⟩), (38, ⟨true, 3, .agg [.int .i64 0, .str [], .int .i64 0], .struct [(0, 3), (1, 9), (2, 3)]⟩)]
def qbgg : List (Nat × List EK) := []
theorem qbgh : Tryz.prog.follows .mixedOrders = true := by kernel_rfl
theorem qbgi : (qbgf.all fun x => tiB Tryz.prog x.1 x.2) = true := by kernel_rfl
theorem qbgj : (qbgg.all fun x => eqB Tryz.prog x.1 x.2) = true := by kernel_rfl
def qbgk : List HV := [.agg hFs, .one (.str), .one (.str), .one (.bool)]
def qbgl : List HV := [.agg hIn, .one (.int .i64)]
def qbgm : HP.V qbgk → Fs × Str × Str × Bool := fun v => ((cFs v.1), v.2.1, v.2.2.1, v.2.2.2.1)
def qbgn : HX.V qbgl → Inode × Int := fun v => ((cIn v.1), v.2)
def qbgo : (Inode × Int) → HX.V qbgl := fun y => ((y.1.ino, (y.1.kind, (y.1.links, (y.1.data, (y.1.parent, (y.1.entries, ())))))), y.2)
def qbgp : (Fs × Str × Str × Bool) → Option (Inode × Int) := fun x => ref13_Stat x.1 x.2.1 x.2.2.1 x.2.2.2
def qbgq : Spec := mkSpec qbgk qbgl qbgm qbgo qbgp
def qbgr : Cfg := { T := qbgf, spec := [(29, qa4l), (67, qbgb)], glob := GlobL.G Tryz.prog, eqs := qbgg, N := 37, fuel := 64, fid := 34 }
theorem qbgs : CfgOK Tryz.prog qbgr := cfgC qbgi qbgj ⟨qa4t, ⟨qbge, trivial⟩⟩
theorem qbgt : SpecOK Tryz.prog 34 qbgq := specOK_0 Tryz.f34 qbgs qbgh (toY := qbgn)
def qbgu : List HV := [.agg hFs, .one (.str), .one (.str)]
def qbgv : List HV := [.one (.str), .one (.int .i64)]
def qbgw : HP.V qbgu → Fs × Str × Str := fun v => ((cFs v.1), v.2.1, v.2.2.1)
def qbgx : HX.V qbgv → Str × Int := fun v => (v.1, v.2)
def qbgy : (Str × Int) → HX.V qbgv := fun y => (y.1, y.2)
def qbgz : (Fs × Str × Str) → Option (Str × Int) := fun x => ref13_Read x.1 x.2.1 x.2.2
def qbg0 : Spec := mkSpec qbgu qbgv qbgw qbgy qbgz
def qbg1 : Cfg := { T := qbgf, spec := [(34, qbgq)], glob := GlobL.G Tryz.prog, eqs := qbgg, N := 25, fuel := 64, fid := 36 }
theorem qbg2 : CfgOK Tryz.prog qbg1 := cfgC qbgi qbgj ⟨qbgt, trivial⟩
theorem qbg3 : SpecOK Tryz.prog 36 qbg0 := specOK_0 Tryz.f36 qbg2 qbgh (toY := qbgx)
def qbg4 : List HV := [.agg hFs, .one (.str), .one (.str)]
def qbg5 : List HV := [.one (.str), .one (.int .i64)]
def qbg6 : HP.V qbg4 → Fs × Str × Str := fun v => ((cFs v.1), v.2.1, v.2.2.1)
def qbg7 : HX.V qbg5 → Str × Int := fun v => (v.1, v.2)
def qbg8 : (Str × Int) → HX.V qbg5 := fun y => (y.1, y.2)
def qbg9 : (Fs × Str × Str) → Option (Str × Int) := fun x => ref13_Readlink x.1 x.2.1 x.2.2
def qbha : Spec := mkSpec qbg4 qbg5 qbg6 qbg8 qbg9
def qbhb : Cfg := { T := qbgf, spec := [(34, qbgq)], glob := GlobL.G Tryz.prog, eqs := qbgg, N := 25, fuel := 64, fid := 38 }
theorem qbhc : CfgOK Tryz.prog qbhb := cfgC qbgi qbgj ⟨qbgt, trivial⟩
theorem qbhd : SpecOK Tryz.prog 38 qbha := specOK_0 Tryz.f38 qbhc qbgh (toY := qbg7)
def qbhe : List HV := [.agg hFs, .one (.int .i64), .one (.str)]
def qbhf : List HV := [.agg hFs, .one (.int .i64)]
def qbhg : HP.V qbhe → Fs × Int × Str := fun v => ((cFs v.1), v.2.1, v.2.2.1)
def qbhh : HX.V qbhf → Fs × Int := fun v => ((cFs v.1), v.2)
def qbhi : (Fs × Int) → HX.V qbhf := fun y => ((y.1.maxInodes, (y.1.maxBytes, (y.1.next, (y.1.inodes, ())))), y.2)
def qbhj : (Fs × Int × Str) → Option (Fs × Int) := fun x => ref13_Set x.1 x.2.1 x.2.2
def qbhk : Spec := mkSpec qbhe qbhf qbhg qbhi qbhj
def qbhl : Cfg := { T := qbgf, spec := [(29, qa4l), (54, qa34), (71, qa7p)], glob := GlobL.G Tryz.prog, eqs := qbgg, N := 31, fuel := 64, fid := 42 }
theorem qbhm : CfgOK Tryz.prog qbhl := cfgC qbgi qbgj ⟨qa4t, ⟨qa4c, ⟨qa7s, trivial⟩⟩⟩
theorem qbhn : SpecOK Tryz.prog 42 qbhk := specOK_0 Tryz.f42 qbhm qbgh (toY := qbhh)
def qbho : List HV := [.agg hFs, .one (.str), .one (.str), .one (.str)]
def qbhp : List HV := [.agg hFs, .one (.int .i64)]
def qbhq : HP.V qbho → Fs × Str × Str × Str := fun v => ((cFs v.1), v.2.1, v.2.2.1, v.2.2.2.1)
def qbhr : HX.V qbhp → Fs × Int := fun v => ((cFs v.1), v.2)
def qbhs : (Fs × Int) → HX.V qbhp := fun y => ((y.1.maxInodes, (y.1.maxBytes, (y.1.next, (y.1.inodes, ())))), y.2)
def qbht : (Fs × Str × Str × Str) → Option (Fs × Int) := fun x => ref13_Write x.1 x.2.1 x.2.2.1 x.2.2.2
def qbhu : Spec := mkSpec qbho qbhp qbhq qbhs qbht
def qbhv : Cfg := { T := qbgf, spec := [(34, qbgq), (36, qbg0), (42, qbhk)], glob := GlobL.G Tryz.prog, eqs := qbgg, N := 39, fuel := 64, fid := 40 }
theorem qbhw : CfgOK Tryz.prog qbhv := cfgC qbgi qbgj ⟨qbgt, ⟨qbg3, ⟨qbhn, trivial⟩⟩⟩
theorem qbhx : SpecOK Tryz.prog 40 qbhu := specOK_0 Tryz.f40 qbhw qbgh (toY := qbhr)
end
end Go.Eng
set_option linter.unusedVariables false
set_option maxRecDepth 100000
namespace Go.Eng
noncomputable section
open Go Go.Proofs
def qbhy : List (Nat × TI) := [(3, ⟨false, 1, .one (.int .i64 0), .int .i64⟩), (4, ⟨false, 1, .one (.bool false), .bool⟩), (9, ⟨false, 1, .one (.str []), .str⟩), (22, ⟨false, 1, .one (.clip .inode []), .slice .inode 34⟩), (24, ⟨true, 4, .agg [.int .i64 0, .int .i64 0, .int .i64 0, .clip .inode []], .struct [(0, 3), (1, 3), (2, 3), (3, 22)]⟩), (28, ⟨false, 1, .one (.clip .seen []), .slice .seen 31⟩), (31, ⟨true, 2, .agg [.str [], .int .i64 0], .struct [(0, 9), (1, 3)]⟩), (32, ⟨false, 1, .one (.clip .entry []), .slice .entry 90⟩), (34, ⟨true, 6, .agg [.int .i64 0, .int .i64 0, .int .i64 0, .str [], .int .i64 0, .clip .entry []], .struct [(0, 3), (1, 3), (2, 3), (3, 9), (4, 3), (5, 32)]⟩), (90, ⟨true, 2, .agg [.str [], .int .i64 0], .struct [(0, 9), (1, 3)]⟩)]
def qbhz : List (Nat × List EK) := []
theorem qbh0 : Tryz.prog.follows .mixedOrders = true := by kernel_rfl
theorem qbh1 : (qbhy.all fun x => tiB Tryz.prog x.1 x.2) = true := by kernel_rfl
theorem qbh2 : (qbhz.all fun x => eqB Tryz.prog x.1 x.2) = true := by kernel_rfl
def qbh3 : Code := bd Tryz.f10
def qbh4 : List HV := []
def qbh5 : List HV := [.agg hFs]
def qbh6 : HP.V qbh4 → Unit := fun v => ()
def qbh7 : HX.V qbh5 → Fs := fun v => ((cFs v))
def qbh8 : Fs → HX.V qbh5 := fun y => ((y.maxInodes, (y.maxBytes, (y.next, (y.inodes, ())))))
def qbh9 : Unit → Option (Fs) := fun x => law13_small
def qbia : Spec := mkSpec qbh4 qbh5 qbh6 qbh8 qbh9
def qbib : Cfg := { T := qbhy, spec := [(53, qa3b), (54, qa34)], glob := GlobL.G Tryz.prog, eqs := qbhz, N := 16, fuel := 64, fid := 66 }
theorem qbic : CfgOK Tryz.prog qbib := cfgC qbh1 qbh2 ⟨qa3e, ⟨qa4c, trivial⟩⟩
theorem qbid : SpecOK Tryz.prog 66 qbia := specOK_0 Tryz.f66 qbic qbh0 (toY := qbh7)
def qbie : List HV := []
def qbif : List HV := [.one (.bool)]
def qbig : HP.V qbie → Unit := fun v => ()
def qbih : HX.V qbif → Bool := fun v => (v)
def qbii : Bool → HX.V qbif := fun y => (y)
def qbij : Unit → Option (Bool) := fun x => law13_awake
def qbik : Spec := mkSpec qbie qbif qbig qbii qbij
def qbil : Cfg := { T := qbhy, spec := [(33, qaws), (35, qaxc), (37, qaxm), (39, qax6), (41, qaxw), (66, qbia)], glob := GlobL.G Tryz.prog, eqs := qbhz, N := 113, fuel := 64, fid := 31 }
theorem qbim : CfgOK Tryz.prog qbil := cfgC qbh1 qbh2 ⟨qawv, ⟨qaxf, ⟨qaxp, ⟨qax9, ⟨qaxz, ⟨qbid, trivial⟩⟩⟩⟩⟩⟩
theorem qbin : SpecOK Tryz.prog 31 qbik := specOK_0 Tryz.f31 qbim qbh0 (toY := qbih)
def qbio : List HV := [.agg hFs, .one (.str), .one (.str), .one (.str)]
def qbip : List HV := [.one (.bool)]
def qbiq : HP.V qbio → Fs × Str × Str × Str := fun v => ((cFs v.1), v.2.1, v.2.2.1, v.2.2.2.1)
def qbir : HX.V qbip → Bool := fun v => (v)
def qbis : Bool → HX.V qbip := fun y => (y)
def qbit : (Fs × Str × Str × Str) → Option (Bool) := fun x => law13_fits x.1 x.2.1 x.2.2.1 x.2.2.2
def qbiu : Spec := mkSpec qbio qbip qbiq qbis qbit
def qbiv : Cfg := { T := qbhy, spec := [(13, qbbt), (14, qbe3)], glob := GlobL.G Tryz.prog, eqs := qbhz, N := 22, fuel := 64, fid := 32 }
theorem qbiw : CfgOK Tryz.prog qbiv := cfgC qbh1 qbh2 ⟨qbbw, ⟨qbfb, trivial⟩⟩
theorem qbix : SpecOK Tryz.prog 32 qbiu := specOK_0 Tryz.f32 qbiw qbh0 (toY := qbir)
def qbiy : List HV := [.agg hFs, .one (.str), .one (.str), .one (.bool)]
def qbiz : List HV := [.one (.bool)]
def qbi0 : HP.V qbiy → Fs × Str × Str × Bool := fun v => ((cFs v.1), v.2.1, v.2.2.1, v.2.2.2.1)
def qbi1 : HX.V qbiz → Bool := fun v => (v)
def qbi2 : Bool → HX.V qbiz := fun y => (y)
def qbi3 : (Fs × Str × Str × Bool) → Option (Bool) := fun x => law13_DataReads x.1 x.2.1 x.2.2.1 x.2.2.2
def qbi4 : Spec := mkSpec qbiy qbiz qbi0 qbi2 qbi3
def qbi5 : Cfg := { T := qbhy, spec := [(23, qa51), (31, qbik), (32, qbiu), (33, qaws), (34, qbgq), (35, qaxc), (36, qbg0), (37, qaxm), (38, qbha)], glob := GlobL.G Tryz.prog, eqs := qbhz, N := 103, fuel := 64, fid := 7 }
theorem qbi6 : CfgOK Tryz.prog qbi5 := cfgC qbh1 qbh2 ⟨qa54, ⟨qbin, ⟨qbix, ⟨qawv, ⟨qbgt, ⟨qaxf, ⟨qbg3, ⟨qaxp, ⟨qbhd, trivial⟩⟩⟩⟩⟩⟩⟩⟩⟩
theorem qbi7 : SpecOK Tryz.prog 7 qbi4 := specOK_0 Tryz.f7 qbi6 qbh0 (toY := qbi1)
def qbi8 : List HV := [.agg hFs, .one (.str), .one (.str), .one (.str)]
def qbi9 : List HV := [.one (.bool)]
def qbja : HP.V qbi8 → Fs × Str × Str × Str := fun v => ((cFs v.1), v.2.1, v.2.2.1, v.2.2.2.1)
def qbjb : HX.V qbi9 → Bool := fun v => (v)
def qbjc : Bool → HX.V qbi9 := fun y => (y)
def qbjd : (Fs × Str × Str × Str) → Option (Bool) := fun x => law13_DataWrites x.1 x.2.1 x.2.2.1 x.2.2.2
def qbje : Spec := mkSpec qbi8 qbi9 qbja qbjc qbjd
def qbjf : Cfg := { T := qbhy, spec := [(24, qa6s), (31, qbik), (32, qbiu), (39, qax6), (40, qbhu)], glob := GlobL.G Tryz.prog, eqs := qbhz, N := 48, fuel := 64, fid := 8 }
theorem qbjg : CfgOK Tryz.prog qbjf := cfgC qbh1 qbh2 ⟨qa6v, ⟨qbin, ⟨qbix, ⟨qax9, ⟨qbhx, trivial⟩⟩⟩⟩⟩
theorem qbjh : SpecOK Tryz.prog 8 qbje := specOK_0 Tryz.f8 qbjg qbh0 (toY := qbjb)
def qbji : List HV := [.agg hFs, .one (.int .i64), .one (.str)]
def qbjj : List HV := [.one (.bool)]
def qbjk : HP.V qbji → Fs × Int × Str := fun v => ((cFs v.1), v.2.1, v.2.2.1)
def qbjl : HX.V qbjj → Bool := fun v => (v)
def qbjm : Bool → HX.V qbjj := fun y => (y)
def qbjn : (Fs × Int × Str) → Option (Bool) := fun x => law13_DataSets x.1 x.2.1 x.2.2
def qbjo : Spec := mkSpec qbji qbjj qbjk qbjm qbjn
def qbjp : Cfg := { T := qbhy, spec := [(24, qa6s), (29, qa4l), (31, qbik), (32, qbiu), (41, qaxw), (42, qbhk)], glob := GlobL.G Tryz.prog, eqs := qbhz, N := 57, fuel := 64, fid := 9 }
theorem qbjq : CfgOK Tryz.prog qbjp := cfgC qbh1 qbh2 ⟨qa6v, ⟨qa4t, ⟨qbin, ⟨qbix, ⟨qaxz, ⟨qbhn, trivial⟩⟩⟩⟩⟩⟩
theorem qbjr : SpecOK Tryz.prog 9 qbjo := specOK_0 Tryz.f9 qbjq qbh0 (toY := qbjl)
def qbjs : HS := ⟨[(1, .one (.str)), (2, .one (.str)), (3, .one (.str)), (4, .one (.ptr 0 0)), (9, .one (.str)), (11, .one (.ptr 1 0)), (13, .one (.ptr 2 0)), (15, .one (.sl .seen)), (16, .one (.int .i64))], [(0, .cells hFs), (1, .cells hFs), (2, .cells hIn)], 3⟩
def qbjt {R : Type} : Nat → HS.V qbjs → (Ex → St → Option R) → Option R := fun q v K =>
  law13_DataBack_L14 v.1.2.2.1 v.1.2.2.2.2.2.2.2.1 (cFs v.2.1) (cFs v.2.2.1) (cIn v.2.2.2.1) (K .ret { regs := [(8, .v (.one (.bool false)))], mem := [], nx := 0 }) (K (.exit 0) { regs := [(1, .v (.one (.str v.1.1))), (2, .v (.one (.str v.1.2.1))), (4, .v (.one (.ptr 0 0))), (9, .v (.one (.str v.1.2.2.2.2.1))), (11, .v (.one (.ptr 1 0)))], mem := [(0, .cells (rFs (cFs v.2.1))), (1, .cells (rFs (cFs v.2.2.1)))], nx := 2 }) q v.1.2.2.2.2.2.2.2.2.1
def qbju : List HV := [.agg hFs, .one (.str), .one (.str), .one (.str)]
def qbjv : List HV := [.one (.bool)]
def qbjw : HP.V qbju → Fs × Str × Str × Str := fun v => ((cFs v.1), v.2.1, v.2.2.1, v.2.2.2.1)
def qbjx : HX.V qbjv → Bool := fun v => (v)
def qbjy : Bool → HX.V qbjv := fun y => (y)
def qbjz : (Fs × Str × Str × Str) → Option (Bool) := fun x => law13_DataBack x.1 x.2.1 x.2.2.1 x.2.2.2
def qbj0 : Spec := mkSpec qbju qbjv qbjw qbjy qbjz
def qbj1 {R : Type} : List (Nat × Hd R) := [(14, hdOf qbjs qbjt)]
def qbj2 {R : Type} : List (Nat × Inl R) := []
def qbj3 : Cfg := { T := qbhy, spec := [(15, qbc6), (24, qa6s), (29, qa4l), (31, qbik), (32, qbiu), (34, qbgq), (35, qaxc), (39, qax6), (43, qbdi), (44, qbbj)], glob := GlobL.G Tryz.prog, eqs := qbhz, N := 167, fuel := 64, loops := [(14, ⟨[1, 2, 3, 4, 9, 11, 13, 15, 16], [], [0, 1, 2], 3, [], [], [], []⟩)], blocks := [(0, ⟨[1, 2, 4, 9, 11], [], [0, 1], 2, [], [], [], []⟩)], retA := some ⟨[8], [], [], 0, [], [], [], []⟩, fid := 10 }
theorem qbj4 : CfgOK Tryz.prog qbj3 := cfgC qbh1 qbh2 ⟨qbc9, ⟨qa6v, ⟨qa4t, ⟨qbin, ⟨qbix, ⟨qbgt, ⟨qaxf, ⟨qax9, ⟨qbdq, ⟨qbbm, trivial⟩⟩⟩⟩⟩⟩⟩⟩⟩⟩
theorem qbj5 {R : Type} : SubsOK Tryz.prog (R := R) 0 qbj2 := subsOK_nil _ _
theorem qbj6 {R : Type} : LoopOK (R := R) (hnd 0 qbj2) qbj3 qbj1 (sub [1, 1, 1, 1, 1, 1, 1, 1, 1, 0, 1, 0, 0] qbh3) (HS.V qbjs) (HS.st qbjs) (HS.sh qbjs) qbjt (hdOf qbjs qbjt) := loopOK_of qbjs qbjt (fun _ _ => rfl) (by intro q v K; kernel_rfl)
theorem qbj7 {R : Type} : LoopsOK (R := R) (hnd 0 qbj2) qbj3 qbj1 qbh3 := loopsOK_of (l := [sub [1, 1, 1, 1, 1, 1, 1, 1, 1, 0, 1, 0, 0] qbh3]) (by kernel_rfl) (loopsL_cons (b := sub [1, 1, 1, 1, 1, 1, 1, 1, 1, 0, 1, 0, 0] qbh3) (rid := 14) (by kernel_rfl) (by kernel_rfl) qbj6 (trivial))
theorem qbj8 : SpecOK Tryz.prog 10 qbj0 := specOK_a Tryz.f10 qbj4 qbh0 (d := 0) qbj5 qbj7 (rngs0 (by kernel_rfl)) (toY := qbjx)
def qbj9 : List HV := [.agg hFs, .one (.str), .one (.str), .one (.str)]
def qbka : List HV := [.one (.bool)]
def qbkb : HP.V qbj9 → Fs × Str × Str × Str := fun v => ((cFs v.1), v.2.1, v.2.2.1, v.2.2.2.1)
def qbkc : HX.V qbka → Bool := fun v => (v)
def qbkd : Bool → HX.V qbka := fun y => (y)
def qbke : (Fs × Str × Str × Str) → Option (Bool) := fun x => law13_DataKeeps x.1 x.2.1 x.2.2.1 x.2.2.2
def qbkf : Spec := mkSpec qbj9 qbka qbkb qbkd qbke
def qbkg : Cfg := { T := qbhy, spec := [(24, qa6s), (31, qbik), (32, qbiu), (39, qax6), (40, qbhu)], glob := GlobL.G Tryz.prog, eqs := qbhz, N := 59, fuel := 64, fid := 11 }
theorem qbkh : CfgOK Tryz.prog qbkg := cfgC qbh1 qbh2 ⟨qa6v, ⟨qbin, ⟨qbix, ⟨qax9, ⟨qbhx, trivial⟩⟩⟩⟩⟩
theorem qbki : SpecOK Tryz.prog 11 qbkf := specOK_0 Tryz.f11 qbkh qbh0 (toY := qbkc)
end
end Go.Eng
