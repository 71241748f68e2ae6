/-
  NARROWER THAN 'FOR EVERY INPUT', by the rows' own cells (each row's printed sentence says how): ExecRuns: laid · ExecUndos: laid · ExecBack: laid · ExecStays: laid · UndoBacks: laid · UndoFinds: laid · UndoNothing: laid · UndoStays: laid.
  DERIVED. THE GIVEN ROWS OF THIS SEAT. 8 by the template 'for every input the law returns true; each argument reads behind the call as it read before'; 0 by the template 'total and deterministic' (their statements: YtodknkhemckfbaaGreatDoorTotals.lean).
  GIVEN WITH THE SEED: the statements are not yours to turn. If you find one false, say at which input.
  Laid BY PROGRAM, IN A SANDBOX (cutbox-rows.mjs): the forced cells as the released guide's own fill.sh prints them over the translation 8942c6e0bf52f05c… (all of the seat's roots in one cut). By AI agents, Wed Nov 11 2026. No macro, syntax, notation, axiom, sorry.
-/
import Derived.Test.YtodknkhemckfbaaGreatDoorChecked
import GoSem.PinnedTables
import GoSem.Claim
import GoSem.ClaimJoined
import GoSem.ClaimMapViews
import Derived.JoinedTies
import Derived.KernelRfl
namespace Go.Proofs.YtodknkhemckfbaaGreatDoor
/- THE CELL 'sum', in the pinned program and in every row, IS THE sha256 OF THE DUMP (.gsa) THAT YtodknkhemckfbaaGreatDoorProg.lean LOADS. Nothing in Lean hashes anything: it is a label: what it is worth is what the hold of that sum in a sandbox is worth. -/
noncomputable def Tryz.pinned : Pinned := { name := "ytodknkhemckfbaagreatdoor", sum := "8942c6e0bf52f05cf87417393ba5138659518f13c446d6fb0d149296a29e0d88", checked := Tryz.checked }
namespace Rows
def none {H : Type} : Left H := { results := [], args := [] }

/- WHAT THE LISTED PACKAGE-LEVEL VARIABLES READ AS WHEN THE CALL BEGINS. Each datum BY PROGRAM (the guide's laid-datum.mjs) off the statement by which the dump's own 'gosem.cut.vars' lays the variable. In a bare row this is a premise. The card (YtodknkhemckfbaaGreatDoorCards.lean) ties it to the program's text. -/
def laid_unicode_utf8_acceptRanges {H : Type} : DataW H := .agg [.agg [.lit (.int .u8 128), .lit (.int .u8 191)], .agg [.lit (.int .u8 160), .lit (.int .u8 191)], .agg [.lit (.int .u8 128), .lit (.int .u8 159)], .agg [.lit (.int .u8 144), .lit (.int .u8 191)], .agg [.lit (.int .u8 128), .lit (.int .u8 143)], .agg [.lit (.int .u8 0), .lit (.int .u8 0)], .agg [.lit (.int .u8 0), .lit (.int .u8 0)], .agg [.lit (.int .u8 0), .lit (.int .u8 0)], .agg [.lit (.int .u8 0), .lit (.int .u8 0)], .agg [.lit (.int .u8 0), .lit (.int .u8 0)], .agg [.lit (.int .u8 0), .lit (.int .u8 0)], .agg [.lit (.int .u8 0), .lit (.int .u8 0)], .agg [.lit (.int .u8 0), .lit (.int .u8 0)], .agg [.lit (.int .u8 0), .lit (.int .u8 0)], .agg [.lit (.int .u8 0), .lit (.int .u8 0)], .agg [.lit (.int .u8 0), .lit (.int .u8 0)]]
def laid_drayman_op_has {H : Type} : DataW H := .agg [.agg [.lit (.bool false), .lit (.bool false), .lit (.bool false)], .agg [.lit (.bool false), .lit (.bool false), .lit (.bool false)], .agg [.lit (.bool false), .lit (.bool true), .lit (.bool false)], .agg [.lit (.bool true), .lit (.bool true), .lit (.bool false)], .agg [.lit (.bool false), .lit (.bool false), .lit (.bool true)], .agg [.lit (.bool false), .lit (.bool true), .lit (.bool false)], .agg [.lit (.bool false), .lit (.bool true), .lit (.bool false)], .agg [.lit (.bool true), .lit (.bool false), .lit (.bool false)], .agg [.lit (.bool false), .lit (.bool false), .lit (.bool false)], .agg [.lit (.bool true), .lit (.bool false), .lit (.bool false)], .agg [.lit (.bool true), .lit (.bool false), .lit (.bool false)]]
/-- One of Go's own tables, pinned by name: the form's constant. -/
def laid_unicode_utf8_first : DataW Unit := Go.Pinned.utf8First

/-- 'draymanlaw23.ExecRuns': WHATEVER THE INPUT: true; the input reads as it did. -/
def execRunsSpec : ChangeSpec := { name := "execRuns", fn := fun _ => fun
  | [d1, d2, d3] => { results := [.lit (.bool true)], args := [d1, d2, d3] }
  | _ => none }
def execRunsRow : OpenClaim := { program := "ytodknkhemckfbaagreatdoor", sum := "8942c6e0bf52f05cf87417393ba5138659518f13c446d6fb0d149296a29e0d88", func := "drayman/draymanlaw23.ExecRuns", spec := "execRuns", inPlace := ["internal/bytealg.IndexByteString", "internal/bytealg.IndexString", "internal/abi.NoEscape", "internal/bytealg.MakeNoZero", "internal/bytealg.abigen_runtime_cmpstring", "slices.overlaps[drayman/api.Entry]", "slices.overlaps[drayman/api.Inode]", "slices.overlaps[drayman/api.Kept]"], unfollowed := true, recurses := true, named := ["drayman/op.has", "unicode/utf8.first", "unicode/utf8.acceptRanges", "internal/bytealg.MaxLen"], apart := false, laid := [("unicode/utf8.acceptRanges", laid_unicode_utf8_acceptRanges), ("drayman/op.has", laid_drayman_op_has), ("unicode/utf8.first", laid_unicode_utf8_first)] }
def ExecRunsSaid : Prop := execRunsRow.holds Tryz.pinned (OpenSpec.ofChange execRunsSpec)

/-- ITS FALSE NEIGHBOUR: 'it returns false'. Refute it at one input. -/
def execRunsWrong : ChangeSpec := { name := "execRuns", fn := fun _ => fun
  | [d1, d2, d3] => { results := [.lit (.bool false)], args := [d1, d2, d3] }
  | _ => none }
def ExecRunsWrongFalsely : Prop := execRunsRow.holds Tryz.pinned (OpenSpec.ofChange execRunsWrong)

/-- 'draymanlaw23.ExecUndos': WHATEVER THE INPUT: true; the input reads as it did. -/
def execUndosSpec : ChangeSpec := { name := "execUndos", fn := fun _ => fun
  | [d1, d2] => { results := [.lit (.bool true)], args := [d1, d2] }
  | _ => none }
def execUndosRow : OpenClaim := { program := "ytodknkhemckfbaagreatdoor", sum := "8942c6e0bf52f05cf87417393ba5138659518f13c446d6fb0d149296a29e0d88", func := "drayman/draymanlaw23.ExecUndos", spec := "execUndos", inPlace := ["internal/bytealg.IndexByteString", "internal/bytealg.IndexString", "internal/abi.NoEscape", "internal/bytealg.MakeNoZero", "internal/bytealg.abigen_runtime_cmpstring", "slices.overlaps[drayman/api.Entry]", "slices.overlaps[drayman/api.Inode]", "slices.overlaps[drayman/api.Kept]"], unfollowed := true, recurses := true, named := ["drayman/op.has", "unicode/utf8.first", "unicode/utf8.acceptRanges", "internal/bytealg.MaxLen"], apart := false, laid := [("unicode/utf8.acceptRanges", laid_unicode_utf8_acceptRanges), ("drayman/op.has", laid_drayman_op_has), ("unicode/utf8.first", laid_unicode_utf8_first)] }
def ExecUndosSaid : Prop := execUndosRow.holds Tryz.pinned (OpenSpec.ofChange execUndosSpec)

/-- ITS FALSE NEIGHBOUR: 'it returns false'. Refute it at one input. -/
def execUndosWrong : ChangeSpec := { name := "execUndos", fn := fun _ => fun
  | [d1, d2] => { results := [.lit (.bool false)], args := [d1, d2] }
  | _ => none }
def ExecUndosWrongFalsely : Prop := execUndosRow.holds Tryz.pinned (OpenSpec.ofChange execUndosWrong)

/-- 'draymanlaw23.ExecBack': WHATEVER THE INPUT: true; the input reads as it did. -/
def execBackSpec : ChangeSpec := { name := "execBack", fn := fun _ => fun
  | [d1, d2, d3] => { results := [.lit (.bool true)], args := [d1, d2, d3] }
  | _ => none }
def execBackRow : OpenClaim := { program := "ytodknkhemckfbaagreatdoor", sum := "8942c6e0bf52f05cf87417393ba5138659518f13c446d6fb0d149296a29e0d88", func := "drayman/draymanlaw23.ExecBack", spec := "execBack", inPlace := ["internal/bytealg.IndexByteString", "internal/bytealg.IndexString", "internal/abi.NoEscape", "internal/bytealg.MakeNoZero", "internal/bytealg.abigen_runtime_cmpstring", "slices.overlaps[drayman/api.Entry]", "slices.overlaps[drayman/api.Inode]", "slices.overlaps[drayman/api.Kept]"], unfollowed := true, recurses := true, named := ["drayman/op.has", "unicode/utf8.first", "unicode/utf8.acceptRanges", "internal/bytealg.MaxLen"], apart := false, laid := [("unicode/utf8.acceptRanges", laid_unicode_utf8_acceptRanges), ("drayman/op.has", laid_drayman_op_has), ("unicode/utf8.first", laid_unicode_utf8_first)] }
def ExecBackSaid : Prop := execBackRow.holds Tryz.pinned (OpenSpec.ofChange execBackSpec)

/-- ITS FALSE NEIGHBOUR: 'it returns false'. Refute it at one input. -/
def execBackWrong : ChangeSpec := { name := "execBack", fn := fun _ => fun
  | [d1, d2, d3] => { results := [.lit (.bool false)], args := [d1, d2, d3] }
  | _ => none }
def ExecBackWrongFalsely : Prop := execBackRow.holds Tryz.pinned (OpenSpec.ofChange execBackWrong)

/-- 'draymanlaw23.ExecStays': WHATEVER THE INPUT: true; the input reads as it did. -/
def execStaysSpec : ChangeSpec := { name := "execStays", fn := fun _ => fun
  | [d1, d2] => { results := [.lit (.bool true)], args := [d1, d2] }
  | _ => none }
def execStaysRow : OpenClaim := { program := "ytodknkhemckfbaagreatdoor", sum := "8942c6e0bf52f05cf87417393ba5138659518f13c446d6fb0d149296a29e0d88", func := "drayman/draymanlaw23.ExecStays", spec := "execStays", inPlace := ["internal/bytealg.IndexByteString", "internal/bytealg.IndexString", "internal/abi.NoEscape", "internal/bytealg.MakeNoZero", "internal/bytealg.abigen_runtime_cmpstring", "slices.overlaps[drayman/api.Entry]", "slices.overlaps[drayman/api.Inode]", "slices.overlaps[drayman/api.Kept]"], unfollowed := true, recurses := true, named := ["drayman/op.has", "unicode/utf8.first", "unicode/utf8.acceptRanges", "internal/bytealg.MaxLen"], apart := false, laid := [("unicode/utf8.acceptRanges", laid_unicode_utf8_acceptRanges), ("drayman/op.has", laid_drayman_op_has), ("unicode/utf8.first", laid_unicode_utf8_first)] }
def ExecStaysSaid : Prop := execStaysRow.holds Tryz.pinned (OpenSpec.ofChange execStaysSpec)

/-- ITS FALSE NEIGHBOUR: 'it returns false'. Refute it at one input. -/
def execStaysWrong : ChangeSpec := { name := "execStays", fn := fun _ => fun
  | [d1, d2] => { results := [.lit (.bool false)], args := [d1, d2] }
  | _ => none }
def ExecStaysWrongFalsely : Prop := execStaysRow.holds Tryz.pinned (OpenSpec.ofChange execStaysWrong)

/-- 'draymanlaw24.UndoBacks': WHATEVER THE INPUT: true; the input reads as it did. -/
def undoBacksSpec : ChangeSpec := { name := "undoBacks", fn := fun _ => fun
  | [d1, d2] => { results := [.lit (.bool true)], args := [d1, d2] }
  | _ => none }
def undoBacksRow : OpenClaim := { program := "ytodknkhemckfbaagreatdoor", sum := "8942c6e0bf52f05cf87417393ba5138659518f13c446d6fb0d149296a29e0d88", func := "drayman/draymanlaw24.UndoBacks", spec := "undoBacks", inPlace := ["internal/bytealg.IndexByteString", "internal/bytealg.IndexString", "internal/abi.NoEscape", "internal/bytealg.MakeNoZero", "internal/bytealg.abigen_runtime_cmpstring", "slices.overlaps[drayman/api.Entry]", "slices.overlaps[drayman/api.Inode]", "slices.overlaps[drayman/api.Kept]"], unfollowed := true, recurses := true, named := ["drayman/op.has", "unicode/utf8.first", "unicode/utf8.acceptRanges", "internal/bytealg.MaxLen"], apart := false, laid := [("unicode/utf8.acceptRanges", laid_unicode_utf8_acceptRanges), ("drayman/op.has", laid_drayman_op_has), ("unicode/utf8.first", laid_unicode_utf8_first)] }
def UndoBacksSaid : Prop := undoBacksRow.holds Tryz.pinned (OpenSpec.ofChange undoBacksSpec)

/-- ITS FALSE NEIGHBOUR: 'it returns false'. Refute it at one input. -/
def undoBacksWrong : ChangeSpec := { name := "undoBacks", fn := fun _ => fun
  | [d1, d2] => { results := [.lit (.bool false)], args := [d1, d2] }
  | _ => none }
def UndoBacksWrongFalsely : Prop := undoBacksRow.holds Tryz.pinned (OpenSpec.ofChange undoBacksWrong)

/-- 'draymanlaw24.UndoFinds': WHATEVER THE INPUT: true; the input reads as it did. -/
def undoFindsSpec : ChangeSpec := { name := "undoFinds", fn := fun _ => fun
  | [d1, d2, d3, d4] => { results := [.lit (.bool true)], args := [d1, d2, d3, d4] }
  | _ => none }
def undoFindsRow : OpenClaim := { program := "ytodknkhemckfbaagreatdoor", sum := "8942c6e0bf52f05cf87417393ba5138659518f13c446d6fb0d149296a29e0d88", func := "drayman/draymanlaw24.UndoFinds", spec := "undoFinds", inPlace := ["internal/bytealg.IndexByteString", "internal/bytealg.IndexString", "internal/abi.NoEscape", "internal/bytealg.MakeNoZero", "internal/bytealg.abigen_runtime_cmpstring", "slices.overlaps[drayman/api.Entry]", "slices.overlaps[drayman/api.Inode]", "slices.overlaps[drayman/api.Kept]"], unfollowed := true, recurses := true, named := ["drayman/op.has", "unicode/utf8.first", "unicode/utf8.acceptRanges", "internal/bytealg.MaxLen"], apart := false, laid := [("unicode/utf8.acceptRanges", laid_unicode_utf8_acceptRanges), ("drayman/op.has", laid_drayman_op_has), ("unicode/utf8.first", laid_unicode_utf8_first)] }
def UndoFindsSaid : Prop := undoFindsRow.holds Tryz.pinned (OpenSpec.ofChange undoFindsSpec)

/-- ITS FALSE NEIGHBOUR: 'it returns false'. Refute it at one input. -/
def undoFindsWrong : ChangeSpec := { name := "undoFinds", fn := fun _ => fun
  | [d1, d2, d3, d4] => { results := [.lit (.bool false)], args := [d1, d2, d3, d4] }
  | _ => none }
def UndoFindsWrongFalsely : Prop := undoFindsRow.holds Tryz.pinned (OpenSpec.ofChange undoFindsWrong)

/-- 'draymanlaw24.UndoNothing': WHATEVER THE INPUT: true; the input reads as it did. -/
def undoNothingSpec : ChangeSpec := { name := "undoNothing", fn := fun _ => fun
  | [d1, d2, d3] => { results := [.lit (.bool true)], args := [d1, d2, d3] }
  | _ => none }
def undoNothingRow : OpenClaim := { program := "ytodknkhemckfbaagreatdoor", sum := "8942c6e0bf52f05cf87417393ba5138659518f13c446d6fb0d149296a29e0d88", func := "drayman/draymanlaw24.UndoNothing", spec := "undoNothing", inPlace := ["internal/bytealg.IndexByteString", "internal/bytealg.IndexString", "internal/abi.NoEscape", "internal/bytealg.MakeNoZero", "internal/bytealg.abigen_runtime_cmpstring", "slices.overlaps[drayman/api.Entry]", "slices.overlaps[drayman/api.Inode]", "slices.overlaps[drayman/api.Kept]"], unfollowed := true, recurses := true, named := ["drayman/op.has", "unicode/utf8.first", "unicode/utf8.acceptRanges", "internal/bytealg.MaxLen"], apart := false, laid := [("unicode/utf8.acceptRanges", laid_unicode_utf8_acceptRanges), ("drayman/op.has", laid_drayman_op_has), ("unicode/utf8.first", laid_unicode_utf8_first)] }
def UndoNothingSaid : Prop := undoNothingRow.holds Tryz.pinned (OpenSpec.ofChange undoNothingSpec)

/-- ITS FALSE NEIGHBOUR: 'it returns false'. Refute it at one input. -/
def undoNothingWrong : ChangeSpec := { name := "undoNothing", fn := fun _ => fun
  | [d1, d2, d3] => { results := [.lit (.bool false)], args := [d1, d2, d3] }
  | _ => none }
def UndoNothingWrongFalsely : Prop := undoNothingRow.holds Tryz.pinned (OpenSpec.ofChange undoNothingWrong)

/-- 'draymanlaw24.UndoStays': WHATEVER THE INPUT: true; the input reads as it did. -/
def undoStaysSpec : ChangeSpec := { name := "undoStays", fn := fun _ => fun
  | [d1, d2] => { results := [.lit (.bool true)], args := [d1, d2] }
  | _ => none }
def undoStaysRow : OpenClaim := { program := "ytodknkhemckfbaagreatdoor", sum := "8942c6e0bf52f05cf87417393ba5138659518f13c446d6fb0d149296a29e0d88", func := "drayman/draymanlaw24.UndoStays", spec := "undoStays", inPlace := ["internal/bytealg.IndexByteString", "internal/bytealg.IndexString", "internal/abi.NoEscape", "internal/bytealg.MakeNoZero", "internal/bytealg.abigen_runtime_cmpstring", "slices.overlaps[drayman/api.Entry]", "slices.overlaps[drayman/api.Inode]", "slices.overlaps[drayman/api.Kept]"], unfollowed := true, recurses := true, named := ["drayman/op.has", "unicode/utf8.first", "unicode/utf8.acceptRanges", "internal/bytealg.MaxLen"], apart := false, laid := [("unicode/utf8.acceptRanges", laid_unicode_utf8_acceptRanges), ("drayman/op.has", laid_drayman_op_has), ("unicode/utf8.first", laid_unicode_utf8_first)] }
def UndoStaysSaid : Prop := undoStaysRow.holds Tryz.pinned (OpenSpec.ofChange undoStaysSpec)

/-- ITS FALSE NEIGHBOUR: 'it returns false'. Refute it at one input. -/
def undoStaysWrong : ChangeSpec := { name := "undoStays", fn := fun _ => fun
  | [d1, d2] => { results := [.lit (.bool false)], args := [d1, d2] }
  | _ => none }
def UndoStaysWrongFalsely : Prop := undoStaysRow.holds Tryz.pinned (OpenSpec.ofChange undoStaysWrong)

/- THE SECOND FORM. 'bulk': how many values and letters a reading holds, each counted each time it is reached (what is shared counts as often as it is met; a slice's spare places count too). A statement '..UptoSaid' is the law's where the arguments, and the package variables that the reading takes, are together of bulk at most 1048576: NARROWER than '..Said'. Prove '..Said' where nothing that the law and all that it calls make is longer than what came in: it says more and counts as full. Else prove '..UptoSaid'. A law counts once. -/
mutual
def uptoBulk {H : Type} : DataW H → Nat
  | .lit (.string bytes) => bytes.length + 1
  | .lit _ => 1
  | .nil => 1
  | .ptr d => uptoBulk d + 1
  | .slice elems spare => uptoBulkAll elems + uptoBulkAll spare + 1
  | .agg parts => uptoBulkAll parts + 1
  | .iface _ d => uptoBulk d + 1
  | .map entries => uptoBulkEntries entries + 1
  | .held _ => 1
def uptoBulkAll {H : Type} : List (DataW H) → Nat
  | [] => 0
  | d :: r => uptoBulk d + uptoBulkAll r
def uptoBulkEntries {H : Type} : List (Lit × DataW H) → Nat
  | [] => 0
  | x :: r => uptoBulkEntry x + uptoBulkEntries r
def uptoBulkEntry {H : Type} : Lit × DataW H → Nat
  | (.string bytes, d) => bytes.length + uptoBulk d + 1
  | (_, d) => uptoBulk d + 1
 end
def uptoSmall : (H : Type) → List (DataW H) → Bool := fun _ ds => decide (uptoBulkAll ds ≤ 1048576)
def OpenSpec.upto (s : _root_.Go.ChangeSpec) : _root_.Go.OpenSpec := { _root_.Go.OpenSpec.ofChange s with cond := some uptoSmall }

/-- 'draymanlaw23.ExecRuns', WHERE WHAT IT READS IS OF BULK AT MOST 1048576: true; the input reads as it did. -/
def execRunsUptoRow : OpenClaim := { program := "ytodknkhemckfbaagreatdoor", sum := "8942c6e0bf52f05cf87417393ba5138659518f13c446d6fb0d149296a29e0d88", func := "drayman/draymanlaw23.ExecRuns", spec := "execRuns", inPlace := ["internal/bytealg.IndexByteString", "internal/bytealg.IndexString", "internal/abi.NoEscape", "internal/bytealg.MakeNoZero", "internal/bytealg.abigen_runtime_cmpstring", "slices.overlaps[drayman/api.Entry]", "slices.overlaps[drayman/api.Inode]", "slices.overlaps[drayman/api.Kept]"], unfollowed := true, recurses := true, named := ["drayman/op.has", "unicode/utf8.first", "unicode/utf8.acceptRanges", "internal/bytealg.MaxLen"], apart := false, laid := [("unicode/utf8.acceptRanges", laid_unicode_utf8_acceptRanges), ("drayman/op.has", laid_drayman_op_has), ("unicode/utf8.first", laid_unicode_utf8_first)], narrowed := true }
def ExecRunsUptoSaid : Prop := execRunsUptoRow.holds Tryz.pinned (OpenSpec.upto execRunsSpec)

/-- 'draymanlaw23.ExecUndos', WHERE WHAT IT READS IS OF BULK AT MOST 1048576: true; the input reads as it did. -/
def execUndosUptoRow : OpenClaim := { program := "ytodknkhemckfbaagreatdoor", sum := "8942c6e0bf52f05cf87417393ba5138659518f13c446d6fb0d149296a29e0d88", func := "drayman/draymanlaw23.ExecUndos", spec := "execUndos", inPlace := ["internal/bytealg.IndexByteString", "internal/bytealg.IndexString", "internal/abi.NoEscape", "internal/bytealg.MakeNoZero", "internal/bytealg.abigen_runtime_cmpstring", "slices.overlaps[drayman/api.Entry]", "slices.overlaps[drayman/api.Inode]", "slices.overlaps[drayman/api.Kept]"], unfollowed := true, recurses := true, named := ["drayman/op.has", "unicode/utf8.first", "unicode/utf8.acceptRanges", "internal/bytealg.MaxLen"], apart := false, laid := [("unicode/utf8.acceptRanges", laid_unicode_utf8_acceptRanges), ("drayman/op.has", laid_drayman_op_has), ("unicode/utf8.first", laid_unicode_utf8_first)], narrowed := true }
def ExecUndosUptoSaid : Prop := execUndosUptoRow.holds Tryz.pinned (OpenSpec.upto execUndosSpec)

/-- 'draymanlaw23.ExecBack', WHERE WHAT IT READS IS OF BULK AT MOST 1048576: true; the input reads as it did. -/
def execBackUptoRow : OpenClaim := { program := "ytodknkhemckfbaagreatdoor", sum := "8942c6e0bf52f05cf87417393ba5138659518f13c446d6fb0d149296a29e0d88", func := "drayman/draymanlaw23.ExecBack", spec := "execBack", inPlace := ["internal/bytealg.IndexByteString", "internal/bytealg.IndexString", "internal/abi.NoEscape", "internal/bytealg.MakeNoZero", "internal/bytealg.abigen_runtime_cmpstring", "slices.overlaps[drayman/api.Entry]", "slices.overlaps[drayman/api.Inode]", "slices.overlaps[drayman/api.Kept]"], unfollowed := true, recurses := true, named := ["drayman/op.has", "unicode/utf8.first", "unicode/utf8.acceptRanges", "internal/bytealg.MaxLen"], apart := false, laid := [("unicode/utf8.acceptRanges", laid_unicode_utf8_acceptRanges), ("drayman/op.has", laid_drayman_op_has), ("unicode/utf8.first", laid_unicode_utf8_first)], narrowed := true }
def ExecBackUptoSaid : Prop := execBackUptoRow.holds Tryz.pinned (OpenSpec.upto execBackSpec)

/-- 'draymanlaw23.ExecStays', WHERE WHAT IT READS IS OF BULK AT MOST 1048576: true; the input reads as it did. -/
def execStaysUptoRow : OpenClaim := { program := "ytodknkhemckfbaagreatdoor", sum := "8942c6e0bf52f05cf87417393ba5138659518f13c446d6fb0d149296a29e0d88", func := "drayman/draymanlaw23.ExecStays", spec := "execStays", inPlace := ["internal/bytealg.IndexByteString", "internal/bytealg.IndexString", "internal/abi.NoEscape", "internal/bytealg.MakeNoZero", "internal/bytealg.abigen_runtime_cmpstring", "slices.overlaps[drayman/api.Entry]", "slices.overlaps[drayman/api.Inode]", "slices.overlaps[drayman/api.Kept]"], unfollowed := true, recurses := true, named := ["drayman/op.has", "unicode/utf8.first", "unicode/utf8.acceptRanges", "internal/bytealg.MaxLen"], apart := false, laid := [("unicode/utf8.acceptRanges", laid_unicode_utf8_acceptRanges), ("drayman/op.has", laid_drayman_op_has), ("unicode/utf8.first", laid_unicode_utf8_first)], narrowed := true }
def ExecStaysUptoSaid : Prop := execStaysUptoRow.holds Tryz.pinned (OpenSpec.upto execStaysSpec)

/-- 'draymanlaw24.UndoBacks', WHERE WHAT IT READS IS OF BULK AT MOST 1048576: true; the input reads as it did. -/
def undoBacksUptoRow : OpenClaim := { program := "ytodknkhemckfbaagreatdoor", sum := "8942c6e0bf52f05cf87417393ba5138659518f13c446d6fb0d149296a29e0d88", func := "drayman/draymanlaw24.UndoBacks", spec := "undoBacks", inPlace := ["internal/bytealg.IndexByteString", "internal/bytealg.IndexString", "internal/abi.NoEscape", "internal/bytealg.MakeNoZero", "internal/bytealg.abigen_runtime_cmpstring", "slices.overlaps[drayman/api.Entry]", "slices.overlaps[drayman/api.Inode]", "slices.overlaps[drayman/api.Kept]"], unfollowed := true, recurses := true, named := ["drayman/op.has", "unicode/utf8.first", "unicode/utf8.acceptRanges", "internal/bytealg.MaxLen"], apart := false, laid := [("unicode/utf8.acceptRanges", laid_unicode_utf8_acceptRanges), ("drayman/op.has", laid_drayman_op_has), ("unicode/utf8.first", laid_unicode_utf8_first)], narrowed := true }
def UndoBacksUptoSaid : Prop := undoBacksUptoRow.holds Tryz.pinned (OpenSpec.upto undoBacksSpec)

/-- 'draymanlaw24.UndoFinds', WHERE WHAT IT READS IS OF BULK AT MOST 1048576: true; the input reads as it did. -/
def undoFindsUptoRow : OpenClaim := { program := "ytodknkhemckfbaagreatdoor", sum := "8942c6e0bf52f05cf87417393ba5138659518f13c446d6fb0d149296a29e0d88", func := "drayman/draymanlaw24.UndoFinds", spec := "undoFinds", inPlace := ["internal/bytealg.IndexByteString", "internal/bytealg.IndexString", "internal/abi.NoEscape", "internal/bytealg.MakeNoZero", "internal/bytealg.abigen_runtime_cmpstring", "slices.overlaps[drayman/api.Entry]", "slices.overlaps[drayman/api.Inode]", "slices.overlaps[drayman/api.Kept]"], unfollowed := true, recurses := true, named := ["drayman/op.has", "unicode/utf8.first", "unicode/utf8.acceptRanges", "internal/bytealg.MaxLen"], apart := false, laid := [("unicode/utf8.acceptRanges", laid_unicode_utf8_acceptRanges), ("drayman/op.has", laid_drayman_op_has), ("unicode/utf8.first", laid_unicode_utf8_first)], narrowed := true }
def UndoFindsUptoSaid : Prop := undoFindsUptoRow.holds Tryz.pinned (OpenSpec.upto undoFindsSpec)

/-- 'draymanlaw24.UndoNothing', WHERE WHAT IT READS IS OF BULK AT MOST 1048576: true; the input reads as it did. -/
def undoNothingUptoRow : OpenClaim := { program := "ytodknkhemckfbaagreatdoor", sum := "8942c6e0bf52f05cf87417393ba5138659518f13c446d6fb0d149296a29e0d88", func := "drayman/draymanlaw24.UndoNothing", spec := "undoNothing", inPlace := ["internal/bytealg.IndexByteString", "internal/bytealg.IndexString", "internal/abi.NoEscape", "internal/bytealg.MakeNoZero", "internal/bytealg.abigen_runtime_cmpstring", "slices.overlaps[drayman/api.Entry]", "slices.overlaps[drayman/api.Inode]", "slices.overlaps[drayman/api.Kept]"], unfollowed := true, recurses := true, named := ["drayman/op.has", "unicode/utf8.first", "unicode/utf8.acceptRanges", "internal/bytealg.MaxLen"], apart := false, laid := [("unicode/utf8.acceptRanges", laid_unicode_utf8_acceptRanges), ("drayman/op.has", laid_drayman_op_has), ("unicode/utf8.first", laid_unicode_utf8_first)], narrowed := true }
def UndoNothingUptoSaid : Prop := undoNothingUptoRow.holds Tryz.pinned (OpenSpec.upto undoNothingSpec)

/-- 'draymanlaw24.UndoStays', WHERE WHAT IT READS IS OF BULK AT MOST 1048576: true; the input reads as it did. -/
def undoStaysUptoRow : OpenClaim := { program := "ytodknkhemckfbaagreatdoor", sum := "8942c6e0bf52f05cf87417393ba5138659518f13c446d6fb0d149296a29e0d88", func := "drayman/draymanlaw24.UndoStays", spec := "undoStays", inPlace := ["internal/bytealg.IndexByteString", "internal/bytealg.IndexString", "internal/abi.NoEscape", "internal/bytealg.MakeNoZero", "internal/bytealg.abigen_runtime_cmpstring", "slices.overlaps[drayman/api.Entry]", "slices.overlaps[drayman/api.Inode]", "slices.overlaps[drayman/api.Kept]"], unfollowed := true, recurses := true, named := ["drayman/op.has", "unicode/utf8.first", "unicode/utf8.acceptRanges", "internal/bytealg.MaxLen"], apart := false, laid := [("unicode/utf8.acceptRanges", laid_unicode_utf8_acceptRanges), ("drayman/op.has", laid_drayman_op_has), ("unicode/utf8.first", laid_unicode_utf8_first)], narrowed := true }
def UndoStaysUptoSaid : Prop := undoStaysUptoRow.holds Tryz.pinned (OpenSpec.upto undoStaysSpec)

end Rows
end Go.Proofs.YtodknkhemckfbaaGreatDoor
