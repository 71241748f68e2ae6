/-
  NARROWER THAN 'FOR EVERY INPUT', by the rows' own cells (each row's printed sentence says how): StepDoes: laid · StepInverses: laid · StepInverse: laid · StepRight: laid · StepStays: laid.
  DERIVED. THE GIVEN ROWS OF THIS SEAT. 5 by the template 'for every input the law returns true; each argument reads behind the call as it read before'; 0 by the template 'total and deterministic' (their statements: YtcilfbaaaipbcaaGreatDoorTotals.lean).
  GIVEN WITH THE SEED: the statements are not yours to turn. If you find one false, say at which input.
  Laid BY PROGRAM, IN A SANDBOX (cutbox-rows.mjs): the forced cells as the released guide's own fill.sh prints them over the translation 50f2cb0f42aedd7b… (all of the seat's roots in one cut). By AI agents, Wed Nov 11 2026. No macro, syntax, notation, axiom, sorry.
-/
import Derived.Test.YtcilfbaaaipbcaaGreatDoorChecked
import GoSem.PinnedTables
import GoSem.Claim
import GoSem.ClaimJoined
import GoSem.ClaimMapViews
import Derived.JoinedTies
import Derived.KernelRfl
namespace Go.Proofs.YtcilfbaaaipbcaaGreatDoor
/- THE CELL 'sum', in the pinned program and in every row, IS THE sha256 OF THE DUMP (.gsa) THAT YtcilfbaaaipbcaaGreatDoorProg.lean LOADS. Nothing in Lean hashes anything: it is a label: what it is worth is what the hold of that sum in a sandbox is worth. -/
noncomputable def Tryz.pinned : Pinned := { name := "ytcilfbaaaipbcaagreatdoor", sum := "50f2cb0f42aedd7b84417600ece85ed8a903530fb4dc7dc8bbbe5c3f1d4f42e7", checked := Tryz.checked }
namespace Rows
def none {H : Type} : Left H := { results := [], args := [] }

/- WHAT THE LISTED PACKAGE-LEVEL VARIABLES READ AS WHEN THE CALL BEGINS. Each datum BY PROGRAM (the guide's laid-datum.mjs) off the statement by which the dump's own 'gosem.cut.vars' lays the variable. In a bare row this is a premise. The card (YtcilfbaaaipbcaaGreatDoorCards.lean) ties it to the program's text. -/
def laid_unicode_utf8_acceptRanges {H : Type} : DataW H := .agg [.agg [.lit (.int .u8 128), .lit (.int .u8 191)], .agg [.lit (.int .u8 160), .lit (.int .u8 191)], .agg [.lit (.int .u8 128), .lit (.int .u8 159)], .agg [.lit (.int .u8 144), .lit (.int .u8 191)], .agg [.lit (.int .u8 128), .lit (.int .u8 143)], .agg [.lit (.int .u8 0), .lit (.int .u8 0)], .agg [.lit (.int .u8 0), .lit (.int .u8 0)], .agg [.lit (.int .u8 0), .lit (.int .u8 0)], .agg [.lit (.int .u8 0), .lit (.int .u8 0)], .agg [.lit (.int .u8 0), .lit (.int .u8 0)], .agg [.lit (.int .u8 0), .lit (.int .u8 0)], .agg [.lit (.int .u8 0), .lit (.int .u8 0)], .agg [.lit (.int .u8 0), .lit (.int .u8 0)], .agg [.lit (.int .u8 0), .lit (.int .u8 0)], .agg [.lit (.int .u8 0), .lit (.int .u8 0)], .agg [.lit (.int .u8 0), .lit (.int .u8 0)]]
def laid_drayman_op_has {H : Type} : DataW H := .agg [.agg [.lit (.bool false), .lit (.bool false), .lit (.bool false)], .agg [.lit (.bool false), .lit (.bool false), .lit (.bool false)], .agg [.lit (.bool false), .lit (.bool true), .lit (.bool false)], .agg [.lit (.bool true), .lit (.bool true), .lit (.bool false)], .agg [.lit (.bool false), .lit (.bool false), .lit (.bool true)], .agg [.lit (.bool false), .lit (.bool true), .lit (.bool false)], .agg [.lit (.bool false), .lit (.bool true), .lit (.bool false)], .agg [.lit (.bool true), .lit (.bool false), .lit (.bool false)], .agg [.lit (.bool false), .lit (.bool false), .lit (.bool false)], .agg [.lit (.bool true), .lit (.bool false), .lit (.bool false)], .agg [.lit (.bool true), .lit (.bool false), .lit (.bool false)]]
/-- One of Go's own tables, pinned by name: the form's constant. -/
def laid_unicode_utf8_first : DataW Unit := Go.Pinned.utf8First

/-- 'draymanlaw22.StepDoes': WHATEVER THE INPUT: true; the input reads as it did. -/
def stepDoesSpec : ChangeSpec := { name := "stepDoes", fn := fun _ => fun
  | [d1, d2] => { results := [.lit (.bool true)], args := [d1, d2] }
  | _ => none }
def stepDoesRow : OpenClaim := { program := "ytcilfbaaaipbcaagreatdoor", sum := "50f2cb0f42aedd7b84417600ece85ed8a903530fb4dc7dc8bbbe5c3f1d4f42e7", func := "drayman/draymanlaw22.StepDoes", spec := "stepDoes", inPlace := ["internal/bytealg.IndexByteString", "internal/bytealg.IndexString", "internal/abi.NoEscape", "internal/bytealg.MakeNoZero", "internal/bytealg.abigen_runtime_cmpstring", "slices.overlaps[drayman/api.Entry]", "slices.overlaps[drayman/api.Inode]", "slices.overlaps[drayman/api.Kept]"], unfollowed := true, recurses := true, named := ["drayman/op.has", "unicode/utf8.first", "unicode/utf8.acceptRanges", "internal/bytealg.MaxLen"], apart := false, laid := [("unicode/utf8.acceptRanges", laid_unicode_utf8_acceptRanges), ("drayman/op.has", laid_drayman_op_has), ("unicode/utf8.first", laid_unicode_utf8_first)] }
def StepDoesSaid : Prop := stepDoesRow.holds Tryz.pinned (OpenSpec.ofChange stepDoesSpec)

/-- ITS FALSE NEIGHBOUR: 'it returns false'. Refute it at one input. -/
def stepDoesWrong : ChangeSpec := { name := "stepDoes", fn := fun _ => fun
  | [d1, d2] => { results := [.lit (.bool false)], args := [d1, d2] }
  | _ => none }
def StepDoesWrongFalsely : Prop := stepDoesRow.holds Tryz.pinned (OpenSpec.ofChange stepDoesWrong)

/-- 'draymanlaw22.StepInverses': WHATEVER THE INPUT: true; the input reads as it did. -/
def stepInversesSpec : ChangeSpec := { name := "stepInverses", fn := fun _ => fun
  | [d] => { results := [.lit (.bool true)], args := [d] }
  | _ => none }
def stepInversesRow : OpenClaim := { program := "ytcilfbaaaipbcaagreatdoor", sum := "50f2cb0f42aedd7b84417600ece85ed8a903530fb4dc7dc8bbbe5c3f1d4f42e7", func := "drayman/draymanlaw22.StepInverses", spec := "stepInverses", inPlace := ["internal/bytealg.IndexByteString", "internal/bytealg.IndexString", "internal/abi.NoEscape", "internal/bytealg.MakeNoZero", "internal/bytealg.abigen_runtime_cmpstring", "slices.overlaps[drayman/api.Entry]", "slices.overlaps[drayman/api.Inode]", "slices.overlaps[drayman/api.Kept]"], unfollowed := true, recurses := true, named := ["drayman/op.has", "unicode/utf8.first", "unicode/utf8.acceptRanges", "internal/bytealg.MaxLen"], apart := false, laid := [("unicode/utf8.acceptRanges", laid_unicode_utf8_acceptRanges), ("drayman/op.has", laid_drayman_op_has), ("unicode/utf8.first", laid_unicode_utf8_first)] }
def StepInversesSaid : Prop := stepInversesRow.holds Tryz.pinned (OpenSpec.ofChange stepInversesSpec)

/-- ITS FALSE NEIGHBOUR: 'it returns false'. Refute it at one input. -/
def stepInversesWrong : ChangeSpec := { name := "stepInverses", fn := fun _ => fun
  | [d] => { results := [.lit (.bool false)], args := [d] }
  | _ => none }
def StepInversesWrongFalsely : Prop := stepInversesRow.holds Tryz.pinned (OpenSpec.ofChange stepInversesWrong)

/-- 'draymanlaw22.StepInverse': WHATEVER THE INPUT: true; the input reads as it did. -/
def stepInverseSpec : ChangeSpec := { name := "stepInverse", fn := fun _ => fun
  | [d1, d2] => { results := [.lit (.bool true)], args := [d1, d2] }
  | _ => none }
def stepInverseRow : OpenClaim := { program := "ytcilfbaaaipbcaagreatdoor", sum := "50f2cb0f42aedd7b84417600ece85ed8a903530fb4dc7dc8bbbe5c3f1d4f42e7", func := "drayman/draymanlaw22.StepInverse", spec := "stepInverse", inPlace := ["internal/bytealg.IndexByteString", "internal/bytealg.IndexString", "internal/abi.NoEscape", "internal/bytealg.MakeNoZero", "internal/bytealg.abigen_runtime_cmpstring", "slices.overlaps[drayman/api.Entry]", "slices.overlaps[drayman/api.Inode]", "slices.overlaps[drayman/api.Kept]"], unfollowed := true, recurses := true, named := ["drayman/op.has", "unicode/utf8.first", "unicode/utf8.acceptRanges", "internal/bytealg.MaxLen"], apart := false, laid := [("unicode/utf8.acceptRanges", laid_unicode_utf8_acceptRanges), ("drayman/op.has", laid_drayman_op_has), ("unicode/utf8.first", laid_unicode_utf8_first)] }
def StepInverseSaid : Prop := stepInverseRow.holds Tryz.pinned (OpenSpec.ofChange stepInverseSpec)

/-- ITS FALSE NEIGHBOUR: 'it returns false'. Refute it at one input. -/
def stepInverseWrong : ChangeSpec := { name := "stepInverse", fn := fun _ => fun
  | [d1, d2] => { results := [.lit (.bool false)], args := [d1, d2] }
  | _ => none }
def StepInverseWrongFalsely : Prop := stepInverseRow.holds Tryz.pinned (OpenSpec.ofChange stepInverseWrong)

/-- 'draymanlaw22.StepRight': WHATEVER THE INPUT: true; the input reads as it did. -/
def stepRightSpec : ChangeSpec := { name := "stepRight", fn := fun _ => fun
  | [d1, d2] => { results := [.lit (.bool true)], args := [d1, d2] }
  | _ => none }
def stepRightRow : OpenClaim := { program := "ytcilfbaaaipbcaagreatdoor", sum := "50f2cb0f42aedd7b84417600ece85ed8a903530fb4dc7dc8bbbe5c3f1d4f42e7", func := "drayman/draymanlaw22.StepRight", spec := "stepRight", inPlace := ["internal/bytealg.IndexByteString", "internal/bytealg.IndexString", "internal/abi.NoEscape", "internal/bytealg.MakeNoZero", "internal/bytealg.abigen_runtime_cmpstring", "slices.overlaps[drayman/api.Entry]", "slices.overlaps[drayman/api.Inode]", "slices.overlaps[drayman/api.Kept]"], unfollowed := true, recurses := true, named := ["drayman/op.has", "unicode/utf8.first", "unicode/utf8.acceptRanges", "internal/bytealg.MaxLen"], apart := false, laid := [("unicode/utf8.acceptRanges", laid_unicode_utf8_acceptRanges), ("drayman/op.has", laid_drayman_op_has), ("unicode/utf8.first", laid_unicode_utf8_first)] }
def StepRightSaid : Prop := stepRightRow.holds Tryz.pinned (OpenSpec.ofChange stepRightSpec)

/-- ITS FALSE NEIGHBOUR: 'it returns false'. Refute it at one input. -/
def stepRightWrong : ChangeSpec := { name := "stepRight", fn := fun _ => fun
  | [d1, d2] => { results := [.lit (.bool false)], args := [d1, d2] }
  | _ => none }
def StepRightWrongFalsely : Prop := stepRightRow.holds Tryz.pinned (OpenSpec.ofChange stepRightWrong)

/-- 'draymanlaw22.StepStays': WHATEVER THE INPUT: true; the input reads as it did. -/
def stepStaysSpec : ChangeSpec := { name := "stepStays", fn := fun _ => fun
  | [d1, d2] => { results := [.lit (.bool true)], args := [d1, d2] }
  | _ => none }
def stepStaysRow : OpenClaim := { program := "ytcilfbaaaipbcaagreatdoor", sum := "50f2cb0f42aedd7b84417600ece85ed8a903530fb4dc7dc8bbbe5c3f1d4f42e7", func := "drayman/draymanlaw22.StepStays", spec := "stepStays", inPlace := ["internal/bytealg.IndexByteString", "internal/bytealg.IndexString", "internal/abi.NoEscape", "internal/bytealg.MakeNoZero", "internal/bytealg.abigen_runtime_cmpstring", "slices.overlaps[drayman/api.Entry]", "slices.overlaps[drayman/api.Inode]", "slices.overlaps[drayman/api.Kept]"], unfollowed := true, recurses := true, named := ["drayman/op.has", "unicode/utf8.first", "unicode/utf8.acceptRanges", "internal/bytealg.MaxLen"], apart := false, laid := [("unicode/utf8.acceptRanges", laid_unicode_utf8_acceptRanges), ("drayman/op.has", laid_drayman_op_has), ("unicode/utf8.first", laid_unicode_utf8_first)] }
def StepStaysSaid : Prop := stepStaysRow.holds Tryz.pinned (OpenSpec.ofChange stepStaysSpec)

/-- ITS FALSE NEIGHBOUR: 'it returns false'. Refute it at one input. -/
def stepStaysWrong : ChangeSpec := { name := "stepStays", fn := fun _ => fun
  | [d1, d2] => { results := [.lit (.bool false)], args := [d1, d2] }
  | _ => none }
def StepStaysWrongFalsely : Prop := stepStaysRow.holds Tryz.pinned (OpenSpec.ofChange stepStaysWrong)

/- THE SECOND FORM. 'bulk': how many values and letters a reading holds, each counted each time it is reached (what is shared counts as often as it is met; a slice's spare places count too). A statement '..UptoSaid' is the law's where the arguments, and the package variables that the reading takes, are together of bulk at most 1048576: NARROWER than '..Said'. Prove '..Said' where nothing that the law and all that it calls make is longer than what came in: it says more and counts as full. Else prove '..UptoSaid'. A law counts once. -/
mutual
def uptoBulk {H : Type} : DataW H → Nat
  | .lit (.string bytes) => bytes.length + 1
  | .lit _ => 1
  | .nil => 1
  | .ptr d => uptoBulk d + 1
  | .slice elems spare => uptoBulkAll elems + uptoBulkAll spare + 1
  | .agg parts => uptoBulkAll parts + 1
  | .iface _ d => uptoBulk d + 1
  | .map entries => uptoBulkEntries entries + 1
  | .held _ => 1
def uptoBulkAll {H : Type} : List (DataW H) → Nat
  | [] => 0
  | d :: r => uptoBulk d + uptoBulkAll r
def uptoBulkEntries {H : Type} : List (Lit × DataW H) → Nat
  | [] => 0
  | x :: r => uptoBulkEntry x + uptoBulkEntries r
def uptoBulkEntry {H : Type} : Lit × DataW H → Nat
  | (.string bytes, d) => bytes.length + uptoBulk d + 1
  | (_, d) => uptoBulk d + 1
 end
def uptoSmall : (H : Type) → List (DataW H) → Bool := fun _ ds => decide (uptoBulkAll ds ≤ 1048576)
def OpenSpec.upto (s : _root_.Go.ChangeSpec) : _root_.Go.OpenSpec := { _root_.Go.OpenSpec.ofChange s with cond := some uptoSmall }

/-- 'draymanlaw22.StepDoes', WHERE WHAT IT READS IS OF BULK AT MOST 1048576: true; the input reads as it did. -/
def stepDoesUptoRow : OpenClaim := { program := "ytcilfbaaaipbcaagreatdoor", sum := "50f2cb0f42aedd7b84417600ece85ed8a903530fb4dc7dc8bbbe5c3f1d4f42e7", func := "drayman/draymanlaw22.StepDoes", spec := "stepDoes", inPlace := ["internal/bytealg.IndexByteString", "internal/bytealg.IndexString", "internal/abi.NoEscape", "internal/bytealg.MakeNoZero", "internal/bytealg.abigen_runtime_cmpstring", "slices.overlaps[drayman/api.Entry]", "slices.overlaps[drayman/api.Inode]", "slices.overlaps[drayman/api.Kept]"], unfollowed := true, recurses := true, named := ["drayman/op.has", "unicode/utf8.first", "unicode/utf8.acceptRanges", "internal/bytealg.MaxLen"], apart := false, laid := [("unicode/utf8.acceptRanges", laid_unicode_utf8_acceptRanges), ("drayman/op.has", laid_drayman_op_has), ("unicode/utf8.first", laid_unicode_utf8_first)], narrowed := true }
def StepDoesUptoSaid : Prop := stepDoesUptoRow.holds Tryz.pinned (OpenSpec.upto stepDoesSpec)

/-- 'draymanlaw22.StepInverses', WHERE WHAT IT READS IS OF BULK AT MOST 1048576: true; the input reads as it did. -/
def stepInversesUptoRow : OpenClaim := { program := "ytcilfbaaaipbcaagreatdoor", sum := "50f2cb0f42aedd7b84417600ece85ed8a903530fb4dc7dc8bbbe5c3f1d4f42e7", func := "drayman/draymanlaw22.StepInverses", spec := "stepInverses", inPlace := ["internal/bytealg.IndexByteString", "internal/bytealg.IndexString", "internal/abi.NoEscape", "internal/bytealg.MakeNoZero", "internal/bytealg.abigen_runtime_cmpstring", "slices.overlaps[drayman/api.Entry]", "slices.overlaps[drayman/api.Inode]", "slices.overlaps[drayman/api.Kept]"], unfollowed := true, recurses := true, named := ["drayman/op.has", "unicode/utf8.first", "unicode/utf8.acceptRanges", "internal/bytealg.MaxLen"], apart := false, laid := [("unicode/utf8.acceptRanges", laid_unicode_utf8_acceptRanges), ("drayman/op.has", laid_drayman_op_has), ("unicode/utf8.first", laid_unicode_utf8_first)], narrowed := true }
def StepInversesUptoSaid : Prop := stepInversesUptoRow.holds Tryz.pinned (OpenSpec.upto stepInversesSpec)

/-- 'draymanlaw22.StepInverse', WHERE WHAT IT READS IS OF BULK AT MOST 1048576: true; the input reads as it did. -/
def stepInverseUptoRow : OpenClaim := { program := "ytcilfbaaaipbcaagreatdoor", sum := "50f2cb0f42aedd7b84417600ece85ed8a903530fb4dc7dc8bbbe5c3f1d4f42e7", func := "drayman/draymanlaw22.StepInverse", spec := "stepInverse", inPlace := ["internal/bytealg.IndexByteString", "internal/bytealg.IndexString", "internal/abi.NoEscape", "internal/bytealg.MakeNoZero", "internal/bytealg.abigen_runtime_cmpstring", "slices.overlaps[drayman/api.Entry]", "slices.overlaps[drayman/api.Inode]", "slices.overlaps[drayman/api.Kept]"], unfollowed := true, recurses := true, named := ["drayman/op.has", "unicode/utf8.first", "unicode/utf8.acceptRanges", "internal/bytealg.MaxLen"], apart := false, laid := [("unicode/utf8.acceptRanges", laid_unicode_utf8_acceptRanges), ("drayman/op.has", laid_drayman_op_has), ("unicode/utf8.first", laid_unicode_utf8_first)], narrowed := true }
def StepInverseUptoSaid : Prop := stepInverseUptoRow.holds Tryz.pinned (OpenSpec.upto stepInverseSpec)

/-- 'draymanlaw22.StepRight', WHERE WHAT IT READS IS OF BULK AT MOST 1048576: true; the input reads as it did. -/
def stepRightUptoRow : OpenClaim := { program := "ytcilfbaaaipbcaagreatdoor", sum := "50f2cb0f42aedd7b84417600ece85ed8a903530fb4dc7dc8bbbe5c3f1d4f42e7", func := "drayman/draymanlaw22.StepRight", spec := "stepRight", inPlace := ["internal/bytealg.IndexByteString", "internal/bytealg.IndexString", "internal/abi.NoEscape", "internal/bytealg.MakeNoZero", "internal/bytealg.abigen_runtime_cmpstring", "slices.overlaps[drayman/api.Entry]", "slices.overlaps[drayman/api.Inode]", "slices.overlaps[drayman/api.Kept]"], unfollowed := true, recurses := true, named := ["drayman/op.has", "unicode/utf8.first", "unicode/utf8.acceptRanges", "internal/bytealg.MaxLen"], apart := false, laid := [("unicode/utf8.acceptRanges", laid_unicode_utf8_acceptRanges), ("drayman/op.has", laid_drayman_op_has), ("unicode/utf8.first", laid_unicode_utf8_first)], narrowed := true }
def StepRightUptoSaid : Prop := stepRightUptoRow.holds Tryz.pinned (OpenSpec.upto stepRightSpec)

/-- 'draymanlaw22.StepStays', WHERE WHAT IT READS IS OF BULK AT MOST 1048576: true; the input reads as it did. -/
def stepStaysUptoRow : OpenClaim := { program := "ytcilfbaaaipbcaagreatdoor", sum := "50f2cb0f42aedd7b84417600ece85ed8a903530fb4dc7dc8bbbe5c3f1d4f42e7", func := "drayman/draymanlaw22.StepStays", spec := "stepStays", inPlace := ["internal/bytealg.IndexByteString", "internal/bytealg.IndexString", "internal/abi.NoEscape", "internal/bytealg.MakeNoZero", "internal/bytealg.abigen_runtime_cmpstring", "slices.overlaps[drayman/api.Entry]", "slices.overlaps[drayman/api.Inode]", "slices.overlaps[drayman/api.Kept]"], unfollowed := true, recurses := true, named := ["drayman/op.has", "unicode/utf8.first", "unicode/utf8.acceptRanges", "internal/bytealg.MaxLen"], apart := false, laid := [("unicode/utf8.acceptRanges", laid_unicode_utf8_acceptRanges), ("drayman/op.has", laid_drayman_op_has), ("unicode/utf8.first", laid_unicode_utf8_first)], narrowed := true }
def StepStaysUptoSaid : Prop := stepStaysUptoRow.holds Tryz.pinned (OpenSpec.upto stepStaysSpec)

end Rows
end Go.Proofs.YtcilfbaaaipbcaaGreatDoor
