/-
  NARROWER THAN 'FOR EVERY INPUT', by the rows' own cells (each row's printed sentence says how): MoveRenames: laid · MoveInside: laid · MoveMoves: laid · MoveSound: laid · MoveKeeps: laid · BuildRuns: laid · BuildTrees: laid · BuildSound: laid · BuildParts: laid.
  DERIVED. THE GIVEN ROWS OF THIS SEAT. 9 by the template 'for every input the law returns true; each argument reads behind the call as it read before'; 0 by the template 'total and deterministic' (their statements: YtkdpombpeoiafaaGreatDoorTotals.lean).
  GIVEN WITH THE SEED: the statements are not yours to turn. If you find one false, say at which input.
  Laid BY PROGRAM, IN A SANDBOX (cutbox-rows.mjs): the forced cells as the released guide's own fill.sh prints them over the translation 2542689f1e423b3b… (all of the seat's roots in one cut). By AI agents, Wed Nov 11 2026. No macro, syntax, notation, axiom, sorry.
-/
import Derived.Test.YtkdpombpeoiafaaGreatDoorChecked
import GoSem.PinnedTables
import GoSem.Claim
import GoSem.ClaimJoined
import GoSem.ClaimMapViews
import Derived.JoinedTies
import Derived.KernelRfl
namespace Go.Proofs.YtkdpombpeoiafaaGreatDoor
/- THE CELL 'sum', in the pinned program and in every row, IS THE sha256 OF THE DUMP (.gsa) THAT YtkdpombpeoiafaaGreatDoorProg.lean LOADS. Nothing in Lean hashes anything: it is a label: what it is worth is what the hold of that sum in a sandbox is worth. -/
noncomputable def Tryz.pinned : Pinned := { name := "ytkdpombpeoiafaagreatdoor", sum := "2542689f1e423b3b8e28c94c5b4a959bbb81d9a31d7a753269356fd600d87158", checked := Tryz.checked }
namespace Rows
def none {H : Type} : Left H := { results := [], args := [] }

/- WHAT THE LISTED PACKAGE-LEVEL VARIABLES READ AS WHEN THE CALL BEGINS. Each datum BY PROGRAM (the guide's laid-datum.mjs) off the statement by which the dump's own 'gosem.cut.vars' lays the variable. In a bare row this is a premise. The card (YtkdpombpeoiafaaGreatDoorCards.lean) ties it to the program's text. -/
def laid_unicode_utf8_acceptRanges {H : Type} : DataW H := .agg [.agg [.lit (.int .u8 128), .lit (.int .u8 191)], .agg [.lit (.int .u8 160), .lit (.int .u8 191)], .agg [.lit (.int .u8 128), .lit (.int .u8 159)], .agg [.lit (.int .u8 144), .lit (.int .u8 191)], .agg [.lit (.int .u8 128), .lit (.int .u8 143)], .agg [.lit (.int .u8 0), .lit (.int .u8 0)], .agg [.lit (.int .u8 0), .lit (.int .u8 0)], .agg [.lit (.int .u8 0), .lit (.int .u8 0)], .agg [.lit (.int .u8 0), .lit (.int .u8 0)], .agg [.lit (.int .u8 0), .lit (.int .u8 0)], .agg [.lit (.int .u8 0), .lit (.int .u8 0)], .agg [.lit (.int .u8 0), .lit (.int .u8 0)], .agg [.lit (.int .u8 0), .lit (.int .u8 0)], .agg [.lit (.int .u8 0), .lit (.int .u8 0)], .agg [.lit (.int .u8 0), .lit (.int .u8 0)], .agg [.lit (.int .u8 0), .lit (.int .u8 0)]]
/-- One of Go's own tables, pinned by name: the form's constant. -/
def laid_unicode_utf8_first : DataW Unit := Go.Pinned.utf8First

/-- 'draymanlaw14.MoveRenames': WHATEVER THE INPUT: true; the input reads as it did. -/
def moveRenamesSpec : ChangeSpec := { name := "moveRenames", fn := fun _ => fun
  | [d1, d2, d3, d4] => { results := [.lit (.bool true)], args := [d1, d2, d3, d4] }
  | _ => none }
def moveRenamesRow : OpenClaim := { program := "ytkdpombpeoiafaagreatdoor", sum := "2542689f1e423b3b8e28c94c5b4a959bbb81d9a31d7a753269356fd600d87158", func := "drayman/draymanlaw14.MoveRenames", spec := "moveRenames", inPlace := ["internal/bytealg.IndexByteString", "internal/bytealg.IndexString", "internal/abi.NoEscape", "internal/bytealg.MakeNoZero", "internal/bytealg.abigen_runtime_cmpstring", "slices.overlaps[drayman/api.Inode]", "slices.overlaps[drayman/api.Entry]"], unfollowed := true, recurses := true, named := ["unicode/utf8.first", "unicode/utf8.acceptRanges", "internal/bytealg.MaxLen"], apart := false, laid := [("unicode/utf8.acceptRanges", laid_unicode_utf8_acceptRanges), ("unicode/utf8.first", laid_unicode_utf8_first)] }
def MoveRenamesSaid : Prop := moveRenamesRow.holds Tryz.pinned (OpenSpec.ofChange moveRenamesSpec)

/-- ITS FALSE NEIGHBOUR: 'it returns false'. Refute it at one input. -/
def moveRenamesWrong : ChangeSpec := { name := "moveRenames", fn := fun _ => fun
  | [d1, d2, d3, d4] => { results := [.lit (.bool false)], args := [d1, d2, d3, d4] }
  | _ => none }
def MoveRenamesWrongFalsely : Prop := moveRenamesRow.holds Tryz.pinned (OpenSpec.ofChange moveRenamesWrong)

/-- 'draymanlaw14.MoveInside': WHATEVER THE INPUT: true; the input reads as it did. -/
def moveInsideSpec : ChangeSpec := { name := "moveInside", fn := fun _ => fun
  | [d1, d2, d3] => { results := [.lit (.bool true)], args := [d1, d2, d3] }
  | _ => none }
def moveInsideRow : OpenClaim := { program := "ytkdpombpeoiafaagreatdoor", sum := "2542689f1e423b3b8e28c94c5b4a959bbb81d9a31d7a753269356fd600d87158", func := "drayman/draymanlaw14.MoveInside", spec := "moveInside", inPlace := ["internal/bytealg.IndexByteString", "internal/bytealg.IndexString", "internal/abi.NoEscape", "internal/bytealg.MakeNoZero", "internal/bytealg.abigen_runtime_cmpstring", "slices.overlaps[drayman/api.Inode]", "slices.overlaps[drayman/api.Entry]"], unfollowed := true, recurses := true, named := ["unicode/utf8.first", "unicode/utf8.acceptRanges", "internal/bytealg.MaxLen"], apart := false, laid := [("unicode/utf8.acceptRanges", laid_unicode_utf8_acceptRanges), ("unicode/utf8.first", laid_unicode_utf8_first)] }
def MoveInsideSaid : Prop := moveInsideRow.holds Tryz.pinned (OpenSpec.ofChange moveInsideSpec)

/-- ITS FALSE NEIGHBOUR: 'it returns false'. Refute it at one input. -/
def moveInsideWrong : ChangeSpec := { name := "moveInside", fn := fun _ => fun
  | [d1, d2, d3] => { results := [.lit (.bool false)], args := [d1, d2, d3] }
  | _ => none }
def MoveInsideWrongFalsely : Prop := moveInsideRow.holds Tryz.pinned (OpenSpec.ofChange moveInsideWrong)

/-- 'draymanlaw14.MoveMoves': WHATEVER THE INPUT: true; the input reads as it did. -/
def moveMovesSpec : ChangeSpec := { name := "moveMoves", fn := fun _ => fun
  | [d1, d2, d3] => { results := [.lit (.bool true)], args := [d1, d2, d3] }
  | _ => none }
def moveMovesRow : OpenClaim := { program := "ytkdpombpeoiafaagreatdoor", sum := "2542689f1e423b3b8e28c94c5b4a959bbb81d9a31d7a753269356fd600d87158", func := "drayman/draymanlaw14.MoveMoves", spec := "moveMoves", inPlace := ["internal/bytealg.IndexByteString", "internal/bytealg.IndexString", "internal/abi.NoEscape", "internal/bytealg.MakeNoZero", "internal/bytealg.abigen_runtime_cmpstring", "slices.overlaps[drayman/api.Inode]", "slices.overlaps[drayman/api.Entry]"], unfollowed := true, recurses := true, named := ["unicode/utf8.first", "unicode/utf8.acceptRanges", "internal/bytealg.MaxLen"], apart := false, laid := [("unicode/utf8.acceptRanges", laid_unicode_utf8_acceptRanges), ("unicode/utf8.first", laid_unicode_utf8_first)] }
def MoveMovesSaid : Prop := moveMovesRow.holds Tryz.pinned (OpenSpec.ofChange moveMovesSpec)

/-- ITS FALSE NEIGHBOUR: 'it returns false'. Refute it at one input. -/
def moveMovesWrong : ChangeSpec := { name := "moveMoves", fn := fun _ => fun
  | [d1, d2, d3] => { results := [.lit (.bool false)], args := [d1, d2, d3] }
  | _ => none }
def MoveMovesWrongFalsely : Prop := moveMovesRow.holds Tryz.pinned (OpenSpec.ofChange moveMovesWrong)

/-- 'draymanlaw14.MoveSound': WHATEVER THE INPUT: true; the input reads as it did. -/
def moveSoundSpec : ChangeSpec := { name := "moveSound", fn := fun _ => fun
  | [d1, d2, d3] => { results := [.lit (.bool true)], args := [d1, d2, d3] }
  | _ => none }
def moveSoundRow : OpenClaim := { program := "ytkdpombpeoiafaagreatdoor", sum := "2542689f1e423b3b8e28c94c5b4a959bbb81d9a31d7a753269356fd600d87158", func := "drayman/draymanlaw14.MoveSound", spec := "moveSound", inPlace := ["internal/bytealg.IndexByteString", "internal/bytealg.IndexString", "internal/abi.NoEscape", "internal/bytealg.MakeNoZero", "internal/bytealg.abigen_runtime_cmpstring", "slices.overlaps[drayman/api.Inode]", "slices.overlaps[drayman/api.Entry]"], unfollowed := true, recurses := true, named := ["unicode/utf8.first", "unicode/utf8.acceptRanges", "internal/bytealg.MaxLen"], apart := false, laid := [("unicode/utf8.acceptRanges", laid_unicode_utf8_acceptRanges), ("unicode/utf8.first", laid_unicode_utf8_first)] }
def MoveSoundSaid : Prop := moveSoundRow.holds Tryz.pinned (OpenSpec.ofChange moveSoundSpec)

/-- ITS FALSE NEIGHBOUR: 'it returns false'. Refute it at one input. -/
def moveSoundWrong : ChangeSpec := { name := "moveSound", fn := fun _ => fun
  | [d1, d2, d3] => { results := [.lit (.bool false)], args := [d1, d2, d3] }
  | _ => none }
def MoveSoundWrongFalsely : Prop := moveSoundRow.holds Tryz.pinned (OpenSpec.ofChange moveSoundWrong)

/-- 'draymanlaw14.MoveKeeps': WHATEVER THE INPUT: true; the input reads as it did. -/
def moveKeepsSpec : ChangeSpec := { name := "moveKeeps", fn := fun _ => fun
  | [d1, d2, d3, d4] => { results := [.lit (.bool true)], args := [d1, d2, d3, d4] }
  | _ => none }
def moveKeepsRow : OpenClaim := { program := "ytkdpombpeoiafaagreatdoor", sum := "2542689f1e423b3b8e28c94c5b4a959bbb81d9a31d7a753269356fd600d87158", func := "drayman/draymanlaw14.MoveKeeps", spec := "moveKeeps", inPlace := ["internal/bytealg.IndexByteString", "internal/bytealg.IndexString", "internal/abi.NoEscape", "internal/bytealg.MakeNoZero", "internal/bytealg.abigen_runtime_cmpstring", "slices.overlaps[drayman/api.Inode]", "slices.overlaps[drayman/api.Entry]"], unfollowed := true, recurses := true, named := ["unicode/utf8.first", "unicode/utf8.acceptRanges", "internal/bytealg.MaxLen"], apart := false, laid := [("unicode/utf8.acceptRanges", laid_unicode_utf8_acceptRanges), ("unicode/utf8.first", laid_unicode_utf8_first)] }
def MoveKeepsSaid : Prop := moveKeepsRow.holds Tryz.pinned (OpenSpec.ofChange moveKeepsSpec)

/-- ITS FALSE NEIGHBOUR: 'it returns false'. Refute it at one input. -/
def moveKeepsWrong : ChangeSpec := { name := "moveKeeps", fn := fun _ => fun
  | [d1, d2, d3, d4] => { results := [.lit (.bool false)], args := [d1, d2, d3, d4] }
  | _ => none }
def MoveKeepsWrongFalsely : Prop := moveKeepsRow.holds Tryz.pinned (OpenSpec.ofChange moveKeepsWrong)

/-- 'draymanlaw15.BuildRuns': WHATEVER THE INPUT: true; the input reads as it did. -/
def buildRunsSpec : ChangeSpec := { name := "buildRuns", fn := fun _ => fun
  | [d1, d2, d3] => { results := [.lit (.bool true)], args := [d1, d2, d3] }
  | _ => none }
def buildRunsRow : OpenClaim := { program := "ytkdpombpeoiafaagreatdoor", sum := "2542689f1e423b3b8e28c94c5b4a959bbb81d9a31d7a753269356fd600d87158", func := "drayman/draymanlaw15.BuildRuns", spec := "buildRuns", inPlace := ["internal/bytealg.IndexByteString", "internal/bytealg.IndexString", "internal/bytealg.abigen_runtime_cmpstring", "slices.overlaps[drayman/api.Entry]", "slices.overlaps[drayman/api.Inode]", "internal/abi.NoEscape", "internal/bytealg.MakeNoZero"], unfollowed := true, recurses := true, named := ["unicode/utf8.first", "unicode/utf8.acceptRanges", "internal/bytealg.MaxLen"], apart := false, laid := [("unicode/utf8.acceptRanges", laid_unicode_utf8_acceptRanges), ("unicode/utf8.first", laid_unicode_utf8_first)] }
def BuildRunsSaid : Prop := buildRunsRow.holds Tryz.pinned (OpenSpec.ofChange buildRunsSpec)

/-- ITS FALSE NEIGHBOUR: 'it returns false'. Refute it at one input. -/
def buildRunsWrong : ChangeSpec := { name := "buildRuns", fn := fun _ => fun
  | [d1, d2, d3] => { results := [.lit (.bool false)], args := [d1, d2, d3] }
  | _ => none }
def BuildRunsWrongFalsely : Prop := buildRunsRow.holds Tryz.pinned (OpenSpec.ofChange buildRunsWrong)

/-- 'draymanlaw15.BuildTrees': WHATEVER THE INPUT: true; the input reads as it did. -/
def buildTreesSpec : ChangeSpec := { name := "buildTrees", fn := fun _ => fun
  | [d1, d2] => { results := [.lit (.bool true)], args := [d1, d2] }
  | _ => none }
def buildTreesRow : OpenClaim := { program := "ytkdpombpeoiafaagreatdoor", sum := "2542689f1e423b3b8e28c94c5b4a959bbb81d9a31d7a753269356fd600d87158", func := "drayman/draymanlaw15.BuildTrees", spec := "buildTrees", inPlace := ["internal/bytealg.IndexByteString", "internal/bytealg.IndexString", "internal/bytealg.abigen_runtime_cmpstring", "slices.overlaps[drayman/api.Entry]", "slices.overlaps[drayman/api.Inode]", "internal/abi.NoEscape", "internal/bytealg.MakeNoZero"], unfollowed := true, recurses := true, named := ["unicode/utf8.first", "unicode/utf8.acceptRanges", "internal/bytealg.MaxLen"], apart := false, laid := [("unicode/utf8.acceptRanges", laid_unicode_utf8_acceptRanges), ("unicode/utf8.first", laid_unicode_utf8_first)] }
def BuildTreesSaid : Prop := buildTreesRow.holds Tryz.pinned (OpenSpec.ofChange buildTreesSpec)

/-- ITS FALSE NEIGHBOUR: 'it returns false'. Refute it at one input. -/
def buildTreesWrong : ChangeSpec := { name := "buildTrees", fn := fun _ => fun
  | [d1, d2] => { results := [.lit (.bool false)], args := [d1, d2] }
  | _ => none }
def BuildTreesWrongFalsely : Prop := buildTreesRow.holds Tryz.pinned (OpenSpec.ofChange buildTreesWrong)

/-- 'draymanlaw15.BuildSound': WHATEVER THE INPUT: true; the input reads as it did. -/
def buildSoundSpec : ChangeSpec := { name := "buildSound", fn := fun _ => fun
  | [d1, d2, d3] => { results := [.lit (.bool true)], args := [d1, d2, d3] }
  | _ => none }
def buildSoundRow : OpenClaim := { program := "ytkdpombpeoiafaagreatdoor", sum := "2542689f1e423b3b8e28c94c5b4a959bbb81d9a31d7a753269356fd600d87158", func := "drayman/draymanlaw15.BuildSound", spec := "buildSound", inPlace := ["internal/bytealg.IndexByteString", "internal/bytealg.IndexString", "internal/bytealg.abigen_runtime_cmpstring", "slices.overlaps[drayman/api.Entry]", "slices.overlaps[drayman/api.Inode]", "internal/abi.NoEscape", "internal/bytealg.MakeNoZero"], unfollowed := true, recurses := true, named := ["unicode/utf8.first", "unicode/utf8.acceptRanges", "internal/bytealg.MaxLen"], apart := false, laid := [("unicode/utf8.acceptRanges", laid_unicode_utf8_acceptRanges), ("unicode/utf8.first", laid_unicode_utf8_first)] }
def BuildSoundSaid : Prop := buildSoundRow.holds Tryz.pinned (OpenSpec.ofChange buildSoundSpec)

/-- ITS FALSE NEIGHBOUR: 'it returns false'. Refute it at one input. -/
def buildSoundWrong : ChangeSpec := { name := "buildSound", fn := fun _ => fun
  | [d1, d2, d3] => { results := [.lit (.bool false)], args := [d1, d2, d3] }
  | _ => none }
def BuildSoundWrongFalsely : Prop := buildSoundRow.holds Tryz.pinned (OpenSpec.ofChange buildSoundWrong)

/-- 'draymanlaw15.BuildParts': WHATEVER THE INPUT: true; the input reads as it did. -/
def buildPartsSpec : ChangeSpec := { name := "buildParts", fn := fun _ => fun
  | [d1, d2] => { results := [.lit (.bool true)], args := [d1, d2] }
  | _ => none }
def buildPartsRow : OpenClaim := { program := "ytkdpombpeoiafaagreatdoor", sum := "2542689f1e423b3b8e28c94c5b4a959bbb81d9a31d7a753269356fd600d87158", func := "drayman/draymanlaw15.BuildParts", spec := "buildParts", inPlace := ["internal/bytealg.IndexByteString", "internal/bytealg.IndexString", "internal/bytealg.abigen_runtime_cmpstring", "slices.overlaps[drayman/api.Entry]", "slices.overlaps[drayman/api.Inode]", "internal/abi.NoEscape", "internal/bytealg.MakeNoZero"], unfollowed := true, recurses := true, named := ["unicode/utf8.first", "unicode/utf8.acceptRanges", "internal/bytealg.MaxLen"], apart := false, laid := [("unicode/utf8.acceptRanges", laid_unicode_utf8_acceptRanges), ("unicode/utf8.first", laid_unicode_utf8_first)] }
def BuildPartsSaid : Prop := buildPartsRow.holds Tryz.pinned (OpenSpec.ofChange buildPartsSpec)

/-- ITS FALSE NEIGHBOUR: 'it returns false'. Refute it at one input. -/
def buildPartsWrong : ChangeSpec := { name := "buildParts", fn := fun _ => fun
  | [d1, d2] => { results := [.lit (.bool false)], args := [d1, d2] }
  | _ => none }
def BuildPartsWrongFalsely : Prop := buildPartsRow.holds Tryz.pinned (OpenSpec.ofChange buildPartsWrong)

/- THE SECOND FORM. 'bulk': how many values and letters a reading holds, each counted each time it is reached (what is shared counts as often as it is met; a slice's spare places count too). A statement '..UptoSaid' is the law's where the arguments, and the package variables that the reading takes, are together of bulk at most 1048576: NARROWER than '..Said'. Prove '..Said' where nothing that the law and all that it calls make is longer than what came in: it says more and counts as full. Else prove '..UptoSaid'. A law counts once. -/
mutual
def uptoBulk {H : Type} : DataW H → Nat
  | .lit (.string bytes) => bytes.length + 1
  | .lit _ => 1
  | .nil => 1
  | .ptr d => uptoBulk d + 1
  | .slice elems spare => uptoBulkAll elems + uptoBulkAll spare + 1
  | .agg parts => uptoBulkAll parts + 1
  | .iface _ d => uptoBulk d + 1
  | .map entries => uptoBulkEntries entries + 1
  | .held _ => 1
def uptoBulkAll {H : Type} : List (DataW H) → Nat
  | [] => 0
  | d :: r => uptoBulk d + uptoBulkAll r
def uptoBulkEntries {H : Type} : List (Lit × DataW H) → Nat
  | [] => 0
  | x :: r => uptoBulkEntry x + uptoBulkEntries r
def uptoBulkEntry {H : Type} : Lit × DataW H → Nat
  | (.string bytes, d) => bytes.length + uptoBulk d + 1
  | (_, d) => uptoBulk d + 1
 end
def uptoSmall : (H : Type) → List (DataW H) → Bool := fun _ ds => decide (uptoBulkAll ds ≤ 1048576)
def OpenSpec.upto (s : _root_.Go.ChangeSpec) : _root_.Go.OpenSpec := { _root_.Go.OpenSpec.ofChange s with cond := some uptoSmall }

/-- 'draymanlaw14.MoveRenames', WHERE WHAT IT READS IS OF BULK AT MOST 1048576: true; the input reads as it did. -/
def moveRenamesUptoRow : OpenClaim := { program := "ytkdpombpeoiafaagreatdoor", sum := "2542689f1e423b3b8e28c94c5b4a959bbb81d9a31d7a753269356fd600d87158", func := "drayman/draymanlaw14.MoveRenames", spec := "moveRenames", inPlace := ["internal/bytealg.IndexByteString", "internal/bytealg.IndexString", "internal/abi.NoEscape", "internal/bytealg.MakeNoZero", "internal/bytealg.abigen_runtime_cmpstring", "slices.overlaps[drayman/api.Inode]", "slices.overlaps[drayman/api.Entry]"], unfollowed := true, recurses := true, named := ["unicode/utf8.first", "unicode/utf8.acceptRanges", "internal/bytealg.MaxLen"], apart := false, laid := [("unicode/utf8.acceptRanges", laid_unicode_utf8_acceptRanges), ("unicode/utf8.first", laid_unicode_utf8_first)], narrowed := true }
def MoveRenamesUptoSaid : Prop := moveRenamesUptoRow.holds Tryz.pinned (OpenSpec.upto moveRenamesSpec)

/-- 'draymanlaw14.MoveInside', WHERE WHAT IT READS IS OF BULK AT MOST 1048576: true; the input reads as it did. -/
def moveInsideUptoRow : OpenClaim := { program := "ytkdpombpeoiafaagreatdoor", sum := "2542689f1e423b3b8e28c94c5b4a959bbb81d9a31d7a753269356fd600d87158", func := "drayman/draymanlaw14.MoveInside", spec := "moveInside", inPlace := ["internal/bytealg.IndexByteString", "internal/bytealg.IndexString", "internal/abi.NoEscape", "internal/bytealg.MakeNoZero", "internal/bytealg.abigen_runtime_cmpstring", "slices.overlaps[drayman/api.Inode]", "slices.overlaps[drayman/api.Entry]"], unfollowed := true, recurses := true, named := ["unicode/utf8.first", "unicode/utf8.acceptRanges", "internal/bytealg.MaxLen"], apart := false, laid := [("unicode/utf8.acceptRanges", laid_unicode_utf8_acceptRanges), ("unicode/utf8.first", laid_unicode_utf8_first)], narrowed := true }
def MoveInsideUptoSaid : Prop := moveInsideUptoRow.holds Tryz.pinned (OpenSpec.upto moveInsideSpec)

/-- 'draymanlaw14.MoveMoves', WHERE WHAT IT READS IS OF BULK AT MOST 1048576: true; the input reads as it did. -/
def moveMovesUptoRow : OpenClaim := { program := "ytkdpombpeoiafaagreatdoor", sum := "2542689f1e423b3b8e28c94c5b4a959bbb81d9a31d7a753269356fd600d87158", func := "drayman/draymanlaw14.MoveMoves", spec := "moveMoves", inPlace := ["internal/bytealg.IndexByteString", "internal/bytealg.IndexString", "internal/abi.NoEscape", "internal/bytealg.MakeNoZero", "internal/bytealg.abigen_runtime_cmpstring", "slices.overlaps[drayman/api.Inode]", "slices.overlaps[drayman/api.Entry]"], unfollowed := true, recurses := true, named := ["unicode/utf8.first", "unicode/utf8.acceptRanges", "internal/bytealg.MaxLen"], apart := false, laid := [("unicode/utf8.acceptRanges", laid_unicode_utf8_acceptRanges), ("unicode/utf8.first", laid_unicode_utf8_first)], narrowed := true }
def MoveMovesUptoSaid : Prop := moveMovesUptoRow.holds Tryz.pinned (OpenSpec.upto moveMovesSpec)

/-- 'draymanlaw14.MoveSound', WHERE WHAT IT READS IS OF BULK AT MOST 1048576: true; the input reads as it did. -/
def moveSoundUptoRow : OpenClaim := { program := "ytkdpombpeoiafaagreatdoor", sum := "2542689f1e423b3b8e28c94c5b4a959bbb81d9a31d7a753269356fd600d87158", func := "drayman/draymanlaw14.MoveSound", spec := "moveSound", inPlace := ["internal/bytealg.IndexByteString", "internal/bytealg.IndexString", "internal/abi.NoEscape", "internal/bytealg.MakeNoZero", "internal/bytealg.abigen_runtime_cmpstring", "slices.overlaps[drayman/api.Inode]", "slices.overlaps[drayman/api.Entry]"], unfollowed := true, recurses := true, named := ["unicode/utf8.first", "unicode/utf8.acceptRanges", "internal/bytealg.MaxLen"], apart := false, laid := [("unicode/utf8.acceptRanges", laid_unicode_utf8_acceptRanges), ("unicode/utf8.first", laid_unicode_utf8_first)], narrowed := true }
def MoveSoundUptoSaid : Prop := moveSoundUptoRow.holds Tryz.pinned (OpenSpec.upto moveSoundSpec)

/-- 'draymanlaw14.MoveKeeps', WHERE WHAT IT READS IS OF BULK AT MOST 1048576: true; the input reads as it did. -/
def moveKeepsUptoRow : OpenClaim := { program := "ytkdpombpeoiafaagreatdoor", sum := "2542689f1e423b3b8e28c94c5b4a959bbb81d9a31d7a753269356fd600d87158", func := "drayman/draymanlaw14.MoveKeeps", spec := "moveKeeps", inPlace := ["internal/bytealg.IndexByteString", "internal/bytealg.IndexString", "internal/abi.NoEscape", "internal/bytealg.MakeNoZero", "internal/bytealg.abigen_runtime_cmpstring", "slices.overlaps[drayman/api.Inode]", "slices.overlaps[drayman/api.Entry]"], unfollowed := true, recurses := true, named := ["unicode/utf8.first", "unicode/utf8.acceptRanges", "internal/bytealg.MaxLen"], apart := false, laid := [("unicode/utf8.acceptRanges", laid_unicode_utf8_acceptRanges), ("unicode/utf8.first", laid_unicode_utf8_first)], narrowed := true }
def MoveKeepsUptoSaid : Prop := moveKeepsUptoRow.holds Tryz.pinned (OpenSpec.upto moveKeepsSpec)

/-- 'draymanlaw15.BuildRuns', WHERE WHAT IT READS IS OF BULK AT MOST 1048576: true; the input reads as it did. -/
def buildRunsUptoRow : OpenClaim := { program := "ytkdpombpeoiafaagreatdoor", sum := "2542689f1e423b3b8e28c94c5b4a959bbb81d9a31d7a753269356fd600d87158", func := "drayman/draymanlaw15.BuildRuns", spec := "buildRuns", inPlace := ["internal/bytealg.IndexByteString", "internal/bytealg.IndexString", "internal/bytealg.abigen_runtime_cmpstring", "slices.overlaps[drayman/api.Entry]", "slices.overlaps[drayman/api.Inode]", "internal/abi.NoEscape", "internal/bytealg.MakeNoZero"], unfollowed := true, recurses := true, named := ["unicode/utf8.first", "unicode/utf8.acceptRanges", "internal/bytealg.MaxLen"], apart := false, laid := [("unicode/utf8.acceptRanges", laid_unicode_utf8_acceptRanges), ("unicode/utf8.first", laid_unicode_utf8_first)], narrowed := true }
def BuildRunsUptoSaid : Prop := buildRunsUptoRow.holds Tryz.pinned (OpenSpec.upto buildRunsSpec)

/-- 'draymanlaw15.BuildTrees', WHERE WHAT IT READS IS OF BULK AT MOST 1048576: true; the input reads as it did. -/
def buildTreesUptoRow : OpenClaim := { program := "ytkdpombpeoiafaagreatdoor", sum := "2542689f1e423b3b8e28c94c5b4a959bbb81d9a31d7a753269356fd600d87158", func := "drayman/draymanlaw15.BuildTrees", spec := "buildTrees", inPlace := ["internal/bytealg.IndexByteString", "internal/bytealg.IndexString", "internal/bytealg.abigen_runtime_cmpstring", "slices.overlaps[drayman/api.Entry]", "slices.overlaps[drayman/api.Inode]", "internal/abi.NoEscape", "internal/bytealg.MakeNoZero"], unfollowed := true, recurses := true, named := ["unicode/utf8.first", "unicode/utf8.acceptRanges", "internal/bytealg.MaxLen"], apart := false, laid := [("unicode/utf8.acceptRanges", laid_unicode_utf8_acceptRanges), ("unicode/utf8.first", laid_unicode_utf8_first)], narrowed := true }
def BuildTreesUptoSaid : Prop := buildTreesUptoRow.holds Tryz.pinned (OpenSpec.upto buildTreesSpec)

/-- 'draymanlaw15.BuildSound', WHERE WHAT IT READS IS OF BULK AT MOST 1048576: true; the input reads as it did. -/
def buildSoundUptoRow : OpenClaim := { program := "ytkdpombpeoiafaagreatdoor", sum := "2542689f1e423b3b8e28c94c5b4a959bbb81d9a31d7a753269356fd600d87158", func := "drayman/draymanlaw15.BuildSound", spec := "buildSound", inPlace := ["internal/bytealg.IndexByteString", "internal/bytealg.IndexString", "internal/bytealg.abigen_runtime_cmpstring", "slices.overlaps[drayman/api.Entry]", "slices.overlaps[drayman/api.Inode]", "internal/abi.NoEscape", "internal/bytealg.MakeNoZero"], unfollowed := true, recurses := true, named := ["unicode/utf8.first", "unicode/utf8.acceptRanges", "internal/bytealg.MaxLen"], apart := false, laid := [("unicode/utf8.acceptRanges", laid_unicode_utf8_acceptRanges), ("unicode/utf8.first", laid_unicode_utf8_first)], narrowed := true }
def BuildSoundUptoSaid : Prop := buildSoundUptoRow.holds Tryz.pinned (OpenSpec.upto buildSoundSpec)

/-- 'draymanlaw15.BuildParts', WHERE WHAT IT READS IS OF BULK AT MOST 1048576: true; the input reads as it did. -/
def buildPartsUptoRow : OpenClaim := { program := "ytkdpombpeoiafaagreatdoor", sum := "2542689f1e423b3b8e28c94c5b4a959bbb81d9a31d7a753269356fd600d87158", func := "drayman/draymanlaw15.BuildParts", spec := "buildParts", inPlace := ["internal/bytealg.IndexByteString", "internal/bytealg.IndexString", "internal/bytealg.abigen_runtime_cmpstring", "slices.overlaps[drayman/api.Entry]", "slices.overlaps[drayman/api.Inode]", "internal/abi.NoEscape", "internal/bytealg.MakeNoZero"], unfollowed := true, recurses := true, named := ["unicode/utf8.first", "unicode/utf8.acceptRanges", "internal/bytealg.MaxLen"], apart := false, laid := [("unicode/utf8.acceptRanges", laid_unicode_utf8_acceptRanges), ("unicode/utf8.first", laid_unicode_utf8_first)], narrowed := true }
def BuildPartsUptoSaid : Prop := buildPartsUptoRow.holds Tryz.pinned (OpenSpec.upto buildPartsSpec)

end Rows
end Go.Proofs.YtkdpombpeoiafaaGreatDoor
