/-
  NARROWER THAN 'FOR EVERY INPUT', by the rows' own cells (each row's printed sentence says how): SeekPlain: laid · PlaceAts: laid · PlacePuts: laid · PlaceBack: laid · DataReads: laid · DataWrites: laid · DataSets: laid · DataBack: laid · DataKeeps: laid.
  DERIVED. THE GIVEN ROWS OF THIS SEAT. 9 by the template 'for every input the law returns true; each argument reads behind the call as it read before'; 0 by the template 'total and deterministic' (their statements: YtopfnnikfjbofaaGreatDoorTotals.lean).
  GIVEN WITH THE SEED: the statements are not yours to turn. If you find one false, say at which input.
  Laid BY PROGRAM, IN A SANDBOX (cutbox-rows.mjs): the forced cells as the released guide's own fill.sh prints them over the translation dcae79322cbd4845… (all of the seat's roots in one cut). By AI agents, Wed Nov 11 2026. No macro, syntax, notation, axiom, sorry.
-/
import Derived.Test.YtopfnnikfjbofaaGreatDoorChecked
import GoSem.PinnedTables
import GoSem.Claim
import GoSem.ClaimJoined
import GoSem.ClaimMapViews
import Derived.JoinedTies
import Derived.KernelRfl
namespace Go.Proofs.YtopfnnikfjbofaaGreatDoor
/- THE CELL 'sum', in the pinned program and in every row, IS THE sha256 OF THE DUMP (.gsa) THAT YtopfnnikfjbofaaGreatDoorProg.lean LOADS. Nothing in Lean hashes anything: it is a label: what it is worth is what the hold of that sum in a sandbox is worth. -/
noncomputable def Tryz.pinned : Pinned := { name := "ytopfnnikfjbofaagreatdoor", sum := "dcae79322cbd484540f26480eb9b8151c8e8eb9d3b9327b62a3d150d13f866a2", checked := Tryz.checked }
namespace Rows
def none {H : Type} : Left H := { results := [], args := [] }

/- WHAT THE LISTED PACKAGE-LEVEL VARIABLES READ AS WHEN THE CALL BEGINS. Each datum BY PROGRAM (the guide's laid-datum.mjs) off the statement by which the dump's own 'gosem.cut.vars' lays the variable. In a bare row this is a premise. The card (YtopfnnikfjbofaaGreatDoorCards.lean) ties it to the program's text. -/
def laid_unicode_utf8_acceptRanges {H : Type} : DataW H := .agg [.agg [.lit (.int .u8 128), .lit (.int .u8 191)], .agg [.lit (.int .u8 160), .lit (.int .u8 191)], .agg [.lit (.int .u8 128), .lit (.int .u8 159)], .agg [.lit (.int .u8 144), .lit (.int .u8 191)], .agg [.lit (.int .u8 128), .lit (.int .u8 143)], .agg [.lit (.int .u8 0), .lit (.int .u8 0)], .agg [.lit (.int .u8 0), .lit (.int .u8 0)], .agg [.lit (.int .u8 0), .lit (.int .u8 0)], .agg [.lit (.int .u8 0), .lit (.int .u8 0)], .agg [.lit (.int .u8 0), .lit (.int .u8 0)], .agg [.lit (.int .u8 0), .lit (.int .u8 0)], .agg [.lit (.int .u8 0), .lit (.int .u8 0)], .agg [.lit (.int .u8 0), .lit (.int .u8 0)], .agg [.lit (.int .u8 0), .lit (.int .u8 0)], .agg [.lit (.int .u8 0), .lit (.int .u8 0)], .agg [.lit (.int .u8 0), .lit (.int .u8 0)]]
/-- One of Go's own tables, pinned by name: the form's constant. -/
def laid_unicode_utf8_first : DataW Unit := Go.Pinned.utf8First

/-- 'draymanlaw10.SeekPlain': WHATEVER THE INPUT: true; the input reads as it did. -/
def seekPlainSpec : ChangeSpec := { name := "seekPlain", fn := fun _ => fun
  | [d1, d2, d3, d4] => { results := [.lit (.bool true)], args := [d1, d2, d3, d4] }
  | _ => none }
def seekPlainRow : OpenClaim := { program := "ytopfnnikfjbofaagreatdoor", sum := "dcae79322cbd484540f26480eb9b8151c8e8eb9d3b9327b62a3d150d13f866a2", func := "drayman/draymanlaw10.SeekPlain", spec := "seekPlain", inPlace := ["internal/bytealg.IndexByteString", "internal/bytealg.IndexString", "internal/abi.NoEscape", "internal/bytealg.MakeNoZero", "internal/bytealg.abigen_runtime_cmpstring"], unfollowed := true, recurses := true, named := ["unicode/utf8.first", "unicode/utf8.acceptRanges", "internal/bytealg.MaxLen"], apart := false, laid := [("unicode/utf8.acceptRanges", laid_unicode_utf8_acceptRanges), ("unicode/utf8.first", laid_unicode_utf8_first)] }
def SeekPlainSaid : Prop := seekPlainRow.holds Tryz.pinned (OpenSpec.ofChange seekPlainSpec)

/-- ITS FALSE NEIGHBOUR: 'it returns false'. Refute it at one input. -/
def seekPlainWrong : ChangeSpec := { name := "seekPlain", fn := fun _ => fun
  | [d1, d2, d3, d4] => { results := [.lit (.bool false)], args := [d1, d2, d3, d4] }
  | _ => none }
def SeekPlainWrongFalsely : Prop := seekPlainRow.holds Tryz.pinned (OpenSpec.ofChange seekPlainWrong)

/-- 'draymanlaw09.PlaceAts': WHATEVER THE INPUT: true; the input reads as it did. -/
def placeAtsSpec : ChangeSpec := { name := "placeAts", fn := fun _ => fun
  | [d1, d2] => { results := [.lit (.bool true)], args := [d1, d2] }
  | _ => none }
def placeAtsRow : OpenClaim := { program := "ytopfnnikfjbofaagreatdoor", sum := "dcae79322cbd484540f26480eb9b8151c8e8eb9d3b9327b62a3d150d13f866a2", func := "drayman/draymanlaw09.PlaceAts", spec := "placeAts", inPlace := ["internal/bytealg.IndexByteString", "internal/bytealg.IndexString", "internal/abi.NoEscape", "internal/bytealg.MakeNoZero", "internal/bytealg.abigen_runtime_cmpstring", "slices.overlaps[drayman/api.Entry]", "slices.overlaps[drayman/api.Inode]"], unfollowed := true, recurses := true, named := ["unicode/utf8.first", "unicode/utf8.acceptRanges", "internal/bytealg.MaxLen"], apart := false, laid := [("unicode/utf8.acceptRanges", laid_unicode_utf8_acceptRanges), ("unicode/utf8.first", laid_unicode_utf8_first)] }
def PlaceAtsSaid : Prop := placeAtsRow.holds Tryz.pinned (OpenSpec.ofChange placeAtsSpec)

/-- ITS FALSE NEIGHBOUR: 'it returns false'. Refute it at one input. -/
def placeAtsWrong : ChangeSpec := { name := "placeAts", fn := fun _ => fun
  | [d1, d2] => { results := [.lit (.bool false)], args := [d1, d2] }
  | _ => none }
def PlaceAtsWrongFalsely : Prop := placeAtsRow.holds Tryz.pinned (OpenSpec.ofChange placeAtsWrong)

/-- 'draymanlaw09.PlacePuts': WHATEVER THE INPUT: true; the input reads as it did. -/
def placePutsSpec : ChangeSpec := { name := "placePuts", fn := fun _ => fun
  | [d1, d2, d3] => { results := [.lit (.bool true)], args := [d1, d2, d3] }
  | _ => none }
def placePutsRow : OpenClaim := { program := "ytopfnnikfjbofaagreatdoor", sum := "dcae79322cbd484540f26480eb9b8151c8e8eb9d3b9327b62a3d150d13f866a2", func := "drayman/draymanlaw09.PlacePuts", spec := "placePuts", inPlace := ["internal/bytealg.IndexByteString", "internal/bytealg.IndexString", "internal/abi.NoEscape", "internal/bytealg.MakeNoZero", "internal/bytealg.abigen_runtime_cmpstring", "slices.overlaps[drayman/api.Entry]", "slices.overlaps[drayman/api.Inode]"], unfollowed := true, recurses := true, named := ["unicode/utf8.first", "unicode/utf8.acceptRanges", "internal/bytealg.MaxLen"], apart := false, laid := [("unicode/utf8.acceptRanges", laid_unicode_utf8_acceptRanges), ("unicode/utf8.first", laid_unicode_utf8_first)] }
def PlacePutsSaid : Prop := placePutsRow.holds Tryz.pinned (OpenSpec.ofChange placePutsSpec)

/-- ITS FALSE NEIGHBOUR: 'it returns false'. Refute it at one input. -/
def placePutsWrong : ChangeSpec := { name := "placePuts", fn := fun _ => fun
  | [d1, d2, d3] => { results := [.lit (.bool false)], args := [d1, d2, d3] }
  | _ => none }
def PlacePutsWrongFalsely : Prop := placePutsRow.holds Tryz.pinned (OpenSpec.ofChange placePutsWrong)

/-- 'draymanlaw09.PlaceBack': WHATEVER THE INPUT: true; the input reads as it did. -/
def placeBackSpec : ChangeSpec := { name := "placeBack", fn := fun _ => fun
  | [d1, d2] => { results := [.lit (.bool true)], args := [d1, d2] }
  | _ => none }
def placeBackRow : OpenClaim := { program := "ytopfnnikfjbofaagreatdoor", sum := "dcae79322cbd484540f26480eb9b8151c8e8eb9d3b9327b62a3d150d13f866a2", func := "drayman/draymanlaw09.PlaceBack", spec := "placeBack", inPlace := ["internal/bytealg.IndexByteString", "internal/bytealg.IndexString", "internal/abi.NoEscape", "internal/bytealg.MakeNoZero", "internal/bytealg.abigen_runtime_cmpstring", "slices.overlaps[drayman/api.Entry]", "slices.overlaps[drayman/api.Inode]"], unfollowed := true, recurses := true, named := ["unicode/utf8.first", "unicode/utf8.acceptRanges", "internal/bytealg.MaxLen"], apart := false, laid := [("unicode/utf8.acceptRanges", laid_unicode_utf8_acceptRanges), ("unicode/utf8.first", laid_unicode_utf8_first)] }
def PlaceBackSaid : Prop := placeBackRow.holds Tryz.pinned (OpenSpec.ofChange placeBackSpec)

/-- ITS FALSE NEIGHBOUR: 'it returns false'. Refute it at one input. -/
def placeBackWrong : ChangeSpec := { name := "placeBack", fn := fun _ => fun
  | [d1, d2] => { results := [.lit (.bool false)], args := [d1, d2] }
  | _ => none }
def PlaceBackWrongFalsely : Prop := placeBackRow.holds Tryz.pinned (OpenSpec.ofChange placeBackWrong)

/-- 'draymanlaw13.DataReads': WHATEVER THE INPUT: true; the input reads as it did. -/
def dataReadsSpec : ChangeSpec := { name := "dataReads", fn := fun _ => fun
  | [d1, d2, d3, d4] => { results := [.lit (.bool true)], args := [d1, d2, d3, d4] }
  | _ => none }
def dataReadsRow : OpenClaim := { program := "ytopfnnikfjbofaagreatdoor", sum := "dcae79322cbd484540f26480eb9b8151c8e8eb9d3b9327b62a3d150d13f866a2", func := "drayman/draymanlaw13.DataReads", spec := "dataReads", inPlace := ["internal/bytealg.IndexByteString", "internal/bytealg.IndexString", "internal/abi.NoEscape", "internal/bytealg.MakeNoZero", "internal/bytealg.abigen_runtime_cmpstring", "slices.overlaps[drayman/api.Inode]"], unfollowed := true, recurses := true, named := ["unicode/utf8.first", "unicode/utf8.acceptRanges", "internal/bytealg.MaxLen"], apart := false, laid := [("unicode/utf8.acceptRanges", laid_unicode_utf8_acceptRanges), ("unicode/utf8.first", laid_unicode_utf8_first)] }
def DataReadsSaid : Prop := dataReadsRow.holds Tryz.pinned (OpenSpec.ofChange dataReadsSpec)

/-- ITS FALSE NEIGHBOUR: 'it returns false'. Refute it at one input. -/
def dataReadsWrong : ChangeSpec := { name := "dataReads", fn := fun _ => fun
  | [d1, d2, d3, d4] => { results := [.lit (.bool false)], args := [d1, d2, d3, d4] }
  | _ => none }
def DataReadsWrongFalsely : Prop := dataReadsRow.holds Tryz.pinned (OpenSpec.ofChange dataReadsWrong)

/-- 'draymanlaw13.DataWrites': WHATEVER THE INPUT: true; the input reads as it did. -/
def dataWritesSpec : ChangeSpec := { name := "dataWrites", fn := fun _ => fun
  | [d1, d2, d3, d4] => { results := [.lit (.bool true)], args := [d1, d2, d3, d4] }
  | _ => none }
def dataWritesRow : OpenClaim := { program := "ytopfnnikfjbofaagreatdoor", sum := "dcae79322cbd484540f26480eb9b8151c8e8eb9d3b9327b62a3d150d13f866a2", func := "drayman/draymanlaw13.DataWrites", spec := "dataWrites", inPlace := ["internal/bytealg.IndexByteString", "internal/bytealg.IndexString", "internal/abi.NoEscape", "internal/bytealg.MakeNoZero", "internal/bytealg.abigen_runtime_cmpstring", "slices.overlaps[drayman/api.Inode]"], unfollowed := true, recurses := true, named := ["unicode/utf8.first", "unicode/utf8.acceptRanges", "internal/bytealg.MaxLen"], apart := false, laid := [("unicode/utf8.acceptRanges", laid_unicode_utf8_acceptRanges), ("unicode/utf8.first", laid_unicode_utf8_first)] }
def DataWritesSaid : Prop := dataWritesRow.holds Tryz.pinned (OpenSpec.ofChange dataWritesSpec)

/-- ITS FALSE NEIGHBOUR: 'it returns false'. Refute it at one input. -/
def dataWritesWrong : ChangeSpec := { name := "dataWrites", fn := fun _ => fun
  | [d1, d2, d3, d4] => { results := [.lit (.bool false)], args := [d1, d2, d3, d4] }
  | _ => none }
def DataWritesWrongFalsely : Prop := dataWritesRow.holds Tryz.pinned (OpenSpec.ofChange dataWritesWrong)

/-- 'draymanlaw13.DataSets': WHATEVER THE INPUT: true; the input reads as it did. -/
def dataSetsSpec : ChangeSpec := { name := "dataSets", fn := fun _ => fun
  | [d1, d2, d3] => { results := [.lit (.bool true)], args := [d1, d2, d3] }
  | _ => none }
def dataSetsRow : OpenClaim := { program := "ytopfnnikfjbofaagreatdoor", sum := "dcae79322cbd484540f26480eb9b8151c8e8eb9d3b9327b62a3d150d13f866a2", func := "drayman/draymanlaw13.DataSets", spec := "dataSets", inPlace := ["internal/bytealg.IndexByteString", "internal/bytealg.IndexString", "internal/abi.NoEscape", "internal/bytealg.MakeNoZero", "internal/bytealg.abigen_runtime_cmpstring", "slices.overlaps[drayman/api.Inode]"], unfollowed := true, recurses := true, named := ["unicode/utf8.first", "unicode/utf8.acceptRanges", "internal/bytealg.MaxLen"], apart := false, laid := [("unicode/utf8.acceptRanges", laid_unicode_utf8_acceptRanges), ("unicode/utf8.first", laid_unicode_utf8_first)] }
def DataSetsSaid : Prop := dataSetsRow.holds Tryz.pinned (OpenSpec.ofChange dataSetsSpec)

/-- ITS FALSE NEIGHBOUR: 'it returns false'. Refute it at one input. -/
def dataSetsWrong : ChangeSpec := { name := "dataSets", fn := fun _ => fun
  | [d1, d2, d3] => { results := [.lit (.bool false)], args := [d1, d2, d3] }
  | _ => none }
def DataSetsWrongFalsely : Prop := dataSetsRow.holds Tryz.pinned (OpenSpec.ofChange dataSetsWrong)

/-- 'draymanlaw13.DataBack': WHATEVER THE INPUT: true; the input reads as it did. -/
def dataBackSpec : ChangeSpec := { name := "dataBack", fn := fun _ => fun
  | [d1, d2, d3, d4] => { results := [.lit (.bool true)], args := [d1, d2, d3, d4] }
  | _ => none }
def dataBackRow : OpenClaim := { program := "ytopfnnikfjbofaagreatdoor", sum := "dcae79322cbd484540f26480eb9b8151c8e8eb9d3b9327b62a3d150d13f866a2", func := "drayman/draymanlaw13.DataBack", spec := "dataBack", inPlace := ["internal/bytealg.IndexByteString", "internal/bytealg.IndexString", "internal/abi.NoEscape", "internal/bytealg.MakeNoZero", "internal/bytealg.abigen_runtime_cmpstring", "slices.overlaps[drayman/api.Inode]"], unfollowed := true, recurses := true, named := ["unicode/utf8.first", "unicode/utf8.acceptRanges", "internal/bytealg.MaxLen"], apart := false, laid := [("unicode/utf8.acceptRanges", laid_unicode_utf8_acceptRanges), ("unicode/utf8.first", laid_unicode_utf8_first)] }
def DataBackSaid : Prop := dataBackRow.holds Tryz.pinned (OpenSpec.ofChange dataBackSpec)

/-- ITS FALSE NEIGHBOUR: 'it returns false'. Refute it at one input. -/
def dataBackWrong : ChangeSpec := { name := "dataBack", fn := fun _ => fun
  | [d1, d2, d3, d4] => { results := [.lit (.bool false)], args := [d1, d2, d3, d4] }
  | _ => none }
def DataBackWrongFalsely : Prop := dataBackRow.holds Tryz.pinned (OpenSpec.ofChange dataBackWrong)

/-- 'draymanlaw13.DataKeeps': WHATEVER THE INPUT: true; the input reads as it did. -/
def dataKeepsSpec : ChangeSpec := { name := "dataKeeps", fn := fun _ => fun
  | [d1, d2, d3, d4] => { results := [.lit (.bool true)], args := [d1, d2, d3, d4] }
  | _ => none }
def dataKeepsRow : OpenClaim := { program := "ytopfnnikfjbofaagreatdoor", sum := "dcae79322cbd484540f26480eb9b8151c8e8eb9d3b9327b62a3d150d13f866a2", func := "drayman/draymanlaw13.DataKeeps", spec := "dataKeeps", inPlace := ["internal/bytealg.IndexByteString", "internal/bytealg.IndexString", "internal/abi.NoEscape", "internal/bytealg.MakeNoZero", "internal/bytealg.abigen_runtime_cmpstring", "slices.overlaps[drayman/api.Inode]"], unfollowed := true, recurses := true, named := ["unicode/utf8.first", "unicode/utf8.acceptRanges", "internal/bytealg.MaxLen"], apart := false, laid := [("unicode/utf8.acceptRanges", laid_unicode_utf8_acceptRanges), ("unicode/utf8.first", laid_unicode_utf8_first)] }
def DataKeepsSaid : Prop := dataKeepsRow.holds Tryz.pinned (OpenSpec.ofChange dataKeepsSpec)

/-- ITS FALSE NEIGHBOUR: 'it returns false'. Refute it at one input. -/
def dataKeepsWrong : ChangeSpec := { name := "dataKeeps", fn := fun _ => fun
  | [d1, d2, d3, d4] => { results := [.lit (.bool false)], args := [d1, d2, d3, d4] }
  | _ => none }
def DataKeepsWrongFalsely : Prop := dataKeepsRow.holds Tryz.pinned (OpenSpec.ofChange dataKeepsWrong)

/- THE SECOND FORM. 'bulk': how many values and letters a reading holds, each counted each time it is reached (what is shared counts as often as it is met; a slice's spare places count too). A statement '..UptoSaid' is the law's where the arguments, and the package variables that the reading takes, are together of bulk at most 1048576: NARROWER than '..Said'. Prove '..Said' where nothing that the law and all that it calls make is longer than what came in: it says more and counts as full. Else prove '..UptoSaid'. A law counts once. -/
mutual
def uptoBulk {H : Type} : DataW H → Nat
  | .lit (.string bytes) => bytes.length + 1
  | .lit _ => 1
  | .nil => 1
  | .ptr d => uptoBulk d + 1
  | .slice elems spare => uptoBulkAll elems + uptoBulkAll spare + 1
  | .agg parts => uptoBulkAll parts + 1
  | .iface _ d => uptoBulk d + 1
  | .map entries => uptoBulkEntries entries + 1
  | .held _ => 1
def uptoBulkAll {H : Type} : List (DataW H) → Nat
  | [] => 0
  | d :: r => uptoBulk d + uptoBulkAll r
def uptoBulkEntries {H : Type} : List (Lit × DataW H) → Nat
  | [] => 0
  | x :: r => uptoBulkEntry x + uptoBulkEntries r
def uptoBulkEntry {H : Type} : Lit × DataW H → Nat
  | (.string bytes, d) => bytes.length + uptoBulk d + 1
  | (_, d) => uptoBulk d + 1
 end
def uptoSmall : (H : Type) → List (DataW H) → Bool := fun _ ds => decide (uptoBulkAll ds ≤ 1048576)
def OpenSpec.upto (s : _root_.Go.ChangeSpec) : _root_.Go.OpenSpec := { _root_.Go.OpenSpec.ofChange s with cond := some uptoSmall }

/-- 'draymanlaw10.SeekPlain', WHERE WHAT IT READS IS OF BULK AT MOST 1048576: true; the input reads as it did. -/
def seekPlainUptoRow : OpenClaim := { program := "ytopfnnikfjbofaagreatdoor", sum := "dcae79322cbd484540f26480eb9b8151c8e8eb9d3b9327b62a3d150d13f866a2", func := "drayman/draymanlaw10.SeekPlain", spec := "seekPlain", inPlace := ["internal/bytealg.IndexByteString", "internal/bytealg.IndexString", "internal/abi.NoEscape", "internal/bytealg.MakeNoZero", "internal/bytealg.abigen_runtime_cmpstring"], unfollowed := true, recurses := true, named := ["unicode/utf8.first", "unicode/utf8.acceptRanges", "internal/bytealg.MaxLen"], apart := false, laid := [("unicode/utf8.acceptRanges", laid_unicode_utf8_acceptRanges), ("unicode/utf8.first", laid_unicode_utf8_first)], narrowed := true }
def SeekPlainUptoSaid : Prop := seekPlainUptoRow.holds Tryz.pinned (OpenSpec.upto seekPlainSpec)

/-- 'draymanlaw09.PlaceAts', WHERE WHAT IT READS IS OF BULK AT MOST 1048576: true; the input reads as it did. -/
def placeAtsUptoRow : OpenClaim := { program := "ytopfnnikfjbofaagreatdoor", sum := "dcae79322cbd484540f26480eb9b8151c8e8eb9d3b9327b62a3d150d13f866a2", func := "drayman/draymanlaw09.PlaceAts", spec := "placeAts", inPlace := ["internal/bytealg.IndexByteString", "internal/bytealg.IndexString", "internal/abi.NoEscape", "internal/bytealg.MakeNoZero", "internal/bytealg.abigen_runtime_cmpstring", "slices.overlaps[drayman/api.Entry]", "slices.overlaps[drayman/api.Inode]"], unfollowed := true, recurses := true, named := ["unicode/utf8.first", "unicode/utf8.acceptRanges", "internal/bytealg.MaxLen"], apart := false, laid := [("unicode/utf8.acceptRanges", laid_unicode_utf8_acceptRanges), ("unicode/utf8.first", laid_unicode_utf8_first)], narrowed := true }
def PlaceAtsUptoSaid : Prop := placeAtsUptoRow.holds Tryz.pinned (OpenSpec.upto placeAtsSpec)

/-- 'draymanlaw09.PlacePuts', WHERE WHAT IT READS IS OF BULK AT MOST 1048576: true; the input reads as it did. -/
def placePutsUptoRow : OpenClaim := { program := "ytopfnnikfjbofaagreatdoor", sum := "dcae79322cbd484540f26480eb9b8151c8e8eb9d3b9327b62a3d150d13f866a2", func := "drayman/draymanlaw09.PlacePuts", spec := "placePuts", inPlace := ["internal/bytealg.IndexByteString", "internal/bytealg.IndexString", "internal/abi.NoEscape", "internal/bytealg.MakeNoZero", "internal/bytealg.abigen_runtime_cmpstring", "slices.overlaps[drayman/api.Entry]", "slices.overlaps[drayman/api.Inode]"], unfollowed := true, recurses := true, named := ["unicode/utf8.first", "unicode/utf8.acceptRanges", "internal/bytealg.MaxLen"], apart := false, laid := [("unicode/utf8.acceptRanges", laid_unicode_utf8_acceptRanges), ("unicode/utf8.first", laid_unicode_utf8_first)], narrowed := true }
def PlacePutsUptoSaid : Prop := placePutsUptoRow.holds Tryz.pinned (OpenSpec.upto placePutsSpec)

/-- 'draymanlaw09.PlaceBack', WHERE WHAT IT READS IS OF BULK AT MOST 1048576: true; the input reads as it did. -/
def placeBackUptoRow : OpenClaim := { program := "ytopfnnikfjbofaagreatdoor", sum := "dcae79322cbd484540f26480eb9b8151c8e8eb9d3b9327b62a3d150d13f866a2", func := "drayman/draymanlaw09.PlaceBack", spec := "placeBack", inPlace := ["internal/bytealg.IndexByteString", "internal/bytealg.IndexString", "internal/abi.NoEscape", "internal/bytealg.MakeNoZero", "internal/bytealg.abigen_runtime_cmpstring", "slices.overlaps[drayman/api.Entry]", "slices.overlaps[drayman/api.Inode]"], unfollowed := true, recurses := true, named := ["unicode/utf8.first", "unicode/utf8.acceptRanges", "internal/bytealg.MaxLen"], apart := false, laid := [("unicode/utf8.acceptRanges", laid_unicode_utf8_acceptRanges), ("unicode/utf8.first", laid_unicode_utf8_first)], narrowed := true }
def PlaceBackUptoSaid : Prop := placeBackUptoRow.holds Tryz.pinned (OpenSpec.upto placeBackSpec)

/-- 'draymanlaw13.DataReads', WHERE WHAT IT READS IS OF BULK AT MOST 1048576: true; the input reads as it did. -/
def dataReadsUptoRow : OpenClaim := { program := "ytopfnnikfjbofaagreatdoor", sum := "dcae79322cbd484540f26480eb9b8151c8e8eb9d3b9327b62a3d150d13f866a2", func := "drayman/draymanlaw13.DataReads", spec := "dataReads", inPlace := ["internal/bytealg.IndexByteString", "internal/bytealg.IndexString", "internal/abi.NoEscape", "internal/bytealg.MakeNoZero", "internal/bytealg.abigen_runtime_cmpstring", "slices.overlaps[drayman/api.Inode]"], unfollowed := true, recurses := true, named := ["unicode/utf8.first", "unicode/utf8.acceptRanges", "internal/bytealg.MaxLen"], apart := false, laid := [("unicode/utf8.acceptRanges", laid_unicode_utf8_acceptRanges), ("unicode/utf8.first", laid_unicode_utf8_first)], narrowed := true }
def DataReadsUptoSaid : Prop := dataReadsUptoRow.holds Tryz.pinned (OpenSpec.upto dataReadsSpec)

/-- 'draymanlaw13.DataWrites', WHERE WHAT IT READS IS OF BULK AT MOST 1048576: true; the input reads as it did. -/
def dataWritesUptoRow : OpenClaim := { program := "ytopfnnikfjbofaagreatdoor", sum := "dcae79322cbd484540f26480eb9b8151c8e8eb9d3b9327b62a3d150d13f866a2", func := "drayman/draymanlaw13.DataWrites", spec := "dataWrites", inPlace := ["internal/bytealg.IndexByteString", "internal/bytealg.IndexString", "internal/abi.NoEscape", "internal/bytealg.MakeNoZero", "internal/bytealg.abigen_runtime_cmpstring", "slices.overlaps[drayman/api.Inode]"], unfollowed := true, recurses := true, named := ["unicode/utf8.first", "unicode/utf8.acceptRanges", "internal/bytealg.MaxLen"], apart := false, laid := [("unicode/utf8.acceptRanges", laid_unicode_utf8_acceptRanges), ("unicode/utf8.first", laid_unicode_utf8_first)], narrowed := true }
def DataWritesUptoSaid : Prop := dataWritesUptoRow.holds Tryz.pinned (OpenSpec.upto dataWritesSpec)

/-- 'draymanlaw13.DataSets', WHERE WHAT IT READS IS OF BULK AT MOST 1048576: true; the input reads as it did. -/
def dataSetsUptoRow : OpenClaim := { program := "ytopfnnikfjbofaagreatdoor", sum := "dcae79322cbd484540f26480eb9b8151c8e8eb9d3b9327b62a3d150d13f866a2", func := "drayman/draymanlaw13.DataSets", spec := "dataSets", inPlace := ["internal/bytealg.IndexByteString", "internal/bytealg.IndexString", "internal/abi.NoEscape", "internal/bytealg.MakeNoZero", "internal/bytealg.abigen_runtime_cmpstring", "slices.overlaps[drayman/api.Inode]"], unfollowed := true, recurses := true, named := ["unicode/utf8.first", "unicode/utf8.acceptRanges", "internal/bytealg.MaxLen"], apart := false, laid := [("unicode/utf8.acceptRanges", laid_unicode_utf8_acceptRanges), ("unicode/utf8.first", laid_unicode_utf8_first)], narrowed := true }
def DataSetsUptoSaid : Prop := dataSetsUptoRow.holds Tryz.pinned (OpenSpec.upto dataSetsSpec)

/-- 'draymanlaw13.DataBack', WHERE WHAT IT READS IS OF BULK AT MOST 1048576: true; the input reads as it did. -/
def dataBackUptoRow : OpenClaim := { program := "ytopfnnikfjbofaagreatdoor", sum := "dcae79322cbd484540f26480eb9b8151c8e8eb9d3b9327b62a3d150d13f866a2", func := "drayman/draymanlaw13.DataBack", spec := "dataBack", inPlace := ["internal/bytealg.IndexByteString", "internal/bytealg.IndexString", "internal/abi.NoEscape", "internal/bytealg.MakeNoZero", "internal/bytealg.abigen_runtime_cmpstring", "slices.overlaps[drayman/api.Inode]"], unfollowed := true, recurses := true, named := ["unicode/utf8.first", "unicode/utf8.acceptRanges", "internal/bytealg.MaxLen"], apart := false, laid := [("unicode/utf8.acceptRanges", laid_unicode_utf8_acceptRanges), ("unicode/utf8.first", laid_unicode_utf8_first)], narrowed := true }
def DataBackUptoSaid : Prop := dataBackUptoRow.holds Tryz.pinned (OpenSpec.upto dataBackSpec)

/-- 'draymanlaw13.DataKeeps', WHERE WHAT IT READS IS OF BULK AT MOST 1048576: true; the input reads as it did. -/
def dataKeepsUptoRow : OpenClaim := { program := "ytopfnnikfjbofaagreatdoor", sum := "dcae79322cbd484540f26480eb9b8151c8e8eb9d3b9327b62a3d150d13f866a2", func := "drayman/draymanlaw13.DataKeeps", spec := "dataKeeps", inPlace := ["internal/bytealg.IndexByteString", "internal/bytealg.IndexString", "internal/abi.NoEscape", "internal/bytealg.MakeNoZero", "internal/bytealg.abigen_runtime_cmpstring", "slices.overlaps[drayman/api.Inode]"], unfollowed := true, recurses := true, named := ["unicode/utf8.first", "unicode/utf8.acceptRanges", "internal/bytealg.MaxLen"], apart := false, laid := [("unicode/utf8.acceptRanges", laid_unicode_utf8_acceptRanges), ("unicode/utf8.first", laid_unicode_utf8_first)], narrowed := true }
def DataKeepsUptoSaid : Prop := dataKeepsUptoRow.holds Tryz.pinned (OpenSpec.upto dataKeepsSpec)

end Rows
end Go.Proofs.YtopfnnikfjbofaaGreatDoor
