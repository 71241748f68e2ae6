/-
  NARROWER THAN 'FOR EVERY INPUT', by the rows' own cells (each row's printed sentence says how): MakeMkdirs: laid · MakeCreates: laid · MakeSymlinks: laid · MakeNews: laid · MakeSound: laid · MakeKeeps: laid · DropLinks: laid · DropUnlinks: laid · DropNames: laid · DropSound: laid · DropBack: laid · DropKeeps: laid.
  DERIVED. THE GIVEN ROWS OF THIS SEAT. 12 by the template 'for every input the law returns true; each argument reads behind the call as it read before'; 0 by the template 'total and deterministic' (their statements: YtmhkgpaphifdpaaGreatDoorTotals.lean).
  GIVEN WITH THE SEED: the statements are not yours to turn. If you find one false, say at which input.
  Laid BY PROGRAM, IN A SANDBOX (cutbox-rows.mjs): the forced cells as the released guide's own fill.sh prints them over the translation f157ac8cb653337a… (all of the seat's roots in one cut). By AI agents, Wed Nov 11 2026. No macro, syntax, notation, axiom, sorry.
-/
import Derived.Test.YtmhkgpaphifdpaaGreatDoorChecked
import GoSem.PinnedTables
import GoSem.Claim
import GoSem.ClaimJoined
import GoSem.ClaimMapViews
import Derived.JoinedTies
import Derived.KernelRfl
namespace Go.Proofs.YtmhkgpaphifdpaaGreatDoor
/- THE CELL 'sum', in the pinned program and in every row, IS THE sha256 OF THE DUMP (.gsa) THAT YtmhkgpaphifdpaaGreatDoorProg.lean LOADS. Nothing in Lean hashes anything: it is a label: what it is worth is what the hold of that sum in a sandbox is worth. -/
noncomputable def Tryz.pinned : Pinned := { name := "ytmhkgpaphifdpaagreatdoor", sum := "f157ac8cb653337a717e20172089f048fb0151a08db096eb922bdb034b7cea98", checked := Tryz.checked }
namespace Rows
def none {H : Type} : Left H := { results := [], args := [] }

/- WHAT THE LISTED PACKAGE-LEVEL VARIABLES READ AS WHEN THE CALL BEGINS. Each datum BY PROGRAM (the guide's laid-datum.mjs) off the statement by which the dump's own 'gosem.cut.vars' lays the variable. In a bare row this is a premise. The card (YtmhkgpaphifdpaaGreatDoorCards.lean) ties it to the program's text. -/
def laid_unicode_utf8_acceptRanges {H : Type} : DataW H := .agg [.agg [.lit (.int .u8 128), .lit (.int .u8 191)], .agg [.lit (.int .u8 160), .lit (.int .u8 191)], .agg [.lit (.int .u8 128), .lit (.int .u8 159)], .agg [.lit (.int .u8 144), .lit (.int .u8 191)], .agg [.lit (.int .u8 128), .lit (.int .u8 143)], .agg [.lit (.int .u8 0), .lit (.int .u8 0)], .agg [.lit (.int .u8 0), .lit (.int .u8 0)], .agg [.lit (.int .u8 0), .lit (.int .u8 0)], .agg [.lit (.int .u8 0), .lit (.int .u8 0)], .agg [.lit (.int .u8 0), .lit (.int .u8 0)], .agg [.lit (.int .u8 0), .lit (.int .u8 0)], .agg [.lit (.int .u8 0), .lit (.int .u8 0)], .agg [.lit (.int .u8 0), .lit (.int .u8 0)], .agg [.lit (.int .u8 0), .lit (.int .u8 0)], .agg [.lit (.int .u8 0), .lit (.int .u8 0)], .agg [.lit (.int .u8 0), .lit (.int .u8 0)]]
/-- One of Go's own tables, pinned by name: the form's constant. -/
def laid_unicode_utf8_first : DataW Unit := Go.Pinned.utf8First

/-- 'draymanlaw11.MakeMkdirs': WHATEVER THE INPUT: true; the input reads as it did. -/
def makeMkdirsSpec : ChangeSpec := { name := "makeMkdirs", fn := fun _ => fun
  | [d1, d2, d3] => { results := [.lit (.bool true)], args := [d1, d2, d3] }
  | _ => none }
def makeMkdirsRow : OpenClaim := { program := "ytmhkgpaphifdpaagreatdoor", sum := "f157ac8cb653337a717e20172089f048fb0151a08db096eb922bdb034b7cea98", func := "drayman/draymanlaw11.MakeMkdirs", spec := "makeMkdirs", inPlace := ["internal/bytealg.IndexByteString", "internal/bytealg.IndexString", "internal/bytealg.abigen_runtime_cmpstring", "slices.overlaps[drayman/api.Entry]", "slices.overlaps[drayman/api.Inode]", "internal/abi.NoEscape", "internal/bytealg.MakeNoZero"], unfollowed := true, recurses := true, named := ["unicode/utf8.first", "unicode/utf8.acceptRanges", "internal/bytealg.MaxLen"], apart := false, laid := [("unicode/utf8.acceptRanges", laid_unicode_utf8_acceptRanges), ("unicode/utf8.first", laid_unicode_utf8_first)] }
def MakeMkdirsSaid : Prop := makeMkdirsRow.holds Tryz.pinned (OpenSpec.ofChange makeMkdirsSpec)

/-- ITS FALSE NEIGHBOUR: 'it returns false'. Refute it at one input. -/
def makeMkdirsWrong : ChangeSpec := { name := "makeMkdirs", fn := fun _ => fun
  | [d1, d2, d3] => { results := [.lit (.bool false)], args := [d1, d2, d3] }
  | _ => none }
def MakeMkdirsWrongFalsely : Prop := makeMkdirsRow.holds Tryz.pinned (OpenSpec.ofChange makeMkdirsWrong)

/-- 'draymanlaw11.MakeCreates': WHATEVER THE INPUT: true; the input reads as it did. -/
def makeCreatesSpec : ChangeSpec := { name := "makeCreates", fn := fun _ => fun
  | [d1, d2, d3, d4] => { results := [.lit (.bool true)], args := [d1, d2, d3, d4] }
  | _ => none }
def makeCreatesRow : OpenClaim := { program := "ytmhkgpaphifdpaagreatdoor", sum := "f157ac8cb653337a717e20172089f048fb0151a08db096eb922bdb034b7cea98", func := "drayman/draymanlaw11.MakeCreates", spec := "makeCreates", inPlace := ["internal/bytealg.IndexByteString", "internal/bytealg.IndexString", "internal/bytealg.abigen_runtime_cmpstring", "slices.overlaps[drayman/api.Entry]", "slices.overlaps[drayman/api.Inode]", "internal/abi.NoEscape", "internal/bytealg.MakeNoZero"], unfollowed := true, recurses := true, named := ["unicode/utf8.first", "unicode/utf8.acceptRanges", "internal/bytealg.MaxLen"], apart := false, laid := [("unicode/utf8.acceptRanges", laid_unicode_utf8_acceptRanges), ("unicode/utf8.first", laid_unicode_utf8_first)] }
def MakeCreatesSaid : Prop := makeCreatesRow.holds Tryz.pinned (OpenSpec.ofChange makeCreatesSpec)

/-- ITS FALSE NEIGHBOUR: 'it returns false'. Refute it at one input. -/
def makeCreatesWrong : ChangeSpec := { name := "makeCreates", fn := fun _ => fun
  | [d1, d2, d3, d4] => { results := [.lit (.bool false)], args := [d1, d2, d3, d4] }
  | _ => none }
def MakeCreatesWrongFalsely : Prop := makeCreatesRow.holds Tryz.pinned (OpenSpec.ofChange makeCreatesWrong)

/-- 'draymanlaw11.MakeSymlinks': WHATEVER THE INPUT: true; the input reads as it did. -/
def makeSymlinksSpec : ChangeSpec := { name := "makeSymlinks", fn := fun _ => fun
  | [d1, d2, d3, d4] => { results := [.lit (.bool true)], args := [d1, d2, d3, d4] }
  | _ => none }
def makeSymlinksRow : OpenClaim := { program := "ytmhkgpaphifdpaagreatdoor", sum := "f157ac8cb653337a717e20172089f048fb0151a08db096eb922bdb034b7cea98", func := "drayman/draymanlaw11.MakeSymlinks", spec := "makeSymlinks", inPlace := ["internal/bytealg.IndexByteString", "internal/bytealg.IndexString", "internal/bytealg.abigen_runtime_cmpstring", "slices.overlaps[drayman/api.Entry]", "slices.overlaps[drayman/api.Inode]", "internal/abi.NoEscape", "internal/bytealg.MakeNoZero"], unfollowed := true, recurses := true, named := ["unicode/utf8.first", "unicode/utf8.acceptRanges", "internal/bytealg.MaxLen"], apart := false, laid := [("unicode/utf8.acceptRanges", laid_unicode_utf8_acceptRanges), ("unicode/utf8.first", laid_unicode_utf8_first)] }
def MakeSymlinksSaid : Prop := makeSymlinksRow.holds Tryz.pinned (OpenSpec.ofChange makeSymlinksSpec)

/-- ITS FALSE NEIGHBOUR: 'it returns false'. Refute it at one input. -/
def makeSymlinksWrong : ChangeSpec := { name := "makeSymlinks", fn := fun _ => fun
  | [d1, d2, d3, d4] => { results := [.lit (.bool false)], args := [d1, d2, d3, d4] }
  | _ => none }
def MakeSymlinksWrongFalsely : Prop := makeSymlinksRow.holds Tryz.pinned (OpenSpec.ofChange makeSymlinksWrong)

/-- 'draymanlaw11.MakeNews': WHATEVER THE INPUT: true; the input reads as it did. -/
def makeNewsSpec : ChangeSpec := { name := "makeNews", fn := fun _ => fun
  | [d1, d2, d3, d4, d5] => { results := [.lit (.bool true)], args := [d1, d2, d3, d4, d5] }
  | _ => none }
def makeNewsRow : OpenClaim := { program := "ytmhkgpaphifdpaagreatdoor", sum := "f157ac8cb653337a717e20172089f048fb0151a08db096eb922bdb034b7cea98", func := "drayman/draymanlaw11.MakeNews", spec := "makeNews", inPlace := ["internal/bytealg.IndexByteString", "internal/bytealg.IndexString", "internal/bytealg.abigen_runtime_cmpstring", "slices.overlaps[drayman/api.Entry]", "slices.overlaps[drayman/api.Inode]", "internal/abi.NoEscape", "internal/bytealg.MakeNoZero"], unfollowed := true, recurses := true, named := ["unicode/utf8.first", "unicode/utf8.acceptRanges", "internal/bytealg.MaxLen"], apart := false, laid := [("unicode/utf8.acceptRanges", laid_unicode_utf8_acceptRanges), ("unicode/utf8.first", laid_unicode_utf8_first)] }
def MakeNewsSaid : Prop := makeNewsRow.holds Tryz.pinned (OpenSpec.ofChange makeNewsSpec)

/-- ITS FALSE NEIGHBOUR: 'it returns false'. Refute it at one input. -/
def makeNewsWrong : ChangeSpec := { name := "makeNews", fn := fun _ => fun
  | [d1, d2, d3, d4, d5] => { results := [.lit (.bool false)], args := [d1, d2, d3, d4, d5] }
  | _ => none }
def MakeNewsWrongFalsely : Prop := makeNewsRow.holds Tryz.pinned (OpenSpec.ofChange makeNewsWrong)

/-- 'draymanlaw11.MakeSound': WHATEVER THE INPUT: true; the input reads as it did. -/
def makeSoundSpec : ChangeSpec := { name := "makeSound", fn := fun _ => fun
  | [d1, d2, d3, d4, d5] => { results := [.lit (.bool true)], args := [d1, d2, d3, d4, d5] }
  | _ => none }
def makeSoundRow : OpenClaim := { program := "ytmhkgpaphifdpaagreatdoor", sum := "f157ac8cb653337a717e20172089f048fb0151a08db096eb922bdb034b7cea98", func := "drayman/draymanlaw11.MakeSound", spec := "makeSound", inPlace := ["internal/bytealg.IndexByteString", "internal/bytealg.IndexString", "internal/bytealg.abigen_runtime_cmpstring", "slices.overlaps[drayman/api.Entry]", "slices.overlaps[drayman/api.Inode]", "internal/abi.NoEscape", "internal/bytealg.MakeNoZero"], unfollowed := true, recurses := true, named := ["unicode/utf8.first", "unicode/utf8.acceptRanges", "internal/bytealg.MaxLen"], apart := false, laid := [("unicode/utf8.acceptRanges", laid_unicode_utf8_acceptRanges), ("unicode/utf8.first", laid_unicode_utf8_first)] }
def MakeSoundSaid : Prop := makeSoundRow.holds Tryz.pinned (OpenSpec.ofChange makeSoundSpec)

/-- ITS FALSE NEIGHBOUR: 'it returns false'. Refute it at one input. -/
def makeSoundWrong : ChangeSpec := { name := "makeSound", fn := fun _ => fun
  | [d1, d2, d3, d4, d5] => { results := [.lit (.bool false)], args := [d1, d2, d3, d4, d5] }
  | _ => none }
def MakeSoundWrongFalsely : Prop := makeSoundRow.holds Tryz.pinned (OpenSpec.ofChange makeSoundWrong)

/-- 'draymanlaw11.MakeKeeps': WHATEVER THE INPUT: true; the input reads as it did. -/
def makeKeepsSpec : ChangeSpec := { name := "makeKeeps", fn := fun _ => fun
  | [d1, d2, d3, d4] => { results := [.lit (.bool true)], args := [d1, d2, d3, d4] }
  | _ => none }
def makeKeepsRow : OpenClaim := { program := "ytmhkgpaphifdpaagreatdoor", sum := "f157ac8cb653337a717e20172089f048fb0151a08db096eb922bdb034b7cea98", func := "drayman/draymanlaw11.MakeKeeps", spec := "makeKeeps", inPlace := ["internal/bytealg.IndexByteString", "internal/bytealg.IndexString", "internal/bytealg.abigen_runtime_cmpstring", "slices.overlaps[drayman/api.Entry]", "slices.overlaps[drayman/api.Inode]", "internal/abi.NoEscape", "internal/bytealg.MakeNoZero"], unfollowed := true, recurses := true, named := ["unicode/utf8.first", "unicode/utf8.acceptRanges", "internal/bytealg.MaxLen"], apart := false, laid := [("unicode/utf8.acceptRanges", laid_unicode_utf8_acceptRanges), ("unicode/utf8.first", laid_unicode_utf8_first)] }
def MakeKeepsSaid : Prop := makeKeepsRow.holds Tryz.pinned (OpenSpec.ofChange makeKeepsSpec)

/-- ITS FALSE NEIGHBOUR: 'it returns false'. Refute it at one input. -/
def makeKeepsWrong : ChangeSpec := { name := "makeKeeps", fn := fun _ => fun
  | [d1, d2, d3, d4] => { results := [.lit (.bool false)], args := [d1, d2, d3, d4] }
  | _ => none }
def MakeKeepsWrongFalsely : Prop := makeKeepsRow.holds Tryz.pinned (OpenSpec.ofChange makeKeepsWrong)

/-- 'draymanlaw12.DropLinks': WHATEVER THE INPUT: true; the input reads as it did. -/
def dropLinksSpec : ChangeSpec := { name := "dropLinks", fn := fun _ => fun
  | [d1, d2, d3, d4] => { results := [.lit (.bool true)], args := [d1, d2, d3, d4] }
  | _ => none }
def dropLinksRow : OpenClaim := { program := "ytmhkgpaphifdpaagreatdoor", sum := "f157ac8cb653337a717e20172089f048fb0151a08db096eb922bdb034b7cea98", func := "drayman/draymanlaw12.DropLinks", spec := "dropLinks", inPlace := ["internal/bytealg.IndexByteString", "internal/bytealg.IndexString", "internal/abi.NoEscape", "internal/bytealg.MakeNoZero", "internal/bytealg.abigen_runtime_cmpstring", "slices.overlaps[drayman/api.Entry]", "slices.overlaps[drayman/api.Inode]"], unfollowed := true, recurses := true, named := ["unicode/utf8.first", "unicode/utf8.acceptRanges", "internal/bytealg.MaxLen"], apart := false, laid := [("unicode/utf8.acceptRanges", laid_unicode_utf8_acceptRanges), ("unicode/utf8.first", laid_unicode_utf8_first)] }
def DropLinksSaid : Prop := dropLinksRow.holds Tryz.pinned (OpenSpec.ofChange dropLinksSpec)

/-- ITS FALSE NEIGHBOUR: 'it returns false'. Refute it at one input. -/
def dropLinksWrong : ChangeSpec := { name := "dropLinks", fn := fun _ => fun
  | [d1, d2, d3, d4] => { results := [.lit (.bool false)], args := [d1, d2, d3, d4] }
  | _ => none }
def DropLinksWrongFalsely : Prop := dropLinksRow.holds Tryz.pinned (OpenSpec.ofChange dropLinksWrong)

/-- 'draymanlaw12.DropUnlinks': WHATEVER THE INPUT: true; the input reads as it did. -/
def dropUnlinksSpec : ChangeSpec := { name := "dropUnlinks", fn := fun _ => fun
  | [d1, d2, d3] => { results := [.lit (.bool true)], args := [d1, d2, d3] }
  | _ => none }
def dropUnlinksRow : OpenClaim := { program := "ytmhkgpaphifdpaagreatdoor", sum := "f157ac8cb653337a717e20172089f048fb0151a08db096eb922bdb034b7cea98", func := "drayman/draymanlaw12.DropUnlinks", spec := "dropUnlinks", inPlace := ["internal/bytealg.IndexByteString", "internal/bytealg.IndexString", "internal/abi.NoEscape", "internal/bytealg.MakeNoZero", "internal/bytealg.abigen_runtime_cmpstring", "slices.overlaps[drayman/api.Entry]", "slices.overlaps[drayman/api.Inode]"], unfollowed := true, recurses := true, named := ["unicode/utf8.first", "unicode/utf8.acceptRanges", "internal/bytealg.MaxLen"], apart := false, laid := [("unicode/utf8.acceptRanges", laid_unicode_utf8_acceptRanges), ("unicode/utf8.first", laid_unicode_utf8_first)] }
def DropUnlinksSaid : Prop := dropUnlinksRow.holds Tryz.pinned (OpenSpec.ofChange dropUnlinksSpec)

/-- ITS FALSE NEIGHBOUR: 'it returns false'. Refute it at one input. -/
def dropUnlinksWrong : ChangeSpec := { name := "dropUnlinks", fn := fun _ => fun
  | [d1, d2, d3] => { results := [.lit (.bool false)], args := [d1, d2, d3] }
  | _ => none }
def DropUnlinksWrongFalsely : Prop := dropUnlinksRow.holds Tryz.pinned (OpenSpec.ofChange dropUnlinksWrong)

/-- 'draymanlaw12.DropNames': WHATEVER THE INPUT: true; the input reads as it did. -/
def dropNamesSpec : ChangeSpec := { name := "dropNames", fn := fun _ => fun
  | [d1, d2, d3, d4] => { results := [.lit (.bool true)], args := [d1, d2, d3, d4] }
  | _ => none }
def dropNamesRow : OpenClaim := { program := "ytmhkgpaphifdpaagreatdoor", sum := "f157ac8cb653337a717e20172089f048fb0151a08db096eb922bdb034b7cea98", func := "drayman/draymanlaw12.DropNames", spec := "dropNames", inPlace := ["internal/bytealg.IndexByteString", "internal/bytealg.IndexString", "internal/abi.NoEscape", "internal/bytealg.MakeNoZero", "internal/bytealg.abigen_runtime_cmpstring", "slices.overlaps[drayman/api.Entry]", "slices.overlaps[drayman/api.Inode]"], unfollowed := true, recurses := true, named := ["unicode/utf8.first", "unicode/utf8.acceptRanges", "internal/bytealg.MaxLen"], apart := false, laid := [("unicode/utf8.acceptRanges", laid_unicode_utf8_acceptRanges), ("unicode/utf8.first", laid_unicode_utf8_first)] }
def DropNamesSaid : Prop := dropNamesRow.holds Tryz.pinned (OpenSpec.ofChange dropNamesSpec)

/-- ITS FALSE NEIGHBOUR: 'it returns false'. Refute it at one input. -/
def dropNamesWrong : ChangeSpec := { name := "dropNames", fn := fun _ => fun
  | [d1, d2, d3, d4] => { results := [.lit (.bool false)], args := [d1, d2, d3, d4] }
  | _ => none }
def DropNamesWrongFalsely : Prop := dropNamesRow.holds Tryz.pinned (OpenSpec.ofChange dropNamesWrong)

/-- 'draymanlaw12.DropSound': WHATEVER THE INPUT: true; the input reads as it did. -/
def dropSoundSpec : ChangeSpec := { name := "dropSound", fn := fun _ => fun
  | [d1, d2, d3, d4, d5] => { results := [.lit (.bool true)], args := [d1, d2, d3, d4, d5] }
  | _ => none }
def dropSoundRow : OpenClaim := { program := "ytmhkgpaphifdpaagreatdoor", sum := "f157ac8cb653337a717e20172089f048fb0151a08db096eb922bdb034b7cea98", func := "drayman/draymanlaw12.DropSound", spec := "dropSound", inPlace := ["internal/bytealg.IndexByteString", "internal/bytealg.IndexString", "internal/abi.NoEscape", "internal/bytealg.MakeNoZero", "internal/bytealg.abigen_runtime_cmpstring", "slices.overlaps[drayman/api.Entry]", "slices.overlaps[drayman/api.Inode]"], unfollowed := true, recurses := true, named := ["unicode/utf8.first", "unicode/utf8.acceptRanges", "internal/bytealg.MaxLen"], apart := false, laid := [("unicode/utf8.acceptRanges", laid_unicode_utf8_acceptRanges), ("unicode/utf8.first", laid_unicode_utf8_first)] }
def DropSoundSaid : Prop := dropSoundRow.holds Tryz.pinned (OpenSpec.ofChange dropSoundSpec)

/-- ITS FALSE NEIGHBOUR: 'it returns false'. Refute it at one input. -/
def dropSoundWrong : ChangeSpec := { name := "dropSound", fn := fun _ => fun
  | [d1, d2, d3, d4, d5] => { results := [.lit (.bool false)], args := [d1, d2, d3, d4, d5] }
  | _ => none }
def DropSoundWrongFalsely : Prop := dropSoundRow.holds Tryz.pinned (OpenSpec.ofChange dropSoundWrong)

/-- 'draymanlaw12.DropBack': WHATEVER THE INPUT: true; the input reads as it did. -/
def dropBackSpec : ChangeSpec := { name := "dropBack", fn := fun _ => fun
  | [d1, d2, d3, d4] => { results := [.lit (.bool true)], args := [d1, d2, d3, d4] }
  | _ => none }
def dropBackRow : OpenClaim := { program := "ytmhkgpaphifdpaagreatdoor", sum := "f157ac8cb653337a717e20172089f048fb0151a08db096eb922bdb034b7cea98", func := "drayman/draymanlaw12.DropBack", spec := "dropBack", inPlace := ["internal/bytealg.IndexByteString", "internal/bytealg.IndexString", "internal/abi.NoEscape", "internal/bytealg.MakeNoZero", "internal/bytealg.abigen_runtime_cmpstring", "slices.overlaps[drayman/api.Entry]", "slices.overlaps[drayman/api.Inode]"], unfollowed := true, recurses := true, named := ["unicode/utf8.first", "unicode/utf8.acceptRanges", "internal/bytealg.MaxLen"], apart := false, laid := [("unicode/utf8.acceptRanges", laid_unicode_utf8_acceptRanges), ("unicode/utf8.first", laid_unicode_utf8_first)] }
def DropBackSaid : Prop := dropBackRow.holds Tryz.pinned (OpenSpec.ofChange dropBackSpec)

/-- ITS FALSE NEIGHBOUR: 'it returns false'. Refute it at one input. -/
def dropBackWrong : ChangeSpec := { name := "dropBack", fn := fun _ => fun
  | [d1, d2, d3, d4] => { results := [.lit (.bool false)], args := [d1, d2, d3, d4] }
  | _ => none }
def DropBackWrongFalsely : Prop := dropBackRow.holds Tryz.pinned (OpenSpec.ofChange dropBackWrong)

/-- 'draymanlaw12.DropKeeps': WHATEVER THE INPUT: true; the input reads as it did. -/
def dropKeepsSpec : ChangeSpec := { name := "dropKeeps", fn := fun _ => fun
  | [d1, d2, d3, d4] => { results := [.lit (.bool true)], args := [d1, d2, d3, d4] }
  | _ => none }
def dropKeepsRow : OpenClaim := { program := "ytmhkgpaphifdpaagreatdoor", sum := "f157ac8cb653337a717e20172089f048fb0151a08db096eb922bdb034b7cea98", func := "drayman/draymanlaw12.DropKeeps", spec := "dropKeeps", inPlace := ["internal/bytealg.IndexByteString", "internal/bytealg.IndexString", "internal/abi.NoEscape", "internal/bytealg.MakeNoZero", "internal/bytealg.abigen_runtime_cmpstring", "slices.overlaps[drayman/api.Entry]", "slices.overlaps[drayman/api.Inode]"], unfollowed := true, recurses := true, named := ["unicode/utf8.first", "unicode/utf8.acceptRanges", "internal/bytealg.MaxLen"], apart := false, laid := [("unicode/utf8.acceptRanges", laid_unicode_utf8_acceptRanges), ("unicode/utf8.first", laid_unicode_utf8_first)] }
def DropKeepsSaid : Prop := dropKeepsRow.holds Tryz.pinned (OpenSpec.ofChange dropKeepsSpec)

/-- ITS FALSE NEIGHBOUR: 'it returns false'. Refute it at one input. -/
def dropKeepsWrong : ChangeSpec := { name := "dropKeeps", fn := fun _ => fun
  | [d1, d2, d3, d4] => { results := [.lit (.bool false)], args := [d1, d2, d3, d4] }
  | _ => none }
def DropKeepsWrongFalsely : Prop := dropKeepsRow.holds Tryz.pinned (OpenSpec.ofChange dropKeepsWrong)

/- THE SECOND FORM. 'bulk': how many values and letters a reading holds, each counted each time it is reached (what is shared counts as often as it is met; a slice's spare places count too). A statement '..UptoSaid' is the law's where the arguments, and the package variables that the reading takes, are together of bulk at most 1048576: NARROWER than '..Said'. Prove '..Said' where nothing that the law and all that it calls make is longer than what came in: it says more and counts as full. Else prove '..UptoSaid'. A law counts once. -/
mutual
def uptoBulk {H : Type} : DataW H → Nat
  | .lit (.string bytes) => bytes.length + 1
  | .lit _ => 1
  | .nil => 1
  | .ptr d => uptoBulk d + 1
  | .slice elems spare => uptoBulkAll elems + uptoBulkAll spare + 1
  | .agg parts => uptoBulkAll parts + 1
  | .iface _ d => uptoBulk d + 1
  | .map entries => uptoBulkEntries entries + 1
  | .held _ => 1
def uptoBulkAll {H : Type} : List (DataW H) → Nat
  | [] => 0
  | d :: r => uptoBulk d + uptoBulkAll r
def uptoBulkEntries {H : Type} : List (Lit × DataW H) → Nat
  | [] => 0
  | x :: r => uptoBulkEntry x + uptoBulkEntries r
def uptoBulkEntry {H : Type} : Lit × DataW H → Nat
  | (.string bytes, d) => bytes.length + uptoBulk d + 1
  | (_, d) => uptoBulk d + 1
 end
def uptoSmall : (H : Type) → List (DataW H) → Bool := fun _ ds => decide (uptoBulkAll ds ≤ 1048576)
def OpenSpec.upto (s : _root_.Go.ChangeSpec) : _root_.Go.OpenSpec := { _root_.Go.OpenSpec.ofChange s with cond := some uptoSmall }

/-- 'draymanlaw11.MakeMkdirs', WHERE WHAT IT READS IS OF BULK AT MOST 1048576: true; the input reads as it did. -/
def makeMkdirsUptoRow : OpenClaim := { program := "ytmhkgpaphifdpaagreatdoor", sum := "f157ac8cb653337a717e20172089f048fb0151a08db096eb922bdb034b7cea98", func := "drayman/draymanlaw11.MakeMkdirs", spec := "makeMkdirs", inPlace := ["internal/bytealg.IndexByteString", "internal/bytealg.IndexString", "internal/bytealg.abigen_runtime_cmpstring", "slices.overlaps[drayman/api.Entry]", "slices.overlaps[drayman/api.Inode]", "internal/abi.NoEscape", "internal/bytealg.MakeNoZero"], unfollowed := true, recurses := true, named := ["unicode/utf8.first", "unicode/utf8.acceptRanges", "internal/bytealg.MaxLen"], apart := false, laid := [("unicode/utf8.acceptRanges", laid_unicode_utf8_acceptRanges), ("unicode/utf8.first", laid_unicode_utf8_first)], narrowed := true }
def MakeMkdirsUptoSaid : Prop := makeMkdirsUptoRow.holds Tryz.pinned (OpenSpec.upto makeMkdirsSpec)

/-- 'draymanlaw11.MakeCreates', WHERE WHAT IT READS IS OF BULK AT MOST 1048576: true; the input reads as it did. -/
def makeCreatesUptoRow : OpenClaim := { program := "ytmhkgpaphifdpaagreatdoor", sum := "f157ac8cb653337a717e20172089f048fb0151a08db096eb922bdb034b7cea98", func := "drayman/draymanlaw11.MakeCreates", spec := "makeCreates", inPlace := ["internal/bytealg.IndexByteString", "internal/bytealg.IndexString", "internal/bytealg.abigen_runtime_cmpstring", "slices.overlaps[drayman/api.Entry]", "slices.overlaps[drayman/api.Inode]", "internal/abi.NoEscape", "internal/bytealg.MakeNoZero"], unfollowed := true, recurses := true, named := ["unicode/utf8.first", "unicode/utf8.acceptRanges", "internal/bytealg.MaxLen"], apart := false, laid := [("unicode/utf8.acceptRanges", laid_unicode_utf8_acceptRanges), ("unicode/utf8.first", laid_unicode_utf8_first)], narrowed := true }
def MakeCreatesUptoSaid : Prop := makeCreatesUptoRow.holds Tryz.pinned (OpenSpec.upto makeCreatesSpec)

/-- 'draymanlaw11.MakeSymlinks', WHERE WHAT IT READS IS OF BULK AT MOST 1048576: true; the input reads as it did. -/
def makeSymlinksUptoRow : OpenClaim := { program := "ytmhkgpaphifdpaagreatdoor", sum := "f157ac8cb653337a717e20172089f048fb0151a08db096eb922bdb034b7cea98", func := "drayman/draymanlaw11.MakeSymlinks", spec := "makeSymlinks", inPlace := ["internal/bytealg.IndexByteString", "internal/bytealg.IndexString", "internal/bytealg.abigen_runtime_cmpstring", "slices.overlaps[drayman/api.Entry]", "slices.overlaps[drayman/api.Inode]", "internal/abi.NoEscape", "internal/bytealg.MakeNoZero"], unfollowed := true, recurses := true, named := ["unicode/utf8.first", "unicode/utf8.acceptRanges", "internal/bytealg.MaxLen"], apart := false, laid := [("unicode/utf8.acceptRanges", laid_unicode_utf8_acceptRanges), ("unicode/utf8.first", laid_unicode_utf8_first)], narrowed := true }
def MakeSymlinksUptoSaid : Prop := makeSymlinksUptoRow.holds Tryz.pinned (OpenSpec.upto makeSymlinksSpec)

/-- 'draymanlaw11.MakeNews', WHERE WHAT IT READS IS OF BULK AT MOST 1048576: true; the input reads as it did. -/
def makeNewsUptoRow : OpenClaim := { program := "ytmhkgpaphifdpaagreatdoor", sum := "f157ac8cb653337a717e20172089f048fb0151a08db096eb922bdb034b7cea98", func := "drayman/draymanlaw11.MakeNews", spec := "makeNews", inPlace := ["internal/bytealg.IndexByteString", "internal/bytealg.IndexString", "internal/bytealg.abigen_runtime_cmpstring", "slices.overlaps[drayman/api.Entry]", "slices.overlaps[drayman/api.Inode]", "internal/abi.NoEscape", "internal/bytealg.MakeNoZero"], unfollowed := true, recurses := true, named := ["unicode/utf8.first", "unicode/utf8.acceptRanges", "internal/bytealg.MaxLen"], apart := false, laid := [("unicode/utf8.acceptRanges", laid_unicode_utf8_acceptRanges), ("unicode/utf8.first", laid_unicode_utf8_first)], narrowed := true }
def MakeNewsUptoSaid : Prop := makeNewsUptoRow.holds Tryz.pinned (OpenSpec.upto makeNewsSpec)

/-- 'draymanlaw11.MakeSound', WHERE WHAT IT READS IS OF BULK AT MOST 1048576: true; the input reads as it did. -/
def makeSoundUptoRow : OpenClaim := { program := "ytmhkgpaphifdpaagreatdoor", sum := "f157ac8cb653337a717e20172089f048fb0151a08db096eb922bdb034b7cea98", func := "drayman/draymanlaw11.MakeSound", spec := "makeSound", inPlace := ["internal/bytealg.IndexByteString", "internal/bytealg.IndexString", "internal/bytealg.abigen_runtime_cmpstring", "slices.overlaps[drayman/api.Entry]", "slices.overlaps[drayman/api.Inode]", "internal/abi.NoEscape", "internal/bytealg.MakeNoZero"], unfollowed := true, recurses := true, named := ["unicode/utf8.first", "unicode/utf8.acceptRanges", "internal/bytealg.MaxLen"], apart := false, laid := [("unicode/utf8.acceptRanges", laid_unicode_utf8_acceptRanges), ("unicode/utf8.first", laid_unicode_utf8_first)], narrowed := true }
def MakeSoundUptoSaid : Prop := makeSoundUptoRow.holds Tryz.pinned (OpenSpec.upto makeSoundSpec)

/-- 'draymanlaw11.MakeKeeps', WHERE WHAT IT READS IS OF BULK AT MOST 1048576: true; the input reads as it did. -/
def makeKeepsUptoRow : OpenClaim := { program := "ytmhkgpaphifdpaagreatdoor", sum := "f157ac8cb653337a717e20172089f048fb0151a08db096eb922bdb034b7cea98", func := "drayman/draymanlaw11.MakeKeeps", spec := "makeKeeps", inPlace := ["internal/bytealg.IndexByteString", "internal/bytealg.IndexString", "internal/bytealg.abigen_runtime_cmpstring", "slices.overlaps[drayman/api.Entry]", "slices.overlaps[drayman/api.Inode]", "internal/abi.NoEscape", "internal/bytealg.MakeNoZero"], unfollowed := true, recurses := true, named := ["unicode/utf8.first", "unicode/utf8.acceptRanges", "internal/bytealg.MaxLen"], apart := false, laid := [("unicode/utf8.acceptRanges", laid_unicode_utf8_acceptRanges), ("unicode/utf8.first", laid_unicode_utf8_first)], narrowed := true }
def MakeKeepsUptoSaid : Prop := makeKeepsUptoRow.holds Tryz.pinned (OpenSpec.upto makeKeepsSpec)

/-- 'draymanlaw12.DropLinks', WHERE WHAT IT READS IS OF BULK AT MOST 1048576: true; the input reads as it did. -/
def dropLinksUptoRow : OpenClaim := { program := "ytmhkgpaphifdpaagreatdoor", sum := "f157ac8cb653337a717e20172089f048fb0151a08db096eb922bdb034b7cea98", func := "drayman/draymanlaw12.DropLinks", spec := "dropLinks", inPlace := ["internal/bytealg.IndexByteString", "internal/bytealg.IndexString", "internal/abi.NoEscape", "internal/bytealg.MakeNoZero", "internal/bytealg.abigen_runtime_cmpstring", "slices.overlaps[drayman/api.Entry]", "slices.overlaps[drayman/api.Inode]"], unfollowed := true, recurses := true, named := ["unicode/utf8.first", "unicode/utf8.acceptRanges", "internal/bytealg.MaxLen"], apart := false, laid := [("unicode/utf8.acceptRanges", laid_unicode_utf8_acceptRanges), ("unicode/utf8.first", laid_unicode_utf8_first)], narrowed := true }
def DropLinksUptoSaid : Prop := dropLinksUptoRow.holds Tryz.pinned (OpenSpec.upto dropLinksSpec)

/-- 'draymanlaw12.DropUnlinks', WHERE WHAT IT READS IS OF BULK AT MOST 1048576: true; the input reads as it did. -/
def dropUnlinksUptoRow : OpenClaim := { program := "ytmhkgpaphifdpaagreatdoor", sum := "f157ac8cb653337a717e20172089f048fb0151a08db096eb922bdb034b7cea98", func := "drayman/draymanlaw12.DropUnlinks", spec := "dropUnlinks", inPlace := ["internal/bytealg.IndexByteString", "internal/bytealg.IndexString", "internal/abi.NoEscape", "internal/bytealg.MakeNoZero", "internal/bytealg.abigen_runtime_cmpstring", "slices.overlaps[drayman/api.Entry]", "slices.overlaps[drayman/api.Inode]"], unfollowed := true, recurses := true, named := ["unicode/utf8.first", "unicode/utf8.acceptRanges", "internal/bytealg.MaxLen"], apart := false, laid := [("unicode/utf8.acceptRanges", laid_unicode_utf8_acceptRanges), ("unicode/utf8.first", laid_unicode_utf8_first)], narrowed := true }
def DropUnlinksUptoSaid : Prop := dropUnlinksUptoRow.holds Tryz.pinned (OpenSpec.upto dropUnlinksSpec)

/-- 'draymanlaw12.DropNames', WHERE WHAT IT READS IS OF BULK AT MOST 1048576: true; the input reads as it did. -/
def dropNamesUptoRow : OpenClaim := { program := "ytmhkgpaphifdpaagreatdoor", sum := "f157ac8cb653337a717e20172089f048fb0151a08db096eb922bdb034b7cea98", func := "drayman/draymanlaw12.DropNames", spec := "dropNames", inPlace := ["internal/bytealg.IndexByteString", "internal/bytealg.IndexString", "internal/abi.NoEscape", "internal/bytealg.MakeNoZero", "internal/bytealg.abigen_runtime_cmpstring", "slices.overlaps[drayman/api.Entry]", "slices.overlaps[drayman/api.Inode]"], unfollowed := true, recurses := true, named := ["unicode/utf8.first", "unicode/utf8.acceptRanges", "internal/bytealg.MaxLen"], apart := false, laid := [("unicode/utf8.acceptRanges", laid_unicode_utf8_acceptRanges), ("unicode/utf8.first", laid_unicode_utf8_first)], narrowed := true }
def DropNamesUptoSaid : Prop := dropNamesUptoRow.holds Tryz.pinned (OpenSpec.upto dropNamesSpec)

/-- 'draymanlaw12.DropSound', WHERE WHAT IT READS IS OF BULK AT MOST 1048576: true; the input reads as it did. -/
def dropSoundUptoRow : OpenClaim := { program := "ytmhkgpaphifdpaagreatdoor", sum := "f157ac8cb653337a717e20172089f048fb0151a08db096eb922bdb034b7cea98", func := "drayman/draymanlaw12.DropSound", spec := "dropSound", inPlace := ["internal/bytealg.IndexByteString", "internal/bytealg.IndexString", "internal/abi.NoEscape", "internal/bytealg.MakeNoZero", "internal/bytealg.abigen_runtime_cmpstring", "slices.overlaps[drayman/api.Entry]", "slices.overlaps[drayman/api.Inode]"], unfollowed := true, recurses := true, named := ["unicode/utf8.first", "unicode/utf8.acceptRanges", "internal/bytealg.MaxLen"], apart := false, laid := [("unicode/utf8.acceptRanges", laid_unicode_utf8_acceptRanges), ("unicode/utf8.first", laid_unicode_utf8_first)], narrowed := true }
def DropSoundUptoSaid : Prop := dropSoundUptoRow.holds Tryz.pinned (OpenSpec.upto dropSoundSpec)

/-- 'draymanlaw12.DropBack', WHERE WHAT IT READS IS OF BULK AT MOST 1048576: true; the input reads as it did. -/
def dropBackUptoRow : OpenClaim := { program := "ytmhkgpaphifdpaagreatdoor", sum := "f157ac8cb653337a717e20172089f048fb0151a08db096eb922bdb034b7cea98", func := "drayman/draymanlaw12.DropBack", spec := "dropBack", inPlace := ["internal/bytealg.IndexByteString", "internal/bytealg.IndexString", "internal/abi.NoEscape", "internal/bytealg.MakeNoZero", "internal/bytealg.abigen_runtime_cmpstring", "slices.overlaps[drayman/api.Entry]", "slices.overlaps[drayman/api.Inode]"], unfollowed := true, recurses := true, named := ["unicode/utf8.first", "unicode/utf8.acceptRanges", "internal/bytealg.MaxLen"], apart := false, laid := [("unicode/utf8.acceptRanges", laid_unicode_utf8_acceptRanges), ("unicode/utf8.first", laid_unicode_utf8_first)], narrowed := true }
def DropBackUptoSaid : Prop := dropBackUptoRow.holds Tryz.pinned (OpenSpec.upto dropBackSpec)

/-- 'draymanlaw12.DropKeeps', WHERE WHAT IT READS IS OF BULK AT MOST 1048576: true; the input reads as it did. -/
def dropKeepsUptoRow : OpenClaim := { program := "ytmhkgpaphifdpaagreatdoor", sum := "f157ac8cb653337a717e20172089f048fb0151a08db096eb922bdb034b7cea98", func := "drayman/draymanlaw12.DropKeeps", spec := "dropKeeps", inPlace := ["internal/bytealg.IndexByteString", "internal/bytealg.IndexString", "internal/abi.NoEscape", "internal/bytealg.MakeNoZero", "internal/bytealg.abigen_runtime_cmpstring", "slices.overlaps[drayman/api.Entry]", "slices.overlaps[drayman/api.Inode]"], unfollowed := true, recurses := true, named := ["unicode/utf8.first", "unicode/utf8.acceptRanges", "internal/bytealg.MaxLen"], apart := false, laid := [("unicode/utf8.acceptRanges", laid_unicode_utf8_acceptRanges), ("unicode/utf8.first", laid_unicode_utf8_first)], narrowed := true }
def DropKeepsUptoSaid : Prop := dropKeepsUptoRow.holds Tryz.pinned (OpenSpec.upto dropKeepsSpec)

end Rows
end Go.Proofs.YtmhkgpaphifdpaaGreatDoor
