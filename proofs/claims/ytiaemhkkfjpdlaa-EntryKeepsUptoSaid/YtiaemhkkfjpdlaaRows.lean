/-
  No cell of these rows narrows 'for every input' (looked for: loops, veiled, ifaces, maps, wideKeys, modest, calm, conditions, laid).
  DERIVED. THE GIVEN ROWS OF THIS SEAT. 8 by the template 'for every input the law returns true; each argument reads behind the call as it read before'; 0 by the template 'total and deterministic' (their statements: YtiaemhkkfjpdlaaTotals.lean).
  GIVEN WITH THE SEED: the statements are not yours to turn. If you find one false, say at which input.
  Laid BY PROGRAM, IN A SANDBOX (cutbox-rows.mjs): the forced cells as the released guide's own fill.sh prints them over the translation 586faa85b9ceffeb… (all of the seat's roots in one cut). By AI agents, Wed Nov 11 2026. No macro, syntax, notation, axiom, sorry.
-/
import Derived.Test.YtiaemhkkfjpdlaaChecked
import GoSem.Claim
import GoSem.ClaimJoined
import GoSem.ClaimMapViews
import Derived.JoinedTies
import Derived.KernelRfl
namespace Go.Proofs.Ytiaemhkkfjpdlaa
/- THE CELL 'sum', in the pinned program and in every row, IS THE sha256 OF THE DUMP (.gsa) THAT YtiaemhkkfjpdlaaProg.lean LOADS. Nothing in Lean hashes anything: it is a label: what it is worth is what the hold of that sum in a sandbox is worth. -/
noncomputable def Try.pinned : Pinned := { name := "ytiaemhkkfjpdlaa", sum := "586faa85b9ceffeb30c5a12327e36906973b644d7bb69969e5688b6bd9a2c972", checked := Try.checked }
namespace Rows
def none {H : Type} : Left H := { results := [], args := [] }

/-- 'draymanlaw06.RoomCounts': WHATEVER THE INPUT: true; the input reads as it did. -/
def roomCountsSpec : ChangeSpec := { name := "roomCounts", fn := fun _ => fun
  | [d1, d2, d3] => { results := [.lit (.bool true)], args := [d1, d2, d3] }
  | _ => none }
def roomCountsRow : OpenClaim := { program := "ytiaemhkkfjpdlaa", sum := "586faa85b9ceffeb30c5a12327e36906973b644d7bb69969e5688b6bd9a2c972", func := "drayman/draymanlaw06.RoomCounts", spec := "roomCounts", apart := false }
def RoomCountsSaid : Prop := roomCountsRow.holds Try.pinned (OpenSpec.ofChange roomCountsSpec)

/-- ITS FALSE NEIGHBOUR: 'it returns false'. Refute it at one input. -/
def roomCountsWrong : ChangeSpec := { name := "roomCounts", fn := fun _ => fun
  | [d1, d2, d3] => { results := [.lit (.bool false)], args := [d1, d2, d3] }
  | _ => none }
def RoomCountsWrongFalsely : Prop := roomCountsRow.holds Try.pinned (OpenSpec.ofChange roomCountsWrong)

/-- 'draymanlaw06.RoomMore': WHATEVER THE INPUT: true; the input reads as it did. -/
def roomMoreSpec : ChangeSpec := { name := "roomMore", fn := fun _ => fun
  | [d1, d2, d3, d4] => { results := [.lit (.bool true)], args := [d1, d2, d3, d4] }
  | _ => none }
def roomMoreRow : OpenClaim := { program := "ytiaemhkkfjpdlaa", sum := "586faa85b9ceffeb30c5a12327e36906973b644d7bb69969e5688b6bd9a2c972", func := "drayman/draymanlaw06.RoomMore", spec := "roomMore", apart := false }
def RoomMoreSaid : Prop := roomMoreRow.holds Try.pinned (OpenSpec.ofChange roomMoreSpec)

/-- ITS FALSE NEIGHBOUR: 'it returns false'. Refute it at one input. -/
def roomMoreWrong : ChangeSpec := { name := "roomMore", fn := fun _ => fun
  | [d1, d2, d3, d4] => { results := [.lit (.bool false)], args := [d1, d2, d3, d4] }
  | _ => none }
def RoomMoreWrongFalsely : Prop := roomMoreRow.holds Try.pinned (OpenSpec.ofChange roomMoreWrong)

/-- 'draymanlaw06.RoomFiles': WHATEVER THE INPUT: true; the input reads as it did. -/
def roomFilesSpec : ChangeSpec := { name := "roomFiles", fn := fun _ => fun
  | [d1, d2] => { results := [.lit (.bool true)], args := [d1, d2] }
  | _ => none }
def roomFilesRow : OpenClaim := { program := "ytiaemhkkfjpdlaa", sum := "586faa85b9ceffeb30c5a12327e36906973b644d7bb69969e5688b6bd9a2c972", func := "drayman/draymanlaw06.RoomFiles", spec := "roomFiles", apart := false }
def RoomFilesSaid : Prop := roomFilesRow.holds Try.pinned (OpenSpec.ofChange roomFilesSpec)

/-- ITS FALSE NEIGHBOUR: 'it returns false'. Refute it at one input. -/
def roomFilesWrong : ChangeSpec := { name := "roomFiles", fn := fun _ => fun
  | [d1, d2] => { results := [.lit (.bool false)], args := [d1, d2] }
  | _ => none }
def RoomFilesWrongFalsely : Prop := roomFilesRow.holds Try.pinned (OpenSpec.ofChange roomFilesWrong)

/-- 'draymanlaw04.EntryRights': WHATEVER THE INPUT: true; the input reads as it did. -/
def entryRightsSpec : ChangeSpec := { name := "entryRights", fn := fun _ => fun
  | [d] => { results := [.lit (.bool true)], args := [d] }
  | _ => none }
def entryRightsRow : OpenClaim := { program := "ytiaemhkkfjpdlaa", sum := "586faa85b9ceffeb30c5a12327e36906973b644d7bb69969e5688b6bd9a2c972", func := "drayman/draymanlaw04.EntryRights", spec := "entryRights", inPlace := ["internal/bytealg.abigen_runtime_cmpstring", "slices.overlaps[drayman/api.Entry]", "internal/bytealg.IndexByteString", "internal/bytealg.IndexString"], unfollowed := true, recurses := true, named := ["internal/bytealg.MaxLen"], apart := false }
def EntryRightsSaid : Prop := entryRightsRow.holds Try.pinned (OpenSpec.ofChange entryRightsSpec)

/-- ITS FALSE NEIGHBOUR: 'it returns false'. Refute it at one input. -/
def entryRightsWrong : ChangeSpec := { name := "entryRights", fn := fun _ => fun
  | [d] => { results := [.lit (.bool false)], args := [d] }
  | _ => none }
def EntryRightsWrongFalsely : Prop := entryRightsRow.holds Try.pinned (OpenSpec.ofChange entryRightsWrong)

/-- 'draymanlaw04.EntryFinds': WHATEVER THE INPUT: true; the input reads as it did. -/
def entryFindsSpec : ChangeSpec := { name := "entryFinds", fn := fun _ => fun
  | [d1, d2] => { results := [.lit (.bool true)], args := [d1, d2] }
  | _ => none }
def entryFindsRow : OpenClaim := { program := "ytiaemhkkfjpdlaa", sum := "586faa85b9ceffeb30c5a12327e36906973b644d7bb69969e5688b6bd9a2c972", func := "drayman/draymanlaw04.EntryFinds", spec := "entryFinds", inPlace := ["internal/bytealg.abigen_runtime_cmpstring", "slices.overlaps[drayman/api.Entry]", "internal/bytealg.IndexByteString", "internal/bytealg.IndexString"], unfollowed := true, recurses := true, named := ["internal/bytealg.MaxLen"], apart := false }
def EntryFindsSaid : Prop := entryFindsRow.holds Try.pinned (OpenSpec.ofChange entryFindsSpec)

/-- ITS FALSE NEIGHBOUR: 'it returns false'. Refute it at one input. -/
def entryFindsWrong : ChangeSpec := { name := "entryFinds", fn := fun _ => fun
  | [d1, d2] => { results := [.lit (.bool false)], args := [d1, d2] }
  | _ => none }
def EntryFindsWrongFalsely : Prop := entryFindsRow.holds Try.pinned (OpenSpec.ofChange entryFindsWrong)

/-- 'draymanlaw04.EntryWith': WHATEVER THE INPUT: true; the input reads as it did. -/
def entryWithSpec : ChangeSpec := { name := "entryWith", fn := fun _ => fun
  | [d1, d2, d3] => { results := [.lit (.bool true)], args := [d1, d2, d3] }
  | _ => none }
def entryWithRow : OpenClaim := { program := "ytiaemhkkfjpdlaa", sum := "586faa85b9ceffeb30c5a12327e36906973b644d7bb69969e5688b6bd9a2c972", func := "drayman/draymanlaw04.EntryWith", spec := "entryWith", inPlace := ["internal/bytealg.abigen_runtime_cmpstring", "slices.overlaps[drayman/api.Entry]", "internal/bytealg.IndexByteString", "internal/bytealg.IndexString"], unfollowed := true, recurses := true, named := ["internal/bytealg.MaxLen"], apart := false }
def EntryWithSaid : Prop := entryWithRow.holds Try.pinned (OpenSpec.ofChange entryWithSpec)

/-- ITS FALSE NEIGHBOUR: 'it returns false'. Refute it at one input. -/
def entryWithWrong : ChangeSpec := { name := "entryWith", fn := fun _ => fun
  | [d1, d2, d3] => { results := [.lit (.bool false)], args := [d1, d2, d3] }
  | _ => none }
def EntryWithWrongFalsely : Prop := entryWithRow.holds Try.pinned (OpenSpec.ofChange entryWithWrong)

/-- 'draymanlaw04.EntrySets': WHATEVER THE INPUT: true; the input reads as it did. -/
def entrySetsSpec : ChangeSpec := { name := "entrySets", fn := fun _ => fun
  | [d1, d2, d3] => { results := [.lit (.bool true)], args := [d1, d2, d3] }
  | _ => none }
def entrySetsRow : OpenClaim := { program := "ytiaemhkkfjpdlaa", sum := "586faa85b9ceffeb30c5a12327e36906973b644d7bb69969e5688b6bd9a2c972", func := "drayman/draymanlaw04.EntrySets", spec := "entrySets", inPlace := ["internal/bytealg.abigen_runtime_cmpstring", "slices.overlaps[drayman/api.Entry]", "internal/bytealg.IndexByteString", "internal/bytealg.IndexString"], unfollowed := true, recurses := true, named := ["internal/bytealg.MaxLen"], apart := false }
def EntrySetsSaid : Prop := entrySetsRow.holds Try.pinned (OpenSpec.ofChange entrySetsSpec)

/-- ITS FALSE NEIGHBOUR: 'it returns false'. Refute it at one input. -/
def entrySetsWrong : ChangeSpec := { name := "entrySets", fn := fun _ => fun
  | [d1, d2, d3] => { results := [.lit (.bool false)], args := [d1, d2, d3] }
  | _ => none }
def EntrySetsWrongFalsely : Prop := entrySetsRow.holds Try.pinned (OpenSpec.ofChange entrySetsWrong)

/-- 'draymanlaw04.EntryKeeps': WHATEVER THE INPUT: true; the input reads as it did. -/
def entryKeepsSpec : ChangeSpec := { name := "entryKeeps", fn := fun _ => fun
  | [d1, d2, d3] => { results := [.lit (.bool true)], args := [d1, d2, d3] }
  | _ => none }
def entryKeepsRow : OpenClaim := { program := "ytiaemhkkfjpdlaa", sum := "586faa85b9ceffeb30c5a12327e36906973b644d7bb69969e5688b6bd9a2c972", func := "drayman/draymanlaw04.EntryKeeps", spec := "entryKeeps", inPlace := ["internal/bytealg.abigen_runtime_cmpstring", "slices.overlaps[drayman/api.Entry]", "internal/bytealg.IndexByteString", "internal/bytealg.IndexString"], unfollowed := true, recurses := true, named := ["internal/bytealg.MaxLen"], apart := false }
def EntryKeepsSaid : Prop := entryKeepsRow.holds Try.pinned (OpenSpec.ofChange entryKeepsSpec)

/-- ITS FALSE NEIGHBOUR: 'it returns false'. Refute it at one input. -/
def entryKeepsWrong : ChangeSpec := { name := "entryKeeps", fn := fun _ => fun
  | [d1, d2, d3] => { results := [.lit (.bool false)], args := [d1, d2, d3] }
  | _ => none }
def EntryKeepsWrongFalsely : Prop := entryKeepsRow.holds Try.pinned (OpenSpec.ofChange entryKeepsWrong)

/- THE SECOND FORM. 'bulk': how many values and letters a reading holds, each counted each time it is reached (what is shared counts as often as it is met; a slice's spare places count too). A statement '..UptoSaid' is the law's where the arguments, and the package variables that the reading takes, are together of bulk at most 1048576: NARROWER than '..Said'. Prove '..Said' where nothing that the law and all that it calls make is longer than what came in: it says more and counts as full. Else prove '..UptoSaid'. A law counts once. -/
mutual
def uptoBulk {H : Type} : DataW H → Nat
  | .lit (.string bytes) => bytes.length + 1
  | .lit _ => 1
  | .nil => 1
  | .ptr d => uptoBulk d + 1
  | .slice elems spare => uptoBulkAll elems + uptoBulkAll spare + 1
  | .agg parts => uptoBulkAll parts + 1
  | .iface _ d => uptoBulk d + 1
  | .map entries => uptoBulkEntries entries + 1
  | .held _ => 1
def uptoBulkAll {H : Type} : List (DataW H) → Nat
  | [] => 0
  | d :: r => uptoBulk d + uptoBulkAll r
def uptoBulkEntries {H : Type} : List (Lit × DataW H) → Nat
  | [] => 0
  | x :: r => uptoBulkEntry x + uptoBulkEntries r
def uptoBulkEntry {H : Type} : Lit × DataW H → Nat
  | (.string bytes, d) => bytes.length + uptoBulk d + 1
  | (_, d) => uptoBulk d + 1
 end
def uptoSmall : (H : Type) → List (DataW H) → Bool := fun _ ds => decide (uptoBulkAll ds ≤ 1048576)
def OpenSpec.upto (s : _root_.Go.ChangeSpec) : _root_.Go.OpenSpec := { _root_.Go.OpenSpec.ofChange s with cond := some uptoSmall }

/-- 'draymanlaw06.RoomCounts', WHERE WHAT IT READS IS OF BULK AT MOST 1048576: true; the input reads as it did. -/
def roomCountsUptoRow : OpenClaim := { program := "ytiaemhkkfjpdlaa", sum := "586faa85b9ceffeb30c5a12327e36906973b644d7bb69969e5688b6bd9a2c972", func := "drayman/draymanlaw06.RoomCounts", spec := "roomCounts", apart := false, narrowed := true }
def RoomCountsUptoSaid : Prop := roomCountsUptoRow.holds Try.pinned (OpenSpec.upto roomCountsSpec)

/-- 'draymanlaw06.RoomMore', WHERE WHAT IT READS IS OF BULK AT MOST 1048576: true; the input reads as it did. -/
def roomMoreUptoRow : OpenClaim := { program := "ytiaemhkkfjpdlaa", sum := "586faa85b9ceffeb30c5a12327e36906973b644d7bb69969e5688b6bd9a2c972", func := "drayman/draymanlaw06.RoomMore", spec := "roomMore", apart := false, narrowed := true }
def RoomMoreUptoSaid : Prop := roomMoreUptoRow.holds Try.pinned (OpenSpec.upto roomMoreSpec)

/-- 'draymanlaw06.RoomFiles', WHERE WHAT IT READS IS OF BULK AT MOST 1048576: true; the input reads as it did. -/
def roomFilesUptoRow : OpenClaim := { program := "ytiaemhkkfjpdlaa", sum := "586faa85b9ceffeb30c5a12327e36906973b644d7bb69969e5688b6bd9a2c972", func := "drayman/draymanlaw06.RoomFiles", spec := "roomFiles", apart := false, narrowed := true }
def RoomFilesUptoSaid : Prop := roomFilesUptoRow.holds Try.pinned (OpenSpec.upto roomFilesSpec)

/-- 'draymanlaw04.EntryRights', WHERE WHAT IT READS IS OF BULK AT MOST 1048576: true; the input reads as it did. -/
def entryRightsUptoRow : OpenClaim := { program := "ytiaemhkkfjpdlaa", sum := "586faa85b9ceffeb30c5a12327e36906973b644d7bb69969e5688b6bd9a2c972", func := "drayman/draymanlaw04.EntryRights", spec := "entryRights", inPlace := ["internal/bytealg.abigen_runtime_cmpstring", "slices.overlaps[drayman/api.Entry]", "internal/bytealg.IndexByteString", "internal/bytealg.IndexString"], unfollowed := true, recurses := true, named := ["internal/bytealg.MaxLen"], apart := false, narrowed := true }
def EntryRightsUptoSaid : Prop := entryRightsUptoRow.holds Try.pinned (OpenSpec.upto entryRightsSpec)

/-- 'draymanlaw04.EntryFinds', WHERE WHAT IT READS IS OF BULK AT MOST 1048576: true; the input reads as it did. -/
def entryFindsUptoRow : OpenClaim := { program := "ytiaemhkkfjpdlaa", sum := "586faa85b9ceffeb30c5a12327e36906973b644d7bb69969e5688b6bd9a2c972", func := "drayman/draymanlaw04.EntryFinds", spec := "entryFinds", inPlace := ["internal/bytealg.abigen_runtime_cmpstring", "slices.overlaps[drayman/api.Entry]", "internal/bytealg.IndexByteString", "internal/bytealg.IndexString"], unfollowed := true, recurses := true, named := ["internal/bytealg.MaxLen"], apart := false, narrowed := true }
def EntryFindsUptoSaid : Prop := entryFindsUptoRow.holds Try.pinned (OpenSpec.upto entryFindsSpec)

/-- 'draymanlaw04.EntryWith', WHERE WHAT IT READS IS OF BULK AT MOST 1048576: true; the input reads as it did. -/
def entryWithUptoRow : OpenClaim := { program := "ytiaemhkkfjpdlaa", sum := "586faa85b9ceffeb30c5a12327e36906973b644d7bb69969e5688b6bd9a2c972", func := "drayman/draymanlaw04.EntryWith", spec := "entryWith", inPlace := ["internal/bytealg.abigen_runtime_cmpstring", "slices.overlaps[drayman/api.Entry]", "internal/bytealg.IndexByteString", "internal/bytealg.IndexString"], unfollowed := true, recurses := true, named := ["internal/bytealg.MaxLen"], apart := false, narrowed := true }
def EntryWithUptoSaid : Prop := entryWithUptoRow.holds Try.pinned (OpenSpec.upto entryWithSpec)

/-- 'draymanlaw04.EntrySets', WHERE WHAT IT READS IS OF BULK AT MOST 1048576: true; the input reads as it did. -/
def entrySetsUptoRow : OpenClaim := { program := "ytiaemhkkfjpdlaa", sum := "586faa85b9ceffeb30c5a12327e36906973b644d7bb69969e5688b6bd9a2c972", func := "drayman/draymanlaw04.EntrySets", spec := "entrySets", inPlace := ["internal/bytealg.abigen_runtime_cmpstring", "slices.overlaps[drayman/api.Entry]", "internal/bytealg.IndexByteString", "internal/bytealg.IndexString"], unfollowed := true, recurses := true, named := ["internal/bytealg.MaxLen"], apart := false, narrowed := true }
def EntrySetsUptoSaid : Prop := entrySetsUptoRow.holds Try.pinned (OpenSpec.upto entrySetsSpec)

/-- 'draymanlaw04.EntryKeeps', WHERE WHAT IT READS IS OF BULK AT MOST 1048576: true; the input reads as it did. -/
def entryKeepsUptoRow : OpenClaim := { program := "ytiaemhkkfjpdlaa", sum := "586faa85b9ceffeb30c5a12327e36906973b644d7bb69969e5688b6bd9a2c972", func := "drayman/draymanlaw04.EntryKeeps", spec := "entryKeeps", inPlace := ["internal/bytealg.abigen_runtime_cmpstring", "slices.overlaps[drayman/api.Entry]", "internal/bytealg.IndexByteString", "internal/bytealg.IndexString"], unfollowed := true, recurses := true, named := ["internal/bytealg.MaxLen"], apart := false, narrowed := true }
def EntryKeepsUptoSaid : Prop := entryKeepsUptoRow.holds Try.pinned (OpenSpec.upto entryKeepsSpec)

end Rows
end Go.Proofs.Ytiaemhkkfjpdlaa
