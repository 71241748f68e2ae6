/-
  No cell of these rows narrows 'for every input' (looked for: loops, veiled, ifaces, maps, wideKeys, modest, calm, conditions, laid).
  DERIVED. THE GIVEN ROWS OF THIS SEAT. 6 by the template 'for every input the law returns true; each argument reads behind the call as it read before'; 0 by the template 'total and deterministic' (their statements: YtcilfbaaaipbcaaGreatTotals.lean).
  GIVEN WITH THE SEED: the statements are not yours to turn. If you find one false, say at which input.
  Laid BY PROGRAM, IN A SANDBOX (cutbox-rows.mjs): the forced cells as the released guide's own fill.sh prints them over the translation 09f892d025456bf6… (all of the seat's roots in one cut). By AI agents, Wed Nov 11 2026. No macro, syntax, notation, axiom, sorry.
-/
import Derived.Test.YtcilfbaaaipbcaaGreatChecked
import GoSem.Claim
import GoSem.ClaimJoined
import GoSem.ClaimMapViews
import Derived.JoinedTies
import Derived.KernelRfl
namespace Go.Proofs.YtcilfbaaaipbcaaGreat
/- THE CELL 'sum', in the pinned program and in every row, IS THE sha256 OF THE DUMP (.gsa) THAT YtcilfbaaaipbcaaGreatProg.lean LOADS. Nothing in Lean hashes anything: it is a label: what it is worth is what the hold of that sum in a sandbox is worth. -/
noncomputable def Tryz.pinned : Pinned := { name := "ytcilfbaaaipbcaagreat", sum := "09f892d025456bf6ced8e9b877a3873556ebe5dcf639420ca3c332abd09f2579", checked := Tryz.checked }
namespace Rows
def none {H : Type} : Left H := { results := [], args := [] }

/-- 'draymanlaw21.StashSames': WHATEVER THE INPUT: true; the input reads as it did. -/
def stashSamesSpec : ChangeSpec := { name := "stashSames", fn := fun _ => fun
  | [d1, d2] => { results := [.lit (.bool true)], args := [d1, d2] }
  | _ => none }
def stashSamesRow : OpenClaim := { program := "ytcilfbaaaipbcaagreat", sum := "09f892d025456bf6ced8e9b877a3873556ebe5dcf639420ca3c332abd09f2579", func := "drayman/draymanlaw21.StashSames", spec := "stashSames", inPlace := ["internal/bytealg.abigen_runtime_cmpstring", "slices.overlaps[drayman/api.Inode]", "slices.overlaps[drayman/api.Kept]", "internal/bytealg.IndexByteString", "internal/bytealg.IndexString", "slices.overlaps[drayman/api.Entry]"], unfollowed := true, recurses := true, named := ["internal/bytealg.MaxLen"], apart := false }
def StashSamesSaid : Prop := stashSamesRow.holds Tryz.pinned (OpenSpec.ofChange stashSamesSpec)

/-- ITS FALSE NEIGHBOUR: 'it returns false'. Refute it at one input. -/
def stashSamesWrong : ChangeSpec := { name := "stashSames", fn := fun _ => fun
  | [d1, d2] => { results := [.lit (.bool false)], args := [d1, d2] }
  | _ => none }
def StashSamesWrongFalsely : Prop := stashSamesRow.holds Tryz.pinned (OpenSpec.ofChange stashSamesWrong)

/-- 'draymanlaw21.StashKeeps': WHATEVER THE INPUT: true; the input reads as it did. -/
def stashKeepsSpec : ChangeSpec := { name := "stashKeeps", fn := fun _ => fun
  | [d1, d2, d3] => { results := [.lit (.bool true)], args := [d1, d2, d3] }
  | _ => none }
def stashKeepsRow : OpenClaim := { program := "ytcilfbaaaipbcaagreat", sum := "09f892d025456bf6ced8e9b877a3873556ebe5dcf639420ca3c332abd09f2579", func := "drayman/draymanlaw21.StashKeeps", spec := "stashKeeps", inPlace := ["internal/bytealg.abigen_runtime_cmpstring", "slices.overlaps[drayman/api.Inode]", "slices.overlaps[drayman/api.Kept]", "internal/bytealg.IndexByteString", "internal/bytealg.IndexString", "slices.overlaps[drayman/api.Entry]"], unfollowed := true, recurses := true, named := ["internal/bytealg.MaxLen"], apart := false }
def StashKeepsSaid : Prop := stashKeepsRow.holds Tryz.pinned (OpenSpec.ofChange stashKeepsSpec)

/-- ITS FALSE NEIGHBOUR: 'it returns false'. Refute it at one input. -/
def stashKeepsWrong : ChangeSpec := { name := "stashKeeps", fn := fun _ => fun
  | [d1, d2, d3] => { results := [.lit (.bool false)], args := [d1, d2, d3] }
  | _ => none }
def StashKeepsWrongFalsely : Prop := stashKeepsRow.holds Tryz.pinned (OpenSpec.ofChange stashKeepsWrong)

/-- 'draymanlaw21.StashDatas': WHATEVER THE INPUT: true; the input reads as it did. -/
def stashDatasSpec : ChangeSpec := { name := "stashDatas", fn := fun _ => fun
  | [d1, d2, d3] => { results := [.lit (.bool true)], args := [d1, d2, d3] }
  | _ => none }
def stashDatasRow : OpenClaim := { program := "ytcilfbaaaipbcaagreat", sum := "09f892d025456bf6ced8e9b877a3873556ebe5dcf639420ca3c332abd09f2579", func := "drayman/draymanlaw21.StashDatas", spec := "stashDatas", inPlace := ["internal/bytealg.abigen_runtime_cmpstring", "slices.overlaps[drayman/api.Inode]", "slices.overlaps[drayman/api.Kept]", "internal/bytealg.IndexByteString", "internal/bytealg.IndexString", "slices.overlaps[drayman/api.Entry]"], unfollowed := true, recurses := true, named := ["internal/bytealg.MaxLen"], apart := false }
def StashDatasSaid : Prop := stashDatasRow.holds Tryz.pinned (OpenSpec.ofChange stashDatasSpec)

/-- ITS FALSE NEIGHBOUR: 'it returns false'. Refute it at one input. -/
def stashDatasWrong : ChangeSpec := { name := "stashDatas", fn := fun _ => fun
  | [d1, d2, d3] => { results := [.lit (.bool false)], args := [d1, d2, d3] }
  | _ => none }
def StashDatasWrongFalsely : Prop := stashDatasRow.holds Tryz.pinned (OpenSpec.ofChange stashDatasWrong)

/-- 'draymanlaw21.StashBack': WHATEVER THE INPUT: true; the input reads as it did. -/
def stashBackSpec : ChangeSpec := { name := "stashBack", fn := fun _ => fun
  | [d1, d2, d3] => { results := [.lit (.bool true)], args := [d1, d2, d3] }
  | _ => none }
def stashBackRow : OpenClaim := { program := "ytcilfbaaaipbcaagreat", sum := "09f892d025456bf6ced8e9b877a3873556ebe5dcf639420ca3c332abd09f2579", func := "drayman/draymanlaw21.StashBack", spec := "stashBack", inPlace := ["internal/bytealg.abigen_runtime_cmpstring", "slices.overlaps[drayman/api.Inode]", "slices.overlaps[drayman/api.Kept]", "internal/bytealg.IndexByteString", "internal/bytealg.IndexString", "slices.overlaps[drayman/api.Entry]"], unfollowed := true, recurses := true, named := ["internal/bytealg.MaxLen"], apart := false }
def StashBackSaid : Prop := stashBackRow.holds Tryz.pinned (OpenSpec.ofChange stashBackSpec)

/-- ITS FALSE NEIGHBOUR: 'it returns false'. Refute it at one input. -/
def stashBackWrong : ChangeSpec := { name := "stashBack", fn := fun _ => fun
  | [d1, d2, d3] => { results := [.lit (.bool false)], args := [d1, d2, d3] }
  | _ => none }
def StashBackWrongFalsely : Prop := stashBackRow.holds Tryz.pinned (OpenSpec.ofChange stashBackWrong)

/-- 'draymanlaw21.StashTwo': WHATEVER THE INPUT: true; the input reads as it did. -/
def stashTwoSpec : ChangeSpec := { name := "stashTwo", fn := fun _ => fun
  | [d1, d2, d3, d4] => { results := [.lit (.bool true)], args := [d1, d2, d3, d4] }
  | _ => none }
def stashTwoRow : OpenClaim := { program := "ytcilfbaaaipbcaagreat", sum := "09f892d025456bf6ced8e9b877a3873556ebe5dcf639420ca3c332abd09f2579", func := "drayman/draymanlaw21.StashTwo", spec := "stashTwo", inPlace := ["internal/bytealg.abigen_runtime_cmpstring", "slices.overlaps[drayman/api.Inode]", "slices.overlaps[drayman/api.Kept]", "internal/bytealg.IndexByteString", "internal/bytealg.IndexString", "slices.overlaps[drayman/api.Entry]"], unfollowed := true, recurses := true, named := ["internal/bytealg.MaxLen"], apart := false }
def StashTwoSaid : Prop := stashTwoRow.holds Tryz.pinned (OpenSpec.ofChange stashTwoSpec)

/-- ITS FALSE NEIGHBOUR: 'it returns false'. Refute it at one input. -/
def stashTwoWrong : ChangeSpec := { name := "stashTwo", fn := fun _ => fun
  | [d1, d2, d3, d4] => { results := [.lit (.bool false)], args := [d1, d2, d3, d4] }
  | _ => none }
def StashTwoWrongFalsely : Prop := stashTwoRow.holds Tryz.pinned (OpenSpec.ofChange stashTwoWrong)

/-- 'draymanlaw21.StashStays': WHATEVER THE INPUT: true; the input reads as it did. -/
def stashStaysSpec : ChangeSpec := { name := "stashStays", fn := fun _ => fun
  | [d1, d2, d3, d4] => { results := [.lit (.bool true)], args := [d1, d2, d3, d4] }
  | _ => none }
def stashStaysRow : OpenClaim := { program := "ytcilfbaaaipbcaagreat", sum := "09f892d025456bf6ced8e9b877a3873556ebe5dcf639420ca3c332abd09f2579", func := "drayman/draymanlaw21.StashStays", spec := "stashStays", inPlace := ["internal/bytealg.abigen_runtime_cmpstring", "slices.overlaps[drayman/api.Inode]", "slices.overlaps[drayman/api.Kept]", "internal/bytealg.IndexByteString", "internal/bytealg.IndexString", "slices.overlaps[drayman/api.Entry]"], unfollowed := true, recurses := true, named := ["internal/bytealg.MaxLen"], apart := false }
def StashStaysSaid : Prop := stashStaysRow.holds Tryz.pinned (OpenSpec.ofChange stashStaysSpec)

/-- ITS FALSE NEIGHBOUR: 'it returns false'. Refute it at one input. -/
def stashStaysWrong : ChangeSpec := { name := "stashStays", fn := fun _ => fun
  | [d1, d2, d3, d4] => { results := [.lit (.bool false)], args := [d1, d2, d3, d4] }
  | _ => none }
def StashStaysWrongFalsely : Prop := stashStaysRow.holds Tryz.pinned (OpenSpec.ofChange stashStaysWrong)

/- THE SECOND FORM. 'bulk': how many values and letters a reading holds, each counted each time it is reached (what is shared counts as often as it is met; a slice's spare places count too). A statement '..UptoSaid' is the law's where the arguments, and the package variables that the reading takes, are together of bulk at most 1048576: NARROWER than '..Said'. Prove '..Said' where nothing that the law and all that it calls make is longer than what came in: it says more and counts as full. Else prove '..UptoSaid'. A law counts once. -/
mutual
def uptoBulk {H : Type} : DataW H → Nat
  | .lit (.string bytes) => bytes.length + 1
  | .lit _ => 1
  | .nil => 1
  | .ptr d => uptoBulk d + 1
  | .slice elems spare => uptoBulkAll elems + uptoBulkAll spare + 1
  | .agg parts => uptoBulkAll parts + 1
  | .iface _ d => uptoBulk d + 1
  | .map entries => uptoBulkEntries entries + 1
  | .held _ => 1
def uptoBulkAll {H : Type} : List (DataW H) → Nat
  | [] => 0
  | d :: r => uptoBulk d + uptoBulkAll r
def uptoBulkEntries {H : Type} : List (Lit × DataW H) → Nat
  | [] => 0
  | x :: r => uptoBulkEntry x + uptoBulkEntries r
def uptoBulkEntry {H : Type} : Lit × DataW H → Nat
  | (.string bytes, d) => bytes.length + uptoBulk d + 1
  | (_, d) => uptoBulk d + 1
 end
def uptoSmall : (H : Type) → List (DataW H) → Bool := fun _ ds => decide (uptoBulkAll ds ≤ 1048576)
def OpenSpec.upto (s : _root_.Go.ChangeSpec) : _root_.Go.OpenSpec := { _root_.Go.OpenSpec.ofChange s with cond := some uptoSmall }

/-- 'draymanlaw21.StashSames', WHERE WHAT IT READS IS OF BULK AT MOST 1048576: true; the input reads as it did. -/
def stashSamesUptoRow : OpenClaim := { program := "ytcilfbaaaipbcaagreat", sum := "09f892d025456bf6ced8e9b877a3873556ebe5dcf639420ca3c332abd09f2579", func := "drayman/draymanlaw21.StashSames", spec := "stashSames", inPlace := ["internal/bytealg.abigen_runtime_cmpstring", "slices.overlaps[drayman/api.Inode]", "slices.overlaps[drayman/api.Kept]", "internal/bytealg.IndexByteString", "internal/bytealg.IndexString", "slices.overlaps[drayman/api.Entry]"], unfollowed := true, recurses := true, named := ["internal/bytealg.MaxLen"], apart := false, narrowed := true }
def StashSamesUptoSaid : Prop := stashSamesUptoRow.holds Tryz.pinned (OpenSpec.upto stashSamesSpec)

/-- 'draymanlaw21.StashKeeps', WHERE WHAT IT READS IS OF BULK AT MOST 1048576: true; the input reads as it did. -/
def stashKeepsUptoRow : OpenClaim := { program := "ytcilfbaaaipbcaagreat", sum := "09f892d025456bf6ced8e9b877a3873556ebe5dcf639420ca3c332abd09f2579", func := "drayman/draymanlaw21.StashKeeps", spec := "stashKeeps", inPlace := ["internal/bytealg.abigen_runtime_cmpstring", "slices.overlaps[drayman/api.Inode]", "slices.overlaps[drayman/api.Kept]", "internal/bytealg.IndexByteString", "internal/bytealg.IndexString", "slices.overlaps[drayman/api.Entry]"], unfollowed := true, recurses := true, named := ["internal/bytealg.MaxLen"], apart := false, narrowed := true }
def StashKeepsUptoSaid : Prop := stashKeepsUptoRow.holds Tryz.pinned (OpenSpec.upto stashKeepsSpec)

/-- 'draymanlaw21.StashDatas', WHERE WHAT IT READS IS OF BULK AT MOST 1048576: true; the input reads as it did. -/
def stashDatasUptoRow : OpenClaim := { program := "ytcilfbaaaipbcaagreat", sum := "09f892d025456bf6ced8e9b877a3873556ebe5dcf639420ca3c332abd09f2579", func := "drayman/draymanlaw21.StashDatas", spec := "stashDatas", inPlace := ["internal/bytealg.abigen_runtime_cmpstring", "slices.overlaps[drayman/api.Inode]", "slices.overlaps[drayman/api.Kept]", "internal/bytealg.IndexByteString", "internal/bytealg.IndexString", "slices.overlaps[drayman/api.Entry]"], unfollowed := true, recurses := true, named := ["internal/bytealg.MaxLen"], apart := false, narrowed := true }
def StashDatasUptoSaid : Prop := stashDatasUptoRow.holds Tryz.pinned (OpenSpec.upto stashDatasSpec)

/-- 'draymanlaw21.StashBack', WHERE WHAT IT READS IS OF BULK AT MOST 1048576: true; the input reads as it did. -/
def stashBackUptoRow : OpenClaim := { program := "ytcilfbaaaipbcaagreat", sum := "09f892d025456bf6ced8e9b877a3873556ebe5dcf639420ca3c332abd09f2579", func := "drayman/draymanlaw21.StashBack", spec := "stashBack", inPlace := ["internal/bytealg.abigen_runtime_cmpstring", "slices.overlaps[drayman/api.Inode]", "slices.overlaps[drayman/api.Kept]", "internal/bytealg.IndexByteString", "internal/bytealg.IndexString", "slices.overlaps[drayman/api.Entry]"], unfollowed := true, recurses := true, named := ["internal/bytealg.MaxLen"], apart := false, narrowed := true }
def StashBackUptoSaid : Prop := stashBackUptoRow.holds Tryz.pinned (OpenSpec.upto stashBackSpec)

/-- 'draymanlaw21.StashTwo', WHERE WHAT IT READS IS OF BULK AT MOST 1048576: true; the input reads as it did. -/
def stashTwoUptoRow : OpenClaim := { program := "ytcilfbaaaipbcaagreat", sum := "09f892d025456bf6ced8e9b877a3873556ebe5dcf639420ca3c332abd09f2579", func := "drayman/draymanlaw21.StashTwo", spec := "stashTwo", inPlace := ["internal/bytealg.abigen_runtime_cmpstring", "slices.overlaps[drayman/api.Inode]", "slices.overlaps[drayman/api.Kept]", "internal/bytealg.IndexByteString", "internal/bytealg.IndexString", "slices.overlaps[drayman/api.Entry]"], unfollowed := true, recurses := true, named := ["internal/bytealg.MaxLen"], apart := false, narrowed := true }
def StashTwoUptoSaid : Prop := stashTwoUptoRow.holds Tryz.pinned (OpenSpec.upto stashTwoSpec)

/-- 'draymanlaw21.StashStays', WHERE WHAT IT READS IS OF BULK AT MOST 1048576: true; the input reads as it did. -/
def stashStaysUptoRow : OpenClaim := { program := "ytcilfbaaaipbcaagreat", sum := "09f892d025456bf6ced8e9b877a3873556ebe5dcf639420ca3c332abd09f2579", func := "drayman/draymanlaw21.StashStays", spec := "stashStays", inPlace := ["internal/bytealg.abigen_runtime_cmpstring", "slices.overlaps[drayman/api.Inode]", "slices.overlaps[drayman/api.Kept]", "internal/bytealg.IndexByteString", "internal/bytealg.IndexString", "slices.overlaps[drayman/api.Entry]"], unfollowed := true, recurses := true, named := ["internal/bytealg.MaxLen"], apart := false, narrowed := true }
def StashStaysUptoSaid : Prop := stashStaysUptoRow.holds Tryz.pinned (OpenSpec.upto stashStaysSpec)

end Rows
end Go.Proofs.YtcilfbaaaipbcaaGreat
