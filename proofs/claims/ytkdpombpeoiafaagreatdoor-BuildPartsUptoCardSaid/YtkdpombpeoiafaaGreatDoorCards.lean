/-
  DERIVED. GIVEN WITH THE SEED: THE CARDS: each row of YtkdpombpeoiafaaGreatDoorRows.lean that lists a variable, with what it lists TIED to the program's text (the seventh form; the later family's looks); each row that meets fmt, with fmt's text TOLD by the authors' own Lean function (tested against real Go, not proved from fmt's source: count such statements apart). THE CARD IS WHAT COUNTS. Prove the row's statement (the work); the ties are given (YtkdpombpeoiafaaGreatDoorTie.lean); close each card by the builder's one call (the guide's Derived/Test/ToyasCard.lean, 'card_holds'). Laid BY PROGRAM, IN A SANDBOX (cutbox-door.mjs). By AI agents, Wed Nov 11 2026. No macro, syntax, notation, axiom, sorry.
-/
import Derived.Test.YtkdpombpeoiafaaGreatDoorRows
import GoSem.ClaimSeven
namespace Go.Proofs.YtkdpombpeoiafaaGreatDoor
namespace Rows

/-- THE TIED CARD OF 'draymanlaw14.MoveRenames'. -/
def moveRenamesCard : Claim7 := { stood := { row := moveRenamesRow, standIns := [], harness := (true, "40564ce27efdba0aea00cff0fc2e6a56e7a4195369cd56a60ec2dc530419dc1d"), looks := false }, kinds := [], alts := [], laidByText := true, laidKinds := [.data, .pinned], laidTests := true, laidLooks := .later }
def MoveRenamesCardSaid : Prop := Claim7.holds Tryz.pinned (.plain (OpenSpec.ofChange moveRenamesSpec)) moveRenamesCard

/-- THE TIED CARD OF 'draymanlaw14.MoveInside'. -/
def moveInsideCard : Claim7 := { stood := { row := moveInsideRow, standIns := [], harness := (true, "40564ce27efdba0aea00cff0fc2e6a56e7a4195369cd56a60ec2dc530419dc1d"), looks := false }, kinds := [], alts := [], laidByText := true, laidKinds := [.data, .pinned], laidTests := true, laidLooks := .later }
def MoveInsideCardSaid : Prop := Claim7.holds Tryz.pinned (.plain (OpenSpec.ofChange moveInsideSpec)) moveInsideCard

/-- THE TIED CARD OF 'draymanlaw14.MoveMoves'. -/
def moveMovesCard : Claim7 := { stood := { row := moveMovesRow, standIns := [], harness := (true, "40564ce27efdba0aea00cff0fc2e6a56e7a4195369cd56a60ec2dc530419dc1d"), looks := false }, kinds := [], alts := [], laidByText := true, laidKinds := [.data, .pinned], laidTests := true, laidLooks := .later }
def MoveMovesCardSaid : Prop := Claim7.holds Tryz.pinned (.plain (OpenSpec.ofChange moveMovesSpec)) moveMovesCard

/-- THE TIED CARD OF 'draymanlaw14.MoveSound'. -/
def moveSoundCard : Claim7 := { stood := { row := moveSoundRow, standIns := [], harness := (true, "40564ce27efdba0aea00cff0fc2e6a56e7a4195369cd56a60ec2dc530419dc1d"), looks := false }, kinds := [], alts := [], laidByText := true, laidKinds := [.data, .pinned], laidTests := true, laidLooks := .later }
def MoveSoundCardSaid : Prop := Claim7.holds Tryz.pinned (.plain (OpenSpec.ofChange moveSoundSpec)) moveSoundCard

/-- THE TIED CARD OF 'draymanlaw14.MoveKeeps'. -/
def moveKeepsCard : Claim7 := { stood := { row := moveKeepsRow, standIns := [], harness := (true, "40564ce27efdba0aea00cff0fc2e6a56e7a4195369cd56a60ec2dc530419dc1d"), looks := false }, kinds := [], alts := [], laidByText := true, laidKinds := [.data, .pinned], laidTests := true, laidLooks := .later }
def MoveKeepsCardSaid : Prop := Claim7.holds Tryz.pinned (.plain (OpenSpec.ofChange moveKeepsSpec)) moveKeepsCard

/-- THE TIED CARD OF 'draymanlaw15.BuildRuns'. -/
def buildRunsCard : Claim7 := { stood := { row := buildRunsRow, standIns := [], harness := (true, "40564ce27efdba0aea00cff0fc2e6a56e7a4195369cd56a60ec2dc530419dc1d"), looks := false }, kinds := [], alts := [], laidByText := true, laidKinds := [.data, .pinned], laidTests := true, laidLooks := .later }
def BuildRunsCardSaid : Prop := Claim7.holds Tryz.pinned (.plain (OpenSpec.ofChange buildRunsSpec)) buildRunsCard

/-- THE TIED CARD OF 'draymanlaw15.BuildTrees'. -/
def buildTreesCard : Claim7 := { stood := { row := buildTreesRow, standIns := [], harness := (true, "40564ce27efdba0aea00cff0fc2e6a56e7a4195369cd56a60ec2dc530419dc1d"), looks := false }, kinds := [], alts := [], laidByText := true, laidKinds := [.data, .pinned], laidTests := true, laidLooks := .later }
def BuildTreesCardSaid : Prop := Claim7.holds Tryz.pinned (.plain (OpenSpec.ofChange buildTreesSpec)) buildTreesCard

/-- THE TIED CARD OF 'draymanlaw15.BuildSound'. -/
def buildSoundCard : Claim7 := { stood := { row := buildSoundRow, standIns := [], harness := (true, "40564ce27efdba0aea00cff0fc2e6a56e7a4195369cd56a60ec2dc530419dc1d"), looks := false }, kinds := [], alts := [], laidByText := true, laidKinds := [.data, .pinned], laidTests := true, laidLooks := .later }
def BuildSoundCardSaid : Prop := Claim7.holds Tryz.pinned (.plain (OpenSpec.ofChange buildSoundSpec)) buildSoundCard

/-- THE TIED CARD OF 'draymanlaw15.BuildParts'. -/
def buildPartsCard : Claim7 := { stood := { row := buildPartsRow, standIns := [], harness := (true, "40564ce27efdba0aea00cff0fc2e6a56e7a4195369cd56a60ec2dc530419dc1d"), looks := false }, kinds := [], alts := [], laidByText := true, laidKinds := [.data, .pinned], laidTests := true, laidLooks := .later }
def BuildPartsCardSaid : Prop := Claim7.holds Tryz.pinned (.plain (OpenSpec.ofChange buildPartsSpec)) buildPartsCard

/-- THE SECOND FORM's CARD OF 'draymanlaw14.MoveRenames'. -/
def moveRenamesUptoCard : Claim7 := { stood := { row := moveRenamesUptoRow, standIns := [], harness := (true, "40564ce27efdba0aea00cff0fc2e6a56e7a4195369cd56a60ec2dc530419dc1d"), looks := false }, kinds := [], alts := [], laidByText := true, laidKinds := [.data, .pinned], laidTests := true, laidLooks := .later }
def MoveRenamesUptoCardSaid : Prop := Claim7.holds Tryz.pinned (.plain (OpenSpec.upto moveRenamesSpec)) moveRenamesUptoCard

/-- THE SECOND FORM's CARD OF 'draymanlaw14.MoveInside'. -/
def moveInsideUptoCard : Claim7 := { stood := { row := moveInsideUptoRow, standIns := [], harness := (true, "40564ce27efdba0aea00cff0fc2e6a56e7a4195369cd56a60ec2dc530419dc1d"), looks := false }, kinds := [], alts := [], laidByText := true, laidKinds := [.data, .pinned], laidTests := true, laidLooks := .later }
def MoveInsideUptoCardSaid : Prop := Claim7.holds Tryz.pinned (.plain (OpenSpec.upto moveInsideSpec)) moveInsideUptoCard

/-- THE SECOND FORM's CARD OF 'draymanlaw14.MoveMoves'. -/
def moveMovesUptoCard : Claim7 := { stood := { row := moveMovesUptoRow, standIns := [], harness := (true, "40564ce27efdba0aea00cff0fc2e6a56e7a4195369cd56a60ec2dc530419dc1d"), looks := false }, kinds := [], alts := [], laidByText := true, laidKinds := [.data, .pinned], laidTests := true, laidLooks := .later }
def MoveMovesUptoCardSaid : Prop := Claim7.holds Tryz.pinned (.plain (OpenSpec.upto moveMovesSpec)) moveMovesUptoCard

/-- THE SECOND FORM's CARD OF 'draymanlaw14.MoveSound'. -/
def moveSoundUptoCard : Claim7 := { stood := { row := moveSoundUptoRow, standIns := [], harness := (true, "40564ce27efdba0aea00cff0fc2e6a56e7a4195369cd56a60ec2dc530419dc1d"), looks := false }, kinds := [], alts := [], laidByText := true, laidKinds := [.data, .pinned], laidTests := true, laidLooks := .later }
def MoveSoundUptoCardSaid : Prop := Claim7.holds Tryz.pinned (.plain (OpenSpec.upto moveSoundSpec)) moveSoundUptoCard

/-- THE SECOND FORM's CARD OF 'draymanlaw14.MoveKeeps'. -/
def moveKeepsUptoCard : Claim7 := { stood := { row := moveKeepsUptoRow, standIns := [], harness := (true, "40564ce27efdba0aea00cff0fc2e6a56e7a4195369cd56a60ec2dc530419dc1d"), looks := false }, kinds := [], alts := [], laidByText := true, laidKinds := [.data, .pinned], laidTests := true, laidLooks := .later }
def MoveKeepsUptoCardSaid : Prop := Claim7.holds Tryz.pinned (.plain (OpenSpec.upto moveKeepsSpec)) moveKeepsUptoCard

/-- THE SECOND FORM's CARD OF 'draymanlaw15.BuildRuns'. -/
def buildRunsUptoCard : Claim7 := { stood := { row := buildRunsUptoRow, standIns := [], harness := (true, "40564ce27efdba0aea00cff0fc2e6a56e7a4195369cd56a60ec2dc530419dc1d"), looks := false }, kinds := [], alts := [], laidByText := true, laidKinds := [.data, .pinned], laidTests := true, laidLooks := .later }
def BuildRunsUptoCardSaid : Prop := Claim7.holds Tryz.pinned (.plain (OpenSpec.upto buildRunsSpec)) buildRunsUptoCard

/-- THE SECOND FORM's CARD OF 'draymanlaw15.BuildTrees'. -/
def buildTreesUptoCard : Claim7 := { stood := { row := buildTreesUptoRow, standIns := [], harness := (true, "40564ce27efdba0aea00cff0fc2e6a56e7a4195369cd56a60ec2dc530419dc1d"), looks := false }, kinds := [], alts := [], laidByText := true, laidKinds := [.data, .pinned], laidTests := true, laidLooks := .later }
def BuildTreesUptoCardSaid : Prop := Claim7.holds Tryz.pinned (.plain (OpenSpec.upto buildTreesSpec)) buildTreesUptoCard

/-- THE SECOND FORM's CARD OF 'draymanlaw15.BuildSound'. -/
def buildSoundUptoCard : Claim7 := { stood := { row := buildSoundUptoRow, standIns := [], harness := (true, "40564ce27efdba0aea00cff0fc2e6a56e7a4195369cd56a60ec2dc530419dc1d"), looks := false }, kinds := [], alts := [], laidByText := true, laidKinds := [.data, .pinned], laidTests := true, laidLooks := .later }
def BuildSoundUptoCardSaid : Prop := Claim7.holds Tryz.pinned (.plain (OpenSpec.upto buildSoundSpec)) buildSoundUptoCard

/-- THE SECOND FORM's CARD OF 'draymanlaw15.BuildParts'. -/
def buildPartsUptoCard : Claim7 := { stood := { row := buildPartsUptoRow, standIns := [], harness := (true, "40564ce27efdba0aea00cff0fc2e6a56e7a4195369cd56a60ec2dc530419dc1d"), looks := false }, kinds := [], alts := [], laidByText := true, laidKinds := [.data, .pinned], laidTests := true, laidLooks := .later }
def BuildPartsUptoCardSaid : Prop := Claim7.holds Tryz.pinned (.plain (OpenSpec.upto buildPartsSpec)) buildPartsUptoCard
end Rows
end Go.Proofs.YtkdpombpeoiafaaGreatDoor
