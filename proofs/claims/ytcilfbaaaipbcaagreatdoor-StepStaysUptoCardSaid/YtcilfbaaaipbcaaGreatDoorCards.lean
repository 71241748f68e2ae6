/-
  DERIVED. GIVEN WITH THE SEED: THE CARDS: each row of YtcilfbaaaipbcaaGreatDoorRows.lean that lists a variable, with what it lists TIED to the program's text (the seventh form; the later family's looks); each row that meets fmt, with fmt's text TOLD by the authors' own Lean function (tested against real Go, not proved from fmt's source: count such statements apart). THE CARD IS WHAT COUNTS. Prove the row's statement (the work); the ties are given (YtcilfbaaaipbcaaGreatDoorTie.lean); close each card by the builder's one call (the guide's Derived/Test/ToyasCard.lean, 'card_holds'). Laid BY PROGRAM, IN A SANDBOX (cutbox-door.mjs). By AI agents, Wed Nov 11 2026. No macro, syntax, notation, axiom, sorry.
-/
import Derived.Test.YtcilfbaaaipbcaaGreatDoorRows
import GoSem.ClaimSeven
namespace Go.Proofs.YtcilfbaaaipbcaaGreatDoor
namespace Rows

/-- THE TIED CARD OF 'draymanlaw22.StepDoes'. -/
def stepDoesCard : Claim7 := { stood := { row := stepDoesRow, standIns := [], harness := (true, "38740b4d754d79485ecd33f8733c420aa7a8149fe3cec233c9476c61d6b9e512"), looks := false }, kinds := [], alts := [], laidByText := true, laidKinds := [.data, .data, .pinned], laidTests := true, laidLooks := .later }
def StepDoesCardSaid : Prop := Claim7.holds Tryz.pinned (.plain (OpenSpec.ofChange stepDoesSpec)) stepDoesCard

/-- THE TIED CARD OF 'draymanlaw22.StepInverses'. -/
def stepInversesCard : Claim7 := { stood := { row := stepInversesRow, standIns := [], harness := (true, "38740b4d754d79485ecd33f8733c420aa7a8149fe3cec233c9476c61d6b9e512"), looks := false }, kinds := [], alts := [], laidByText := true, laidKinds := [.data, .data, .pinned], laidTests := true, laidLooks := .later }
def StepInversesCardSaid : Prop := Claim7.holds Tryz.pinned (.plain (OpenSpec.ofChange stepInversesSpec)) stepInversesCard

/-- THE TIED CARD OF 'draymanlaw22.StepInverse'. -/
def stepInverseCard : Claim7 := { stood := { row := stepInverseRow, standIns := [], harness := (true, "38740b4d754d79485ecd33f8733c420aa7a8149fe3cec233c9476c61d6b9e512"), looks := false }, kinds := [], alts := [], laidByText := true, laidKinds := [.data, .data, .pinned], laidTests := true, laidLooks := .later }
def StepInverseCardSaid : Prop := Claim7.holds Tryz.pinned (.plain (OpenSpec.ofChange stepInverseSpec)) stepInverseCard

/-- THE TIED CARD OF 'draymanlaw22.StepRight'. -/
def stepRightCard : Claim7 := { stood := { row := stepRightRow, standIns := [], harness := (true, "38740b4d754d79485ecd33f8733c420aa7a8149fe3cec233c9476c61d6b9e512"), looks := false }, kinds := [], alts := [], laidByText := true, laidKinds := [.data, .data, .pinned], laidTests := true, laidLooks := .later }
def StepRightCardSaid : Prop := Claim7.holds Tryz.pinned (.plain (OpenSpec.ofChange stepRightSpec)) stepRightCard

/-- THE TIED CARD OF 'draymanlaw22.StepStays'. -/
def stepStaysCard : Claim7 := { stood := { row := stepStaysRow, standIns := [], harness := (true, "38740b4d754d79485ecd33f8733c420aa7a8149fe3cec233c9476c61d6b9e512"), looks := false }, kinds := [], alts := [], laidByText := true, laidKinds := [.data, .data, .pinned], laidTests := true, laidLooks := .later }
def StepStaysCardSaid : Prop := Claim7.holds Tryz.pinned (.plain (OpenSpec.ofChange stepStaysSpec)) stepStaysCard

/-- THE SECOND FORM's CARD OF 'draymanlaw22.StepDoes'. -/
def stepDoesUptoCard : Claim7 := { stood := { row := stepDoesUptoRow, standIns := [], harness := (true, "38740b4d754d79485ecd33f8733c420aa7a8149fe3cec233c9476c61d6b9e512"), looks := false }, kinds := [], alts := [], laidByText := true, laidKinds := [.data, .data, .pinned], laidTests := true, laidLooks := .later }
def StepDoesUptoCardSaid : Prop := Claim7.holds Tryz.pinned (.plain (OpenSpec.upto stepDoesSpec)) stepDoesUptoCard

/-- THE SECOND FORM's CARD OF 'draymanlaw22.StepInverses'. -/
def stepInversesUptoCard : Claim7 := { stood := { row := stepInversesUptoRow, standIns := [], harness := (true, "38740b4d754d79485ecd33f8733c420aa7a8149fe3cec233c9476c61d6b9e512"), looks := false }, kinds := [], alts := [], laidByText := true, laidKinds := [.data, .data, .pinned], laidTests := true, laidLooks := .later }
def StepInversesUptoCardSaid : Prop := Claim7.holds Tryz.pinned (.plain (OpenSpec.upto stepInversesSpec)) stepInversesUptoCard

/-- THE SECOND FORM's CARD OF 'draymanlaw22.StepInverse'. -/
def stepInverseUptoCard : Claim7 := { stood := { row := stepInverseUptoRow, standIns := [], harness := (true, "38740b4d754d79485ecd33f8733c420aa7a8149fe3cec233c9476c61d6b9e512"), looks := false }, kinds := [], alts := [], laidByText := true, laidKinds := [.data, .data, .pinned], laidTests := true, laidLooks := .later }
def StepInverseUptoCardSaid : Prop := Claim7.holds Tryz.pinned (.plain (OpenSpec.upto stepInverseSpec)) stepInverseUptoCard

/-- THE SECOND FORM's CARD OF 'draymanlaw22.StepRight'. -/
def stepRightUptoCard : Claim7 := { stood := { row := stepRightUptoRow, standIns := [], harness := (true, "38740b4d754d79485ecd33f8733c420aa7a8149fe3cec233c9476c61d6b9e512"), looks := false }, kinds := [], alts := [], laidByText := true, laidKinds := [.data, .data, .pinned], laidTests := true, laidLooks := .later }
def StepRightUptoCardSaid : Prop := Claim7.holds Tryz.pinned (.plain (OpenSpec.upto stepRightSpec)) stepRightUptoCard

/-- THE SECOND FORM's CARD OF 'draymanlaw22.StepStays'. -/
def stepStaysUptoCard : Claim7 := { stood := { row := stepStaysUptoRow, standIns := [], harness := (true, "38740b4d754d79485ecd33f8733c420aa7a8149fe3cec233c9476c61d6b9e512"), looks := false }, kinds := [], alts := [], laidByText := true, laidKinds := [.data, .data, .pinned], laidTests := true, laidLooks := .later }
def StepStaysUptoCardSaid : Prop := Claim7.holds Tryz.pinned (.plain (OpenSpec.upto stepStaysSpec)) stepStaysUptoCard
end Rows
end Go.Proofs.YtcilfbaaaipbcaaGreatDoor
