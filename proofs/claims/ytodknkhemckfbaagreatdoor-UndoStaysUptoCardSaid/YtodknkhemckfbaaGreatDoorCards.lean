/-
  DERIVED. GIVEN WITH THE SEED: THE CARDS: each row of YtodknkhemckfbaaGreatDoorRows.lean that lists a variable, with what it lists TIED to the program's text (the seventh form; the later family's looks); each row that meets fmt, with fmt's text TOLD by the authors' own Lean function (tested against real Go, not proved from fmt's source: count such statements apart). THE CARD IS WHAT COUNTS. Prove the row's statement (the work); the ties are given (YtodknkhemckfbaaGreatDoorTie.lean); close each card by the builder's one call (the guide's Derived/Test/ToyasCard.lean, 'card_holds'). Laid BY PROGRAM, IN A SANDBOX (cutbox-door.mjs). By AI agents, Wed Nov 11 2026. No macro, syntax, notation, axiom, sorry.
-/
import Derived.Test.YtodknkhemckfbaaGreatDoorRows
import GoSem.ClaimSeven
namespace Go.Proofs.YtodknkhemckfbaaGreatDoor
namespace Rows

/-- THE TIED CARD OF 'draymanlaw23.ExecRuns'. -/
def execRunsCard : Claim7 := { stood := { row := execRunsRow, standIns := [], harness := (true, "7b533f5b7321a6812b7e6aaf3ad121291ab8f9054cab3ac41d05496ebbef8a04"), looks := false }, kinds := [], alts := [], laidByText := true, laidKinds := [.data, .data, .pinned], laidTests := true, laidLooks := .later }
def ExecRunsCardSaid : Prop := Claim7.holds Tryz.pinned (.plain (OpenSpec.ofChange execRunsSpec)) execRunsCard

/-- THE TIED CARD OF 'draymanlaw23.ExecUndos'. -/
def execUndosCard : Claim7 := { stood := { row := execUndosRow, standIns := [], harness := (true, "7b533f5b7321a6812b7e6aaf3ad121291ab8f9054cab3ac41d05496ebbef8a04"), looks := false }, kinds := [], alts := [], laidByText := true, laidKinds := [.data, .data, .pinned], laidTests := true, laidLooks := .later }
def ExecUndosCardSaid : Prop := Claim7.holds Tryz.pinned (.plain (OpenSpec.ofChange execUndosSpec)) execUndosCard

/-- THE TIED CARD OF 'draymanlaw23.ExecBack'. -/
def execBackCard : Claim7 := { stood := { row := execBackRow, standIns := [], harness := (true, "7b533f5b7321a6812b7e6aaf3ad121291ab8f9054cab3ac41d05496ebbef8a04"), looks := false }, kinds := [], alts := [], laidByText := true, laidKinds := [.data, .data, .pinned], laidTests := true, laidLooks := .later }
def ExecBackCardSaid : Prop := Claim7.holds Tryz.pinned (.plain (OpenSpec.ofChange execBackSpec)) execBackCard

/-- THE TIED CARD OF 'draymanlaw23.ExecStays'. -/
def execStaysCard : Claim7 := { stood := { row := execStaysRow, standIns := [], harness := (true, "7b533f5b7321a6812b7e6aaf3ad121291ab8f9054cab3ac41d05496ebbef8a04"), looks := false }, kinds := [], alts := [], laidByText := true, laidKinds := [.data, .data, .pinned], laidTests := true, laidLooks := .later }
def ExecStaysCardSaid : Prop := Claim7.holds Tryz.pinned (.plain (OpenSpec.ofChange execStaysSpec)) execStaysCard

/-- THE TIED CARD OF 'draymanlaw24.UndoBacks'. -/
def undoBacksCard : Claim7 := { stood := { row := undoBacksRow, standIns := [], harness := (true, "7b533f5b7321a6812b7e6aaf3ad121291ab8f9054cab3ac41d05496ebbef8a04"), looks := false }, kinds := [], alts := [], laidByText := true, laidKinds := [.data, .data, .pinned], laidTests := true, laidLooks := .later }
def UndoBacksCardSaid : Prop := Claim7.holds Tryz.pinned (.plain (OpenSpec.ofChange undoBacksSpec)) undoBacksCard

/-- THE TIED CARD OF 'draymanlaw24.UndoFinds'. -/
def undoFindsCard : Claim7 := { stood := { row := undoFindsRow, standIns := [], harness := (true, "7b533f5b7321a6812b7e6aaf3ad121291ab8f9054cab3ac41d05496ebbef8a04"), looks := false }, kinds := [], alts := [], laidByText := true, laidKinds := [.data, .data, .pinned], laidTests := true, laidLooks := .later }
def UndoFindsCardSaid : Prop := Claim7.holds Tryz.pinned (.plain (OpenSpec.ofChange undoFindsSpec)) undoFindsCard

/-- THE TIED CARD OF 'draymanlaw24.UndoNothing'. -/
def undoNothingCard : Claim7 := { stood := { row := undoNothingRow, standIns := [], harness := (true, "7b533f5b7321a6812b7e6aaf3ad121291ab8f9054cab3ac41d05496ebbef8a04"), looks := false }, kinds := [], alts := [], laidByText := true, laidKinds := [.data, .data, .pinned], laidTests := true, laidLooks := .later }
def UndoNothingCardSaid : Prop := Claim7.holds Tryz.pinned (.plain (OpenSpec.ofChange undoNothingSpec)) undoNothingCard

/-- THE TIED CARD OF 'draymanlaw24.UndoStays'. -/
def undoStaysCard : Claim7 := { stood := { row := undoStaysRow, standIns := [], harness := (true, "7b533f5b7321a6812b7e6aaf3ad121291ab8f9054cab3ac41d05496ebbef8a04"), looks := false }, kinds := [], alts := [], laidByText := true, laidKinds := [.data, .data, .pinned], laidTests := true, laidLooks := .later }
def UndoStaysCardSaid : Prop := Claim7.holds Tryz.pinned (.plain (OpenSpec.ofChange undoStaysSpec)) undoStaysCard

/-- THE SECOND FORM's CARD OF 'draymanlaw23.ExecRuns'. -/
def execRunsUptoCard : Claim7 := { stood := { row := execRunsUptoRow, standIns := [], harness := (true, "7b533f5b7321a6812b7e6aaf3ad121291ab8f9054cab3ac41d05496ebbef8a04"), looks := false }, kinds := [], alts := [], laidByText := true, laidKinds := [.data, .data, .pinned], laidTests := true, laidLooks := .later }
def ExecRunsUptoCardSaid : Prop := Claim7.holds Tryz.pinned (.plain (OpenSpec.upto execRunsSpec)) execRunsUptoCard

/-- THE SECOND FORM's CARD OF 'draymanlaw23.ExecUndos'. -/
def execUndosUptoCard : Claim7 := { stood := { row := execUndosUptoRow, standIns := [], harness := (true, "7b533f5b7321a6812b7e6aaf3ad121291ab8f9054cab3ac41d05496ebbef8a04"), looks := false }, kinds := [], alts := [], laidByText := true, laidKinds := [.data, .data, .pinned], laidTests := true, laidLooks := .later }
def ExecUndosUptoCardSaid : Prop := Claim7.holds Tryz.pinned (.plain (OpenSpec.upto execUndosSpec)) execUndosUptoCard

/-- THE SECOND FORM's CARD OF 'draymanlaw23.ExecBack'. -/
def execBackUptoCard : Claim7 := { stood := { row := execBackUptoRow, standIns := [], harness := (true, "7b533f5b7321a6812b7e6aaf3ad121291ab8f9054cab3ac41d05496ebbef8a04"), looks := false }, kinds := [], alts := [], laidByText := true, laidKinds := [.data, .data, .pinned], laidTests := true, laidLooks := .later }
def ExecBackUptoCardSaid : Prop := Claim7.holds Tryz.pinned (.plain (OpenSpec.upto execBackSpec)) execBackUptoCard

/-- THE SECOND FORM's CARD OF 'draymanlaw23.ExecStays'. -/
def execStaysUptoCard : Claim7 := { stood := { row := execStaysUptoRow, standIns := [], harness := (true, "7b533f5b7321a6812b7e6aaf3ad121291ab8f9054cab3ac41d05496ebbef8a04"), looks := false }, kinds := [], alts := [], laidByText := true, laidKinds := [.data, .data, .pinned], laidTests := true, laidLooks := .later }
def ExecStaysUptoCardSaid : Prop := Claim7.holds Tryz.pinned (.plain (OpenSpec.upto execStaysSpec)) execStaysUptoCard

/-- THE SECOND FORM's CARD OF 'draymanlaw24.UndoBacks'. -/
def undoBacksUptoCard : Claim7 := { stood := { row := undoBacksUptoRow, standIns := [], harness := (true, "7b533f5b7321a6812b7e6aaf3ad121291ab8f9054cab3ac41d05496ebbef8a04"), looks := false }, kinds := [], alts := [], laidByText := true, laidKinds := [.data, .data, .pinned], laidTests := true, laidLooks := .later }
def UndoBacksUptoCardSaid : Prop := Claim7.holds Tryz.pinned (.plain (OpenSpec.upto undoBacksSpec)) undoBacksUptoCard

/-- THE SECOND FORM's CARD OF 'draymanlaw24.UndoFinds'. -/
def undoFindsUptoCard : Claim7 := { stood := { row := undoFindsUptoRow, standIns := [], harness := (true, "7b533f5b7321a6812b7e6aaf3ad121291ab8f9054cab3ac41d05496ebbef8a04"), looks := false }, kinds := [], alts := [], laidByText := true, laidKinds := [.data, .data, .pinned], laidTests := true, laidLooks := .later }
def UndoFindsUptoCardSaid : Prop := Claim7.holds Tryz.pinned (.plain (OpenSpec.upto undoFindsSpec)) undoFindsUptoCard

/-- THE SECOND FORM's CARD OF 'draymanlaw24.UndoNothing'. -/
def undoNothingUptoCard : Claim7 := { stood := { row := undoNothingUptoRow, standIns := [], harness := (true, "7b533f5b7321a6812b7e6aaf3ad121291ab8f9054cab3ac41d05496ebbef8a04"), looks := false }, kinds := [], alts := [], laidByText := true, laidKinds := [.data, .data, .pinned], laidTests := true, laidLooks := .later }
def UndoNothingUptoCardSaid : Prop := Claim7.holds Tryz.pinned (.plain (OpenSpec.upto undoNothingSpec)) undoNothingUptoCard

/-- THE SECOND FORM's CARD OF 'draymanlaw24.UndoStays'. -/
def undoStaysUptoCard : Claim7 := { stood := { row := undoStaysUptoRow, standIns := [], harness := (true, "7b533f5b7321a6812b7e6aaf3ad121291ab8f9054cab3ac41d05496ebbef8a04"), looks := false }, kinds := [], alts := [], laidByText := true, laidKinds := [.data, .data, .pinned], laidTests := true, laidLooks := .later }
def UndoStaysUptoCardSaid : Prop := Claim7.holds Tryz.pinned (.plain (OpenSpec.upto undoStaysSpec)) undoStaysUptoCard
end Rows
end Go.Proofs.YtodknkhemckfbaaGreatDoor
