/-
  DERIVED. GIVEN WITH THE SEED: THE CARDS: each row of YtmhkgpaphifdpaaGreatDoorRows.lean that lists a variable, with what it lists TIED to the program's text (the seventh form; the later family's looks); each row that meets fmt, with fmt's text TOLD by the authors' own Lean function (tested against real Go, not proved from fmt's source: count such statements apart). THE CARD IS WHAT COUNTS. Prove the row's statement (the work); the ties are given (YtmhkgpaphifdpaaGreatDoorTie.lean); close each card by the builder's one call (the guide's Derived/Test/ToyasCard.lean, 'card_holds'). Laid BY PROGRAM, IN A SANDBOX (cutbox-door.mjs). By AI agents, Wed Nov 11 2026. No macro, syntax, notation, axiom, sorry.
-/
import Derived.Test.YtmhkgpaphifdpaaGreatDoorRows
import GoSem.ClaimSeven
namespace Go.Proofs.YtmhkgpaphifdpaaGreatDoor
namespace Rows

/-- THE TIED CARD OF 'draymanlaw11.MakeMkdirs'. -/
def makeMkdirsCard : Claim7 := { stood := { row := makeMkdirsRow, standIns := [], harness := (true, "2aeeda0dd0f7aea256cc9241adf3c2245878a7a6bd8faeb307d4abf704410a1e"), looks := false }, kinds := [], alts := [], laidByText := true, laidKinds := [.data, .pinned], laidTests := true, laidLooks := .later }
def MakeMkdirsCardSaid : Prop := Claim7.holds Tryz.pinned (.plain (OpenSpec.ofChange makeMkdirsSpec)) makeMkdirsCard

/-- THE TIED CARD OF 'draymanlaw11.MakeCreates'. -/
def makeCreatesCard : Claim7 := { stood := { row := makeCreatesRow, standIns := [], harness := (true, "2aeeda0dd0f7aea256cc9241adf3c2245878a7a6bd8faeb307d4abf704410a1e"), looks := false }, kinds := [], alts := [], laidByText := true, laidKinds := [.data, .pinned], laidTests := true, laidLooks := .later }
def MakeCreatesCardSaid : Prop := Claim7.holds Tryz.pinned (.plain (OpenSpec.ofChange makeCreatesSpec)) makeCreatesCard

/-- THE TIED CARD OF 'draymanlaw11.MakeSymlinks'. -/
def makeSymlinksCard : Claim7 := { stood := { row := makeSymlinksRow, standIns := [], harness := (true, "2aeeda0dd0f7aea256cc9241adf3c2245878a7a6bd8faeb307d4abf704410a1e"), looks := false }, kinds := [], alts := [], laidByText := true, laidKinds := [.data, .pinned], laidTests := true, laidLooks := .later }
def MakeSymlinksCardSaid : Prop := Claim7.holds Tryz.pinned (.plain (OpenSpec.ofChange makeSymlinksSpec)) makeSymlinksCard

/-- THE TIED CARD OF 'draymanlaw11.MakeNews'. -/
def makeNewsCard : Claim7 := { stood := { row := makeNewsRow, standIns := [], harness := (true, "2aeeda0dd0f7aea256cc9241adf3c2245878a7a6bd8faeb307d4abf704410a1e"), looks := false }, kinds := [], alts := [], laidByText := true, laidKinds := [.data, .pinned], laidTests := true, laidLooks := .later }
def MakeNewsCardSaid : Prop := Claim7.holds Tryz.pinned (.plain (OpenSpec.ofChange makeNewsSpec)) makeNewsCard

/-- THE TIED CARD OF 'draymanlaw11.MakeSound'. -/
def makeSoundCard : Claim7 := { stood := { row := makeSoundRow, standIns := [], harness := (true, "2aeeda0dd0f7aea256cc9241adf3c2245878a7a6bd8faeb307d4abf704410a1e"), looks := false }, kinds := [], alts := [], laidByText := true, laidKinds := [.data, .pinned], laidTests := true, laidLooks := .later }
def MakeSoundCardSaid : Prop := Claim7.holds Tryz.pinned (.plain (OpenSpec.ofChange makeSoundSpec)) makeSoundCard

/-- THE TIED CARD OF 'draymanlaw11.MakeKeeps'. -/
def makeKeepsCard : Claim7 := { stood := { row := makeKeepsRow, standIns := [], harness := (true, "2aeeda0dd0f7aea256cc9241adf3c2245878a7a6bd8faeb307d4abf704410a1e"), looks := false }, kinds := [], alts := [], laidByText := true, laidKinds := [.data, .pinned], laidTests := true, laidLooks := .later }
def MakeKeepsCardSaid : Prop := Claim7.holds Tryz.pinned (.plain (OpenSpec.ofChange makeKeepsSpec)) makeKeepsCard

/-- THE TIED CARD OF 'draymanlaw12.DropLinks'. -/
def dropLinksCard : Claim7 := { stood := { row := dropLinksRow, standIns := [], harness := (true, "2aeeda0dd0f7aea256cc9241adf3c2245878a7a6bd8faeb307d4abf704410a1e"), looks := false }, kinds := [], alts := [], laidByText := true, laidKinds := [.data, .pinned], laidTests := true, laidLooks := .later }
def DropLinksCardSaid : Prop := Claim7.holds Tryz.pinned (.plain (OpenSpec.ofChange dropLinksSpec)) dropLinksCard

/-- THE TIED CARD OF 'draymanlaw12.DropUnlinks'. -/
def dropUnlinksCard : Claim7 := { stood := { row := dropUnlinksRow, standIns := [], harness := (true, "2aeeda0dd0f7aea256cc9241adf3c2245878a7a6bd8faeb307d4abf704410a1e"), looks := false }, kinds := [], alts := [], laidByText := true, laidKinds := [.data, .pinned], laidTests := true, laidLooks := .later }
def DropUnlinksCardSaid : Prop := Claim7.holds Tryz.pinned (.plain (OpenSpec.ofChange dropUnlinksSpec)) dropUnlinksCard

/-- THE TIED CARD OF 'draymanlaw12.DropNames'. -/
def dropNamesCard : Claim7 := { stood := { row := dropNamesRow, standIns := [], harness := (true, "2aeeda0dd0f7aea256cc9241adf3c2245878a7a6bd8faeb307d4abf704410a1e"), looks := false }, kinds := [], alts := [], laidByText := true, laidKinds := [.data, .pinned], laidTests := true, laidLooks := .later }
def DropNamesCardSaid : Prop := Claim7.holds Tryz.pinned (.plain (OpenSpec.ofChange dropNamesSpec)) dropNamesCard

/-- THE TIED CARD OF 'draymanlaw12.DropSound'. -/
def dropSoundCard : Claim7 := { stood := { row := dropSoundRow, standIns := [], harness := (true, "2aeeda0dd0f7aea256cc9241adf3c2245878a7a6bd8faeb307d4abf704410a1e"), looks := false }, kinds := [], alts := [], laidByText := true, laidKinds := [.data, .pinned], laidTests := true, laidLooks := .later }
def DropSoundCardSaid : Prop := Claim7.holds Tryz.pinned (.plain (OpenSpec.ofChange dropSoundSpec)) dropSoundCard

/-- THE TIED CARD OF 'draymanlaw12.DropBack'. -/
def dropBackCard : Claim7 := { stood := { row := dropBackRow, standIns := [], harness := (true, "2aeeda0dd0f7aea256cc9241adf3c2245878a7a6bd8faeb307d4abf704410a1e"), looks := false }, kinds := [], alts := [], laidByText := true, laidKinds := [.data, .pinned], laidTests := true, laidLooks := .later }
def DropBackCardSaid : Prop := Claim7.holds Tryz.pinned (.plain (OpenSpec.ofChange dropBackSpec)) dropBackCard

/-- THE TIED CARD OF 'draymanlaw12.DropKeeps'. -/
def dropKeepsCard : Claim7 := { stood := { row := dropKeepsRow, standIns := [], harness := (true, "2aeeda0dd0f7aea256cc9241adf3c2245878a7a6bd8faeb307d4abf704410a1e"), looks := false }, kinds := [], alts := [], laidByText := true, laidKinds := [.data, .pinned], laidTests := true, laidLooks := .later }
def DropKeepsCardSaid : Prop := Claim7.holds Tryz.pinned (.plain (OpenSpec.ofChange dropKeepsSpec)) dropKeepsCard

/-- THE SECOND FORM's CARD OF 'draymanlaw11.MakeMkdirs'. -/
def makeMkdirsUptoCard : Claim7 := { stood := { row := makeMkdirsUptoRow, standIns := [], harness := (true, "2aeeda0dd0f7aea256cc9241adf3c2245878a7a6bd8faeb307d4abf704410a1e"), looks := false }, kinds := [], alts := [], laidByText := true, laidKinds := [.data, .pinned], laidTests := true, laidLooks := .later }
def MakeMkdirsUptoCardSaid : Prop := Claim7.holds Tryz.pinned (.plain (OpenSpec.upto makeMkdirsSpec)) makeMkdirsUptoCard

/-- THE SECOND FORM's CARD OF 'draymanlaw11.MakeCreates'. -/
def makeCreatesUptoCard : Claim7 := { stood := { row := makeCreatesUptoRow, standIns := [], harness := (true, "2aeeda0dd0f7aea256cc9241adf3c2245878a7a6bd8faeb307d4abf704410a1e"), looks := false }, kinds := [], alts := [], laidByText := true, laidKinds := [.data, .pinned], laidTests := true, laidLooks := .later }
def MakeCreatesUptoCardSaid : Prop := Claim7.holds Tryz.pinned (.plain (OpenSpec.upto makeCreatesSpec)) makeCreatesUptoCard

/-- THE SECOND FORM's CARD OF 'draymanlaw11.MakeSymlinks'. -/
def makeSymlinksUptoCard : Claim7 := { stood := { row := makeSymlinksUptoRow, standIns := [], harness := (true, "2aeeda0dd0f7aea256cc9241adf3c2245878a7a6bd8faeb307d4abf704410a1e"), looks := false }, kinds := [], alts := [], laidByText := true, laidKinds := [.data, .pinned], laidTests := true, laidLooks := .later }
def MakeSymlinksUptoCardSaid : Prop := Claim7.holds Tryz.pinned (.plain (OpenSpec.upto makeSymlinksSpec)) makeSymlinksUptoCard

/-- THE SECOND FORM's CARD OF 'draymanlaw11.MakeNews'. -/
def makeNewsUptoCard : Claim7 := { stood := { row := makeNewsUptoRow, standIns := [], harness := (true, "2aeeda0dd0f7aea256cc9241adf3c2245878a7a6bd8faeb307d4abf704410a1e"), looks := false }, kinds := [], alts := [], laidByText := true, laidKinds := [.data, .pinned], laidTests := true, laidLooks := .later }
def MakeNewsUptoCardSaid : Prop := Claim7.holds Tryz.pinned (.plain (OpenSpec.upto makeNewsSpec)) makeNewsUptoCard

/-- THE SECOND FORM's CARD OF 'draymanlaw11.MakeSound'. -/
def makeSoundUptoCard : Claim7 := { stood := { row := makeSoundUptoRow, standIns := [], harness := (true, "2aeeda0dd0f7aea256cc9241adf3c2245878a7a6bd8faeb307d4abf704410a1e"), looks := false }, kinds := [], alts := [], laidByText := true, laidKinds := [.data, .pinned], laidTests := true, laidLooks := .later }
def MakeSoundUptoCardSaid : Prop := Claim7.holds Tryz.pinned (.plain (OpenSpec.upto makeSoundSpec)) makeSoundUptoCard

/-- THE SECOND FORM's CARD OF 'draymanlaw11.MakeKeeps'. -/
def makeKeepsUptoCard : Claim7 := { stood := { row := makeKeepsUptoRow, standIns := [], harness := (true, "2aeeda0dd0f7aea256cc9241adf3c2245878a7a6bd8faeb307d4abf704410a1e"), looks := false }, kinds := [], alts := [], laidByText := true, laidKinds := [.data, .pinned], laidTests := true, laidLooks := .later }
def MakeKeepsUptoCardSaid : Prop := Claim7.holds Tryz.pinned (.plain (OpenSpec.upto makeKeepsSpec)) makeKeepsUptoCard

/-- THE SECOND FORM's CARD OF 'draymanlaw12.DropLinks'. -/
def dropLinksUptoCard : Claim7 := { stood := { row := dropLinksUptoRow, standIns := [], harness := (true, "2aeeda0dd0f7aea256cc9241adf3c2245878a7a6bd8faeb307d4abf704410a1e"), looks := false }, kinds := [], alts := [], laidByText := true, laidKinds := [.data, .pinned], laidTests := true, laidLooks := .later }
def DropLinksUptoCardSaid : Prop := Claim7.holds Tryz.pinned (.plain (OpenSpec.upto dropLinksSpec)) dropLinksUptoCard

/-- THE SECOND FORM's CARD OF 'draymanlaw12.DropUnlinks'. -/
def dropUnlinksUptoCard : Claim7 := { stood := { row := dropUnlinksUptoRow, standIns := [], harness := (true, "2aeeda0dd0f7aea256cc9241adf3c2245878a7a6bd8faeb307d4abf704410a1e"), looks := false }, kinds := [], alts := [], laidByText := true, laidKinds := [.data, .pinned], laidTests := true, laidLooks := .later }
def DropUnlinksUptoCardSaid : Prop := Claim7.holds Tryz.pinned (.plain (OpenSpec.upto dropUnlinksSpec)) dropUnlinksUptoCard

/-- THE SECOND FORM's CARD OF 'draymanlaw12.DropNames'. -/
def dropNamesUptoCard : Claim7 := { stood := { row := dropNamesUptoRow, standIns := [], harness := (true, "2aeeda0dd0f7aea256cc9241adf3c2245878a7a6bd8faeb307d4abf704410a1e"), looks := false }, kinds := [], alts := [], laidByText := true, laidKinds := [.data, .pinned], laidTests := true, laidLooks := .later }
def DropNamesUptoCardSaid : Prop := Claim7.holds Tryz.pinned (.plain (OpenSpec.upto dropNamesSpec)) dropNamesUptoCard

/-- THE SECOND FORM's CARD OF 'draymanlaw12.DropSound'. -/
def dropSoundUptoCard : Claim7 := { stood := { row := dropSoundUptoRow, standIns := [], harness := (true, "2aeeda0dd0f7aea256cc9241adf3c2245878a7a6bd8faeb307d4abf704410a1e"), looks := false }, kinds := [], alts := [], laidByText := true, laidKinds := [.data, .pinned], laidTests := true, laidLooks := .later }
def DropSoundUptoCardSaid : Prop := Claim7.holds Tryz.pinned (.plain (OpenSpec.upto dropSoundSpec)) dropSoundUptoCard

/-- THE SECOND FORM's CARD OF 'draymanlaw12.DropBack'. -/
def dropBackUptoCard : Claim7 := { stood := { row := dropBackUptoRow, standIns := [], harness := (true, "2aeeda0dd0f7aea256cc9241adf3c2245878a7a6bd8faeb307d4abf704410a1e"), looks := false }, kinds := [], alts := [], laidByText := true, laidKinds := [.data, .pinned], laidTests := true, laidLooks := .later }
def DropBackUptoCardSaid : Prop := Claim7.holds Tryz.pinned (.plain (OpenSpec.upto dropBackSpec)) dropBackUptoCard

/-- THE SECOND FORM's CARD OF 'draymanlaw12.DropKeeps'. -/
def dropKeepsUptoCard : Claim7 := { stood := { row := dropKeepsUptoRow, standIns := [], harness := (true, "2aeeda0dd0f7aea256cc9241adf3c2245878a7a6bd8faeb307d4abf704410a1e"), looks := false }, kinds := [], alts := [], laidByText := true, laidKinds := [.data, .pinned], laidTests := true, laidLooks := .later }
def DropKeepsUptoCardSaid : Prop := Claim7.holds Tryz.pinned (.plain (OpenSpec.upto dropKeepsSpec)) dropKeepsUptoCard
end Rows
end Go.Proofs.YtmhkgpaphifdpaaGreatDoor
