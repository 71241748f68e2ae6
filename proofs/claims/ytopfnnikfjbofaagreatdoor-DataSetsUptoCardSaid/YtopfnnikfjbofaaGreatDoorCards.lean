/-
  DERIVED. GIVEN WITH THE SEED: THE CARDS: each row of YtopfnnikfjbofaaGreatDoorRows.lean that lists a variable, with what it lists TIED to the program's text (the seventh form; the later family's looks); each row that meets fmt, with fmt's text TOLD by the authors' own Lean function (tested against real Go, not proved from fmt's source: count such statements apart). THE CARD IS WHAT COUNTS. Prove the row's statement (the work); the ties are given (YtopfnnikfjbofaaGreatDoorTie.lean); close each card by the builder's one call (the guide's Derived/Test/ToyasCard.lean, 'card_holds'). Laid BY PROGRAM, IN A SANDBOX (cutbox-door.mjs). By AI agents, Wed Nov 11 2026. No macro, syntax, notation, axiom, sorry.
-/
import Derived.Test.YtopfnnikfjbofaaGreatDoorRows
import GoSem.ClaimSeven
namespace Go.Proofs.YtopfnnikfjbofaaGreatDoor
namespace Rows

/-- THE TIED CARD OF 'draymanlaw10.SeekPlain'. -/
def seekPlainCard : Claim7 := { stood := { row := seekPlainRow, standIns := [], harness := (true, "84cca664957c81f89e793ebad7e89d2f0444cf1ab9e48ec0ee0e23b22e73da97"), looks := false }, kinds := [], alts := [], laidByText := true, laidKinds := [.data, .pinned], laidTests := true, laidLooks := .later }
def SeekPlainCardSaid : Prop := Claim7.holds Tryz.pinned (.plain (OpenSpec.ofChange seekPlainSpec)) seekPlainCard

/-- THE TIED CARD OF 'draymanlaw09.PlaceAts'. -/
def placeAtsCard : Claim7 := { stood := { row := placeAtsRow, standIns := [], harness := (true, "84cca664957c81f89e793ebad7e89d2f0444cf1ab9e48ec0ee0e23b22e73da97"), looks := false }, kinds := [], alts := [], laidByText := true, laidKinds := [.data, .pinned], laidTests := true, laidLooks := .later }
def PlaceAtsCardSaid : Prop := Claim7.holds Tryz.pinned (.plain (OpenSpec.ofChange placeAtsSpec)) placeAtsCard

/-- THE TIED CARD OF 'draymanlaw09.PlacePuts'. -/
def placePutsCard : Claim7 := { stood := { row := placePutsRow, standIns := [], harness := (true, "84cca664957c81f89e793ebad7e89d2f0444cf1ab9e48ec0ee0e23b22e73da97"), looks := false }, kinds := [], alts := [], laidByText := true, laidKinds := [.data, .pinned], laidTests := true, laidLooks := .later }
def PlacePutsCardSaid : Prop := Claim7.holds Tryz.pinned (.plain (OpenSpec.ofChange placePutsSpec)) placePutsCard

/-- THE TIED CARD OF 'draymanlaw09.PlaceBack'. -/
def placeBackCard : Claim7 := { stood := { row := placeBackRow, standIns := [], harness := (true, "84cca664957c81f89e793ebad7e89d2f0444cf1ab9e48ec0ee0e23b22e73da97"), looks := false }, kinds := [], alts := [], laidByText := true, laidKinds := [.data, .pinned], laidTests := true, laidLooks := .later }
def PlaceBackCardSaid : Prop := Claim7.holds Tryz.pinned (.plain (OpenSpec.ofChange placeBackSpec)) placeBackCard

/-- THE TIED CARD OF 'draymanlaw13.DataReads'. -/
def dataReadsCard : Claim7 := { stood := { row := dataReadsRow, standIns := [], harness := (true, "84cca664957c81f89e793ebad7e89d2f0444cf1ab9e48ec0ee0e23b22e73da97"), looks := false }, kinds := [], alts := [], laidByText := true, laidKinds := [.data, .pinned], laidTests := true, laidLooks := .later }
def DataReadsCardSaid : Prop := Claim7.holds Tryz.pinned (.plain (OpenSpec.ofChange dataReadsSpec)) dataReadsCard

/-- THE TIED CARD OF 'draymanlaw13.DataWrites'. -/
def dataWritesCard : Claim7 := { stood := { row := dataWritesRow, standIns := [], harness := (true, "84cca664957c81f89e793ebad7e89d2f0444cf1ab9e48ec0ee0e23b22e73da97"), looks := false }, kinds := [], alts := [], laidByText := true, laidKinds := [.data, .pinned], laidTests := true, laidLooks := .later }
def DataWritesCardSaid : Prop := Claim7.holds Tryz.pinned (.plain (OpenSpec.ofChange dataWritesSpec)) dataWritesCard

/-- THE TIED CARD OF 'draymanlaw13.DataSets'. -/
def dataSetsCard : Claim7 := { stood := { row := dataSetsRow, standIns := [], harness := (true, "84cca664957c81f89e793ebad7e89d2f0444cf1ab9e48ec0ee0e23b22e73da97"), looks := false }, kinds := [], alts := [], laidByText := true, laidKinds := [.data, .pinned], laidTests := true, laidLooks := .later }
def DataSetsCardSaid : Prop := Claim7.holds Tryz.pinned (.plain (OpenSpec.ofChange dataSetsSpec)) dataSetsCard

/-- THE TIED CARD OF 'draymanlaw13.DataBack'. -/
def dataBackCard : Claim7 := { stood := { row := dataBackRow, standIns := [], harness := (true, "84cca664957c81f89e793ebad7e89d2f0444cf1ab9e48ec0ee0e23b22e73da97"), looks := false }, kinds := [], alts := [], laidByText := true, laidKinds := [.data, .pinned], laidTests := true, laidLooks := .later }
def DataBackCardSaid : Prop := Claim7.holds Tryz.pinned (.plain (OpenSpec.ofChange dataBackSpec)) dataBackCard

/-- THE TIED CARD OF 'draymanlaw13.DataKeeps'. -/
def dataKeepsCard : Claim7 := { stood := { row := dataKeepsRow, standIns := [], harness := (true, "84cca664957c81f89e793ebad7e89d2f0444cf1ab9e48ec0ee0e23b22e73da97"), looks := false }, kinds := [], alts := [], laidByText := true, laidKinds := [.data, .pinned], laidTests := true, laidLooks := .later }
def DataKeepsCardSaid : Prop := Claim7.holds Tryz.pinned (.plain (OpenSpec.ofChange dataKeepsSpec)) dataKeepsCard

/-- THE SECOND FORM's CARD OF 'draymanlaw10.SeekPlain'. -/
def seekPlainUptoCard : Claim7 := { stood := { row := seekPlainUptoRow, standIns := [], harness := (true, "84cca664957c81f89e793ebad7e89d2f0444cf1ab9e48ec0ee0e23b22e73da97"), looks := false }, kinds := [], alts := [], laidByText := true, laidKinds := [.data, .pinned], laidTests := true, laidLooks := .later }
def SeekPlainUptoCardSaid : Prop := Claim7.holds Tryz.pinned (.plain (OpenSpec.upto seekPlainSpec)) seekPlainUptoCard

/-- THE SECOND FORM's CARD OF 'draymanlaw09.PlaceAts'. -/
def placeAtsUptoCard : Claim7 := { stood := { row := placeAtsUptoRow, standIns := [], harness := (true, "84cca664957c81f89e793ebad7e89d2f0444cf1ab9e48ec0ee0e23b22e73da97"), looks := false }, kinds := [], alts := [], laidByText := true, laidKinds := [.data, .pinned], laidTests := true, laidLooks := .later }
def PlaceAtsUptoCardSaid : Prop := Claim7.holds Tryz.pinned (.plain (OpenSpec.upto placeAtsSpec)) placeAtsUptoCard

/-- THE SECOND FORM's CARD OF 'draymanlaw09.PlacePuts'. -/
def placePutsUptoCard : Claim7 := { stood := { row := placePutsUptoRow, standIns := [], harness := (true, "84cca664957c81f89e793ebad7e89d2f0444cf1ab9e48ec0ee0e23b22e73da97"), looks := false }, kinds := [], alts := [], laidByText := true, laidKinds := [.data, .pinned], laidTests := true, laidLooks := .later }
def PlacePutsUptoCardSaid : Prop := Claim7.holds Tryz.pinned (.plain (OpenSpec.upto placePutsSpec)) placePutsUptoCard

/-- THE SECOND FORM's CARD OF 'draymanlaw09.PlaceBack'. -/
def placeBackUptoCard : Claim7 := { stood := { row := placeBackUptoRow, standIns := [], harness := (true, "84cca664957c81f89e793ebad7e89d2f0444cf1ab9e48ec0ee0e23b22e73da97"), looks := false }, kinds := [], alts := [], laidByText := true, laidKinds := [.data, .pinned], laidTests := true, laidLooks := .later }
def PlaceBackUptoCardSaid : Prop := Claim7.holds Tryz.pinned (.plain (OpenSpec.upto placeBackSpec)) placeBackUptoCard

/-- THE SECOND FORM's CARD OF 'draymanlaw13.DataReads'. -/
def dataReadsUptoCard : Claim7 := { stood := { row := dataReadsUptoRow, standIns := [], harness := (true, "84cca664957c81f89e793ebad7e89d2f0444cf1ab9e48ec0ee0e23b22e73da97"), looks := false }, kinds := [], alts := [], laidByText := true, laidKinds := [.data, .pinned], laidTests := true, laidLooks := .later }
def DataReadsUptoCardSaid : Prop := Claim7.holds Tryz.pinned (.plain (OpenSpec.upto dataReadsSpec)) dataReadsUptoCard

/-- THE SECOND FORM's CARD OF 'draymanlaw13.DataWrites'. -/
def dataWritesUptoCard : Claim7 := { stood := { row := dataWritesUptoRow, standIns := [], harness := (true, "84cca664957c81f89e793ebad7e89d2f0444cf1ab9e48ec0ee0e23b22e73da97"), looks := false }, kinds := [], alts := [], laidByText := true, laidKinds := [.data, .pinned], laidTests := true, laidLooks := .later }
def DataWritesUptoCardSaid : Prop := Claim7.holds Tryz.pinned (.plain (OpenSpec.upto dataWritesSpec)) dataWritesUptoCard

/-- THE SECOND FORM's CARD OF 'draymanlaw13.DataSets'. -/
def dataSetsUptoCard : Claim7 := { stood := { row := dataSetsUptoRow, standIns := [], harness := (true, "84cca664957c81f89e793ebad7e89d2f0444cf1ab9e48ec0ee0e23b22e73da97"), looks := false }, kinds := [], alts := [], laidByText := true, laidKinds := [.data, .pinned], laidTests := true, laidLooks := .later }
def DataSetsUptoCardSaid : Prop := Claim7.holds Tryz.pinned (.plain (OpenSpec.upto dataSetsSpec)) dataSetsUptoCard

/-- THE SECOND FORM's CARD OF 'draymanlaw13.DataBack'. -/
def dataBackUptoCard : Claim7 := { stood := { row := dataBackUptoRow, standIns := [], harness := (true, "84cca664957c81f89e793ebad7e89d2f0444cf1ab9e48ec0ee0e23b22e73da97"), looks := false }, kinds := [], alts := [], laidByText := true, laidKinds := [.data, .pinned], laidTests := true, laidLooks := .later }
def DataBackUptoCardSaid : Prop := Claim7.holds Tryz.pinned (.plain (OpenSpec.upto dataBackSpec)) dataBackUptoCard

/-- THE SECOND FORM's CARD OF 'draymanlaw13.DataKeeps'. -/
def dataKeepsUptoCard : Claim7 := { stood := { row := dataKeepsUptoRow, standIns := [], harness := (true, "84cca664957c81f89e793ebad7e89d2f0444cf1ab9e48ec0ee0e23b22e73da97"), looks := false }, kinds := [], alts := [], laidByText := true, laidKinds := [.data, .pinned], laidTests := true, laidLooks := .later }
def DataKeepsUptoCardSaid : Prop := Claim7.holds Tryz.pinned (.plain (OpenSpec.upto dataKeepsSpec)) dataKeepsUptoCard
end Rows
end Go.Proofs.YtopfnnikfjbofaaGreatDoor
