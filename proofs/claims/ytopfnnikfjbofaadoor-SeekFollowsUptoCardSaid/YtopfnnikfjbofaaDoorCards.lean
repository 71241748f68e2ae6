/-
  DERIVED. GIVEN WITH THE SEED: THE CARDS: each row of YtopfnnikfjbofaaDoorRows.lean that lists a variable, with what it lists TIED to the program's text (the seventh form; the later family's looks); each row that meets fmt, with fmt's text TOLD by the authors' own Lean function (tested against real Go, not proved from fmt's source: count such statements apart). THE CARD IS WHAT COUNTS. Prove the row's statement (the work); the ties are given (YtopfnnikfjbofaaDoorTie.lean); close each card by the builder's one call (the guide's Derived/Test/ToyasCard.lean, 'card_holds'). Laid BY PROGRAM, IN A SANDBOX (cutbox-door.mjs). By AI agents, Wed Nov 11 2026. No macro, syntax, notation, axiom, sorry.
-/
import Derived.Test.YtopfnnikfjbofaaDoorRows
import GoSem.ClaimSeven
namespace Go.Proofs.YtopfnnikfjbofaaDoor
namespace Rows

/-- THE TIED CARD OF 'draymanlaw10.SeekDots'. -/
def seekDotsCard : Claim7 := { stood := { row := seekDotsRow, standIns := [], harness := (true, "f931191c2991cbe23798ebeabcc079061449b99ddee8e5e25ff06ee5e84b5fbe"), looks := false }, kinds := [], alts := [], laidByText := true, laidKinds := [.data, .pinned], laidTests := true, laidLooks := .later }
def SeekDotsCardSaid : Prop := Claim7.holds Tryd.pinned (.plain (OpenSpec.ofChange seekDotsSpec)) seekDotsCard

/-- THE TIED CARD OF 'draymanlaw10.SeekFollows'. -/
def seekFollowsCard : Claim7 := { stood := { row := seekFollowsRow, standIns := [], harness := (true, "f931191c2991cbe23798ebeabcc079061449b99ddee8e5e25ff06ee5e84b5fbe"), looks := false }, kinds := [], alts := [], laidByText := true, laidKinds := [.data, .pinned], laidTests := true, laidLooks := .later }
def SeekFollowsCardSaid : Prop := Claim7.holds Tryd.pinned (.plain (OpenSpec.ofChange seekFollowsSpec)) seekFollowsCard

/-- THE SECOND FORM's CARD OF 'draymanlaw10.SeekDots'. -/
def seekDotsUptoCard : Claim7 := { stood := { row := seekDotsUptoRow, standIns := [], harness := (true, "f931191c2991cbe23798ebeabcc079061449b99ddee8e5e25ff06ee5e84b5fbe"), looks := false }, kinds := [], alts := [], laidByText := true, laidKinds := [.data, .pinned], laidTests := true, laidLooks := .later }
def SeekDotsUptoCardSaid : Prop := Claim7.holds Tryd.pinned (.plain (OpenSpec.upto seekDotsSpec)) seekDotsUptoCard

/-- THE SECOND FORM's CARD OF 'draymanlaw10.SeekFollows'. -/
def seekFollowsUptoCard : Claim7 := { stood := { row := seekFollowsUptoRow, standIns := [], harness := (true, "f931191c2991cbe23798ebeabcc079061449b99ddee8e5e25ff06ee5e84b5fbe"), looks := false }, kinds := [], alts := [], laidByText := true, laidKinds := [.data, .pinned], laidTests := true, laidLooks := .later }
def SeekFollowsUptoCardSaid : Prop := Claim7.holds Tryd.pinned (.plain (OpenSpec.upto seekFollowsSpec)) seekFollowsUptoCard
end Rows
end Go.Proofs.YtopfnnikfjbofaaDoor
