/-
  DERIVED. GIVEN WITH THE SEED: THE CARDS: each row of YtajgnkncdkibeaaGreatDoorRows.lean that lists a variable, with what it lists TIED to the program's text (the seventh form; the later family's looks); each row that meets fmt, with fmt's text TOLD by the authors' own Lean function (tested against real Go, not proved from fmt's source: count such statements apart). THE CARD IS WHAT COUNTS. Prove the row's statement (the work); the ties are given (YtajgnkncdkibeaaGreatDoorTie.lean); close each card by the builder's one call (the guide's Derived/Test/ToyasCard.lean, 'card_holds'). Laid BY PROGRAM, IN A SANDBOX (cutbox-door.mjs). By AI agents, Wed Nov 11 2026. No macro, syntax, notation, axiom, sorry.
-/
import Derived.Test.YtajgnkncdkibeaaGreatDoorRows
import GoSem.ClaimSeven
namespace Go.Proofs.YtajgnkncdkibeaaGreatDoor
namespace Rows

/-- THE TIED CARD OF 'polyglotlaw12.NumberSets'. -/
def numberSetsCard : Claim7 := { stood := { row := numberSetsRow, standIns := [], harness := (true, "93be79600368d01b05b5e85e2a45c8649e044c5d070e54a03ff3fd7c7e39a52a"), looks := false }, kinds := [], alts := [], laidByText := true, laidKinds := [.data, .sentinel, .pinned], laidTests := true, laidLooks := .later }
def NumberSetsCardSaid : Prop := Claim7.holds Tryz.pinned (.plain (OpenSpec.ofChange numberSetsSpec)) numberSetsCard

/-- THE TIED CARD OF 'polyglotlaw12.NumberFormats'. -/
def numberFormatsCard : Claim7 := { stood := { row := numberFormatsRow, standIns := [], harness := (true, "93be79600368d01b05b5e85e2a45c8649e044c5d070e54a03ff3fd7c7e39a52a"), looks := false }, kinds := [], alts := [], laidByText := true, laidKinds := [.data, .sentinel, .pinned], laidTests := true, laidLooks := .later }
def NumberFormatsCardSaid : Prop := Claim7.holds Tryz.pinned (.plain (OpenSpec.ofChange numberFormatsSpec)) numberFormatsCard

/-- THE SECOND FORM's CARD OF 'polyglotlaw12.NumberSets'. -/
def numberSetsUptoCard : Claim7 := { stood := { row := numberSetsUptoRow, standIns := [], harness := (true, "93be79600368d01b05b5e85e2a45c8649e044c5d070e54a03ff3fd7c7e39a52a"), looks := false }, kinds := [], alts := [], laidByText := true, laidKinds := [.data, .sentinel, .pinned], laidTests := true, laidLooks := .later }
def NumberSetsUptoCardSaid : Prop := Claim7.holds Tryz.pinned (.plain (OpenSpec.upto numberSetsSpec)) numberSetsUptoCard

/-- THE SECOND FORM's CARD OF 'polyglotlaw12.NumberFormats'. -/
def numberFormatsUptoCard : Claim7 := { stood := { row := numberFormatsUptoRow, standIns := [], harness := (true, "93be79600368d01b05b5e85e2a45c8649e044c5d070e54a03ff3fd7c7e39a52a"), looks := false }, kinds := [], alts := [], laidByText := true, laidKinds := [.data, .sentinel, .pinned], laidTests := true, laidLooks := .later }
def NumberFormatsUptoCardSaid : Prop := Claim7.holds Tryz.pinned (.plain (OpenSpec.upto numberFormatsSpec)) numberFormatsUptoCard
end Rows
end Go.Proofs.YtajgnkncdkibeaaGreatDoor
