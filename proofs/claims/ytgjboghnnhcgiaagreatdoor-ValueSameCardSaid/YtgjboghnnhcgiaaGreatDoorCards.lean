/-
  DERIVED. GIVEN WITH THE SEED: THE CARDS: each row of YtgjboghnnhcgiaaGreatDoorRows.lean that lists a variable, with what it lists TIED to the program's text (the seventh form; the later family's looks); each row that meets fmt, with fmt's text TOLD by the authors' own Lean function (tested against real Go, not proved from fmt's source: count such statements apart). THE CARD IS WHAT COUNTS. Prove the row's statement (the work); the ties are given (YtgjboghnnhcgiaaGreatDoorTie.lean); close each card by the builder's one call (the guide's Derived/Test/ToyasCard.lean, 'card_holds'). Laid BY PROGRAM, IN A SANDBOX (cutbox-door.mjs). By AI agents, Wed Nov 11 2026. No macro, syntax, notation, axiom, sorry.
-/
import Derived.Test.YtgjboghnnhcgiaaGreatDoorRows
import GoSem.ClaimSeven
namespace Go.Proofs.YtgjboghnnhcgiaaGreatDoor
namespace Rows

/-- THE TIED CARD OF 'polyglotlaw14.ValueSame'. -/
def valueSameCard : Claim7 := { stood := { row := valueSameRow, standIns := [], harness := (true, "21255b0045f49a4438bf28e7ed3a668c79460a3388859bf547385c3b77a1d64a"), looks := false }, kinds := [], alts := [], laidByText := true, laidKinds := [.data, .data, .data, .data, .listed, .sentinel, .data, .pinned], laidTests := true, laidLooks := .later }
def ValueSameCardSaid : Prop := Claim7.holds Tryz.pinned (.plain (OpenSpec.ofChange valueSameSpec)) valueSameCard

/-- THE TIED CARD OF 'polyglotlaw14.ValueTexts'. -/
def valueTextsCard : Claim7 := { stood := { row := valueTextsRow, standIns := [], harness := (true, "21255b0045f49a4438bf28e7ed3a668c79460a3388859bf547385c3b77a1d64a"), looks := false }, kinds := [], alts := [], laidByText := true, laidKinds := [.data, .data, .data, .data, .listed, .sentinel, .data, .pinned], laidTests := true, laidLooks := .later }
def ValueTextsCardSaid : Prop := Claim7.holds Tryz.pinned (.plain (OpenSpec.ofChange valueTextsSpec)) valueTextsCard

/-- THE TIED CARD OF 'polyglotlaw14.ValueOnes'. -/
def valueOnesCard : Claim7 := { stood := { row := valueOnesRow, standIns := [], harness := (true, "21255b0045f49a4438bf28e7ed3a668c79460a3388859bf547385c3b77a1d64a"), looks := false }, kinds := [], alts := [], laidByText := true, laidKinds := [.data, .data, .data, .data, .listed, .sentinel, .data, .pinned], laidTests := true, laidLooks := .later }
def ValueOnesCardSaid : Prop := Claim7.holds Tryz.pinned (.plain (OpenSpec.ofChange valueOnesSpec)) valueOnesCard

/-- THE SECOND FORM's CARD OF 'polyglotlaw14.ValueSame'. -/
def valueSameUptoCard : Claim7 := { stood := { row := valueSameUptoRow, standIns := [], harness := (true, "21255b0045f49a4438bf28e7ed3a668c79460a3388859bf547385c3b77a1d64a"), looks := false }, kinds := [], alts := [], laidByText := true, laidKinds := [.data, .data, .data, .data, .listed, .sentinel, .data, .pinned], laidTests := true, laidLooks := .later }
def ValueSameUptoCardSaid : Prop := Claim7.holds Tryz.pinned (.plain (OpenSpec.upto valueSameSpec)) valueSameUptoCard

/-- THE SECOND FORM's CARD OF 'polyglotlaw14.ValueTexts'. -/
def valueTextsUptoCard : Claim7 := { stood := { row := valueTextsUptoRow, standIns := [], harness := (true, "21255b0045f49a4438bf28e7ed3a668c79460a3388859bf547385c3b77a1d64a"), looks := false }, kinds := [], alts := [], laidByText := true, laidKinds := [.data, .data, .data, .data, .listed, .sentinel, .data, .pinned], laidTests := true, laidLooks := .later }
def ValueTextsUptoCardSaid : Prop := Claim7.holds Tryz.pinned (.plain (OpenSpec.upto valueTextsSpec)) valueTextsUptoCard

/-- THE SECOND FORM's CARD OF 'polyglotlaw14.ValueOnes'. -/
def valueOnesUptoCard : Claim7 := { stood := { row := valueOnesUptoRow, standIns := [], harness := (true, "21255b0045f49a4438bf28e7ed3a668c79460a3388859bf547385c3b77a1d64a"), looks := false }, kinds := [], alts := [], laidByText := true, laidKinds := [.data, .data, .data, .data, .listed, .sentinel, .data, .pinned], laidTests := true, laidLooks := .later }
def ValueOnesUptoCardSaid : Prop := Claim7.holds Tryz.pinned (.plain (OpenSpec.upto valueOnesSpec)) valueOnesUptoCard
end Rows
end Go.Proofs.YtgjboghnnhcgiaaGreatDoor
