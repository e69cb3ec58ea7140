/-
  DERIVED. GIVEN WITH THE SEED: THE CARDS: each row of YtaijjabbkmdcdaaDoorRows.lean that lists a variable, with what it lists TIED to the program's text (the seventh form; the later family's looks); each row that meets fmt, with fmt's text TOLD by the authors' own Lean function (tested against real Go, not proved from fmt's source: count such statements apart). THE CARD IS WHAT COUNTS. Prove the row's statement (the work); the ties are given (YtaijjabbkmdcdaaDoorTie.lean); close each card by the builder's one call (the guide's Derived/Test/ToyasCard.lean, 'card_holds'). Laid BY PROGRAM, IN A SANDBOX (cutbox-door.mjs). By AI agents, Wed Nov 11 2026. No macro, syntax, notation, axiom, sorry.
-/
import Derived.Test.YtaijjabbkmdcdaaDoorRows
import GoSem.ClaimSeven
namespace Go.Proofs.YtaijjabbkmdcdaaDoor
namespace Rows

/-- THE TIED CARD OF 'polyglotlaw01.TextDecodes'. -/
def textDecodesCard : Claim7 := { stood := { row := textDecodesRow, standIns := [], harness := (true, "b5e1275c8e81852b5fdcbf7f0e86ce84c507dc063c5c9bc0dfb505ab71a3b641"), looks := false }, kinds := [], alts := [], laidByText := true, laidKinds := [.data, .pinned], laidTests := true, laidLooks := .later }
def TextDecodesCardSaid : Prop := Claim7.holds Tryd.pinned (.plain (OpenSpec.ofChange textDecodesSpec)) textDecodesCard

/-- THE TIED CARD OF 'polyglotlaw01.TextUnquotes'. -/
def textUnquotesCard : Claim7 := { stood := { row := textUnquotesRow, standIns := [], harness := (true, "b5e1275c8e81852b5fdcbf7f0e86ce84c507dc063c5c9bc0dfb505ab71a3b641"), looks := false }, kinds := [], alts := [], laidByText := true, laidKinds := [.data, .pinned], laidTests := true, laidLooks := .later }
def TextUnquotesCardSaid : Prop := Claim7.holds Tryd.pinned (.plain (OpenSpec.ofChange textUnquotesSpec)) textUnquotesCard

/-- THE TIED CARD OF 'polyglotlaw01.TextQuotes'. -/
def textQuotesCard : Claim7 := { stood := { row := textQuotesRow, standIns := [], harness := (true, "b5e1275c8e81852b5fdcbf7f0e86ce84c507dc063c5c9bc0dfb505ab71a3b641"), looks := false }, kinds := [], alts := [], laidByText := true, laidKinds := [.data, .pinned], laidTests := true, laidLooks := .later }
def TextQuotesCardSaid : Prop := Claim7.holds Tryd.pinned (.plain (OpenSpec.ofChange textQuotesSpec)) textQuotesCard

/-- THE TIED CARD OF 'polyglotlaw01.TextJoins'. -/
def textJoinsCard : Claim7 := { stood := { row := textJoinsRow, standIns := [], harness := (true, "b5e1275c8e81852b5fdcbf7f0e86ce84c507dc063c5c9bc0dfb505ab71a3b641"), looks := false }, kinds := [], alts := [], laidByText := true, laidKinds := [.data, .pinned], laidTests := true, laidLooks := .later }
def TextJoinsCardSaid : Prop := Claim7.holds Tryd.pinned (.plain (OpenSpec.ofChange textJoinsSpec)) textJoinsCard

/-- THE TIED CARD OF 'polyglotlaw01.TextRights'. -/
def textRightsCard : Claim7 := { stood := { row := textRightsRow, standIns := [], harness := (true, "b5e1275c8e81852b5fdcbf7f0e86ce84c507dc063c5c9bc0dfb505ab71a3b641"), looks := false }, kinds := [], alts := [], laidByText := true, laidKinds := [.data, .pinned], laidTests := true, laidLooks := .later }
def TextRightsCardSaid : Prop := Claim7.holds Tryd.pinned (.plain (OpenSpec.ofChange textRightsSpec)) textRightsCard

/-- THE SECOND FORM's CARD OF 'polyglotlaw01.TextDecodes'. -/
def textDecodesUptoCard : Claim7 := { stood := { row := textDecodesUptoRow, standIns := [], harness := (true, "b5e1275c8e81852b5fdcbf7f0e86ce84c507dc063c5c9bc0dfb505ab71a3b641"), looks := false }, kinds := [], alts := [], laidByText := true, laidKinds := [.data, .pinned], laidTests := true, laidLooks := .later }
def TextDecodesUptoCardSaid : Prop := Claim7.holds Tryd.pinned (.plain (OpenSpec.upto textDecodesSpec)) textDecodesUptoCard

/-- THE SECOND FORM's CARD OF 'polyglotlaw01.TextUnquotes'. -/
def textUnquotesUptoCard : Claim7 := { stood := { row := textUnquotesUptoRow, standIns := [], harness := (true, "b5e1275c8e81852b5fdcbf7f0e86ce84c507dc063c5c9bc0dfb505ab71a3b641"), looks := false }, kinds := [], alts := [], laidByText := true, laidKinds := [.data, .pinned], laidTests := true, laidLooks := .later }
def TextUnquotesUptoCardSaid : Prop := Claim7.holds Tryd.pinned (.plain (OpenSpec.upto textUnquotesSpec)) textUnquotesUptoCard

/-- THE SECOND FORM's CARD OF 'polyglotlaw01.TextQuotes'. -/
def textQuotesUptoCard : Claim7 := { stood := { row := textQuotesUptoRow, standIns := [], harness := (true, "b5e1275c8e81852b5fdcbf7f0e86ce84c507dc063c5c9bc0dfb505ab71a3b641"), looks := false }, kinds := [], alts := [], laidByText := true, laidKinds := [.data, .pinned], laidTests := true, laidLooks := .later }
def TextQuotesUptoCardSaid : Prop := Claim7.holds Tryd.pinned (.plain (OpenSpec.upto textQuotesSpec)) textQuotesUptoCard

/-- THE SECOND FORM's CARD OF 'polyglotlaw01.TextJoins'. -/
def textJoinsUptoCard : Claim7 := { stood := { row := textJoinsUptoRow, standIns := [], harness := (true, "b5e1275c8e81852b5fdcbf7f0e86ce84c507dc063c5c9bc0dfb505ab71a3b641"), looks := false }, kinds := [], alts := [], laidByText := true, laidKinds := [.data, .pinned], laidTests := true, laidLooks := .later }
def TextJoinsUptoCardSaid : Prop := Claim7.holds Tryd.pinned (.plain (OpenSpec.upto textJoinsSpec)) textJoinsUptoCard

/-- THE SECOND FORM's CARD OF 'polyglotlaw01.TextRights'. -/
def textRightsUptoCard : Claim7 := { stood := { row := textRightsUptoRow, standIns := [], harness := (true, "b5e1275c8e81852b5fdcbf7f0e86ce84c507dc063c5c9bc0dfb505ab71a3b641"), looks := false }, kinds := [], alts := [], laidByText := true, laidKinds := [.data, .pinned], laidTests := true, laidLooks := .later }
def TextRightsUptoCardSaid : Prop := Claim7.holds Tryd.pinned (.plain (OpenSpec.upto textRightsSpec)) textRightsUptoCard
end Rows
end Go.Proofs.YtaijjabbkmdcdaaDoor
