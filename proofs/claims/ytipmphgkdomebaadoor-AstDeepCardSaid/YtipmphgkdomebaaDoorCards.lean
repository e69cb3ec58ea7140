/-
  DERIVED. GIVEN WITH THE SEED: THE CARDS: each row of YtipmphgkdomebaaDoorRows.lean that lists a variable, with what it lists TIED to the program's text (the seventh form; the later family's looks); each row that meets fmt, with fmt's text TOLD by the authors' own Lean function (tested against real Go, not proved from fmt's source: count such statements apart). THE CARD IS WHAT COUNTS. Prove the row's statement (the work); the ties are given (YtipmphgkdomebaaDoorTie.lean); close each card by the builder's one call (the guide's Derived/Test/ToyasCard.lean, 'card_holds'). Laid BY PROGRAM, IN A SANDBOX (cutbox-door.mjs). By AI agents, Wed Nov 11 2026. No macro, syntax, notation, axiom, sorry.
-/
import Derived.Test.YtipmphgkdomebaaDoorRows
import GoSem.ClaimSeven
namespace Go.Proofs.YtipmphgkdomebaaDoor
namespace Rows

/-- THE TIED CARD OF 'polyglotlaw10.SerialTexts'. -/
def serialTextsCard : Claim7 := { stood := { row := serialTextsRow, standIns := [], harness := (true, "409930c43160b0b1b1f7191272fb6e1ce8fe3340213f31114e45d942626b0da0"), looks := false }, kinds := [], alts := [], laidByText := true, laidKinds := [.data, .pinned], laidTests := true, laidLooks := .later }
def SerialTextsCardSaid : Prop := Claim7.holds Tryd.pinned (.plain (OpenSpec.ofChange serialTextsSpec)) serialTextsCard

/-- THE TIED CARD OF 'polyglotlaw07.AstRights'. -/
def astRightsCard : Claim7 := { stood := { row := astRightsRow, standIns := [], harness := (true, "409930c43160b0b1b1f7191272fb6e1ce8fe3340213f31114e45d942626b0da0"), looks := false }, kinds := [], alts := [], laidByText := true, laidKinds := [.data, .pinned], laidTests := true, laidLooks := .later }
def AstRightsCardSaid : Prop := Claim7.holds Tryd.pinned (.plain (OpenSpec.ofChange astRightsSpec)) astRightsCard

/-- THE TIED CARD OF 'polyglotlaw07.AstSames'. -/
def astSamesCard : Claim7 := { stood := { row := astSamesRow, standIns := [], harness := (true, "409930c43160b0b1b1f7191272fb6e1ce8fe3340213f31114e45d942626b0da0"), looks := false }, kinds := [], alts := [], laidByText := true, laidKinds := [.data, .pinned], laidTests := true, laidLooks := .later }
def AstSamesCardSaid : Prop := Claim7.holds Tryd.pinned (.plain (OpenSpec.ofChange astSamesSpec)) astSamesCard

/-- THE TIED CARD OF 'polyglotlaw07.AstDeep'. -/
def astDeepCard : Claim7 := { stood := { row := astDeepRow, standIns := [], harness := (true, "409930c43160b0b1b1f7191272fb6e1ce8fe3340213f31114e45d942626b0da0"), looks := false }, kinds := [], alts := [], laidByText := true, laidKinds := [.data, .pinned], laidTests := true, laidLooks := .later }
def AstDeepCardSaid : Prop := Claim7.holds Tryd.pinned (.plain (OpenSpec.ofChange astDeepSpec)) astDeepCard

/-- THE TIED CARD OF 'polyglotlaw08.ExprDeep'. -/
def exprDeepCard : Claim7 := { stood := { row := exprDeepRow, standIns := [], harness := (true, "409930c43160b0b1b1f7191272fb6e1ce8fe3340213f31114e45d942626b0da0"), looks := false }, kinds := [], alts := [], laidByText := true, laidKinds := [.data, .pinned], laidTests := true, laidLooks := .later }
def ExprDeepCardSaid : Prop := Claim7.holds Tryd.pinned (.plain (OpenSpec.ofChange exprDeepSpec)) exprDeepCard

/-- THE TIED CARD OF 'polyglotlaw09.EntryJoins'. -/
def entryJoinsCard : Claim7 := { stood := { row := entryJoinsRow, standIns := [], harness := (true, "409930c43160b0b1b1f7191272fb6e1ce8fe3340213f31114e45d942626b0da0"), looks := false }, kinds := [], alts := [], laidByText := true, laidKinds := [.data, .pinned], laidTests := true, laidLooks := .later }
def EntryJoinsCardSaid : Prop := Claim7.holds Tryd.pinned (.plain (OpenSpec.ofChange entryJoinsSpec)) entryJoinsCard

/-- THE TIED CARD OF 'polyglotlaw09.EntryLines'. -/
def entryLinesCard : Claim7 := { stood := { row := entryLinesRow, standIns := [], harness := (true, "409930c43160b0b1b1f7191272fb6e1ce8fe3340213f31114e45d942626b0da0"), looks := false }, kinds := [], alts := [], laidByText := true, laidKinds := [.data, .pinned], laidTests := true, laidLooks := .later }
def EntryLinesCardSaid : Prop := Claim7.holds Tryd.pinned (.plain (OpenSpec.ofChange entryLinesSpec)) entryLinesCard

/-- THE SECOND FORM's CARD OF 'polyglotlaw10.SerialTexts'. -/
def serialTextsUptoCard : Claim7 := { stood := { row := serialTextsUptoRow, standIns := [], harness := (true, "409930c43160b0b1b1f7191272fb6e1ce8fe3340213f31114e45d942626b0da0"), looks := false }, kinds := [], alts := [], laidByText := true, laidKinds := [.data, .pinned], laidTests := true, laidLooks := .later }
def SerialTextsUptoCardSaid : Prop := Claim7.holds Tryd.pinned (.plain (OpenSpec.upto serialTextsSpec)) serialTextsUptoCard

/-- THE SECOND FORM's CARD OF 'polyglotlaw07.AstRights'. -/
def astRightsUptoCard : Claim7 := { stood := { row := astRightsUptoRow, standIns := [], harness := (true, "409930c43160b0b1b1f7191272fb6e1ce8fe3340213f31114e45d942626b0da0"), looks := false }, kinds := [], alts := [], laidByText := true, laidKinds := [.data, .pinned], laidTests := true, laidLooks := .later }
def AstRightsUptoCardSaid : Prop := Claim7.holds Tryd.pinned (.plain (OpenSpec.upto astRightsSpec)) astRightsUptoCard

/-- THE SECOND FORM's CARD OF 'polyglotlaw07.AstSames'. -/
def astSamesUptoCard : Claim7 := { stood := { row := astSamesUptoRow, standIns := [], harness := (true, "409930c43160b0b1b1f7191272fb6e1ce8fe3340213f31114e45d942626b0da0"), looks := false }, kinds := [], alts := [], laidByText := true, laidKinds := [.data, .pinned], laidTests := true, laidLooks := .later }
def AstSamesUptoCardSaid : Prop := Claim7.holds Tryd.pinned (.plain (OpenSpec.upto astSamesSpec)) astSamesUptoCard

/-- THE SECOND FORM's CARD OF 'polyglotlaw07.AstDeep'. -/
def astDeepUptoCard : Claim7 := { stood := { row := astDeepUptoRow, standIns := [], harness := (true, "409930c43160b0b1b1f7191272fb6e1ce8fe3340213f31114e45d942626b0da0"), looks := false }, kinds := [], alts := [], laidByText := true, laidKinds := [.data, .pinned], laidTests := true, laidLooks := .later }
def AstDeepUptoCardSaid : Prop := Claim7.holds Tryd.pinned (.plain (OpenSpec.upto astDeepSpec)) astDeepUptoCard

/-- THE SECOND FORM's CARD OF 'polyglotlaw08.ExprDeep'. -/
def exprDeepUptoCard : Claim7 := { stood := { row := exprDeepUptoRow, standIns := [], harness := (true, "409930c43160b0b1b1f7191272fb6e1ce8fe3340213f31114e45d942626b0da0"), looks := false }, kinds := [], alts := [], laidByText := true, laidKinds := [.data, .pinned], laidTests := true, laidLooks := .later }
def ExprDeepUptoCardSaid : Prop := Claim7.holds Tryd.pinned (.plain (OpenSpec.upto exprDeepSpec)) exprDeepUptoCard

/-- THE SECOND FORM's CARD OF 'polyglotlaw09.EntryJoins'. -/
def entryJoinsUptoCard : Claim7 := { stood := { row := entryJoinsUptoRow, standIns := [], harness := (true, "409930c43160b0b1b1f7191272fb6e1ce8fe3340213f31114e45d942626b0da0"), looks := false }, kinds := [], alts := [], laidByText := true, laidKinds := [.data, .pinned], laidTests := true, laidLooks := .later }
def EntryJoinsUptoCardSaid : Prop := Claim7.holds Tryd.pinned (.plain (OpenSpec.upto entryJoinsSpec)) entryJoinsUptoCard

/-- THE SECOND FORM's CARD OF 'polyglotlaw09.EntryLines'. -/
def entryLinesUptoCard : Claim7 := { stood := { row := entryLinesUptoRow, standIns := [], harness := (true, "409930c43160b0b1b1f7191272fb6e1ce8fe3340213f31114e45d942626b0da0"), looks := false }, kinds := [], alts := [], laidByText := true, laidKinds := [.data, .pinned], laidTests := true, laidLooks := .later }
def EntryLinesUptoCardSaid : Prop := Claim7.holds Tryd.pinned (.plain (OpenSpec.upto entryLinesSpec)) entryLinesUptoCard
end Rows
end Go.Proofs.YtipmphgkdomebaaDoor
