/-
  DERIVED. GIVEN WITH THE SEED: THE CARDS: each row of YtonjkoeacedaiaaDoorRows.lean that lists a variable, with what it lists TIED to the program's text (the seventh form; the later family's looks); each row that meets fmt, with fmt's text TOLD by the authors' own Lean function (tested against real Go, not proved from fmt's source: count such statements apart). THE CARD IS WHAT COUNTS. Prove the row's statement (the work); the ties are given (YtonjkoeacedaiaaDoorTie.lean); close each card by the builder's one call (the guide's Derived/Test/ToyasCard.lean, 'card_holds'). Laid BY PROGRAM, IN A SANDBOX (cutbox-door.mjs). By AI agents, Wed Nov 11 2026. No macro, syntax, notation, axiom, sorry.
-/
import Derived.Test.YtonjkoeacedaiaaDoorRows
import GoSem.ClaimSeven
namespace Go.Proofs.YtonjkoeacedaiaaDoor
namespace Rows

/-- THE TIED CARD OF 'polyglotlaw04.PluralOf'. -/
def pluralOfCard : Claim7 := { stood := { row := pluralOfRow, standIns := [], harness := (true, "b48316ff00594e47b633212816fd520af4fa6a81ed9f7f6866513b1afd858a16"), looks := false }, kinds := [], alts := [], laidByText := true, laidKinds := [.data, .listed, .data, .pinned], laidTests := true, laidLooks := .later }
def PluralOfCardSaid : Prop := Claim7.holds Tryd.pinned (.plain (OpenSpec.ofChange pluralOfSpec)) pluralOfCard

/-- THE TIED CARD OF 'polyglotlaw04.PluralWords'. -/
def pluralWordsCard : Claim7 := { stood := { row := pluralWordsRow, standIns := [], harness := (true, "b48316ff00594e47b633212816fd520af4fa6a81ed9f7f6866513b1afd858a16"), looks := false }, kinds := [], alts := [], laidByText := true, laidKinds := [.data, .listed, .data, .pinned], laidTests := true, laidLooks := .later }
def PluralWordsCardSaid : Prop := Claim7.holds Tryd.pinned (.plain (OpenSpec.ofChange pluralWordsSpec)) pluralWordsCard

/-- THE TIED CARD OF 'polyglotlaw04.PluralFar'. -/
def pluralFarCard : Claim7 := { stood := { row := pluralFarRow, standIns := [], harness := (true, "b48316ff00594e47b633212816fd520af4fa6a81ed9f7f6866513b1afd858a16"), looks := false }, kinds := [], alts := [], laidByText := true, laidKinds := [.data, .listed, .data, .pinned], laidTests := true, laidLooks := .later }
def PluralFarCardSaid : Prop := Claim7.holds Tryd.pinned (.plain (OpenSpec.ofChange pluralFarSpec)) pluralFarCard

/-- THE TIED CARD OF 'polyglotlaw04.PluralAll'. -/
def pluralAllCard : Claim7 := { stood := { row := pluralAllRow, standIns := [], harness := (true, "b48316ff00594e47b633212816fd520af4fa6a81ed9f7f6866513b1afd858a16"), looks := false }, kinds := [], alts := [], laidByText := true, laidKinds := [.data, .listed, .data, .pinned], laidTests := true, laidLooks := .later }
def PluralAllCardSaid : Prop := Claim7.holds Tryd.pinned (.plain (OpenSpec.ofChange pluralAllSpec)) pluralAllCard

/-- THE TIED CARD OF 'polyglotlaw12.NumberPlain'. -/
def numberPlainCard : Claim7 := { stood := { row := numberPlainRow, standIns := [], harness := (true, "b48316ff00594e47b633212816fd520af4fa6a81ed9f7f6866513b1afd858a16"), looks := false }, kinds := [], alts := [], laidByText := true, laidKinds := [.data, .sentinel, .pinned], laidTests := true, laidLooks := .later }
def NumberPlainCardSaid : Prop := Claim7.holds Tryd.pinned (.plain (OpenSpec.ofChange numberPlainSpec)) numberPlainCard

/-- THE TIED CARD OF 'polyglotlaw02.DecGroups'. -/
def decGroupsCard : Claim7 := { stood := { row := decGroupsRow, standIns := [], harness := (true, "b48316ff00594e47b633212816fd520af4fa6a81ed9f7f6866513b1afd858a16"), looks := false }, kinds := [], alts := [], laidByText := true, laidKinds := [.data, .sentinel, .pinned], laidTests := true, laidLooks := .later }
def DecGroupsCardSaid : Prop := Claim7.holds Tryd.pinned (.plain (OpenSpec.ofChange decGroupsSpec)) decGroupsCard

/-- THE TIED CARD OF 'polyglotlaw02.DecParses'. -/
def decParsesCard : Claim7 := { stood := { row := decParsesRow, standIns := [], harness := (true, "b48316ff00594e47b633212816fd520af4fa6a81ed9f7f6866513b1afd858a16"), looks := false }, kinds := [], alts := [], laidByText := true, laidKinds := [.data, .sentinel, .pinned], laidTests := true, laidLooks := .later }
def DecParsesCardSaid : Prop := Claim7.holds Tryd.pinned (.plain (OpenSpec.ofChange decParsesSpec)) decParsesCard

/-- THE TIED CARD OF 'polyglotlaw02.DecRounds'. -/
def decRoundsCard : Claim7 := { stood := { row := decRoundsRow, standIns := [], harness := (true, "b48316ff00594e47b633212816fd520af4fa6a81ed9f7f6866513b1afd858a16"), looks := false }, kinds := [], alts := [], laidByText := true, laidKinds := [.data, .sentinel, .pinned], laidTests := true, laidLooks := .later }
def DecRoundsCardSaid : Prop := Claim7.holds Tryd.pinned (.plain (OpenSpec.ofChange decRoundsSpec)) decRoundsCard

/-- THE TIED CARD OF 'polyglotlaw12.NumberSame'. -/
def numberSameCard : Claim7 := { stood := { row := numberSameRow, standIns := [], harness := (true, "b48316ff00594e47b633212816fd520af4fa6a81ed9f7f6866513b1afd858a16"), looks := false }, kinds := [], alts := [], laidByText := true, laidKinds := [.data, .sentinel, .pinned], laidTests := true, laidLooks := .later }
def NumberSameCardSaid : Prop := Claim7.holds Tryd.pinned (.plain (OpenSpec.ofChange numberSameSpec)) numberSameCard

/-- THE TIED CARD OF 'polyglotlaw02.DecTrims'. -/
def decTrimsCard : Claim7 := { stood := { row := decTrimsRow, standIns := [], harness := (true, "b48316ff00594e47b633212816fd520af4fa6a81ed9f7f6866513b1afd858a16"), looks := false }, kinds := [], alts := [], laidByText := true, laidKinds := [.data, .sentinel, .pinned], laidTests := true, laidLooks := .later }
def DecTrimsCardSaid : Prop := Claim7.holds Tryd.pinned (.plain (OpenSpec.ofChange decTrimsSpec)) decTrimsCard

/-- THE TIED CARD OF 'polyglotlaw02.DecCompares'. -/
def decComparesCard : Claim7 := { stood := { row := decComparesRow, standIns := [], harness := (true, "b48316ff00594e47b633212816fd520af4fa6a81ed9f7f6866513b1afd858a16"), looks := false }, kinds := [], alts := [], laidByText := true, laidKinds := [.data, .sentinel, .pinned], laidTests := true, laidLooks := .later }
def DecComparesCardSaid : Prop := Claim7.holds Tryd.pinned (.plain (OpenSpec.ofChange decComparesSpec)) decComparesCard

/-- THE TIED CARD OF 'polyglotlaw02.DecOrders'. -/
def decOrdersCard : Claim7 := { stood := { row := decOrdersRow, standIns := [], harness := (true, "b48316ff00594e47b633212816fd520af4fa6a81ed9f7f6866513b1afd858a16"), looks := false }, kinds := [], alts := [], laidByText := true, laidKinds := [.data, .sentinel, .pinned], laidTests := true, laidLooks := .later }
def DecOrdersCardSaid : Prop := Claim7.holds Tryd.pinned (.plain (OpenSpec.ofChange decOrdersSpec)) decOrdersCard

/-- THE TIED CARD OF 'polyglotlaw02.DecSigns'. -/
def decSignsCard : Claim7 := { stood := { row := decSignsRow, standIns := [], harness := (true, "b48316ff00594e47b633212816fd520af4fa6a81ed9f7f6866513b1afd858a16"), looks := false }, kinds := [], alts := [], laidByText := true, laidKinds := [.data, .sentinel, .pinned], laidTests := true, laidLooks := .later }
def DecSignsCardSaid : Prop := Claim7.holds Tryd.pinned (.plain (OpenSpec.ofChange decSignsSpec)) decSignsCard

/-- THE TIED CARD OF 'polyglotlaw02.DecInts'. -/
def decIntsCard : Claim7 := { stood := { row := decIntsRow, standIns := [], harness := (true, "b48316ff00594e47b633212816fd520af4fa6a81ed9f7f6866513b1afd858a16"), looks := false }, kinds := [], alts := [], laidByText := true, laidKinds := [.data, .data, .data, .data, .sentinel, .pinned], laidTests := true, laidLooks := .later }
def DecIntsCardSaid : Prop := Claim7.holds Tryd.pinned (.plain (OpenSpec.ofChange decIntsSpec)) decIntsCard

/-- THE SECOND FORM's CARD OF 'polyglotlaw04.PluralOf'. -/
def pluralOfUptoCard : Claim7 := { stood := { row := pluralOfUptoRow, standIns := [], harness := (true, "b48316ff00594e47b633212816fd520af4fa6a81ed9f7f6866513b1afd858a16"), looks := false }, kinds := [], alts := [], laidByText := true, laidKinds := [.data, .listed, .data, .pinned], laidTests := true, laidLooks := .later }
def PluralOfUptoCardSaid : Prop := Claim7.holds Tryd.pinned (.plain (OpenSpec.upto pluralOfSpec)) pluralOfUptoCard

/-- THE SECOND FORM's CARD OF 'polyglotlaw04.PluralWords'. -/
def pluralWordsUptoCard : Claim7 := { stood := { row := pluralWordsUptoRow, standIns := [], harness := (true, "b48316ff00594e47b633212816fd520af4fa6a81ed9f7f6866513b1afd858a16"), looks := false }, kinds := [], alts := [], laidByText := true, laidKinds := [.data, .listed, .data, .pinned], laidTests := true, laidLooks := .later }
def PluralWordsUptoCardSaid : Prop := Claim7.holds Tryd.pinned (.plain (OpenSpec.upto pluralWordsSpec)) pluralWordsUptoCard

/-- THE SECOND FORM's CARD OF 'polyglotlaw04.PluralFar'. -/
def pluralFarUptoCard : Claim7 := { stood := { row := pluralFarUptoRow, standIns := [], harness := (true, "b48316ff00594e47b633212816fd520af4fa6a81ed9f7f6866513b1afd858a16"), looks := false }, kinds := [], alts := [], laidByText := true, laidKinds := [.data, .listed, .data, .pinned], laidTests := true, laidLooks := .later }
def PluralFarUptoCardSaid : Prop := Claim7.holds Tryd.pinned (.plain (OpenSpec.upto pluralFarSpec)) pluralFarUptoCard

/-- THE SECOND FORM's CARD OF 'polyglotlaw04.PluralAll'. -/
def pluralAllUptoCard : Claim7 := { stood := { row := pluralAllUptoRow, standIns := [], harness := (true, "b48316ff00594e47b633212816fd520af4fa6a81ed9f7f6866513b1afd858a16"), looks := false }, kinds := [], alts := [], laidByText := true, laidKinds := [.data, .listed, .data, .pinned], laidTests := true, laidLooks := .later }
def PluralAllUptoCardSaid : Prop := Claim7.holds Tryd.pinned (.plain (OpenSpec.upto pluralAllSpec)) pluralAllUptoCard

/-- THE SECOND FORM's CARD OF 'polyglotlaw12.NumberPlain'. -/
def numberPlainUptoCard : Claim7 := { stood := { row := numberPlainUptoRow, standIns := [], harness := (true, "b48316ff00594e47b633212816fd520af4fa6a81ed9f7f6866513b1afd858a16"), looks := false }, kinds := [], alts := [], laidByText := true, laidKinds := [.data, .sentinel, .pinned], laidTests := true, laidLooks := .later }
def NumberPlainUptoCardSaid : Prop := Claim7.holds Tryd.pinned (.plain (OpenSpec.upto numberPlainSpec)) numberPlainUptoCard

/-- THE SECOND FORM's CARD OF 'polyglotlaw02.DecGroups'. -/
def decGroupsUptoCard : Claim7 := { stood := { row := decGroupsUptoRow, standIns := [], harness := (true, "b48316ff00594e47b633212816fd520af4fa6a81ed9f7f6866513b1afd858a16"), looks := false }, kinds := [], alts := [], laidByText := true, laidKinds := [.data, .sentinel, .pinned], laidTests := true, laidLooks := .later }
def DecGroupsUptoCardSaid : Prop := Claim7.holds Tryd.pinned (.plain (OpenSpec.upto decGroupsSpec)) decGroupsUptoCard

/-- THE SECOND FORM's CARD OF 'polyglotlaw02.DecParses'. -/
def decParsesUptoCard : Claim7 := { stood := { row := decParsesUptoRow, standIns := [], harness := (true, "b48316ff00594e47b633212816fd520af4fa6a81ed9f7f6866513b1afd858a16"), looks := false }, kinds := [], alts := [], laidByText := true, laidKinds := [.data, .sentinel, .pinned], laidTests := true, laidLooks := .later }
def DecParsesUptoCardSaid : Prop := Claim7.holds Tryd.pinned (.plain (OpenSpec.upto decParsesSpec)) decParsesUptoCard

/-- THE SECOND FORM's CARD OF 'polyglotlaw02.DecRounds'. -/
def decRoundsUptoCard : Claim7 := { stood := { row := decRoundsUptoRow, standIns := [], harness := (true, "b48316ff00594e47b633212816fd520af4fa6a81ed9f7f6866513b1afd858a16"), looks := false }, kinds := [], alts := [], laidByText := true, laidKinds := [.data, .sentinel, .pinned], laidTests := true, laidLooks := .later }
def DecRoundsUptoCardSaid : Prop := Claim7.holds Tryd.pinned (.plain (OpenSpec.upto decRoundsSpec)) decRoundsUptoCard

/-- THE SECOND FORM's CARD OF 'polyglotlaw12.NumberSame'. -/
def numberSameUptoCard : Claim7 := { stood := { row := numberSameUptoRow, standIns := [], harness := (true, "b48316ff00594e47b633212816fd520af4fa6a81ed9f7f6866513b1afd858a16"), looks := false }, kinds := [], alts := [], laidByText := true, laidKinds := [.data, .sentinel, .pinned], laidTests := true, laidLooks := .later }
def NumberSameUptoCardSaid : Prop := Claim7.holds Tryd.pinned (.plain (OpenSpec.upto numberSameSpec)) numberSameUptoCard

/-- THE SECOND FORM's CARD OF 'polyglotlaw02.DecTrims'. -/
def decTrimsUptoCard : Claim7 := { stood := { row := decTrimsUptoRow, standIns := [], harness := (true, "b48316ff00594e47b633212816fd520af4fa6a81ed9f7f6866513b1afd858a16"), looks := false }, kinds := [], alts := [], laidByText := true, laidKinds := [.data, .sentinel, .pinned], laidTests := true, laidLooks := .later }
def DecTrimsUptoCardSaid : Prop := Claim7.holds Tryd.pinned (.plain (OpenSpec.upto decTrimsSpec)) decTrimsUptoCard

/-- THE SECOND FORM's CARD OF 'polyglotlaw02.DecCompares'. -/
def decComparesUptoCard : Claim7 := { stood := { row := decComparesUptoRow, standIns := [], harness := (true, "b48316ff00594e47b633212816fd520af4fa6a81ed9f7f6866513b1afd858a16"), looks := false }, kinds := [], alts := [], laidByText := true, laidKinds := [.data, .sentinel, .pinned], laidTests := true, laidLooks := .later }
def DecComparesUptoCardSaid : Prop := Claim7.holds Tryd.pinned (.plain (OpenSpec.upto decComparesSpec)) decComparesUptoCard

/-- THE SECOND FORM's CARD OF 'polyglotlaw02.DecOrders'. -/
def decOrdersUptoCard : Claim7 := { stood := { row := decOrdersUptoRow, standIns := [], harness := (true, "b48316ff00594e47b633212816fd520af4fa6a81ed9f7f6866513b1afd858a16"), looks := false }, kinds := [], alts := [], laidByText := true, laidKinds := [.data, .sentinel, .pinned], laidTests := true, laidLooks := .later }
def DecOrdersUptoCardSaid : Prop := Claim7.holds Tryd.pinned (.plain (OpenSpec.upto decOrdersSpec)) decOrdersUptoCard

/-- THE SECOND FORM's CARD OF 'polyglotlaw02.DecSigns'. -/
def decSignsUptoCard : Claim7 := { stood := { row := decSignsUptoRow, standIns := [], harness := (true, "b48316ff00594e47b633212816fd520af4fa6a81ed9f7f6866513b1afd858a16"), looks := false }, kinds := [], alts := [], laidByText := true, laidKinds := [.data, .sentinel, .pinned], laidTests := true, laidLooks := .later }
def DecSignsUptoCardSaid : Prop := Claim7.holds Tryd.pinned (.plain (OpenSpec.upto decSignsSpec)) decSignsUptoCard

/-- THE SECOND FORM's CARD OF 'polyglotlaw02.DecInts'. -/
def decIntsUptoCard : Claim7 := { stood := { row := decIntsUptoRow, standIns := [], harness := (true, "b48316ff00594e47b633212816fd520af4fa6a81ed9f7f6866513b1afd858a16"), looks := false }, kinds := [], alts := [], laidByText := true, laidKinds := [.data, .data, .data, .data, .sentinel, .pinned], laidTests := true, laidLooks := .later }
def DecIntsUptoCardSaid : Prop := Claim7.holds Tryd.pinned (.plain (OpenSpec.upto decIntsSpec)) decIntsUptoCard
end Rows
end Go.Proofs.YtonjkoeacedaiaaDoor
