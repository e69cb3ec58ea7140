/-
  NARROWER THAN 'FOR EVERY INPUT', by the rows' own cells (each row's printed sentence says how): SerialTexts: loops, laid · AstRights: loops, laid · AstSames: loops, laid · AstDeep: laid · ExprDeep: laid · EntryJoins: laid · EntryLines: laid.
  DERIVED. THE GIVEN ROWS OF THIS SEAT. 7 by the template 'for every input the law returns true; each argument reads behind the call as it read before'; 0 by the template 'total and deterministic' (their statements: YtipmphgkdomebaaDoorTotals.lean).
  GIVEN WITH THE SEED: the statements are not yours to turn. If you find one false, say at which input.
  Laid BY PROGRAM, IN A SANDBOX (cutbox-rows.mjs): the forced cells as the released guide's own fill.sh prints them over the translation 0906556fc1748080… (all of the seat's roots in one cut). By AI agents, Wed Nov 11 2026. No macro, syntax, notation, axiom, sorry.
-/
import Derived.Test.YtipmphgkdomebaaDoorChecked
import GoSem.PinnedTables
import GoSem.Claim
import GoSem.ClaimJoined
import GoSem.ClaimMapViews
import Derived.JoinedTies
import Derived.KernelRfl
namespace Go.Proofs.YtipmphgkdomebaaDoor
/- THE CELL 'sum', in the pinned program and in every row, IS THE sha256 OF THE DUMP (.gsa) THAT YtipmphgkdomebaaDoorProg.lean LOADS. Nothing in Lean hashes anything: it is a label: what it is worth is what the hold of that sum in a sandbox is worth. -/
noncomputable def Tryd.pinned : Pinned := { name := "ytipmphgkdomebaadoor", sum := "0906556fc17480805abca0a8b2f55b3d5f314c1e42da7886d22e601a079346b3", checked := Tryd.checked }
namespace Rows
def none {H : Type} : Left H := { results := [], args := [] }

/- WHAT THE LISTED PACKAGE-LEVEL VARIABLES READ AS WHEN THE CALL BEGINS. Each datum BY PROGRAM (the guide's laid-datum.mjs) off the statement by which the dump's own 'gosem.cut.vars' lays the variable. In a bare row this is a premise. The card (YtipmphgkdomebaaDoorCards.lean) ties it to the program's text. -/
def laid_unicode_utf8_acceptRanges {H : Type} : DataW H := .agg [.agg [.lit (.int .u8 128), .lit (.int .u8 191)], .agg [.lit (.int .u8 160), .lit (.int .u8 191)], .agg [.lit (.int .u8 128), .lit (.int .u8 159)], .agg [.lit (.int .u8 144), .lit (.int .u8 191)], .agg [.lit (.int .u8 128), .lit (.int .u8 143)], .agg [.lit (.int .u8 0), .lit (.int .u8 0)], .agg [.lit (.int .u8 0), .lit (.int .u8 0)], .agg [.lit (.int .u8 0), .lit (.int .u8 0)], .agg [.lit (.int .u8 0), .lit (.int .u8 0)], .agg [.lit (.int .u8 0), .lit (.int .u8 0)], .agg [.lit (.int .u8 0), .lit (.int .u8 0)], .agg [.lit (.int .u8 0), .lit (.int .u8 0)], .agg [.lit (.int .u8 0), .lit (.int .u8 0)], .agg [.lit (.int .u8 0), .lit (.int .u8 0)], .agg [.lit (.int .u8 0), .lit (.int .u8 0)], .agg [.lit (.int .u8 0), .lit (.int .u8 0)]]
/-- One of Go's own tables, pinned by name: the form's constant. -/
def laid_unicode_utf8_first : DataW Unit := Go.Pinned.utf8First

/-- 'polyglotlaw10.SerialTexts': WHATEVER THE INPUT: true; the input reads as it did. -/
def serialTextsSpec : ChangeSpec := { name := "serialTexts", fn := fun _ => fun
  | [d] => { results := [.lit (.bool true)], args := [d] }
  | _ => none }
def serialTextsRow : OpenClaim := { program := "ytipmphgkdomebaadoor", sum := "0906556fc17480805abca0a8b2f55b3d5f314c1e42da7886d22e601a079346b3", func := "polyglot/polyglotlaw10.SerialTexts", spec := "serialTexts", inPlace := ["internal/bytealg.CountString", "internal/bytealg.IndexByteString", "internal/bytealg.IndexString", "internal/abi.NoEscape", "internal/bytealg.MakeNoZero"], recurses := true, named := ["unicode/utf8.first", "unicode/utf8.acceptRanges", "internal/bytealg.MaxLen"], loops := true, apart := false, laid := [("unicode/utf8.acceptRanges", laid_unicode_utf8_acceptRanges), ("unicode/utf8.first", laid_unicode_utf8_first)] }
def SerialTextsSaid : Prop := serialTextsRow.holds Tryd.pinned (OpenSpec.ofChange serialTextsSpec)

/-- ITS FALSE NEIGHBOUR: 'it returns false'. Refute it at one input. -/
def serialTextsWrong : ChangeSpec := { name := "serialTexts", fn := fun _ => fun
  | [d] => { results := [.lit (.bool false)], args := [d] }
  | _ => none }
def SerialTextsWrongFalsely : Prop := serialTextsRow.holds Tryd.pinned (OpenSpec.ofChange serialTextsWrong)

/-- 'polyglotlaw07.AstRights': WHATEVER THE INPUT: true; the input reads as it did. -/
def astRightsSpec : ChangeSpec := { name := "astRights", fn := fun _ => fun
  | [d] => { results := [.lit (.bool true)], args := [d] }
  | _ => none }
def astRightsRow : OpenClaim := { program := "ytipmphgkdomebaadoor", sum := "0906556fc17480805abca0a8b2f55b3d5f314c1e42da7886d22e601a079346b3", func := "polyglot/polyglotlaw07.AstRights", spec := "astRights", inPlace := ["internal/bytealg.IndexByteString", "internal/bytealg.IndexString", "internal/abi.NoEscape", "internal/bytealg.CountString"], unfollowed := true, recurses := true, named := ["unicode/utf8.first", "unicode/utf8.acceptRanges", "internal/bytealg.MaxLen"], loops := true, apart := false, laid := [("unicode/utf8.acceptRanges", laid_unicode_utf8_acceptRanges), ("unicode/utf8.first", laid_unicode_utf8_first)] }
def AstRightsSaid : Prop := astRightsRow.holds Tryd.pinned (OpenSpec.ofChange astRightsSpec)

/-- ITS FALSE NEIGHBOUR: 'it returns false'. Refute it at one input. -/
def astRightsWrong : ChangeSpec := { name := "astRights", fn := fun _ => fun
  | [d] => { results := [.lit (.bool false)], args := [d] }
  | _ => none }
def AstRightsWrongFalsely : Prop := astRightsRow.holds Tryd.pinned (OpenSpec.ofChange astRightsWrong)

/-- 'polyglotlaw07.AstSames': WHATEVER THE INPUT: true; the input reads as it did. -/
def astSamesSpec : ChangeSpec := { name := "astSames", fn := fun _ => fun
  | [d1, d2, d3, d4] => { results := [.lit (.bool true)], args := [d1, d2, d3, d4] }
  | _ => none }
def astSamesRow : OpenClaim := { program := "ytipmphgkdomebaadoor", sum := "0906556fc17480805abca0a8b2f55b3d5f314c1e42da7886d22e601a079346b3", func := "polyglot/polyglotlaw07.AstSames", spec := "astSames", inPlace := ["internal/bytealg.IndexByteString", "internal/bytealg.IndexString", "internal/abi.NoEscape", "internal/bytealg.CountString"], unfollowed := true, recurses := true, named := ["unicode/utf8.first", "unicode/utf8.acceptRanges", "internal/bytealg.MaxLen"], loops := true, apart := false, laid := [("unicode/utf8.acceptRanges", laid_unicode_utf8_acceptRanges), ("unicode/utf8.first", laid_unicode_utf8_first)] }
def AstSamesSaid : Prop := astSamesRow.holds Tryd.pinned (OpenSpec.ofChange astSamesSpec)

/-- ITS FALSE NEIGHBOUR: 'it returns false'. Refute it at one input. -/
def astSamesWrong : ChangeSpec := { name := "astSames", fn := fun _ => fun
  | [d1, d2, d3, d4] => { results := [.lit (.bool false)], args := [d1, d2, d3, d4] }
  | _ => none }
def AstSamesWrongFalsely : Prop := astSamesRow.holds Tryd.pinned (OpenSpec.ofChange astSamesWrong)

/-- 'polyglotlaw07.AstDeep': WHATEVER THE INPUT: true; the input reads as it did. -/
def astDeepSpec : ChangeSpec := { name := "astDeep", fn := fun _ => fun
  | [d] => { results := [.lit (.bool true)], args := [d] }
  | _ => none }
def astDeepRow : OpenClaim := { program := "ytipmphgkdomebaadoor", sum := "0906556fc17480805abca0a8b2f55b3d5f314c1e42da7886d22e601a079346b3", func := "polyglot/polyglotlaw07.AstDeep", spec := "astDeep", inPlace := ["internal/bytealg.IndexByteString", "internal/bytealg.IndexString", "internal/abi.NoEscape", "internal/bytealg.CountString"], unfollowed := true, recurses := true, named := ["unicode/utf8.first", "unicode/utf8.acceptRanges", "internal/bytealg.MaxLen"], apart := false, laid := [("unicode/utf8.acceptRanges", laid_unicode_utf8_acceptRanges), ("unicode/utf8.first", laid_unicode_utf8_first)] }
def AstDeepSaid : Prop := astDeepRow.holds Tryd.pinned (OpenSpec.ofChange astDeepSpec)

/-- ITS FALSE NEIGHBOUR: 'it returns false'. Refute it at one input. -/
def astDeepWrong : ChangeSpec := { name := "astDeep", fn := fun _ => fun
  | [d] => { results := [.lit (.bool false)], args := [d] }
  | _ => none }
def AstDeepWrongFalsely : Prop := astDeepRow.holds Tryd.pinned (OpenSpec.ofChange astDeepWrong)

/-- 'polyglotlaw08.ExprDeep': WHATEVER THE INPUT: true; the input reads as it did. -/
def exprDeepSpec : ChangeSpec := { name := "exprDeep", fn := fun _ => fun
  | [d1, d2] => { results := [.lit (.bool true)], args := [d1, d2] }
  | _ => none }
def exprDeepRow : OpenClaim := { program := "ytipmphgkdomebaadoor", sum := "0906556fc17480805abca0a8b2f55b3d5f314c1e42da7886d22e601a079346b3", func := "polyglot/polyglotlaw08.ExprDeep", spec := "exprDeep", inPlace := ["internal/abi.NoEscape", "internal/bytealg.IndexByteString", "internal/bytealg.MakeNoZero", "internal/bytealg.IndexString"], unfollowed := true, recurses := true, named := ["unicode/utf8.first", "unicode/utf8.acceptRanges", "internal/bytealg.MaxLen"], apart := false, laid := [("unicode/utf8.acceptRanges", laid_unicode_utf8_acceptRanges), ("unicode/utf8.first", laid_unicode_utf8_first)] }
def ExprDeepSaid : Prop := exprDeepRow.holds Tryd.pinned (OpenSpec.ofChange exprDeepSpec)

/-- ITS FALSE NEIGHBOUR: 'it returns false'. Refute it at one input. -/
def exprDeepWrong : ChangeSpec := { name := "exprDeep", fn := fun _ => fun
  | [d1, d2] => { results := [.lit (.bool false)], args := [d1, d2] }
  | _ => none }
def ExprDeepWrongFalsely : Prop := exprDeepRow.holds Tryd.pinned (OpenSpec.ofChange exprDeepWrong)

/-- 'polyglotlaw09.EntryJoins': WHATEVER THE INPUT: true; the input reads as it did. -/
def entryJoinsSpec : ChangeSpec := { name := "entryJoins", fn := fun _ => fun
  | [d1, d2] => { results := [.lit (.bool true)], args := [d1, d2] }
  | _ => none }
def entryJoinsRow : OpenClaim := { program := "ytipmphgkdomebaadoor", sum := "0906556fc17480805abca0a8b2f55b3d5f314c1e42da7886d22e601a079346b3", func := "polyglot/polyglotlaw09.EntryJoins", spec := "entryJoins", inPlace := ["internal/abi.NoEscape", "internal/bytealg.IndexByteString", "internal/bytealg.MakeNoZero", "internal/bytealg.IndexString"], unfollowed := true, recurses := true, named := ["unicode/utf8.first", "unicode/utf8.acceptRanges", "internal/bytealg.MaxLen"], apart := false, laid := [("unicode/utf8.acceptRanges", laid_unicode_utf8_acceptRanges), ("unicode/utf8.first", laid_unicode_utf8_first)] }
def EntryJoinsSaid : Prop := entryJoinsRow.holds Tryd.pinned (OpenSpec.ofChange entryJoinsSpec)

/-- ITS FALSE NEIGHBOUR: 'it returns false'. Refute it at one input. -/
def entryJoinsWrong : ChangeSpec := { name := "entryJoins", fn := fun _ => fun
  | [d1, d2] => { results := [.lit (.bool false)], args := [d1, d2] }
  | _ => none }
def EntryJoinsWrongFalsely : Prop := entryJoinsRow.holds Tryd.pinned (OpenSpec.ofChange entryJoinsWrong)

/-- 'polyglotlaw09.EntryLines': WHATEVER THE INPUT: true; the input reads as it did. -/
def entryLinesSpec : ChangeSpec := { name := "entryLines", fn := fun _ => fun
  | [d] => { results := [.lit (.bool true)], args := [d] }
  | _ => none }
def entryLinesRow : OpenClaim := { program := "ytipmphgkdomebaadoor", sum := "0906556fc17480805abca0a8b2f55b3d5f314c1e42da7886d22e601a079346b3", func := "polyglot/polyglotlaw09.EntryLines", spec := "entryLines", inPlace := ["internal/abi.NoEscape", "internal/bytealg.IndexByteString", "internal/bytealg.MakeNoZero", "internal/bytealg.IndexString"], unfollowed := true, recurses := true, named := ["unicode/utf8.first", "unicode/utf8.acceptRanges", "internal/bytealg.MaxLen"], apart := false, laid := [("unicode/utf8.acceptRanges", laid_unicode_utf8_acceptRanges), ("unicode/utf8.first", laid_unicode_utf8_first)] }
def EntryLinesSaid : Prop := entryLinesRow.holds Tryd.pinned (OpenSpec.ofChange entryLinesSpec)

/-- ITS FALSE NEIGHBOUR: 'it returns false'. Refute it at one input. -/
def entryLinesWrong : ChangeSpec := { name := "entryLines", fn := fun _ => fun
  | [d] => { results := [.lit (.bool false)], args := [d] }
  | _ => none }
def EntryLinesWrongFalsely : Prop := entryLinesRow.holds Tryd.pinned (OpenSpec.ofChange entryLinesWrong)

/- THE SECOND FORM. 'bulk': how many values and letters a reading holds, each counted each time it is reached (what is shared counts as often as it is met; a slice's spare places count too). A statement '..UptoSaid' is the law's where the arguments, and the package variables that the reading takes, are together of bulk at most 1048576: NARROWER than '..Said'. Prove '..Said' where nothing that the law and all that it calls make is longer than what came in: it says more and counts as full. Else prove '..UptoSaid'. A law counts once. -/
mutual
def uptoBulk {H : Type} : DataW H → Nat
  | .lit (.string bytes) => bytes.length + 1
  | .lit _ => 1
  | .nil => 1
  | .ptr d => uptoBulk d + 1
  | .slice elems spare => uptoBulkAll elems + uptoBulkAll spare + 1
  | .agg parts => uptoBulkAll parts + 1
  | .iface _ d => uptoBulk d + 1
  | .map entries => uptoBulkEntries entries + 1
  | .held _ => 1
def uptoBulkAll {H : Type} : List (DataW H) → Nat
  | [] => 0
  | d :: r => uptoBulk d + uptoBulkAll r
def uptoBulkEntries {H : Type} : List (Lit × DataW H) → Nat
  | [] => 0
  | x :: r => uptoBulkEntry x + uptoBulkEntries r
def uptoBulkEntry {H : Type} : Lit × DataW H → Nat
  | (.string bytes, d) => bytes.length + uptoBulk d + 1
  | (_, d) => uptoBulk d + 1
 end
def uptoSmall : (H : Type) → List (DataW H) → Bool := fun _ ds => decide (uptoBulkAll ds ≤ 1048576)
def OpenSpec.upto (s : _root_.Go.ChangeSpec) : _root_.Go.OpenSpec := { _root_.Go.OpenSpec.ofChange s with cond := some uptoSmall }

/-- 'polyglotlaw10.SerialTexts', WHERE WHAT IT READS IS OF BULK AT MOST 1048576: true; the input reads as it did. -/
def serialTextsUptoRow : OpenClaim := { program := "ytipmphgkdomebaadoor", sum := "0906556fc17480805abca0a8b2f55b3d5f314c1e42da7886d22e601a079346b3", func := "polyglot/polyglotlaw10.SerialTexts", spec := "serialTexts", inPlace := ["internal/bytealg.CountString", "internal/bytealg.IndexByteString", "internal/bytealg.IndexString", "internal/abi.NoEscape", "internal/bytealg.MakeNoZero"], recurses := true, named := ["unicode/utf8.first", "unicode/utf8.acceptRanges", "internal/bytealg.MaxLen"], loops := true, apart := false, laid := [("unicode/utf8.acceptRanges", laid_unicode_utf8_acceptRanges), ("unicode/utf8.first", laid_unicode_utf8_first)], narrowed := true }
def SerialTextsUptoSaid : Prop := serialTextsUptoRow.holds Tryd.pinned (OpenSpec.upto serialTextsSpec)

/-- 'polyglotlaw07.AstRights', WHERE WHAT IT READS IS OF BULK AT MOST 1048576: true; the input reads as it did. -/
def astRightsUptoRow : OpenClaim := { program := "ytipmphgkdomebaadoor", sum := "0906556fc17480805abca0a8b2f55b3d5f314c1e42da7886d22e601a079346b3", func := "polyglot/polyglotlaw07.AstRights", spec := "astRights", inPlace := ["internal/bytealg.IndexByteString", "internal/bytealg.IndexString", "internal/abi.NoEscape", "internal/bytealg.CountString"], unfollowed := true, recurses := true, named := ["unicode/utf8.first", "unicode/utf8.acceptRanges", "internal/bytealg.MaxLen"], loops := true, apart := false, laid := [("unicode/utf8.acceptRanges", laid_unicode_utf8_acceptRanges), ("unicode/utf8.first", laid_unicode_utf8_first)], narrowed := true }
def AstRightsUptoSaid : Prop := astRightsUptoRow.holds Tryd.pinned (OpenSpec.upto astRightsSpec)

/-- 'polyglotlaw07.AstSames', WHERE WHAT IT READS IS OF BULK AT MOST 1048576: true; the input reads as it did. -/
def astSamesUptoRow : OpenClaim := { program := "ytipmphgkdomebaadoor", sum := "0906556fc17480805abca0a8b2f55b3d5f314c1e42da7886d22e601a079346b3", func := "polyglot/polyglotlaw07.AstSames", spec := "astSames", inPlace := ["internal/bytealg.IndexByteString", "internal/bytealg.IndexString", "internal/abi.NoEscape", "internal/bytealg.CountString"], unfollowed := true, recurses := true, named := ["unicode/utf8.first", "unicode/utf8.acceptRanges", "internal/bytealg.MaxLen"], loops := true, apart := false, laid := [("unicode/utf8.acceptRanges", laid_unicode_utf8_acceptRanges), ("unicode/utf8.first", laid_unicode_utf8_first)], narrowed := true }
def AstSamesUptoSaid : Prop := astSamesUptoRow.holds Tryd.pinned (OpenSpec.upto astSamesSpec)

/-- 'polyglotlaw07.AstDeep', WHERE WHAT IT READS IS OF BULK AT MOST 1048576: true; the input reads as it did. -/
def astDeepUptoRow : OpenClaim := { program := "ytipmphgkdomebaadoor", sum := "0906556fc17480805abca0a8b2f55b3d5f314c1e42da7886d22e601a079346b3", func := "polyglot/polyglotlaw07.AstDeep", spec := "astDeep", inPlace := ["internal/bytealg.IndexByteString", "internal/bytealg.IndexString", "internal/abi.NoEscape", "internal/bytealg.CountString"], unfollowed := true, recurses := true, named := ["unicode/utf8.first", "unicode/utf8.acceptRanges", "internal/bytealg.MaxLen"], apart := false, laid := [("unicode/utf8.acceptRanges", laid_unicode_utf8_acceptRanges), ("unicode/utf8.first", laid_unicode_utf8_first)], narrowed := true }
def AstDeepUptoSaid : Prop := astDeepUptoRow.holds Tryd.pinned (OpenSpec.upto astDeepSpec)

/-- 'polyglotlaw08.ExprDeep', WHERE WHAT IT READS IS OF BULK AT MOST 1048576: true; the input reads as it did. -/
def exprDeepUptoRow : OpenClaim := { program := "ytipmphgkdomebaadoor", sum := "0906556fc17480805abca0a8b2f55b3d5f314c1e42da7886d22e601a079346b3", func := "polyglot/polyglotlaw08.ExprDeep", spec := "exprDeep", inPlace := ["internal/abi.NoEscape", "internal/bytealg.IndexByteString", "internal/bytealg.MakeNoZero", "internal/bytealg.IndexString"], unfollowed := true, recurses := true, named := ["unicode/utf8.first", "unicode/utf8.acceptRanges", "internal/bytealg.MaxLen"], apart := false, laid := [("unicode/utf8.acceptRanges", laid_unicode_utf8_acceptRanges), ("unicode/utf8.first", laid_unicode_utf8_first)], narrowed := true }
def ExprDeepUptoSaid : Prop := exprDeepUptoRow.holds Tryd.pinned (OpenSpec.upto exprDeepSpec)

/-- 'polyglotlaw09.EntryJoins', WHERE WHAT IT READS IS OF BULK AT MOST 1048576: true; the input reads as it did. -/
def entryJoinsUptoRow : OpenClaim := { program := "ytipmphgkdomebaadoor", sum := "0906556fc17480805abca0a8b2f55b3d5f314c1e42da7886d22e601a079346b3", func := "polyglot/polyglotlaw09.EntryJoins", spec := "entryJoins", inPlace := ["internal/abi.NoEscape", "internal/bytealg.IndexByteString", "internal/bytealg.MakeNoZero", "internal/bytealg.IndexString"], unfollowed := true, recurses := true, named := ["unicode/utf8.first", "unicode/utf8.acceptRanges", "internal/bytealg.MaxLen"], apart := false, laid := [("unicode/utf8.acceptRanges", laid_unicode_utf8_acceptRanges), ("unicode/utf8.first", laid_unicode_utf8_first)], narrowed := true }
def EntryJoinsUptoSaid : Prop := entryJoinsUptoRow.holds Tryd.pinned (OpenSpec.upto entryJoinsSpec)

/-- 'polyglotlaw09.EntryLines', WHERE WHAT IT READS IS OF BULK AT MOST 1048576: true; the input reads as it did. -/
def entryLinesUptoRow : OpenClaim := { program := "ytipmphgkdomebaadoor", sum := "0906556fc17480805abca0a8b2f55b3d5f314c1e42da7886d22e601a079346b3", func := "polyglot/polyglotlaw09.EntryLines", spec := "entryLines", inPlace := ["internal/abi.NoEscape", "internal/bytealg.IndexByteString", "internal/bytealg.MakeNoZero", "internal/bytealg.IndexString"], unfollowed := true, recurses := true, named := ["unicode/utf8.first", "unicode/utf8.acceptRanges", "internal/bytealg.MaxLen"], apart := false, laid := [("unicode/utf8.acceptRanges", laid_unicode_utf8_acceptRanges), ("unicode/utf8.first", laid_unicode_utf8_first)], narrowed := true }
def EntryLinesUptoSaid : Prop := entryLinesUptoRow.holds Tryd.pinned (OpenSpec.upto entryLinesSpec)

end Rows
end Go.Proofs.YtipmphgkdomebaaDoor
