/-
  NARROWER THAN 'FOR EVERY INPUT', by the rows' own cells (each row's printed sentence says how): TextNames: laid · TextRight: laid · TextLines: laid · TextEnds: laid · TextOf: laid · TextBack: laid · QuoteTexts: laid · QuoteOne: laid · QuoteReads: laid · QuoteBack: laid · QuoteCuts: laid.
  DERIVED. THE GIVEN ROWS OF THIS SEAT. 11 by the template 'for every input the law returns true; each argument reads behind the call as it read before'; 0 by the template 'total and deterministic' (their statements: YtncemafmkkphjaaDoorTotals.lean).
  GIVEN WITH THE SEED: the statements are not yours to turn. If you find one false, say at which input.
  Laid BY PROGRAM, IN A SANDBOX (cutbox-rows.mjs): the forced cells as the released guide's own fill.sh prints them over the translation ad488b79989020f2… (all of the seat's roots in one cut). By AI agents, Wed Nov 11 2026. No macro, syntax, notation, axiom, sorry.
-/
import Derived.Test.YtncemafmkkphjaaDoorChecked
import GoSem.PinnedTables
import GoSem.Claim
import GoSem.ClaimJoined
import GoSem.ClaimMapViews
import Derived.JoinedTies
import Derived.KernelRfl
namespace Go.Proofs.YtncemafmkkphjaaDoor
/- THE CELL 'sum', in the pinned program and in every row, IS THE sha256 OF THE DUMP (.gsa) THAT YtncemafmkkphjaaDoorProg.lean LOADS. Nothing in Lean hashes anything: it is a label: what it is worth is what the hold of that sum in a sandbox is worth. -/
noncomputable def Tryd.pinned : Pinned := { name := "ytncemafmkkphjaadoor", sum := "ad488b79989020f2ba80d1c7920399678ecf37248b82de38d2ed548cbb054041", checked := Tryd.checked }
namespace Rows
def none {H : Type} : Left H := { results := [], args := [] }

/- WHAT THE LISTED PACKAGE-LEVEL VARIABLES READ AS WHEN THE CALL BEGINS. Each datum BY PROGRAM (the guide's laid-datum.mjs) off the statement by which the dump's own 'gosem.cut.vars' lays the variable. In a bare row this is a premise. The card (YtncemafmkkphjaaDoorCards.lean) ties it to the program's text. -/
def laid_unicode_utf8_acceptRanges {H : Type} : DataW H := .agg [.agg [.lit (.int .u8 128), .lit (.int .u8 191)], .agg [.lit (.int .u8 160), .lit (.int .u8 191)], .agg [.lit (.int .u8 128), .lit (.int .u8 159)], .agg [.lit (.int .u8 144), .lit (.int .u8 191)], .agg [.lit (.int .u8 128), .lit (.int .u8 143)], .agg [.lit (.int .u8 0), .lit (.int .u8 0)], .agg [.lit (.int .u8 0), .lit (.int .u8 0)], .agg [.lit (.int .u8 0), .lit (.int .u8 0)], .agg [.lit (.int .u8 0), .lit (.int .u8 0)], .agg [.lit (.int .u8 0), .lit (.int .u8 0)], .agg [.lit (.int .u8 0), .lit (.int .u8 0)], .agg [.lit (.int .u8 0), .lit (.int .u8 0)], .agg [.lit (.int .u8 0), .lit (.int .u8 0)], .agg [.lit (.int .u8 0), .lit (.int .u8 0)], .agg [.lit (.int .u8 0), .lit (.int .u8 0)], .agg [.lit (.int .u8 0), .lit (.int .u8 0)]]
/-- One of Go's own tables, pinned by name: the form's constant. -/
def laid_unicode_utf8_first : DataW Unit := Go.Pinned.utf8First

/-- 'cascadelaw01.TextNames': WHATEVER THE INPUT: true; the input reads as it did. -/
def textNamesSpec : ChangeSpec := { name := "textNames", fn := fun _ => fun
  | [d] => { results := [.lit (.bool true)], args := [d] }
  | _ => none }
def textNamesRow : OpenClaim := { program := "ytncemafmkkphjaadoor", sum := "ad488b79989020f2ba80d1c7920399678ecf37248b82de38d2ed548cbb054041", func := "cascade/cascadelaw01.TextNames", spec := "textNames", named := ["unicode/utf8.first", "unicode/utf8.acceptRanges"], apart := false, laid := [("unicode/utf8.acceptRanges", laid_unicode_utf8_acceptRanges), ("unicode/utf8.first", laid_unicode_utf8_first)] }
def TextNamesSaid : Prop := textNamesRow.holds Tryd.pinned (OpenSpec.ofChange textNamesSpec)

/-- ITS FALSE NEIGHBOUR: 'it returns false'. Refute it at one input. -/
def textNamesWrong : ChangeSpec := { name := "textNames", fn := fun _ => fun
  | [d] => { results := [.lit (.bool false)], args := [d] }
  | _ => none }
def TextNamesWrongFalsely : Prop := textNamesRow.holds Tryd.pinned (OpenSpec.ofChange textNamesWrong)

/-- 'cascadelaw01.TextRight': WHATEVER THE INPUT: true; the input reads as it did. -/
def textRightSpec : ChangeSpec := { name := "textRight", fn := fun _ => fun
  | [d] => { results := [.lit (.bool true)], args := [d] }
  | _ => none }
def textRightRow : OpenClaim := { program := "ytncemafmkkphjaadoor", sum := "ad488b79989020f2ba80d1c7920399678ecf37248b82de38d2ed548cbb054041", func := "cascade/cascadelaw01.TextRight", spec := "textRight", named := ["unicode/utf8.first", "unicode/utf8.acceptRanges"], apart := false, laid := [("unicode/utf8.acceptRanges", laid_unicode_utf8_acceptRanges), ("unicode/utf8.first", laid_unicode_utf8_first)] }
def TextRightSaid : Prop := textRightRow.holds Tryd.pinned (OpenSpec.ofChange textRightSpec)

/-- ITS FALSE NEIGHBOUR: 'it returns false'. Refute it at one input. -/
def textRightWrong : ChangeSpec := { name := "textRight", fn := fun _ => fun
  | [d] => { results := [.lit (.bool false)], args := [d] }
  | _ => none }
def TextRightWrongFalsely : Prop := textRightRow.holds Tryd.pinned (OpenSpec.ofChange textRightWrong)

/-- 'cascadelaw01.TextLines': WHATEVER THE INPUT: true; the input reads as it did. -/
def textLinesSpec : ChangeSpec := { name := "textLines", fn := fun _ => fun
  | [d] => { results := [.lit (.bool true)], args := [d] }
  | _ => none }
def textLinesRow : OpenClaim := { program := "ytncemafmkkphjaadoor", sum := "ad488b79989020f2ba80d1c7920399678ecf37248b82de38d2ed548cbb054041", func := "cascade/cascadelaw01.TextLines", spec := "textLines", inPlace := ["internal/bytealg.IndexByteString"], named := ["unicode/utf8.first", "unicode/utf8.acceptRanges"], apart := false, laid := [("unicode/utf8.acceptRanges", laid_unicode_utf8_acceptRanges), ("unicode/utf8.first", laid_unicode_utf8_first)] }
def TextLinesSaid : Prop := textLinesRow.holds Tryd.pinned (OpenSpec.ofChange textLinesSpec)

/-- ITS FALSE NEIGHBOUR: 'it returns false'. Refute it at one input. -/
def textLinesWrong : ChangeSpec := { name := "textLines", fn := fun _ => fun
  | [d] => { results := [.lit (.bool false)], args := [d] }
  | _ => none }
def TextLinesWrongFalsely : Prop := textLinesRow.holds Tryd.pinned (OpenSpec.ofChange textLinesWrong)

/-- 'cascadelaw01.TextEnds': WHATEVER THE INPUT: true; the input reads as it did. -/
def textEndsSpec : ChangeSpec := { name := "textEnds", fn := fun _ => fun
  | [d1, d2] => { results := [.lit (.bool true)], args := [d1, d2] }
  | _ => none }
def textEndsRow : OpenClaim := { program := "ytncemafmkkphjaadoor", sum := "ad488b79989020f2ba80d1c7920399678ecf37248b82de38d2ed548cbb054041", func := "cascade/cascadelaw01.TextEnds", spec := "textEnds", inPlace := ["internal/bytealg.IndexByteString"], named := ["unicode/utf8.first", "unicode/utf8.acceptRanges"], apart := false, laid := [("unicode/utf8.acceptRanges", laid_unicode_utf8_acceptRanges), ("unicode/utf8.first", laid_unicode_utf8_first)] }
def TextEndsSaid : Prop := textEndsRow.holds Tryd.pinned (OpenSpec.ofChange textEndsSpec)

/-- ITS FALSE NEIGHBOUR: 'it returns false'. Refute it at one input. -/
def textEndsWrong : ChangeSpec := { name := "textEnds", fn := fun _ => fun
  | [d1, d2] => { results := [.lit (.bool false)], args := [d1, d2] }
  | _ => none }
def TextEndsWrongFalsely : Prop := textEndsRow.holds Tryd.pinned (OpenSpec.ofChange textEndsWrong)

/-- 'cascadelaw01.TextOf': WHATEVER THE INPUT: true; the input reads as it did. -/
def textOfSpec : ChangeSpec := { name := "textOf", fn := fun _ => fun
  | [d] => { results := [.lit (.bool true)], args := [d] }
  | _ => none }
def textOfRow : OpenClaim := { program := "ytncemafmkkphjaadoor", sum := "ad488b79989020f2ba80d1c7920399678ecf37248b82de38d2ed548cbb054041", func := "cascade/cascadelaw01.TextOf", spec := "textOf", inPlace := ["internal/abi.NoEscape"], named := ["unicode/utf8.first", "unicode/utf8.acceptRanges"], apart := false, laid := [("unicode/utf8.acceptRanges", laid_unicode_utf8_acceptRanges), ("unicode/utf8.first", laid_unicode_utf8_first)] }
def TextOfSaid : Prop := textOfRow.holds Tryd.pinned (OpenSpec.ofChange textOfSpec)

/-- ITS FALSE NEIGHBOUR: 'it returns false'. Refute it at one input. -/
def textOfWrong : ChangeSpec := { name := "textOf", fn := fun _ => fun
  | [d] => { results := [.lit (.bool false)], args := [d] }
  | _ => none }
def TextOfWrongFalsely : Prop := textOfRow.holds Tryd.pinned (OpenSpec.ofChange textOfWrong)

/-- 'cascadelaw01.TextBack': WHATEVER THE INPUT: true; the input reads as it did. -/
def textBackSpec : ChangeSpec := { name := "textBack", fn := fun _ => fun
  | [d] => { results := [.lit (.bool true)], args := [d] }
  | _ => none }
def textBackRow : OpenClaim := { program := "ytncemafmkkphjaadoor", sum := "ad488b79989020f2ba80d1c7920399678ecf37248b82de38d2ed548cbb054041", func := "cascade/cascadelaw01.TextBack", spec := "textBack", inPlace := ["internal/abi.NoEscape"], named := ["unicode/utf8.first", "unicode/utf8.acceptRanges"], apart := false, laid := [("unicode/utf8.acceptRanges", laid_unicode_utf8_acceptRanges), ("unicode/utf8.first", laid_unicode_utf8_first)] }
def TextBackSaid : Prop := textBackRow.holds Tryd.pinned (OpenSpec.ofChange textBackSpec)

/-- ITS FALSE NEIGHBOUR: 'it returns false'. Refute it at one input. -/
def textBackWrong : ChangeSpec := { name := "textBack", fn := fun _ => fun
  | [d] => { results := [.lit (.bool false)], args := [d] }
  | _ => none }
def TextBackWrongFalsely : Prop := textBackRow.holds Tryd.pinned (OpenSpec.ofChange textBackWrong)

/-- 'cascadelaw02.QuoteTexts': WHATEVER THE INPUT: true; the input reads as it did. -/
def quoteTextsSpec : ChangeSpec := { name := "quoteTexts", fn := fun _ => fun
  | [d] => { results := [.lit (.bool true)], args := [d] }
  | _ => none }
def quoteTextsRow : OpenClaim := { program := "ytncemafmkkphjaadoor", sum := "ad488b79989020f2ba80d1c7920399678ecf37248b82de38d2ed548cbb054041", func := "cascade/cascadelaw02.QuoteTexts", spec := "quoteTexts", inPlace := ["internal/abi.NoEscape"], named := ["unicode/utf8.first", "unicode/utf8.acceptRanges"], apart := false, laid := [("unicode/utf8.acceptRanges", laid_unicode_utf8_acceptRanges), ("unicode/utf8.first", laid_unicode_utf8_first)] }
def QuoteTextsSaid : Prop := quoteTextsRow.holds Tryd.pinned (OpenSpec.ofChange quoteTextsSpec)

/-- ITS FALSE NEIGHBOUR: 'it returns false'. Refute it at one input. -/
def quoteTextsWrong : ChangeSpec := { name := "quoteTexts", fn := fun _ => fun
  | [d] => { results := [.lit (.bool false)], args := [d] }
  | _ => none }
def QuoteTextsWrongFalsely : Prop := quoteTextsRow.holds Tryd.pinned (OpenSpec.ofChange quoteTextsWrong)

/-- 'cascadelaw02.QuoteOne': WHATEVER THE INPUT: true; the input reads as it did. -/
def quoteOneSpec : ChangeSpec := { name := "quoteOne", fn := fun _ => fun
  | [d1, d2] => { results := [.lit (.bool true)], args := [d1, d2] }
  | _ => none }
def quoteOneRow : OpenClaim := { program := "ytncemafmkkphjaadoor", sum := "ad488b79989020f2ba80d1c7920399678ecf37248b82de38d2ed548cbb054041", func := "cascade/cascadelaw02.QuoteOne", spec := "quoteOne", inPlace := ["internal/abi.NoEscape"], named := ["unicode/utf8.first", "unicode/utf8.acceptRanges"], apart := false, laid := [("unicode/utf8.acceptRanges", laid_unicode_utf8_acceptRanges), ("unicode/utf8.first", laid_unicode_utf8_first)] }
def QuoteOneSaid : Prop := quoteOneRow.holds Tryd.pinned (OpenSpec.ofChange quoteOneSpec)

/-- ITS FALSE NEIGHBOUR: 'it returns false'. Refute it at one input. -/
def quoteOneWrong : ChangeSpec := { name := "quoteOne", fn := fun _ => fun
  | [d1, d2] => { results := [.lit (.bool false)], args := [d1, d2] }
  | _ => none }
def QuoteOneWrongFalsely : Prop := quoteOneRow.holds Tryd.pinned (OpenSpec.ofChange quoteOneWrong)

/-- 'cascadelaw02.QuoteReads': WHATEVER THE INPUT: true; the input reads as it did. -/
def quoteReadsSpec : ChangeSpec := { name := "quoteReads", fn := fun _ => fun
  | [d] => { results := [.lit (.bool true)], args := [d] }
  | _ => none }
def quoteReadsRow : OpenClaim := { program := "ytncemafmkkphjaadoor", sum := "ad488b79989020f2ba80d1c7920399678ecf37248b82de38d2ed548cbb054041", func := "cascade/cascadelaw02.QuoteReads", spec := "quoteReads", inPlace := ["internal/abi.NoEscape"], named := ["unicode/utf8.first", "unicode/utf8.acceptRanges"], apart := false, laid := [("unicode/utf8.acceptRanges", laid_unicode_utf8_acceptRanges), ("unicode/utf8.first", laid_unicode_utf8_first)] }
def QuoteReadsSaid : Prop := quoteReadsRow.holds Tryd.pinned (OpenSpec.ofChange quoteReadsSpec)

/-- ITS FALSE NEIGHBOUR: 'it returns false'. Refute it at one input. -/
def quoteReadsWrong : ChangeSpec := { name := "quoteReads", fn := fun _ => fun
  | [d] => { results := [.lit (.bool false)], args := [d] }
  | _ => none }
def QuoteReadsWrongFalsely : Prop := quoteReadsRow.holds Tryd.pinned (OpenSpec.ofChange quoteReadsWrong)

/-- 'cascadelaw02.QuoteBack': WHATEVER THE INPUT: true; the input reads as it did. -/
def quoteBackSpec : ChangeSpec := { name := "quoteBack", fn := fun _ => fun
  | [d1, d2] => { results := [.lit (.bool true)], args := [d1, d2] }
  | _ => none }
def quoteBackRow : OpenClaim := { program := "ytncemafmkkphjaadoor", sum := "ad488b79989020f2ba80d1c7920399678ecf37248b82de38d2ed548cbb054041", func := "cascade/cascadelaw02.QuoteBack", spec := "quoteBack", inPlace := ["internal/abi.NoEscape"], named := ["unicode/utf8.first", "unicode/utf8.acceptRanges"], apart := false, laid := [("unicode/utf8.acceptRanges", laid_unicode_utf8_acceptRanges), ("unicode/utf8.first", laid_unicode_utf8_first)] }
def QuoteBackSaid : Prop := quoteBackRow.holds Tryd.pinned (OpenSpec.ofChange quoteBackSpec)

/-- ITS FALSE NEIGHBOUR: 'it returns false'. Refute it at one input. -/
def quoteBackWrong : ChangeSpec := { name := "quoteBack", fn := fun _ => fun
  | [d1, d2] => { results := [.lit (.bool false)], args := [d1, d2] }
  | _ => none }
def QuoteBackWrongFalsely : Prop := quoteBackRow.holds Tryd.pinned (OpenSpec.ofChange quoteBackWrong)

/-- 'cascadelaw02.QuoteCuts': WHATEVER THE INPUT: true; the input reads as it did. -/
def quoteCutsSpec : ChangeSpec := { name := "quoteCuts", fn := fun _ => fun
  | [d1, d2] => { results := [.lit (.bool true)], args := [d1, d2] }
  | _ => none }
def quoteCutsRow : OpenClaim := { program := "ytncemafmkkphjaadoor", sum := "ad488b79989020f2ba80d1c7920399678ecf37248b82de38d2ed548cbb054041", func := "cascade/cascadelaw02.QuoteCuts", spec := "quoteCuts", inPlace := ["internal/abi.NoEscape"], named := ["unicode/utf8.first", "unicode/utf8.acceptRanges"], apart := false, laid := [("unicode/utf8.acceptRanges", laid_unicode_utf8_acceptRanges), ("unicode/utf8.first", laid_unicode_utf8_first)] }
def QuoteCutsSaid : Prop := quoteCutsRow.holds Tryd.pinned (OpenSpec.ofChange quoteCutsSpec)

/-- ITS FALSE NEIGHBOUR: 'it returns false'. Refute it at one input. -/
def quoteCutsWrong : ChangeSpec := { name := "quoteCuts", fn := fun _ => fun
  | [d1, d2] => { results := [.lit (.bool false)], args := [d1, d2] }
  | _ => none }
def QuoteCutsWrongFalsely : Prop := quoteCutsRow.holds Tryd.pinned (OpenSpec.ofChange quoteCutsWrong)

/- THE SECOND FORM. 'bulk': how many values and letters a reading holds, each counted each time it is reached (what is shared counts as often as it is met; a slice's spare places count too). A statement '..UptoSaid' is the law's where the arguments, and the package variables that the reading takes, are together of bulk at most 1048576: NARROWER than '..Said'. Prove '..Said' where nothing that the law and all that it calls make is longer than what came in: it says more and counts as full. Else prove '..UptoSaid'. A law counts once. -/
mutual
def uptoBulk {H : Type} : DataW H → Nat
  | .lit (.string bytes) => bytes.length + 1
  | .lit _ => 1
  | .nil => 1
  | .ptr d => uptoBulk d + 1
  | .slice elems spare => uptoBulkAll elems + uptoBulkAll spare + 1
  | .agg parts => uptoBulkAll parts + 1
  | .iface _ d => uptoBulk d + 1
  | .map entries => uptoBulkEntries entries + 1
  | .held _ => 1
def uptoBulkAll {H : Type} : List (DataW H) → Nat
  | [] => 0
  | d :: r => uptoBulk d + uptoBulkAll r
def uptoBulkEntries {H : Type} : List (Lit × DataW H) → Nat
  | [] => 0
  | x :: r => uptoBulkEntry x + uptoBulkEntries r
def uptoBulkEntry {H : Type} : Lit × DataW H → Nat
  | (.string bytes, d) => bytes.length + uptoBulk d + 1
  | (_, d) => uptoBulk d + 1
 end
def uptoSmall : (H : Type) → List (DataW H) → Bool := fun _ ds => decide (uptoBulkAll ds ≤ 1048576)
def OpenSpec.upto (s : _root_.Go.ChangeSpec) : _root_.Go.OpenSpec := { _root_.Go.OpenSpec.ofChange s with cond := some uptoSmall }

/-- 'cascadelaw01.TextNames', WHERE WHAT IT READS IS OF BULK AT MOST 1048576: true; the input reads as it did. -/
def textNamesUptoRow : OpenClaim := { program := "ytncemafmkkphjaadoor", sum := "ad488b79989020f2ba80d1c7920399678ecf37248b82de38d2ed548cbb054041", func := "cascade/cascadelaw01.TextNames", spec := "textNames", named := ["unicode/utf8.first", "unicode/utf8.acceptRanges"], apart := false, laid := [("unicode/utf8.acceptRanges", laid_unicode_utf8_acceptRanges), ("unicode/utf8.first", laid_unicode_utf8_first)], narrowed := true }
def TextNamesUptoSaid : Prop := textNamesUptoRow.holds Tryd.pinned (OpenSpec.upto textNamesSpec)

/-- 'cascadelaw01.TextRight', WHERE WHAT IT READS IS OF BULK AT MOST 1048576: true; the input reads as it did. -/
def textRightUptoRow : OpenClaim := { program := "ytncemafmkkphjaadoor", sum := "ad488b79989020f2ba80d1c7920399678ecf37248b82de38d2ed548cbb054041", func := "cascade/cascadelaw01.TextRight", spec := "textRight", named := ["unicode/utf8.first", "unicode/utf8.acceptRanges"], apart := false, laid := [("unicode/utf8.acceptRanges", laid_unicode_utf8_acceptRanges), ("unicode/utf8.first", laid_unicode_utf8_first)], narrowed := true }
def TextRightUptoSaid : Prop := textRightUptoRow.holds Tryd.pinned (OpenSpec.upto textRightSpec)

/-- 'cascadelaw01.TextLines', WHERE WHAT IT READS IS OF BULK AT MOST 1048576: true; the input reads as it did. -/
def textLinesUptoRow : OpenClaim := { program := "ytncemafmkkphjaadoor", sum := "ad488b79989020f2ba80d1c7920399678ecf37248b82de38d2ed548cbb054041", func := "cascade/cascadelaw01.TextLines", spec := "textLines", inPlace := ["internal/bytealg.IndexByteString"], named := ["unicode/utf8.first", "unicode/utf8.acceptRanges"], apart := false, laid := [("unicode/utf8.acceptRanges", laid_unicode_utf8_acceptRanges), ("unicode/utf8.first", laid_unicode_utf8_first)], narrowed := true }
def TextLinesUptoSaid : Prop := textLinesUptoRow.holds Tryd.pinned (OpenSpec.upto textLinesSpec)

/-- 'cascadelaw01.TextEnds', WHERE WHAT IT READS IS OF BULK AT MOST 1048576: true; the input reads as it did. -/
def textEndsUptoRow : OpenClaim := { program := "ytncemafmkkphjaadoor", sum := "ad488b79989020f2ba80d1c7920399678ecf37248b82de38d2ed548cbb054041", func := "cascade/cascadelaw01.TextEnds", spec := "textEnds", inPlace := ["internal/bytealg.IndexByteString"], named := ["unicode/utf8.first", "unicode/utf8.acceptRanges"], apart := false, laid := [("unicode/utf8.acceptRanges", laid_unicode_utf8_acceptRanges), ("unicode/utf8.first", laid_unicode_utf8_first)], narrowed := true }
def TextEndsUptoSaid : Prop := textEndsUptoRow.holds Tryd.pinned (OpenSpec.upto textEndsSpec)

/-- 'cascadelaw01.TextOf', WHERE WHAT IT READS IS OF BULK AT MOST 1048576: true; the input reads as it did. -/
def textOfUptoRow : OpenClaim := { program := "ytncemafmkkphjaadoor", sum := "ad488b79989020f2ba80d1c7920399678ecf37248b82de38d2ed548cbb054041", func := "cascade/cascadelaw01.TextOf", spec := "textOf", inPlace := ["internal/abi.NoEscape"], named := ["unicode/utf8.first", "unicode/utf8.acceptRanges"], apart := false, laid := [("unicode/utf8.acceptRanges", laid_unicode_utf8_acceptRanges), ("unicode/utf8.first", laid_unicode_utf8_first)], narrowed := true }
def TextOfUptoSaid : Prop := textOfUptoRow.holds Tryd.pinned (OpenSpec.upto textOfSpec)

/-- 'cascadelaw01.TextBack', WHERE WHAT IT READS IS OF BULK AT MOST 1048576: true; the input reads as it did. -/
def textBackUptoRow : OpenClaim := { program := "ytncemafmkkphjaadoor", sum := "ad488b79989020f2ba80d1c7920399678ecf37248b82de38d2ed548cbb054041", func := "cascade/cascadelaw01.TextBack", spec := "textBack", inPlace := ["internal/abi.NoEscape"], named := ["unicode/utf8.first", "unicode/utf8.acceptRanges"], apart := false, laid := [("unicode/utf8.acceptRanges", laid_unicode_utf8_acceptRanges), ("unicode/utf8.first", laid_unicode_utf8_first)], narrowed := true }
def TextBackUptoSaid : Prop := textBackUptoRow.holds Tryd.pinned (OpenSpec.upto textBackSpec)

/-- 'cascadelaw02.QuoteTexts', WHERE WHAT IT READS IS OF BULK AT MOST 1048576: true; the input reads as it did. -/
def quoteTextsUptoRow : OpenClaim := { program := "ytncemafmkkphjaadoor", sum := "ad488b79989020f2ba80d1c7920399678ecf37248b82de38d2ed548cbb054041", func := "cascade/cascadelaw02.QuoteTexts", spec := "quoteTexts", inPlace := ["internal/abi.NoEscape"], named := ["unicode/utf8.first", "unicode/utf8.acceptRanges"], apart := false, laid := [("unicode/utf8.acceptRanges", laid_unicode_utf8_acceptRanges), ("unicode/utf8.first", laid_unicode_utf8_first)], narrowed := true }
def QuoteTextsUptoSaid : Prop := quoteTextsUptoRow.holds Tryd.pinned (OpenSpec.upto quoteTextsSpec)

/-- 'cascadelaw02.QuoteOne', WHERE WHAT IT READS IS OF BULK AT MOST 1048576: true; the input reads as it did. -/
def quoteOneUptoRow : OpenClaim := { program := "ytncemafmkkphjaadoor", sum := "ad488b79989020f2ba80d1c7920399678ecf37248b82de38d2ed548cbb054041", func := "cascade/cascadelaw02.QuoteOne", spec := "quoteOne", inPlace := ["internal/abi.NoEscape"], named := ["unicode/utf8.first", "unicode/utf8.acceptRanges"], apart := false, laid := [("unicode/utf8.acceptRanges", laid_unicode_utf8_acceptRanges), ("unicode/utf8.first", laid_unicode_utf8_first)], narrowed := true }
def QuoteOneUptoSaid : Prop := quoteOneUptoRow.holds Tryd.pinned (OpenSpec.upto quoteOneSpec)

/-- 'cascadelaw02.QuoteReads', WHERE WHAT IT READS IS OF BULK AT MOST 1048576: true; the input reads as it did. -/
def quoteReadsUptoRow : OpenClaim := { program := "ytncemafmkkphjaadoor", sum := "ad488b79989020f2ba80d1c7920399678ecf37248b82de38d2ed548cbb054041", func := "cascade/cascadelaw02.QuoteReads", spec := "quoteReads", inPlace := ["internal/abi.NoEscape"], named := ["unicode/utf8.first", "unicode/utf8.acceptRanges"], apart := false, laid := [("unicode/utf8.acceptRanges", laid_unicode_utf8_acceptRanges), ("unicode/utf8.first", laid_unicode_utf8_first)], narrowed := true }
def QuoteReadsUptoSaid : Prop := quoteReadsUptoRow.holds Tryd.pinned (OpenSpec.upto quoteReadsSpec)

/-- 'cascadelaw02.QuoteBack', WHERE WHAT IT READS IS OF BULK AT MOST 1048576: true; the input reads as it did. -/
def quoteBackUptoRow : OpenClaim := { program := "ytncemafmkkphjaadoor", sum := "ad488b79989020f2ba80d1c7920399678ecf37248b82de38d2ed548cbb054041", func := "cascade/cascadelaw02.QuoteBack", spec := "quoteBack", inPlace := ["internal/abi.NoEscape"], named := ["unicode/utf8.first", "unicode/utf8.acceptRanges"], apart := false, laid := [("unicode/utf8.acceptRanges", laid_unicode_utf8_acceptRanges), ("unicode/utf8.first", laid_unicode_utf8_first)], narrowed := true }
def QuoteBackUptoSaid : Prop := quoteBackUptoRow.holds Tryd.pinned (OpenSpec.upto quoteBackSpec)

/-- 'cascadelaw02.QuoteCuts', WHERE WHAT IT READS IS OF BULK AT MOST 1048576: true; the input reads as it did. -/
def quoteCutsUptoRow : OpenClaim := { program := "ytncemafmkkphjaadoor", sum := "ad488b79989020f2ba80d1c7920399678ecf37248b82de38d2ed548cbb054041", func := "cascade/cascadelaw02.QuoteCuts", spec := "quoteCuts", inPlace := ["internal/abi.NoEscape"], named := ["unicode/utf8.first", "unicode/utf8.acceptRanges"], apart := false, laid := [("unicode/utf8.acceptRanges", laid_unicode_utf8_acceptRanges), ("unicode/utf8.first", laid_unicode_utf8_first)], narrowed := true }
def QuoteCutsUptoSaid : Prop := quoteCutsUptoRow.holds Tryd.pinned (OpenSpec.upto quoteCutsSpec)

end Rows
end Go.Proofs.YtncemafmkkphjaaDoor
