/-
  DERIVED. GIVEN WITH THE SEED: THE CARDS: each row of YtncemafmkkphjaaDoorRows.lean that lists a variable, with what it lists TIED to the program's text (the seventh form; the later family's looks); each row that meets fmt, with fmt's text TOLD by the authors' own Lean function (tested against real Go, not proved from fmt's source: count such statements apart). THE CARD IS WHAT COUNTS. Prove the row's statement (the work); the ties are given (YtncemafmkkphjaaDoorTie.lean); close each card by the builder's one call (the guide's Derived/Test/ToyasCard.lean, 'card_holds'). Laid BY PROGRAM, IN A SANDBOX (cutbox-door.mjs). By AI agents, Wed Nov 11 2026. No macro, syntax, notation, axiom, sorry.
-/
import Derived.Test.YtncemafmkkphjaaDoorRows
import GoSem.ClaimSeven
namespace Go.Proofs.YtncemafmkkphjaaDoor
namespace Rows

/-- THE TIED CARD OF 'cascadelaw01.TextNames'. -/
def textNamesCard : Claim7 := { stood := { row := textNamesRow, standIns := [], harness := (true, "06d8a138d305c6f42aa2ffd19ea29b94b8f45e6a3ec0ceec64b28e6d42c439d8"), looks := false }, kinds := [], alts := [], laidByText := true, laidKinds := [.data, .pinned], laidTests := true, laidLooks := .later }
def TextNamesCardSaid : Prop := Claim7.holds Tryd.pinned (.plain (OpenSpec.ofChange textNamesSpec)) textNamesCard

/-- THE TIED CARD OF 'cascadelaw01.TextRight'. -/
def textRightCard : Claim7 := { stood := { row := textRightRow, standIns := [], harness := (true, "06d8a138d305c6f42aa2ffd19ea29b94b8f45e6a3ec0ceec64b28e6d42c439d8"), looks := false }, kinds := [], alts := [], laidByText := true, laidKinds := [.data, .pinned], laidTests := true, laidLooks := .later }
def TextRightCardSaid : Prop := Claim7.holds Tryd.pinned (.plain (OpenSpec.ofChange textRightSpec)) textRightCard

/-- THE TIED CARD OF 'cascadelaw01.TextLines'. -/
def textLinesCard : Claim7 := { stood := { row := textLinesRow, standIns := [], harness := (true, "06d8a138d305c6f42aa2ffd19ea29b94b8f45e6a3ec0ceec64b28e6d42c439d8"), looks := false }, kinds := [], alts := [], laidByText := true, laidKinds := [.data, .pinned], laidTests := true, laidLooks := .later }
def TextLinesCardSaid : Prop := Claim7.holds Tryd.pinned (.plain (OpenSpec.ofChange textLinesSpec)) textLinesCard

/-- THE TIED CARD OF 'cascadelaw01.TextEnds'. -/
def textEndsCard : Claim7 := { stood := { row := textEndsRow, standIns := [], harness := (true, "06d8a138d305c6f42aa2ffd19ea29b94b8f45e6a3ec0ceec64b28e6d42c439d8"), looks := false }, kinds := [], alts := [], laidByText := true, laidKinds := [.data, .pinned], laidTests := true, laidLooks := .later }
def TextEndsCardSaid : Prop := Claim7.holds Tryd.pinned (.plain (OpenSpec.ofChange textEndsSpec)) textEndsCard

/-- THE TIED CARD OF 'cascadelaw01.TextOf'. -/
def textOfCard : Claim7 := { stood := { row := textOfRow, standIns := [], harness := (true, "06d8a138d305c6f42aa2ffd19ea29b94b8f45e6a3ec0ceec64b28e6d42c439d8"), looks := false }, kinds := [], alts := [], laidByText := true, laidKinds := [.data, .pinned], laidTests := true, laidLooks := .later }
def TextOfCardSaid : Prop := Claim7.holds Tryd.pinned (.plain (OpenSpec.ofChange textOfSpec)) textOfCard

/-- THE TIED CARD OF 'cascadelaw01.TextBack'. -/
def textBackCard : Claim7 := { stood := { row := textBackRow, standIns := [], harness := (true, "06d8a138d305c6f42aa2ffd19ea29b94b8f45e6a3ec0ceec64b28e6d42c439d8"), looks := false }, kinds := [], alts := [], laidByText := true, laidKinds := [.data, .pinned], laidTests := true, laidLooks := .later }
def TextBackCardSaid : Prop := Claim7.holds Tryd.pinned (.plain (OpenSpec.ofChange textBackSpec)) textBackCard

/-- THE TIED CARD OF 'cascadelaw02.QuoteTexts'. -/
def quoteTextsCard : Claim7 := { stood := { row := quoteTextsRow, standIns := [], harness := (true, "06d8a138d305c6f42aa2ffd19ea29b94b8f45e6a3ec0ceec64b28e6d42c439d8"), looks := false }, kinds := [], alts := [], laidByText := true, laidKinds := [.data, .pinned], laidTests := true, laidLooks := .later }
def QuoteTextsCardSaid : Prop := Claim7.holds Tryd.pinned (.plain (OpenSpec.ofChange quoteTextsSpec)) quoteTextsCard

/-- THE TIED CARD OF 'cascadelaw02.QuoteOne'. -/
def quoteOneCard : Claim7 := { stood := { row := quoteOneRow, standIns := [], harness := (true, "06d8a138d305c6f42aa2ffd19ea29b94b8f45e6a3ec0ceec64b28e6d42c439d8"), looks := false }, kinds := [], alts := [], laidByText := true, laidKinds := [.data, .pinned], laidTests := true, laidLooks := .later }
def QuoteOneCardSaid : Prop := Claim7.holds Tryd.pinned (.plain (OpenSpec.ofChange quoteOneSpec)) quoteOneCard

/-- THE TIED CARD OF 'cascadelaw02.QuoteReads'. -/
def quoteReadsCard : Claim7 := { stood := { row := quoteReadsRow, standIns := [], harness := (true, "06d8a138d305c6f42aa2ffd19ea29b94b8f45e6a3ec0ceec64b28e6d42c439d8"), looks := false }, kinds := [], alts := [], laidByText := true, laidKinds := [.data, .pinned], laidTests := true, laidLooks := .later }
def QuoteReadsCardSaid : Prop := Claim7.holds Tryd.pinned (.plain (OpenSpec.ofChange quoteReadsSpec)) quoteReadsCard

/-- THE TIED CARD OF 'cascadelaw02.QuoteBack'. -/
def quoteBackCard : Claim7 := { stood := { row := quoteBackRow, standIns := [], harness := (true, "06d8a138d305c6f42aa2ffd19ea29b94b8f45e6a3ec0ceec64b28e6d42c439d8"), looks := false }, kinds := [], alts := [], laidByText := true, laidKinds := [.data, .pinned], laidTests := true, laidLooks := .later }
def QuoteBackCardSaid : Prop := Claim7.holds Tryd.pinned (.plain (OpenSpec.ofChange quoteBackSpec)) quoteBackCard

/-- THE TIED CARD OF 'cascadelaw02.QuoteCuts'. -/
def quoteCutsCard : Claim7 := { stood := { row := quoteCutsRow, standIns := [], harness := (true, "06d8a138d305c6f42aa2ffd19ea29b94b8f45e6a3ec0ceec64b28e6d42c439d8"), looks := false }, kinds := [], alts := [], laidByText := true, laidKinds := [.data, .pinned], laidTests := true, laidLooks := .later }
def QuoteCutsCardSaid : Prop := Claim7.holds Tryd.pinned (.plain (OpenSpec.ofChange quoteCutsSpec)) quoteCutsCard

/-- THE SECOND FORM's CARD OF 'cascadelaw01.TextNames'. -/
def textNamesUptoCard : Claim7 := { stood := { row := textNamesUptoRow, standIns := [], harness := (true, "06d8a138d305c6f42aa2ffd19ea29b94b8f45e6a3ec0ceec64b28e6d42c439d8"), looks := false }, kinds := [], alts := [], laidByText := true, laidKinds := [.data, .pinned], laidTests := true, laidLooks := .later }
def TextNamesUptoCardSaid : Prop := Claim7.holds Tryd.pinned (.plain (OpenSpec.upto textNamesSpec)) textNamesUptoCard

/-- THE SECOND FORM's CARD OF 'cascadelaw01.TextRight'. -/
def textRightUptoCard : Claim7 := { stood := { row := textRightUptoRow, standIns := [], harness := (true, "06d8a138d305c6f42aa2ffd19ea29b94b8f45e6a3ec0ceec64b28e6d42c439d8"), looks := false }, kinds := [], alts := [], laidByText := true, laidKinds := [.data, .pinned], laidTests := true, laidLooks := .later }
def TextRightUptoCardSaid : Prop := Claim7.holds Tryd.pinned (.plain (OpenSpec.upto textRightSpec)) textRightUptoCard

/-- THE SECOND FORM's CARD OF 'cascadelaw01.TextLines'. -/
def textLinesUptoCard : Claim7 := { stood := { row := textLinesUptoRow, standIns := [], harness := (true, "06d8a138d305c6f42aa2ffd19ea29b94b8f45e6a3ec0ceec64b28e6d42c439d8"), looks := false }, kinds := [], alts := [], laidByText := true, laidKinds := [.data, .pinned], laidTests := true, laidLooks := .later }
def TextLinesUptoCardSaid : Prop := Claim7.holds Tryd.pinned (.plain (OpenSpec.upto textLinesSpec)) textLinesUptoCard

/-- THE SECOND FORM's CARD OF 'cascadelaw01.TextEnds'. -/
def textEndsUptoCard : Claim7 := { stood := { row := textEndsUptoRow, standIns := [], harness := (true, "06d8a138d305c6f42aa2ffd19ea29b94b8f45e6a3ec0ceec64b28e6d42c439d8"), looks := false }, kinds := [], alts := [], laidByText := true, laidKinds := [.data, .pinned], laidTests := true, laidLooks := .later }
def TextEndsUptoCardSaid : Prop := Claim7.holds Tryd.pinned (.plain (OpenSpec.upto textEndsSpec)) textEndsUptoCard

/-- THE SECOND FORM's CARD OF 'cascadelaw01.TextOf'. -/
def textOfUptoCard : Claim7 := { stood := { row := textOfUptoRow, standIns := [], harness := (true, "06d8a138d305c6f42aa2ffd19ea29b94b8f45e6a3ec0ceec64b28e6d42c439d8"), looks := false }, kinds := [], alts := [], laidByText := true, laidKinds := [.data, .pinned], laidTests := true, laidLooks := .later }
def TextOfUptoCardSaid : Prop := Claim7.holds Tryd.pinned (.plain (OpenSpec.upto textOfSpec)) textOfUptoCard

/-- THE SECOND FORM's CARD OF 'cascadelaw01.TextBack'. -/
def textBackUptoCard : Claim7 := { stood := { row := textBackUptoRow, standIns := [], harness := (true, "06d8a138d305c6f42aa2ffd19ea29b94b8f45e6a3ec0ceec64b28e6d42c439d8"), looks := false }, kinds := [], alts := [], laidByText := true, laidKinds := [.data, .pinned], laidTests := true, laidLooks := .later }
def TextBackUptoCardSaid : Prop := Claim7.holds Tryd.pinned (.plain (OpenSpec.upto textBackSpec)) textBackUptoCard

/-- THE SECOND FORM's CARD OF 'cascadelaw02.QuoteTexts'. -/
def quoteTextsUptoCard : Claim7 := { stood := { row := quoteTextsUptoRow, standIns := [], harness := (true, "06d8a138d305c6f42aa2ffd19ea29b94b8f45e6a3ec0ceec64b28e6d42c439d8"), looks := false }, kinds := [], alts := [], laidByText := true, laidKinds := [.data, .pinned], laidTests := true, laidLooks := .later }
def QuoteTextsUptoCardSaid : Prop := Claim7.holds Tryd.pinned (.plain (OpenSpec.upto quoteTextsSpec)) quoteTextsUptoCard

/-- THE SECOND FORM's CARD OF 'cascadelaw02.QuoteOne'. -/
def quoteOneUptoCard : Claim7 := { stood := { row := quoteOneUptoRow, standIns := [], harness := (true, "06d8a138d305c6f42aa2ffd19ea29b94b8f45e6a3ec0ceec64b28e6d42c439d8"), looks := false }, kinds := [], alts := [], laidByText := true, laidKinds := [.data, .pinned], laidTests := true, laidLooks := .later }
def QuoteOneUptoCardSaid : Prop := Claim7.holds Tryd.pinned (.plain (OpenSpec.upto quoteOneSpec)) quoteOneUptoCard

/-- THE SECOND FORM's CARD OF 'cascadelaw02.QuoteReads'. -/
def quoteReadsUptoCard : Claim7 := { stood := { row := quoteReadsUptoRow, standIns := [], harness := (true, "06d8a138d305c6f42aa2ffd19ea29b94b8f45e6a3ec0ceec64b28e6d42c439d8"), looks := false }, kinds := [], alts := [], laidByText := true, laidKinds := [.data, .pinned], laidTests := true, laidLooks := .later }
def QuoteReadsUptoCardSaid : Prop := Claim7.holds Tryd.pinned (.plain (OpenSpec.upto quoteReadsSpec)) quoteReadsUptoCard

/-- THE SECOND FORM's CARD OF 'cascadelaw02.QuoteBack'. -/
def quoteBackUptoCard : Claim7 := { stood := { row := quoteBackUptoRow, standIns := [], harness := (true, "06d8a138d305c6f42aa2ffd19ea29b94b8f45e6a3ec0ceec64b28e6d42c439d8"), looks := false }, kinds := [], alts := [], laidByText := true, laidKinds := [.data, .pinned], laidTests := true, laidLooks := .later }
def QuoteBackUptoCardSaid : Prop := Claim7.holds Tryd.pinned (.plain (OpenSpec.upto quoteBackSpec)) quoteBackUptoCard

/-- THE SECOND FORM's CARD OF 'cascadelaw02.QuoteCuts'. -/
def quoteCutsUptoCard : Claim7 := { stood := { row := quoteCutsUptoRow, standIns := [], harness := (true, "06d8a138d305c6f42aa2ffd19ea29b94b8f45e6a3ec0ceec64b28e6d42c439d8"), looks := false }, kinds := [], alts := [], laidByText := true, laidKinds := [.data, .pinned], laidTests := true, laidLooks := .later }
def QuoteCutsUptoCardSaid : Prop := Claim7.holds Tryd.pinned (.plain (OpenSpec.upto quoteCutsSpec)) quoteCutsUptoCard
end Rows
end Go.Proofs.YtncemafmkkphjaaDoor
