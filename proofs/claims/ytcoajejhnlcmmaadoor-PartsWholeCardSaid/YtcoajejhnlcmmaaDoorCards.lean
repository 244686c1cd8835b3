/-
  DERIVED. GIVEN WITH THE SEED: THE CARDS: each row of YtcoajejhnlcmmaaDoorRows.lean that lists a variable, with what it lists TIED to the program's text (the seventh form; the later family's looks); each row that meets fmt, with fmt's text TOLD by the authors' own Lean function (tested against real Go, not proved from fmt's source: count such statements apart). THE CARD IS WHAT COUNTS. Prove the row's statement (the work); the ties are given (YtcoajejhnlcmmaaDoorTie.lean); close each card by the builder's one call (the guide's Derived/Test/ToyasCard.lean, 'card_holds'). Laid BY PROGRAM, IN A SANDBOX (cutbox-door.mjs). By AI agents, Wed Nov 11 2026. No macro, syntax, notation, axiom, sorry.
-/
import Derived.Test.YtcoajejhnlcmmaaDoorRows
import GoSem.ClaimSeven
namespace Go.Proofs.YtcoajejhnlcmmaaDoor
namespace Rows

/-- THE TIED CARD OF 'cascadelaw28.PartsTwo'. -/
def partsTwoCard : Claim7 := { stood := { row := partsTwoRow, standIns := [], harness := (true, "9b76f9366bf5e3f126e8544a15ac3c3f718466ca6f880fcea1d2e7f17c3c0477"), looks := false }, kinds := [], alts := [], laidByText := true, laidKinds := [.data, .data, .data], laidTests := true, laidLooks := .later }
def PartsTwoCardSaid : Prop := Claim7.holds Tryd.pinned (.plain (OpenSpec.ofChange partsTwoSpec)) partsTwoCard

/-- THE TIED CARD OF 'cascadelaw28.PartsWhole'. -/
def partsWholeCard : Claim7 := { stood := { row := partsWholeRow, standIns := [], harness := (true, "9b76f9366bf5e3f126e8544a15ac3c3f718466ca6f880fcea1d2e7f17c3c0477"), looks := false }, kinds := [], alts := [], laidByText := true, laidKinds := [.data, .data, .data], laidTests := true, laidLooks := .later }
def PartsWholeCardSaid : Prop := Claim7.holds Tryd.pinned (.plain (OpenSpec.ofChange partsWholeSpec)) partsWholeCard

/-- THE SECOND FORM's CARD OF 'cascadelaw28.PartsTwo'. -/
def partsTwoUptoCard : Claim7 := { stood := { row := partsTwoUptoRow, standIns := [], harness := (true, "9b76f9366bf5e3f126e8544a15ac3c3f718466ca6f880fcea1d2e7f17c3c0477"), looks := false }, kinds := [], alts := [], laidByText := true, laidKinds := [.data, .data, .data], laidTests := true, laidLooks := .later }
def PartsTwoUptoCardSaid : Prop := Claim7.holds Tryd.pinned (.plain (OpenSpec.upto partsTwoSpec)) partsTwoUptoCard

/-- THE SECOND FORM's CARD OF 'cascadelaw28.PartsWhole'. -/
def partsWholeUptoCard : Claim7 := { stood := { row := partsWholeUptoRow, standIns := [], harness := (true, "9b76f9366bf5e3f126e8544a15ac3c3f718466ca6f880fcea1d2e7f17c3c0477"), looks := false }, kinds := [], alts := [], laidByText := true, laidKinds := [.data, .data, .data], laidTests := true, laidLooks := .later }
def PartsWholeUptoCardSaid : Prop := Claim7.holds Tryd.pinned (.plain (OpenSpec.upto partsWholeSpec)) partsWholeUptoCard
end Rows
end Go.Proofs.YtcoajejhnlcmmaaDoor
