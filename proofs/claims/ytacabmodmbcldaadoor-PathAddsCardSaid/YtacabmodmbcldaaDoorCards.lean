/-
  DERIVED. GIVEN WITH THE SEED: THE CARDS: each row of YtacabmodmbcldaaDoorRows.lean that lists a variable, with what it lists TIED to the program's text (the seventh form; the later family's looks); each row that meets fmt, with fmt's text TOLD by the authors' own Lean function (tested against real Go, not proved from fmt's source: count such statements apart). THE CARD IS WHAT COUNTS. Prove the row's statement (the work); the ties are given (YtacabmodmbcldaaDoorTie.lean); close each card by the builder's one call (the guide's Derived/Test/ToyasCard.lean, 'card_holds'). Laid BY PROGRAM, IN A SANDBOX (cutbox-door.mjs). By AI agents, Wed Nov 11 2026. No macro, syntax, notation, axiom, sorry.
-/
import Derived.Test.YtacabmodmbcldaaDoorRows
import GoSem.ClaimSeven
namespace Go.Proofs.YtacabmodmbcldaaDoor
namespace Rows

/-- THE TIED CARD OF 'cascadelaw06.PathRight'. -/
def pathRightCard : Claim7 := { stood := { row := pathRightRow, standIns := [], harness := (true, "01668c4164516aeee4ce27b02f257b7713c71174cd40aecc99026d6119a7bcf5"), looks := false }, kinds := [], alts := [], laidByText := true, laidKinds := [.data, .pinned], laidTests := true, laidLooks := .later }
def PathRightCardSaid : Prop := Claim7.holds Tryd.pinned (.plain (OpenSpec.ofChange pathRightSpec)) pathRightCard

/-- THE TIED CARD OF 'cascadelaw06.PathOf'. -/
def pathOfCard : Claim7 := { stood := { row := pathOfRow, standIns := [], harness := (true, "01668c4164516aeee4ce27b02f257b7713c71174cd40aecc99026d6119a7bcf5"), looks := false }, kinds := [], alts := [], laidByText := true, laidKinds := [.data, .pinned], laidTests := true, laidLooks := .later }
def PathOfCardSaid : Prop := Claim7.holds Tryd.pinned (.plain (OpenSpec.ofChange pathOfSpec)) pathOfCard

/-- THE TIED CARD OF 'cascadelaw06.PathThird'. -/
def pathThirdCard : Claim7 := { stood := { row := pathThirdRow, standIns := [], harness := (true, "01668c4164516aeee4ce27b02f257b7713c71174cd40aecc99026d6119a7bcf5"), looks := false }, kinds := [], alts := [], laidByText := true, laidKinds := [.data, .pinned], laidTests := true, laidLooks := .later }
def PathThirdCardSaid : Prop := Claim7.holds Tryd.pinned (.plain (OpenSpec.ofChange pathThirdSpec)) pathThirdCard

/-- THE TIED CARD OF 'cascadelaw06.PathFinds'. -/
def pathFindsCard : Claim7 := { stood := { row := pathFindsRow, standIns := [], harness := (true, "01668c4164516aeee4ce27b02f257b7713c71174cd40aecc99026d6119a7bcf5"), looks := false }, kinds := [], alts := [], laidByText := true, laidKinds := [.data, .pinned], laidTests := true, laidLooks := .later }
def PathFindsCardSaid : Prop := Claim7.holds Tryd.pinned (.plain (OpenSpec.ofChange pathFindsSpec)) pathFindsCard

/-- THE TIED CARD OF 'cascadelaw06.PathPuts'. -/
def pathPutsCard : Claim7 := { stood := { row := pathPutsRow, standIns := [], harness := (true, "01668c4164516aeee4ce27b02f257b7713c71174cd40aecc99026d6119a7bcf5"), looks := false }, kinds := [], alts := [], laidByText := true, laidKinds := [.data, .pinned], laidTests := true, laidLooks := .later }
def PathPutsCardSaid : Prop := Claim7.holds Tryd.pinned (.plain (OpenSpec.ofChange pathPutsSpec)) pathPutsCard

/-- THE TIED CARD OF 'cascadelaw06.PathKeeps'. -/
def pathKeepsCard : Claim7 := { stood := { row := pathKeepsRow, standIns := [], harness := (true, "01668c4164516aeee4ce27b02f257b7713c71174cd40aecc99026d6119a7bcf5"), looks := false }, kinds := [], alts := [], laidByText := true, laidKinds := [.data, .pinned], laidTests := true, laidLooks := .later }
def PathKeepsCardSaid : Prop := Claim7.holds Tryd.pinned (.plain (OpenSpec.ofChange pathKeepsSpec)) pathKeepsCard

/-- THE TIED CARD OF 'cascadelaw06.PathAdds'. -/
def pathAddsCard : Claim7 := { stood := { row := pathAddsRow, standIns := [], harness := (true, "01668c4164516aeee4ce27b02f257b7713c71174cd40aecc99026d6119a7bcf5"), looks := false }, kinds := [], alts := [], laidByText := true, laidKinds := [.data, .pinned], laidTests := true, laidLooks := .later }
def PathAddsCardSaid : Prop := Claim7.holds Tryd.pinned (.plain (OpenSpec.ofChange pathAddsSpec)) pathAddsCard

/-- THE TIED CARD OF 'cascadelaw06.PathMerges'. -/
def pathMergesCard : Claim7 := { stood := { row := pathMergesRow, standIns := [], harness := (true, "01668c4164516aeee4ce27b02f257b7713c71174cd40aecc99026d6119a7bcf5"), looks := false }, kinds := [], alts := [], laidByText := true, laidKinds := [.data, .pinned], laidTests := true, laidLooks := .later }
def PathMergesCardSaid : Prop := Claim7.holds Tryd.pinned (.plain (OpenSpec.ofChange pathMergesSpec)) pathMergesCard

/-- THE TIED CARD OF 'cascadelaw07.BlockIndents'. -/
def blockIndentsCard : Claim7 := { stood := { row := blockIndentsRow, standIns := [], harness := (true, "01668c4164516aeee4ce27b02f257b7713c71174cd40aecc99026d6119a7bcf5"), looks := false }, kinds := [], alts := [], laidByText := true, laidKinds := [.data, .pinned], laidTests := true, laidLooks := .later }
def BlockIndentsCardSaid : Prop := Claim7.holds Tryd.pinned (.plain (OpenSpec.ofChange blockIndentsSpec)) blockIndentsCard

/-- THE TIED CARD OF 'cascadelaw07.BlockValues'. -/
def blockValuesCard : Claim7 := { stood := { row := blockValuesRow, standIns := [], harness := (true, "01668c4164516aeee4ce27b02f257b7713c71174cd40aecc99026d6119a7bcf5"), looks := false }, kinds := [], alts := [], laidByText := true, laidKinds := [.data, .pinned], laidTests := true, laidLooks := .later }
def BlockValuesCardSaid : Prop := Claim7.holds Tryd.pinned (.plain (OpenSpec.ofChange blockValuesSpec)) blockValuesCard

/-- THE TIED CARD OF 'cascadelaw07.BlockClean'. -/
def blockCleanCard : Claim7 := { stood := { row := blockCleanRow, standIns := [], harness := (true, "01668c4164516aeee4ce27b02f257b7713c71174cd40aecc99026d6119a7bcf5"), looks := false }, kinds := [], alts := [], laidByText := true, laidKinds := [.data, .pinned], laidTests := true, laidLooks := .later }
def BlockCleanCardSaid : Prop := Claim7.holds Tryd.pinned (.plain (OpenSpec.ofChange blockCleanSpec)) blockCleanCard

/-- THE TIED CARD OF 'cascadelaw07.BlockRaws'. -/
def blockRawsCard : Claim7 := { stood := { row := blockRawsRow, standIns := [], harness := (true, "01668c4164516aeee4ce27b02f257b7713c71174cd40aecc99026d6119a7bcf5"), looks := false }, kinds := [], alts := [], laidByText := true, laidKinds := [.data, .pinned], laidTests := true, laidLooks := .later }
def BlockRawsCardSaid : Prop := Claim7.holds Tryd.pinned (.plain (OpenSpec.ofChange blockRawsSpec)) blockRawsCard

/-- THE SECOND FORM's CARD OF 'cascadelaw06.PathRight'. -/
def pathRightUptoCard : Claim7 := { stood := { row := pathRightUptoRow, standIns := [], harness := (true, "01668c4164516aeee4ce27b02f257b7713c71174cd40aecc99026d6119a7bcf5"), looks := false }, kinds := [], alts := [], laidByText := true, laidKinds := [.data, .pinned], laidTests := true, laidLooks := .later }
def PathRightUptoCardSaid : Prop := Claim7.holds Tryd.pinned (.plain (OpenSpec.upto pathRightSpec)) pathRightUptoCard

/-- THE SECOND FORM's CARD OF 'cascadelaw06.PathOf'. -/
def pathOfUptoCard : Claim7 := { stood := { row := pathOfUptoRow, standIns := [], harness := (true, "01668c4164516aeee4ce27b02f257b7713c71174cd40aecc99026d6119a7bcf5"), looks := false }, kinds := [], alts := [], laidByText := true, laidKinds := [.data, .pinned], laidTests := true, laidLooks := .later }
def PathOfUptoCardSaid : Prop := Claim7.holds Tryd.pinned (.plain (OpenSpec.upto pathOfSpec)) pathOfUptoCard

/-- THE SECOND FORM's CARD OF 'cascadelaw06.PathThird'. -/
def pathThirdUptoCard : Claim7 := { stood := { row := pathThirdUptoRow, standIns := [], harness := (true, "01668c4164516aeee4ce27b02f257b7713c71174cd40aecc99026d6119a7bcf5"), looks := false }, kinds := [], alts := [], laidByText := true, laidKinds := [.data, .pinned], laidTests := true, laidLooks := .later }
def PathThirdUptoCardSaid : Prop := Claim7.holds Tryd.pinned (.plain (OpenSpec.upto pathThirdSpec)) pathThirdUptoCard

/-- THE SECOND FORM's CARD OF 'cascadelaw06.PathFinds'. -/
def pathFindsUptoCard : Claim7 := { stood := { row := pathFindsUptoRow, standIns := [], harness := (true, "01668c4164516aeee4ce27b02f257b7713c71174cd40aecc99026d6119a7bcf5"), looks := false }, kinds := [], alts := [], laidByText := true, laidKinds := [.data, .pinned], laidTests := true, laidLooks := .later }
def PathFindsUptoCardSaid : Prop := Claim7.holds Tryd.pinned (.plain (OpenSpec.upto pathFindsSpec)) pathFindsUptoCard

/-- THE SECOND FORM's CARD OF 'cascadelaw06.PathPuts'. -/
def pathPutsUptoCard : Claim7 := { stood := { row := pathPutsUptoRow, standIns := [], harness := (true, "01668c4164516aeee4ce27b02f257b7713c71174cd40aecc99026d6119a7bcf5"), looks := false }, kinds := [], alts := [], laidByText := true, laidKinds := [.data, .pinned], laidTests := true, laidLooks := .later }
def PathPutsUptoCardSaid : Prop := Claim7.holds Tryd.pinned (.plain (OpenSpec.upto pathPutsSpec)) pathPutsUptoCard

/-- THE SECOND FORM's CARD OF 'cascadelaw06.PathKeeps'. -/
def pathKeepsUptoCard : Claim7 := { stood := { row := pathKeepsUptoRow, standIns := [], harness := (true, "01668c4164516aeee4ce27b02f257b7713c71174cd40aecc99026d6119a7bcf5"), looks := false }, kinds := [], alts := [], laidByText := true, laidKinds := [.data, .pinned], laidTests := true, laidLooks := .later }
def PathKeepsUptoCardSaid : Prop := Claim7.holds Tryd.pinned (.plain (OpenSpec.upto pathKeepsSpec)) pathKeepsUptoCard

/-- THE SECOND FORM's CARD OF 'cascadelaw06.PathAdds'. -/
def pathAddsUptoCard : Claim7 := { stood := { row := pathAddsUptoRow, standIns := [], harness := (true, "01668c4164516aeee4ce27b02f257b7713c71174cd40aecc99026d6119a7bcf5"), looks := false }, kinds := [], alts := [], laidByText := true, laidKinds := [.data, .pinned], laidTests := true, laidLooks := .later }
def PathAddsUptoCardSaid : Prop := Claim7.holds Tryd.pinned (.plain (OpenSpec.upto pathAddsSpec)) pathAddsUptoCard

/-- THE SECOND FORM's CARD OF 'cascadelaw06.PathMerges'. -/
def pathMergesUptoCard : Claim7 := { stood := { row := pathMergesUptoRow, standIns := [], harness := (true, "01668c4164516aeee4ce27b02f257b7713c71174cd40aecc99026d6119a7bcf5"), looks := false }, kinds := [], alts := [], laidByText := true, laidKinds := [.data, .pinned], laidTests := true, laidLooks := .later }
def PathMergesUptoCardSaid : Prop := Claim7.holds Tryd.pinned (.plain (OpenSpec.upto pathMergesSpec)) pathMergesUptoCard

/-- THE SECOND FORM's CARD OF 'cascadelaw07.BlockIndents'. -/
def blockIndentsUptoCard : Claim7 := { stood := { row := blockIndentsUptoRow, standIns := [], harness := (true, "01668c4164516aeee4ce27b02f257b7713c71174cd40aecc99026d6119a7bcf5"), looks := false }, kinds := [], alts := [], laidByText := true, laidKinds := [.data, .pinned], laidTests := true, laidLooks := .later }
def BlockIndentsUptoCardSaid : Prop := Claim7.holds Tryd.pinned (.plain (OpenSpec.upto blockIndentsSpec)) blockIndentsUptoCard

/-- THE SECOND FORM's CARD OF 'cascadelaw07.BlockValues'. -/
def blockValuesUptoCard : Claim7 := { stood := { row := blockValuesUptoRow, standIns := [], harness := (true, "01668c4164516aeee4ce27b02f257b7713c71174cd40aecc99026d6119a7bcf5"), looks := false }, kinds := [], alts := [], laidByText := true, laidKinds := [.data, .pinned], laidTests := true, laidLooks := .later }
def BlockValuesUptoCardSaid : Prop := Claim7.holds Tryd.pinned (.plain (OpenSpec.upto blockValuesSpec)) blockValuesUptoCard

/-- THE SECOND FORM's CARD OF 'cascadelaw07.BlockClean'. -/
def blockCleanUptoCard : Claim7 := { stood := { row := blockCleanUptoRow, standIns := [], harness := (true, "01668c4164516aeee4ce27b02f257b7713c71174cd40aecc99026d6119a7bcf5"), looks := false }, kinds := [], alts := [], laidByText := true, laidKinds := [.data, .pinned], laidTests := true, laidLooks := .later }
def BlockCleanUptoCardSaid : Prop := Claim7.holds Tryd.pinned (.plain (OpenSpec.upto blockCleanSpec)) blockCleanUptoCard

/-- THE SECOND FORM's CARD OF 'cascadelaw07.BlockRaws'. -/
def blockRawsUptoCard : Claim7 := { stood := { row := blockRawsUptoRow, standIns := [], harness := (true, "01668c4164516aeee4ce27b02f257b7713c71174cd40aecc99026d6119a7bcf5"), looks := false }, kinds := [], alts := [], laidByText := true, laidKinds := [.data, .pinned], laidTests := true, laidLooks := .later }
def BlockRawsUptoCardSaid : Prop := Claim7.holds Tryd.pinned (.plain (OpenSpec.upto blockRawsSpec)) blockRawsUptoCard
end Rows
end Go.Proofs.YtacabmodmbcldaaDoor
