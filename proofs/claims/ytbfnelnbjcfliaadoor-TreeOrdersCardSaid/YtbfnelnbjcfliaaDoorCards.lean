/-
  DERIVED. GIVEN WITH THE SEED: THE CARDS: each row of YtbfnelnbjcfliaaDoorRows.lean that lists a variable, with what it lists TIED to the program's text (the seventh form; the later family's looks); each row that meets fmt, with fmt's text TOLD by the authors' own Lean function (tested against real Go, not proved from fmt's source: count such statements apart). THE CARD IS WHAT COUNTS. Prove the row's statement (the work); the ties are given (YtbfnelnbjcfliaaDoorTie.lean); close each card by the builder's one call (the guide's Derived/Test/ToyasCard.lean, 'card_holds'). Laid BY PROGRAM, IN A SANDBOX (cutbox-door.mjs). By AI agents, Wed Nov 11 2026. No macro, syntax, notation, axiom, sorry.
-/
import Derived.Test.YtbfnelnbjcfliaaDoorRows
import GoSem.ClaimSeven
namespace Go.Proofs.YtbfnelnbjcfliaaDoor
namespace Rows

/-- THE TIED CARD OF 'cascadelaw03.TreeRight'. -/
def treeRightCard : Claim7 := { stood := { row := treeRightRow, standIns := [], harness := (true, "aeba891bface5d9235e3912a4ad5f3258dd29de03567d2e114675c7d2f0792f2"), looks := true }, kinds := [], alts := [], laidByText := true, laidKinds := [.data, .pinned], laidTests := true, laidLooks := .later }
def TreeRightCardSaid : Prop := Claim7.holds Tryd.pinned (.plain (OpenSpec.ofChange treeRightSpec)) treeRightCard

/-- THE TIED CARD OF 'cascadelaw03.TreeGets'. -/
def treeGetsCard : Claim7 := { stood := { row := treeGetsRow, standIns := [], harness := (true, "aeba891bface5d9235e3912a4ad5f3258dd29de03567d2e114675c7d2f0792f2"), looks := true }, kinds := [], alts := [], laidByText := true, laidKinds := [.data, .pinned], laidTests := true, laidLooks := .later }
def TreeGetsCardSaid : Prop := Claim7.holds Tryd.pinned (.plain (OpenSpec.ofChange treeGetsSpec)) treeGetsCard

/-- THE TIED CARD OF 'cascadelaw03.TreeWith'. -/
def treeWithCard : Claim7 := { stood := { row := treeWithRow, standIns := [], harness := (true, "aeba891bface5d9235e3912a4ad5f3258dd29de03567d2e114675c7d2f0792f2"), looks := true }, kinds := [], alts := [], laidByText := true, laidKinds := [.data, .pinned], laidTests := true, laidLooks := .later }
def TreeWithCardSaid : Prop := Claim7.holds Tryd.pinned (.plain (OpenSpec.ofChange treeWithSpec)) treeWithCard

/-- THE TIED CARD OF 'cascadelaw03.TreeSame'. -/
def treeSameCard : Claim7 := { stood := { row := treeSameRow, standIns := [], harness := (true, "aeba891bface5d9235e3912a4ad5f3258dd29de03567d2e114675c7d2f0792f2"), looks := true }, kinds := [], alts := [], laidByText := true, laidKinds := [.data, .pinned], laidTests := true, laidLooks := .later }
def TreeSameCardSaid : Prop := Claim7.holds Tryd.pinned (.plain (OpenSpec.ofChange treeSameSpec)) treeSameCard

/-- THE TIED CARD OF 'cascadelaw04.DynFrom'. -/
def dynFromCard : Claim7 := { stood := { row := dynFromRow, standIns := [], harness := (true, "aeba891bface5d9235e3912a4ad5f3258dd29de03567d2e114675c7d2f0792f2"), looks := true }, kinds := [], alts := [], laidByText := true, laidKinds := [.data, .pinned], laidTests := true, laidLooks := .later }
def DynFromCardSaid : Prop := Claim7.holds Tryd.pinned (.plain (OpenSpec.ofChange dynFromSpec)) dynFromCard

/-- THE TIED CARD OF 'cascadelaw04.DynTo'. -/
def dynToCard : Claim7 := { stood := { row := dynToRow, standIns := [], harness := (true, "aeba891bface5d9235e3912a4ad5f3258dd29de03567d2e114675c7d2f0792f2"), looks := true }, kinds := [], alts := [], laidByText := true, laidKinds := [.data, .pinned], laidTests := true, laidLooks := .later }
def DynToCardSaid : Prop := Claim7.holds Tryd.pinned (.plain (OpenSpec.ofChange dynToSpec)) dynToCard

/-- THE TIED CARD OF 'cascadelaw04.DynGoes'. -/
def dynGoesCard : Claim7 := { stood := { row := dynGoesRow, standIns := [], harness := (true, "aeba891bface5d9235e3912a4ad5f3258dd29de03567d2e114675c7d2f0792f2"), looks := true }, kinds := [], alts := [], laidByText := true, laidKinds := [.data, .pinned], laidTests := true, laidLooks := .later }
def DynGoesCardSaid : Prop := Claim7.holds Tryd.pinned (.plain (OpenSpec.ofChange dynGoesSpec)) dynGoesCard

/-- THE TIED CARD OF 'cascadelaw03.TreeOwn'. -/
def treeOwnCard : Claim7 := { stood := { row := treeOwnRow, standIns := [], harness := (true, "aeba891bface5d9235e3912a4ad5f3258dd29de03567d2e114675c7d2f0792f2"), looks := true }, kinds := [], alts := [], laidByText := true, laidKinds := [.data, .pinned], laidTests := true, laidLooks := .later }
def TreeOwnCardSaid : Prop := Claim7.holds Tryd.pinned (.plain (OpenSpec.ofChange treeOwnSpec)) treeOwnCard

/-- THE TIED CARD OF 'cascadelaw03.TreeOrders'. -/
def treeOrdersCard : Claim7 := { stood := { row := treeOrdersRow, standIns := [], harness := (true, "aeba891bface5d9235e3912a4ad5f3258dd29de03567d2e114675c7d2f0792f2"), looks := true }, kinds := [], alts := [], laidByText := true, laidKinds := [.data, .pinned], laidTests := true, laidLooks := .later }
def TreeOrdersCardSaid : Prop := Claim7.holds Tryd.pinned (.plain (OpenSpec.ofChange treeOrdersSpec)) treeOrdersCard

/-- THE SECOND FORM's CARD OF 'cascadelaw03.TreeRight'. -/
def treeRightUptoCard : Claim7 := { stood := { row := treeRightUptoRow, standIns := [], harness := (true, "aeba891bface5d9235e3912a4ad5f3258dd29de03567d2e114675c7d2f0792f2"), looks := true }, kinds := [], alts := [], laidByText := true, laidKinds := [.data, .pinned], laidTests := true, laidLooks := .later }
def TreeRightUptoCardSaid : Prop := Claim7.holds Tryd.pinned (.plain (OpenSpec.upto treeRightSpec)) treeRightUptoCard

/-- THE SECOND FORM's CARD OF 'cascadelaw03.TreeGets'. -/
def treeGetsUptoCard : Claim7 := { stood := { row := treeGetsUptoRow, standIns := [], harness := (true, "aeba891bface5d9235e3912a4ad5f3258dd29de03567d2e114675c7d2f0792f2"), looks := true }, kinds := [], alts := [], laidByText := true, laidKinds := [.data, .pinned], laidTests := true, laidLooks := .later }
def TreeGetsUptoCardSaid : Prop := Claim7.holds Tryd.pinned (.plain (OpenSpec.upto treeGetsSpec)) treeGetsUptoCard

/-- THE SECOND FORM's CARD OF 'cascadelaw03.TreeWith'. -/
def treeWithUptoCard : Claim7 := { stood := { row := treeWithUptoRow, standIns := [], harness := (true, "aeba891bface5d9235e3912a4ad5f3258dd29de03567d2e114675c7d2f0792f2"), looks := true }, kinds := [], alts := [], laidByText := true, laidKinds := [.data, .pinned], laidTests := true, laidLooks := .later }
def TreeWithUptoCardSaid : Prop := Claim7.holds Tryd.pinned (.plain (OpenSpec.upto treeWithSpec)) treeWithUptoCard

/-- THE SECOND FORM's CARD OF 'cascadelaw03.TreeSame'. -/
def treeSameUptoCard : Claim7 := { stood := { row := treeSameUptoRow, standIns := [], harness := (true, "aeba891bface5d9235e3912a4ad5f3258dd29de03567d2e114675c7d2f0792f2"), looks := true }, kinds := [], alts := [], laidByText := true, laidKinds := [.data, .pinned], laidTests := true, laidLooks := .later }
def TreeSameUptoCardSaid : Prop := Claim7.holds Tryd.pinned (.plain (OpenSpec.upto treeSameSpec)) treeSameUptoCard

/-- THE SECOND FORM's CARD OF 'cascadelaw04.DynFrom'. -/
def dynFromUptoCard : Claim7 := { stood := { row := dynFromUptoRow, standIns := [], harness := (true, "aeba891bface5d9235e3912a4ad5f3258dd29de03567d2e114675c7d2f0792f2"), looks := true }, kinds := [], alts := [], laidByText := true, laidKinds := [.data, .pinned], laidTests := true, laidLooks := .later }
def DynFromUptoCardSaid : Prop := Claim7.holds Tryd.pinned (.plain (OpenSpec.upto dynFromSpec)) dynFromUptoCard

/-- THE SECOND FORM's CARD OF 'cascadelaw04.DynTo'. -/
def dynToUptoCard : Claim7 := { stood := { row := dynToUptoRow, standIns := [], harness := (true, "aeba891bface5d9235e3912a4ad5f3258dd29de03567d2e114675c7d2f0792f2"), looks := true }, kinds := [], alts := [], laidByText := true, laidKinds := [.data, .pinned], laidTests := true, laidLooks := .later }
def DynToUptoCardSaid : Prop := Claim7.holds Tryd.pinned (.plain (OpenSpec.upto dynToSpec)) dynToUptoCard

/-- THE SECOND FORM's CARD OF 'cascadelaw04.DynGoes'. -/
def dynGoesUptoCard : Claim7 := { stood := { row := dynGoesUptoRow, standIns := [], harness := (true, "aeba891bface5d9235e3912a4ad5f3258dd29de03567d2e114675c7d2f0792f2"), looks := true }, kinds := [], alts := [], laidByText := true, laidKinds := [.data, .pinned], laidTests := true, laidLooks := .later }
def DynGoesUptoCardSaid : Prop := Claim7.holds Tryd.pinned (.plain (OpenSpec.upto dynGoesSpec)) dynGoesUptoCard

/-- THE SECOND FORM's CARD OF 'cascadelaw03.TreeOwn'. -/
def treeOwnUptoCard : Claim7 := { stood := { row := treeOwnUptoRow, standIns := [], harness := (true, "aeba891bface5d9235e3912a4ad5f3258dd29de03567d2e114675c7d2f0792f2"), looks := true }, kinds := [], alts := [], laidByText := true, laidKinds := [.data, .pinned], laidTests := true, laidLooks := .later }
def TreeOwnUptoCardSaid : Prop := Claim7.holds Tryd.pinned (.plain (OpenSpec.upto treeOwnSpec)) treeOwnUptoCard

/-- THE SECOND FORM's CARD OF 'cascadelaw03.TreeOrders'. -/
def treeOrdersUptoCard : Claim7 := { stood := { row := treeOrdersUptoRow, standIns := [], harness := (true, "aeba891bface5d9235e3912a4ad5f3258dd29de03567d2e114675c7d2f0792f2"), looks := true }, kinds := [], alts := [], laidByText := true, laidKinds := [.data, .pinned], laidTests := true, laidLooks := .later }
def TreeOrdersUptoCardSaid : Prop := Claim7.holds Tryd.pinned (.plain (OpenSpec.upto treeOrdersSpec)) treeOrdersUptoCard
end Rows
end Go.Proofs.YtbfnelnbjcfliaaDoor
