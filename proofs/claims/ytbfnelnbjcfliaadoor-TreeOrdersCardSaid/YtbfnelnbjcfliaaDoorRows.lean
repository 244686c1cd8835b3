/-
  NARROWER THAN 'FOR EVERY INPUT', by the rows' own cells (each row's printed sentence says how): TreeRight: loops, laid · TreeGets: loops, laid · TreeWith: loops, laid · TreeSame: loops, laid · DynFrom: loops, laid · DynTo: loops, laid · DynGoes: loops, laid · TreeOwn: loops, laid · TreeOrders: loops, laid.
  DERIVED. THE GIVEN ROWS OF THIS SEAT. 9 by the template 'for every input the law returns true; each argument reads behind the call as it read before'; 0 by the template 'total and deterministic' (their statements: YtbfnelnbjcfliaaDoorTotals.lean).
  GIVEN WITH THE SEED: the statements are not yours to turn. If you find one false, say at which input.
  Laid BY PROGRAM, IN A SANDBOX (cutbox-rows.mjs): the forced cells as the released guide's own fill.sh prints them over the translation 604073bebd2d4b2f… (all of the seat's roots in one cut). By AI agents, Wed Nov 11 2026. No macro, syntax, notation, axiom, sorry.
-/
import Derived.Test.YtbfnelnbjcfliaaDoorChecked
import GoSem.PinnedTables
import GoSem.Claim
import GoSem.ClaimJoined
import GoSem.ClaimMapViews
import Derived.JoinedTies
import Derived.KernelRfl
namespace Go.Proofs.YtbfnelnbjcfliaaDoor
/- THE CELL 'sum', in the pinned program and in every row, IS THE sha256 OF THE DUMP (.gsa) THAT YtbfnelnbjcfliaaDoorProg.lean LOADS. Nothing in Lean hashes anything: it is a label: what it is worth is what the hold of that sum in a sandbox is worth. -/
noncomputable def Tryd.pinned : Pinned := { name := "ytbfnelnbjcfliaadoor", sum := "604073bebd2d4b2fefd8bbd413acf7b6f96db5ac658cb562b4e1cc2efd8f82cf", checked := Tryd.checked }
namespace Rows
def none {H : Type} : Left H := { results := [], args := [] }

/- WHAT THE LISTED PACKAGE-LEVEL VARIABLES READ AS WHEN THE CALL BEGINS. Each datum BY PROGRAM (the guide's laid-datum.mjs) off the statement by which the dump's own 'gosem.cut.vars' lays the variable. In a bare row this is a premise. The card (YtbfnelnbjcfliaaDoorCards.lean) ties it to the program's text. -/
def laid_unicode_utf8_acceptRanges {H : Type} : DataW H := .agg [.agg [.lit (.int .u8 128), .lit (.int .u8 191)], .agg [.lit (.int .u8 160), .lit (.int .u8 191)], .agg [.lit (.int .u8 128), .lit (.int .u8 159)], .agg [.lit (.int .u8 144), .lit (.int .u8 191)], .agg [.lit (.int .u8 128), .lit (.int .u8 143)], .agg [.lit (.int .u8 0), .lit (.int .u8 0)], .agg [.lit (.int .u8 0), .lit (.int .u8 0)], .agg [.lit (.int .u8 0), .lit (.int .u8 0)], .agg [.lit (.int .u8 0), .lit (.int .u8 0)], .agg [.lit (.int .u8 0), .lit (.int .u8 0)], .agg [.lit (.int .u8 0), .lit (.int .u8 0)], .agg [.lit (.int .u8 0), .lit (.int .u8 0)], .agg [.lit (.int .u8 0), .lit (.int .u8 0)], .agg [.lit (.int .u8 0), .lit (.int .u8 0)], .agg [.lit (.int .u8 0), .lit (.int .u8 0)], .agg [.lit (.int .u8 0), .lit (.int .u8 0)]]
/-- One of Go's own tables, pinned by name: the form's constant. -/
def laid_unicode_utf8_first : DataW Unit := Go.Pinned.utf8First

/-- 'cascadelaw03.TreeRight': WHATEVER THE INPUT: true; the input reads as it did. -/
def treeRightSpec : ChangeSpec := { name := "treeRight", fn := fun _ => fun
  | [d] => { results := [.lit (.bool true)], args := [d] }
  | _ => none }
def treeRightRow : OpenClaim := { program := "ytbfnelnbjcfliaadoor", sum := "604073bebd2d4b2fefd8bbd413acf7b6f96db5ac658cb562b4e1cc2efd8f82cf", func := "cascade/cascadelaw03.TreeRight", spec := "treeRight", unfollowed := true, recurses := true, named := ["unicode/utf8.first", "unicode/utf8.acceptRanges"], loops := true, apart := false, laid := [("unicode/utf8.acceptRanges", laid_unicode_utf8_acceptRanges), ("unicode/utf8.first", laid_unicode_utf8_first)] }
def TreeRightSaid : Prop := treeRightRow.holds Tryd.pinned (OpenSpec.ofChange treeRightSpec)

/-- ITS FALSE NEIGHBOUR: 'it returns false'. Refute it at one input. -/
def treeRightWrong : ChangeSpec := { name := "treeRight", fn := fun _ => fun
  | [d] => { results := [.lit (.bool false)], args := [d] }
  | _ => none }
def TreeRightWrongFalsely : Prop := treeRightRow.holds Tryd.pinned (OpenSpec.ofChange treeRightWrong)

/-- 'cascadelaw03.TreeGets': WHATEVER THE INPUT: true; the input reads as it did. -/
def treeGetsSpec : ChangeSpec := { name := "treeGets", fn := fun _ => fun
  | [d1, d2] => { results := [.lit (.bool true)], args := [d1, d2] }
  | _ => none }
def treeGetsRow : OpenClaim := { program := "ytbfnelnbjcfliaadoor", sum := "604073bebd2d4b2fefd8bbd413acf7b6f96db5ac658cb562b4e1cc2efd8f82cf", func := "cascade/cascadelaw03.TreeGets", spec := "treeGets", unfollowed := true, recurses := true, named := ["unicode/utf8.first", "unicode/utf8.acceptRanges"], loops := true, apart := false, laid := [("unicode/utf8.acceptRanges", laid_unicode_utf8_acceptRanges), ("unicode/utf8.first", laid_unicode_utf8_first)] }
def TreeGetsSaid : Prop := treeGetsRow.holds Tryd.pinned (OpenSpec.ofChange treeGetsSpec)

/-- ITS FALSE NEIGHBOUR: 'it returns false'. Refute it at one input. -/
def treeGetsWrong : ChangeSpec := { name := "treeGets", fn := fun _ => fun
  | [d1, d2] => { results := [.lit (.bool false)], args := [d1, d2] }
  | _ => none }
def TreeGetsWrongFalsely : Prop := treeGetsRow.holds Tryd.pinned (OpenSpec.ofChange treeGetsWrong)

/-- 'cascadelaw03.TreeWith': WHATEVER THE INPUT: true; the input reads as it did. -/
def treeWithSpec : ChangeSpec := { name := "treeWith", fn := fun _ => fun
  | [d1, d2, d3] => { results := [.lit (.bool true)], args := [d1, d2, d3] }
  | _ => none }
def treeWithRow : OpenClaim := { program := "ytbfnelnbjcfliaadoor", sum := "604073bebd2d4b2fefd8bbd413acf7b6f96db5ac658cb562b4e1cc2efd8f82cf", func := "cascade/cascadelaw03.TreeWith", spec := "treeWith", unfollowed := true, recurses := true, named := ["unicode/utf8.first", "unicode/utf8.acceptRanges"], loops := true, apart := false, laid := [("unicode/utf8.acceptRanges", laid_unicode_utf8_acceptRanges), ("unicode/utf8.first", laid_unicode_utf8_first)] }
def TreeWithSaid : Prop := treeWithRow.holds Tryd.pinned (OpenSpec.ofChange treeWithSpec)

/-- ITS FALSE NEIGHBOUR: 'it returns false'. Refute it at one input. -/
def treeWithWrong : ChangeSpec := { name := "treeWith", fn := fun _ => fun
  | [d1, d2, d3] => { results := [.lit (.bool false)], args := [d1, d2, d3] }
  | _ => none }
def TreeWithWrongFalsely : Prop := treeWithRow.holds Tryd.pinned (OpenSpec.ofChange treeWithWrong)

/-- 'cascadelaw03.TreeSame': WHATEVER THE INPUT: true; the input reads as it did. -/
def treeSameSpec : ChangeSpec := { name := "treeSame", fn := fun _ => fun
  | [d1, d2] => { results := [.lit (.bool true)], args := [d1, d2] }
  | _ => none }
def treeSameRow : OpenClaim := { program := "ytbfnelnbjcfliaadoor", sum := "604073bebd2d4b2fefd8bbd413acf7b6f96db5ac658cb562b4e1cc2efd8f82cf", func := "cascade/cascadelaw03.TreeSame", spec := "treeSame", unfollowed := true, recurses := true, named := ["unicode/utf8.first", "unicode/utf8.acceptRanges"], loops := true, apart := false, laid := [("unicode/utf8.acceptRanges", laid_unicode_utf8_acceptRanges), ("unicode/utf8.first", laid_unicode_utf8_first)] }
def TreeSameSaid : Prop := treeSameRow.holds Tryd.pinned (OpenSpec.ofChange treeSameSpec)

/-- ITS FALSE NEIGHBOUR: 'it returns false'. Refute it at one input. -/
def treeSameWrong : ChangeSpec := { name := "treeSame", fn := fun _ => fun
  | [d1, d2] => { results := [.lit (.bool false)], args := [d1, d2] }
  | _ => none }
def TreeSameWrongFalsely : Prop := treeSameRow.holds Tryd.pinned (OpenSpec.ofChange treeSameWrong)

/-- 'cascadelaw04.DynFrom': WHATEVER THE INPUT: true; the input reads as it did. -/
def dynFromSpec : ChangeSpec := { name := "dynFrom", fn := fun _ => fun
  | [d] => { results := [.lit (.bool true)], args := [d] }
  | _ => none }
def dynFromRow : OpenClaim := { program := "ytbfnelnbjcfliaadoor", sum := "604073bebd2d4b2fefd8bbd413acf7b6f96db5ac658cb562b4e1cc2efd8f82cf", func := "cascade/cascadelaw04.DynFrom", spec := "dynFrom", unfollowed := true, recurses := true, named := ["unicode/utf8.first", "unicode/utf8.acceptRanges"], loops := true, apart := false, laid := [("unicode/utf8.acceptRanges", laid_unicode_utf8_acceptRanges), ("unicode/utf8.first", laid_unicode_utf8_first)] }
def DynFromSaid : Prop := dynFromRow.holds Tryd.pinned (OpenSpec.ofChange dynFromSpec)

/-- ITS FALSE NEIGHBOUR: 'it returns false'. Refute it at one input. -/
def dynFromWrong : ChangeSpec := { name := "dynFrom", fn := fun _ => fun
  | [d] => { results := [.lit (.bool false)], args := [d] }
  | _ => none }
def DynFromWrongFalsely : Prop := dynFromRow.holds Tryd.pinned (OpenSpec.ofChange dynFromWrong)

/-- 'cascadelaw04.DynTo': WHATEVER THE INPUT: true; the input reads as it did. -/
def dynToSpec : ChangeSpec := { name := "dynTo", fn := fun _ => fun
  | [d] => { results := [.lit (.bool true)], args := [d] }
  | _ => none }
def dynToRow : OpenClaim := { program := "ytbfnelnbjcfliaadoor", sum := "604073bebd2d4b2fefd8bbd413acf7b6f96db5ac658cb562b4e1cc2efd8f82cf", func := "cascade/cascadelaw04.DynTo", spec := "dynTo", unfollowed := true, recurses := true, named := ["unicode/utf8.first", "unicode/utf8.acceptRanges"], loops := true, apart := false, laid := [("unicode/utf8.acceptRanges", laid_unicode_utf8_acceptRanges), ("unicode/utf8.first", laid_unicode_utf8_first)] }
def DynToSaid : Prop := dynToRow.holds Tryd.pinned (OpenSpec.ofChange dynToSpec)

/-- ITS FALSE NEIGHBOUR: 'it returns false'. Refute it at one input. -/
def dynToWrong : ChangeSpec := { name := "dynTo", fn := fun _ => fun
  | [d] => { results := [.lit (.bool false)], args := [d] }
  | _ => none }
def DynToWrongFalsely : Prop := dynToRow.holds Tryd.pinned (OpenSpec.ofChange dynToWrong)

/-- 'cascadelaw04.DynGoes': WHATEVER THE INPUT: true; the input reads as it did. -/
def dynGoesSpec : ChangeSpec := { name := "dynGoes", fn := fun _ => fun
  | [d1, d2] => { results := [.lit (.bool true)], args := [d1, d2] }
  | _ => none }
def dynGoesRow : OpenClaim := { program := "ytbfnelnbjcfliaadoor", sum := "604073bebd2d4b2fefd8bbd413acf7b6f96db5ac658cb562b4e1cc2efd8f82cf", func := "cascade/cascadelaw04.DynGoes", spec := "dynGoes", unfollowed := true, recurses := true, named := ["unicode/utf8.first", "unicode/utf8.acceptRanges"], loops := true, apart := false, laid := [("unicode/utf8.acceptRanges", laid_unicode_utf8_acceptRanges), ("unicode/utf8.first", laid_unicode_utf8_first)] }
def DynGoesSaid : Prop := dynGoesRow.holds Tryd.pinned (OpenSpec.ofChange dynGoesSpec)

/-- ITS FALSE NEIGHBOUR: 'it returns false'. Refute it at one input. -/
def dynGoesWrong : ChangeSpec := { name := "dynGoes", fn := fun _ => fun
  | [d1, d2] => { results := [.lit (.bool false)], args := [d1, d2] }
  | _ => none }
def DynGoesWrongFalsely : Prop := dynGoesRow.holds Tryd.pinned (OpenSpec.ofChange dynGoesWrong)

/-- 'cascadelaw03.TreeOwn': WHATEVER THE INPUT: true; the input reads as it did. -/
def treeOwnSpec : ChangeSpec := { name := "treeOwn", fn := fun _ => fun
  | [d1, d2] => { results := [.lit (.bool true)], args := [d1, d2] }
  | _ => none }
def treeOwnRow : OpenClaim := { program := "ytbfnelnbjcfliaadoor", sum := "604073bebd2d4b2fefd8bbd413acf7b6f96db5ac658cb562b4e1cc2efd8f82cf", func := "cascade/cascadelaw03.TreeOwn", spec := "treeOwn", unfollowed := true, recurses := true, named := ["unicode/utf8.first", "unicode/utf8.acceptRanges"], loops := true, apart := false, laid := [("unicode/utf8.acceptRanges", laid_unicode_utf8_acceptRanges), ("unicode/utf8.first", laid_unicode_utf8_first)] }
def TreeOwnSaid : Prop := treeOwnRow.holds Tryd.pinned (OpenSpec.ofChange treeOwnSpec)

/-- ITS FALSE NEIGHBOUR: 'it returns false'. Refute it at one input. -/
def treeOwnWrong : ChangeSpec := { name := "treeOwn", fn := fun _ => fun
  | [d1, d2] => { results := [.lit (.bool false)], args := [d1, d2] }
  | _ => none }
def TreeOwnWrongFalsely : Prop := treeOwnRow.holds Tryd.pinned (OpenSpec.ofChange treeOwnWrong)

/-- 'cascadelaw03.TreeOrders': WHATEVER THE INPUT: true; the input reads as it did. -/
def treeOrdersSpec : ChangeSpec := { name := "treeOrders", fn := fun _ => fun
  | [d1, d2] => { results := [.lit (.bool true)], args := [d1, d2] }
  | _ => none }
def treeOrdersRow : OpenClaim := { program := "ytbfnelnbjcfliaadoor", sum := "604073bebd2d4b2fefd8bbd413acf7b6f96db5ac658cb562b4e1cc2efd8f82cf", func := "cascade/cascadelaw03.TreeOrders", spec := "treeOrders", unfollowed := true, recurses := true, named := ["unicode/utf8.first", "unicode/utf8.acceptRanges"], loops := true, apart := false, laid := [("unicode/utf8.acceptRanges", laid_unicode_utf8_acceptRanges), ("unicode/utf8.first", laid_unicode_utf8_first)] }
def TreeOrdersSaid : Prop := treeOrdersRow.holds Tryd.pinned (OpenSpec.ofChange treeOrdersSpec)

/-- ITS FALSE NEIGHBOUR: 'it returns false'. Refute it at one input. -/
def treeOrdersWrong : ChangeSpec := { name := "treeOrders", fn := fun _ => fun
  | [d1, d2] => { results := [.lit (.bool false)], args := [d1, d2] }
  | _ => none }
def TreeOrdersWrongFalsely : Prop := treeOrdersRow.holds Tryd.pinned (OpenSpec.ofChange treeOrdersWrong)

/- THE SECOND FORM. 'bulk': how many values and letters a reading holds, each counted each time it is reached (what is shared counts as often as it is met; a slice's spare places count too). A statement '..UptoSaid' is the law's where the arguments, and the package variables that the reading takes, are together of bulk at most 1048576: NARROWER than '..Said'. Prove '..Said' where nothing that the law and all that it calls make is longer than what came in: it says more and counts as full. Else prove '..UptoSaid'. A law counts once. -/
mutual
def uptoBulk {H : Type} : DataW H → Nat
  | .lit (.string bytes) => bytes.length + 1
  | .lit _ => 1
  | .nil => 1
  | .ptr d => uptoBulk d + 1
  | .slice elems spare => uptoBulkAll elems + uptoBulkAll spare + 1
  | .agg parts => uptoBulkAll parts + 1
  | .iface _ d => uptoBulk d + 1
  | .map entries => uptoBulkEntries entries + 1
  | .held _ => 1
def uptoBulkAll {H : Type} : List (DataW H) → Nat
  | [] => 0
  | d :: r => uptoBulk d + uptoBulkAll r
def uptoBulkEntries {H : Type} : List (Lit × DataW H) → Nat
  | [] => 0
  | x :: r => uptoBulkEntry x + uptoBulkEntries r
def uptoBulkEntry {H : Type} : Lit × DataW H → Nat
  | (.string bytes, d) => bytes.length + uptoBulk d + 1
  | (_, d) => uptoBulk d + 1
 end
def uptoSmall : (H : Type) → List (DataW H) → Bool := fun _ ds => decide (uptoBulkAll ds ≤ 1048576)
def OpenSpec.upto (s : _root_.Go.ChangeSpec) : _root_.Go.OpenSpec := { _root_.Go.OpenSpec.ofChange s with cond := some uptoSmall }

/-- 'cascadelaw03.TreeRight', WHERE WHAT IT READS IS OF BULK AT MOST 1048576: true; the input reads as it did. -/
def treeRightUptoRow : OpenClaim := { program := "ytbfnelnbjcfliaadoor", sum := "604073bebd2d4b2fefd8bbd413acf7b6f96db5ac658cb562b4e1cc2efd8f82cf", func := "cascade/cascadelaw03.TreeRight", spec := "treeRight", unfollowed := true, recurses := true, named := ["unicode/utf8.first", "unicode/utf8.acceptRanges"], loops := true, apart := false, laid := [("unicode/utf8.acceptRanges", laid_unicode_utf8_acceptRanges), ("unicode/utf8.first", laid_unicode_utf8_first)], narrowed := true }
def TreeRightUptoSaid : Prop := treeRightUptoRow.holds Tryd.pinned (OpenSpec.upto treeRightSpec)

/-- 'cascadelaw03.TreeGets', WHERE WHAT IT READS IS OF BULK AT MOST 1048576: true; the input reads as it did. -/
def treeGetsUptoRow : OpenClaim := { program := "ytbfnelnbjcfliaadoor", sum := "604073bebd2d4b2fefd8bbd413acf7b6f96db5ac658cb562b4e1cc2efd8f82cf", func := "cascade/cascadelaw03.TreeGets", spec := "treeGets", unfollowed := true, recurses := true, named := ["unicode/utf8.first", "unicode/utf8.acceptRanges"], loops := true, apart := false, laid := [("unicode/utf8.acceptRanges", laid_unicode_utf8_acceptRanges), ("unicode/utf8.first", laid_unicode_utf8_first)], narrowed := true }
def TreeGetsUptoSaid : Prop := treeGetsUptoRow.holds Tryd.pinned (OpenSpec.upto treeGetsSpec)

/-- 'cascadelaw03.TreeWith', WHERE WHAT IT READS IS OF BULK AT MOST 1048576: true; the input reads as it did. -/
def treeWithUptoRow : OpenClaim := { program := "ytbfnelnbjcfliaadoor", sum := "604073bebd2d4b2fefd8bbd413acf7b6f96db5ac658cb562b4e1cc2efd8f82cf", func := "cascade/cascadelaw03.TreeWith", spec := "treeWith", unfollowed := true, recurses := true, named := ["unicode/utf8.first", "unicode/utf8.acceptRanges"], loops := true, apart := false, laid := [("unicode/utf8.acceptRanges", laid_unicode_utf8_acceptRanges), ("unicode/utf8.first", laid_unicode_utf8_first)], narrowed := true }
def TreeWithUptoSaid : Prop := treeWithUptoRow.holds Tryd.pinned (OpenSpec.upto treeWithSpec)

/-- 'cascadelaw03.TreeSame', WHERE WHAT IT READS IS OF BULK AT MOST 1048576: true; the input reads as it did. -/
def treeSameUptoRow : OpenClaim := { program := "ytbfnelnbjcfliaadoor", sum := "604073bebd2d4b2fefd8bbd413acf7b6f96db5ac658cb562b4e1cc2efd8f82cf", func := "cascade/cascadelaw03.TreeSame", spec := "treeSame", unfollowed := true, recurses := true, named := ["unicode/utf8.first", "unicode/utf8.acceptRanges"], loops := true, apart := false, laid := [("unicode/utf8.acceptRanges", laid_unicode_utf8_acceptRanges), ("unicode/utf8.first", laid_unicode_utf8_first)], narrowed := true }
def TreeSameUptoSaid : Prop := treeSameUptoRow.holds Tryd.pinned (OpenSpec.upto treeSameSpec)

/-- 'cascadelaw04.DynFrom', WHERE WHAT IT READS IS OF BULK AT MOST 1048576: true; the input reads as it did. -/
def dynFromUptoRow : OpenClaim := { program := "ytbfnelnbjcfliaadoor", sum := "604073bebd2d4b2fefd8bbd413acf7b6f96db5ac658cb562b4e1cc2efd8f82cf", func := "cascade/cascadelaw04.DynFrom", spec := "dynFrom", unfollowed := true, recurses := true, named := ["unicode/utf8.first", "unicode/utf8.acceptRanges"], loops := true, apart := false, laid := [("unicode/utf8.acceptRanges", laid_unicode_utf8_acceptRanges), ("unicode/utf8.first", laid_unicode_utf8_first)], narrowed := true }
def DynFromUptoSaid : Prop := dynFromUptoRow.holds Tryd.pinned (OpenSpec.upto dynFromSpec)

/-- 'cascadelaw04.DynTo', WHERE WHAT IT READS IS OF BULK AT MOST 1048576: true; the input reads as it did. -/
def dynToUptoRow : OpenClaim := { program := "ytbfnelnbjcfliaadoor", sum := "604073bebd2d4b2fefd8bbd413acf7b6f96db5ac658cb562b4e1cc2efd8f82cf", func := "cascade/cascadelaw04.DynTo", spec := "dynTo", unfollowed := true, recurses := true, named := ["unicode/utf8.first", "unicode/utf8.acceptRanges"], loops := true, apart := false, laid := [("unicode/utf8.acceptRanges", laid_unicode_utf8_acceptRanges), ("unicode/utf8.first", laid_unicode_utf8_first)], narrowed := true }
def DynToUptoSaid : Prop := dynToUptoRow.holds Tryd.pinned (OpenSpec.upto dynToSpec)

/-- 'cascadelaw04.DynGoes', WHERE WHAT IT READS IS OF BULK AT MOST 1048576: true; the input reads as it did. -/
def dynGoesUptoRow : OpenClaim := { program := "ytbfnelnbjcfliaadoor", sum := "604073bebd2d4b2fefd8bbd413acf7b6f96db5ac658cb562b4e1cc2efd8f82cf", func := "cascade/cascadelaw04.DynGoes", spec := "dynGoes", unfollowed := true, recurses := true, named := ["unicode/utf8.first", "unicode/utf8.acceptRanges"], loops := true, apart := false, laid := [("unicode/utf8.acceptRanges", laid_unicode_utf8_acceptRanges), ("unicode/utf8.first", laid_unicode_utf8_first)], narrowed := true }
def DynGoesUptoSaid : Prop := dynGoesUptoRow.holds Tryd.pinned (OpenSpec.upto dynGoesSpec)

/-- 'cascadelaw03.TreeOwn', WHERE WHAT IT READS IS OF BULK AT MOST 1048576: true; the input reads as it did. -/
def treeOwnUptoRow : OpenClaim := { program := "ytbfnelnbjcfliaadoor", sum := "604073bebd2d4b2fefd8bbd413acf7b6f96db5ac658cb562b4e1cc2efd8f82cf", func := "cascade/cascadelaw03.TreeOwn", spec := "treeOwn", unfollowed := true, recurses := true, named := ["unicode/utf8.first", "unicode/utf8.acceptRanges"], loops := true, apart := false, laid := [("unicode/utf8.acceptRanges", laid_unicode_utf8_acceptRanges), ("unicode/utf8.first", laid_unicode_utf8_first)], narrowed := true }
def TreeOwnUptoSaid : Prop := treeOwnUptoRow.holds Tryd.pinned (OpenSpec.upto treeOwnSpec)

/-- 'cascadelaw03.TreeOrders', WHERE WHAT IT READS IS OF BULK AT MOST 1048576: true; the input reads as it did. -/
def treeOrdersUptoRow : OpenClaim := { program := "ytbfnelnbjcfliaadoor", sum := "604073bebd2d4b2fefd8bbd413acf7b6f96db5ac658cb562b4e1cc2efd8f82cf", func := "cascade/cascadelaw03.TreeOrders", spec := "treeOrders", unfollowed := true, recurses := true, named := ["unicode/utf8.first", "unicode/utf8.acceptRanges"], loops := true, apart := false, laid := [("unicode/utf8.acceptRanges", laid_unicode_utf8_acceptRanges), ("unicode/utf8.first", laid_unicode_utf8_first)], narrowed := true }
def TreeOrdersUptoSaid : Prop := treeOrdersUptoRow.holds Tryd.pinned (OpenSpec.upto treeOrdersSpec)

end Rows
end Go.Proofs.YtbfnelnbjcfliaaDoor
