/-
  NARROWER THAN 'FOR EVERY INPUT', by the rows' own cells (each row's printed sentence says how): PathRight: laid · PathOf: loops, laid · PathThird: laid · PathFinds: loops, laid · PathPuts: loops, laid · PathKeeps: loops, laid · PathAdds: loops, laid · PathMerges: loops, laid · BlockIndents: laid · BlockValues: laid · BlockClean: laid · BlockRaws: laid.
  DERIVED. THE GIVEN ROWS OF THIS SEAT. 12 by the template 'for every input the law returns true; each argument reads behind the call as it read before'; 0 by the template 'total and deterministic' (their statements: YtacabmodmbcldaaDoorTotals.lean).
  GIVEN WITH THE SEED: the statements are not yours to turn. If you find one false, say at which input.
  Laid BY PROGRAM, IN A SANDBOX (cutbox-rows.mjs): the forced cells as the released guide's own fill.sh prints them over the translation c09652b180cf6ef6… (all of the seat's roots in one cut). By AI agents, Wed Nov 11 2026. No macro, syntax, notation, axiom, sorry.
-/
import Derived.Test.YtacabmodmbcldaaDoorChecked
import GoSem.PinnedTables
import GoSem.Claim
import GoSem.ClaimJoined
import GoSem.ClaimMapViews
import Derived.JoinedTies
import Derived.KernelRfl
namespace Go.Proofs.YtacabmodmbcldaaDoor
/- THE CELL 'sum', in the pinned program and in every row, IS THE sha256 OF THE DUMP (.gsa) THAT YtacabmodmbcldaaDoorProg.lean LOADS. Nothing in Lean hashes anything: it is a label: what it is worth is what the hold of that sum in a sandbox is worth. -/
noncomputable def Tryd.pinned : Pinned := { name := "ytacabmodmbcldaadoor", sum := "c09652b180cf6ef66e1eabfa11ba252937505ff5858a17d6214fd7fd6c3a9109", checked := Tryd.checked }
namespace Rows
def none {H : Type} : Left H := { results := [], args := [] }

/- WHAT THE LISTED PACKAGE-LEVEL VARIABLES READ AS WHEN THE CALL BEGINS. Each datum BY PROGRAM (the guide's laid-datum.mjs) off the statement by which the dump's own 'gosem.cut.vars' lays the variable. In a bare row this is a premise. The card (YtacabmodmbcldaaDoorCards.lean) ties it to the program's text. -/
def laid_unicode_utf8_acceptRanges {H : Type} : DataW H := .agg [.agg [.lit (.int .u8 128), .lit (.int .u8 191)], .agg [.lit (.int .u8 160), .lit (.int .u8 191)], .agg [.lit (.int .u8 128), .lit (.int .u8 159)], .agg [.lit (.int .u8 144), .lit (.int .u8 191)], .agg [.lit (.int .u8 128), .lit (.int .u8 143)], .agg [.lit (.int .u8 0), .lit (.int .u8 0)], .agg [.lit (.int .u8 0), .lit (.int .u8 0)], .agg [.lit (.int .u8 0), .lit (.int .u8 0)], .agg [.lit (.int .u8 0), .lit (.int .u8 0)], .agg [.lit (.int .u8 0), .lit (.int .u8 0)], .agg [.lit (.int .u8 0), .lit (.int .u8 0)], .agg [.lit (.int .u8 0), .lit (.int .u8 0)], .agg [.lit (.int .u8 0), .lit (.int .u8 0)], .agg [.lit (.int .u8 0), .lit (.int .u8 0)], .agg [.lit (.int .u8 0), .lit (.int .u8 0)], .agg [.lit (.int .u8 0), .lit (.int .u8 0)]]
/-- One of Go's own tables, pinned by name: the form's constant. -/
def laid_unicode_utf8_first : DataW Unit := Go.Pinned.utf8First

/-- 'cascadelaw06.PathRight': WHATEVER THE INPUT: true; the input reads as it did. -/
def pathRightSpec : ChangeSpec := { name := "pathRight", fn := fun _ => fun
  | [d] => { results := [.lit (.bool true)], args := [d] }
  | _ => none }
def pathRightRow : OpenClaim := { program := "ytacabmodmbcldaadoor", sum := "c09652b180cf6ef66e1eabfa11ba252937505ff5858a17d6214fd7fd6c3a9109", func := "cascade/cascadelaw06.PathRight", spec := "pathRight", unfollowed := true, recurses := true, named := ["unicode/utf8.first", "unicode/utf8.acceptRanges"], apart := false, laid := [("unicode/utf8.acceptRanges", laid_unicode_utf8_acceptRanges), ("unicode/utf8.first", laid_unicode_utf8_first)] }
def PathRightSaid : Prop := pathRightRow.holds Tryd.pinned (OpenSpec.ofChange pathRightSpec)

/-- ITS FALSE NEIGHBOUR: 'it returns false'. Refute it at one input. -/
def pathRightWrong : ChangeSpec := { name := "pathRight", fn := fun _ => fun
  | [d] => { results := [.lit (.bool false)], args := [d] }
  | _ => none }
def PathRightWrongFalsely : Prop := pathRightRow.holds Tryd.pinned (OpenSpec.ofChange pathRightWrong)

/-- 'cascadelaw06.PathOf': WHATEVER THE INPUT: true; the input reads as it did. -/
def pathOfSpec : ChangeSpec := { name := "pathOf", fn := fun _ => fun
  | [d] => { results := [.lit (.bool true)], args := [d] }
  | _ => none }
def pathOfRow : OpenClaim := { program := "ytacabmodmbcldaadoor", sum := "c09652b180cf6ef66e1eabfa11ba252937505ff5858a17d6214fd7fd6c3a9109", func := "cascade/cascadelaw06.PathOf", spec := "pathOf", unfollowed := true, recurses := true, named := ["unicode/utf8.first", "unicode/utf8.acceptRanges"], loops := true, apart := false, laid := [("unicode/utf8.acceptRanges", laid_unicode_utf8_acceptRanges), ("unicode/utf8.first", laid_unicode_utf8_first)] }
def PathOfSaid : Prop := pathOfRow.holds Tryd.pinned (OpenSpec.ofChange pathOfSpec)

/-- ITS FALSE NEIGHBOUR: 'it returns false'. Refute it at one input. -/
def pathOfWrong : ChangeSpec := { name := "pathOf", fn := fun _ => fun
  | [d] => { results := [.lit (.bool false)], args := [d] }
  | _ => none }
def PathOfWrongFalsely : Prop := pathOfRow.holds Tryd.pinned (OpenSpec.ofChange pathOfWrong)

/-- 'cascadelaw06.PathThird': WHATEVER THE INPUT: true; the input reads as it did. -/
def pathThirdSpec : ChangeSpec := { name := "pathThird", fn := fun _ => fun
  | [d1, d2, d3] => { results := [.lit (.bool true)], args := [d1, d2, d3] }
  | _ => none }
def pathThirdRow : OpenClaim := { program := "ytacabmodmbcldaadoor", sum := "c09652b180cf6ef66e1eabfa11ba252937505ff5858a17d6214fd7fd6c3a9109", func := "cascade/cascadelaw06.PathThird", spec := "pathThird", unfollowed := true, recurses := true, named := ["unicode/utf8.first", "unicode/utf8.acceptRanges"], apart := false, laid := [("unicode/utf8.acceptRanges", laid_unicode_utf8_acceptRanges), ("unicode/utf8.first", laid_unicode_utf8_first)] }
def PathThirdSaid : Prop := pathThirdRow.holds Tryd.pinned (OpenSpec.ofChange pathThirdSpec)

/-- ITS FALSE NEIGHBOUR: 'it returns false'. Refute it at one input. -/
def pathThirdWrong : ChangeSpec := { name := "pathThird", fn := fun _ => fun
  | [d1, d2, d3] => { results := [.lit (.bool false)], args := [d1, d2, d3] }
  | _ => none }
def PathThirdWrongFalsely : Prop := pathThirdRow.holds Tryd.pinned (OpenSpec.ofChange pathThirdWrong)

/-- 'cascadelaw06.PathFinds': WHATEVER THE INPUT: true; the input reads as it did. -/
def pathFindsSpec : ChangeSpec := { name := "pathFinds", fn := fun _ => fun
  | [d1, d2] => { results := [.lit (.bool true)], args := [d1, d2] }
  | _ => none }
def pathFindsRow : OpenClaim := { program := "ytacabmodmbcldaadoor", sum := "c09652b180cf6ef66e1eabfa11ba252937505ff5858a17d6214fd7fd6c3a9109", func := "cascade/cascadelaw06.PathFinds", spec := "pathFinds", unfollowed := true, recurses := true, named := ["unicode/utf8.first", "unicode/utf8.acceptRanges"], loops := true, apart := false, laid := [("unicode/utf8.acceptRanges", laid_unicode_utf8_acceptRanges), ("unicode/utf8.first", laid_unicode_utf8_first)] }
def PathFindsSaid : Prop := pathFindsRow.holds Tryd.pinned (OpenSpec.ofChange pathFindsSpec)

/-- ITS FALSE NEIGHBOUR: 'it returns false'. Refute it at one input. -/
def pathFindsWrong : ChangeSpec := { name := "pathFinds", fn := fun _ => fun
  | [d1, d2] => { results := [.lit (.bool false)], args := [d1, d2] }
  | _ => none }
def PathFindsWrongFalsely : Prop := pathFindsRow.holds Tryd.pinned (OpenSpec.ofChange pathFindsWrong)

/-- 'cascadelaw06.PathPuts': WHATEVER THE INPUT: true; the input reads as it did. -/
def pathPutsSpec : ChangeSpec := { name := "pathPuts", fn := fun _ => fun
  | [d1, d2, d3] => { results := [.lit (.bool true)], args := [d1, d2, d3] }
  | _ => none }
def pathPutsRow : OpenClaim := { program := "ytacabmodmbcldaadoor", sum := "c09652b180cf6ef66e1eabfa11ba252937505ff5858a17d6214fd7fd6c3a9109", func := "cascade/cascadelaw06.PathPuts", spec := "pathPuts", unfollowed := true, recurses := true, named := ["unicode/utf8.first", "unicode/utf8.acceptRanges"], loops := true, apart := false, laid := [("unicode/utf8.acceptRanges", laid_unicode_utf8_acceptRanges), ("unicode/utf8.first", laid_unicode_utf8_first)] }
def PathPutsSaid : Prop := pathPutsRow.holds Tryd.pinned (OpenSpec.ofChange pathPutsSpec)

/-- ITS FALSE NEIGHBOUR: 'it returns false'. Refute it at one input. -/
def pathPutsWrong : ChangeSpec := { name := "pathPuts", fn := fun _ => fun
  | [d1, d2, d3] => { results := [.lit (.bool false)], args := [d1, d2, d3] }
  | _ => none }
def PathPutsWrongFalsely : Prop := pathPutsRow.holds Tryd.pinned (OpenSpec.ofChange pathPutsWrong)

/-- 'cascadelaw06.PathKeeps': WHATEVER THE INPUT: true; the input reads as it did. -/
def pathKeepsSpec : ChangeSpec := { name := "pathKeeps", fn := fun _ => fun
  | [d1, d2, d3] => { results := [.lit (.bool true)], args := [d1, d2, d3] }
  | _ => none }
def pathKeepsRow : OpenClaim := { program := "ytacabmodmbcldaadoor", sum := "c09652b180cf6ef66e1eabfa11ba252937505ff5858a17d6214fd7fd6c3a9109", func := "cascade/cascadelaw06.PathKeeps", spec := "pathKeeps", unfollowed := true, recurses := true, named := ["unicode/utf8.first", "unicode/utf8.acceptRanges"], loops := true, apart := false, laid := [("unicode/utf8.acceptRanges", laid_unicode_utf8_acceptRanges), ("unicode/utf8.first", laid_unicode_utf8_first)] }
def PathKeepsSaid : Prop := pathKeepsRow.holds Tryd.pinned (OpenSpec.ofChange pathKeepsSpec)

/-- ITS FALSE NEIGHBOUR: 'it returns false'. Refute it at one input. -/
def pathKeepsWrong : ChangeSpec := { name := "pathKeeps", fn := fun _ => fun
  | [d1, d2, d3] => { results := [.lit (.bool false)], args := [d1, d2, d3] }
  | _ => none }
def PathKeepsWrongFalsely : Prop := pathKeepsRow.holds Tryd.pinned (OpenSpec.ofChange pathKeepsWrong)

/-- 'cascadelaw06.PathAdds': WHATEVER THE INPUT: true; the input reads as it did. -/
def pathAddsSpec : ChangeSpec := { name := "pathAdds", fn := fun _ => fun
  | [d1, d2, d3] => { results := [.lit (.bool true)], args := [d1, d2, d3] }
  | _ => none }
def pathAddsRow : OpenClaim := { program := "ytacabmodmbcldaadoor", sum := "c09652b180cf6ef66e1eabfa11ba252937505ff5858a17d6214fd7fd6c3a9109", func := "cascade/cascadelaw06.PathAdds", spec := "pathAdds", unfollowed := true, recurses := true, named := ["unicode/utf8.first", "unicode/utf8.acceptRanges"], loops := true, apart := false, laid := [("unicode/utf8.acceptRanges", laid_unicode_utf8_acceptRanges), ("unicode/utf8.first", laid_unicode_utf8_first)] }
def PathAddsSaid : Prop := pathAddsRow.holds Tryd.pinned (OpenSpec.ofChange pathAddsSpec)

/-- ITS FALSE NEIGHBOUR: 'it returns false'. Refute it at one input. -/
def pathAddsWrong : ChangeSpec := { name := "pathAdds", fn := fun _ => fun
  | [d1, d2, d3] => { results := [.lit (.bool false)], args := [d1, d2, d3] }
  | _ => none }
def PathAddsWrongFalsely : Prop := pathAddsRow.holds Tryd.pinned (OpenSpec.ofChange pathAddsWrong)

/-- 'cascadelaw06.PathMerges': WHATEVER THE INPUT: true; the input reads as it did. -/
def pathMergesSpec : ChangeSpec := { name := "pathMerges", fn := fun _ => fun
  | [d1, d2, d3] => { results := [.lit (.bool true)], args := [d1, d2, d3] }
  | _ => none }
def pathMergesRow : OpenClaim := { program := "ytacabmodmbcldaadoor", sum := "c09652b180cf6ef66e1eabfa11ba252937505ff5858a17d6214fd7fd6c3a9109", func := "cascade/cascadelaw06.PathMerges", spec := "pathMerges", unfollowed := true, recurses := true, named := ["unicode/utf8.first", "unicode/utf8.acceptRanges"], loops := true, apart := false, laid := [("unicode/utf8.acceptRanges", laid_unicode_utf8_acceptRanges), ("unicode/utf8.first", laid_unicode_utf8_first)] }
def PathMergesSaid : Prop := pathMergesRow.holds Tryd.pinned (OpenSpec.ofChange pathMergesSpec)

/-- ITS FALSE NEIGHBOUR: 'it returns false'. Refute it at one input. -/
def pathMergesWrong : ChangeSpec := { name := "pathMerges", fn := fun _ => fun
  | [d1, d2, d3] => { results := [.lit (.bool false)], args := [d1, d2, d3] }
  | _ => none }
def PathMergesWrongFalsely : Prop := pathMergesRow.holds Tryd.pinned (OpenSpec.ofChange pathMergesWrong)

/-- 'cascadelaw07.BlockIndents': WHATEVER THE INPUT: true; the input reads as it did. -/
def blockIndentsSpec : ChangeSpec := { name := "blockIndents", fn := fun _ => fun
  | [d] => { results := [.lit (.bool true)], args := [d] }
  | _ => none }
def blockIndentsRow : OpenClaim := { program := "ytacabmodmbcldaadoor", sum := "c09652b180cf6ef66e1eabfa11ba252937505ff5858a17d6214fd7fd6c3a9109", func := "cascade/cascadelaw07.BlockIndents", spec := "blockIndents", inPlace := ["internal/bytealg.CountString", "internal/bytealg.IndexByteString", "internal/bytealg.IndexString", "internal/abi.NoEscape", "internal/bytealg.MakeNoZero"], named := ["internal/bytealg.MaxLen", "unicode/utf8.first", "unicode/utf8.acceptRanges"], apart := false, laid := [("unicode/utf8.acceptRanges", laid_unicode_utf8_acceptRanges), ("unicode/utf8.first", laid_unicode_utf8_first)] }
def BlockIndentsSaid : Prop := blockIndentsRow.holds Tryd.pinned (OpenSpec.ofChange blockIndentsSpec)

/-- ITS FALSE NEIGHBOUR: 'it returns false'. Refute it at one input. -/
def blockIndentsWrong : ChangeSpec := { name := "blockIndents", fn := fun _ => fun
  | [d] => { results := [.lit (.bool false)], args := [d] }
  | _ => none }
def BlockIndentsWrongFalsely : Prop := blockIndentsRow.holds Tryd.pinned (OpenSpec.ofChange blockIndentsWrong)

/-- 'cascadelaw07.BlockValues': WHATEVER THE INPUT: true; the input reads as it did. -/
def blockValuesSpec : ChangeSpec := { name := "blockValues", fn := fun _ => fun
  | [d] => { results := [.lit (.bool true)], args := [d] }
  | _ => none }
def blockValuesRow : OpenClaim := { program := "ytacabmodmbcldaadoor", sum := "c09652b180cf6ef66e1eabfa11ba252937505ff5858a17d6214fd7fd6c3a9109", func := "cascade/cascadelaw07.BlockValues", spec := "blockValues", inPlace := ["internal/bytealg.CountString", "internal/bytealg.IndexByteString", "internal/bytealg.IndexString", "internal/abi.NoEscape", "internal/bytealg.MakeNoZero"], named := ["internal/bytealg.MaxLen", "unicode/utf8.first", "unicode/utf8.acceptRanges"], apart := false, laid := [("unicode/utf8.acceptRanges", laid_unicode_utf8_acceptRanges), ("unicode/utf8.first", laid_unicode_utf8_first)] }
def BlockValuesSaid : Prop := blockValuesRow.holds Tryd.pinned (OpenSpec.ofChange blockValuesSpec)

/-- ITS FALSE NEIGHBOUR: 'it returns false'. Refute it at one input. -/
def blockValuesWrong : ChangeSpec := { name := "blockValues", fn := fun _ => fun
  | [d] => { results := [.lit (.bool false)], args := [d] }
  | _ => none }
def BlockValuesWrongFalsely : Prop := blockValuesRow.holds Tryd.pinned (OpenSpec.ofChange blockValuesWrong)

/-- 'cascadelaw07.BlockClean': WHATEVER THE INPUT: true; the input reads as it did. -/
def blockCleanSpec : ChangeSpec := { name := "blockClean", fn := fun _ => fun
  | [d1, d2] => { results := [.lit (.bool true)], args := [d1, d2] }
  | _ => none }
def blockCleanRow : OpenClaim := { program := "ytacabmodmbcldaadoor", sum := "c09652b180cf6ef66e1eabfa11ba252937505ff5858a17d6214fd7fd6c3a9109", func := "cascade/cascadelaw07.BlockClean", spec := "blockClean", inPlace := ["internal/bytealg.CountString", "internal/bytealg.IndexByteString", "internal/bytealg.IndexString", "internal/abi.NoEscape", "internal/bytealg.MakeNoZero"], named := ["internal/bytealg.MaxLen", "unicode/utf8.first", "unicode/utf8.acceptRanges"], apart := false, laid := [("unicode/utf8.acceptRanges", laid_unicode_utf8_acceptRanges), ("unicode/utf8.first", laid_unicode_utf8_first)] }
def BlockCleanSaid : Prop := blockCleanRow.holds Tryd.pinned (OpenSpec.ofChange blockCleanSpec)

/-- ITS FALSE NEIGHBOUR: 'it returns false'. Refute it at one input. -/
def blockCleanWrong : ChangeSpec := { name := "blockClean", fn := fun _ => fun
  | [d1, d2] => { results := [.lit (.bool false)], args := [d1, d2] }
  | _ => none }
def BlockCleanWrongFalsely : Prop := blockCleanRow.holds Tryd.pinned (OpenSpec.ofChange blockCleanWrong)

/-- 'cascadelaw07.BlockRaws': WHATEVER THE INPUT: true; the input reads as it did. -/
def blockRawsSpec : ChangeSpec := { name := "blockRaws", fn := fun _ => fun
  | [d] => { results := [.lit (.bool true)], args := [d] }
  | _ => none }
def blockRawsRow : OpenClaim := { program := "ytacabmodmbcldaadoor", sum := "c09652b180cf6ef66e1eabfa11ba252937505ff5858a17d6214fd7fd6c3a9109", func := "cascade/cascadelaw07.BlockRaws", spec := "blockRaws", inPlace := ["internal/bytealg.CountString", "internal/bytealg.IndexByteString", "internal/bytealg.IndexString", "internal/abi.NoEscape", "internal/bytealg.MakeNoZero"], named := ["internal/bytealg.MaxLen", "unicode/utf8.first", "unicode/utf8.acceptRanges"], apart := false, laid := [("unicode/utf8.acceptRanges", laid_unicode_utf8_acceptRanges), ("unicode/utf8.first", laid_unicode_utf8_first)] }
def BlockRawsSaid : Prop := blockRawsRow.holds Tryd.pinned (OpenSpec.ofChange blockRawsSpec)

/-- ITS FALSE NEIGHBOUR: 'it returns false'. Refute it at one input. -/
def blockRawsWrong : ChangeSpec := { name := "blockRaws", fn := fun _ => fun
  | [d] => { results := [.lit (.bool false)], args := [d] }
  | _ => none }
def BlockRawsWrongFalsely : Prop := blockRawsRow.holds Tryd.pinned (OpenSpec.ofChange blockRawsWrong)

/- THE SECOND FORM. 'bulk': how many values and letters a reading holds, each counted each time it is reached (what is shared counts as often as it is met; a slice's spare places count too). A statement '..UptoSaid' is the law's where the arguments, and the package variables that the reading takes, are together of bulk at most 1048576: NARROWER than '..Said'. Prove '..Said' where nothing that the law and all that it calls make is longer than what came in: it says more and counts as full. Else prove '..UptoSaid'. A law counts once. -/
mutual
def uptoBulk {H : Type} : DataW H → Nat
  | .lit (.string bytes) => bytes.length + 1
  | .lit _ => 1
  | .nil => 1
  | .ptr d => uptoBulk d + 1
  | .slice elems spare => uptoBulkAll elems + uptoBulkAll spare + 1
  | .agg parts => uptoBulkAll parts + 1
  | .iface _ d => uptoBulk d + 1
  | .map entries => uptoBulkEntries entries + 1
  | .held _ => 1
def uptoBulkAll {H : Type} : List (DataW H) → Nat
  | [] => 0
  | d :: r => uptoBulk d + uptoBulkAll r
def uptoBulkEntries {H : Type} : List (Lit × DataW H) → Nat
  | [] => 0
  | x :: r => uptoBulkEntry x + uptoBulkEntries r
def uptoBulkEntry {H : Type} : Lit × DataW H → Nat
  | (.string bytes, d) => bytes.length + uptoBulk d + 1
  | (_, d) => uptoBulk d + 1
 end
def uptoSmall : (H : Type) → List (DataW H) → Bool := fun _ ds => decide (uptoBulkAll ds ≤ 1048576)
def OpenSpec.upto (s : _root_.Go.ChangeSpec) : _root_.Go.OpenSpec := { _root_.Go.OpenSpec.ofChange s with cond := some uptoSmall }

/-- 'cascadelaw06.PathRight', WHERE WHAT IT READS IS OF BULK AT MOST 1048576: true; the input reads as it did. -/
def pathRightUptoRow : OpenClaim := { program := "ytacabmodmbcldaadoor", sum := "c09652b180cf6ef66e1eabfa11ba252937505ff5858a17d6214fd7fd6c3a9109", func := "cascade/cascadelaw06.PathRight", spec := "pathRight", unfollowed := true, recurses := true, named := ["unicode/utf8.first", "unicode/utf8.acceptRanges"], apart := false, laid := [("unicode/utf8.acceptRanges", laid_unicode_utf8_acceptRanges), ("unicode/utf8.first", laid_unicode_utf8_first)], narrowed := true }
def PathRightUptoSaid : Prop := pathRightUptoRow.holds Tryd.pinned (OpenSpec.upto pathRightSpec)

/-- 'cascadelaw06.PathOf', WHERE WHAT IT READS IS OF BULK AT MOST 1048576: true; the input reads as it did. -/
def pathOfUptoRow : OpenClaim := { program := "ytacabmodmbcldaadoor", sum := "c09652b180cf6ef66e1eabfa11ba252937505ff5858a17d6214fd7fd6c3a9109", func := "cascade/cascadelaw06.PathOf", spec := "pathOf", unfollowed := true, recurses := true, named := ["unicode/utf8.first", "unicode/utf8.acceptRanges"], loops := true, apart := false, laid := [("unicode/utf8.acceptRanges", laid_unicode_utf8_acceptRanges), ("unicode/utf8.first", laid_unicode_utf8_first)], narrowed := true }
def PathOfUptoSaid : Prop := pathOfUptoRow.holds Tryd.pinned (OpenSpec.upto pathOfSpec)

/-- 'cascadelaw06.PathThird', WHERE WHAT IT READS IS OF BULK AT MOST 1048576: true; the input reads as it did. -/
def pathThirdUptoRow : OpenClaim := { program := "ytacabmodmbcldaadoor", sum := "c09652b180cf6ef66e1eabfa11ba252937505ff5858a17d6214fd7fd6c3a9109", func := "cascade/cascadelaw06.PathThird", spec := "pathThird", unfollowed := true, recurses := true, named := ["unicode/utf8.first", "unicode/utf8.acceptRanges"], apart := false, laid := [("unicode/utf8.acceptRanges", laid_unicode_utf8_acceptRanges), ("unicode/utf8.first", laid_unicode_utf8_first)], narrowed := true }
def PathThirdUptoSaid : Prop := pathThirdUptoRow.holds Tryd.pinned (OpenSpec.upto pathThirdSpec)

/-- 'cascadelaw06.PathFinds', WHERE WHAT IT READS IS OF BULK AT MOST 1048576: true; the input reads as it did. -/
def pathFindsUptoRow : OpenClaim := { program := "ytacabmodmbcldaadoor", sum := "c09652b180cf6ef66e1eabfa11ba252937505ff5858a17d6214fd7fd6c3a9109", func := "cascade/cascadelaw06.PathFinds", spec := "pathFinds", unfollowed := true, recurses := true, named := ["unicode/utf8.first", "unicode/utf8.acceptRanges"], loops := true, apart := false, laid := [("unicode/utf8.acceptRanges", laid_unicode_utf8_acceptRanges), ("unicode/utf8.first", laid_unicode_utf8_first)], narrowed := true }
def PathFindsUptoSaid : Prop := pathFindsUptoRow.holds Tryd.pinned (OpenSpec.upto pathFindsSpec)

/-- 'cascadelaw06.PathPuts', WHERE WHAT IT READS IS OF BULK AT MOST 1048576: true; the input reads as it did. -/
def pathPutsUptoRow : OpenClaim := { program := "ytacabmodmbcldaadoor", sum := "c09652b180cf6ef66e1eabfa11ba252937505ff5858a17d6214fd7fd6c3a9109", func := "cascade/cascadelaw06.PathPuts", spec := "pathPuts", unfollowed := true, recurses := true, named := ["unicode/utf8.first", "unicode/utf8.acceptRanges"], loops := true, apart := false, laid := [("unicode/utf8.acceptRanges", laid_unicode_utf8_acceptRanges), ("unicode/utf8.first", laid_unicode_utf8_first)], narrowed := true }
def PathPutsUptoSaid : Prop := pathPutsUptoRow.holds Tryd.pinned (OpenSpec.upto pathPutsSpec)

/-- 'cascadelaw06.PathKeeps', WHERE WHAT IT READS IS OF BULK AT MOST 1048576: true; the input reads as it did. -/
def pathKeepsUptoRow : OpenClaim := { program := "ytacabmodmbcldaadoor", sum := "c09652b180cf6ef66e1eabfa11ba252937505ff5858a17d6214fd7fd6c3a9109", func := "cascade/cascadelaw06.PathKeeps", spec := "pathKeeps", unfollowed := true, recurses := true, named := ["unicode/utf8.first", "unicode/utf8.acceptRanges"], loops := true, apart := false, laid := [("unicode/utf8.acceptRanges", laid_unicode_utf8_acceptRanges), ("unicode/utf8.first", laid_unicode_utf8_first)], narrowed := true }
def PathKeepsUptoSaid : Prop := pathKeepsUptoRow.holds Tryd.pinned (OpenSpec.upto pathKeepsSpec)

/-- 'cascadelaw06.PathAdds', WHERE WHAT IT READS IS OF BULK AT MOST 1048576: true; the input reads as it did. -/
def pathAddsUptoRow : OpenClaim := { program := "ytacabmodmbcldaadoor", sum := "c09652b180cf6ef66e1eabfa11ba252937505ff5858a17d6214fd7fd6c3a9109", func := "cascade/cascadelaw06.PathAdds", spec := "pathAdds", unfollowed := true, recurses := true, named := ["unicode/utf8.first", "unicode/utf8.acceptRanges"], loops := true, apart := false, laid := [("unicode/utf8.acceptRanges", laid_unicode_utf8_acceptRanges), ("unicode/utf8.first", laid_unicode_utf8_first)], narrowed := true }
def PathAddsUptoSaid : Prop := pathAddsUptoRow.holds Tryd.pinned (OpenSpec.upto pathAddsSpec)

/-- 'cascadelaw06.PathMerges', WHERE WHAT IT READS IS OF BULK AT MOST 1048576: true; the input reads as it did. -/
def pathMergesUptoRow : OpenClaim := { program := "ytacabmodmbcldaadoor", sum := "c09652b180cf6ef66e1eabfa11ba252937505ff5858a17d6214fd7fd6c3a9109", func := "cascade/cascadelaw06.PathMerges", spec := "pathMerges", unfollowed := true, recurses := true, named := ["unicode/utf8.first", "unicode/utf8.acceptRanges"], loops := true, apart := false, laid := [("unicode/utf8.acceptRanges", laid_unicode_utf8_acceptRanges), ("unicode/utf8.first", laid_unicode_utf8_first)], narrowed := true }
def PathMergesUptoSaid : Prop := pathMergesUptoRow.holds Tryd.pinned (OpenSpec.upto pathMergesSpec)

/-- 'cascadelaw07.BlockIndents', WHERE WHAT IT READS IS OF BULK AT MOST 1048576: true; the input reads as it did. -/
def blockIndentsUptoRow : OpenClaim := { program := "ytacabmodmbcldaadoor", sum := "c09652b180cf6ef66e1eabfa11ba252937505ff5858a17d6214fd7fd6c3a9109", func := "cascade/cascadelaw07.BlockIndents", spec := "blockIndents", inPlace := ["internal/bytealg.CountString", "internal/bytealg.IndexByteString", "internal/bytealg.IndexString", "internal/abi.NoEscape", "internal/bytealg.MakeNoZero"], named := ["internal/bytealg.MaxLen", "unicode/utf8.first", "unicode/utf8.acceptRanges"], apart := false, laid := [("unicode/utf8.acceptRanges", laid_unicode_utf8_acceptRanges), ("unicode/utf8.first", laid_unicode_utf8_first)], narrowed := true }
def BlockIndentsUptoSaid : Prop := blockIndentsUptoRow.holds Tryd.pinned (OpenSpec.upto blockIndentsSpec)

/-- 'cascadelaw07.BlockValues', WHERE WHAT IT READS IS OF BULK AT MOST 1048576: true; the input reads as it did. -/
def blockValuesUptoRow : OpenClaim := { program := "ytacabmodmbcldaadoor", sum := "c09652b180cf6ef66e1eabfa11ba252937505ff5858a17d6214fd7fd6c3a9109", func := "cascade/cascadelaw07.BlockValues", spec := "blockValues", inPlace := ["internal/bytealg.CountString", "internal/bytealg.IndexByteString", "internal/bytealg.IndexString", "internal/abi.NoEscape", "internal/bytealg.MakeNoZero"], named := ["internal/bytealg.MaxLen", "unicode/utf8.first", "unicode/utf8.acceptRanges"], apart := false, laid := [("unicode/utf8.acceptRanges", laid_unicode_utf8_acceptRanges), ("unicode/utf8.first", laid_unicode_utf8_first)], narrowed := true }
def BlockValuesUptoSaid : Prop := blockValuesUptoRow.holds Tryd.pinned (OpenSpec.upto blockValuesSpec)

/-- 'cascadelaw07.BlockClean', WHERE WHAT IT READS IS OF BULK AT MOST 1048576: true; the input reads as it did. -/
def blockCleanUptoRow : OpenClaim := { program := "ytacabmodmbcldaadoor", sum := "c09652b180cf6ef66e1eabfa11ba252937505ff5858a17d6214fd7fd6c3a9109", func := "cascade/cascadelaw07.BlockClean", spec := "blockClean", inPlace := ["internal/bytealg.CountString", "internal/bytealg.IndexByteString", "internal/bytealg.IndexString", "internal/abi.NoEscape", "internal/bytealg.MakeNoZero"], named := ["internal/bytealg.MaxLen", "unicode/utf8.first", "unicode/utf8.acceptRanges"], apart := false, laid := [("unicode/utf8.acceptRanges", laid_unicode_utf8_acceptRanges), ("unicode/utf8.first", laid_unicode_utf8_first)], narrowed := true }
def BlockCleanUptoSaid : Prop := blockCleanUptoRow.holds Tryd.pinned (OpenSpec.upto blockCleanSpec)

/-- 'cascadelaw07.BlockRaws', WHERE WHAT IT READS IS OF BULK AT MOST 1048576: true; the input reads as it did. -/
def blockRawsUptoRow : OpenClaim := { program := "ytacabmodmbcldaadoor", sum := "c09652b180cf6ef66e1eabfa11ba252937505ff5858a17d6214fd7fd6c3a9109", func := "cascade/cascadelaw07.BlockRaws", spec := "blockRaws", inPlace := ["internal/bytealg.CountString", "internal/bytealg.IndexByteString", "internal/bytealg.IndexString", "internal/abi.NoEscape", "internal/bytealg.MakeNoZero"], named := ["internal/bytealg.MaxLen", "unicode/utf8.first", "unicode/utf8.acceptRanges"], apart := false, laid := [("unicode/utf8.acceptRanges", laid_unicode_utf8_acceptRanges), ("unicode/utf8.first", laid_unicode_utf8_first)], narrowed := true }
def BlockRawsUptoSaid : Prop := blockRawsUptoRow.holds Tryd.pinned (OpenSpec.upto blockRawsSpec)

end Rows
end Go.Proofs.YtacabmodmbcldaaDoor
