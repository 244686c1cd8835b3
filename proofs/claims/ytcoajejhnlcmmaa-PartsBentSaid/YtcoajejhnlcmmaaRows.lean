/-
  No cell of these rows narrows 'for every input' (looked for: loops, veiled, ifaces, maps, wideKeys, modest, calm, conditions, laid).
  DERIVED. THE GIVEN ROWS OF THIS SEAT. 4 by the template 'for every input the law returns true; each argument reads behind the call as it read before'; 0 by the template 'total and deterministic' (their statements: YtcoajejhnlcmmaaTotals.lean).
  GIVEN WITH THE SEED: the statements are not yours to turn. If you find one false, say at which input.
  Laid BY PROGRAM, IN A SANDBOX (cutbox-rows.mjs): the forced cells as the released guide's own fill.sh prints them over the translation 2264a7a0f2b1c9d1… (all of the seat's roots in one cut). By AI agents, Wed Nov 11 2026. No macro, syntax, notation, axiom, sorry.
-/
import Derived.Test.YtcoajejhnlcmmaaChecked
import GoSem.Claim
import GoSem.ClaimJoined
import GoSem.ClaimMapViews
import Derived.JoinedTies
import Derived.KernelRfl
namespace Go.Proofs.Ytcoajejhnlcmmaa
/- THE CELL 'sum', in the pinned program and in every row, IS THE sha256 OF THE DUMP (.gsa) THAT YtcoajejhnlcmmaaProg.lean LOADS. Nothing in Lean hashes anything: it is a label: what it is worth is what the hold of that sum in a sandbox is worth. -/
noncomputable def Try.pinned : Pinned := { name := "ytcoajejhnlcmmaa", sum := "2264a7a0f2b1c9d1a2bf8903b26f42309c7410f86262c941b6b1d86a03bd8fc9", checked := Try.checked }
namespace Rows
def none {H : Type} : Left H := { results := [], args := [] }

/-- 'cascadelaw17.UsageWithin': WHATEVER THE INPUT: true; the input reads as it did. -/
def usageWithinSpec : ChangeSpec := { name := "usageWithin", fn := fun _ => fun
  | [d1, d2] => { results := [.lit (.bool true)], args := [d1, d2] }
  | _ => none }
def usageWithinRow : OpenClaim := { program := "ytcoajejhnlcmmaa", sum := "2264a7a0f2b1c9d1a2bf8903b26f42309c7410f86262c941b6b1d86a03bd8fc9", func := "cascade/cascadelaw17.UsageWithin", spec := "usageWithin", recurses := true, apart := false }
def UsageWithinSaid : Prop := usageWithinRow.holds Try.pinned (OpenSpec.ofChange usageWithinSpec)

/-- ITS FALSE NEIGHBOUR: 'it returns false'. Refute it at one input. -/
def usageWithinWrong : ChangeSpec := { name := "usageWithin", fn := fun _ => fun
  | [d1, d2] => { results := [.lit (.bool false)], args := [d1, d2] }
  | _ => none }
def UsageWithinWrongFalsely : Prop := usageWithinRow.holds Try.pinned (OpenSpec.ofChange usageWithinWrong)

/-- 'cascadelaw17.UsageThird': WHATEVER THE INPUT: true; the input reads as it did. -/
def usageThirdSpec : ChangeSpec := { name := "usageThird", fn := fun _ => fun
  | [d1, d2, d3] => { results := [.lit (.bool true)], args := [d1, d2, d3] }
  | _ => none }
def usageThirdRow : OpenClaim := { program := "ytcoajejhnlcmmaa", sum := "2264a7a0f2b1c9d1a2bf8903b26f42309c7410f86262c941b6b1d86a03bd8fc9", func := "cascade/cascadelaw17.UsageThird", spec := "usageThird", recurses := true, apart := false }
def UsageThirdSaid : Prop := usageThirdRow.holds Try.pinned (OpenSpec.ofChange usageThirdSpec)

/-- ITS FALSE NEIGHBOUR: 'it returns false'. Refute it at one input. -/
def usageThirdWrong : ChangeSpec := { name := "usageThird", fn := fun _ => fun
  | [d1, d2, d3] => { results := [.lit (.bool false)], args := [d1, d2, d3] }
  | _ => none }
def UsageThirdWrongFalsely : Prop := usageThirdRow.holds Try.pinned (OpenSpec.ofChange usageThirdWrong)

/-- 'cascadelaw28.PartsLong': WHATEVER THE INPUT: true; the input reads as it did. -/
def partsLongSpec : ChangeSpec := { name := "partsLong", fn := fun _ => fun
  | [d] => { results := [.lit (.bool true)], args := [d] }
  | _ => none }
def partsLongRow : OpenClaim := { program := "ytcoajejhnlcmmaa", sum := "2264a7a0f2b1c9d1a2bf8903b26f42309c7410f86262c941b6b1d86a03bd8fc9", func := "cascade/cascadelaw28.PartsLong", spec := "partsLong", unfollowed := true, recurses := true, apart := false }
def PartsLongSaid : Prop := partsLongRow.holds Try.pinned (OpenSpec.ofChange partsLongSpec)

/-- ITS FALSE NEIGHBOUR: 'it returns false'. Refute it at one input. -/
def partsLongWrong : ChangeSpec := { name := "partsLong", fn := fun _ => fun
  | [d] => { results := [.lit (.bool false)], args := [d] }
  | _ => none }
def PartsLongWrongFalsely : Prop := partsLongRow.holds Try.pinned (OpenSpec.ofChange partsLongWrong)

/-- 'cascadelaw28.PartsBent': WHATEVER THE INPUT: true; the input reads as it did. -/
def partsBentSpec : ChangeSpec := { name := "partsBent", fn := fun _ => fun
  | [d1, d2, d3] => { results := [.lit (.bool true)], args := [d1, d2, d3] }
  | _ => none }
def partsBentRow : OpenClaim := { program := "ytcoajejhnlcmmaa", sum := "2264a7a0f2b1c9d1a2bf8903b26f42309c7410f86262c941b6b1d86a03bd8fc9", func := "cascade/cascadelaw28.PartsBent", spec := "partsBent", unfollowed := true, recurses := true, apart := false }
def PartsBentSaid : Prop := partsBentRow.holds Try.pinned (OpenSpec.ofChange partsBentSpec)

/-- ITS FALSE NEIGHBOUR: 'it returns false'. Refute it at one input. -/
def partsBentWrong : ChangeSpec := { name := "partsBent", fn := fun _ => fun
  | [d1, d2, d3] => { results := [.lit (.bool false)], args := [d1, d2, d3] }
  | _ => none }
def PartsBentWrongFalsely : Prop := partsBentRow.holds Try.pinned (OpenSpec.ofChange partsBentWrong)

/- THE SECOND FORM. 'bulk': how many values and letters a reading holds, each counted each time it is reached (what is shared counts as often as it is met; a slice's spare places count too). A statement '..UptoSaid' is the law's where the arguments, and the package variables that the reading takes, are together of bulk at most 1048576: NARROWER than '..Said'. Prove '..Said' where nothing that the law and all that it calls make is longer than what came in: it says more and counts as full. Else prove '..UptoSaid'. A law counts once. -/
mutual
def uptoBulk {H : Type} : DataW H → Nat
  | .lit (.string bytes) => bytes.length + 1
  | .lit _ => 1
  | .nil => 1
  | .ptr d => uptoBulk d + 1
  | .slice elems spare => uptoBulkAll elems + uptoBulkAll spare + 1
  | .agg parts => uptoBulkAll parts + 1
  | .iface _ d => uptoBulk d + 1
  | .map entries => uptoBulkEntries entries + 1
  | .held _ => 1
def uptoBulkAll {H : Type} : List (DataW H) → Nat
  | [] => 0
  | d :: r => uptoBulk d + uptoBulkAll r
def uptoBulkEntries {H : Type} : List (Lit × DataW H) → Nat
  | [] => 0
  | x :: r => uptoBulkEntry x + uptoBulkEntries r
def uptoBulkEntry {H : Type} : Lit × DataW H → Nat
  | (.string bytes, d) => bytes.length + uptoBulk d + 1
  | (_, d) => uptoBulk d + 1
 end
def uptoSmall : (H : Type) → List (DataW H) → Bool := fun _ ds => decide (uptoBulkAll ds ≤ 1048576)
def OpenSpec.upto (s : _root_.Go.ChangeSpec) : _root_.Go.OpenSpec := { _root_.Go.OpenSpec.ofChange s with cond := some uptoSmall }

/-- 'cascadelaw17.UsageWithin', WHERE WHAT IT READS IS OF BULK AT MOST 1048576: true; the input reads as it did. -/
def usageWithinUptoRow : OpenClaim := { program := "ytcoajejhnlcmmaa", sum := "2264a7a0f2b1c9d1a2bf8903b26f42309c7410f86262c941b6b1d86a03bd8fc9", func := "cascade/cascadelaw17.UsageWithin", spec := "usageWithin", recurses := true, apart := false, narrowed := true }
def UsageWithinUptoSaid : Prop := usageWithinUptoRow.holds Try.pinned (OpenSpec.upto usageWithinSpec)

/-- 'cascadelaw17.UsageThird', WHERE WHAT IT READS IS OF BULK AT MOST 1048576: true; the input reads as it did. -/
def usageThirdUptoRow : OpenClaim := { program := "ytcoajejhnlcmmaa", sum := "2264a7a0f2b1c9d1a2bf8903b26f42309c7410f86262c941b6b1d86a03bd8fc9", func := "cascade/cascadelaw17.UsageThird", spec := "usageThird", recurses := true, apart := false, narrowed := true }
def UsageThirdUptoSaid : Prop := usageThirdUptoRow.holds Try.pinned (OpenSpec.upto usageThirdSpec)

/-- 'cascadelaw28.PartsLong', WHERE WHAT IT READS IS OF BULK AT MOST 1048576: true; the input reads as it did. -/
def partsLongUptoRow : OpenClaim := { program := "ytcoajejhnlcmmaa", sum := "2264a7a0f2b1c9d1a2bf8903b26f42309c7410f86262c941b6b1d86a03bd8fc9", func := "cascade/cascadelaw28.PartsLong", spec := "partsLong", unfollowed := true, recurses := true, apart := false, narrowed := true }
def PartsLongUptoSaid : Prop := partsLongUptoRow.holds Try.pinned (OpenSpec.upto partsLongSpec)

/-- 'cascadelaw28.PartsBent', WHERE WHAT IT READS IS OF BULK AT MOST 1048576: true; the input reads as it did. -/
def partsBentUptoRow : OpenClaim := { program := "ytcoajejhnlcmmaa", sum := "2264a7a0f2b1c9d1a2bf8903b26f42309c7410f86262c941b6b1d86a03bd8fc9", func := "cascade/cascadelaw28.PartsBent", spec := "partsBent", unfollowed := true, recurses := true, apart := false, narrowed := true }
def PartsBentUptoSaid : Prop := partsBentUptoRow.holds Try.pinned (OpenSpec.upto partsBentSpec)

end Rows
end Go.Proofs.Ytcoajejhnlcmmaa
