/-
  NARROWER THAN 'FOR EVERY INPUT', by the rows' own cells (each row's printed sentence says how): DynTexts: loops · DynSums: loops.
  DERIVED. THE GIVEN ROWS OF THIS SEAT. 2 by the template 'for every input the law returns true; each argument reads behind the call as it read before'; 0 by the template 'total and deterministic' (their statements: YtbfnelnbjcfliaaTotals.lean).
  GIVEN WITH THE SEED: the statements are not yours to turn. If you find one false, say at which input.
  Laid BY PROGRAM, IN A SANDBOX (cutbox-rows.mjs): the forced cells as the released guide's own fill.sh prints them over the translation 336bd09eb6b7e22f… (all of the seat's roots in one cut). By AI agents, Wed Nov 11 2026. No macro, syntax, notation, axiom, sorry.
-/
import Derived.Test.YtbfnelnbjcfliaaChecked
import GoSem.Claim
import GoSem.ClaimJoined
import GoSem.ClaimMapViews
import Derived.JoinedTies
import Derived.KernelRfl
namespace Go.Proofs.Ytbfnelnbjcfliaa
/- THE CELL 'sum', in the pinned program and in every row, IS THE sha256 OF THE DUMP (.gsa) THAT YtbfnelnbjcfliaaProg.lean LOADS. Nothing in Lean hashes anything: it is a label: what it is worth is what the hold of that sum in a sandbox is worth. -/
noncomputable def Try.pinned : Pinned := { name := "ytbfnelnbjcfliaa", sum := "336bd09eb6b7e22fa604c89ba13bf1be18cd699fe19c48d1dea0528b4198c42a", checked := Try.checked }
namespace Rows
def none {H : Type} : Left H := { results := [], args := [] }

/-- 'cascadelaw04.DynTexts': WHATEVER THE INPUT: true; the input reads as it did. -/
def dynTextsSpec : ChangeSpec := { name := "dynTexts", fn := fun _ => fun
  | [d] => { results := [.lit (.bool true)], args := [d] }
  | _ => none }
def dynTextsRow : OpenClaim := { program := "ytbfnelnbjcfliaa", sum := "336bd09eb6b7e22fa604c89ba13bf1be18cd699fe19c48d1dea0528b4198c42a", func := "cascade/cascadelaw04.DynTexts", spec := "dynTexts", unfollowed := true, recurses := true, loops := true, apart := false }
def DynTextsSaid : Prop := dynTextsRow.holds Try.pinned (OpenSpec.ofChange dynTextsSpec)

/-- ITS FALSE NEIGHBOUR: 'it returns false'. Refute it at one input. -/
def dynTextsWrong : ChangeSpec := { name := "dynTexts", fn := fun _ => fun
  | [d] => { results := [.lit (.bool false)], args := [d] }
  | _ => none }
def DynTextsWrongFalsely : Prop := dynTextsRow.holds Try.pinned (OpenSpec.ofChange dynTextsWrong)

/-- 'cascadelaw04.DynSums': WHATEVER THE INPUT: true; the input reads as it did. -/
def dynSumsSpec : ChangeSpec := { name := "dynSums", fn := fun _ => fun
  | [d] => { results := [.lit (.bool true)], args := [d] }
  | _ => none }
def dynSumsRow : OpenClaim := { program := "ytbfnelnbjcfliaa", sum := "336bd09eb6b7e22fa604c89ba13bf1be18cd699fe19c48d1dea0528b4198c42a", func := "cascade/cascadelaw04.DynSums", spec := "dynSums", unfollowed := true, recurses := true, loops := true, apart := false }
def DynSumsSaid : Prop := dynSumsRow.holds Try.pinned (OpenSpec.ofChange dynSumsSpec)

/-- ITS FALSE NEIGHBOUR: 'it returns false'. Refute it at one input. -/
def dynSumsWrong : ChangeSpec := { name := "dynSums", fn := fun _ => fun
  | [d] => { results := [.lit (.bool false)], args := [d] }
  | _ => none }
def DynSumsWrongFalsely : Prop := dynSumsRow.holds Try.pinned (OpenSpec.ofChange dynSumsWrong)

/- THE SECOND FORM. 'bulk': how many values and letters a reading holds, each counted each time it is reached (what is shared counts as often as it is met; a slice's spare places count too). A statement '..UptoSaid' is the law's where the arguments, and the package variables that the reading takes, are together of bulk at most 1048576: NARROWER than '..Said'. Prove '..Said' where nothing that the law and all that it calls make is longer than what came in: it says more and counts as full. Else prove '..UptoSaid'. A law counts once. -/
mutual
def uptoBulk {H : Type} : DataW H → Nat
  | .lit (.string bytes) => bytes.length + 1
  | .lit _ => 1
  | .nil => 1
  | .ptr d => uptoBulk d + 1
  | .slice elems spare => uptoBulkAll elems + uptoBulkAll spare + 1
  | .agg parts => uptoBulkAll parts + 1
  | .iface _ d => uptoBulk d + 1
  | .map entries => uptoBulkEntries entries + 1
  | .held _ => 1
def uptoBulkAll {H : Type} : List (DataW H) → Nat
  | [] => 0
  | d :: r => uptoBulk d + uptoBulkAll r
def uptoBulkEntries {H : Type} : List (Lit × DataW H) → Nat
  | [] => 0
  | x :: r => uptoBulkEntry x + uptoBulkEntries r
def uptoBulkEntry {H : Type} : Lit × DataW H → Nat
  | (.string bytes, d) => bytes.length + uptoBulk d + 1
  | (_, d) => uptoBulk d + 1
 end
def uptoSmall : (H : Type) → List (DataW H) → Bool := fun _ ds => decide (uptoBulkAll ds ≤ 1048576)
def OpenSpec.upto (s : _root_.Go.ChangeSpec) : _root_.Go.OpenSpec := { _root_.Go.OpenSpec.ofChange s with cond := some uptoSmall }

/-- 'cascadelaw04.DynTexts', WHERE WHAT IT READS IS OF BULK AT MOST 1048576: true; the input reads as it did. -/
def dynTextsUptoRow : OpenClaim := { program := "ytbfnelnbjcfliaa", sum := "336bd09eb6b7e22fa604c89ba13bf1be18cd699fe19c48d1dea0528b4198c42a", func := "cascade/cascadelaw04.DynTexts", spec := "dynTexts", unfollowed := true, recurses := true, loops := true, apart := false, narrowed := true }
def DynTextsUptoSaid : Prop := dynTextsUptoRow.holds Try.pinned (OpenSpec.upto dynTextsSpec)

/-- 'cascadelaw04.DynSums', WHERE WHAT IT READS IS OF BULK AT MOST 1048576: true; the input reads as it did. -/
def dynSumsUptoRow : OpenClaim := { program := "ytbfnelnbjcfliaa", sum := "336bd09eb6b7e22fa604c89ba13bf1be18cd699fe19c48d1dea0528b4198c42a", func := "cascade/cascadelaw04.DynSums", spec := "dynSums", unfollowed := true, recurses := true, loops := true, apart := false, narrowed := true }
def DynSumsUptoSaid : Prop := dynSumsUptoRow.holds Try.pinned (OpenSpec.upto dynSumsSpec)

end Rows
end Go.Proofs.Ytbfnelnbjcfliaa
