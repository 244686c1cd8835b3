/- The law PartsBent returns true for every input, and changes nothing that was handed in. The package-level variables of the library that are listed read as their initialisers lay them (tied). -/
import Derived.Test.YtcoajejhnlcmmaaMP4
import Derived.Test.YtcoajejhnlcmmaaAbs23
import Derived.Test.YtcoajejhnlcmmaaOkP
import Derived.Test.YtcoajejhnlcmmaaEP
import Derived.Test.YtcoajejhnlcmmaaRows
import Derived.ProofKit
set_option linter.unusedVariables false
namespace Go.Proofs.Ytcoajejhnlcmmaa
open Go.ChangeShapes Go.WideShapes Go.ChangeAt Go.RowKit Go.ChangeMaps
open Go.Abs (allOf)
namespace PartsBent
theorem own : ownKnob Try.prog.godebug = none := by kernel_rfl
theorem laidOut : laidOutB Try.prog = true := by kernel_rfl
theorem cov36 : Go.Abs.covB Try.prog [36, 9] = true := by kernel_rfl
set_option maxRecDepth 100000 in
theorem lifted (os : Os) (started : os.Started) (H : Type) (enc : TypeId × Value → H) :
    ReturnsInHanded {} Try.checked os 6 .any (Rows.partsBentSpec.pre6 enc Try.prog Try.f6 Rows.partsBentRow.domain false) (Rows.partsBentSpec.post enc Try.prog Try.f6 false true false false) := by
  refine returnsInHanded_of_change (C := Try.checked) own started (by kernel_rfl) Try.func6
    (ChangeSpec.witness6 (enc := enc) (C := Try.checked) false ⟨#[], #[.slice none 0 0, .int .u16 0, .int .u8 0], []⟩ 8 (by kernel_rfl) (by kernel_rfl) (by kernel_rfl) (by kernel_rfl)) ?_
  intro W base args ds gs before hval0 hW _ _
  have hval : ∀ (j : Nat) t v, Try.f6.params[j]? = some t → args[j]? = some v → Value.okWide Try.prog W .any base t v := hval0
  have hW' := hW
  obtain ⟨p, q, hA0, hV, rfl, _, _⟩ := hW
  have hA : DataW.TrodAll enc Try.prog W 0 (fun _ => true) true Try.f6.params.toList args.toList ds p := hA0
  rw [Try.params6] at hA hval
  obtain ⟨v0, v1, v2, d0, d1, d2, p0, p1, p2, rfl, rfl, rfl, h0, h1, h2⟩ := trodAll_three hA
  obtain ⟨rfl, rfl⟩ := trodVars_none hV
  obtain ⟨a0, r0, w0, q0⟩ := Go.Abs.open_sl Try.underlying36 cov36 (by simp) Go.Abs.P.E_string (fun s => s.length ≤ maxLen) (fun n y _ _ _ h1 h2 => Go.Abs.elem_str Try.underlying9 (h1 (by kernel_rfl)) h2) (hval 0 36 v0 rfl rfl) h0
  obtain ⟨n1, rfl, rfl, rfl, w1⟩ := open_int Try.underlying37 (hval 1 37 v1 rfl rfl) h1
  obtain ⟨n2, rfl, rfl, rfl, w2⟩ := open_int Try.underlying5 (hval 2 5 v2 rfl rfl) h2
  clear hA0 hval0
  simp only [List.append_nil] at hW'
  have e := Go.Abs.P.s_cascadelaw28_PartsBent (Go.Abs.P.PartsBent a0 n1 n2 (by simp [Lit.wf, IntKind.min, IntKind.max, IntKind.bits, IntKind.signed] at w1; omega) (by simp [Lit.wf, IntKind.min, IntKind.max, IntKind.bits, IntKind.signed] at w2; omega)) []
  obtain ⟨c, hc⟩ := Go.Abs.pcall_call e.1
  have hk := Go.Abs.law_calls (Go.Abs.callW_sound Go.Abs.P.match_ok Go.Abs.P.ext_ok Go.Abs.P.mixed) hc (W := W) (args := #[v0, .int .u16 n1, .int .u8 n2]) (Go.Abs.glob_none _ _) (by
    simp only [Go.Abs.RVt]
    exact ⟨_, _, rfl, r0, _, _, rfl, by simp only [Go.Abs.RV, Go.Abs.Rv], _, _, rfl, by simp only [Go.Abs.RV, Go.Abs.Rv], rfl⟩)
  refine hk.mono fun e W' ⟨he, hb⟩ => ?_
  subst he
  have hlt : ∀ x ∈ p0, x.block < W.heap.size := fun x hx => hW'.lt x (by simpa using hx)
  have harg0 : DataW.Trod enc Try.prog W' 0 (fun b => decide (b < W.heap.size)) true 36 (v0) _ p0 :=
    Below.trod laidOut (by kernel_rfl) (of_decide_eq_true (by kernel_rfl)) h0 hb (fun x hx => hlt x (by simp [hx]))
  have harg1 : DataW.Trod enc Try.prog W' 0 (fun b => decide (b < W.heap.size)) true 37 (.int .u16 n1) _ [] :=
    Below.trod laidOut (by kernel_rfl) (of_decide_eq_true (by kernel_rfl)) h1 hb (fun x hx => by cases hx)
  have harg2 : DataW.Trod enc Try.prog W' 0 (fun b => decide (b < W.heap.size)) true 5 (.int .u8 n2) _ [] :=
    Below.trod laidOut (by kernel_rfl) (of_decide_eq_true (by kernel_rfl)) h2 hb (fun x hx => by cases hx)
  refine ⟨_, rfl, _, _, _, [], _, [], hW', ?_, trodAll_mk3 harg0 harg1 harg2, rfl, hb.frame _, fun h => by cases h⟩
  exact trodAll_mk1 (shut_bool Try.underlying4 _)
theorem holds : Rows.PartsBentSaid :=
  OpenClaim.holds_of_wide 6 Try.f6 rfl rfl rfl rfl rfl rfl rfl ⟨rfl, rfl, rfl, rfl, rfl⟩ rfl rfl rfl rfl rfl (by kernel_rfl) Try.func6 (by kernel_rfl)
    (of_decide_eq_true (by kernel_rfl)) (by unfold Func.isWrapper; first | (rw [if_pos (by decide +kernel)]; kernel_rfl) | (rw [if_neg (by decide +kernel)]; exact ⟨rfl, rfl⟩))
    (fun os started H enc _ => lifted os started H enc)
#print axioms holds
end PartsBent
end Go.Proofs.Ytcoajejhnlcmmaa
