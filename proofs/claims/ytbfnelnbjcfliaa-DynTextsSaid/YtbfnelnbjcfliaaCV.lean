/- The law DynTexts returns true for every input, and changes nothing that was handed in. The package-level variables of the library that are listed read as their initialisers lay them (tied). -/
import Derived.Test.YtbfnelnbjcfliaaMU3
import Derived.Test.YtbfnelnbjcfliaaAbs23
import Derived.Test.YtbfnelnbjcfliaaOkT
import Derived.Test.YtbfnelnbjcfliaaET
import Derived.Test.YtbfnelnbjcfliaaOpT
import Derived.Test.YtbfnelnbjcfliaaRows
import Derived.ProofKit
set_option linter.unusedVariables false
namespace Go.Proofs.Ytbfnelnbjcfliaa
open Go.ChangeShapes Go.WideShapes Go.ChangeAt Go.RowKit Go.ChangeMaps
open Go.Abs (allOf)
namespace DynTexts
theorem own : ownKnob Try.prog.godebug = none := by kernel_rfl
theorem laidOut : laidOutB Try.prog = true := by kernel_rfl
set_option maxRecDepth 100000 in
theorem lifted (os : Os) (started : os.Started) (H : Type) (enc : TypeId × Value → H) :
    ReturnsInHanded {} Try.checked os 3 .any (Rows.dynTextsSpec.pre6 enc Try.prog Try.f3 Rows.dynTextsRow.domain false) (Rows.dynTextsSpec.post enc Try.prog Try.f3 false true false false) := by
  refine returnsInHanded_of_change (C := Try.checked) own started (by kernel_rfl) Try.func3
    (ChangeSpec.witness6 (enc := enc) (C := Try.checked) false ⟨#[], #[.agg #[.int .i64 0, .int .i64 0, .string .empty, .slice none 0 0, .slice none 0 0]], []⟩ 8 (by kernel_rfl) (by kernel_rfl) (by kernel_rfl) (by kernel_rfl)) ?_
  intro W base args ds gs before hval0 hW _ _
  have hval : ∀ (j : Nat) t v, Try.f3.params[j]? = some t → args[j]? = some v → Value.okWide Try.prog W .any base t v := hval0
  have hW' := hW
  obtain ⟨p, q, hA0, hV, rfl, _, _⟩ := hW
  have hA : DataW.TrodAll enc Try.prog W 0 (fun _ => true) true Try.f3.params.toList args.toList ds p := hA0
  rw [Try.params3] at hA hval
  obtain ⟨v0, d0, rfl, rfl, h0⟩ := trodAll_one hA
  obtain ⟨rfl, rfl⟩ := trodVars_none hV
  obtain ⟨n0, xs0, r0, c0⟩ := Go.Abs.open_st Try.underlying25 Go.Abs.T.cov (by decide) (hval 0 25 v0 rfl rfl) h0
  obtain ⟨⟨u0_0, u0_1, u0_2, u0_3, u0_4⟩, e0⟩ := Go.Abs.T.open_25 _ _ c0
  rw [← e0, Go.Abs.T.he_E_api_Value] at r0
  clear hA0 hval0
  simp only [List.append_nil] at hW'
  have e := Go.Abs.T.s_cascadelaw04_DynTexts ((Go.Abs.T.DynTexts (⟨u0_0, u0_1, u0_2, u0_3, u0_4⟩ : Go.Abs.T.S_api_Value))) []
  obtain ⟨c, hc⟩ := Go.Abs.pcall_call e.1
  have hk := Go.Abs.law_calls (Go.Abs.callW_sound Go.Abs.T.match_ok Go.Abs.T.ext_ok Go.Abs.T.mixed) hc (W := W) (args := #[v0]) (Go.Abs.glob_none _ _) (by
    simp only [Go.Abs.RVt]
    exact ⟨_, _, rfl, r0, rfl⟩)
  refine hk.mono fun e W' ⟨he, hb⟩ => ?_
  subst he
  have hlt : ∀ x ∈ p, x.block < W.heap.size := fun x hx => hW'.lt x (by simpa using hx)
  have harg0 : DataW.Trod enc Try.prog W' 0 (fun b => decide (b < W.heap.size)) true 25 (v0) _ p :=
    Below.trod laidOut (by kernel_rfl) (of_decide_eq_true (by kernel_rfl)) h0 hb (fun x hx => hlt x (by simp [hx]))
  refine ⟨_, rfl, _, _, _, [], _, [], hW', ?_, trodAll_mk1 harg0, rfl, hb.frame _, fun h => by cases h⟩
  exact trodAll_mk1 (shut_bool Try.underlying4 _)
theorem holds : Rows.DynTextsSaid :=
  OpenClaim.holds_of_wide 3 Try.f3 rfl rfl rfl rfl rfl rfl rfl ⟨rfl, rfl, rfl, rfl, rfl⟩ rfl rfl rfl rfl rfl (by kernel_rfl) Try.func3 (by kernel_rfl)
    (of_decide_eq_true (by kernel_rfl)) (by unfold Func.isWrapper; first | (rw [if_pos (by decide +kernel)]; kernel_rfl) | (rw [if_neg (by decide +kernel)]; exact ⟨rfl, rfl⟩))
    (fun os started H enc _ => lifted os started H enc)
#print axioms holds
end DynTexts
end Go.Proofs.Ytbfnelnbjcfliaa
