/- The law UsageThird returns true for every three types, and changes nothing that was handed in. No condition. -/
import Derived.Test.YtcoajejhnlcmmaaU2
import Derived.Test.YtcoajejhnlcmmaaOk
import Derived.Test.YtcoajejhnlcmmaaAbs22
import Derived.Test.YtcoajejhnlcmmaaRows
import Derived.ProofKit
namespace Go.Proofs.Ytcoajejhnlcmmaa
open Go.ChangeShapes Go.WideShapes Go.ChangeAt Go.RowKit
namespace Third
theorem own : ownKnob Try.prog.godebug = none := by kernel_rfl
theorem laidOut : laidOutB Try.prog = true := by kernel_rfl
theorem cov : Go.Abs.covB Try.prog [23, 9] = true := by kernel_rfl
/-- A type that is handed in: two texts. -/
theorem open_type {H : Type} {enc : TypeId × Value → H} {W : World} {sp : Nat → Bool} {base : Nat} {v : Value} {d : DataW H} {p : List MemPlace} (hv : Value.okWide Try.prog W .any base 23 v) (h : DataW.Trod enc Try.prog W 0 sp true 23 v d p) :
    ∃ a b : Go.Abs.Str, Go.Abs.RV (fun _ => ⟨0, 0⟩) (Go.Abs.allOf W) [] W (.d (.agg [.str a, .str b])) v ∧ a.length ≤ maxLen ∧ b.length ≤ maxLen := by
  obtain ⟨cs, rfl, _⟩ := okWide_struct Try.underlying23 hv
  obtain ⟨fuel, hf⟩ := h
  obtain ⟨xs, h1, h2⟩ := Go.Abs.opens cov fuel 23 _ _ (by simp) hf
  cases fuel with
  | zero => exact h2.elim
  | succ n =>
    unfold Go.Abs.CT at h2
    simp only [Try.underlying23] at h2
    obtain ⟨h3, h4⟩ := h2
    have hc : Try.prog.cellsOf 23 = 2 := by kernel_rfl
    have hc9 : Try.prog.cellsOf 9 = 1 := by kernel_rfl
    rw [hc] at h3
    match xs, h3 with
    | [x, y], _ =>
      have f0 := h4 ⟨"Name", 9, 0, false, "", "", 0⟩ (by simp)
      have f1 := h4 ⟨"Wraps", 9, 1, false, "", "", 16⟩ (by simp)
      cases n with
      | zero => exact f0.elim
      | succ m =>
        unfold Go.Abs.CT at f0 f1
        simp only [Try.underlying9, hc9] at f0 f1
        obtain ⟨a, e0, l0⟩ := f0
        obtain ⟨b, e1, l1⟩ := f1
        simp at e0 e1
        subst e0; subst e1
        refine ⟨a, b, ?_, l0, l1⟩
        simp only [Go.Abs.RV, Go.Abs.Rv]
        exact ⟨cs, rfl, by simpa [Value.cells] using h1⟩

set_option maxRecDepth 100000 in
theorem usageThird_lifted (os : Os) (started : os.Started) (H : Type) (enc : TypeId × Value → H) :
    ReturnsInHanded {} Try.checked os 4 .any (Rows.usageThirdSpec.pre6 enc Try.prog Try.f4 Rows.usageThirdRow.domain false) (Rows.usageThirdSpec.post enc Try.prog Try.f4 false true false false) := by
  refine returnsInHanded_of_change (C := Try.checked) own started (by kernel_rfl) Try.func4
    (ChangeSpec.witness6 (enc := enc) (C := Try.checked) false ⟨#[], #[.agg #[.string .empty, .string .empty], .agg #[.string .empty, .string .empty], .agg #[.string .empty, .string .empty]], []⟩ 8 (by kernel_rfl) (by kernel_rfl) (by kernel_rfl) (by kernel_rfl)) ?_
  intro W base args ds gs before hval0 hW _ _
  have hval : ∀ (j : Nat) t v, Try.f4.params[j]? = some t → args[j]? = some v → Value.okWide Try.prog W .any base t v := hval0
  have hW' := hW
  obtain ⟨p, q, hA0, hV, rfl, _, _⟩ := hW
  have hA : DataW.TrodAll enc Try.prog W 0 (fun _ => true) true Try.f4.params.toList args.toList ds p := hA0
  rw [Try.params4] at hA hval
  obtain ⟨v0, v1, v2, d0, d1, d2, p0, p1, p2, rfl, rfl, rfl, h0, h1, h2⟩ := trodAll_three hA
  obtain ⟨rfl, rfl⟩ := trodVars_none hV
  clear hA0 hval0
  simp only [List.append_nil] at hW'
  have hlt : ∀ x ∈ p0 ++ p1 ++ p2, x.block < W.heap.size := fun x hx => by simpa using hW'.lt x hx
  obtain ⟨a0, b0, r0, la0, lb0⟩ := open_type (hval 0 23 v0 rfl rfl) h0
  obtain ⟨a1, b1, r1, la1, lb1⟩ := open_type (hval 1 23 v1 rfl rfl) h1
  obtain ⟨a2, b2, r2, la2, lb2⟩ := open_type (hval 2 23 v2 rfl rfl) h2
  have sm : ∀ n, n ≤ maxLen → Go.Abs.Facts.small n := fun n h => by unfold Go.Abs.Facts.small; simp only [maxLen] at h; omega
  obtain ⟨os', eqn⟩ := Go.Abs.B.UsageThird_eq (Go.Abs.Laws.real Go.Abs.B.table (fun _ => none)) rfl a0 a1 a2 b0 b1 b2 (sm _ la0) (sm _ la1) (sm _ la2) (sm _ lb0) (sm _ lb1) (sm _ lb2)
  have hc := Go.Abs.law_calls (Go.Abs.callW_sound Go.Abs.B.table_ok Go.Abs.B.mixed) eqn (W := W) (args := #[v0, v1, v2]) (Go.Abs.glob_none _ _) (by simp only [Go.Abs.RVt]; exact ⟨v0, [v1, v2], rfl, r0, v1, [v2], rfl, r1, v2, [], rfl, r2, rfl⟩)
  refine hc.mono fun e W' ⟨he, hb⟩ => ?_
  subst he
  have harg0 : DataW.Trod enc Try.prog W' 0 (fun b => decide (b < W.heap.size)) true 23 v0 d0 p0 :=
    Below.trod laidOut (by kernel_rfl) (of_decide_eq_true (by kernel_rfl)) h0 hb (fun x hx => hlt x (by simp [hx]))
  have harg1 : DataW.Trod enc Try.prog W' 0 (fun b => decide (b < W.heap.size)) true 23 v1 d1 p1 :=
    Below.trod laidOut (by kernel_rfl) (of_decide_eq_true (by kernel_rfl)) h1 hb (fun x hx => hlt x (by simp [hx]))
  have harg2 : DataW.Trod enc Try.prog W' 0 (fun b => decide (b < W.heap.size)) true 23 v2 d2 p2 :=
    Below.trod laidOut (by kernel_rfl) (of_decide_eq_true (by kernel_rfl)) h2 hb (fun x hx => hlt x (by simp [hx]))
  refine ⟨_, rfl, _, _, _, [], _, [], hW', ?_, trodAll_mk3 harg0 harg1 harg2, rfl, hb.frame _, fun h => by cases h⟩
  exact trodAll_mk1 (shut_bool Try.underlying4 _)

theorem holds : Rows.UsageThirdSaid :=
  OpenClaim.holds_of_wide 4 Try.f4 rfl rfl rfl rfl rfl rfl rfl ⟨rfl, rfl, rfl, rfl, rfl⟩ rfl rfl rfl rfl rfl (by kernel_rfl) Try.func4 (by kernel_rfl)
    (of_decide_eq_true (by kernel_rfl)) (by unfold Func.isWrapper; first | (rw [if_pos (by decide +kernel)]; kernel_rfl) | (rw [if_neg (by decide +kernel)]; exact ⟨rfl, rfl⟩))
    (fun os started H enc _ => usageThird_lifted os started H enc)
#print axioms holds
end Third
end Go.Proofs.Ytcoajejhnlcmmaa
