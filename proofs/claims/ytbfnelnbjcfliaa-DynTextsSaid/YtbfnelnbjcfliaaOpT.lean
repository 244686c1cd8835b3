import Derived.Test.YtbfnelnbjcfliaaAbs25
import Derived.Test.YtbfnelnbjcfliaaRT
import Derived.Test.YtbfnelnbjcfliaaProg
import Derived.KernelRfl
/-! What is handed in, as natives. -/
set_option linter.unusedVariables false
set_option linter.unusedSimpArgs false
set_option maxRecDepth 100000
namespace Go.Abs.T
open Go.Proofs
theorem c2 : Try.prog.cellsOf 2 = 1 := by kernel_rfl
theorem c3 : Try.prog.cellsOf 3 = 1 := by kernel_rfl
theorem c9 : Try.prog.cellsOf 9 = 1 := by kernel_rfl
theorem c22 : Try.prog.cellsOf 22 = 1 := by kernel_rfl
theorem c23 : Try.prog.cellsOf 23 = 1 := by kernel_rfl
theorem c25 : Try.prog.cellsOf 25 = 5 := by kernel_rfl
theorem c46 : Try.prog.cellsOf 46 = 6 := by kernel_rfl
theorem cov : covB Try.prog [2, 3, 9, 22, 23, 25, 46] = true := by kernel_rfl
theorem opens_25 : ∀ n, (∀ xs, CT Try.prog n 25 xs → ∃ v : S_api_Value, E_api_Value v = .agg (nzL xs)) ∧ (∀ xs, CT Try.prog n 46 xs → ∃ v : S_api_Pair, E_api_Pair v = .agg (nzL xs)) := by
  intro n
  induction n using Nat.strongRecOn with
  | _ n ih =>
  refine ⟨fun xs h => ?_, fun xs h => ?_⟩
  · obtain ⟨m, rfl, hl, hf⟩ := ct_struct Try.underlying25 h
    rw [c25] at hl
    obtain ⟨a0, a1, a2, a3, a4, rfl⟩ : ∃ a0 a1 a2 a3 a4, xs = [a0, a1, a2, a3, a4] := by
      match xs, hl with
      | [a0, a1, a2, a3, a4], _ => exact ⟨_, _, _, _, _, rfl⟩
    have f0 := hf _ (List.mem_iff_getElem?.2 ⟨0, rfl⟩)
    change CT Try.prog m 3 (([a0, a1, a2, a3, a4].drop 0).take (Try.prog.cellsOf 3)) at f0
    rw [c3] at f0
    change CT Try.prog m 3 [a0] at f0
    have f1 := hf _ (List.mem_iff_getElem?.2 ⟨1, rfl⟩)
    change CT Try.prog m 2 (([a0, a1, a2, a3, a4].drop 1).take (Try.prog.cellsOf 2)) at f1
    rw [c2] at f1
    change CT Try.prog m 2 [a1] at f1
    have f2 := hf _ (List.mem_iff_getElem?.2 ⟨2, rfl⟩)
    change CT Try.prog m 9 (([a0, a1, a2, a3, a4].drop 2).take (Try.prog.cellsOf 9)) at f2
    rw [c9] at f2
    change CT Try.prog m 9 [a2] at f2
    have f3 := hf _ (List.mem_iff_getElem?.2 ⟨3, rfl⟩)
    change CT Try.prog m 22 (([a0, a1, a2, a3, a4].drop 3).take (Try.prog.cellsOf 22)) at f3
    rw [c22] at f3
    change CT Try.prog m 22 [a3] at f3
    have f4 := hf _ (List.mem_iff_getElem?.2 ⟨4, rfl⟩)
    change CT Try.prog m 23 (([a0, a1, a2, a3, a4].drop 4).take (Try.prog.cellsOf 23)) at f4
    rw [c23] at f4
    change CT Try.prog m 23 [a4] at f4
    obtain ⟨x0, e0, _⟩ := ct_int Try.underlying3 f0
    cases e0
    obtain ⟨x1, e1, _⟩ := ct_int Try.underlying2 f1
    cases e1
    obtain ⟨x2, e2, _⟩ := ct_str Try.underlying9 f2
    cases e2
    obtain ⟨x3, e3, _⟩ := ct_slice Try.underlying22 E_api_Value f3 (fun q y hq k1 k2 hy => by
      obtain ⟨zs, rfl⟩ := k1 (by kernel_rfl)
      obtain ⟨x, hx⟩ := ((ih q (by omega)).1 zs hy)
      exact ⟨x, by simpa only [nz] using hx⟩)
    simp only [nzL, List.cons.injEq, and_true] at e3
    obtain ⟨x4, e4, _⟩ := ct_slice Try.underlying23 E_api_Pair f4 (fun q y hq k1 k2 hy => by
      obtain ⟨zs, rfl⟩ := k1 (by kernel_rfl)
      obtain ⟨x, hx⟩ := ((ih q (by omega)).2 zs hy)
      exact ⟨x, by simpa only [nz] using hx⟩)
    simp only [nzL, List.cons.injEq, and_true] at e4
    refine ⟨⟨x0, x1, x2, x3, x4⟩, ?_⟩
    simp only [he_E_api_Value, nzL, nz, e3, e4]
  · obtain ⟨m, rfl, hl, hf⟩ := ct_struct Try.underlying46 h
    rw [c46] at hl
    obtain ⟨a0, a1, a2, a3, a4, a5, rfl⟩ : ∃ a0 a1 a2 a3 a4 a5, xs = [a0, a1, a2, a3, a4, a5] := by
      match xs, hl with
      | [a0, a1, a2, a3, a4, a5], _ => exact ⟨_, _, _, _, _, _, rfl⟩
    have f0 := hf _ (List.mem_iff_getElem?.2 ⟨0, rfl⟩)
    change CT Try.prog m 9 (([a0, a1, a2, a3, a4, a5].drop 0).take (Try.prog.cellsOf 9)) at f0
    rw [c9] at f0
    change CT Try.prog m 9 [a0] at f0
    have f1 := hf _ (List.mem_iff_getElem?.2 ⟨1, rfl⟩)
    change CT Try.prog m 25 (([a0, a1, a2, a3, a4, a5].drop 1).take (Try.prog.cellsOf 25)) at f1
    rw [c25] at f1
    change CT Try.prog m 25 [a1, a2, a3, a4, a5] at f1
    obtain ⟨x0, e0, _⟩ := ct_str Try.underlying9 f0
    cases e0
    obtain ⟨x1, e1⟩ := ((ih m (by omega)).1 _ f1)
    obtain ⟨x1_0, x1_1, x1_2, x1_3, x1_4⟩ := x1
    simp only [he_E_api_Value, nzL, nz, D.agg.injEq, List.cons.injEq, and_true] at e1
    refine ⟨⟨x0, ⟨x1_0, x1_1, x1_2, x1_3, x1_4⟩⟩, ?_⟩
    simp only [he_E_api_Pair, nzL, nz, e1]
theorem open_25 (n : Nat) (xs : List D) (h : CT Try.prog n 25 xs) : ∃ v : S_api_Value, E_api_Value v = .agg (nzL xs) := (opens_25 n).1 xs h
theorem open_46 (n : Nat) (xs : List D) (h : CT Try.prog n 46 xs) : ∃ v : S_api_Pair, E_api_Pair v = .agg (nzL xs) := (opens_25 n).2 xs h
end Go.Abs.T
