import Derived.Test.YtacabmodmbcldaaDoorAbs25
import Derived.Test.YtacabmodmbcldaaDoorRT
import Derived.Test.YtacabmodmbcldaaDoorProg
import Derived.KernelRfl
/-! What is handed in, as natives. -/
set_option linter.unusedVariables false
set_option linter.unusedSimpArgs false
set_option maxRecDepth 100000
namespace Go.Abs.T
open Go.Proofs
theorem c3 : Tryd.prog.cellsOf 3 = 1 := by kernel_rfl
theorem c4 : Tryd.prog.cellsOf 4 = 1 := by kernel_rfl
theorem c9 : Tryd.prog.cellsOf 9 = 1 := by kernel_rfl
theorem c22 : Tryd.prog.cellsOf 22 = 1 := by kernel_rfl
theorem c42 : Tryd.prog.cellsOf 42 = 3 := by kernel_rfl
theorem cov : covB Tryd.prog [3, 4, 9, 22, 42] = true := by kernel_rfl
theorem open_42 (n : Nat) (xs : List D) (h : CT Tryd.prog n 42 xs) : ∃ v : S_api_Step, E_api_Step v = .agg (nzL xs) := by
  obtain ⟨m, rfl, hl, hf⟩ := ct_struct Tryd.underlying42 h
  rw [c42] at hl
  obtain ⟨a0, a1, a2, rfl⟩ : ∃ a0 a1 a2, xs = [a0, a1, a2] := by
    match xs, hl with
    | [a0, a1, a2], _ => exact ⟨_, _, _, rfl⟩
  have f0 := hf _ (List.mem_iff_getElem?.2 ⟨0, rfl⟩)
  change CT Tryd.prog m 9 (([a0, a1, a2].drop 0).take (Tryd.prog.cellsOf 9)) at f0
  rw [c9] at f0
  change CT Tryd.prog m 9 [a0] at f0
  have f1 := hf _ (List.mem_iff_getElem?.2 ⟨1, rfl⟩)
  change CT Tryd.prog m 3 (([a0, a1, a2].drop 1).take (Tryd.prog.cellsOf 3)) at f1
  rw [c3] at f1
  change CT Tryd.prog m 3 [a1] at f1
  have f2 := hf _ (List.mem_iff_getElem?.2 ⟨2, rfl⟩)
  change CT Tryd.prog m 4 (([a0, a1, a2].drop 2).take (Tryd.prog.cellsOf 4)) at f2
  rw [c4] at f2
  change CT Tryd.prog m 4 [a2] at f2
  obtain ⟨x0, e0, _⟩ := ct_str Tryd.underlying9 f0
  cases e0
  obtain ⟨x1, e1, _⟩ := ct_int Tryd.underlying3 f1
  cases e1
  obtain ⟨x2, e2⟩ := ct_bool Tryd.underlying4 f2
  cases e2
  refine ⟨⟨x0, x1, x2⟩, ?_⟩
  simp only [he_E_api_Step, nzL, nz]
end Go.Abs.T
