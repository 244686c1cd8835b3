import Derived.Test.YtacabmodmbcldaaDoorAbs25
import Derived.Test.YtacabmodmbcldaaDoorRT
import Derived.Test.YtacabmodmbcldaaDoorProg
import Derived.KernelRfl
/-! What is handed in, as natives. -/
set_option linter.unusedVariables false
set_option linter.unusedSimpArgs false
set_option maxRecDepth 100000
namespace Go.Abs.T
open Go.Proofs
theorem c2 : Tryd.prog.cellsOf 2 = 1 := by kernel_rfl
theorem c3 : Tryd.prog.cellsOf 3 = 1 := by kernel_rfl
theorem c4 : Tryd.prog.cellsOf 4 = 1 := by kernel_rfl
theorem c9 : Tryd.prog.cellsOf 9 = 1 := by kernel_rfl
theorem c22 : Tryd.prog.cellsOf 22 = 1 := by kernel_rfl
theorem c25 : Tryd.prog.cellsOf 25 = 1 := by kernel_rfl
theorem c26 : Tryd.prog.cellsOf 26 = 1 := by kernel_rfl
theorem c28 : Tryd.prog.cellsOf 28 = 5 := by kernel_rfl
theorem c42 : Tryd.prog.cellsOf 42 = 3 := by kernel_rfl
theorem c70 : Tryd.prog.cellsOf 70 = 6 := by kernel_rfl
theorem cov : covB Tryd.prog [2, 3, 4, 9, 22, 25, 26, 28, 42, 70] = true := by kernel_rfl
theorem opens_28 : ∀ n, (∀ xs, CT Tryd.prog n 28 xs → ∃ v : S2_, E_e5 v = .agg (nzL xs)) ∧ (∀ xs, CT Tryd.prog n 70 xs → ∃ v : S0_, E_e1 v = .agg (nzL xs)) := by
 intro n
 induction n using Nat.strongRecOn with
 | _ n ih =>
 refine ⟨fun xs h => ?_, fun xs h => ?_⟩
 ·obtain ⟨m, rfl, hl, hf⟩ := ct_struct Tryd.underlying28 h
  rw [c28] at hl
  obtain ⟨a0, a1, a2, a3, a4, rfl⟩ : ∃ a0 a1 a2 a3 a4, xs = [a0, a1, a2, a3, a4] := by
   match xs, hl with
   | [a0, a1, a2, a3, a4], _ => exact ⟨_, _, _, _, _, rfl⟩
  have f0 := hf _ (List.mem_iff_getElem?.2 ⟨0, rfl⟩)
  change CT Tryd.prog m 3 (([a0, a1, a2, a3, a4].drop 0).take (Tryd.prog.cellsOf 3)) at f0
  rw [c3] at f0
  change CT Tryd.prog m 3 [a0] at f0
  have f1 := hf _ (List.mem_iff_getElem?.2 ⟨1, rfl⟩)
  change CT Tryd.prog m 2 (([a0, a1, a2, a3, a4].drop 1).take (Tryd.prog.cellsOf 2)) at f1
  rw [c2] at f1
  change CT Tryd.prog m 2 [a1] at f1
  have f2 := hf _ (List.mem_iff_getElem?.2 ⟨2, rfl⟩)
  change CT Tryd.prog m 9 (([a0, a1, a2, a3, a4].drop 2).take (Tryd.prog.cellsOf 9)) at f2
  rw [c9] at f2
  change CT Tryd.prog m 9 [a2] at f2
  have f3 := hf _ (List.mem_iff_getElem?.2 ⟨3, rfl⟩)
  change CT Tryd.prog m 25 (([a0, a1, a2, a3, a4].drop 3).take (Tryd.prog.cellsOf 25)) at f3
  rw [c25] at f3
  change CT Tryd.prog m 25 [a3] at f3
  have f4 := hf _ (List.mem_iff_getElem?.2 ⟨4, rfl⟩)
  change CT Tryd.prog m 26 (([a0, a1, a2, a3, a4].drop 4).take (Tryd.prog.cellsOf 26)) at f4
  rw [c26] at f4
  change CT Tryd.prog m 26 [a4] at f4
  obtain ⟨x0, e0, _⟩ := ct_int Tryd.underlying3 f0
  cases e0
  obtain ⟨x1, e1, _⟩ := ct_int Tryd.underlying2 f1
  cases e1
  obtain ⟨x2, e2, _⟩ := ct_str Tryd.underlying9 f2
  cases e2
  obtain ⟨x3, e3, _⟩ := ct_slice Tryd.underlying25 E_e5 f3 (fun q y hq k1 k2 hy => by
   obtain ⟨zs, rfl⟩ := k1 (by kernel_rfl)
   obtain ⟨x, hx⟩ := ((ih q (by omega)).1 zs hy)
   exact ⟨x, by simpa only [nz] using hx⟩)
  simp only [nzL, List.cons.injEq, and_true] at e3
  obtain ⟨x4, e4, _⟩ := ct_slice Tryd.underlying26 E_e1 f4 (fun q y hq k1 k2 hy => by
   obtain ⟨zs, rfl⟩ := k1 (by kernel_rfl)
   obtain ⟨x, hx⟩ := ((ih q (by omega)).2 zs hy)
   exact ⟨x, by simpa only [nz] using hx⟩)
  simp only [nzL, List.cons.injEq, and_true] at e4
  refine ⟨⟨x0, x1, x2, x3, x4⟩, ?_⟩
  simp only [he_E_e5, nzL, nz, e3, e4]
 ·obtain ⟨m, rfl, hl, hf⟩ := ct_struct Tryd.underlying70 h
  rw [c70] at hl
  obtain ⟨a0, a1, a2, a3, a4, a5, rfl⟩ : ∃ a0 a1 a2 a3 a4 a5, xs = [a0, a1, a2, a3, a4, a5] := by
   match xs, hl with
   | [a0, a1, a2, a3, a4, a5], _ => exact ⟨_, _, _, _, _, _, rfl⟩
  have f0 := hf _ (List.mem_iff_getElem?.2 ⟨0, rfl⟩)
  change CT Tryd.prog m 9 (([a0, a1, a2, a3, a4, a5].drop 0).take (Tryd.prog.cellsOf 9)) at f0
  rw [c9] at f0
  change CT Tryd.prog m 9 [a0] at f0
  have f1 := hf _ (List.mem_iff_getElem?.2 ⟨1, rfl⟩)
  change CT Tryd.prog m 28 (([a0, a1, a2, a3, a4, a5].drop 1).take (Tryd.prog.cellsOf 28)) at f1
  rw [c28] at f1
  change CT Tryd.prog m 28 [a1, a2, a3, a4, a5] at f1
  obtain ⟨x0, e0, _⟩ := ct_str Tryd.underlying9 f0
  cases e0
  obtain ⟨x1, e1⟩ := ((ih m (by omega)).1 _ f1)
  obtain ⟨x1_0, x1_1, x1_2, x1_3, x1_4⟩ := x1
  simp only [he_E_e5, nzL, nz, D.agg.injEq, List.cons.injEq, and_true] at e1
  refine ⟨⟨x0, ⟨x1_0, x1_1, x1_2, x1_3, x1_4⟩⟩, ?_⟩
  simp only [he_E_e1, nzL, nz, e1]
theorem open_28 (n : Nat) (xs : List D) (h : CT Tryd.prog n 28 xs) : ∃ v : S2_, E_e5 v = .agg (nzL xs) := (opens_28 n).1 xs h
theorem open_42 (n : Nat) (xs : List D) (h : CT Tryd.prog n 42 xs) : ∃ v : S1_, E_e4 v = .agg (nzL xs) := by
 obtain ⟨m, rfl, hl, hf⟩ := ct_struct Tryd.underlying42 h
 rw [c42] at hl
 obtain ⟨a0, a1, a2, rfl⟩ : ∃ a0 a1 a2, xs = [a0, a1, a2] := by
  match xs, hl with
  | [a0, a1, a2], _ => exact ⟨_, _, _, rfl⟩
 have f0 := hf _ (List.mem_iff_getElem?.2 ⟨0, rfl⟩)
 change CT Tryd.prog m 9 (([a0, a1, a2].drop 0).take (Tryd.prog.cellsOf 9)) at f0
 rw [c9] at f0
 change CT Tryd.prog m 9 [a0] at f0
 have f1 := hf _ (List.mem_iff_getElem?.2 ⟨1, rfl⟩)
 change CT Tryd.prog m 3 (([a0, a1, a2].drop 1).take (Tryd.prog.cellsOf 3)) at f1
 rw [c3] at f1
 change CT Tryd.prog m 3 [a1] at f1
 have f2 := hf _ (List.mem_iff_getElem?.2 ⟨2, rfl⟩)
 change CT Tryd.prog m 4 (([a0, a1, a2].drop 2).take (Tryd.prog.cellsOf 4)) at f2
 rw [c4] at f2
 change CT Tryd.prog m 4 [a2] at f2
 obtain ⟨x0, e0, _⟩ := ct_str Tryd.underlying9 f0
 cases e0
 obtain ⟨x1, e1, _⟩ := ct_int Tryd.underlying3 f1
 cases e1
 obtain ⟨x2, e2⟩ := ct_bool Tryd.underlying4 f2
 cases e2
 refine ⟨⟨x0, x1, x2⟩, ?_⟩
 simp only [he_E_e4, nzL, nz]
end Go.Abs.T
