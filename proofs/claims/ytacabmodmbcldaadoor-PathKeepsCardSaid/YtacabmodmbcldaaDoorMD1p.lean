import Derived.Test.YtacabmodmbcldaaDoorMD0
import Derived.Test.YtacabmodmbcldaaDoorMT5s
/-! Paths and values: which paths are right, whose value is whose. -/
set_option linter.unusedVariables false
set_option linter.unusedSimpArgs false
namespace Go.Abs.T
open M
def stepR (s : Stp) : Bool := if s.index = true then decide (s.key = [] ∧ 0 ≤ s.f_at ∧ s.f_at ≤ 9007199254740991) else decide (s.f_at = 0) && isT s.key
def pathR (p : List Stp) : Bool := decide (p.length ≤ 30) && p.all stepR
theorem step_right (s : Stp) : p_path_right s = some (stepR s) := by
  obtain ⟨k, a, b⟩ := s
  show p_path_right_0 k a b = _
  unfold p_path_right_0 b_path_right_0 stepR
  cases b with
  | false =>
    simp only [Bool.false_eq_true, if_false]
    by_cases h : a = 0
    · rw [eql_t h]
      simp only [text_isT, h, decide_true, Bool.true_and]
    · rw [eql_f h]
      simp [h]
  | true =>
    simp only [if_true]
    by_cases h : k = []
    · rw [seq_t h]
      simp only
      by_cases h2 : 0 ≤ a
      · rw [geq_t h2, r_leq]
        simp [h, h2]
      · rw [geq_f (by omega)]
        simp [h2]
    · rw [seq_f h]
      simp [h]
theorem Right06 (p : List Stp) (hp : p.length ≤ 1000) : p_path_Right p = some (pathR p) := right06 stepR p hp fun s _ => step_right s
theorem Value06 (p : List Stp) (hp : p.length ≤ 1000) : p_path_Value p = some (if pathR p = true then (.mk 4 0 [] (p.map valS) [], 0) else (zv, 1)) := value06 stepR p hp fun s _ => step_right s
/-! ### The reference -/
theorem pathR_long {p : List Stp} (h : 30 < p.length) : pathR p = false := by
  unfold pathR; rw [decide_eq_false (by omega)]; rfl
theorem take_path (p : List Stp) : (decide (p.length ≤ 30) && ((p.take 40).drop 0).all stepR) = pathR p := by
  unfold pathR
  by_cases h : p.length ≤ 30
  · rw [List.take_of_length_le (by omega), List.drop_zero]
  · rw [decide_eq_false h]; rfl
end Go.Abs.T
