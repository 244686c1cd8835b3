import Derived.Test.YtacabmodmbcldaaDoorMD0
import Derived.Test.YtacabmodmbcldaaDoorMT5s
/-! Paths and values: which paths are right, whose value is whose. -/
set_option linter.unusedVariables false
set_option linter.unusedSimpArgs false
namespace Go.Abs.T
open M
def stepR (s : Stp) : Bool := if s.index = true then decide (s.key = [] ∧ 0 ≤ s.f_at ∧ s.f_at ≤ 9007199254740991) else decide (s.f_at = 0) && isT s.key
def pathR (p : List Stp) : Bool := decide (p.length ≤ 30) && p.all stepR
theorem step_right (s : Stp) : p_path_right s = some (stepR s) := by
  obtain ⟨k, a, b⟩ := s
  show p_path_right_0 k a b = _
  unfold p_path_right_0 b_path_right_0 stepR
  cases b with
  | false =>
    simp only [Bool.false_eq_true, if_false]
    by_cases h : a = 0
    · rw [eql_t h]
      simp only [text_isT, h, decide_true, Bool.true_and]
    · rw [eql_f h]
      simp [h]
  | true =>
    simp only [if_true]
    by_cases h : k = []
    · rw [seq_t h]
      simp only
      by_cases h2 : 0 ≤ a
      · rw [geq_t h2, r_leq]
        simp [h, h2]
      · rw [geq_f (by omega)]
        simp [h2]
    · rw [seq_f h]
      simp [h]
theorem Right06 (p : List Stp) (hp : p.length ≤ 1000) : p_path_Right p = some (pathR p) := right06 stepR p hp fun s _ => step_right s
theorem Value06 (p : List Stp) (hp : p.length ≤ 1000) : p_path_Value p = some (if pathR p = true then (.mk 4 0 [] (p.map valS) [], 0) else (zv, 1)) := value06 stepR p hp fun s _ => step_right s
/-! ### The reference -/
theorem pathR_long {p : List Stp} (h : 30 < p.length) : pathR p = false := by
  unfold pathR; rw [decide_eq_false (by omega)]; rfl
theorem refRight_1 (p : List Stp) (hk : ∀ s ∈ p, s.key.length ≤ 500) : ∀ (m i : Nat), 40 - i ≤ m → i ≤ 40 → p_cascaderef06_Right_1 p (i : Int) = some (decide (p.length ≤ 30) && ((p.take 40).drop i).all stepR)
  | m, i, hm, hi => by
    rw [u_cascaderef06_Right_1]
    unfold b_cascaderef06_Right_1
    have e : p_cascaderef06_Right_4 p = some (decide (p.length ≤ 30)) := by
      unfold p_cascaderef06_Right_4 b_cascaderef06_Right_4
      rw [r_len, r_leq]
      congr 2
      simp only [eq_iff_iff]; omega
    rw [r_len]
    by_cases h : i < p.length
    · rw [lss_t (by omega)]
      by_cases h4 : i < 40
      · have hlt : i < (p.take 40).length := by simp; omega
        rw [lss_t (by omega), r_idx (List.getElem?_eq_getElem h), List.drop_eq_getElem_cons hlt]
        have hg : (p.take 40)[i] = p[i] := by simp
        rw [hg]
        have hx : p[i] ∈ p := List.getElem_mem h
        have hkx := hk _ hx
        generalize p[i] = x at *
        obtain ⟨k, a, b⟩ := x
        have hnext : m ≠ 0 → p_cascaderef06_Right_1 p ((i : Int) + 1) = some (decide (p.length ≤ 30) && ((p.take 40).drop (i + 1)).all stepR) := by
          intro h0
          cases m with
          | zero => omega
          | succ m =>
            rw [show ((i : Int) + 1) = ((i + 1 : Nat) : Int) by omega]
            exact refRight_1 p hk m (i + 1) (by omega) (by omega)
        have e3 : p_cascaderef06_Right_3 p (i : Int) = some (.inl (p, (i : Int) + 1)) := by
          unfold p_cascaderef06_Right_3 b_cascaderef06_Right_3
          rw [r_add (by unfold fit64; omega)]
        cases b with
        | false =>
          simp only
          by_cases ha : a = 0
          · rw [neq_f ha]
            simp only [ref_isT k (by simpa using Nat.le_trans hkx (by decide))]
            cases ht : isT k with
            | false => simp [stepR, ht]
            | true =>
              simp only [e3, hnext (by omega)]
              simp [stepR, ht, ha]
          · rw [neq_t ha]
            simp [stepR, ha]
        | true =>
          simp only
          by_cases hk0 : k = []
          · rw [seq_t hk0]
            simp only
            by_cases ha : a < 0
            · rw [lss_t ha]
              have : ¬ 0 ≤ a := by omega
              simp [stepR, this]
            · rw [lss_f (by omega)]
              simp only
              by_cases ha2 : 9007199254740991 < a
              · rw [gtr_t ha2]
                have : ¬ a ≤ 9007199254740991 := by omega
                simp [stepR, this]
              · rw [gtr_f (by omega)]
                simp only [e3, hnext (by omega)]
                have h1 : 0 ≤ a := by omega
                have h2 : a ≤ 9007199254740991 := by omega
                simp [stepR, hk0, h1, h2]
          · rw [seq_f hk0]
            simp [stepR, hk0]
      · rw [lss_f (by omega)]
        simp only [e]
        rw [List.drop_eq_nil_of_le (by simp; omega)]
        simp
    · rw [lss_f (by omega)]
      simp only [e]
      rw [List.drop_eq_nil_of_le (by simp; omega)]
      simp
theorem take_path (p : List Stp) : (decide (p.length ≤ 30) && ((p.take 40).drop 0).all stepR) = pathR p := by
  unfold pathR
  by_cases h : p.length ≤ 30
  · rw [List.take_of_length_le (by omega), List.drop_zero]
  · rw [decide_eq_false h]; rfl
theorem refRight06 (p : List Stp) (hk : ∀ s ∈ p, s.key.length ≤ 500) : p_cascaderef06_Right p = some (pathR p) := by
  unfold p_cascaderef06_Right p_cascaderef06_Right_0 b_cascaderef06_Right_0
  have := refRight_1 p hk 40 0 (by omega) (by omega)
  rw [take_path] at this
  exact this
end Go.Abs.T
