import Derived.Test.YtbfnelnbjcfliaaDoorMT5
/-! The value of a key. -/
set_option linter.unusedVariables false
set_option linter.unusedSimpArgs false
namespace Go.Abs.T
open M
def getS (k : Str) : List Par → Val × Bool
  | [] => (zv, false)
  | p :: r => if keyOf p = k then (valOf p, true) else getS k r
theorem getS_yes {k kx : Str} {v : Val} {r : List Par} (h : kx = k) : getS k (.mk kx v :: r) = (v, true) := by
  rw [getS, if_pos (show keyOf (.mk kx v) = k from h), valOf_mk]
theorem getS_no {k kx : Str} {v : Val} {r : List Par} (h : ¬ kx = k) : getS k (.mk kx v :: r) = getS k r := by
  rw [getS, if_neg (show ¬ keyOf (.mk kx v) = k from h)]
theorem getS_in (k : Str) : ∀ f : List Par, cnt (getS k f).1 ≤ cntF f + 1
  | [] => by simp [getS, cnt, cntL, cntF]
  | p :: r => by
    have := getS_in k r
    unfold getS
    simp only [cntF, cntP_eq]
    split
    · simp only; omega
    · omega
theorem at_1 (k : Str) (a b : Int) (s : Str) (l : List Val) (f : List Par) (hf : f.length ≤ 1000) : ∀ (m i : Nat), f.length - i ≤ m → i ≤ f.length →
    (p_cascaderef03_At_1 k a b s l f (i : Int) = some (-1) ∧ getS k (f.drop i) = (zv, false)) ∨ ∃ (j : Nat) (p : Par), p_cascaderef03_At_1 k a b s l f (i : Int) = some (j : Int) ∧ f[j]? = some p ∧ getS k (f.drop i) = (valOf p, true)
  | m, i, hm, hi => by
    rw [u_cascaderef03_At_1]
    unfold b_cascaderef03_At_1
    rw [r_len]
    by_cases h : i < f.length
    · have hx : f[i]? = some f[i] := List.getElem?_eq_getElem h
      rw [lss_t (by omega), r_idx hx, List.drop_eq_getElem_cons h]
      generalize f[i] = x at hx
      obtain ⟨kx, ⟨x0, x1, x2, x3, x4⟩⟩ := x
      simp only
      by_cases e : kx = k
      · rw [seq_t e, getS_yes e]
        exact .inr ⟨i, _, rfl, hx, by rw [valOf_mk]⟩
      · rw [seq_f e, getS_no e, r_add (by unfold fit64; omega)]
        cases m with
        | zero => omega
        | succ m =>
          rw [show ((i : Int) + 1) = ((i + 1 : Nat) : Int) by omega]
          exact at_1 k a b s l f hf m (i + 1) (by omega) (by omega)
    · rw [lss_f (by omega), List.drop_eq_nil_of_le (by omega)]
      exact .inl ⟨rfl, rfl⟩
theorem At (k : Str) (a b : Int) (s : Str) (l : List Val) (f : List Par) (hf : f.length ≤ 1000) :
    (p_cascaderef03_At (.mk a b s l f) k = some (-1) ∧ getS k f = (zv, false)) ∨ ∃ (j : Nat) (p : Par), p_cascaderef03_At (.mk a b s l f) k = some (j : Int) ∧ f[j]? = some p ∧ getS k f = (valOf p, true) := by
  have := at_1 k a b s l f hf _ 0 (Nat.le_refl _) (by omega)
  rw [List.drop_zero, Int.natCast_zero] at this
  exact this
end Go.Abs.T
