import Derived.Test.YtbfnelnbjcfliaaDoorMT5
/-! The value of a key. -/
set_option linter.unusedVariables false
set_option linter.unusedSimpArgs false
namespace Go.Abs.T
open M
def getS (k : Str) : List Par → Val × Bool
  | [] => (zv, false)
  | p :: r => if keyOf p = k then (valOf p, true) else getS k r
theorem getS_yes {k kx : Str} {v : Val} {r : List Par} (h : kx = k) : getS k (.mk kx v :: r) = (v, true) := by
  rw [getS, if_pos (show keyOf (.mk kx v) = k from h), valOf_mk]
theorem getS_no {k kx : Str} {v : Val} {r : List Par} (h : ¬ kx = k) : getS k (.mk kx v :: r) = getS k r := by
  rw [getS, if_neg (show ¬ keyOf (.mk kx v) = k from h)]
theorem get_1 (k : Str) (f : List Par) (hf : f.length ≤ 1000) (o0 o1 : Int) (o2 : Str) (o3 : List Val) (o4 : List Par) : ∀ (m i : Nat), f.length - i ≤ m → i ≤ f.length →
    p_tree_get_1 k f (f.length : Int) (i : Int) o0 o1 o2 o3 o4 = some (getS k (f.drop i))
  | m, i, hm, hi => by
    rw [u_tree_get_1]
    unfold b_tree_get_1
    by_cases h : i < f.length
    · rw [lss_t (by omega), r_idx (List.getElem?_eq_getElem h), List.drop_eq_getElem_cons h]
      generalize f[i] = x
      obtain ⟨kx, ⟨x0, x1, x2, x3, x4⟩⟩ := x
      simp only
      by_cases e : kx = k
      · rw [seq_t e, getS_yes e]
      · rw [seq_f e, getS_no e, r_add (by unfold fit64; omega)]
        cases m with
        | zero => omega
        | succ m =>
          rw [show ((i : Int) + 1) = ((i + 1 : Nat) : Int) by omega]
          exact get_1 k f hf o0 o1 o2 o3 o4 m (i + 1) (by omega) (by omega)
    · rw [lss_f (by omega), List.drop_eq_nil_of_le (by omega)]
      rfl
theorem getS_in (k : Str) : ∀ f : List Par, cnt (getS k f).1 ≤ cntF f + 1
  | [] => by simp [getS, cnt, cntL, cntF]
  | p :: r => by
    have := getS_in k r
    unfold getS
    simp only [cntF, cntP_eq]
    split
    · simp only; omega
    · omega
theorem tree_get (a b : Int) (s : Str) (l : List Val) (f : List Par) (k : Str) (hf : f.length ≤ 1000) : p_tree_get (.mk a b s l f) k = some (getS k f) := by
  show p_tree_get_0 a b s l f k = _
  unfold p_tree_get_0 b_tree_get_0
  rw [r_len]
  have := get_1 k f hf 0 0 [] [] [] _ 0 (Nat.le_refl _) (by omega)
  simpa using this
end Go.Abs.T
