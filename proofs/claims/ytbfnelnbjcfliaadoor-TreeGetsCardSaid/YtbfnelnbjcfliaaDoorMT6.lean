import Derived.Test.YtbfnelnbjcfliaaDoorMT5
/-! The value of a key. -/
set_option linter.unusedVariables false
set_option linter.unusedSimpArgs false
namespace Go.Abs.T
open M
def getS (k : Str) : List Par → Val × Bool
  | [] => (zv, false)
  | p :: r => if keyOf p = k then (valOf p, true) else getS k r
theorem getS_yes {k kx : Str} {v : Val} {r : List Par} (h : kx = k) : getS k (.mk kx v :: r) = (v, true) := by
  rw [getS, if_pos (show keyOf (.mk kx v) = k from h), valOf_mk]
theorem getS_no {k kx : Str} {v : Val} {r : List Par} (h : ¬ kx = k) : getS k (.mk kx v :: r) = getS k r := by
  rw [getS, if_neg (show ¬ keyOf (.mk kx v) = k from h)]
theorem get_1 (k : Str) (f : List Par) (hf : f.length ≤ 1000) (o0 o1 : Int) (o2 : Str) (o3 : List Val) (o4 : List Par) : ∀ (m i : Nat), f.length - i ≤ m → i ≤ f.length →
    p_tree_get_1 k f (f.length : Int) (i : Int) o0 o1 o2 o3 o4 = some (getS k (f.drop i))
  | m, i, hm, hi => by
    rw [u_tree_get_1]
    unfold b_tree_get_1
    by_cases h : i < f.length
    · rw [lss_t (by omega), r_idx (List.getElem?_eq_getElem h), List.drop_eq_getElem_cons h]
      generalize f[i] = x
      obtain ⟨kx, ⟨x0, x1, x2, x3, x4⟩⟩ := x
      simp only
      by_cases e : kx = k
      · rw [seq_t e, getS_yes e]
      · rw [seq_f e, getS_no e, r_add (by unfold fit64; omega)]
        cases m with
        | zero => omega
        | succ m =>
          rw [show ((i : Int) + 1) = ((i + 1 : Nat) : Int) by omega]
          exact get_1 k f hf o0 o1 o2 o3 o4 m (i + 1) (by omega) (by omega)
    · rw [lss_f (by omega), List.drop_eq_nil_of_le (by omega)]
      rfl
theorem getS_in (k : Str) : ∀ f : List Par, cnt (getS k f).1 ≤ cntF f + 1
  | [] => by simp [getS, cnt, cntL, cntF]
  | p :: r => by
    have := getS_in k r
    unfold getS
    simp only [cntF, cntP_eq]
    split
    · simp only; omega
    · omega
theorem tree_get (a b : Int) (s : Str) (l : List Val) (f : List Par) (k : Str) (hf : f.length ≤ 1000) : p_tree_get (.mk a b s l f) k = some (getS k f) := by
  show p_tree_get_0 a b s l f k = _
  unfold p_tree_get_0 b_tree_get_0
  rw [r_len]
  have := get_1 k f hf 0 0 [] [] [] _ 0 (Nat.le_refl _) (by omega)
  simpa using this
theorem Get (a b : Int) (s : Str) (l : List Val) (f : List Par) (k : Str) (hc : cnt (.mk a b s l f) ≤ 90) (hs : strs (.mk a b s l f) = true) : p_tree_Get (.mk a b s l f) k = some (if rR 12 (.mk a b s l f) = true then getS k f else (zv, false)) := by
  have hf : cntF f ≤ 90 := by simp only [cnt] at hc; omega
  have hlen := cntF_len f
  show p_tree_Get_0 a b s l f k = _
  unfold p_tree_Get_0 b_tree_Get_0
  simp only [tree_Right _ (show cnt (.mk a b s l f) ≤ 100 by omega) hs]
  cases rR 12 (.mk a b s l f) with
  | false => simp
  | true =>
    simp only [if_true, tree_get a b s l f k (by omega)]
    have hg := getS_in k f
    generalize getS k f = g at hg
    obtain ⟨⟨x0, x1, x2, x3, x4⟩, ok⟩ := g
    replace hg : cnt (.mk x0 x1 x2 x3 x4) ≤ cntF f + 1 := hg
    simp only [clone _ (show cnt (.mk x0 x1 x2 x3 x4) ≤ 100 by omega)]
theorem at_1 (k : Str) (a b : Int) (s : Str) (l : List Val) (f : List Par) (hf : f.length ≤ 1000) : ∀ (m i : Nat), f.length - i ≤ m → i ≤ f.length →
    (p_cascaderef03_At_1 k a b s l f (i : Int) = some (-1) ∧ getS k (f.drop i) = (zv, false)) ∨ ∃ (j : Nat) (p : Par), p_cascaderef03_At_1 k a b s l f (i : Int) = some (j : Int) ∧ f[j]? = some p ∧ getS k (f.drop i) = (valOf p, true)
  | m, i, hm, hi => by
    rw [u_cascaderef03_At_1]
    unfold b_cascaderef03_At_1
    rw [r_len]
    by_cases h : i < f.length
    · have hx : f[i]? = some f[i] := List.getElem?_eq_getElem h
      rw [lss_t (by omega), r_idx hx, List.drop_eq_getElem_cons h]
      generalize f[i] = x at hx
      obtain ⟨kx, ⟨x0, x1, x2, x3, x4⟩⟩ := x
      simp only
      by_cases e : kx = k
      · rw [seq_t e, getS_yes e]
        exact .inr ⟨i, _, rfl, hx, by rw [valOf_mk]⟩
      · rw [seq_f e, getS_no e, r_add (by unfold fit64; omega)]
        cases m with
        | zero => omega
        | succ m =>
          rw [show ((i : Int) + 1) = ((i + 1 : Nat) : Int) by omega]
          exact at_1 k a b s l f hf m (i + 1) (by omega) (by omega)
    · rw [lss_f (by omega), List.drop_eq_nil_of_le (by omega)]
      exact .inl ⟨rfl, rfl⟩
theorem At (k : Str) (a b : Int) (s : Str) (l : List Val) (f : List Par) (hf : f.length ≤ 1000) :
    (p_cascaderef03_At (.mk a b s l f) k = some (-1) ∧ getS k f = (zv, false)) ∨ ∃ (j : Nat) (p : Par), p_cascaderef03_At (.mk a b s l f) k = some (j : Int) ∧ f[j]? = some p ∧ getS k f = (valOf p, true) := by
  have := at_1 k a b s l f hf _ 0 (Nat.le_refl _) (by omega)
  rw [List.drop_zero, Int.natCast_zero] at this
  exact this
theorem TreeGets (v : Val) (k : Str) : p_cascadelaw03_TreeGets v k = some true := by
  obtain ⟨a, b, s, l, f⟩ := v
  show p_cascadelaw03_TreeGets_0 a b s l f k = _
  unfold p_cascadelaw03_TreeGets_0 b_cascadelaw03_TreeGets_0
  simp only [awake03]
  rcases Few (.mk a b s l f) 60 (by omega) with h | ⟨h, hc, hs⟩
  · rw [show ((60 : Nat) : Int) = 60 from rfl] at h
    simp only [h]
  · rw [show ((60 : Nat) : Int) = 60 from rfl] at h
    have hf : cntF f ≤ 60 := by simp only [cnt] at hc; omega
    have hlen := cntF_len f
    simp only [h, r_slen]
    by_cases hk : k.length ≤ 500
    · rw [gtr_f (by omega)]
      simp only [Get a b s l f k (by omega) hs, refRight _ (show cnt (.mk a b s l f) ≤ 100 by omega) hs]
      have hz := zero_zero
      cases hr : rR 12 (.mk a b s l f) with
      | false =>
        simp only [Bool.false_eq_true, if_false]
        rcases At k a b s l f (by omega) with ⟨h1, _⟩ | ⟨j, p, h1, _, _⟩
        · simp only [h1, hz]
        · simp only [h1, hz]
      | true =>
        simp only [if_true]
        rcases At k a b s l f (by omega) with ⟨h1, h2⟩ | ⟨j, p, h1, h3, h2⟩
        · rw [h2]
          simp only [h1]
          rw [lss_t (by omega)]
          simp only [hz]
        · have hp : cnt (valOf p) ≤ 100 := by have := cntF_mem (List.mem_of_getElem? h3); omega
          rw [h2]
          obtain ⟨kp, ⟨x0, x1, x2, x3, x4⟩⟩ := p
          simp only [valOf_mk] at *
          simp only [h1]
          rw [lss_f (by omega)]
          simp only
          rw [r_idx h3]
          simp only [Same_self _ hp]
    · rw [gtr_t (by omega)]
end Go.Abs.T
