import Derived.Test.YtacabmodmbcldaaDoorMT5s
/-! How many values, what is cloned, what is the same: two laws. -/
set_option linter.unusedVariables false
set_option linter.unusedSimpArgs false
namespace Go.Abs.T
open M
theorem clone_5 (c : Val → Option Val) (f : List Par) (hc : ∀ p ∈ f, c (valOf p) = some (valOf p)) (hf : cntF f ≤ 200) (o0 o1 : Int) (o2 : Str) (o3 : List Val) (o4 : List Par) (a b : Int) (s : Str) (g : Nat) (l : List Val) : ∀ (m i g' : Nat), f.length - i ≤ m → i ≤ f.length →
    p_tree_clone_5 c f (f.length : Int) (i : Int) o0 o1 o2 o3 o4 a b s g l g' (f.take i) = some (.mk a b s l f)
  | m, i, g', hm, hi => by
    have hlen := cntF_len f
    rw [u_tree_clone_5]
    unfold b_tree_clone_5
    by_cases h : i < f.length
    · have hmem : f[i] ∈ f := List.getElem_mem h
      rw [lss_t (by omega), r_idx (List.getElem?_eq_getElem h)]
      have hc' := hc _ hmem
      have ht := List.take_succ_eq_append_getElem h
      generalize f[i] = x at *
      obtain ⟨kx, ⟨x0, x1, x2, x3, x4⟩⟩ := x
      simp only [valOf_mk] at *
      simp only [hc']
      rw [M.r_app (by simp [room]; omega) (by simp [room]; omega)]
      simp only
      rw [r_add (by unfold fit64; omega)]
      cases m with
      | zero => omega
      | succ m =>
        rw [← ht, show ((i : Int) + 1) = ((i + 1 : Nat) : Int) by omega]
        exact clone_5 c f hc hf o0 o1 o2 o3 o4 a b s g l m (i + 1) _ (by omega) (by omega)
    · rw [lss_f (by omega), List.take_of_length_le (by omega)]
theorem clone_1 (c : Val → Option Val) (v0 v1 : Int) (v2 : Str) (v3 : List Val) (f : List Par) (hc : ∀ p ∈ f, c (valOf p) = some (valOf p)) (hf : cntF f ≤ 200) (l : List Val) (hl : ∀ v ∈ l, c v = some v) (hll : cntL l ≤ 200) (o0 o1 : Int) (o2 : Str) (o3 : List Val) (o4 : List Par) (a b : Int) (s : Str) : ∀ (m i g g' : Nat), l.length - i ≤ m → i ≤ l.length →
    p_tree_clone_1 c v0 v1 v2 v3 f l (l.length : Int) (i : Int) o0 o1 o2 o3 o4 a b s g (l.take i) g' [] = some (.mk a b s l f)
  | m, i, g, g', hm, hi => by
    have hlen := cntL_len l
    rw [u_tree_clone_1]
    unfold b_tree_clone_1
    by_cases h : i < l.length
    · have hmem : l[i] ∈ l := List.getElem_mem h
      rw [lss_t (by omega), r_idx (List.getElem?_eq_getElem h)]
      have hc' := hl _ hmem
      have ht := List.take_succ_eq_append_getElem h
      generalize l[i] = x at *
      obtain ⟨x0, x1, x2, x3, x4⟩ := x
      simp only [hc']
      rw [M.r_app (by simp [room]; omega) (by simp [room]; omega)]
      simp only
      rw [r_add (by unfold fit64; omega)]
      cases m with
      | zero => omega
      | succ m =>
        rw [← ht, show ((i : Int) + 1) = ((i + 1 : Nat) : Int) by omega]
        exact clone_1 c v0 v1 v2 v3 f hc hf l hl hll o0 o1 o2 o3 o4 a b s m (i + 1) _ _ (by omega) (by omega)
    · rw [lss_f (by omega), List.take_of_length_le (by omega), r_len]
      have := clone_5 c f hc hf o0 o1 o2 o3 o4 a b s g l _ 0 g' (Nat.le_refl _) (by omega)
      simp only [Int.natCast_zero, List.take_zero] at this
      simp only [this]
theorem clone_k : ∀ (k : Nat) (v : Val), cnt v < k → cnt v ≤ 200 → pk_tree_clone k v = some v
  | 0, v, h, _ => by omega
  | k + 1, ⟨a, b, s, l, f⟩, h, hc => by
    show p_tree_clone_0 (pk_tree_clone k) a b s l f = _
    simp only [cnt] at h hc ⊢
    unfold p_tree_clone_0 b_tree_clone_0
    rw [r_len]
    have := clone_1 (pk_tree_clone k) a b s l f (fun p hp => clone_k k _ (by have := cntF_mem hp; omega) (by have := cntF_mem hp; omega)) (by omega) l (fun v hv => clone_k k _ (by have := cntL_mem hv; omega) (by have := cntL_mem hv; omega)) (by omega) 0 0 [] [] [] a b s _ 0 0 0 (Nat.le_refl _) (by omega)
    simp only [Int.natCast_zero, List.take_zero] at this
    exact this
theorem clone (v : Val) (hc : cnt v ≤ 200) : p_tree_clone v = some v := clone_k 1000000 v (by omega) hc
/-! ### What is the same -/
end Go.Abs.T
