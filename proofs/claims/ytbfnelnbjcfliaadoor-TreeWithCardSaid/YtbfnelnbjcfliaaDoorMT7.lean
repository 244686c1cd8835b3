import Derived.Test.YtbfnelnbjcfliaaDoorMT5
/-! An object with a key. -/
set_option linter.unusedVariables false
set_option linter.unusedSimpArgs false
namespace Go.Abs.T
open M
/-! ### What is cloned, its rows kept -/
theorem kept_5 (f : List Par) (hf : cntF f ≤ 190) (o0 o1 : Int) (o2 : Str) (o3 : List Val) (o4 : List Par) (a b : Int) (s : Str) (g : Nat) (l : List Val) : ∀ (m i g' : Nat), f.length - i ≤ m → i ≤ f.length →
    ∃ g2, p_tree_clone__0_5 f (f.length : Int) (i : Int) o0 o1 o2 o3 o4 a b s g l g' (f.take i) = some (a, b, s, g, l, g2, f)
  | m, i, g', hm, hi => by
    have hlen := cntF_len f
    rw [u_tree_clone__0_5]
    unfold b_tree_clone__0_5
    by_cases h : i < f.length
    · have hmem : f[i] ∈ f := List.getElem_mem h
      rw [lss_t (by omega), r_idx (List.getElem?_eq_getElem h)]
      have hc' := clone (valOf f[i]) (by have := cntF_mem hmem; omega)
      have ht := List.take_succ_eq_append_getElem h
      generalize f[i] = x at *
      obtain ⟨kx, ⟨x0, x1, x2, x3, x4⟩⟩ := x
      simp only [valOf_mk] at *
      simp only [hc']
      rw [M.r_app (by simp [room]; omega) (by simp [room]; omega)]
      simp only
      rw [r_add (by unfold fit64; omega)]
      cases m with
      | zero => omega
      | succ m =>
        rw [← ht, show ((i : Int) + 1) = ((i + 1 : Nat) : Int) by omega]
        exact kept_5 f hf o0 o1 o2 o3 o4 a b s g l m (i + 1) _ (by omega) (by omega)
    · rw [lss_f (by omega), List.take_of_length_le (by omega)]
      exact ⟨g', rfl⟩
theorem kept_1 (v0 v1 : Int) (v2 : Str) (v3 : List Val) (f : List Par) (hf : cntF f ≤ 190) (l : List Val) (hll : cntL l ≤ 190) (o0 o1 : Int) (o2 : Str) (o3 : List Val) (o4 : List Par) (a b : Int) (s : Str) : ∀ (m i g g' : Nat), l.length - i ≤ m → i ≤ l.length →
    ∃ g1 g2, p_tree_clone__0_1 v0 v1 v2 v3 f l (l.length : Int) (i : Int) o0 o1 o2 o3 o4 a b s g (l.take i) g' [] = some (a, b, s, g1, l, g2, f)
  | m, i, g, g', hm, hi => by
    have hlen := cntL_len l
    rw [u_tree_clone__0_1]
    unfold b_tree_clone__0_1
    by_cases h : i < l.length
    · have hmem : l[i] ∈ l := List.getElem_mem h
      rw [lss_t (by omega), r_idx (List.getElem?_eq_getElem h)]
      have hc' := clone l[i] (by have := cntL_mem hmem; omega)
      have ht := List.take_succ_eq_append_getElem h
      generalize l[i] = x at *
      obtain ⟨x0, x1, x2, x3, x4⟩ := x
      simp only [hc']
      rw [M.r_app (by simp [room]; omega) (by simp [room]; omega)]
      simp only
      rw [r_add (by unfold fit64; omega)]
      cases m with
      | zero => omega
      | succ m =>
        rw [← ht, show ((i : Int) + 1) = ((i + 1 : Nat) : Int) by omega]
        exact kept_1 v0 v1 v2 v3 f hf l hll o0 o1 o2 o3 o4 a b s m (i + 1) _ _ (by omega) (by omega)
    · rw [lss_f (by omega), List.take_of_length_le (by omega), r_len]
      obtain ⟨g2, this⟩ := kept_5 f hf o0 o1 o2 o3 o4 a b s g l _ 0 g' (Nat.le_refl _) (by omega)
      simp only [Int.natCast_zero, List.take_zero] at this
      simp only [this]
      exact ⟨g, g2, rfl⟩
theorem kept (a b : Int) (s : Str) (l : List Val) (f : List Par) (hc : cnt (.mk a b s l f) ≤ 190) : ∃ g1 g2, p_tree_clone__0 (.mk a b s l f) = some (a, b, s, g1, l, g2, f) := by
  simp only [cnt] at hc
  show ∃ g1 g2, p_tree_clone__0_0 a b s l f = _
  unfold p_tree_clone__0_0 b_tree_clone__0_0
  rw [r_len]
  have := kept_1 a b s l f (by omega) l (by omega) 0 0 [] [] [] a b s _ 0 0 0 (Nat.le_refl _) (by omega)
  simp only [Int.natCast_zero, List.take_zero] at this
  exact this
/-- With a key: put in its place, or behind. -/
def putS (k : Str) (x : Val) : List Par → List Par
  | [] => [.mk k x]
  | p :: r => if keyOf p = k then .mk k x :: r else p :: putS k x r
theorem putS_yes {k kx : Str} {x v : Val} {r : List Par} (h : kx = k) : putS k x (.mk kx v :: r) = .mk k x :: r := by
  rw [putS, if_pos (show keyOf (.mk kx v) = k from h)]
theorem putS_no {k kx : Str} {x v : Val} {r : List Par} (h : ¬ kx = k) : putS k x (.mk kx v :: r) = .mk kx v :: putS k x r := by
  rw [putS, if_neg (show ¬ keyOf (.mk kx v) = k from h)]
theorem index_1 (k : Str) (x : Val) (g : Nat) (f : List Par) (hf : f.length ≤ 1000) : ∀ (m i : Nat), f.length - i ≤ m → i ≤ f.length →
    (p_slices_IndexFunc__api_Pair_api_Pair__1_1 g f k (f.length : Int) (i : Int) = some (-1) ∧ putS k x (f.drop i) = f.drop i ++ [.mk k x]) ∨
      ∃ (j : Nat) (v : Val), p_slices_IndexFunc__api_Pair_api_Pair__1_1 g f k (f.length : Int) (i : Int) = some (j : Int) ∧ i ≤ j ∧ f[j]? = some (.mk k v) ∧ putS k x (f.drop i) = (f.drop i).set (j - i) (.mk k x)
  | m, i, hm, hi => by
    rw [u_slices_IndexFunc__api_Pair_api_Pair__1_1]
    unfold b_slices_IndexFunc__api_Pair_api_Pair__1_1
    by_cases h : i < f.length
    · have hx : f[i]? = some f[i] := List.getElem?_eq_getElem h
      rw [lss_t (by omega), r_idx hx, List.drop_eq_getElem_cons h]
      generalize f[i] = y at hx
      obtain ⟨kx, ⟨x0, x1, x2, x3, x4⟩⟩ := y
      have e : p_tree_With_1__0 (.mk kx (.mk x0 x1 x2 x3 x4)) k = some (Prims.real.seq kx k) := rfl
      simp only [e]
      by_cases hk : kx = k
      · rw [seq_t hk, putS_yes hk]
        subst hk
        exact .inr ⟨i, _, rfl, Nat.le_refl _, hx, by simp⟩
      · rw [seq_f hk, putS_no hk, r_add (by unfold fit64; omega)]
        cases m with
        | zero => omega
        | succ m =>
          rcases index_1 k x g f hf m (i + 1) (by omega) (by omega) with ⟨h1, h2⟩ | ⟨j, v, h1, h2, h3, h4⟩
          · exact .inl ⟨by rw [show ((i : Int) + 1) = ((i + 1 : Nat) : Int) by omega]; exact h1, by rw [h2]; rfl⟩
          · refine .inr ⟨j, v, by rw [show ((i : Int) + 1) = ((i + 1 : Nat) : Int) by omega]; exact h1, by omega, h3, ?_⟩
            rw [h4, show j - i = (j - (i + 1)) + 1 by omega]
            rfl
    · rw [lss_f (by omega), List.drop_eq_nil_of_le (by omega)]
      exact .inl ⟨rfl, rfl⟩
theorem putS_len (k : Str) (x : Val) : ∀ f : List Par, cntF (putS k x f) ≤ cntF f + cnt x ∧ (strsF f = true → k.length ≤ 500 → strs x = true → strsF (putS k x f) = true)
  | [] => ⟨by simp [putS, cntF, cntP], fun _ h1 h2 => by simp [putS, strsF, strsP, h1, h2]⟩
  | ⟨kx, v⟩ :: r => by
    obtain ⟨h1, h2⟩ := putS_len k x r
    by_cases e : kx = k
    · rw [putS_yes e]
      refine ⟨by simp only [cntF, cntP]; omega, fun a1 a2 a3 => ?_⟩
      simp only [strsF, strsP, Bool.and_eq_true, decide_eq_true_eq] at a1 ⊢
      exact ⟨⟨a2, a3⟩, a1.2⟩
    · rw [putS_no e]
      refine ⟨by simp only [cntF, cntP]; omega, fun a1 a2 a3 => ?_⟩
      simp only [strsF, Bool.and_eq_true] at a1 ⊢
      exact ⟨a1.1, h2 a1.2 a2 a3⟩
theorem r_set {α : Type} {l : List α} {i : Nat} {x : α} (h : i < l.length) : Prims.real.set l (i : Int) x = some (l.set i x) := by
  show Pr.set l (i : Int) x = _
  unfold Pr.set
  rw [if_neg (by omega), if_pos (by simpa using h)]
  simp
theorem tree_With (a b : Int) (s : Str) (l : List Val) (f : List Par) (k : Str) (x : Val) (hc : cnt (.mk a b s l f) ≤ 60) (hs : strs (.mk a b s l f) = true) (hk : k.length ≤ 500) (hx : cnt x ≤ 60) (hsx : strs x = true) :
    p_tree_With (.mk a b s l f) k x = some (if a = 5 ∧ rR 12 (.mk a b s l f) = true ∧ isT k = true ∧ rR 12 x = true then (if rR 12 (.mk a b s l (putS k x f)) = true then (.mk a b s l (putS k x f), 0) else (zv, 5)) else (zv, 1)) := by
  obtain ⟨x0, x1, x2, x3, x4⟩ := x
  have hf : cntF f ≤ 60 := by simp only [cnt] at hc; omega
  have hlen := cntF_len f
  have hobj : p_tree_object (.mk a b s l f) = some (decide (a = 5) && rR 12 (.mk a b s l f)) := by
    show p_tree_object_0 a b s l f = _
    unfold p_tree_object_0 b_tree_object_0
    by_cases e : a = 5
    · rw [eql_t e]
      simp only [tree_Right _ (show cnt (.mk a b s l f) ≤ 200 by omega) hs]
      simp [e]
    · rw [eql_f e]
      simp [e]
  show p_tree_With_0 a b s l f k x0 x1 x2 x3 x4 = _
  unfold p_tree_With_0 b_tree_With_0
  simp only [hobj]
  by_cases e1 : a = 5 ∧ rR 12 (.mk a b s l f) = true
  · rw [decide_eq_true e1.1, e1.2]
    simp only [Bool.and_self, text_isT]
    cases e2 : isT k with
    | false => rw [if_neg (by simp)]
    | true =>
      simp only [tree_Right _ (show cnt (.mk x0 x1 x2 x3 x4) ≤ 200 by omega) hsx]
      cases e3 : rR 12 (.mk x0 x1 x2 x3 x4) with
      | false => rw [if_neg (by simp)]
      | true =>
        rw [if_pos (by simp [e1.1])]
        obtain ⟨g1, g2, hkept⟩ := kept a b s l f (by omega)
        obtain ⟨q1, q2⟩ := putS_len k (.mk x0 x1 x2 x3 x4) f
        have hR : p_tree_Right (.mk a b s l (putS k (.mk x0 x1 x2 x3 x4) f)) = some (rR 12 (.mk a b s l (putS k (.mk x0 x1 x2 x3 x4) f))) := tree_Right _ (by simp only [cnt] at hc ⊢; omega) (by
          simp only [strs, Bool.and_eq_true] at hs ⊢
          exact ⟨hs.1, q2 hs.2 hk hsx⟩)
        have hend : ∀ g3, p_tree_With_2 0 0 [] [] [] a b s g1 l g3 (putS k (.mk x0 x1 x2 x3 x4) f) = some (if rR 12 (.mk a b s l (putS k (.mk x0 x1 x2 x3 x4) f)) = true then (.mk a b s l (putS k (.mk x0 x1 x2 x3 x4) f), 0) else (zv, 5)) := fun g3 => by
          unfold p_tree_With_2 b_tree_With_2
          simp only [hR]
          cases rR 12 (.mk a b s l (putS k (.mk x0 x1 x2 x3 x4) f)) <;> simp
        have hix : p_slices_IndexFunc__api_Pair_api_Pair__1 g2 f k = p_slices_IndexFunc__api_Pair_api_Pair__1_1 g2 f k (f.length : Int) 0 := by
          show p_slices_IndexFunc__api_Pair_api_Pair__1_0 g2 f k = _
          unfold p_slices_IndexFunc__api_Pair_api_Pair__1_0 b_slices_IndexFunc__api_Pair_api_Pair__1_0
          rw [r_len]
        have hi := index_1 k (.mk x0 x1 x2 x3 x4) g2 f (by omega) _ 0 (Nat.le_refl _) (by omega)
        rw [Int.natCast_zero, List.drop_zero] at hi
        have hcl := clone (.mk x0 x1 x2 x3 x4) (by omega)
        simp only [hkept, hix]
        rcases hi with ⟨h1, h2⟩ | ⟨j, v, h1, h2, h3, h4⟩
        · simp only [h1]
          rw [geq_f (by omega)]
          simp only [hcl]
          rw [M.r_app (by simp [room]; omega) (by simp [room]; omega)]
          simp only
          rw [← h2]
          exact hend _
        · simp only [h1]
          rw [geq_t (by omega)]
          simp only [hcl]
          obtain ⟨v0, v1, v2, v3, v4⟩ := v
          rw [r_idx h3]
          simp only
          rw [r_set (List.getElem?_eq_some_iff.1 h3).1]
          simp only
          rw [Nat.sub_zero] at h4
          rw [← h4]
          exact hend _
  · have : (decide (a = 5) && rR 12 (.mk a b s l f)) = false := by
      by_cases e : a = 5
      · cases h : rR 12 (.mk a b s l f) with
        | true => exact absurd ⟨e, h⟩ e1
        | false => simp
      · simp [e]
    rw [this, if_neg (fun h => e1 ⟨h.1, h.2.1⟩)]
end Go.Abs.T
