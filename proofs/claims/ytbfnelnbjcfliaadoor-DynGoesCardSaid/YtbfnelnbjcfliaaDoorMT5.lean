import Derived.Test.YtbfnelnbjcfliaaDoorMT4
/-! How many values, what is cloned, what is the same: two laws. -/
set_option linter.unusedVariables false
set_option linter.unusedSimpArgs false
namespace Go.Abs.T
open M
abbrev zv : Val := .mk 0 0 [] [] []
/-! ### What is the same -/
theorem par_ext {p q : Par} : p = q ↔ keyOf p = keyOf q ∧ valOf p = valOf q := by
  cases p; cases q
  simp [keyOf, valOf]
theorem same_6 (c : Val → Val → Option Bool) (a b : Int) (s : Str) (l : List Val) (f : List Par) (a' b' : Int) (s' : Str) (l' : List Val) (f' : List Par) (hc : ∀ p ∈ f, ∀ w, ∃ r, c (valOf p) w = some r ∧ (r = true ↔ valOf p = w)) (he : f.length = f'.length) (hf : f.length ≤ 1000) : ∀ (m i : Nat), f.length - i ≤ m → i ≤ f.length →
    ∃ r, p_cascaderef03_Same_6 c a b s l f a' b' s' l' f' (i : Int) = some r ∧ (r = true ↔ f.drop i = f'.drop i)
  | m, i, hm, hi => by
    rw [u_cascaderef03_Same_6]
    unfold b_cascaderef03_Same_6
    rw [r_len]
    by_cases h : i < f.length
    · have hmem : f[i] ∈ f := List.getElem_mem h
      have h' : i < f'.length := by omega
      rw [lss_t (by omega), r_idx (List.getElem?_eq_getElem h), r_idx (List.getElem?_eq_getElem h'), List.drop_eq_getElem_cons h, List.drop_eq_getElem_cons h']
      have hc' := hc _ hmem
      generalize f[i] = x at *
      generalize f'[i] = y at *
      obtain ⟨kx, ⟨x0, x1, x2, x3, x4⟩⟩ := x
      obtain ⟨ky, ⟨y0, y1, y2, y3, y4⟩⟩ := y
      simp only [valOf_mk] at *
      by_cases hk : kx = ky
      · rw [seq_t hk]
        obtain ⟨r, g1, g2⟩ := hc' (.mk y0 y1 y2 y3 y4)
        simp only [g1]
        cases r with
        | false =>
          refine ⟨false, rfl, by simp, fun h => ?_⟩
          injection h with h1 h2
          injection h1 with h3 h4
          exact absurd (g2.2 h4) (by simp)
        | true =>
          simp only
          rw [r_add (by unfold fit64; omega)]
          cases m with
          | zero => omega
          | succ m =>
            obtain ⟨r, k1, k2⟩ := same_6 c a b s l f a' b' s' l' f' hc he hf m (i + 1) (by omega) (by omega)
            refine ⟨r, by rw [show ((i : Int) + 1) = ((i + 1 : Nat) : Int) by omega]; exact k1, ?_⟩
            rw [k2]
            have := g2.1 rfl
            rw [hk, this]
            simp
      · rw [seq_f hk]
        refine ⟨false, rfl, by simp, fun h => ?_⟩
        injection h with h1 h2
        injection h1 with h3 h4
        exact absurd h3 hk
    · rw [lss_f (by omega), List.drop_eq_nil_of_le (by omega), List.drop_eq_nil_of_le (by omega)]
      exact ⟨true, rfl, by simp⟩
theorem same_2 (c : Val → Val → Option Bool) (a b : Int) (s : Str) (l : List Val) (f : List Par) (a' b' : Int) (s' : Str) (l' : List Val) (f' : List Par) (hc : ∀ p ∈ f, ∀ w, ∃ r, c (valOf p) w = some r ∧ (r = true ↔ valOf p = w)) (he : f.length = f'.length) (hf : f.length ≤ 1000)
    (hcl : ∀ v ∈ l, ∀ w, ∃ r, c v w = some r ∧ (r = true ↔ v = w)) (hel : l.length = l'.length) (hl : l.length ≤ 1000) : ∀ (m i : Nat), l.length - i ≤ m → i ≤ l.length →
    ∃ r, p_cascaderef03_Same_2 c a b s l f a' b' s' l' f' (i : Int) = some r ∧ (r = true ↔ l.drop i = l'.drop i ∧ f = f')
  | m, i, hm, hi => by
    rw [u_cascaderef03_Same_2]
    unfold b_cascaderef03_Same_2
    rw [r_len]
    by_cases h : i < l.length
    · have hmem : l[i] ∈ l := List.getElem_mem h
      have h' : i < l'.length := by omega
      rw [lss_t (by omega), r_idx (List.getElem?_eq_getElem h), r_idx (List.getElem?_eq_getElem h'), List.drop_eq_getElem_cons h, List.drop_eq_getElem_cons h']
      have hc' := hcl _ hmem
      generalize l[i] = x at *
      generalize l'[i] = y at *
      obtain ⟨x0, x1, x2, x3, x4⟩ := x
      obtain ⟨y0, y1, y2, y3, y4⟩ := y
      simp only
      obtain ⟨r, g1, g2⟩ := hc' (.mk y0 y1 y2 y3 y4)
      simp only [g1]
      cases r with
      | false =>
        refine ⟨false, rfl, by simp, fun h => ?_⟩
        have h1 := h.1
        injection h1 with h3 h4
        exact absurd (g2.2 h3) (by simp)
      | true =>
        simp only
        rw [r_add (by unfold fit64; omega)]
        cases m with
        | zero => omega
        | succ m =>
          obtain ⟨r, k1, k2⟩ := same_2 c a b s l f a' b' s' l' f' hc he hf hcl hel hl m (i + 1) (by omega) (by omega)
          refine ⟨r, by rw [show ((i : Int) + 1) = ((i + 1 : Nat) : Int) by omega]; exact k1, ?_⟩
          rw [k2]
          have := g2.1 rfl
          rw [this]
          simp
    · rw [lss_f (by omega), List.drop_eq_nil_of_le (by omega), List.drop_eq_nil_of_le (by omega)]
      obtain ⟨r, k1, k2⟩ := same_6 c a b s l f a' b' s' l' f' hc he hf _ 0 (Nat.le_refl _) (by omega)
      simp only [Int.natCast_zero, List.drop_zero] at k1 k2
      simp only [k1]
      exact ⟨r, rfl, by rw [k2]; simp⟩
theorem same_k : ∀ (k : Nat) (v w : Val), cnt v < k → cnt v ≤ 200 → ∃ r, pk_cascaderef03_Same k v w = some r ∧ (r = true ↔ v = w)
  | 0, v, w, h, _ => by omega
  | k + 1, ⟨a, b, s, l, f⟩, ⟨a', b', s', l', f'⟩, h, hc => by
    show ∃ r, p_cascaderef03_Same_0 (pk_cascaderef03_Same k) a b s l f a' b' s' l' f' = some r ∧ _
    simp only [cnt] at h hc
    have hlen := cntL_len l
    have hfen := cntF_len f
    unfold p_cascaderef03_Same_0 b_cascaderef03_Same_0
    rw [r_len, r_len, r_len, r_len]
    by_cases h1 : a = a'
    · rw [neq_f h1]
      by_cases h2 : b = b'
      · rw [neq_f h2]
        by_cases h3 : s = s'
        · rw [seq_t h3]
          by_cases h4 : l.length = l'.length
          · rw [neq_f (by omega)]
            by_cases h5 : f.length = f'.length
            · rw [neq_f (by omega)]
              obtain ⟨r, k1, k2⟩ := same_2 (pk_cascaderef03_Same k) a b s l f a' b' s' l' f' (fun p hp w => same_k k _ w (by have := cntF_mem hp; omega) (by have := cntF_mem hp; omega)) h5 (by omega) (fun v hv w => same_k k v w (by have := cntL_mem hv; omega) (by have := cntL_mem hv; omega)) h4 (by omega) _ 0 (Nat.le_refl _) (by omega)
              simp only [Int.natCast_zero, List.drop_zero] at k1 k2
              refine ⟨r, k1, ?_⟩
              rw [k2]
              simp [h1, h2, h3]
            · rw [neq_t (by omega)]
              exact ⟨false, rfl, by simp, fun h => by injection h with _ _ _ _ h; exact absurd (by rw [h]) h5⟩
          · rw [neq_t (by omega)]
            exact ⟨false, rfl, by simp, fun h => by injection h with _ _ _ h _; exact absurd (by rw [h]) h4⟩
        · rw [seq_f h3]
          exact ⟨false, rfl, by simp, fun h => by injection h with _ _ h _ _; exact absurd h h3⟩
      · rw [neq_t h2]
        exact ⟨false, rfl, by simp, fun h => by injection h with _ h _ _ _; exact absurd h h2⟩
    · rw [neq_t h1]
      exact ⟨false, rfl, by simp, fun h => by injection h with h _ _ _ _; exact absurd h h1⟩
theorem Same (v w : Val) (hc : cnt v ≤ 200) : ∃ r, p_cascaderef03_Same v w = some r ∧ (r = true ↔ v = w) := same_k 1000000 v w (by omega) hc
theorem Same_self (v : Val) (hc : cnt v ≤ 200) : p_cascaderef03_Same v v = some true := by
  obtain ⟨r, h1, h2⟩ := Same v v hc
  rw [h1, h2.2 rfl]
end Go.Abs.T
