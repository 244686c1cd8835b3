import Derived.Test.YtbfnelnbjcfliaaDoorMT9
/-! What is alike, what is the same by the tree, and the law. -/
set_option linter.unusedVariables false
set_option linter.unusedSimpArgs false
namespace Go.Abs.T
open M
theorem eqV_2 (c : Val → Val → Option Bool) (g : Val → Val) (l l' : List Val) (hc : ∀ v ∈ l, ∀ w ∈ l', ∃ r, c v w = some r ∧ (r = true ↔ g v = g w)) (he : l.length = l'.length) (hl : l.length ≤ 1000) : ∀ (m i : Nat), l.length - i ≤ m → i ≤ l.length →
    ∃ r, p_slices_EqualFunc__api_Value__api_Value_api_Value_api_Value__1_2 c l' l (l.length : Int) (i : Int) = some r ∧ (r = true ↔ (l.drop i).map g = (l'.drop i).map g)
  | m, i, hm, hi => by
    rw [u_slices_EqualFunc__api_Value__api_Value_api_Value_api_Value__1_2]
    unfold b_slices_EqualFunc__api_Value__api_Value_api_Value_api_Value__1_2
    by_cases h : i < l.length
    · have h' : i < l'.length := by omega
      have hx := hc _ (List.getElem_mem h) _ (List.getElem_mem h')
      rw [lss_t (by omega), r_idx (List.getElem?_eq_getElem h), r_idx (List.getElem?_eq_getElem h'), List.drop_eq_getElem_cons h, List.drop_eq_getElem_cons h']
      generalize l[i] = x at *
      generalize l'[i] = y at *
      obtain ⟨x0, x1, x2, x3, x4⟩ := x
      obtain ⟨y0, y1, y2, y3, y4⟩ := y
      obtain ⟨r, g1, g2⟩ := hx
      simp only [g1, List.map_cons, List.cons.injEq]
      cases r with
      | false => exact ⟨false, rfl, by simp, fun h => absurd (g2.2 h.1) (by simp)⟩
      | true =>
        simp only
        rw [r_add (by unfold fit64; omega)]
        cases m with
        | zero => omega
        | succ m =>
          obtain ⟨r, k1, k2⟩ := eqV_2 c g l l' hc he hl m (i + 1) (by omega) (by omega)
          refine ⟨r, by rw [show ((i : Int) + 1) = ((i + 1 : Nat) : Int) by omega]; exact k1, ?_⟩
          rw [k2]
          have := g2.1 rfl
          simp [this]
    · rw [lss_f (by omega), List.drop_eq_nil_of_le (by omega), List.drop_eq_nil_of_le (by omega)]
      exact ⟨true, rfl, by simp⟩
theorem eqV (c : Val → Val → Option Bool) (g : Val → Val) (l l' : List Val) (hc : ∀ v ∈ l, ∀ w ∈ l', ∃ r, c v w = some r ∧ (r = true ↔ g v = g w)) (hl : l.length ≤ 1000) :
    ∃ r, p_slices_EqualFunc__api_Value__api_Value_api_Value_api_Value__1_0 c l l' = some r ∧ (r = true ↔ l.map g = l'.map g) := by
  unfold p_slices_EqualFunc__api_Value__api_Value_api_Value_api_Value__1_0 b_slices_EqualFunc__api_Value__api_Value_api_Value_api_Value__1_0
  rw [r_len, r_len]
  by_cases he : l.length = l'.length
  · rw [neq_f (by omega)]
    obtain ⟨r, k1, k2⟩ := eqV_2 c g l l' hc he hl _ 0 (Nat.le_refl _) (by omega)
    exact ⟨r, k1, by simpa using k2⟩
  · rw [neq_t (by omega)]
    exact ⟨false, rfl, by simp, fun h => absurd (by simpa using congrArg List.length h) he⟩
theorem eqV0 : @p_slices_EqualFunc__api_Value__api_Value_api_Value_api_Value__0_0 = @p_slices_EqualFunc__api_Value__api_Value_api_Value_api_Value__1_0 := rfl
theorem eqF_2 (c : Par → Par → Option Bool) (l l' : List Par) (hc : ∀ v ∈ l, ∀ w ∈ l', ∃ r, c v w = some r ∧ (r = true ↔ v = w)) (he : l.length = l'.length) (hl : l.length ≤ 1000) : ∀ (m i : Nat), l.length - i ≤ m → i ≤ l.length →
    ∃ r, p_slices_EqualFunc__api_Pair__api_Pair_api_Pair_api_Pair__0_2 c l' l (l.length : Int) (i : Int) = some r ∧ (r = true ↔ l.drop i = l'.drop i)
  | m, i, hm, hi => by
    rw [u_slices_EqualFunc__api_Pair__api_Pair_api_Pair_api_Pair__0_2]
    unfold b_slices_EqualFunc__api_Pair__api_Pair_api_Pair_api_Pair__0_2
    by_cases h : i < l.length
    · have h' : i < l'.length := by omega
      have hx := hc _ (List.getElem_mem h) _ (List.getElem_mem h')
      rw [lss_t (by omega), r_idx (List.getElem?_eq_getElem h), r_idx (List.getElem?_eq_getElem h'), List.drop_eq_getElem_cons h, List.drop_eq_getElem_cons h']
      generalize l[i] = x at *
      generalize l'[i] = y at *
      obtain ⟨x5, ⟨x0, x1, x2, x3, x4⟩⟩ := x
      obtain ⟨y5, ⟨y0, y1, y2, y3, y4⟩⟩ := y
      obtain ⟨r, g1, g2⟩ := hx
      simp only [g1, List.cons.injEq]
      cases r with
      | false => exact ⟨false, rfl, by simp, fun h => absurd (g2.2 h.1) (by simp)⟩
      | true =>
        simp only
        rw [r_add (by unfold fit64; omega)]
        cases m with
        | zero => omega
        | succ m =>
          obtain ⟨r, k1, k2⟩ := eqF_2 c l l' hc he hl m (i + 1) (by omega) (by omega)
          refine ⟨r, by rw [show ((i : Int) + 1) = ((i + 1 : Nat) : Int) by omega]; exact k1, ?_⟩
          rw [k2]
          have := g2.1 rfl
          rw [this]
          simp
    · rw [lss_f (by omega), List.drop_eq_nil_of_le (by omega), List.drop_eq_nil_of_le (by omega)]
      exact ⟨true, rfl, by simp⟩
theorem eqF (c : Par → Par → Option Bool) (l l' : List Par) (hc : ∀ v ∈ l, ∀ w ∈ l', ∃ r, c v w = some r ∧ (r = true ↔ v = w)) (hl : l.length ≤ 1000) :
    ∃ r, p_slices_EqualFunc__api_Pair__api_Pair_api_Pair_api_Pair__0_0 c l l' = some r ∧ (r = true ↔ l = l') := by
  unfold p_slices_EqualFunc__api_Pair__api_Pair_api_Pair_api_Pair__0_0 b_slices_EqualFunc__api_Pair__api_Pair_api_Pair_api_Pair__0_0
  rw [r_len, r_len]
  by_cases he : l.length = l'.length
  · rw [neq_f (by omega)]
    obtain ⟨r, k1, k2⟩ := eqF_2 c l l' hc he hl _ 0 (Nat.le_refl _) (by omega)
    exact ⟨r, k1, by simpa using k2⟩
  · rw [neq_t (by omega)]
    exact ⟨false, rfl, by simp, fun h => absurd (by rw [h]) he⟩
/-! ### The same -/
theorem tsame_k : ∀ (n k : Nat) (v w : Val), cnt v ≤ n → 3 * n ≤ k → n ≤ 200 → ∃ r, (pk_slices_EqualFunc__api_Value__api_Value_api_Value_api_Value__0 k).2.1 v w = some r ∧ (r = true ↔ v = w)
  | 0, k, v, w, hn, hk, _ => by have := cnt_pos v; omega
  | n + 1, k, ⟨a, b, s, l, f⟩, ⟨a', b', s', l', f'⟩, hn, hk, hb => by
    obtain ⟨k, rfl⟩ : ∃ q, k = q + 3 := ⟨k - 3, by omega⟩
    have ih := fun j (hj : 3 * n ≤ j) v w hv => tsame_k n j v w hv hj (by omega)
    simp only [cnt] at hn
    have hlen := cntL_len l
    have hfen := cntF_len f
    show ∃ r, p_tree_same_0 (pk_slices_EqualFunc__api_Value__api_Value_api_Value_api_Value__0 (k + 2)).1 (pk_slices_EqualFunc__api_Value__api_Value_api_Value_api_Value__0 (k + 2)).2.2.1 a b s l f a' b' s' l' f' = some r ∧ _
    obtain ⟨r1, p1, p2⟩ := eqV (pk_slices_EqualFunc__api_Value__api_Value_api_Value_api_Value__0 (k + 1)).2.1 id l l' (fun v hv w _ => ih (k + 1) (by omega) v w (by have := cntL_mem hv; omega)) (by omega)
    obtain ⟨r2, q1, q2⟩ := eqF (pk_slices_EqualFunc__api_Value__api_Value_api_Value_api_Value__0 (k + 1)).2.2.2 f f' (fun v hv w _ => by
      obtain ⟨kx, v⟩ := v
      obtain ⟨ky, w⟩ := w
      have hm := cntF_mem hv
      rw [valOf_mk] at hm
      obtain ⟨r, e1, e2⟩ := ih k (by omega) v w (by omega)
      obtain ⟨v0, v1, v2, v3, v4⟩ := v
      obtain ⟨w0, w1, w2, w3, w4⟩ := w
      show ∃ r, p_tree_same_1_0 (pk_slices_EqualFunc__api_Value__api_Value_api_Value_api_Value__0 k).2.1 kx v0 v1 v2 v3 v4 ky w0 w1 w2 w3 w4 = some r ∧ _
      unfold p_tree_same_1_0 b_tree_same_1_0
      by_cases e : kx = ky
      · rw [seq_t e]
        simp only [e1]
        exact ⟨r, rfl, by rw [e2]; simp [e]⟩
      · rw [seq_f e]
        exact ⟨false, rfl, by simp, fun h => by injection h with h1 h2; exact absurd h1 e⟩) (by omega)
    have p1' : (pk_slices_EqualFunc__api_Value__api_Value_api_Value_api_Value__0 (k + 2)).1 l l' = some r1 := p1
    have q1' : (pk_slices_EqualFunc__api_Value__api_Value_api_Value_api_Value__0 (k + 2)).2.2.1 f f' = some r2 := q1
    unfold p_tree_same_0 b_tree_same_0
    simp only [p1', q1']
    rw [List.map_id, List.map_id] at p2
    by_cases h1 : a = a'
    · rw [eql_t h1]
      by_cases h2 : b = b'
      · rw [eql_t h2]
        by_cases h3 : s = s'
        · rw [seq_t h3]
          cases r1 with
          | false => exact ⟨false, rfl, by simp, fun h => by injection h with _ _ _ h _; exact absurd (p2.2 h) (by simp)⟩
          | true =>
            refine ⟨r2, rfl, ?_⟩
            rw [q2]
            simp [h1, h2, h3, p2.1 rfl]
        · rw [seq_f h3]
          exact ⟨false, rfl, by simp, fun h => by injection h with _ _ h _ _; exact absurd h h3⟩
      · rw [eql_f h2]
        exact ⟨false, rfl, by simp, fun h => by injection h with _ h _ _ _; exact absurd h h2⟩
    · rw [eql_f h1]
      exact ⟨false, rfl, by simp, fun h => by injection h with h _ _ _ _; exact absurd h h1⟩
theorem tree_same (v w : Val) (hc : cnt v ≤ 200) : ∃ r, p_tree_same v w = some r ∧ (r = true ↔ v = w) := tsame_k 200 1000000 v w hc (by omega) (by omega)
/-! ### Alike -/
theorem rR_keys {d : Nat} {a b : Int} {s : Str} {l : List Val} {f : List Par} (h : rR d (.mk a b s l f) = true) : ∃ e, (∀ v ∈ l, rR e v = true) ∧ (∀ p ∈ f, rR e (valOf p) = true) ∧ (f.map keyOf).Nodup := by
  cases d with
  | zero => simp [rR] at h
  | succ d =>
    rw [rR] at h
    simp only [Bool.and_eq_true, List.all_eq_true] at h
    exact ⟨d, h.1.1.2, h.2, (keysS_nodup f [] h.1.2).1⟩
theorem alike_2 (c1 : List Val → List Val → Option Bool) (c : Val → Val → Option Bool) (a b : Int) (s : Str) (l : List Val) (f f' : List Par) (hf' : f'.length ≤ 1000) (hf : f.length ≤ 1000)
    (hc : ∀ p ∈ f, ∀ q ∈ f', ∃ r, c (valOf p) (valOf q) = some r ∧ (r = true ↔ srt (valOf p) = srt (valOf q))) : ∀ (m i : Nat), f.length - i ≤ m → i ≤ f.length →
    ∃ r, p_tree_alike_2 c1 c a b s l f' f (f.length : Int) (i : Int) = some r ∧ (r = true ↔ ∀ p ∈ f.drop i, ∃ x, getS (keyOf p) f' = (x, true) ∧ srt (valOf p) = srt x)
  | m, i, hm, hi => by
    rw [u_tree_alike_2]
    unfold b_tree_alike_2
    by_cases h : i < f.length
    · have hx := hc _ (List.getElem_mem h)
      rw [lss_t (by omega), r_idx (List.getElem?_eq_getElem h), List.drop_eq_getElem_cons h]
      generalize f[i] = x at *
      obtain ⟨kx, ⟨x0, x1, x2, x3, x4⟩⟩ := x
      simp only [tree_get a b s l f' kx hf']
      cases hg : getS kx f' with
      | mk y ok =>
      obtain ⟨y0, y1, y2, y3, y4⟩ := y
      cases ok with
      | false =>
        refine ⟨false, rfl, by simp, fun h => ?_⟩
        obtain ⟨x, e1, e2⟩ := h _ (List.mem_cons_self ..)
        rw [keyOf_mk, hg] at e1
        injection e1 with _ e1
      | true =>
        have hm' := getS_mem hg
        obtain ⟨r, g1, g2⟩ := hx _ hm'
        simp only [valOf_mk] at g1 g2
        simp only [g1]
        cases r with
        | false =>
          refine ⟨false, rfl, by simp, fun h => ?_⟩
          obtain ⟨x, e1, e2⟩ := h _ (List.mem_cons_self ..)
          rw [keyOf_mk, hg] at e1
          injection e1 with e1 _
          subst e1
          exact absurd (g2.2 e2) (by simp)
        | true =>
          simp only
          rw [r_add (by unfold fit64; omega)]
          cases m with
          | zero => omega
          | succ m =>
            obtain ⟨r, k1, k2⟩ := alike_2 c1 c a b s l f f' hf' hf hc m (i + 1) (by omega) (by omega)
            refine ⟨r, by rw [show ((i : Int) + 1) = ((i + 1 : Nat) : Int) by omega]; exact k1, ?_⟩
            rw [k2]
            constructor
            · intro h p hp
              rcases List.mem_cons.1 hp with rfl | hp
              · exact ⟨_, hg, g2.1 rfl⟩
              · exact h p hp
            · exact fun h p hp => h p (List.mem_cons_of_mem _ hp)
    · rw [lss_f (by omega), List.drop_eq_nil_of_le (by omega)]
      exact ⟨true, rfl, by simp⟩
theorem alike_k : ∀ (n k : Nat) (v w : Val), cnt v ≤ n → cnt w ≤ 200 → 2 * n ≤ k → n ≤ 200 → (∃ d, rR d v = true) → (∃ d, rR d w = true) → ∃ r, (pk_slices_EqualFunc__api_Value__api_Value_api_Value_api_Value__1 k).2 v w = some r ∧ (r = true ↔ srt v = srt w)
  | 0, k, v, w, hn, _, hk, _, _, _ => by have := cnt_pos v; omega
  | n + 1, k, ⟨a, b, s, l, f⟩, ⟨a', b', s', l', f'⟩, hn, hw, hk, hb, hR, hR' => by
    obtain ⟨k, rfl⟩ : ∃ q, k = q + 2 := ⟨k - 2, by omega⟩
    obtain ⟨d, hR⟩ := hR
    obtain ⟨d', hR'⟩ := hR'
    obtain ⟨e, u1, u2, u3⟩ := rR_keys hR
    obtain ⟨e', u1', u2', u3'⟩ := rR_keys hR'
    have ih := fun j (hj : 2 * n ≤ j) v w hv hw => alike_k n j v w hv hw hj (by omega)
    simp only [cnt] at hn hw
    have hlen := cntL_len l
    have hfen := cntF_len f
    have hlen' := cntL_len l'
    have hfen' := cntF_len f'
    show ∃ r, p_tree_alike_0 (pk_slices_EqualFunc__api_Value__api_Value_api_Value_api_Value__1 (k + 1)).1 (pk_slices_EqualFunc__api_Value__api_Value_api_Value_api_Value__1 (k + 1)).2 a b s l f a' b' s' l' f' = some r ∧ _
    obtain ⟨r1, p1, p2⟩ := eqV (pk_slices_EqualFunc__api_Value__api_Value_api_Value_api_Value__1 k).2 srt l l' (fun v hv w hw => ih k (by omega) v w (by have := cntL_mem hv; omega) (by have := cntL_mem hw; omega) ⟨e, u1 v hv⟩ ⟨e', u1' w hw⟩) (by omega)
    obtain ⟨r2, q1, q2⟩ := alike_2 (pk_slices_EqualFunc__api_Value__api_Value_api_Value_api_Value__1 (k + 1)).1 (pk_slices_EqualFunc__api_Value__api_Value_api_Value_api_Value__1 (k + 1)).2 a' b' s' l' f f' (by omega) (by omega)
      (fun p hp q hq => ih (k + 1) (by omega) _ _ (by have := cntF_mem hp; omega) (by have := cntF_mem hq; omega) ⟨e, u2 p hp⟩ ⟨e', u2' q hq⟩) _ 0 (Nat.le_refl _) (by omega)
    have p1' : (pk_slices_EqualFunc__api_Value__api_Value_api_Value_api_Value__1 (k + 1)).1 l l' = some r1 := p1
    rw [Int.natCast_zero] at q1
    rw [List.drop_zero] at q2
    rw [← srtL_map, ← srtL_map] at p2
    unfold p_tree_alike_0 b_tree_alike_0
    rw [r_len, r_len]
    simp only [p1', q1, srt, S_api_Value.mk.injEq]
    by_cases h1 : a = a'
    · rw [neq_f h1]
      by_cases h2 : b = b'
      · rw [neq_f h2]
        by_cases h3 : s = s'
        · rw [seq_t h3]
          by_cases h4 : f.length = f'.length
          · rw [neq_f (by omega)]
            cases r1 with
            | false => exact ⟨false, rfl, by simp, fun h => absurd (p2.2 h.2.2.2.1) (by simp)⟩
            | true =>
              refine ⟨r2, rfl, ?_⟩
              rw [q2, srtF_iff u3 u3' h4]
              simp [h1, h2, h3, p2.1 rfl]
          · rw [neq_t (by omega)]
            refine ⟨false, rfl, by simp, fun h => ?_⟩
            have := congrArg List.length h.2.2.2.2
            rw [srtF_app, srtF_app] at this
            simp at this
            exact absurd this h4
        · rw [seq_f h3]
          exact ⟨false, rfl, by simp, fun h => absurd h.2.2.1 h3⟩
      · rw [neq_t h2]
        exact ⟨false, rfl, by simp, fun h => absurd h.2.1 h2⟩
    · rw [neq_t h1]
      exact ⟨false, rfl, by simp, fun h => absurd h.1 h1⟩
theorem tree_alike (v w : Val) (hc : cnt v ≤ 200) (hw : cnt w ≤ 200) (hR : rR 12 v = true) (hR' : rR 12 w = true) : ∃ r, p_tree_alike v w = some r ∧ (r = true ↔ srt v = srt w) := alike_k 200 1000000 v w hc hw (by omega) (by omega) ⟨_, hR⟩ ⟨_, hR'⟩
theorem tree_Same (v w : Val) (hc : cnt v ≤ 200) (hs : strs v = true) (hw : cnt w ≤ 200) (hsw : strs w = true) : ∃ r, p_tree_Same v w = some r ∧ (r = true ↔ rR 12 v = true ∧ rR 12 w = true ∧ v = w) := by
  have h1 := tree_Right v hc hs
  have h2 := tree_Right w hw hsw
  obtain ⟨r, h3, h4⟩ := tree_same v w hc
  obtain ⟨a, b, s, l, f⟩ := v
  obtain ⟨a', b', s', l', f'⟩ := w
  show ∃ r, p_tree_Same_0 a b s l f a' b' s' l' f' = some r ∧ _
  unfold p_tree_Same_0 b_tree_Same_0
  simp only [h1, h2, h3]
  cases rR 12 (.mk a b s l f) with
  | false => exact ⟨false, rfl, by simp⟩
  | true =>
    cases rR 12 (.mk a' b' s' l' f') with
    | false => exact ⟨false, rfl, by simp⟩
    | true => exact ⟨r, rfl, by rw [h4]; simp⟩
theorem tree_Alike (v w : Val) (hc : cnt v ≤ 200) (hs : strs v = true) (hw : cnt w ≤ 200) (hsw : strs w = true) : ∃ r, p_tree_Alike v w = some r ∧ (r = true ↔ rR 12 v = true ∧ rR 12 w = true ∧ srt v = srt w) := by
  have h1 := tree_Right v hc hs
  have h2 := tree_Right w hw hsw
  have h3 := tree_alike v w hc hw
  obtain ⟨a, b, s, l, f⟩ := v
  obtain ⟨a', b', s', l', f'⟩ := w
  show ∃ r, p_tree_Alike_0 a b s l f a' b' s' l' f' = some r ∧ _
  unfold p_tree_Alike_0 b_tree_Alike_0
  simp only [h1, h2]
  cases e1 : rR 12 (.mk a b s l f) with
  | false => exact ⟨false, rfl, by simp⟩
  | true =>
    cases e2 : rR 12 (.mk a' b' s' l' f') with
    | false => exact ⟨false, rfl, by simp⟩
    | true =>
      obtain ⟨r, h3, h4⟩ := h3 e1 e2
      simp only [h3]
      exact ⟨r, rfl, by rw [h4]; simp⟩
theorem TreeSame (v w : Val) : p_cascadelaw03_TreeSame v w = some true := by
  rcases Few v 60 (by omega) with h | ⟨h, hc, hs⟩
  · obtain ⟨a, b, s, l, f⟩ := v
    obtain ⟨a', b', s', l', f'⟩ := w
    show p_cascadelaw03_TreeSame_0 a b s l f a' b' s' l' f' = _
    unfold p_cascadelaw03_TreeSame_0 b_cascadelaw03_TreeSame_0
    rw [show ((60 : Nat) : Int) = 60 from rfl] at h
    simp only [awake03, h]
  rcases Few w 60 (by omega) with h' | ⟨h', hcw, hsw⟩
  · obtain ⟨a, b, s, l, f⟩ := v
    obtain ⟨a', b', s', l', f'⟩ := w
    show p_cascadelaw03_TreeSame_0 a b s l f a' b' s' l' f' = _
    unfold p_cascadelaw03_TreeSame_0 b_cascadelaw03_TreeSame_0
    rw [show ((60 : Nat) : Int) = 60 from rfl] at h h'
    simp only [awake03, h, h']
  obtain ⟨r1, t1, t2⟩ := tree_Same v w (by omega) hs (by omega) hsw
  obtain ⟨r2, a1, a2⟩ := tree_Alike v w (by omega) hs (by omega) hsw
  obtain ⟨r3, c1, c2⟩ := Same v w (by omega)
  obtain ⟨r4, d1, d2⟩ := Same (srt v) (srt w) (by rw [cnt_srt]; omega)
  have f1 := refRight v (by omega) hs
  have f2 := refRight w (by omega) hsw
  have s1 := Sorted v (by omega)
  have s2 := Sorted w (by omega)
  generalize hx : srt v = x at *
  generalize hy : srt w = y at *
  obtain ⟨x0, x1, x2, x3, x4⟩ := x
  obtain ⟨y0, y1, y2, y3, y4⟩ := y
  obtain ⟨a, b, s, l, f⟩ := v
  obtain ⟨a', b', s', l', f'⟩ := w
  show p_cascadelaw03_TreeSame_0 a b s l f a' b' s' l' f' = _
  unfold p_cascadelaw03_TreeSame_0 b_cascadelaw03_TreeSame_0 p_cascadelaw03_TreeSame_2 b_cascadelaw03_TreeSame_2
  rw [show ((60 : Nat) : Int) = 60 from rfl] at h h'
  simp only [awake03, h, h', f1, f2, t1, a1, c1, s1, s2, d1]
  cases e1 : rR 12 (.mk a b s l f) <;> rw [e1] at t2 a2 <;> simp only [Bool.false_eq_true, false_and, iff_false, true_and, Bool.not_eq_true] at t2 a2
  · subst t2; subst a2; rfl
  · cases e2 : rR 12 (.mk a' b' s' l' f') <;> rw [e2] at t2 a2 <;> simp only [Bool.false_eq_true, false_and, iff_false, true_and, Bool.not_eq_true] at t2 a2
    · subst t2; subst a2; rfl
    · have g1 : r1 = r3 := Bool.eq_iff_iff.2 (t2.trans c2.symm)
      have g2 : r2 = r4 := Bool.eq_iff_iff.2 (a2.trans d2.symm)
      subst g1; subst g2
      cases r1 <;> cases r2 <;> rfl
end Go.Abs.T
