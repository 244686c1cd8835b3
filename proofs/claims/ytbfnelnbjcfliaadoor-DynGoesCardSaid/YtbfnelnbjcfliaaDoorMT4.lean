import Derived.Test.YtbfnelnbjcfliaaDoorMT3
/-! Right values by the tree, how many, what is cloned, what is the same: two laws. -/
set_option linter.unusedVariables false
set_option linter.unusedSimpArgs false
namespace Go.Abs.T
open M
theorem r_mfind {α : Type} (k : Str) (l : List (Str × Nat × α)) : Prims.real.mfind k l = Pr.mfind k l := rfl
theorem r_mput {α : Type} (k : Str) (c : Nat) (v : α) (l : List (Str × Nat × α)) : Prims.real.mput k c v l = Pr.mput k c v l := rfl
theorem mfind_put {α : Type} (k : Str) (c : Nat) (v : α) (k' : Str) : ∀ l : List (Str × Nat × α), Pr.mfind k' (Pr.mput k c v l) = if k' = k then some v else Pr.mfind k' l
  | [] => by
    simp only [Pr.mput, Pr.mfind]
    by_cases h : k' = k
    · simp [h]
    · have : (k' == k) = false := by simp [h]
      rw [this, if_neg h]
  | (x, c', v') :: r => by
    have ih := mfind_put k c v k' r
    simp only [Pr.mput]
    by_cases hk : k = x
    · have e : (k == x) = true := by simp [hk]
      rw [e]
      simp only [Pr.mfind]
      by_cases h : k' = k
      · have : (k' == x) = true := by simp [h, hk]
        rw [this, if_pos h]
      · have : (k' == x) = false := by simp; rw [← hk]; exact h
        rw [this, if_neg h]
    · have e : (k == x) = false := by simp [hk]
      rw [e]
      simp only [Pr.mfind]
      rw [ih]
      by_cases h : k' = x
      · have e2 : (k' == x) = true := by simp [h]
        have hne : ¬ k' = k := by rw [h]; exact fun h' => hk h'.symm
        simp only [e2, if_neg hne]
      · have e2 : (k' == x) = false := by simp [h]
        rw [e2]
theorem tree_unused (k n : Int) (s : Str) (l : List Val) (f : List Par) : p_tree_unused (.mk k n s l f) = some (decide ((k = 1 ∨ k = 2 ∨ n = 0) ∧ (k = 3 ∨ s = []) ∧ (k = 4 ∨ l.length = 0) ∧ (k = 5 ∨ f.length = 0))) := by
  show p_tree_unused_0 k n s l f = _
  unfold p_tree_unused_0 b_tree_unused_0
  have e3 : ∀ x, Prims.real.cmp .eql k x = decide (k = x) := fun x => by rw [r_eql]; rfl
  have e4 : Prims.real.cmp .eql n 0 = decide (n = 0) := by rw [r_eql]; rfl
  have e5 : Prims.real.seq s [] = decide (s = []) := by rw [r_seq]; by_cases h : s = [] <;> simp [h]
  have e6 : Prims.real.cmp .eql (Prims.real.len l) 0 = decide (l.length = 0) := by rw [r_len, r_eql]; by_cases h : l.length = 0 <;> simp [h]
  have e7 : Prims.real.cmp .eql (Prims.real.len f) 0 = decide (f.length = 0) := by rw [r_len, r_eql]; by_cases h : f.length = 0 <;> simp [h]
  simp only [e3, e4, e5, e6, e7]
  by_cases h1 : k = 1
  · subst h1; by_cases hs : s = [] <;> by_cases hl : l.length = 0 <;> by_cases hf : f.length = 0 <;> simp [hs, hl, hf]
  · by_cases h2 : k = 2
    · subst h2; by_cases hs : s = [] <;> by_cases hl : l.length = 0 <;> by_cases hf : f.length = 0 <;> simp [hs, hl, hf]
    · by_cases hn : n = 0
      · by_cases h3 : k = 3
        · subst h3; by_cases hl : l.length = 0 <;> by_cases hf : f.length = 0 <;> simp [hn, hl, hf]
        · by_cases h4 : k = 4
          · subst h4; by_cases hs : s = [] <;> by_cases hf : f.length = 0 <;> simp [hn, hs, hf]
          · by_cases h5 : k = 5
            · subst h5; by_cases hs : s = [] <;> by_cases hl : l.length = 0 <;> simp [hn, hs, hl]
            · by_cases hs : s = [] <;> by_cases hl : l.length = 0 <;> by_cases hf : f.length = 0 <;> simp [h1, h2, h3, h4, h5, hn, hs, hl, hf]
      · simp [h1, h2, hn]
theorem keys_loop (f : List Par) (hf : f.length ≤ 1000) : ∀ (m i c : Nat) (g : List (Str × Nat × Int)), f.length - i ≤ m → i ≤ f.length → (∀ k, Pr.mfind k g = if ((f.take i).map keyOf).contains k = true then some 1 else none) →
    p_tree_keys_1 f (f.length : Int) (i : Int) c g = some (keysS ((f.take i).map keyOf) (f.drop i))
  | m, i, c, g, hm, hi, hg => by
    rw [u_tree_keys_1]
    unfold b_tree_keys_1
    by_cases h : i < f.length
    · rw [lss_t (by omega), r_idx (List.getElem?_eq_getElem h), keysS_drop f h]
      have hnext : ∀ (x : Par), f[i] = x → (f.take (i + 1)).map keyOf = (f.take i).map keyOf ++ [keyOf x] := fun x hx => by
        rw [List.take_succ_eq_append_getElem h, List.map_append, hx]; rfl
      generalize f[i] = x at *
      obtain ⟨kx, ⟨x0, x1, x2, x3, x4⟩⟩ := x
      have hnext := hnext _ rfl
      simp only [keyOf_mk] at *
      simp only [r_mfind, r_mput]
      rw [text_isT]
      have hgk := hg kx
      cases hC : ((f.take i).map keyOf).contains kx with
      | true =>
        rw [hC] at hgk
        simp only [if_true] at hgk
        simp only [hgk, mfind_put, if_true]
        rw [r_add (by unfold fit64; omega), gtr_t (by omega)]
        simp
      | false =>
        rw [hC] at hgk
        simp only [Bool.false_eq_true, if_false] at hgk
        simp only [hgk, mfind_put, if_true]
        rw [r_add (by unfold fit64; omega), gtr_f (by omega)]
        cases hT : isT kx with
        | false => simp
        | true =>
          simp only [p_tree_keys_3, b_tree_keys_3]
          rw [r_add (by unfold fit64; omega)]
          cases m with
          | zero => omega
          | succ m =>
            rw [show ((i : Int) + 1) = ((i + 1 : Nat) : Int) by omega]
            rw [keys_loop f hf m (i + 1) _ _ (by omega) (by omega) (fun k => ?_)]
            · simp
            · rw [mfind_put, hg k, hnext]
              by_cases e : k = kx
              · simp [e]
              · simp [e]
    · rw [lss_f (by omega), List.drop_eq_nil_of_le (by omega)]
      rfl
theorem tree_keys (f : List Par) (hf : f.length ≤ 1000) : p_tree_keys f = some (keysS [] f) := by
  unfold p_tree_keys p_tree_keys_0 b_tree_keys_0
  rw [r_len]
  have := keys_loop f hf _ 0 0 [] (Nat.le_refl _) (by omega) (fun k => by simp [Pr.mfind])
  simpa using this
/-! ### Right values -/
theorem index_v (k d : Nat) (hd : d ≤ 200) (hr : ∀ v : Val, cnt v ≤ 200 → strs v = true → (pk_tree_Right_1_1__0 k).2.1 v (d : Int) = some (rR d v)) (l : List Val) (hl : cntL l ≤ 200) (hs : strsL l = true) : ∀ (m i : Nat), l.length - i ≤ m → i ≤ l.length →
    ∃ r : Int, p_slices_IndexFunc__api_Value_api_Value__0_1 (pk_tree_Right_1_1__0 (k+1)).1 l ((d : Int) + 1) (l.length : Int) (i : Int) = some r ∧ decide (0 ≤ r) = !((l.drop i).all (rR d))
  | m, i, hm, hi => by
    have hlen := cntL_len l
    rw [u_slices_IndexFunc__api_Value_api_Value__0_1]
    unfold b_slices_IndexFunc__api_Value_api_Value__0_1
    by_cases h : i < l.length
    · have hmem : l[i] ∈ l := List.getElem_mem h
      rw [lss_t (by omega), r_idx (List.getElem?_eq_getElem h), List.drop_eq_getElem_cons h, List.all_cons]
      have hcv := cntL_mem hmem
      have hv := strsL_mem hs hmem
      generalize l[i] = x at *
      obtain ⟨x0, x1, x2, x3, x4⟩ := x
      have e : (pk_tree_Right_1_1__0 (k + 1)).1 (.mk x0 x1 x2 x3 x4) ((d : Int) + 1) = some (!rR d (.mk x0 x1 x2 x3 x4)) := by
        show p_tree_Right_1_1__0_0 (pk_tree_Right_1_1__0 k).2.1 x0 x1 x2 x3 x4 ((d : Int) + 1) = _
        unfold p_tree_Right_1_1__0_0 b_tree_Right_1_1__0_0
        rw [r_sub64 (by unfold fit64; omega), show (d : Int) + 1 - 1 = d by omega, hr _ (by omega) hv]
        cases rR d (.mk x0 x1 x2 x3 x4) <;> rfl
      simp only [e]
      cases hR : rR d (.mk x0 x1 x2 x3 x4) with
      | false => exact ⟨i, by simp, by simp⟩
      | true =>
        simp only [Bool.not_true]
        rw [r_add (by unfold fit64; omega)]
        cases m with
        | zero => omega
        | succ m =>
          obtain ⟨r, g1, g2⟩ := index_v k d hd hr l hl hs m (i + 1) (by omega) (by omega)
          exact ⟨r, by rw [show ((i : Int) + 1) = ((i + 1 : Nat) : Int) by omega]; exact g1, by simpa using g2⟩
    · rw [lss_f (by omega), List.drop_eq_nil_of_le (by omega)]
      exact ⟨-1, rfl, by simp⟩
theorem contains_v (k d : Nat) (hd : d ≤ 200) (hr : ∀ v : Val, cnt v ≤ 200 → strs v = true → (pk_tree_Right_1_1__0 k).2.1 v (d : Int) = some (rR d v)) (l : List Val) (hl : cntL l ≤ 200) (hs : strsL l = true) :
    (pk_tree_Right_1_1__0 (k + 3)).2.2.1 l ((d : Int) + 1) = some (!(l.all (rR d))) := by
  show p_slices_ContainsFunc__api_Value_api_Value__0_0 (pk_tree_Right_1_1__0 (k+2)).2.2.2.1 l ((d : Int) + 1) = _
  unfold p_slices_ContainsFunc__api_Value_api_Value__0_0 b_slices_ContainsFunc__api_Value_api_Value__0_0
  obtain ⟨r, g1, g2⟩ := index_v k d hd hr l hl hs _ 0 (Nat.le_refl _) (by omega)
  have e : (pk_tree_Right_1_1__0 (k + 2)).2.2.2.1 l ((d : Int) + 1) = some r := by
    show p_slices_IndexFunc__api_Value_api_Value__0_0 (pk_tree_Right_1_1__0 (k+1)).1 l ((d : Int) + 1) = _
    unfold p_slices_IndexFunc__api_Value_api_Value__0_0 b_slices_IndexFunc__api_Value_api_Value__0_0
    rw [r_len]
    exact g1
  simp only [e, r_geq]
  rw [List.drop_zero] at g2
  rw [← g2]
theorem index_p (k d : Nat) (hd : d ≤ 200) (hr : ∀ v : Val, cnt v ≤ 200 → strs v = true → (pk_tree_Right_1_1__0 k).2.1 v (d : Int) = some (rR d v)) (l : List Par) (hl : cntF l ≤ 200) (hs : strsF l = true) : ∀ (m i : Nat), l.length - i ≤ m → i ≤ l.length →
    ∃ r : Int, p_slices_IndexFunc__api_Pair_api_Pair__0_1 (pk_tree_Right_1_1__0 (k+1)).2.2.2.2.2.2 l ((d : Int) + 1) (l.length : Int) (i : Int) = some r ∧ decide (0 ≤ r) = !((l.drop i).all (fun p => rR d (valOf p)))
  | m, i, hm, hi => by
    have hlen := cntF_len l
    rw [u_slices_IndexFunc__api_Pair_api_Pair__0_1]
    unfold b_slices_IndexFunc__api_Pair_api_Pair__0_1
    by_cases h : i < l.length
    · have hmem : l[i] ∈ l := List.getElem_mem h
      rw [lss_t (by omega), r_idx (List.getElem?_eq_getElem h), List.drop_eq_getElem_cons h, List.all_cons]
      have hcv := cntF_mem hmem
      obtain ⟨hk, hv⟩ := strsF_mem hs hmem
      generalize l[i] = x at *
      obtain ⟨kx, ⟨x0, x1, x2, x3, x4⟩⟩ := x
      simp only [keyOf_mk, valOf_mk] at *
      have e : (pk_tree_Right_1_1__0 (k + 1)).2.2.2.2.2.2 (.mk kx (.mk x0 x1 x2 x3 x4)) ((d : Int) + 1) = some (!rR d (.mk x0 x1 x2 x3 x4)) := by
        show p_tree_Right_1_2__0_0 (pk_tree_Right_1_1__0 k).2.1 kx x0 x1 x2 x3 x4 ((d : Int) + 1) = _
        unfold p_tree_Right_1_2__0_0 b_tree_Right_1_2__0_0
        rw [r_sub64 (by unfold fit64; omega), show (d : Int) + 1 - 1 = d by omega, hr _ (by omega) hv]
        cases rR d (.mk x0 x1 x2 x3 x4) <;> rfl
      simp only [e]
      cases hR : rR d (.mk x0 x1 x2 x3 x4) with
      | false => exact ⟨i, by simp, by simp⟩
      | true =>
        simp only [Bool.not_true]
        rw [r_add (by unfold fit64; omega)]
        cases m with
        | zero => omega
        | succ m =>
          obtain ⟨r, g1, g2⟩ := index_p k d hd hr l hl hs m (i + 1) (by omega) (by omega)
          exact ⟨r, by rw [show ((i : Int) + 1) = ((i + 1 : Nat) : Int) by omega]; exact g1, by simpa using g2⟩
    · rw [lss_f (by omega), List.drop_eq_nil_of_le (by omega)]
      exact ⟨-1, rfl, by simp⟩
theorem contains_p (k d : Nat) (hd : d ≤ 200) (hr : ∀ v : Val, cnt v ≤ 200 → strs v = true → (pk_tree_Right_1_1__0 k).2.1 v (d : Int) = some (rR d v)) (l : List Par) (hl : cntF l ≤ 200) (hs : strsF l = true) :
    (pk_tree_Right_1_1__0 (k + 3)).2.2.2.2.1 l ((d : Int) + 1) = some (!(l.all (fun p => rR d (valOf p)))) := by
  show p_slices_ContainsFunc__api_Pair_api_Pair__0_0 (pk_tree_Right_1_1__0 (k+2)).2.2.2.2.2.1 l ((d : Int) + 1) = _
  unfold p_slices_ContainsFunc__api_Pair_api_Pair__0_0 b_slices_ContainsFunc__api_Pair_api_Pair__0_0
  obtain ⟨r, g1, g2⟩ := index_p k d hd hr l hl hs _ 0 (Nat.le_refl _) (by omega)
  have e : (pk_tree_Right_1_1__0 (k + 2)).2.2.2.2.2.1 l ((d : Int) + 1) = some r := by
    show p_slices_IndexFunc__api_Pair_api_Pair__0_0 (pk_tree_Right_1_1__0 (k+1)).2.2.2.2.2.2 l ((d : Int) + 1) = _
    unfold p_slices_IndexFunc__api_Pair_api_Pair__0_0 b_slices_IndexFunc__api_Pair_api_Pair__0_0
    rw [r_len]
    exact g1
  simp only [e, r_geq]
  rw [List.drop_zero] at g2
  rw [← g2]
theorem isT_nil : isT [] = true := by unfold isT; rw [badAt_end (by simp)]; rfl
theorem tright_k : ∀ (d k : Nat), 4 * d + 4 ≤ k → d ≤ 200 → ∀ v : Val, cnt v ≤ 200 → strs v = true → (pk_tree_Right_1_1__0 k).2.1 v (d : Int) = some (rR d v)
  | 0, 0, h, _, _, _, _ => by omega
  | 0, k + 1, h, hd, ⟨a, b, s, l, f⟩, hc, hs => by
    show p_tree_Right_1__0_0 (pk_tree_Right_1_1__0 k).2.2.1 (pk_tree_Right_1_1__0 k).2.2.2.2.1 a b s l f ((0 : Nat) : Int) = _
    unfold p_tree_Right_1__0_0 b_tree_Right_1__0_0
    rw [lss_t (by omega)]
    rfl
  | d + 1, k, h, hd, ⟨a, b, s, l, f⟩, hc, hs => by
    obtain ⟨k, rfl⟩ : ∃ q, k = q + 4 := ⟨k - 4, by omega⟩
    have ih := tright_k d k (by omega) (by omega)
    show p_tree_Right_1__0_0 (pk_tree_Right_1_1__0 (k+3)).2.2.1 (pk_tree_Right_1_1__0 (k+3)).2.2.2.2.1 a b s l f ((d + 1 : Nat) : Int) = _
    unfold p_tree_Right_1__0_0 b_tree_Right_1__0_0
    simp only [cnt] at hc
    simp only [strs, Bool.and_eq_true, decide_eq_true_eq] at hs
    have hlen := cntL_len l
    have hfen := cntF_len f
    rw [lss_f (by omega), show ((d + 1 : Nat) : Int) = (d : Int) + 1 by omega]
    simp only [tree_unused, text_isT, tree_keys f (by omega), contains_v k d (by omega) ih l (by omega) hs.1.2, contains_p k d (by omega) ih f (by omega) hs.2]
    rw [rR]
    unfold headOk
    by_cases c1 : (a = 1 ∨ a = 2 ∨ b = 0) ∧ (a = 3 ∨ s = []) ∧ (a = 4 ∨ l.length = 0) ∧ (a = 5 ∨ f.length = 0)
    · rw [decide_eq_true c1]
      simp only
      have nl : ∀ {x : List Val}, x.length = 0 → x = [] := fun h => List.length_eq_zero_iff.1 h
      have nf : ∀ {x : List Par}, x.length = 0 → x = [] := fun h => List.length_eq_zero_iff.1 h
      obtain ⟨c2, c3, c4, c5⟩ := c1
      by_cases h0 : a = 0
      · subst h0
        rw [eql_t rfl]
        have e1 : s = [] := c3.resolve_left (by omega)
        have e2 : l = [] := nl (by omega)
        have e3 : f = [] := nf (by omega)
        subst e1; subst e2; subst e3
        have e4 : b = 0 := by omega
        subst e4
        simp [isT_nil, keysS]
      · rw [eql_f h0]
        simp only
        by_cases h1 : a = 1
        · subst h1
          rw [eql_t rfl]
          have e1 : s = [] := c3.resolve_left (by omega)
          have e2 : l = [] := nl (by omega)
          have e3 : f = [] := nf (by omega)
          subst e1; subst e2; subst e3
          by_cases hb : b = 0
          · rw [eql_t hb]; subst hb; simp [isT_nil, keysS]
          · rw [eql_f hb]
            simp only [r_eql, isT_nil, keysS, List.all_nil, Bool.and_true, Option.some.injEq]
            rw [Bool.eq_iff_iff]
            simp
            constructor
            · rintro rfl; simp
            · rintro ⟨h, _⟩; exact h.resolve_left hb
        · rw [eql_f h1]
          simp only
          by_cases h2 : a = 2
          · subst h2
            rw [eql_t rfl]
            have e1 : s = [] := c3.resolve_left (by omega)
            have e2 : l = [] := nl (by omega)
            have e3 : f = [] := nf (by omega)
            subst e1; subst e2; subst e3
            by_cases hb : -9007199254740991 ≤ b
            · rw [geq_t hb, r_leq]
              simp only [isT_nil, keysS, List.all_nil, Bool.and_true, Option.some.injEq]
              rw [Bool.eq_iff_iff]
              simp [hb]
            · rw [geq_f (by omega)]
              simp only [isT_nil, keysS, List.all_nil, Bool.and_true, Option.some.injEq]
              rw [Bool.eq_iff_iff]
              simp
              intro h; omega
          · rw [eql_f h2]
            have hb : b = 0 := by omega
            subst hb
            simp only
            by_cases h3 : a = 3
            · subst h3
              rw [eql_t rfl]
              have e2 : l = [] := nl (by omega)
              have e3 : f = [] := nf (by omega)
              subst e2; subst e3
              simp [keysS]
            · rw [eql_f h3]
              have e1 : s = [] := c3.resolve_left h3
              subst e1
              simp only
              by_cases h4 : a = 4
              · subst h4
                rw [eql_t rfl]
                have e3 : f = [] := nf (by omega)
                subst e3
                cases l.all (rR d) <;> simp [isT_nil, keysS]
              · rw [eql_f h4]
                have e2 : l = [] := nl (by omega)
                subst e2
                simp only
                by_cases h5 : a = 5
                · subst h5
                  rw [eql_t rfl]
                  cases keysS [] f <;> cases f.all (fun p => rR d (valOf p)) <;> simp [isT_nil]
                · rw [eql_f h5]
                  have : ¬ (0 ≤ a ∧ a ≤ 5) := by omega
                  simp [this]
    · rw [decide_eq_false c1, decide_eq_false (fun h => c1 ⟨h.2.1, h.2.2.1, h.2.2.2.1, h.2.2.2.2.1⟩)]
      simp
theorem tree_Right (v : Val) (hc : cnt v ≤ 200) (hs : strs v = true) : p_tree_Right v = some (rR 12 v) := by
  obtain ⟨a, b, s, l, f⟩ := v
  show p_tree_Right_0 a b s l f = _
  unfold p_tree_Right_0 b_tree_Right_0
  have : p_tree_Right_1__0 (.mk a b s l f) 12 = some (rR 12 (.mk a b s l f)) := tright_k 12 1000000 (by omega) (by omega) _ hc hs
  simp only [this]
end Go.Abs.T
