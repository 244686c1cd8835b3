import Derived.Test.YtacabmodmbcldaaDoorMD1p
import Derived.Test.YtacabmodmbcldaaDoorMT5c
/-! What a path leads to, and what is put there: the law PathFinds. -/
set_option linter.unusedVariables false
set_option linter.unusedSimpArgs false
namespace Go.Abs.T
open M
theorem Clone (v : Val) (hc : cnt v ≤ 200) (hs : strs v = true) : p_tree_Clone v = some (if rR 12 v = true then v else zv) := by
  obtain ⟨a, b, s, l, f⟩ := v
  show p_tree_Clone_0 a b s l f = _
  unfold p_tree_Clone_0 b_tree_Clone_0
  simp only [tree_Right _ hc hs, clone _ hc]
  cases rR 12 (.mk a b s l f) <;> simp
theorem r_set {α : Type} {l : List α} {i : Nat} {x : α} (h : i < l.length) : Prims.real.set l (i : Int) x = some (l.set i x) := by
  show Pr.set l i x = _
  unfold Pr.set
  rw [if_neg (by omega)]
  simp [h]
theorem sub1 {α : Type} (x : α) (l : List α) : Prims.real.sub (x :: l) (some 1) none = some l := by
  have hb : Pr.bnd (some (1 : Int)) 0 = some 1 := rfl
  show Pr.sub (x :: l) (some (1 : Int)) none = _
  simp [Pr.sub, hb, Pr.bnd.eq_1, Pr.cutB]
/-! ### Keys -/
def idxN (k : Str) : List Par → Nat → Int
  | [], _ => -1
  | p :: r, i => if keyOf p = k then (i : Int) else idxN k r (i + 1)
theorem idxN_yes {k kx : Str} {v : Val} {r : List Par} {i : Nat} (h : kx = k) : idxN k (.mk kx v :: r) i = i := by
  show (if kx = k then _ else _) = _
  rw [if_pos h]
theorem idxN_no {k kx : Str} {v : Val} {r : List Par} {i : Nat} (h : ¬ kx = k) : idxN k (.mk kx v :: r) i = idxN k r (i + 1) := by
  show (if kx = k then _ else _) = _
  rw [if_neg h]
theorem idxN_spec (k : Str) : ∀ (f : List Par) (i : Nat), idxN k f i = -1 ∨ ∃ j p, idxN k f i = ((i + j : Nat) : Int) ∧ f[j]? = some p
  | [], i => .inl rfl
  | p :: r, i => by
    unfold idxN
    by_cases h : keyOf p = k
    · rw [if_pos h]; exact .inr ⟨0, p, rfl, rfl⟩
    · rw [if_neg h]
      rcases idxN_spec k r (i + 1) with g | ⟨j, q, g1, g2⟩
      · exact .inl g
      · exact .inr ⟨j + 1, q, by rw [g1]; omega, by simpa using g2⟩
theorem at06_1 (k : Str) (a b : Int) (s : Str) (l : List Val) (f : List Par) (hf : f.length ≤ 1000) : ∀ (m i : Nat), f.length - i ≤ m → i ≤ f.length → p_cascaderef03_At_1 k a b s l f (i : Int) = some (idxN k (f.drop i) i)
  | m, i, hm, hi => by
    rw [u_cascaderef03_At_1]
    unfold b_cascaderef03_At_1
    rw [r_len]
    by_cases h : i < f.length
    · rw [lss_t (by omega), r_idx (List.getElem?_eq_getElem h), List.drop_eq_getElem_cons h]
      generalize f[i] = x at *
      obtain ⟨kx, ⟨x0, x1, x2, x3, x4⟩⟩ := x
      simp only
      by_cases e : kx = k
      · rw [seq_t e, idxN_yes e]
      · rw [seq_f e, idxN_no e]
        simp only
        rw [r_add (by unfold fit64; omega)]
        cases m with
        | zero => omega
        | succ m =>
          rw [show ((i : Int) + 1) = ((i + 1 : Nat) : Int) by omega]
          exact at06_1 k a b s l f hf m (i + 1) (by omega) (by omega)
    · rw [lss_f (by omega), List.drop_eq_nil_of_le (by omega)]
      rfl
theorem at06 (k : Str) (a b : Int) (s : Str) (l : List Val) (f : List Par) (hf : f.length ≤ 1000) : p_cascaderef03_At (.mk a b s l f) k = some (idxN k f 0) := by
  show p_cascaderef03_At_0 a b s l f k = _
  unfold p_cascaderef03_At_0 b_cascaderef03_At_0
  have := at06_1 k a b s l f hf _ 0 (Nat.le_refl _) (by omega)
  simpa using this
theorem ixf_1 (k : Str) (n : Int) (c : Bool) (f : List Par) (hf : f.length ≤ 1000) : ∀ (m i : Nat), f.length - i ≤ m → i ≤ f.length → p_slices_IndexFunc__api_Pair_api_Pair__1_1 f (f.length : Int) (i : Int) k n c = some (idxN k (f.drop i) i)
  | m, i, hm, hi => by
    rw [u_slices_IndexFunc__api_Pair_api_Pair__1_1]
    unfold b_slices_IndexFunc__api_Pair_api_Pair__1_1
    by_cases h : i < f.length
    · rw [lss_t (by omega), r_idx (List.getElem?_eq_getElem h), List.drop_eq_getElem_cons h]
      generalize f[i] = x at *
      obtain ⟨kx, ⟨x0, x1, x2, x3, x4⟩⟩ := x
      have e1 : p_path_at_1__0 (.mk kx ⟨x0, x1, x2, x3, x4⟩) k n c = some (Prims.real.seq kx k) := rfl
      simp only [e1]
      by_cases e : kx = k
      · rw [seq_t e, idxN_yes e]
      · rw [seq_f e, idxN_no e]
        simp only
        rw [r_add (by unfold fit64; omega)]
        cases m with
        | zero => omega
        | succ m =>
          rw [show ((i : Int) + 1) = ((i + 1 : Nat) : Int) by omega]
          exact ixf_1 k n c f hf m (i + 1) (by omega) (by omega)
    · rw [lss_f (by omega), List.drop_eq_nil_of_le (by omega)]
      rfl
theorem ixf (k : Str) (n : Int) (c : Bool) (f : List Par) (hf : f.length ≤ 1000) : p_slices_IndexFunc__api_Pair_api_Pair__1 f k n c = some (idxN k f 0) := by
  unfold p_slices_IndexFunc__api_Pair_api_Pair__1 p_slices_IndexFunc__api_Pair_api_Pair__1_0 b_slices_IndexFunc__api_Pair_api_Pair__1_0
  rw [r_len]
  have := ixf_1 k n c f hf _ 0 (Nat.le_refl _) (by omega)
  simpa using this
theorem cloneV (l : List Val) (h : 0 < l.length) (hl : l.length ≤ 1000) : p_slices_Clone__api_Value_api_Value__0 l = some (1, l) := by
  unfold p_slices_Clone__api_Value_api_Value__0 p_slices_Clone__api_Value_api_Value__0_0 b_slices_Clone__api_Value_api_Value__0_0
  rw [show (0 : Int) = ((0 : Nat) : Int) from rfl, r_idx (List.getElem?_eq_getElem h)]
  simp only
  rw [M.r_app (by simp only [List.length_nil, room]; omega) (by simp only [List.length_nil, room]; omega)]
  rfl
theorem cloneF (l : List Par) (h : 0 < l.length) (hl : l.length ≤ 1000) : p_slices_Clone__api_Pair_api_Pair__0 l = some (1, l) := by
  unfold p_slices_Clone__api_Pair_api_Pair__0 p_slices_Clone__api_Pair_api_Pair__0_0 b_slices_Clone__api_Pair_api_Pair__0_0
  rw [show (0 : Int) = ((0 : Nat) : Int) from rfl, r_idx (List.getElem?_eq_getElem h)]
  simp only
  rw [M.r_app (by simp only [List.length_nil, room]; omega) (by simp only [List.length_nil, room]; omega)]
  rfl
/-! ### Steps -/
def nextI : Val → Stp → Int
  | .mk a _ _ l f, st => if st.index = true then (if a = 4 ∧ st.f_at < l.length then st.f_at else -1) else if a = 5 then idxN st.key f 0 else -1
def kid : Val → Stp → Nat → Option Val
  | .mk _ _ _ l f, st, i => if st.index = true then l[i]? else (f[i]?).map valOf
def findS : Val → List Stp → Option Val
  | v, [] => some v
  | v, st :: p => if nextI v st < 0 then none else match kid v st (nextI v st).toNat with
    | none => none
    | some y => findS y p
theorem next_kid (v : Val) (st : Stp) (h : stepR st = true) : nextI v st = -1 ∨ ∃ i y, nextI v st = ((i : Nat) : Int) ∧ kid v st i = some y := by
  obtain ⟨a, b, s, l, f⟩ := v
  obtain ⟨k, n, c⟩ := st
  cases c with
  | true =>
    simp only [stepR, if_true, decide_eq_true_eq] at h
    simp only [nextI, kid, if_true]
    by_cases g : a = 4 ∧ n < l.length
    · rw [if_pos g]
      obtain ⟨i, rfl⟩ := Int.eq_ofNat_of_zero_le h.2.1
      exact .inr ⟨i, l[i]'(by omega), rfl, List.getElem?_eq_getElem (by omega)⟩
    · rw [if_neg g]; exact .inl rfl
  | false =>
    simp only [nextI, kid, Bool.false_eq_true, if_false]
    by_cases g : a = 5
    · rw [if_pos g]
      rcases idxN_spec k f 0 with h | ⟨j, p, h1, h2⟩
      · exact .inl h
      · exact .inr ⟨j, valOf p, by rw [h1]; simp, by rw [h2]; rfl⟩
    · rw [if_neg g]; exact .inl rfl
theorem ref_next (v : Val) (st : Stp) (hv : cnt v ≤ 200) : p_cascaderef06_next v st = some (nextI v st) := by
  obtain ⟨a, b, s, l, f⟩ := v
  obtain ⟨k, n, c⟩ := st
  have hf : f.length ≤ 1000 := by have := cntF_len f; simp only [cnt] at hv; omega
  show p_cascaderef06_next_0 a b s l f k n c = _
  unfold p_cascaderef06_next_0 b_cascaderef06_next_0 nextI
  have e1 : p_cascaderef06_next_1 = some (-1) := rfl
  cases c with
  | true =>
    simp only [if_true]
    by_cases h : a = 4
    · rw [eql_t h, r_len]
      simp only
      by_cases g : n < l.length
      · rw [lss_t g, if_pos ⟨h, g⟩]
      · rw [lss_f (by omega), if_neg (fun c => g c.2)]
        try exact e1
    · rw [eql_f h, if_neg (fun c => h c.1)]
      try exact e1
  | false =>
    simp only [Bool.false_eq_true, if_false]
    by_cases h : a = 5
    · rw [neq_f h, if_pos h]
      simp only [at06 k a b s l f hf]
    · rw [neq_t h, if_neg h]
theorem kid_cnt {v : Val} {st : Stp} {i : Nat} {y : Val} (h : kid v st i = some y) : cnt y < cnt v := by
  obtain ⟨a, b, s, l, f⟩ := v
  change (if st.index = true then l[i]? else (f[i]?).map valOf) = some y at h
  simp only [cnt]
  split at h
  · have := cntL_mem (List.mem_of_getElem? h); omega
  · obtain ⟨p, h1, rfl⟩ := Option.map_eq_some_iff.1 h
    have := cntF_mem (List.mem_of_getElem? h1); omega
theorem kid_right {d : Nat} {v : Val} {st : Stp} {i : Nat} {y : Val} (h : kid v st i = some y) (hr : rR (d + 1) v = true) : rR d y = true := by
  obtain ⟨a, b, s, l, f⟩ := v
  simp only [rR, Bool.and_eq_true] at hr
  change (if st.index = true then l[i]? else (f[i]?).map valOf) = some y at h
  split at h
  · exact List.all_eq_true.1 hr.1.1.2 _ (List.mem_of_getElem? h)
  · obtain ⟨p, h1, rfl⟩ := Option.map_eq_some_iff.1 h
    exact List.all_eq_true.1 hr.2 _ (List.mem_of_getElem? h1)
theorem kid_strs {v : Val} {st : Stp} {i : Nat} {y : Val} (h : kid v st i = some y) (hr : strs v = true) : strs y = true := by
  obtain ⟨a, b, s, l, f⟩ := v
  simp only [strs, Bool.and_eq_true] at hr
  change (if st.index = true then l[i]? else (f[i]?).map valOf) = some y at h
  split at h
  · exact strsL_mem hr.1.2 (List.mem_of_getElem? h)
  · obtain ⟨p, h1, rfl⟩ := Option.map_eq_some_iff.1 h
    exact (strsF_mem hr.2 (List.mem_of_getElem? h1)).2
/-! ### The tree's way -/
theorem rR_more : ∀ (d : Nat) (v : Val), rR d v = true → rR (d + 1) v = true
  | 0, v, h => by simp [rR] at h
  | d + 1, .mk a b s l f, h => by
    simp only [rR, Bool.and_eq_true, List.all_eq_true] at h ⊢
    refine ⟨⟨⟨h.1.1.1, fun v hv => ?_⟩, h.1.2⟩, fun p hp => ?_⟩
    · have := rR_more d v (h.1.1.2 v hv)
      simpa only [rR] using this
    · have := rR_more d _ (h.2 p hp)
      simpa only [rR] using this
theorem rR_add (v : Val) (d : Nat) (h : rR d v = true) : ∀ n, rR (d + n) v = true
  | 0 => h
  | n + 1 => rR_more _ _ (rR_add v d h n)
theorem rR_kid {v : Val} {st : Stp} {i : Nat} {y : Val} (h : kid v st i = some y) (hr : rR 12 v = true) : rR 12 y = true := rR_add _ _ (kid_right (d := 11) h hr) 1
theorem at_k : ∀ (k : Nat) (p : List Stp) (v : Val) (x0 x1 : Int) (x2 : Str) (x3 : List Val) (x4 : List Par), p.length < k → (∀ s ∈ p, stepR s = true) → cnt v ≤ 200 → strs v = true → rR 12 v = true →
    ∃ w e o0 o1 o2 o3 o4, pk_path_at__0 k v p x0 x1 x2 x3 x4 = some (w, e, o0, o1, o2, o3, o4) ∧ (match findS v p with | some y => e = 0 ∧ (.mk o0 o1 o2 o3 o4 : Val) = y | none => e = 8 ∧ (.mk o0 o1 o2 o3 o4 : Val) = .mk x0 x1 x2 x3 x4)
  | 0, p, v, _, _, _, _, _, h, _, _, _, _ => by omega
  | k + 1, p, .mk a b s l f, x0, x1, x2, x3, x4, hk, hs, hc, hst0, hr => by
    have hl : l.length ≤ 1000 := by have := cntL_len l; simp only [cnt] at hc; omega
    have hf : f.length ≤ 1000 := by have := cntF_len f; simp only [cnt] at hc; omega
    show ∃ w e o0 o1 o2 o3 o4, p_path_at__0_0 (pk_path_at__0 k) a b s l f p x0 x1 x2 x3 x4 = some (w, e, o0, o1, o2, o3, o4) ∧ _
    unfold p_path_at__0_0 b_path_at__0_0
    rw [r_len]
    have e2 : p_path_at__0_2 (pk_path_at__0 k) 0 0 [] [] [] x0 x1 x2 x3 x4 = some (.mk 0 0 [] [] [], 8, x0, x1, x2, x3, x4) := rfl
    cases p with
    | nil =>
      rw [eql_t (by simp)]
      have e1 : p_path_Find_1__0 (.mk a b s l f) x0 x1 x2 x3 x4 = some (.mk a b s l f, 0, a, b, s, l, f) := by
        show p_path_Find_1__0_0 a b s l f x0 x1 x2 x3 x4 = _
        unfold p_path_Find_1__0_0 b_path_Find_1__0_0
        simp only [Clone _ hc hst0, hr, if_true]
      simp only [e1]
      exact ⟨_, _, _, _, _, _, _, rfl, rfl, rfl⟩
    | cons st p =>
      rw [eql_f (by simp; omega)]
      have i0 : Prims.real.idx (st :: p) 0 = some st := rfl
      have hst := hs st List.mem_cons_self
      have hnk := next_kid (.mk a b s l f) st hst
      have hrec := fun (y : Val) (hy : cnt y ≤ 200) (hy2 : strs y = true) (hy3 : rR 12 y = true) => at_k k p y x0 x1 x2 x3 x4 (by simp at hk; omega) (fun s h => hs s (List.mem_cons_of_mem _ h)) hy hy2 hy3
      obtain ⟨kk, n, c⟩ := st
      simp only [i0, findS]
      cases c with
      | false =>
        simp only
        by_cases g : a = 5
        · rw [eql_t g]
          simp only [ixf kk n false f hf]
          have en : nextI (.mk a b s l f) ⟨kk, n, false⟩ = idxN kk f 0 := by simp [nextI, g]
          rw [en] at hnk ⊢
          rcases idxN_spec kk f 0 with h | ⟨j, q, h1, h2⟩
          · rw [h, geq_f (by omega)]
            simp only [e2]
            exact ⟨_, _, _, _, _, _, _, rfl, by simp⟩
          · rw [Nat.zero_add] at h1
            have hj := (List.getElem?_eq_some_iff.1 h2).1
            rw [h1, geq_t (by omega)]
            simp only [cloneF f (by omega) hf]
            rw [r_idx h2]
            have hkid : kid (.mk a b s l f) ⟨kk, n, false⟩ j = some (valOf q) := by simp [kid, h2]
            have hy := kid_cnt hkid
            obtain ⟨w, e, o0, o1, o2, o3, o4, r1, r2⟩ := hrec (valOf q) (by omega) (kid_strs hkid hst0) (rR_kid hkid hr)
            obtain ⟨kq, ⟨q0, q1, q2, q3, q4⟩⟩ := q
            simp only [sub1]
            simp only [valOf_mk] at r1 r2 hkid
            simp only [r1]
            obtain ⟨w0, w1, w2, w3, w4⟩ := w
            simp only
            rw [r_set hj]
            simp only
            refine ⟨_, _, _, _, _, _, _, rfl, ?_⟩
            rw [if_neg (by omega), Int.toNat_natCast, hkid]
            exact r2
        · rw [eql_f g]
          simp only [e2]
          exact ⟨_, _, _, _, _, _, _, rfl, by simp [nextI, g]⟩
      | true =>
        simp only
        simp only [stepR, if_true, decide_eq_true_eq] at hst
        obtain ⟨j, rfl⟩ := Int.eq_ofNat_of_zero_le hst.2.1
        by_cases g : a = 4
        · rw [eql_t g, r_len]
          simp only
          by_cases gl : j < l.length
          · rw [lss_t (by omega)]
            simp only [cloneV l (by omega) hl]
            rw [r_idx (List.getElem?_eq_getElem gl)]
            have hkid : kid (.mk a b s l f) ⟨kk, (j : Int), true⟩ j = some l[j] := by simp [kid, gl]
            have hy := kid_cnt hkid
            obtain ⟨w, e, o0, o1, o2, o3, o4, r1, r2⟩ := hrec l[j] (by omega) (kid_strs hkid hst0) (rR_kid hkid hr)
            have en : nextI (.mk a b s l f) ⟨kk, (j : Int), true⟩ = (j : Int) := by simp [nextI, g, gl]
            generalize l[j] = y at *
            obtain ⟨q0, q1, q2, q3, q4⟩ := y
            simp only [sub1, r1]
            obtain ⟨w0, w1, w2, w3, w4⟩ := w
            simp only
            rw [r_set gl]
            simp only
            refine ⟨_, _, _, _, _, _, _, rfl, ?_⟩
            rw [en, if_neg (by omega), Int.toNat_natCast, hkid]
            exact r2
          · rw [lss_f (by omega)]
            simp only [e2]
            have en : nextI (.mk a b s l f) ⟨kk, (j : Int), true⟩ = -1 := by simp [nextI, gl]
            exact ⟨_, _, _, _, _, _, _, rfl, by simp [en]⟩
        · rw [eql_f g]
          simp only [e2]
          have en : nextI (.mk a b s l f) ⟨kk, (j : Int), true⟩ = -1 := by simp [nextI, g]
          exact ⟨_, _, _, _, _, _, _, rfl, by simp [en]⟩
theorem find_1 (p : List Stp) (hp : p.length ≤ 1000) (hs : ∀ s ∈ p, stepR s = true) : ∀ (m i : Nat) (v0 v1 : Int) (v2 : Str) (v3 : List Val) (v4 : List Par) (o0 o1 : Int) (o2 : Str) (o3 : List Val) (o4 : List Par), p.length - i ≤ m → i ≤ p.length → cnt (.mk v0 v1 v2 v3 v4) ≤ 200 →
    p_cascaderef06_Find_1 p (i : Int) v0 v1 v2 v3 v4 o0 o1 o2 o3 o4 = some (match findS (.mk v0 v1 v2 v3 v4) (p.drop i) with | some y => (y, true) | none => (zv, false))
  | m, i, v0, v1, v2, v3, v4, o0, o1, o2, o3, o4, hm, hi, hc => by
    rw [u_cascaderef06_Find_1]
    unfold b_cascaderef06_Find_1
    rw [r_len]
    by_cases h : i < p.length
    · have hst := hs p[i] (List.getElem_mem h)
      rw [lss_t (by omega), r_idx (List.getElem?_eq_getElem h), List.drop_eq_getElem_cons h]
      have hn := next_kid (.mk v0 v1 v2 v3 v4) p[i] hst
      have hrn := ref_next (.mk v0 v1 v2 v3 v4) p[i] hc
      have hrec : ∀ w : Val, cnt w ≤ 200 → m ≠ 0 → ∀ w0 w1 w2 w3 w4, w = .mk w0 w1 w2 w3 w4 → p_cascaderef06_Find_1 p ((i : Int) + 1) w0 w1 w2 w3 w4 o0 o1 o2 o3 o4 = some (match findS w (p.drop (i + 1)) with | some y => (y, true) | none => (zv, false)) := by
        intro w hw h0 w0 w1 w2 w3 w4 e
        cases m with
        | zero => omega
        | succ m =>
          subst e
          rw [show ((i : Int) + 1) = ((i + 1 : Nat) : Int) by omega]
          exact find_1 p hp hs m (i + 1) w0 w1 w2 w3 w4 o0 o1 o2 o3 o4 (by omega) (by omega) hw
      generalize p[i] = st at *
      simp only [findS]
      obtain ⟨k, n, c⟩ := st
      simp only [hrn]
      rcases hn with hn | ⟨j, y, hn, hk⟩
      · rw [hn, lss_t (by omega), if_pos (by omega)]
      · rw [hn, lss_f (by omega), if_neg (by omega), Int.toNat_natCast, hk]
        have hy := kid_cnt hk
        have e4 : ∀ w0 w1 w2 w3 w4, p_cascaderef06_Find_4 p (i : Int) w0 w1 w2 w3 w4 o0 o1 o2 o3 o4 = some (.inl (p, (i : Int) + 1, w0, w1, w2, w3, w4, o0, o1, o2, o3, o4)) := by
          intro w0 w1 w2 w3 w4
          unfold p_cascaderef06_Find_4 b_cascaderef06_Find_4
          rw [r_add (by unfold fit64; omega)]
        cases c with
        | true =>
          have hk' : v3[j]? = some y := by simpa [kid] using hk
          simp only
          rw [r_idx hk']
          obtain ⟨y0, y1, y2, y3, y4⟩ := y
          simp only [e4]
          exact hrec _ (by omega) (by omega) _ _ _ _ _ rfl
        | false =>
          have hk' : (v4[j]?).map valOf = some y := by simpa [kid] using hk
          obtain ⟨q, hq, hqy⟩ := Option.map_eq_some_iff.1 hk'
          subst hqy
          simp only
          rw [r_idx hq]
          obtain ⟨kq, ⟨y0, y1, y2, y3, y4⟩⟩ := q
          simp only [e4]
          exact hrec _ (by omega) (by omega) _ _ _ _ _ rfl
    · rw [lss_f (by omega), List.drop_eq_nil_of_le (by omega)]
      rfl
theorem refFind (v : Val) (p : List Stp) (hp : p.length ≤ 1000) (hs : ∀ s ∈ p, stepR s = true) (hc : cnt v ≤ 200) : p_cascaderef06_Find v p = some (match findS v p with | some y => (y, true) | none => (zv, false)) := by
  obtain ⟨a, b, s, l, f⟩ := v
  show p_cascaderef06_Find_0 a b s l f p = _
  unfold p_cascaderef06_Find_0 b_cascaderef06_Find_0
  have := find_1 p hp hs _ 0 a b s l f 0 0 [] [] [] (Nat.le_refl _) (by omega) hc
  simpa using this
def findR (v : Val) (p : List Stp) : Val × Bool := if rR 12 v = true ∧ pathR p = true then (match findS v p with | some y => (y, true) | none => (zv, false)) else (zv, false)
theorem path_steps {p : List Stp} (h : pathR p = true) : ∀ s ∈ p, stepR s = true := by
  unfold pathR at h
  rw [Bool.and_eq_true] at h
  exact List.all_eq_true.1 h.2
theorem Find06 (v : Val) (p : List Stp) (hp : p.length ≤ 1000) (hc : cnt v ≤ 200) (hs : strs v = true) : p_path_Find v p = some (findR v p) := by
  unfold findR
  obtain ⟨a, b, s, l, f⟩ := v
  show p_path_Find_0 a b s l f p = _
  unfold p_path_Find_0 b_path_Find_0
  simp only [tree_Right _ hc hs]
  cases h1 : rR 12 (.mk a b s l f) with
  | false => simp
  | true =>
    simp only [Right06 p hp]
    cases h2 : pathR p with
    | false => simp
    | true =>
      obtain ⟨w, e, o0, o1, o2, o3, o4, r1, r2⟩ := at_k 1000000 p (.mk a b s l f) 0 0 [] [] [] (by omega) (path_steps h2) hc hs h1
      have hat : p_path_at__0 (.mk a b s l f) p 0 0 [] [] [] = some (w, e, o0, o1, o2, o3, o4) := r1
      simp only [hat, and_self, if_true]
      obtain ⟨w0, w1, w2, w3, w4⟩ := w
      revert r2
      cases findS (.mk a b s l f) p with
      | none =>
        rintro ⟨rfl, h⟩
        simp only [h]
        rw [eql_f (by omega)]
      | some y =>
        rintro ⟨rfl, h⟩
        simp only [h]
        rw [eql_t rfl]
theorem findS_cnt : ∀ (p : List Stp) (v y : Val), findS v p = some y → cnt y ≤ cnt v
  | [], v, y, h => by simp only [findS, Option.some.injEq] at h; rw [h]; exact Nat.le_refl _
  | st :: p, v, y, h => by
    simp only [findS] at h
    split at h
    · cases h
    · cases hk : kid v st (nextI v st).toNat with
      | none => rw [hk] at h; cases h
      | some z =>
        rw [hk] at h
        have := kid_cnt hk
        have := findS_cnt p z y h
        omega
theorem zero06 : p_cascadelaw06_zero zv = some true := by
  have := Same_self zv (by decide)
  show p_cascadelaw06_zero_0 0 0 [] [] [] = _
  unfold p_cascadelaw06_zero_0 b_cascadelaw06_zero_0
  simp only [this]
theorem PathFinds (v : Val) (p : List Stp) : p_cascadelaw06_PathFinds v p = some true := by
  obtain ⟨a, b, s, l, f⟩ := v
  show p_cascadelaw06_PathFinds_0 a b s l f p = _
  unfold p_cascadelaw06_PathFinds_0 b_cascadelaw06_PathFinds_0
  simp only [awake06]
  rcases Few (.mk a b s l f) 60 (by omega) with h | ⟨h1, h2, h3⟩
  · rw [show ((60 : Nat) : Int) = 60 from rfl] at h
    simp only [h]
  rw [show ((60 : Nat) : Int) = 60 from rfl] at h1
  simp only [h1]
  rcases few06 p with q | ⟨q1, q2, q3⟩
  · simp only [q]
  simp only [q1, Find06 (.mk a b s l f) p (by omega) (by omega) h3]
  have hz := zero06
  have hrr := refRight (.mk a b s l f) (by omega) h3
  have hrp := refRight06 p (fun s hs => by have := q3 s hs; omega)
  unfold findR
  cases g1 : rR 12 (.mk a b s l f) with
  | false =>
    simp only [Bool.false_eq_true, false_and, if_false, hrr, g1]
    show (match p_cascadelaw06_zero zv with | none => none | some r => some r) = some true
    rw [hz]
  | true =>
    cases g2 : pathR p with
    | false =>
      simp only [Bool.false_eq_true, and_false, if_false, hrr, g1, hrp, g2]
      show (match p_cascadelaw06_zero zv with | none => none | some r => some r) = some true
      rw [hz]
    | true =>
      simp only [and_self, if_true, hrr, g1, hrp, g2, refFind (.mk a b s l f) p (by omega) (path_steps g2) (by omega)]
      cases hf : findS (.mk a b s l f) p with
      | none =>
        have := Same_self zv (by decide)
        simp only
        show (match p_cascaderef03_Same zv zv with | none => none | some r => some r) = some true
        rw [this]
      | some y =>
        have hy := findS_cnt p _ _ hf
        have := Same_self y (by omega)
        obtain ⟨y0, y1, y2, y3, y4⟩ := y
        simp only [this]
end Go.Abs.T
