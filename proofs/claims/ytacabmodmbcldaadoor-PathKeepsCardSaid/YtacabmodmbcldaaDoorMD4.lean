import Derived.Test.YtacabmodmbcldaaDoorMD1p
import Derived.Test.YtacabmodmbcldaaDoorMT5c
/-! What a path leads to, and what is put there: the law PathPuts. -/
set_option linter.unusedVariables false
set_option linter.unusedSimpArgs false
namespace Go.Abs.T
open M
theorem Clone (v : Val) (hc : cnt v ≤ 200) (hs : strs v = true) : p_tree_Clone v = some (if rR 12 v = true then v else zv) := by
  obtain ⟨a, b, s, l, f⟩ := v
  show p_tree_Clone_0 a b s l f = _
  unfold p_tree_Clone_0 b_tree_Clone_0
  simp only [tree_Right _ hc hs, clone _ hc]
  cases rR 12 (.mk a b s l f) <;> simp
theorem r_set {α : Type} {l : List α} {i : Nat} {x : α} (h : i < l.length) : Prims.real.set l (i : Int) x = some (l.set i x) := by
  show Pr.set l i x = _
  unfold Pr.set
  rw [if_neg (by omega)]
  simp [h]
theorem sub1 {α : Type} (x : α) (l : List α) : Prims.real.sub (x :: l) (some 1) none = some l := by
  have hb : Pr.bnd (some (1 : Int)) 0 = some 1 := rfl
  show Pr.sub (x :: l) (some (1 : Int)) none = _
  simp [Pr.sub, hb, Pr.bnd.eq_1, Pr.cutB]
/-! ### Keys -/
def idxN (k : Str) : List Par → Nat → Int
  | [], _ => -1
  | p :: r, i => if keyOf p = k then (i : Int) else idxN k r (i + 1)
theorem idxN_yes {k kx : Str} {v : Val} {r : List Par} {i : Nat} (h : kx = k) : idxN k (.mk kx v :: r) i = i := by
  show (if kx = k then _ else _) = _
  rw [if_pos h]
theorem idxN_no {k kx : Str} {v : Val} {r : List Par} {i : Nat} (h : ¬ kx = k) : idxN k (.mk kx v :: r) i = idxN k r (i + 1) := by
  show (if kx = k then _ else _) = _
  rw [if_neg h]
theorem idxN_spec (k : Str) : ∀ (f : List Par) (i : Nat), idxN k f i = -1 ∨ ∃ j p, idxN k f i = ((i + j : Nat) : Int) ∧ f[j]? = some p
  | [], i => .inl rfl
  | p :: r, i => by
    unfold idxN
    by_cases h : keyOf p = k
    · rw [if_pos h]; exact .inr ⟨0, p, rfl, rfl⟩
    · rw [if_neg h]
      rcases idxN_spec k r (i + 1) with g | ⟨j, q, g1, g2⟩
      · exact .inl g
      · exact .inr ⟨j + 1, q, by rw [g1]; omega, by simpa using g2⟩
theorem ixf_1 (k : Str) (n : Int) (c : Bool) (f : List Par) (hf : f.length ≤ 1000) : ∀ (m i : Nat), f.length - i ≤ m → i ≤ f.length → p_slices_IndexFunc__api_Pair_api_Pair__1_1 f (f.length : Int) (i : Int) k n c = some (idxN k (f.drop i) i)
  | m, i, hm, hi => by
    rw [u_slices_IndexFunc__api_Pair_api_Pair__1_1]
    unfold b_slices_IndexFunc__api_Pair_api_Pair__1_1
    by_cases h : i < f.length
    · rw [lss_t (by omega), r_idx (List.getElem?_eq_getElem h), List.drop_eq_getElem_cons h]
      generalize f[i] = x at *
      obtain ⟨kx, ⟨x0, x1, x2, x3, x4⟩⟩ := x
      have e1 : p_path_at_1__0 (.mk kx ⟨x0, x1, x2, x3, x4⟩) k n c = some (Prims.real.seq kx k) := rfl
      simp only [e1]
      by_cases e : kx = k
      · rw [seq_t e, idxN_yes e]
      · rw [seq_f e, idxN_no e]
        simp only
        rw [r_add (by unfold fit64; omega)]
        cases m with
        | zero => omega
        | succ m =>
          rw [show ((i : Int) + 1) = ((i + 1 : Nat) : Int) by omega]
          exact ixf_1 k n c f hf m (i + 1) (by omega) (by omega)
    · rw [lss_f (by omega), List.drop_eq_nil_of_le (by omega)]
      rfl
theorem ixf (k : Str) (n : Int) (c : Bool) (f : List Par) (hf : f.length ≤ 1000) : p_slices_IndexFunc__api_Pair_api_Pair__1 f k n c = some (idxN k f 0) := by
  unfold p_slices_IndexFunc__api_Pair_api_Pair__1 p_slices_IndexFunc__api_Pair_api_Pair__1_0 b_slices_IndexFunc__api_Pair_api_Pair__1_0
  rw [r_len]
  have := ixf_1 k n c f hf _ 0 (Nat.le_refl _) (by omega)
  simpa using this
theorem cloneV (l : List Val) (h : 0 < l.length) (hl : l.length ≤ 1000) : p_slices_Clone__api_Value_api_Value__0 l = some (1, l) := by
  unfold p_slices_Clone__api_Value_api_Value__0 p_slices_Clone__api_Value_api_Value__0_0 b_slices_Clone__api_Value_api_Value__0_0
  rw [show (0 : Int) = ((0 : Nat) : Int) from rfl, r_idx (List.getElem?_eq_getElem h)]
  simp only
  rw [M.r_app (by simp only [List.length_nil, room]; omega) (by simp only [List.length_nil, room]; omega)]
  rfl
theorem cloneF (l : List Par) (h : 0 < l.length) (hl : l.length ≤ 1000) : p_slices_Clone__api_Pair_api_Pair__0 l = some (1, l) := by
  unfold p_slices_Clone__api_Pair_api_Pair__0 p_slices_Clone__api_Pair_api_Pair__0_0 b_slices_Clone__api_Pair_api_Pair__0_0
  rw [show (0 : Int) = ((0 : Nat) : Int) from rfl, r_idx (List.getElem?_eq_getElem h)]
  simp only
  rw [M.r_app (by simp only [List.length_nil, room]; omega) (by simp only [List.length_nil, room]; omega)]
  rfl
/-! ### Steps -/
def nextI : Val → Stp → Int
  | .mk a _ _ l f, st => if st.index = true then (if a = 4 ∧ st.f_at < l.length then st.f_at else -1) else if a = 5 then idxN st.key f 0 else -1
def kid : Val → Stp → Nat → Option Val
  | .mk _ _ _ l f, st, i => if st.index = true then l[i]? else (f[i]?).map valOf
def put1 : Val → Stp → Nat → Val → Val
  | .mk a b s l f, st, i, w => if st.index = true then .mk a b s (l.set i w) f else match f[i]? with
    | some p => .mk a b s l (f.set i (.mk (keyOf p) w))
    | none => .mk a b s l f
def findS : Val → List Stp → Option Val
  | v, [] => some v
  | v, st :: p => if nextI v st < 0 then none else match kid v st (nextI v st).toNat with
    | none => none
    | some y => findS y p
def atS (x : Val) : Val → List Stp → Option Val
  | _, [] => some x
  | v, st :: p => if nextI v st < 0 then none else match kid v st (nextI v st).toNat with
    | none => none
    | some y => match atS x y p with
      | none => none
      | some w => some (put1 v st (nextI v st).toNat w)
theorem next_kid (v : Val) (st : Stp) (h : stepR st = true) : nextI v st = -1 ∨ ∃ i y, nextI v st = ((i : Nat) : Int) ∧ kid v st i = some y := by
  obtain ⟨a, b, s, l, f⟩ := v
  obtain ⟨k, n, c⟩ := st
  cases c with
  | true =>
    simp only [stepR, if_true, decide_eq_true_eq] at h
    simp only [nextI, kid, if_true]
    by_cases g : a = 4 ∧ n < l.length
    · rw [if_pos g]
      obtain ⟨i, rfl⟩ := Int.eq_ofNat_of_zero_le h.2.1
      exact .inr ⟨i, l[i]'(by omega), rfl, List.getElem?_eq_getElem (by omega)⟩
    · rw [if_neg g]; exact .inl rfl
  | false =>
    simp only [nextI, kid, Bool.false_eq_true, if_false]
    by_cases g : a = 5
    · rw [if_pos g]
      rcases idxN_spec k f 0 with h | ⟨j, p, h1, h2⟩
      · exact .inl h
      · exact .inr ⟨j, valOf p, by rw [h1]; simp, by rw [h2]; rfl⟩
    · rw [if_neg g]; exact .inl rfl
theorem at_find (x : Val) : ∀ (p : List Stp) (v : Val), (atS x v p).isSome = (findS v p).isSome
  | [], v => rfl
  | st :: p, v => by
    simp only [atS, findS]
    by_cases h : nextI v st < 0
    · rw [if_pos h, if_pos h]
    · rw [if_neg h, if_neg h]
      cases kid v st (nextI v st).toNat with
      | none => rfl
      | some y =>
        simp only
        rw [← at_find x p y]
        cases atS x y p <;> rfl
theorem kid_cnt {v : Val} {st : Stp} {i : Nat} {y : Val} (h : kid v st i = some y) : cnt y < cnt v := by
  obtain ⟨a, b, s, l, f⟩ := v
  change (if st.index = true then l[i]? else (f[i]?).map valOf) = some y at h
  simp only [cnt]
  split at h
  · have := cntL_mem (List.mem_of_getElem? h); omega
  · obtain ⟨p, h1, rfl⟩ := Option.map_eq_some_iff.1 h
    have := cntF_mem (List.mem_of_getElem? h1); omega
theorem kid_right {d : Nat} {v : Val} {st : Stp} {i : Nat} {y : Val} (h : kid v st i = some y) (hr : rR (d + 1) v = true) : rR d y = true := by
  obtain ⟨a, b, s, l, f⟩ := v
  simp only [rR, Bool.and_eq_true] at hr
  change (if st.index = true then l[i]? else (f[i]?).map valOf) = some y at h
  split at h
  · exact List.all_eq_true.1 hr.1.1.2 _ (List.mem_of_getElem? h)
  · obtain ⟨p, h1, rfl⟩ := Option.map_eq_some_iff.1 h
    exact List.all_eq_true.1 hr.2 _ (List.mem_of_getElem? h1)
/-! ### The tree's way -/
theorem at_k (x0 x1 : Int) (x2 : Str) (x3 : List Val) (x4 : List Par) : ∀ (k : Nat) (p : List Stp) (v : Val), p.length < k → (∀ s ∈ p, stepR s = true) → cnt v ≤ 200 →
    ∃ w e, pk_path_at__0 k v p x0 x1 x2 x3 x4 = some (w, e) ∧ (match atS (.mk x0 x1 x2 x3 x4) v p with | some w' => w = w' ∧ e = 0 | none => e = 8)
  | 0, p, v, h, _, _ => by omega
  | k + 1, p, .mk a b s l f, hk, hs, hc => by
    have hl : l.length ≤ 1000 := by have := cntL_len l; simp only [cnt] at hc; omega
    have hf : f.length ≤ 1000 := by have := cntF_len f; simp only [cnt] at hc; omega
    show ∃ w e, p_path_at__0_0 (pk_path_at__0 k) a b s l f p x0 x1 x2 x3 x4 = some (w, e) ∧ _
    unfold p_path_at__0_0 b_path_at__0_0
    rw [r_len]
    have e2 : p_path_at__0_2 (pk_path_at__0 k) 0 0 [] [] [] = some (.mk 0 0 [] [] [], 8) := rfl
    cases p with
    | nil =>
      rw [eql_t (by simp)]
      exact ⟨.mk x0 x1 x2 x3 x4, 0, rfl, rfl, rfl⟩
    | cons st p =>
      rw [eql_f (by simp; omega)]
      have i0 : Prims.real.idx (st :: p) 0 = some st := rfl
      have hst := hs st List.mem_cons_self
      have hnk := next_kid (.mk a b s l f) st hst
      have hrec := fun (y : Val) (hy : cnt y ≤ 200) => at_k x0 x1 x2 x3 x4 k p y (by simp at hk; omega) (fun s h => hs s (List.mem_cons_of_mem _ h)) hy
      obtain ⟨kk, n, c⟩ := st
      simp only [i0, atS]
      cases c with
      | false =>
        simp only
        by_cases g : a = 5
        · rw [eql_t g]
          simp only [ixf kk n false f hf]
          have en : nextI (.mk a b s l f) ⟨kk, n, false⟩ = idxN kk f 0 := by simp [nextI, g]
          rw [en] at hnk ⊢
          rcases idxN_spec kk f 0 with h | ⟨j, q, h1, h2⟩
          · rw [h, geq_f (by omega)]
            simp only [e2]
            exact ⟨_, _, rfl, by simp⟩
          · rw [Nat.zero_add] at h1
            have hj := (List.getElem?_eq_some_iff.1 h2).1
            rw [h1, geq_t (by omega)]
            simp only [cloneF f (by omega) hf]
            rw [r_idx h2]
            have hkid : kid (.mk a b s l f) ⟨kk, n, false⟩ j = some (valOf q) := by simp [kid, h2]
            have hy := kid_cnt hkid
            obtain ⟨w, e, r1, r2⟩ := hrec (valOf q) (by omega)
            obtain ⟨kq, ⟨q0, q1, q2, q3, q4⟩⟩ := q
            simp only [sub1]
            simp only [valOf_mk] at r1 r2 hkid
            simp only [r1]
            obtain ⟨w0, w1, w2, w3, w4⟩ := w
            simp only
            rw [r_set hj]
            simp only
            refine ⟨_, _, rfl, ?_⟩
            rw [if_neg (by omega), Int.toNat_natCast, hkid]
            simp only
            revert r2
            cases atS (.mk x0 x1 x2 x3 x4) (.mk q0 q1 q2 q3 q4) p with
            | none => exact fun h => h
            | some w' =>
              rintro ⟨rfl, rfl⟩
              simp [put1, h2, keyOf_mk]
        · rw [eql_f g]
          simp only [e2]
          exact ⟨_, _, rfl, by simp [nextI, g]⟩
      | true =>
        simp only
        simp only [stepR, if_true, decide_eq_true_eq] at hst
        obtain ⟨j, rfl⟩ := Int.eq_ofNat_of_zero_le hst.2.1
        by_cases g : a = 4
        · rw [eql_t g, r_len]
          simp only
          by_cases gl : j < l.length
          · rw [lss_t (by omega)]
            simp only [cloneV l (by omega) hl]
            rw [r_idx (List.getElem?_eq_getElem gl)]
            have hkid : kid (.mk a b s l f) ⟨kk, (j : Int), true⟩ j = some l[j] := by simp [kid, gl]
            have hy := kid_cnt hkid
            obtain ⟨w, e, r1, r2⟩ := hrec l[j] (by omega)
            have hset : ∀ w, put1 (.mk a b s l f) ⟨kk, (j : Int), true⟩ j w = .mk a b s (l.set j w) f := fun w => by simp [put1]
            have en : nextI (.mk a b s l f) ⟨kk, (j : Int), true⟩ = (j : Int) := by simp [nextI, g, gl]
            generalize l[j] = y at *
            obtain ⟨q0, q1, q2, q3, q4⟩ := y
            simp only [sub1, r1]
            obtain ⟨w0, w1, w2, w3, w4⟩ := w
            simp only
            rw [r_set gl]
            simp only
            refine ⟨_, _, rfl, ?_⟩
            rw [en, if_neg (by omega), Int.toNat_natCast, hkid]
            simp only
            revert r2
            cases atS (.mk x0 x1 x2 x3 x4) (.mk q0 q1 q2 q3 q4) p with
            | none => exact fun h => h
            | some w' =>
              rintro ⟨rfl, rfl⟩
              simp only [hset, and_self]
          · rw [lss_f (by omega)]
            simp only [e2]
            have en : nextI (.mk a b s l f) ⟨kk, (j : Int), true⟩ = -1 := by simp [nextI, gl]
            exact ⟨_, _, rfl, by simp [en]⟩
        · rw [eql_f g]
          simp only [e2]
          have en : nextI (.mk a b s l f) ⟨kk, (j : Int), true⟩ = -1 := by simp [nextI, g]
          exact ⟨_, _, rfl, by simp [en]⟩
/-! ### How many then -/
theorem cntL_set : ∀ {l : List Val} {i : Nat} {y w : Val}, l[i]? = some y → cntL (l.set i w) + cnt y = cntL l + cnt w
  | [], i, y, w, h => by simp at h
  | v :: r, 0, y, w, h => by simp at h; subst h; simp [cntL]; omega
  | v :: r, i + 1, y, w, h => by
    have := cntL_set (w := w) (show r[i]? = some y by simpa using h)
    simp only [List.set_cons_succ, cntL]; omega
theorem cntF_set : ∀ {f : List Par} {i : Nat} {q : Par} {k : Str} {w : Val}, f[i]? = some q → cntF (f.set i (.mk k w)) + cnt (valOf q) = cntF f + cnt w
  | [], i, q, k, w, h => by simp at h
  | v :: r, 0, q, k, w, h => by simp at h; subst h; simp [cntF, cntP_eq, valOf_mk]; omega
  | v :: r, i + 1, q, k, w, h => by
    have := cntF_set (k := k) (w := w) (show r[i]? = some q by simpa using h)
    simp only [List.set_cons_succ, cntF]; omega
theorem strsL_set : ∀ {l : List Val} {i : Nat} {w : Val}, strsL l = true → strs w = true → strsL (l.set i w) = true
  | [], i, w, h, _ => h
  | v :: r, 0, w, h, hw => by simp only [List.set_cons_zero, strsL, Bool.and_eq_true] at h ⊢; exact ⟨hw, h.2⟩
  | v :: r, i + 1, w, h, hw => by simp only [List.set_cons_succ, strsL, Bool.and_eq_true] at h ⊢; exact ⟨h.1, strsL_set h.2 hw⟩
theorem strsF_set : ∀ {f : List Par} {i : Nat} {q : Par} {w : Val}, strsF f = true → f[i]? = some q → strs w = true → strsF (f.set i (.mk (keyOf q) w)) = true
  | [], i, q, w, h, _, _ => h
  | v :: r, 0, q, w, h, hq, hw => by
    simp at hq; subst hq
    obtain ⟨kq, vq⟩ := v
    simp only [List.set_cons_zero, strsF, strsP, Bool.and_eq_true, keyOf_mk] at h ⊢; exact ⟨⟨h.1.1, hw⟩, h.2⟩
  | v :: r, i + 1, q, w, h, hq, hw => by simp only [List.set_cons_succ, strsF, Bool.and_eq_true] at h ⊢; exact ⟨h.1, strsF_set h.2 (by simpa using hq) hw⟩
theorem kid_strs {v : Val} {st : Stp} {i : Nat} {y : Val} (h : kid v st i = some y) (hr : strs v = true) : strs y = true := by
  obtain ⟨a, b, s, l, f⟩ := v
  simp only [strs, Bool.and_eq_true] at hr
  change (if st.index = true then l[i]? else (f[i]?).map valOf) = some y at h
  split at h
  · exact strsL_mem hr.1.2 (List.mem_of_getElem? h)
  · obtain ⟨p, h1, rfl⟩ := Option.map_eq_some_iff.1 h
    exact (strsF_mem hr.2 (List.mem_of_getElem? h1)).2
theorem put1_cnt {v : Val} {st : Stp} {i : Nat} {y w : Val} (h : kid v st i = some y) : cnt (put1 v st i w) + cnt y = cnt v + cnt w ∧ (strs v = true → strs w = true → strs (put1 v st i w) = true) := by
  obtain ⟨a, b, s, l, f⟩ := v
  change (if st.index = true then l[i]? else (f[i]?).map valOf) = some y at h
  have hp : put1 (.mk a b s l f) st i w = (if st.index = true then .mk a b s (l.set i w) f else match f[i]? with
    | some p => .mk a b s l (f.set i (.mk (keyOf p) w))
    | none => .mk a b s l f) := rfl
  rw [hp]
  split at h
  · rename_i c
    rw [if_pos c]
    have := cntL_set (w := w) h
    refine ⟨by simp only [cnt]; omega, fun h1 h2 => ?_⟩
    simp only [strs, Bool.and_eq_true] at h1 ⊢
    exact ⟨⟨h1.1.1, strsL_set h1.1.2 h2⟩, h1.2⟩
  · rename_i c
    rw [if_neg c]
    obtain ⟨p, h1, rfl⟩ := Option.map_eq_some_iff.1 h
    simp only [h1]
    have := cntF_set (k := keyOf p) (w := w) h1
    refine ⟨by simp only [cnt]; omega, fun h2 h3 => ?_⟩
    simp only [strs, Bool.and_eq_true] at h2 ⊢
    exact ⟨h2.1, strsF_set h2.2 h1 h3⟩
theorem atS_cnt (x : Val) (hx : strs x = true) : ∀ (p : List Stp) (v w : Val), strs v = true → atS x v p = some w → cnt w ≤ cnt v + cnt x ∧ strs w = true
  | [], v, w, _, h => by
    simp only [atS, Option.some.injEq] at h
    subst h
    exact ⟨by omega, hx⟩
  | st :: p, v, w, hv, h => by
    simp only [atS] at h
    split at h
    · cases h
    · cases hk : kid v st (nextI v st).toNat with
      | none => rw [hk] at h; cases h
      | some y =>
        rw [hk] at h
        simp only at h
        cases ha : atS x y p with
        | none => rw [ha] at h; cases h
        | some w' =>
          rw [ha] at h
          simp only [Option.some.injEq] at h
          subst h
          obtain ⟨h1, h2⟩ := atS_cnt x hx p y w' (kid_strs hk hv) ha
          obtain ⟨h3, h4⟩ := put1_cnt (w := w') hk
          exact ⟨by omega, h4 hv h2⟩
end Go.Abs.T
