import Derived.Test.YtacabmodmbcldaaDoorMD4
/-! What is put is found, what is apart stays: the law PathKeeps. -/
set_option linter.unusedVariables false
set_option linter.unusedSimpArgs false
namespace Go.Abs.T
open M
theorem refSame_2 (p q : List Stp) (hl : p.length = q.length) (hp : p.length ≤ 1000) : ∀ (m i : Nat), p.length - i ≤ m → i ≤ p.length →
    p_cascaderef06_Same_2 p q (i : Int) = some (decide (p.drop i = q.drop i))
  | m, i, hm, hi => by
    rw [u_cascaderef06_Same_2]
    unfold b_cascaderef06_Same_2
    rw [r_len]
    by_cases h : i < p.length
    · have h' : i < q.length := by omega
      rw [lss_t (by omega), r_idx (List.getElem?_eq_getElem h), List.drop_eq_getElem_cons h, List.drop_eq_getElem_cons h']
      have hy : q[i]? = some q[i] := List.getElem?_eq_getElem h'
      generalize p[i] = x at *
      generalize q[i] = y at *
      obtain ⟨k, a, b⟩ := x
      obtain ⟨k', a', b'⟩ := y
      simp only [r_idx hy]
      have e4 : p_cascaderef06_Same_4 p q (i : Int) = some (.inl (p, q, (i : Int) + 1)) := by
        unfold p_cascaderef06_Same_4 b_cascaderef06_Same_4
        rw [r_add (by unfold fit64; omega)]
      have hnext : m ≠ 0 → p_cascaderef06_Same_2 p q ((i : Int) + 1) = some (decide (p.drop (i + 1) = q.drop (i + 1))) := by
        intro h0
        cases m with
        | zero => omega
        | succ m =>
          rw [show ((i : Int) + 1) = ((i + 1 : Nat) : Int) by omega]
          exact refSame_2 p q hl hp m (i + 1) (by omega) (by omega)
      by_cases h1 : k = k'
      · rw [seq_t h1]
        simp only
        by_cases h2 : a = a'
        · rw [eql_t h2]
          simp only
          cases b <;> cases b' <;> simp only
          · simp only [e4, hnext (by omega)]; simp [h1, h2]
          · simp
          · simp
          · simp only [e4, hnext (by omega)]; simp [h1, h2]
        · rw [eql_f h2]
          simp [h2]
      · rw [seq_f h1]
        simp [h1]
    · rw [lss_f (by omega), List.drop_eq_nil_of_le (by omega), List.drop_eq_nil_of_le (by omega)]
      simp
theorem refSame06 (p q : List Stp) (hp : p.length ≤ 1000) : p_cascaderef06_Same p q = some (decide (p = q)) := by
  unfold p_cascaderef06_Same p_cascaderef06_Same_0 b_cascaderef06_Same_0
  rw [r_len, r_len]
  by_cases h : p.length = q.length
  · rw [neq_f (by omega)]
    have := refSame_2 p q h hp _ 0 (Nat.le_refl _) (by omega)
    simpa using this
  · rw [neq_t (by omega), decide_eq_false (fun e => h (by rw [e]))]
theorem rR_more : ∀ (d : Nat) (v : Val), rR d v = true → rR (d + 1) v = true
  | 0, v, h => by simp [rR] at h
  | d + 1, .mk a b s l f, h => by
    simp only [rR, Bool.and_eq_true, List.all_eq_true] at h ⊢
    refine ⟨⟨⟨h.1.1.1, fun v hv => ?_⟩, h.1.2⟩, fun p hp => ?_⟩
    · have := rR_more d v (h.1.1.2 v hv)
      simpa only [rR] using this
    · have := rR_more d _ (h.2 p hp)
      simpa only [rR] using this
theorem rR_add (v : Val) (d : Nat) (h : rR d v = true) : ∀ n, rR (d + n) v = true
  | 0 => h
  | n + 1 => rR_more _ _ (rR_add v d h n)
def putR (v : Val) (p : List Stp) (x : Val) : Val × Int :=
  if rR 12 v = true ∧ pathR p = true ∧ rR 12 x = true then (match atS x v p with | none => (zv, 8) | some w => if rR 12 w = true then (w, 0) else (zv, 5)) else (zv, 1)
theorem Put06 (v : Val) (p : List Stp) (x : Val) (hp : p.length ≤ 1000) (hc : cnt v ≤ 60) (hs : strs v = true) (hx : cnt x ≤ 60) (hsx : strs x = true) :
    p_path_Put v p x = some (putR v p x) := by
  unfold putR
  obtain ⟨a, b, s, l, f⟩ := v
  obtain ⟨x0, x1, x2, x3, x4⟩ := x
  show p_path_Put_0 a b s l f p x0 x1 x2 x3 x4 = _
  unfold p_path_Put_0 b_path_Put_0
  simp only [tree_Right _ (show cnt (.mk a b s l f) ≤ 200 by omega) hs, Right06 p hp, tree_Right _ (show cnt (.mk x0 x1 x2 x3 x4) ≤ 200 by omega) hsx]
  cases h1 : rR 12 (.mk a b s l f) with
  | false => simp
  | true =>
    cases h2 : pathR p with
    | false => simp
    | true =>
      cases h3 : rR 12 (.mk x0 x1 x2 x3 x4) with
      | false => simp
      | true =>
        simp only [and_self, if_true]
        have hst : ∀ s ∈ p, stepR s = true := by
          unfold pathR at h2
          rw [Bool.and_eq_true] at h2
          exact List.all_eq_true.1 h2.2
        obtain ⟨w, e, r1, r2⟩ := at_k x0 x1 x2 x3 x4 1000000 p (.mk a b s l f) (by omega) hst (by omega)
        have hat : p_path_at__0 (.mk a b s l f) p x0 x1 x2 x3 x4 = some (w, e) := r1
        have hch : p_path_changed__0 (.mk a b s l f) p x0 x1 x2 x3 x4 = some ((match atS (.mk x0 x1 x2 x3 x4) (.mk a b s l f) p with | none => (zv, 8) | some w => if rR 12 w = true then (w, 0) else (zv, 5)) : Val × Int) := by
          show p_path_changed__0_0 a b s l f p x0 x1 x2 x3 x4 = _
          unfold p_path_changed__0_0 b_path_changed__0_0
          simp only [hat]
          revert r2
          cases ha : atS (.mk x0 x1 x2 x3 x4) (.mk a b s l f) p with
          | none =>
            intro r2
            have r2' : e = 8 := r2
            obtain ⟨w0, w1, w2, w3, w4⟩ := w
            simp only [r2']
            rw [neq_t (by omega)]
          | some w' =>
            rintro ⟨rfl, rfl⟩
            obtain ⟨c1, c2⟩ := atS_cnt _ hsx p _ _ hs ha
            have c3 : cnt w ≤ 200 := by omega
            have e1 := tree_Right w c3 c2
            have e2 := Clone w c3 c2
            obtain ⟨w0, w1, w2, w3, w4⟩ := w
            simp only
            rw [neq_f rfl]
            simp only [e1]
            cases hw : rR 12 (.mk w0 w1 w2 w3 w4) with
            | false => simp
            | true =>
              rw [hw, if_pos rfl] at e2
              simp only [e2, if_true]
        simp only [hch]
        cases atS (.mk x0 x1 x2 x3 x4) (.mk a b s l f) p with
        | none => rfl
        | some w =>
          obtain ⟨w0, w1, w2, w3, w4⟩ := w
          simp only
          cases rR 12 (.mk w0 w1 w2 w3 w4) <;> rfl
theorem rR_kid {v : Val} {st : Stp} {i : Nat} {y : Val} (h : kid v st i = some y) (hr : rR 12 v = true) : rR 12 y = true := rR_add _ _ (kid_right (d := 11) h hr) 1
theorem at_kf : ∀ (k : Nat) (p : List Stp) (v : Val) (x0 x1 : Int) (x2 : Str) (x3 : List Val) (x4 : List Par), p.length < k → (∀ s ∈ p, stepR s = true) → cnt v ≤ 200 → strs v = true → rR 12 v = true →
    ∃ w e o0 o1 o2 o3 o4, pk_path_at__1 k v p x0 x1 x2 x3 x4 = some (w, e, o0, o1, o2, o3, o4) ∧ (match findS v p with | some y => e = 0 ∧ (.mk o0 o1 o2 o3 o4 : Val) = y | none => e = 8 ∧ (.mk o0 o1 o2 o3 o4 : Val) = .mk x0 x1 x2 x3 x4)
  | 0, p, v, _, _, _, _, _, h, _, _, _, _ => by omega
  | k + 1, p, .mk a b s l f, x0, x1, x2, x3, x4, hk, hs, hc, hst0, hr => by
    have hl : l.length ≤ 1000 := by have := cntL_len l; simp only [cnt] at hc; omega
    have hf : f.length ≤ 1000 := by have := cntF_len f; simp only [cnt] at hc; omega
    show ∃ w e o0 o1 o2 o3 o4, p_path_at__1_0 (pk_path_at__1 k) a b s l f p x0 x1 x2 x3 x4 = some (w, e, o0, o1, o2, o3, o4) ∧ _
    unfold p_path_at__1_0 b_path_at__1_0
    rw [r_len]
    have e2 : p_path_at__1_2 (pk_path_at__1 k) 0 0 [] [] [] x0 x1 x2 x3 x4 = some (.mk 0 0 [] [] [], 8, x0, x1, x2, x3, x4) := rfl
    cases p with
    | nil =>
      rw [eql_t (by simp)]
      have e1 : p_path_Find_1__0 (.mk a b s l f) x0 x1 x2 x3 x4 = some (.mk a b s l f, 0, a, b, s, l, f) := by
        show p_path_Find_1__0_0 a b s l f x0 x1 x2 x3 x4 = _
        unfold p_path_Find_1__0_0 b_path_Find_1__0_0
        simp only [Clone _ hc hst0, hr, if_true]
      simp only [e1]
      exact ⟨_, _, _, _, _, _, _, rfl, rfl, rfl⟩
    | cons st p =>
      rw [eql_f (by simp; omega)]
      have i0 : Prims.real.idx (st :: p) 0 = some st := rfl
      have hst := hs st List.mem_cons_self
      have hnk := next_kid (.mk a b s l f) st hst
      have hrec := fun (y : Val) (hy : cnt y ≤ 200) (hy2 : strs y = true) (hy3 : rR 12 y = true) => at_kf k p y x0 x1 x2 x3 x4 (by simp at hk; omega) (fun s h => hs s (List.mem_cons_of_mem _ h)) hy hy2 hy3
      obtain ⟨kk, n, c⟩ := st
      simp only [i0, findS]
      cases c with
      | false =>
        simp only
        by_cases g : a = 5
        · rw [eql_t g]
          simp only [ixf kk n false f hf]
          have en : nextI (.mk a b s l f) ⟨kk, n, false⟩ = idxN kk f 0 := by simp [nextI, g]
          rw [en] at hnk ⊢
          rcases idxN_spec kk f 0 with h | ⟨j, q, h1, h2⟩
          · rw [h, geq_f (by omega)]
            simp only [e2]
            exact ⟨_, _, _, _, _, _, _, rfl, by simp⟩
          · rw [Nat.zero_add] at h1
            have hj := (List.getElem?_eq_some_iff.1 h2).1
            rw [h1, geq_t (by omega)]
            simp only [cloneF f (by omega) hf]
            rw [r_idx h2]
            have hkid : kid (.mk a b s l f) ⟨kk, n, false⟩ j = some (valOf q) := by simp [kid, h2]
            have hy := kid_cnt hkid
            obtain ⟨w, e, o0, o1, o2, o3, o4, r1, r2⟩ := hrec (valOf q) (by omega) (kid_strs hkid hst0) (rR_kid hkid hr)
            obtain ⟨kq, ⟨q0, q1, q2, q3, q4⟩⟩ := q
            simp only [sub1]
            simp only [valOf_mk] at r1 r2 hkid
            simp only [r1]
            obtain ⟨w0, w1, w2, w3, w4⟩ := w
            simp only
            rw [r_set hj]
            simp only
            refine ⟨_, _, _, _, _, _, _, rfl, ?_⟩
            rw [if_neg (by omega), Int.toNat_natCast, hkid]
            exact r2
        · rw [eql_f g]
          simp only [e2]
          exact ⟨_, _, _, _, _, _, _, rfl, by simp [nextI, g]⟩
      | true =>
        simp only
        simp only [stepR, if_true, decide_eq_true_eq] at hst
        obtain ⟨j, rfl⟩ := Int.eq_ofNat_of_zero_le hst.2.1
        by_cases g : a = 4
        · rw [eql_t g, r_len]
          simp only
          by_cases gl : j < l.length
          · rw [lss_t (by omega)]
            simp only [cloneV l (by omega) hl]
            rw [r_idx (List.getElem?_eq_getElem gl)]
            have hkid : kid (.mk a b s l f) ⟨kk, (j : Int), true⟩ j = some l[j] := by simp [kid, gl]
            have hy := kid_cnt hkid
            obtain ⟨w, e, o0, o1, o2, o3, o4, r1, r2⟩ := hrec l[j] (by omega) (kid_strs hkid hst0) (rR_kid hkid hr)
            have en : nextI (.mk a b s l f) ⟨kk, (j : Int), true⟩ = (j : Int) := by simp [nextI, g, gl]
            generalize l[j] = y at *
            obtain ⟨q0, q1, q2, q3, q4⟩ := y
            simp only [sub1, r1]
            obtain ⟨w0, w1, w2, w3, w4⟩ := w
            simp only
            rw [r_set gl]
            simp only
            refine ⟨_, _, _, _, _, _, _, rfl, ?_⟩
            rw [en, if_neg (by omega), Int.toNat_natCast, hkid]
            exact r2
          · rw [lss_f (by omega)]
            simp only [e2]
            have en : nextI (.mk a b s l f) ⟨kk, (j : Int), true⟩ = -1 := by simp [nextI, gl]
            exact ⟨_, _, _, _, _, _, _, rfl, by simp [en]⟩
        · rw [eql_f g]
          simp only [e2]
          have en : nextI (.mk a b s l f) ⟨kk, (j : Int), true⟩ = -1 := by simp [nextI, g]
          exact ⟨_, _, _, _, _, _, _, rfl, by simp [en]⟩
def findR (v : Val) (p : List Stp) : Val × Bool := if rR 12 v = true ∧ pathR p = true then (match findS v p with | some y => (y, true) | none => (zv, false)) else (zv, false)
theorem path_steps {p : List Stp} (h : pathR p = true) : ∀ s ∈ p, stepR s = true := by
  unfold pathR at h
  rw [Bool.and_eq_true] at h
  exact List.all_eq_true.1 h.2
theorem Find06 (v : Val) (p : List Stp) (hp : p.length ≤ 1000) (hc : cnt v ≤ 200) (hs : strs v = true) : p_path_Find v p = some (findR v p) := by
  unfold findR
  obtain ⟨a, b, s, l, f⟩ := v
  show p_path_Find_0 a b s l f p = _
  unfold p_path_Find_0 b_path_Find_0
  simp only [tree_Right _ hc hs]
  cases h1 : rR 12 (.mk a b s l f) with
  | false => simp
  | true =>
    simp only [Right06 p hp]
    cases h2 : pathR p with
    | false => simp
    | true =>
      obtain ⟨w, e, o0, o1, o2, o3, o4, r1, r2⟩ := at_kf 1000000 p (.mk a b s l f) 0 0 [] [] [] (by omega) (path_steps h2) hc hs h1
      have hat : p_path_at__1 (.mk a b s l f) p 0 0 [] [] [] = some (w, e, o0, o1, o2, o3, o4) := r1
      simp only [hat, and_self, if_true]
      obtain ⟨w0, w1, w2, w3, w4⟩ := w
      revert r2
      cases findS (.mk a b s l f) p with
      | none =>
        rintro ⟨rfl, h⟩
        simp only [h]
        rw [eql_f (by omega)]
      | some y =>
        rintro ⟨rfl, h⟩
        simp only [h]
        rw [eql_t rfl]
theorem findS_cnt : ∀ (p : List Stp) (v y : Val), findS v p = some y → cnt y ≤ cnt v
  | [], v, y, h => by simp only [findS, Option.some.injEq] at h; rw [h]; exact Nat.le_refl _
  | st :: p, v, y, h => by
    simp only [findS] at h
    split at h
    · cases h
    · cases hk : kid v st (nextI v st).toNat with
      | none => rw [hk] at h; cases h
      | some z =>
        rw [hk] at h
        have := kid_cnt hk
        have := findS_cnt p z y h
        omega
theorem zero06 : p_cascadelaw06_zero zv = some true := by
  have := Same_self zv (by decide)
  show p_cascadelaw06_zero_0 0 0 [] [] [] = _
  unfold p_cascadelaw06_zero_0 b_cascadelaw06_zero_0
  simp only [this]
/-! ### What is put is found; what is apart stays -/
theorem idxN_set (k : Str) (w : Val) : ∀ (f : List Par) (i n : Nat) (q : Par), f[i]? = some q → idxN k (f.set i (.mk (keyOf q) w)) n = idxN k f n
  | [], i, n, q, h => by simp at h
  | p :: r, 0, n, q, h => by
    simp at h; subst h
    obtain ⟨kp, vp⟩ := p
    rfl
  | p :: r, i + 1, n, q, h => by
    have := idxN_set k w r i (n + 1) q (by simpa using h)
    simp only [List.set_cons_succ, idxN, this]
theorem idxN_key (k : Str) : ∀ (f : List Par) (n j : Nat) (q : Par), idxN k f n = ((n + j : Nat) : Int) → f[j]? = some q → keyOf q = k
  | [], n, j, q, h, h2 => by simp at h2
  | p :: r, n, 0, q, h, h2 => by
    simp at h2; subst h2
    unfold idxN at h
    by_cases c : keyOf p = k
    · exact c
    · rw [if_neg c] at h
      rcases idxN_spec k r (n + 1) with g | ⟨j, q, g, _⟩ <;> rw [g] at h <;> omega
  | p :: r, n, j + 1, q, h, h2 => by
    unfold idxN at h
    by_cases c : keyOf p = k
    · rw [if_pos c] at h; omega
    · rw [if_neg c] at h
      exact idxN_key k r (n + 1) j q (by rw [h]; congr 1; omega) (by simpa using h2)
theorem put1_next {v : Val} {st : Stp} {i : Nat} {y w : Val} (h : kid v st i = some y) (hc : st.index = true → nextI v st = i) : ∀ st', nextI (put1 v st i w) st' = nextI v st' := by
  intro st'
  obtain ⟨a, b, s, l, f⟩ := v
  obtain ⟨k, n, c⟩ := st
  obtain ⟨k', n', c'⟩ := st'
  cases c with
  | true => simp [put1, nextI]
  | false =>
    have h' : (f[i]?).map valOf = some y := by simpa [kid] using h
    obtain ⟨q, hq, _⟩ := Option.map_eq_some_iff.1 h'
    simp only [put1, Bool.false_eq_true, if_false, hq, nextI]
    rw [idxN_set k' w f i 0 q hq]
theorem put1_kid {v : Val} {st : Stp} {i : Nat} {y w : Val} (h : kid v st i = some y) : kid (put1 v st i w) st i = some w := by
  obtain ⟨a, b, s, l, f⟩ := v
  obtain ⟨k, n, c⟩ := st
  cases c with
  | true =>
    have h' : l[i]? = some y := by simpa [kid] using h
    have := (List.getElem?_eq_some_iff.1 h').1
    simp [put1, kid, this]
  | false =>
    have h' : (f[i]?).map valOf = some y := by simpa [kid] using h
    obtain ⟨q, hq, _⟩ := Option.map_eq_some_iff.1 h'
    have := (List.getElem?_eq_some_iff.1 hq).1
    simp [put1, kid, hq, this, valOf_mk]
/-- Another step's value stays. -/
theorem put1_apart {v : Val} {st st' : Stp} {i i' : Nat} {y w : Val} (h : kid v st i = some y) (hn : nextI v st = i) (hn' : nextI v st' = i') (hs : stepR st = true) (hs' : stepR st' = true) (hne : st ≠ st') : kid (put1 v st i w) st' i' = kid v st' i' := by
  obtain ⟨a, b, s, l, f⟩ := v
  obtain ⟨k, n, c⟩ := st
  obtain ⟨k', n', c'⟩ := st'
  cases c with
  | true =>
    cases c' with
    | false => simp [put1, kid]
    | true =>
      simp only [stepR, if_true, decide_eq_true_eq] at hs hs'
      have hii : i ≠ i' := by
        intro e
        apply hne
        simp only [nextI, if_true] at hn hn'
        split at hn
        · split at hn'
          · have : n = n' := by omega
            rw [hs.1, hs'.1, this]
          · omega
        · omega
      simp only [put1, kid, if_true]
      rw [List.getElem?_set_ne hii]
  | false =>
    have h' : (f[i]?).map valOf = some y := by simpa [kid] using h
    obtain ⟨q, hq, _⟩ := Option.map_eq_some_iff.1 h'
    cases c' with
    | true => simp [put1, kid, hq]
    | false =>
      simp only [stepR, Bool.false_eq_true, if_false, Bool.and_eq_true, decide_eq_true_eq] at hs hs'
      have hii : i ≠ i' := by
        intro e
        subst e
        apply hne
        simp only [nextI, Bool.false_eq_true, if_false] at hn hn'
        split at hn
        · rename_i ha
          rw [if_pos ha] at hn'
          have e1 := idxN_key k f 0 i q (by rw [hn, Nat.zero_add]) hq
          have e2 := idxN_key k' f 0 i q (by rw [hn', Nat.zero_add]) hq
          rw [hs.1, hs'.1, ← e1, ← e2]
        · omega
      simp only [put1, kid, Bool.false_eq_true, if_false, hq]
      rw [List.getElem?_set_ne hii]
theorem find_put (x : Val) : ∀ (p : List Stp) (v w : Val), (∀ s ∈ p, stepR s = true) → atS x v p = some w → findS w p = some x
  | [], v, w, _, h => by simp only [atS, Option.some.injEq] at h; rw [h]; rfl
  | st :: p, v, w, hs, h => by
    simp only [atS] at h
    rcases next_kid v st (hs st List.mem_cons_self) with hn | ⟨i, y, hn, hk⟩
    · rw [hn, if_pos (by omega)] at h; cases h
    · rw [hn, if_neg (by omega), Int.toNat_natCast, hk] at h
      simp only at h
      cases ha : atS x y p with
      | none => rw [ha] at h; cases h
      | some w' =>
        rw [ha] at h
        simp only [Option.some.injEq] at h
        subst h
        simp only [findS]
        rw [put1_next hk (fun _ => hn) st, hn, if_neg (by omega), Int.toNat_natCast, put1_kid hk]
        exact find_put x p y w' (fun s h => hs s (List.mem_cons_of_mem _ h)) ha
def und (p q : List Stp) : Bool := decide (p.length ≤ q.length) && decide (p = q.take p.length)
theorem und_cons (s t : Stp) (p q : List Stp) : und (s :: p) (t :: q) = (decide (s = t) && und p q) := by
  unfold und
  rw [Bool.eq_iff_iff]
  simp only [Bool.and_eq_true, decide_eq_true_eq, List.length_cons, List.take_succ_cons, List.cons.injEq]
  constructor
  · rintro ⟨h1, h2, h3⟩; exact ⟨h2, by omega, h3⟩
  · rintro ⟨h1, h2, h3⟩; exact ⟨by omega, h1, h3⟩
theorem find_apart (x : Val) : ∀ (p q : List Stp) (v w : Val), (∀ s ∈ p, stepR s = true) → (∀ s ∈ q, stepR s = true) → und p q = false → und q p = false → atS x v p = some w → findS w q = findS v q
  | [], q, v, w, _, _, h, _, _ => by simp [und] at h
  | st :: p, [], v, w, _, _, _, h, _ => by simp [und] at h
  | st :: p, st' :: q, v, w, hp, hq, h1, h2, h => by
    rw [und_cons] at h1 h2
    simp only [atS] at h
    rcases next_kid v st (hp st List.mem_cons_self) with hn | ⟨i, y, hn, hk⟩
    · rw [hn, if_pos (by omega)] at h; cases h
    · rw [hn, if_neg (by omega), Int.toNat_natCast, hk] at h
      simp only at h
      cases ha : atS x y p with
      | none => rw [ha] at h; cases h
      | some w' =>
        rw [ha] at h
        simp only [Option.some.injEq] at h
        subst h
        simp only [findS]
        rw [put1_next hk (fun _ => hn) st']
        by_cases e : st = st'
        · subst e
          rw [hn, if_neg (by omega), if_neg (by omega), Int.toNat_natCast, put1_kid hk, hk]
          rw [decide_eq_true rfl, Bool.true_and] at h1 h2
          exact find_apart x p q y w' (fun s h => hp s (List.mem_cons_of_mem _ h)) (fun s h => hq s (List.mem_cons_of_mem _ h)) h1 h2 ha
        · rcases next_kid v st' (hq st' List.mem_cons_self) with hn' | ⟨i', y', hn', hk'⟩
          · rw [hn', if_pos (by omega), if_pos (by omega)]
          · rw [hn', if_neg (by omega), if_neg (by omega), Int.toNat_natCast, put1_apart hk hn hn' (hp st List.mem_cons_self) (hq st' List.mem_cons_self) e]
theorem sub_to {α : Type} (l : List α) (m : Nat) (h : m ≤ l.length) : Prims.real.sub l none (some (m : Int)) = some (l.take m) := by
  rw [r_sub]
  unfold Pr.sub
  rw [bnd_nat]
  unfold Pr.bnd Pr.cutB
  simp [h]
theorem refUnder (p q : List Stp) (hp : p.length ≤ 1000) : p_cascaderef06_Under p q = some (und p q) := by
  unfold p_cascaderef06_Under p_cascaderef06_Under_0 b_cascaderef06_Under_0 und
  rw [r_len, r_len]
  by_cases h : p.length ≤ q.length
  · rw [leq_t (by omega), sub_to q _ h, decide_eq_true h, Bool.true_and]
    simp only [refSame06 p (q.take p.length) hp]
  · rw [leq_f (by omega), decide_eq_false h]
    rfl
theorem findR_cnt (v : Val) (q : List Stp) (hc : cnt v ≤ 200) : cnt (findR v q).1 ≤ 200 := by
  unfold findR
  split
  · cases h : findS v q with
    | none => simp [cnt, cntL, cntF]
    | some y => have := findS_cnt _ _ _ h; simp only; omega
  · simp [cnt, cntL, cntF]
theorem PathKeeps (v x : Val) (l : S__2_api_Step) : p_cascadelaw06_PathKeeps v x l = some true := by
  obtain ⟨a, b, s, vl, vf⟩ := v
  obtain ⟨x0, x1, x2, x3, x4⟩ := x
  obtain ⟨p, q⟩ := l
  show p_cascadelaw06_PathKeeps_0 a b s vl vf x0 x1 x2 x3 x4 p q = _
  unfold p_cascadelaw06_PathKeeps_0 b_cascadelaw06_PathKeeps_0
  simp only [awake06]
  rcases Few (.mk a b s vl vf) 60 (by omega) with h | ⟨h1, h2, h3⟩
  · rw [show ((60 : Nat) : Int) = 60 from rfl] at h
    simp only [h]
  rw [show ((60 : Nat) : Int) = 60 from rfl] at h1
  simp only [h1]
  rcases Few (.mk x0 x1 x2 x3 x4) 60 (by omega) with g | ⟨g1, g2, g3⟩
  · rw [show ((60 : Nat) : Int) = 60 from rfl] at g
    simp only [g]
  rw [show ((60 : Nat) : Int) = 60 from rfl] at g1
  simp only [g1]
  rcases few06 p with k | ⟨k1, k2, k3⟩
  · simp only [k]
  simp only [k1]
  rcases few06 q with j | ⟨j1, j2, j3⟩
  · simp only [j]
  simp only [j1, Put06 (.mk a b s vl vf) p (.mk x0 x1 x2 x3 x4) (by omega) h2 h3 g2 g3]
  have ez : zv = S_api_Value.mk 0 0 [] [] [] := rfl
  have hz := zero06
  rw [ez] at hz
  have key : putR (.mk a b s vl vf) p (.mk x0 x1 x2 x3 x4) = (zv, 1) ∨ putR (.mk a b s vl vf) p (.mk x0 x1 x2 x3 x4) = (zv, 8) ∨ putR (.mk a b s vl vf) p (.mk x0 x1 x2 x3 x4) = (zv, 5) ∨
      ∃ w, putR (.mk a b s vl vf) p (.mk x0 x1 x2 x3 x4) = (w, 0) ∧ rR 12 (.mk a b s vl vf) = true ∧ pathR p = true ∧ atS (.mk x0 x1 x2 x3 x4) (.mk a b s vl vf) p = some w ∧ rR 12 w = true := by
    unfold putR
    split
    · rename_i hh
      cases ha : atS (.mk x0 x1 x2 x3 x4) (.mk a b s vl vf) p with
      | none => exact .inr (.inl rfl)
      | some w =>
        simp only
        cases hw : rR 12 w with
        | false => exact .inr (.inr (.inl rfl))
        | true => exact .inr (.inr (.inr ⟨w, rfl, hh.1, hh.2.1, rfl, hw⟩))
    · exact .inl rfl
  rcases key with e | e | e | ⟨w, e, hv, hp, hat, hw⟩
  · rw [e, ez]
    simp only
    rw [neq_t (by omega)]
    simp only [hz]
  · rw [e, ez]
    simp only
    rw [neq_t (by omega)]
    simp only [hz]
  · rw [e, ez]
    simp only
    rw [neq_t (by omega)]
    simp only [hz]
  · rw [e]
    obtain ⟨c1, c2⟩ := atS_cnt _ g3 p _ _ h3 hat
    have c3 : cnt w ≤ 200 := by omega
    have hf1 := Find06 w p (by omega) c3 c2
    have hf2 := Find06 (.mk a b s vl vf) q (by omega) (by omega) h3
    have hf3 := Find06 w q (by omega) c3 c2
    have r1 : findR w p = (.mk x0 x1 x2 x3 x4, true) := by
      unfold findR
      rw [if_pos ⟨hw, hp⟩, find_put _ p _ _ (path_steps hp) hat]
    have hself := Same_self (.mk x0 x1 x2 x3 x4) (by omega)
    rw [r1] at hf1
    have hr : und p q = false → und q p = false → findR w q = findR (.mk a b s vl vf) q := fun u1 u2 => by
      unfold findR
      cases hq : pathR q with
      | false => simp
      | true =>
        simp only [hw, hv, and_self, if_true]
        rw [find_apart _ p q _ _ (path_steps hp) (path_steps hq) u1 u2 hat]
    have hc := findR_cnt (.mk a b s vl vf) q (by omega)
    obtain ⟨w0, w1, w2, w3, w4⟩ := w
    simp only
    rw [neq_f rfl]
    simp only [hf1, hself, hf2, hf3]
    have u1 := refUnder p q (by omega)
    have u2 := refUnder q p (by omega)
    generalize hA : findR (.mk a b s vl vf) q = A at *
    generalize hB : findR (.mk w0 w1 w2 w3 w4) q = B at *
    cases b1 : und p q with
    | true =>
      rw [b1] at u1
      obtain ⟨⟨A0, A1, A2, A3, A4⟩, Ab⟩ := A
      obtain ⟨⟨B0, B1, B2, B3, B4⟩, Bb⟩ := B
      simp only [u1]
    | false =>
      cases b2 : und q p with
      | true =>
        rw [b1] at u1
        rw [b2] at u2
        obtain ⟨⟨A0, A1, A2, A3, A4⟩, Ab⟩ := A
        obtain ⟨⟨B0, B1, B2, B3, B4⟩, Bb⟩ := B
        simp only [u1, u2]
      | false =>
        have := hr b1 b2
        subst this
        rw [b1] at u1
        rw [b2] at u2
        have hs := Same_self B.1 hc
        obtain ⟨⟨B0, B1, B2, B3, B4⟩, Bb⟩ := B
        simp only at hs
        cases Bb <;> simp only [u1, u2, hs]
end Go.Abs.T
