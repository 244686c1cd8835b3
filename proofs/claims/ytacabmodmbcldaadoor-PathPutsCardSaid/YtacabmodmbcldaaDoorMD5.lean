import Derived.Test.YtacabmodmbcldaaDoorMD4
/-! What is put: the reference, and the law PathPuts. -/
set_option linter.unusedVariables false
set_option linter.unusedSimpArgs false
namespace Go.Abs.T
open M
theorem find_1 (p : List Stp) (hp : p.length ≤ 1000) (hs : ∀ s ∈ p, stepR s = true) : ∀ (m i : Nat) (v0 v1 : Int) (v2 : Str) (v3 : List Val) (v4 : List Par) (o0 o1 : Int) (o2 : Str) (o3 : List Val) (o4 : List Par), p.length - i ≤ m → i ≤ p.length → cnt (.mk v0 v1 v2 v3 v4) ≤ 200 →
    p_cascaderef06_Find_1 p (i : Int) v0 v1 v2 v3 v4 o0 o1 o2 o3 o4 = some (match findS (.mk v0 v1 v2 v3 v4) (p.drop i) with | some y => (y, true) | none => (zv, false))
  | m, i, v0, v1, v2, v3, v4, o0, o1, o2, o3, o4, hm, hi, hc => by
    rw [u_cascaderef06_Find_1]
    unfold b_cascaderef06_Find_1
    rw [r_len]
    by_cases h : i < p.length
    · have hst := hs p[i] (List.getElem_mem h)
      rw [lss_t (by omega), r_idx (List.getElem?_eq_getElem h), List.drop_eq_getElem_cons h]
      have hn := next_kid (.mk v0 v1 v2 v3 v4) p[i] hst
      have hrn := ref_next (.mk v0 v1 v2 v3 v4) p[i] hc
      have hrec : ∀ w : Val, cnt w ≤ 200 → m ≠ 0 → ∀ w0 w1 w2 w3 w4, w = .mk w0 w1 w2 w3 w4 → p_cascaderef06_Find_1 p ((i : Int) + 1) w0 w1 w2 w3 w4 o0 o1 o2 o3 o4 = some (match findS w (p.drop (i + 1)) with | some y => (y, true) | none => (zv, false)) := by
        intro w hw h0 w0 w1 w2 w3 w4 e
        cases m with
        | zero => omega
        | succ m =>
          subst e
          rw [show ((i : Int) + 1) = ((i + 1 : Nat) : Int) by omega]
          exact find_1 p hp hs m (i + 1) w0 w1 w2 w3 w4 o0 o1 o2 o3 o4 (by omega) (by omega) hw
      generalize p[i] = st at *
      simp only [findS]
      obtain ⟨k, n, c⟩ := st
      simp only [hrn]
      rcases hn with hn | ⟨j, y, hn, hk⟩
      · rw [hn, lss_t (by omega), if_pos (by omega)]
      · rw [hn, lss_f (by omega), if_neg (by omega), Int.toNat_natCast, hk]
        have hy := kid_cnt hk
        have e4 : ∀ w0 w1 w2 w3 w4, p_cascaderef06_Find_4 p (i : Int) w0 w1 w2 w3 w4 o0 o1 o2 o3 o4 = some (.inl (p, (i : Int) + 1, w0, w1, w2, w3, w4, o0, o1, o2, o3, o4)) := by
          intro w0 w1 w2 w3 w4
          unfold p_cascaderef06_Find_4 b_cascaderef06_Find_4
          rw [r_add (by unfold fit64; omega)]
        cases c with
        | true =>
          have hk' : v3[j]? = some y := by simpa [kid] using hk
          simp only
          rw [r_idx hk']
          obtain ⟨y0, y1, y2, y3, y4⟩ := y
          simp only [e4]
          exact hrec _ (by omega) (by omega) _ _ _ _ _ rfl
        | false =>
          have hk' : (v4[j]?).map valOf = some y := by simpa [kid] using hk
          obtain ⟨q, hq, hqy⟩ := Option.map_eq_some_iff.1 hk'
          subst hqy
          simp only
          rw [r_idx hq]
          obtain ⟨kq, ⟨y0, y1, y2, y3, y4⟩⟩ := q
          simp only [e4]
          exact hrec _ (by omega) (by omega) _ _ _ _ _ rfl
    · rw [lss_f (by omega), List.drop_eq_nil_of_le (by omega)]
      rfl
theorem refFind (v : Val) (p : List Stp) (hp : p.length ≤ 1000) (hs : ∀ s ∈ p, stepR s = true) (hc : cnt v ≤ 200) : p_cascaderef06_Find v p = some (match findS v p with | some y => (y, true) | none => (zv, false)) := by
  obtain ⟨a, b, s, l, f⟩ := v
  show p_cascaderef06_Find_0 a b s l f p = _
  unfold p_cascaderef06_Find_0 b_cascaderef06_Find_0
  have := find_1 p hp hs _ 0 a b s l f 0 0 [] [] [] (Nat.le_refl _) (by omega) hc
  simpa using this
theorem take_set {α : Type} {l : List α} {i : Nat} (h : i < l.length) : l.take (i + 1) = l.take i ++ [l[i]] := by
  rw [List.take_add_one, List.getElem?_eq_getElem h]; rfl
/-- The values of a list, one of them another. -/
theorem put_2 (c : Val → List Stp → Val → Option Val) (st : Stp) (p : List Stp) (a b : Int) (s : Str) (l : List Val) (x0 x1 : Int) (x2 : Str) (x3 : List Val) (x4 : List Par) (o0 o1 : Int) (o2 : Str) (o3 : List Val) (o4 : List Par) (j : Nat) (w : Val) (hl : l.length ≤ 1000)
    (hj : j < l.length) (hc : c l[j] p (.mk x0 x1 x2 x3 x4) = some w) : ∀ (m i g h : Nat), l.length - i ≤ m → i ≤ l.length →
    p_cascaderef06_Put_2 c (st :: p) a b s l [] x0 x1 x2 x3 x4 (j : Int) (i : Int) o0 o1 o2 o3 o4 a 0 [] g ((l.set j w).take i) h [] = some (.mk a 0 [] (l.set j w) [])
  | m, i, g, h, hm, hi => by
    rw [u_cascaderef06_Put_2]
    unfold b_cascaderef06_Put_2
    rw [r_len]
    have hll : (l.set j w).length = l.length := List.length_set
    have hacc : ((l.set j w).take i).length ≤ 1000 := by simp; omega
    by_cases hlt : i < l.length
    · have hw : (l.set j w).take (i + 1) = (l.set j w).take i ++ [(l.set j w)[i]'(by omega)] := take_set (by omega)
      have hrec : ∀ g, m ≠ 0 → p_cascaderef06_Put_2 c (st :: p) a b s l [] x0 x1 x2 x3 x4 (j : Int) ((i : Int) + 1) o0 o1 o2 o3 o4 a 0 [] g ((l.set j w).take (i + 1)) h [] = some (.mk a 0 [] (l.set j w) []) := by
        intro g h0
        cases m with
        | zero => omega
        | succ m =>
          rw [show ((i : Int) + 1) = ((i + 1 : Nat) : Int) by omega]
          exact put_2 c st p a b s l x0 x1 x2 x3 x4 o0 o1 o2 o3 o4 j w hl hj hc m (i + 1) g h (by omega) (by omega)
      have e4 : ∀ y : Val, ∀ y0 y1 y2 y3 y4, y = .mk y0 y1 y2 y3 y4 → p_cascaderef06_Put_4 c (st :: p) a b s l [] x0 x1 x2 x3 x4 (j : Int) (i : Int) o0 o1 o2 o3 o4 a 0 [] g ((l.set j w).take i) h [] y0 y1 y2 y3 y4 =
          some (.inl (st :: p, a, b, s, l, [], x0, x1, x2, x3, x4, (j : Int), (i : Int) + 1, o0, o1, o2, o3, o4, a, 0, [], g + 1, (l.set j w).take i ++ [y], h, [])) := by
        intro y y0 y1 y2 y3 y4 e
        subst e
        unfold p_cascaderef06_Put_4 b_cascaderef06_Put_4
        rw [M.r_app (by simp only [List.length_cons, List.length_nil, room]; omega) (by simp only [List.length_cons, List.length_nil, room]; omega)]
        simp only
        rw [r_add (by unfold fit64; omega)]
      rw [lss_t (by omega), r_idx (List.getElem?_eq_getElem hlt)]
      by_cases e : i = j
      · subst e
        have hg : (l.set i w)[i]'(by omega) = w := by simp
        rw [hg] at hw
        rw [hw] at hrec
        generalize l[i] = y at *
        obtain ⟨y0, y1, y2, y3, y4⟩ := y
        simp only
        rw [eql_t rfl]
        simp only [sub1, hc]
        obtain ⟨w0, w1, w2, w3, w4⟩ := w
        simp only [e4 _ _ _ _ _ _ rfl]
        exact hrec _ (by omega)
      · have hg : (l.set j w)[i]'(by omega) = l[i] := by
          rw [List.getElem_set_ne (by omega)]
        rw [hg] at hw
        rw [hw] at hrec
        generalize l[i] = y at *
        obtain ⟨y0, y1, y2, y3, y4⟩ := y
        simp only
        rw [eql_f (by omega)]
        simp only [e4 _ _ _ _ _ _ rfl]
        exact hrec _ (by omega)
    · rw [lss_f (by omega), List.take_of_length_le (by omega)]
      have e7 : ∀ g h, p_cascaderef06_Put_7 c (st :: p) a b s l [] x0 x1 x2 x3 x4 (j : Int) 0 o0 o1 o2 o3 o4 a 0 [] g (l.set j w) h [] = some (.mk a 0 [] (l.set j w) []) := by
        intro g h
        rw [u_cascaderef06_Put_7]
        unfold b_cascaderef06_Put_7
        rw [r_len, lss_f (by simp)]
      simp only [e7]
/-- The pairs of an object, one of them another. -/
theorem put_7 (c : Val → List Stp → Val → Option Val) (st : Stp) (p : List Stp) (a b : Int) (s : Str) (f : List Par) (x0 x1 : Int) (x2 : Str) (x3 : List Val) (x4 : List Par) (o0 o1 : Int) (o2 : Str) (o3 : List Val) (o4 : List Par) (j : Nat) (q : Par) (w : Val) (hl : f.length ≤ 1000)
    (hj : f[j]? = some q) (hc : c (valOf q) p (.mk x0 x1 x2 x3 x4) = some w) : ∀ (m i g h : Nat), f.length - i ≤ m → i ≤ f.length →
    p_cascaderef06_Put_7 c (st :: p) a b s [] f x0 x1 x2 x3 x4 (j : Int) (i : Int) o0 o1 o2 o3 o4 a 0 [] g [] h ((f.set j (.mk (keyOf q) w)).take i) = some (.mk a 0 [] [] (f.set j (.mk (keyOf q) w)))
  | m, i, g, h, hm, hi => by
    rw [u_cascaderef06_Put_7]
    unfold b_cascaderef06_Put_7
    rw [r_len]
    have hll : (f.set j (.mk (keyOf q) w)).length = f.length := List.length_set
    have hacc : ((f.set j (.mk (keyOf q) w)).take i).length ≤ 1000 := by simp; omega
    have hjl := (List.getElem?_eq_some_iff.1 hj).1
    by_cases hlt : i < f.length
    · have hw : (f.set j (.mk (keyOf q) w)).take (i + 1) = (f.set j (.mk (keyOf q) w)).take i ++ [(f.set j (.mk (keyOf q) w))[i]'(by omega)] := take_set (by omega)
      have hrec : ∀ h, m ≠ 0 → p_cascaderef06_Put_7 c (st :: p) a b s [] f x0 x1 x2 x3 x4 (j : Int) ((i : Int) + 1) o0 o1 o2 o3 o4 a 0 [] g [] h ((f.set j (.mk (keyOf q) w)).take (i + 1)) = some (.mk a 0 [] [] (f.set j (.mk (keyOf q) w))) := by
        intro h h0
        cases m with
        | zero => omega
        | succ m =>
          rw [show ((i : Int) + 1) = ((i + 1 : Nat) : Int) by omega]
          exact put_7 c st p a b s f x0 x1 x2 x3 x4 o0 o1 o2 o3 o4 j q w hl hj hc m (i + 1) g h (by omega) (by omega)
      have e9 : ∀ y : Par, ∀ k y0 y1 y2 y3 y4, y = .mk k ⟨y0, y1, y2, y3, y4⟩ → p_cascaderef06_Put_9 c (st :: p) a b s [] f x0 x1 x2 x3 x4 (j : Int) (i : Int) o0 o1 o2 o3 o4 a 0 [] g [] h ((f.set j (.mk (keyOf q) w)).take i) k y0 y1 y2 y3 y4 =
          some (.inl (st :: p, a, b, s, [], f, x0, x1, x2, x3, x4, (j : Int), (i : Int) + 1, o0, o1, o2, o3, o4, a, 0, [], g, [], h + 1, (f.set j (.mk (keyOf q) w)).take i ++ [y])) := by
        intro y k y0 y1 y2 y3 y4 e
        subst e
        unfold p_cascaderef06_Put_9 b_cascaderef06_Put_9
        rw [M.r_app (by simp only [List.length_cons, List.length_nil, room]; omega) (by simp only [List.length_cons, List.length_nil, room]; omega)]
        simp only
        rw [r_add (by unfold fit64; omega)]
      rw [lss_t (by omega), r_idx (List.getElem?_eq_getElem hlt)]
      by_cases e : i = j
      · subst e
        have hq : f[i] = q := by rw [List.getElem?_eq_getElem hlt] at hj; exact Option.some.inj hj
        have hg : (f.set i (.mk (keyOf q) w))[i]'(by omega) = .mk (keyOf q) w := by simp
        rw [hg] at hw
        rw [hw] at hrec
        rw [hq]
        obtain ⟨kq, ⟨y0, y1, y2, y3, y4⟩⟩ := q
        simp only
        rw [eql_t rfl]
        simp only [valOf_mk] at hc
        simp only [sub1, hc]
        obtain ⟨w0, w1, w2, w3, w4⟩ := w
        simp only [e9 _ _ _ _ _ _ _ rfl]
        exact hrec _ (by omega)
      · have hg : (f.set j (.mk (keyOf q) w))[i]'(by omega) = f[i] := by
          rw [List.getElem_set_ne (by omega)]
        rw [hg] at hw
        rw [hw] at hrec
        generalize f[i] = y at *
        obtain ⟨k, ⟨y0, y1, y2, y3, y4⟩⟩ := y
        simp only
        rw [eql_f (by omega)]
        simp only [e9 _ _ _ _ _ _ _ rfl]
        exact hrec _ (by omega)
    · rw [lss_f (by omega), List.take_of_length_le (by omega)]
theorem refPut_k (x0 x1 : Int) (x2 : Str) (x3 : List Val) (x4 : List Par) : ∀ (k : Nat) (p : List Stp) (v w : Val) (d : Nat), p.length < k → (∀ s ∈ p, stepR s = true) → cnt v ≤ 200 → rR (d + p.length) v = true → atS (.mk x0 x1 x2 x3 x4) v p = some w →
    pk_cascaderef06_Put k v p (.mk x0 x1 x2 x3 x4) = some w
  | 0, p, v, w, d, h, _, _, _, _ => by omega
  | k + 1, p, .mk a b s l f, w, d, hk, hs, hc, hr, ha => by
    have hl : l.length ≤ 1000 := by have := cntL_len l; simp only [cnt] at hc; omega
    have hf : f.length ≤ 1000 := by have := cntF_len f; simp only [cnt] at hc; omega
    show p_cascaderef06_Put_0 (pk_cascaderef06_Put k) a b s l f p x0 x1 x2 x3 x4 = _
    unfold p_cascaderef06_Put_0 b_cascaderef06_Put_0
    rw [r_len]
    cases p with
    | nil =>
      rw [eql_t (by simp)]
      simp only [atS, Option.some.injEq] at ha
      subst ha
      rfl
    | cons st p =>
      rw [eql_f (by simp; omega)]
      have i0 : Prims.real.idx (st :: p) 0 = some st := rfl
      have hst := hs st List.mem_cons_self
      have hnk := next_kid (.mk a b s l f) st hst
      have hrn := ref_next (.mk a b s l f) st hc
      simp only [atS] at ha
      have hr' : rR (d + p.length + 1) (.mk a b s l f) = true := by rw [show d + p.length + 1 = d + (st :: p).length by simp; omega]; exact hr
      rcases hnk with hn | ⟨j, y, hn, hkid⟩
      · rw [hn, if_pos (by omega)] at ha; cases ha
      · rw [hn, if_neg (by omega), Int.toNat_natCast, hkid] at ha
        simp only at ha
        have hy := kid_cnt hkid
        have hry := kid_right hkid hr'
        cases hat : atS (.mk x0 x1 x2 x3 x4) y p with
        | none => rw [hat] at ha; cases ha
        | some w' =>
          rw [hat] at ha
          simp only [Option.some.injEq] at ha
          subst ha
          have ih := refPut_k x0 x1 x2 x3 x4 k p y w' d (by simp at hk; omega) (fun s h => hs s (List.mem_cons_of_mem _ h)) (by omega) hry hat
          simp only [rR, headOk, Bool.and_eq_true, decide_eq_true_eq] at hr'
          have hh := hr'.1.1.1.1
          obtain ⟨kk, n, c⟩ := st
          simp only [i0, hrn, hn]
          cases c with
          | true =>
            have ha4 : a = 4 := by
              by_cases g : a = 4
              · exact g
              · exfalso
                have : nextI (.mk a b s l f) ⟨kk, n, true⟩ = -1 := by simp [nextI, g]
                rw [this] at hn; omega
            subst ha4
            have hb : b = 0 := by omega
            have hs0 : s = [] := by rcases hh.2.2.1 with h | h; exact absurd h (by omega); exact h
            have hf0 : f = [] := List.length_eq_zero_iff.1 (by rcases hh.2.2.2.2.1 with h | h; exact absurd h (by omega); exact h)
            subst hb; subst hs0; subst hf0
            have hk' : l[j]? = some y := by simpa [kid] using hkid
            have hj := (List.getElem?_eq_some_iff.1 hk').1
            have hgy : l[j] = y := (List.getElem?_eq_some_iff.1 hk').2
            have := put_2 (pk_cascaderef06_Put k) ⟨kk, n, true⟩ p 4 0 [] l x0 x1 x2 x3 x4 0 0 [] [] [] j w' hl hj (by rw [hgy]; exact ih) _ 0 0 0 (Nat.le_refl _) (by omega)
            simp only [List.take_zero, Int.natCast_zero] at this
            simp only [this, put1, if_true]
          | false =>
            have ha5 : a = 5 := by
              by_cases g : a = 5
              · exact g
              · exfalso
                have : nextI (.mk a b s l f) ⟨kk, n, false⟩ = -1 := by simp [nextI, g]
                rw [this] at hn; omega
            subst ha5
            have hb : b = 0 := by omega
            have hs0 : s = [] := by rcases hh.2.2.1 with h | h; exact absurd h (by omega); exact h
            have hl0 : l = [] := List.length_eq_zero_iff.1 (by rcases hh.2.2.2.1 with h | h; exact absurd h (by omega); exact h)
            subst hb; subst hs0; subst hl0
            have hk' : (f[j]?).map valOf = some y := by simpa [kid] using hkid
            obtain ⟨q, hq, hqy⟩ := Option.map_eq_some_iff.1 hk'
            subst hqy
            have e2 : ∀ g h, p_cascaderef06_Put_2 (pk_cascaderef06_Put k) (⟨kk, n, false⟩ :: p) 5 0 [] [] f x0 x1 x2 x3 x4 (j : Int) 0 0 0 [] [] [] 5 0 [] g [] h [] = p_cascaderef06_Put_7 (pk_cascaderef06_Put k) (⟨kk, n, false⟩ :: p) 5 0 [] [] f x0 x1 x2 x3 x4 (j : Int) 0 0 0 [] [] [] 5 0 [] g [] h [] := by
              intro g h
              rw [u_cascaderef06_Put_2]
              unfold b_cascaderef06_Put_2
              rw [r_len, lss_f (by simp)]
              simp only
              cases p_cascaderef06_Put_7 (pk_cascaderef06_Put k) (⟨kk, n, false⟩ :: p) 5 0 [] [] f x0 x1 x2 x3 x4 (j : Int) 0 0 0 [] [] [] 5 0 [] g [] h [] <;> rfl
            have := put_7 (pk_cascaderef06_Put k) ⟨kk, n, false⟩ p 5 0 [] f x0 x1 x2 x3 x4 0 0 [] [] [] j q w' hf hq ih _ 0 0 0 (Nat.le_refl _) (by omega)
            simp only [List.take_zero, Int.natCast_zero] at this
            simp only [e2, this, put1, Bool.false_eq_true, if_false, hq]
theorem rR_more : ∀ (d : Nat) (v : Val), rR d v = true → rR (d + 1) v = true
  | 0, v, h => by simp [rR] at h
  | d + 1, .mk a b s l f, h => by
    simp only [rR, Bool.and_eq_true, List.all_eq_true] at h ⊢
    refine ⟨⟨⟨h.1.1.1, fun v hv => ?_⟩, h.1.2⟩, fun p hp => ?_⟩
    · have := rR_more d v (h.1.1.2 v hv)
      simpa only [rR] using this
    · have := rR_more d _ (h.2 p hp)
      simpa only [rR] using this
theorem rR_add (v : Val) (d : Nat) (h : rR d v = true) : ∀ n, rR (d + n) v = true
  | 0 => h
  | n + 1 => rR_more _ _ (rR_add v d h n)
def putR (v : Val) (p : List Stp) (x : Val) : Val × Int :=
  if rR 12 v = true ∧ pathR p = true ∧ rR 12 x = true then (match atS x v p with | none => (zv, 8) | some w => if rR 12 w = true then (w, 0) else (zv, 5)) else (zv, 1)
theorem Put06 (v : Val) (p : List Stp) (x : Val) (hp : p.length ≤ 1000) (hc : cnt v ≤ 60) (hs : strs v = true) (hx : cnt x ≤ 60) (hsx : strs x = true) :
    p_path_Put v p x = some (putR v p x) := by
  unfold putR
  obtain ⟨a, b, s, l, f⟩ := v
  obtain ⟨x0, x1, x2, x3, x4⟩ := x
  show p_path_Put_0 a b s l f p x0 x1 x2 x3 x4 = _
  unfold p_path_Put_0 b_path_Put_0
  simp only [tree_Right _ (show cnt (.mk a b s l f) ≤ 200 by omega) hs, Right06 p hp, tree_Right _ (show cnt (.mk x0 x1 x2 x3 x4) ≤ 200 by omega) hsx]
  cases h1 : rR 12 (.mk a b s l f) with
  | false => simp
  | true =>
    cases h2 : pathR p with
    | false => simp
    | true =>
      cases h3 : rR 12 (.mk x0 x1 x2 x3 x4) with
      | false => simp
      | true =>
        simp only [and_self, if_true]
        have hst : ∀ s ∈ p, stepR s = true := by
          unfold pathR at h2
          rw [Bool.and_eq_true] at h2
          exact List.all_eq_true.1 h2.2
        obtain ⟨w, e, r1, r2⟩ := at_k x0 x1 x2 x3 x4 1000000 p (.mk a b s l f) (by omega) hst (by omega)
        have hat : p_path_at__0 (.mk a b s l f) p x0 x1 x2 x3 x4 = some (w, e) := r1
        have hch : p_path_changed__0 (.mk a b s l f) p x0 x1 x2 x3 x4 = some ((match atS (.mk x0 x1 x2 x3 x4) (.mk a b s l f) p with | none => (zv, 8) | some w => if rR 12 w = true then (w, 0) else (zv, 5)) : Val × Int) := by
          show p_path_changed__0_0 a b s l f p x0 x1 x2 x3 x4 = _
          unfold p_path_changed__0_0 b_path_changed__0_0
          simp only [hat]
          revert r2
          cases ha : atS (.mk x0 x1 x2 x3 x4) (.mk a b s l f) p with
          | none =>
            intro r2
            have r2' : e = 8 := r2
            obtain ⟨w0, w1, w2, w3, w4⟩ := w
            simp only [r2']
            rw [neq_t (by omega)]
          | some w' =>
            rintro ⟨rfl, rfl⟩
            obtain ⟨c1, c2⟩ := atS_cnt _ hsx p _ _ hs ha
            have c3 : cnt w ≤ 200 := by omega
            have e1 := tree_Right w c3 c2
            have e2 := Clone w c3 c2
            obtain ⟨w0, w1, w2, w3, w4⟩ := w
            simp only
            rw [neq_f rfl]
            simp only [e1]
            cases hw : rR 12 (.mk w0 w1 w2 w3 w4) with
            | false => simp
            | true =>
              rw [hw, if_pos rfl] at e2
              simp only [e2, if_true]
        simp only [hch]
        cases atS (.mk x0 x1 x2 x3 x4) (.mk a b s l f) p with
        | none => rfl
        | some w =>
          obtain ⟨w0, w1, w2, w3, w4⟩ := w
          simp only
          cases rR 12 (.mk w0 w1 w2 w3 w4) <;> rfl
theorem refPuts06 (v : Val) (p : List Stp) (x : Val) (hp : p.length ≤ 40) (hkp : ∀ s ∈ p, s.key.length ≤ 200) (hc : cnt v ≤ 60) (hs : strs v = true) (hx : cnt x ≤ 60) (hsx : strs x = true) :
    p_cascaderef06_Puts v p x = some (putR v p x) := by
  unfold putR
  obtain ⟨a, b, s, l, f⟩ := v
  obtain ⟨x0, x1, x2, x3, x4⟩ := x
  show p_cascaderef06_Puts_0 a b s l f p x0 x1 x2 x3 x4 = _
  unfold p_cascaderef06_Puts_0 b_cascaderef06_Puts_0
  simp only [refRight _ (show cnt (.mk x0 x1 x2 x3 x4) ≤ 200 by omega) hsx]
  cases h3 : rR 12 (.mk x0 x1 x2 x3 x4) with
  | false => simp
  | true =>
    have hmay : p_cascaderef06_may (.mk a b s l f) p = some ((if rR 12 (.mk a b s l f) = true ∧ pathR p = true then (match findS (.mk a b s l f) p with | some y => (y, 0) | none => (zv, 8)) else (zv, 1)) : Val × Int) := by
      show p_cascaderef06_may_0 a b s l f p = _
      unfold p_cascaderef06_may_0 b_cascaderef06_may_0
      simp only [refRight _ (show cnt (.mk a b s l f) ≤ 200 by omega) hs]
      cases h1 : rR 12 (.mk a b s l f) with
      | false => simp
      | true =>
        simp only [refRight06 p (fun s hs => by have := hkp s hs; omega)]
        cases h2 : pathR p with
        | false => simp
        | true =>
          have hst : ∀ s ∈ p, stepR s = true := by
            unfold pathR at h2
            rw [Bool.and_eq_true] at h2
            exact List.all_eq_true.1 h2.2
          simp only [refFind _ p (by omega) hst (show cnt (.mk a b s l f) ≤ 200 by omega), and_self, if_true]
          cases findS (.mk a b s l f) p with
          | none => rfl
          | some y => obtain ⟨y0, y1, y2, y3, y4⟩ := y; rfl
    simp only [hmay]
    by_cases h12 : rR 12 (.mk a b s l f) = true ∧ pathR p = true
    · obtain ⟨h1, h2⟩ := h12
      have hst : ∀ s ∈ p, stepR s = true := by
        unfold pathR at h2
        rw [Bool.and_eq_true] at h2
        exact List.all_eq_true.1 h2.2
      have haf := at_find (.mk x0 x1 x2 x3 x4) p (.mk a b s l f)
      simp only [h1, h2, and_self, if_true]
      cases ha : atS (.mk x0 x1 x2 x3 x4) (.mk a b s l f) p with
      | none =>
        rw [ha] at haf
        cases hfd : findS (.mk a b s l f) p with
        | some y => rw [hfd] at haf; cases haf
        | none =>
          simp only
          rw [neq_t (by omega)]
      | some w =>
        rw [ha] at haf
        cases hfd : findS (.mk a b s l f) p with
        | none => rw [hfd] at haf; cases haf
        | some y =>
          obtain ⟨y0, y1, y2, y3, y4⟩ := y
          simp only
          rw [neq_f rfl]
          obtain ⟨c1, c2⟩ := atS_cnt _ hsx p _ _ hs ha
          have c3 : cnt w ≤ 200 := by omega
          have hput : p_cascaderef06_Put (.mk a b s l f) p (.mk x0 x1 x2 x3 x4) = some w :=
            refPut_k x0 x1 x2 x3 x4 1000000 p (.mk a b s l f) w 12 (by omega) hst (by omega) (rR_add _ _ h1 _) ha
          have hch : p_cascaderef06_changed (.mk a b s l f) p (.mk x0 x1 x2 x3 x4) = some ((if rR 12 w = true then (w, 0) else (zv, 5)) : Val × Int) := by
            show p_cascaderef06_changed_0 a b s l f p x0 x1 x2 x3 x4 = _
            unfold p_cascaderef06_changed_0 b_cascaderef06_changed_0
            have e1 := refRight w c3 c2
            simp only [hput]
            obtain ⟨w0, w1, w2, w3, w4⟩ := w
            simp only [e1]
            cases rR 12 (.mk w0 w1 w2 w3 w4) <;> rfl
          simp only [hch]
          obtain ⟨w0, w1, w2, w3, w4⟩ := w
          cases rR 12 (.mk w0 w1 w2 w3 w4) <;> rfl
    · rw [if_neg h12, if_neg (fun h => h12 ⟨h.1, h.2.1⟩)]
      simp only
      rw [neq_t (by omega)]
theorem PathPuts (v : Val) (p : List Stp) (x : Val) : p_cascadelaw06_PathPuts v p x = some true := by
  obtain ⟨a, b, s, l, f⟩ := v
  obtain ⟨x0, x1, x2, x3, x4⟩ := x
  show p_cascadelaw06_PathPuts_0 a b s l f p x0 x1 x2 x3 x4 = _
  unfold p_cascadelaw06_PathPuts_0 b_cascadelaw06_PathPuts_0
  simp only [awake06]
  rcases Few (.mk a b s l f) 60 (by omega) with h | ⟨h1, h2, h3⟩
  · rw [show ((60 : Nat) : Int) = 60 from rfl] at h
    simp only [h]
  rw [show ((60 : Nat) : Int) = 60 from rfl] at h1
  simp only [h1]
  rcases Few (.mk x0 x1 x2 x3 x4) 60 (by omega) with g | ⟨g1, g2, g3⟩
  · rw [show ((60 : Nat) : Int) = 60 from rfl] at g
    simp only [g]
  rw [show ((60 : Nat) : Int) = 60 from rfl] at g1
  simp only [g1]
  rcases few06 p with q | ⟨q1, q2, q3⟩
  · simp only [q]
  simp only [q1, Put06 (.mk a b s l f) p (.mk x0 x1 x2 x3 x4) (by omega) h2 h3 g2 g3, refPuts06 (.mk a b s l f) p (.mk x0 x1 x2 x3 x4) q2 q3 h2 h3 g2 g3]
  generalize hr : putR (.mk a b s l f) p (.mk x0 x1 x2 x3 x4) = r
  have hcr : cnt r.1 ≤ 200 := by
    rw [← hr]
    unfold putR
    split
    · cases ha : atS (.mk x0 x1 x2 x3 x4) (.mk a b s l f) p with
      | none => simp [cnt, cntL, cntF]
      | some w =>
        obtain ⟨c1, c2⟩ := atS_cnt _ g3 p _ _ h3 ha
        simp only
        split
        · simp only; omega
        · simp [cnt, cntL, cntF]
    · simp [cnt, cntL, cntF]
  obtain ⟨⟨r0, r1, r2, r3, r4⟩, e⟩ := r
  simp only
  rw [eql_t rfl]
  have := Same_self _ hcr
  simp only [this]
end Go.Abs.T
