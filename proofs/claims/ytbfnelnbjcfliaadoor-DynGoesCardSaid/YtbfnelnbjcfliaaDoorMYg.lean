import Derived.Test.YtbfnelnbjcfliaaDoorMY2
/-! The law DynGoes. -/
set_option linter.unusedVariables false
set_option linter.unusedSimpArgs false
namespace Go.Abs.T
open M
theorem member_1 (k : Str) (f : List Par) (hf : f.length ≤ 1000) : ∀ (m i : Nat), f.length - i ≤ m → i ≤ f.length →
    p_dyn_member_1 k (oddsF f) (f.length : Int) (i : Int) = some (match getS k (f.drop i) with | (v, true) => (odds v, true) | (_, false) => (.n, false))
  | m, i, hm, hi => by
    rw [u_dyn_member_1]
    unfold b_dyn_member_1
    rw [oddsF_map]
    by_cases h : i < f.length
    · rw [lss_t (by omega), r_idx (show (f.map oddsP)[i]? = some (oddsP f[i]) by rw [List.getElem?_map, List.getElem?_eq_getElem h]; rfl), List.drop_eq_getElem_cons h]
      generalize f[i] = x
      obtain ⟨kx, v⟩ := x
      simp only [oddsP]
      by_cases e : kx = k
      · rw [seq_t e, getS_yes e]
      · rw [seq_f e, getS_no e, r_add (by unfold fit64; omega)]
        cases m with
        | zero => omega
        | succ m =>
          rw [show ((i : Int) + 1) = ((i + 1 : Nat) : Int) by omega, ← oddsF_map]
          exact member_1 k f hf m (i + 1) (by omega) (by omega)
    · rw [lss_f (by omega), List.drop_eq_nil_of_le (by omega)]
      rfl
theorem oddsF_len (f : List Par) : (oddsF f).length = f.length := by rw [oddsF_map, List.length_map]
theorem member (k : Str) (f : List Par) (hf : f.length ≤ 1000) : p_dyn_member (oddsF f) k = some (match getS k f with | (v, true) => (odds v, true) | (_, false) => (.n, false)) := by
  show p_dyn_member_0 (oddsF f) k = _
  unfold p_dyn_member_0 b_dyn_member_0
  rw [r_len, oddsF_len]
  have := member_1 k f hf _ 0 (Nat.le_refl _) (by omega)
  simpa using this
/-- Where keys lead. -/
def goS : Val → List Str → Option Val
  | v, [] => some v
  | .mk a b s l f, k :: r => if a = 5 then match getS k f with
      | (x, true) => goS x r
      | (_, false) => none
    else none
theorem getS_size {k : Str} {x : Val} {f : List Par} (h : getS k f = (x, true)) : cnt x ≤ cntF f ∧ (strsF f = true → strs x = true) := by
  induction f with
  | nil => simp [getS] at h
  | cons p r ih =>
    obtain ⟨kp, v⟩ := p
    by_cases e : kp = k
    · rw [getS_yes e] at h
      injection h with h1 _
      subst h1
      simp only [cntF, cntP, strsF, strsP, Bool.and_eq_true, decide_eq_true_eq]
      exact ⟨by omega, fun h => h.1.2⟩
    · rw [getS_no e] at h
      obtain ⟨h1, h2⟩ := ih h
      simp only [cntF, strsF, Bool.and_eq_true]
      exact ⟨by omega, fun h => h2 h.2⟩
theorem go_1 (ks : List Str) (hk : ks.length ≤ 1000) : ∀ (m i : Nat) (v : Val), ks.length - i ≤ m → i ≤ ks.length → cnt v ≤ 200 →
    p_dyn_Go_1 (odds v) ks (ks.length : Int) (i : Int) = some (match goS v (ks.drop i) with | some w => (odds w, true) | none => (.n, false))
  | m, i, ⟨a, b, s, l, f⟩, hm, hi, hc => by
    rw [u_dyn_Go_1]
    unfold b_dyn_Go_1
    simp only [cnt] at hc
    have hfen := cntF_len f
    by_cases h : i < ks.length
    · rw [lss_t (by omega), r_idx (List.getElem?_eq_getElem h), List.drop_eq_getElem_cons h]
      generalize ks[i] = k
      simp only [goS]
      by_cases e : a = 5
      · subst e
        have ho : odds (.mk 5 b s l f) = .c68 (oddsF f) := by simp [odds]
        rw [ho, if_pos rfl]
        simp only [member k f (by omega)]
        cases hg : getS k f with
        | mk x ok =>
        cases ok with
        | false => simp
        | true =>
          simp only
          obtain ⟨h1, _⟩ := getS_size hg
          rw [r_add (by unfold fit64; omega)]
          cases m with
          | zero => omega
          | succ m =>
            rw [show ((i : Int) + 1) = ((i + 1 : Nat) : Int) by omega]
            exact go_1 ks hk m (i + 1) x (by omega) (by omega) (by omega)
      · rw [if_neg e]
        by_cases e2 : a = 12
        · subst e2
          have ho : odds (.mk 12 b s l f) = .c68 (oddsF []) := by simp [odds, oddsF]
          rw [ho]
          simp only [member k [] (by simp)]
          simp [getS]
        · have hne : ∀ x, odds (.mk a b s l f) ≠ .c68 x := by
            intro x hx
            rw [odds] at hx
            simp only [tos] at hx
            repeat' split at hx
            all_goals first | (cases hx; done) | (exact absurd (by assumption) e) | (exact absurd (by assumption) e2)
          generalize odds (.mk a b s l f) = y at hne
          cases y <;> first | rfl | (exact absurd rfl (hne _))
    · rw [lss_f (by omega), List.drop_eq_nil_of_le (by omega)]
      rfl
theorem refGo_1 (ks : List Str) (hk : ks.length ≤ 1000) (o0 o1 : Int) (o2 : Str) (o3 : List Val) (o4 : List Par) : ∀ (m i : Nat) (a b : Int) (s : Str) (l : List Val) (f : List Par), ks.length - i ≤ m → i ≤ ks.length → cnt (.mk a b s l f) ≤ 200 →
    p_cascaderef04_Go_1 ks (i : Int) a b s l f o0 o1 o2 o3 o4 = some (match goS (.mk a b s l f) (ks.drop i) with | some w => (w, true) | none => (zv, false))
  | m, i, a, b, s, l, f, hm, hi, hc => by
    rw [u_cascaderef04_Go_1]
    unfold b_cascaderef04_Go_1
    simp only [cnt] at hc
    have hfen := cntF_len f
    rw [r_len]
    by_cases h : i < ks.length
    · rw [lss_t (by omega), r_idx (List.getElem?_eq_getElem h), List.drop_eq_getElem_cons h]
      generalize ks[i] = k
      simp only [goS]
      by_cases e : a = 5
      · rw [neq_f e, if_pos e]
        simp only
        rcases At k a b s l f (by omega) with ⟨h1, h2⟩ | ⟨j, p, h1, h2, h3⟩
        · simp only [h1, h2]
          rw [lss_t (by omega)]
        · simp only [h1, h3]
          rw [lss_f (by omega), r_idx h2]
          obtain ⟨kp, ⟨x0, x1, x2, x3, x4⟩⟩ := p
          simp only [valOf_mk] at h3 ⊢
          obtain ⟨g1, _⟩ := getS_size h3
          rw [r_add (by unfold fit64; omega)]
          cases m with
          | zero => omega
          | succ m =>
            rw [show ((i : Int) + 1) = ((i + 1 : Nat) : Int) by omega]
            exact refGo_1 ks hk o0 o1 o2 o3 o4 m (i + 1) _ _ _ _ _ (by omega) (by omega) (by omega)
      · rw [neq_t e, if_neg e]
    · rw [lss_f (by omega), List.drop_eq_nil_of_le (by omega)]
      rfl
theorem goS_size : ∀ (ks : List Str) (v w : Val), goS v ks = some w → cnt w ≤ cnt v ∧ (strs v = true → strs w = true)
  | [], v, w, h => by
    have : v = w := by cases v; simpa [goS] using h
    subst this
    exact ⟨Nat.le_refl _, id⟩
  | k :: r, ⟨a, b, s, l, f⟩, w, h => by
    simp only [goS] at h
    split at h <;> try (cases h; done)
    split at h <;> try (cases h; done)
    rename_i x hg
    obtain ⟨h1, h2⟩ := getS_size hg
    obtain ⟨h3, h4⟩ := goS_size r x w h
    simp only [cnt, strs, Bool.and_eq_true]
    exact ⟨by omega, fun hh => h4 (h2 hh.2)⟩
theorem DynGoes (v : Val) (ks : List Str) : p_cascadelaw04_DynGoes v ks = some true := by
  rcases Few v 60 (by omega) with h | ⟨h, hc, hs⟩
  · obtain ⟨a, b, s, l, f⟩ := v
    show p_cascadelaw04_DynGoes_0 a b s l f ks = _
    unfold p_cascadelaw04_DynGoes_0 b_cascadelaw04_DynGoes_0
    rw [show ((60 : Nat) : Int) = 60 from rfl] at h
    simp only [awake04, h]
  have h1 := dyn_Odd v (by omega)
  by_cases hk : ks.length ≤ 10
  · have h2 : p_dyn_Go (odds v) ks = some (match goS v ks with | some w => (odds w, true) | none => (.n, false)) := by
      show p_dyn_Go_0 (odds v) ks = _
      unfold p_dyn_Go_0 b_dyn_Go_0
      rw [r_len]
      have := go_1 ks (by omega) _ 0 v (Nat.le_refl _) (by omega) (by omega)
      simpa using this
    have h3 : p_cascaderef04_Go v ks = some (match goS v ks with | some w => (w, true) | none => (zv, false)) := by
      obtain ⟨a, b, s, l, f⟩ := v
      show p_cascaderef04_Go_0 a b s l f ks = _
      unfold p_cascaderef04_Go_0 b_cascaderef04_Go_0
      have := refGo_1 ks (by omega) 0 0 [] [] [] _ 0 a b s l f (Nat.le_refl _) (by omega) (by omega)
      simpa using this
    have hz : odds zv = .n := by simp [odds, tos]
    cases hg : goS v ks with
    | none =>
      rw [hg] at h2 h3
      simp only at h2 h3
      have h4 := From_odd zv (by simp [cnt, cntL, cntF]) (by simp [strs, strsL, strsF])
      have h5 := refFrom zv (by simp [cnt, cntL, cntF]) (by simp [strs, strsL, strsF])
      rw [hz] at h4
      generalize fromV zv = x at h4 h5
      obtain ⟨⟨x0, x1, x2, x3, x4⟩, e⟩ := x
      obtain ⟨a, b, s, l, f⟩ := v
      show p_cascadelaw04_DynGoes_0 a b s l f ks = _
      unfold p_cascadelaw04_DynGoes_0 b_cascadelaw04_DynGoes_0
      rw [show ((60 : Nat) : Int) = 60 from rfl] at h
      rw [r_len, gtr_f (by omega)]
      simp only [awake04, h, h1, h2, h3, p_cascadelaw04_DynGoes_3, b_cascadelaw04_DynGoes_3, h4, h5]
    | some w =>
      rw [hg] at h2 h3
      simp only at h2 h3
      obtain ⟨c1, c2⟩ := goS_size ks v w hg
      have h4 := From_odd w (by omega) (c2 hs)
      have h5 := refFrom w (by omega) (c2 hs)
      have h6 := refKind w (by omega)
      have h7 := cnt_from w
      generalize fromV w = x at h4 h5 h7
      obtain ⟨⟨x0, x1, x2, x3, x4⟩, e⟩ := x
      have h8 := Same_self (.mk x0 x1 x2 x3 x4) (Nat.le_trans h7 (by omega))
      obtain ⟨a, b, s, l, f⟩ := v
      obtain ⟨w0, w1, w2, w3, w4⟩ := w
      show p_cascadelaw04_DynGoes_0 a b s l f ks = _
      unfold p_cascadelaw04_DynGoes_0 b_cascadelaw04_DynGoes_0
      rw [show ((60 : Nat) : Int) = 60 from rfl] at h
      rw [r_len, gtr_f (by omega)]
      simp only [awake04, h, h1, h2, h3, p_cascadelaw04_DynGoes_2, b_cascadelaw04_DynGoes_2, h4, h5, h6, h8, dyn_Kind]
      rw [eql_t rfl, eql_t rfl]
  · obtain ⟨a, b, s, l, f⟩ := v
    show p_cascadelaw04_DynGoes_0 a b s l f ks = _
    unfold p_cascadelaw04_DynGoes_0 b_cascadelaw04_DynGoes_0
    rw [show ((60 : Nat) : Int) = 60 from rfl] at h
    rw [r_len, gtr_t (by omega)]
    simp only [awake04, h]
end Go.Abs.T
