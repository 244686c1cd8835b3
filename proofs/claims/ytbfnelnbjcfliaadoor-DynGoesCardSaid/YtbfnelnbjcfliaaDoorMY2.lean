import Derived.Test.YtbfnelnbjcfliaaDoorMY1
/-! What loose values stand for: by the program and by the reference; two laws. -/
set_option linter.unusedVariables false
set_option linter.unusedSimpArgs false
namespace Go.Abs.T
open M
mutual
theorem cnt_stn : ∀ v : Val, cnt (stn v).1 ≤ cnt v
  | .mk k n s l f => by
    have h1 := cnt_stnL l
    have h2 := cnt_stnF f
    simp only [stn, cnt]
    repeat' split
    all_goals simp only [cnt, cntL, cntF]
    all_goals omega
theorem cnt_stnL : ∀ l : List Val, cntL (stnL l).1 ≤ cntL l
  | [] => by simp [stnL, cntL]
  | v :: r => by have := cnt_stn v; have := cnt_stnL r; simp only [stnL, cntL]; omega
theorem cnt_stnF : ∀ l : List Par, cntF (stnF l).1 ≤ cntF l
  | [] => by simp [stnF, cntF]
  | .mk k v :: r => by have := cnt_stn v; have := cnt_stnF r; simp only [stnF, stnP, cntF, cntP]; omega
end
mutual
theorem strs_stn : ∀ v : Val, strs v = true → strs (stn v).1 = true
  | .mk k n s l f => by
    intro h
    simp only [strs, Bool.and_eq_true, decide_eq_true_eq] at h
    have h1 := strs_stnL l h.1.2
    have h2 := strs_stnF f h.2
    simp only [stn]
    repeat' split
    all_goals simp only [strs, strsL, strsF, h1, h2, Bool.and_eq_true, decide_eq_true_eq, List.length_nil]
    all_goals simp
    all_goals exact h.1.1
theorem strs_stnL : ∀ l : List Val, strsL l = true → strsL (stnL l).1 = true
  | [] => by simp [stnL, strsL]
  | v :: r => by
    intro h
    simp only [strsL, Bool.and_eq_true] at h
    simp only [stnL, strsL, strs_stn v h.1, strs_stnL r h.2, Bool.and_self]
theorem strs_stnF : ∀ l : List Par, strsF l = true → strsF (stnF l).1 = true
  | [] => by simp [stnF, strsF]
  | .mk k v :: r => by
    intro h
    simp only [strsF, strsP, Bool.and_eq_true, decide_eq_true_eq] at h
    simp only [stnF, stnP, strsF, strsP, strs_stn v h.1.2, strs_stnF r h.2, Bool.and_self, Bool.and_true, decide_eq_true_eq]
    exact h.1.1
end
/-! ## Stands -/
theorem stands_2 (c : Val → Option (Val × Bool)) (a b : Int) (s : Str) (l : List Val) (f : List Par) (hc : ∀ v ∈ l, c v = some (stn v)) (hl : l.length ≤ 1000) (o0 o1 : Int) (o2 : Str) (o3 : List Val) (o4 : List Par) (x y : Int) (z : Str) (q' : Nat) (acc' : List Par) :
    ∀ (m i q : Nat) (ok : Bool) (acc : List Val), l.length - i ≤ m → i ≤ l.length → acc.length ≤ i →
    p_cascaderef04_Stands_2 c a b s l f ok (i : Int) o0 o1 o2 o3 o4 x y z q acc q' acc' = some (.mk x y z (acc ++ (stnL (l.drop i)).1) acc', ok && (stnL (l.drop i)).2)
  | m, i, q, ok, acc, hm, hi, ha => by
    rw [u_cascaderef04_Stands_2]
    unfold b_cascaderef04_Stands_2
    rw [r_len]
    by_cases h : i < l.length
    · have hx := hc _ (List.getElem_mem h)
      rw [lss_t (by omega), r_idx (List.getElem?_eq_getElem h), List.drop_eq_getElem_cons h]
      generalize l[i] = v at hx
      obtain ⟨v0, v1, v2, v3, v4⟩ := v
      simp only [hx, stnL]
      generalize stn (.mk v0 v1 v2 v3 v4) = w
      obtain ⟨⟨w0, w1, w2, w3, w4⟩, wb⟩ := w
      simp only
      rw [M.r_app (by simp [room]; omega) (by simp [room]; omega)]
      simp only [p_cascaderef04_Stands_4, b_cascaderef04_Stands_4]
      rw [r_add (by unfold fit64; omega), show ((i : Int) + 1) = ((i + 1 : Nat) : Int) by omega]
      cases m with
      | zero => omega
      | succ m =>
        cases ok with
        | false =>
          simp only
          rw [stands_2 c a b s l f hc hl o0 o1 o2 o3 o4 x y z q' acc' m (i + 1) (q + 1) false _ (by omega) (by omega) (by simp; omega)]
          simp
        | true =>
          simp only
          rw [stands_2 c a b s l f hc hl o0 o1 o2 o3 o4 x y z q' acc' m (i + 1) (q + 1) wb _ (by omega) (by omega) (by simp; omega)]
          simp
    · rw [lss_f (by omega), List.drop_eq_nil_of_le (by omega)]
      simp only [p_cascaderef04_Stands_8, b_cascaderef04_Stands_8, stnL, List.append_nil, Bool.and_true]
theorem stands_5 (c : Val → Option (Val × Bool)) (a b : Int) (s : Str) (l : List Val) (f : List Par) (hc : ∀ p ∈ f, c (valOf p) = some (stn (valOf p))) (hl : f.length ≤ 1000) (o0 o1 : Int) (o2 : Str) (o3 : List Val) (o4 : List Par) (x y : Int) (z : Str) (q' : Nat) (acc' : List Val) :
    ∀ (m i q : Nat) (ok : Bool) (acc : List Par), f.length - i ≤ m → i ≤ f.length → acc.length ≤ i →
    p_cascaderef04_Stands_5 c a b s l f ok (i : Int) o0 o1 o2 o3 o4 x y z q' acc' q acc = some (.mk x y z acc' (acc ++ (stnF (f.drop i)).1), ok && (stnF (f.drop i)).2)
  | m, i, q, ok, acc, hm, hi, ha => by
    rw [u_cascaderef04_Stands_5]
    unfold b_cascaderef04_Stands_5
    rw [r_len]
    by_cases h : i < f.length
    · have hx := hc _ (List.getElem_mem h)
      rw [lss_t (by omega), r_idx (List.getElem?_eq_getElem h), List.drop_eq_getElem_cons h]
      generalize f[i] = v at hx
      obtain ⟨kv, ⟨v0, v1, v2, v3, v4⟩⟩ := v
      rw [valOf_mk] at hx
      simp only [hx, stnF, stnP]
      generalize stn (.mk v0 v1 v2 v3 v4) = w
      obtain ⟨⟨w0, w1, w2, w3, w4⟩, wb⟩ := w
      simp only
      rw [M.r_app (by simp [room]; omega) (by simp [room]; omega)]
      simp only [p_cascaderef04_Stands_7, b_cascaderef04_Stands_7]
      rw [r_add (by unfold fit64; omega), show ((i : Int) + 1) = ((i + 1 : Nat) : Int) by omega]
      cases m with
      | zero => omega
      | succ m =>
        cases ok with
        | false =>
          simp only
          rw [stands_5 c a b s l f hc hl o0 o1 o2 o3 o4 x y z q' acc' m (i + 1) (q + 1) false _ (by omega) (by omega) (by simp; omega)]
          simp
        | true =>
          simp only
          rw [stands_5 c a b s l f hc hl o0 o1 o2 o3 o4 x y z q' acc' m (i + 1) (q + 1) wb _ (by omega) (by omega) (by simp; omega)]
          simp
    · rw [lss_f (by omega), List.drop_eq_nil_of_le (by omega)]
      simp only [p_cascaderef04_Stands_8, b_cascaderef04_Stands_8, stnF, List.append_nil, Bool.and_true]
theorem stands_k : ∀ (k : Nat) (v : Val), cnt v < k → cnt v ≤ 200 → pk_cascaderef04_Stands k v = some (stn v)
  | 0, v, h, _ => by omega
  | k + 1, ⟨a, b, s, l, f⟩, h, hc => by
    simp only [cnt] at h hc
    have hlen := cntL_len l
    have hfen := cntF_len f
    show p_cascaderef04_Stands_0 (pk_cascaderef04_Stands k) a b s l f = _
    have h2 := stands_2 (pk_cascaderef04_Stands k) a b s l f (fun v hv => stands_k k v (by have := cntL_mem hv; omega) (by have := cntL_mem hv; omega)) (by omega) 0 0 [] [] [] a 0 [] 0 [] _ 0 0 true [] (Nat.le_refl _) (by omega) (by simp)
    have h5 := stands_5 (pk_cascaderef04_Stands k) a b s l f (fun p hp => stands_k k _ (by have := cntF_mem hp; omega) (by have := cntF_mem hp; omega)) (by omega) 0 0 [] [] [] a 0 [] 0 [] _ 0 0 true [] (Nat.le_refl _) (by omega) (by simp)
    rw [Int.natCast_zero, List.drop_zero, List.nil_append, Bool.true_and] at h2 h5
    unfold p_cascaderef04_Stands_0 b_cascaderef04_Stands_0 p_cascaderef04_Stands_1 b_cascaderef04_Stands_1
    simp only [h2, h5, p_cascaderef04_Stands_8, b_cascaderef04_Stands_8, stn]
    have hq : ∀ x, Prims.real.cmp .eql a x = decide (a = x) := fun x => by rw [r_eql]; rfl
    have hn : Prims.real.cmp .neq b 1 = !decide (b = 1) := by rw [r_neq]; rfl
    simp only [hq, hn]
    by_cases e1 : a = 1
    · subst e1
      by_cases hb : b = 1 <;> simp [hb]
    by_cases e2 : a = 2
    · subst e2; simp
    by_cases e3 : a = 3
    · subst e3; simp
    by_cases e4 : a = 4
    · subst e4; simp
    by_cases e5 : a = 5
    · subst e5; simp
    by_cases e6 : a = 9
    · subst e6; simp
    by_cases e7 : a = 10
    · subst e7; simp
    by_cases e8 : a = 11
    · subst e8; simp
    by_cases e9 : a = 12
    · subst e9; simp
    simp [e1, e2, e3, e4, e5, e6, e7, e8, e9]
theorem Stands (v : Val) (hc : cnt v ≤ 200) : p_cascaderef04_Stands v = some (stn v) := stands_k 1000000 v (by omega) hc
/-! ## The two together -/
theorem frL_stn {d : Nat} (ih : ∀ v w, frA d (odds v) = some w → stn v = (w, true)) : ∀ (l : List Val) (l' : List Val), optL (frA d) (oddsL l) = some l' → stnL l = (l', true)
  | [], l', h => by simp only [oddsL, optL, Option.some.injEq] at h; subst h; rfl
  | v :: r, l', h => by
    simp only [oddsL, optL] at h
    cases h1 : frA d (odds v) with
    | none => simp only [h1] at h; cases h
    | some w =>
      cases h2 : optL (frA d) (oddsL r) with
      | none => simp only [h1, h2] at h; cases h
      | some l2 =>
        simp only [h1, h2, Option.some.injEq] at h
        subst h
        simp only [stnL, ih v w h1, frL_stn ih r l2 h2, Bool.and_self]
theorem frF_stn {d : Nat} (ih : ∀ v w, frA d (odds v) = some w → stn v = (w, true)) : ∀ (l l' : List Par), optL (gM (frA d)) (oddsF l) = some l' → stnF l = (l', true)
  | [], l', h => by simp only [oddsF, optL, Option.some.injEq] at h; subst h; rfl
  | ⟨k, v⟩ :: r, l', h => by
    simp only [oddsF, oddsP, optL, gM_mk] at h
    cases h1 : frA d (odds v) with
    | none => simp only [h1] at h; cases h
    | some w =>
      cases h2 : optL (gM (frA d)) (oddsF r) with
      | none => simp only [h1, h2] at h; cases h
      | some l2 =>
        simp only [h1, h2, Option.some.injEq] at h
        subst h
        simp only [stnF, stnP, ih v w h1, frF_stn ih r l2 h2, Bool.and_self]
theorem fr_stn : ∀ (d : Nat) (v w : Val), frA d (odds v) = some w → stn v = (w, true)
  | 0, v, w, h => by simp [frA] at h
  | d + 1, ⟨k, n, s, l, f⟩, w, h => by
    have ih := fr_stn d
    by_cases e4 : k = 4
    · subst e4
      simp only [odds, if_true, frA] at h
      cases h1 : optL (frA d) (oddsL l) with
      | none => simp only [h1] at h; cases h
      | some l' =>
        simp only [h1, Option.some.injEq] at h
        subst h
        simp [stn, frL_stn ih l l' h1]
    by_cases e5 : k = 5
    · subst e5
      simp only [odds, if_true, frA] at h
      rw [if_neg (by decide)] at h
      simp only at h
      cases h1 : optL (gM (frA d)) (oddsF f) with
      | none => simp only [h1] at h; cases h
      | some l' =>
        simp only [h1, Option.some.injEq] at h
        subst h
        simp [stn, frF_stn ih f l' h1]
    by_cases e9 : k = 9
    · subst e9; simp [odds, frA] at h; subst h; simp [stn]
    by_cases e10 : k = 10
    · subst e10; simp [odds, frA] at h
    by_cases e11 : k = 11
    · subst e11; simp [odds, frA, optL] at h; subst h; simp [stn]
    by_cases e12 : k = 12
    · subst e12; simp [odds, frA, optL] at h; subst h; simp [stn]
    by_cases e1 : k = 1
    · subst e1
      simp [odds, tos, frA] at h; subst h
      by_cases hn : n = 1 <;> simp [stn, hn]
    by_cases e2 : k = 2
    · subst e2; simp [odds, tos, frA] at h; subst h; simp [stn]
    by_cases e3 : k = 3
    · subst e3; simp [odds, tos, frA] at h; subst h; simp [stn]
    simp [odds, tos, frA, e1, e2, e3, e4, e5, e9, e10, e11, e12] at h
    subst h
    simp [stn, e1, e2, e3, e4, e5, e9, e10, e11, e12]
theorem stnL_fr {d : Nat} (ih : ∀ v w, stn v = (w, true) → rR d w = true → frA d (odds v) = some w) : ∀ (l l' : List Val), stnL l = (l', true) → l'.all (rR d) = true → optL (frA d) (oddsL l) = some l'
  | [], l', h, _ => by simp only [stnL, Prod.mk.injEq] at h; rw [← h.1]; rfl
  | v :: r, l', h, hr => by
    simp only [stnL, Prod.mk.injEq, Bool.and_eq_true] at h
    obtain ⟨h1, h2, h3⟩ := h
    subst h1
    simp only [List.all_cons, Bool.and_eq_true] at hr
    simp only [oddsL, optL, ih v _ (Prod.ext rfl h2) hr.1, stnL_fr ih r _ (Prod.ext rfl h3) hr.2]
theorem stnF_fr {d : Nat} (ih : ∀ v w, stn v = (w, true) → rR d w = true → frA d (odds v) = some w) : ∀ (l l' : List Par), stnF l = (l', true) → l'.all (fun p => rR d (valOf p)) = true → optL (gM (frA d)) (oddsF l) = some l'
  | [], l', h, _ => by simp only [stnF, Prod.mk.injEq] at h; rw [← h.1]; rfl
  | ⟨k, v⟩ :: r, l', h, hr => by
    simp only [stnF, stnP, Prod.mk.injEq, Bool.and_eq_true] at h
    obtain ⟨h1, h2, h3⟩ := h
    subst h1
    simp only [List.all_cons, Bool.and_eq_true, valOf_mk] at hr
    simp only [oddsF, oddsP, optL, gM_mk, ih v _ (Prod.ext rfl h2) hr.1, stnF_fr ih r _ (Prod.ext rfl h3) hr.2]
theorem stn_fr : ∀ (d : Nat) (v w : Val), stn v = (w, true) → rR d w = true → frA d (odds v) = some w
  | 0, v, w, _, h => by simp [rR] at h
  | d + 1, ⟨k, n, s, l, f⟩, w, h, hr => by
    have ih := stn_fr d
    by_cases e4 : k = 4
    · subst e4
      simp [stn] at h
      obtain ⟨h1, h2⟩ := h
      subst h1
      simp only [rR, Bool.and_eq_true] at hr
      simp only [odds, if_true, frA, stnL_fr ih l _ (Prod.ext rfl h2) hr.1.1.2]
    by_cases e5 : k = 5
    · subst e5
      simp [stn] at h
      obtain ⟨h1, h2⟩ := h
      subst h1
      simp only [rR, Bool.and_eq_true] at hr
      simp only [odds, if_true, frA]
      rw [if_neg (by decide)]
      simp only [stnF_fr ih f _ (Prod.ext rfl h2) hr.2]
    by_cases e9 : k = 9
    · subst e9; simp [stn] at h; subst h; simp [odds, frA]
    by_cases e10 : k = 10
    · subst e10; simp [stn] at h
    by_cases e11 : k = 11
    · subst e11; simp [stn] at h; subst h; simp [odds, frA, optL]
    by_cases e12 : k = 12
    · subst e12; simp [stn] at h; subst h; simp [odds, frA, optL]
    by_cases e1 : k = 1
    · subst e1
      simp [stn] at h; subst h
      by_cases hn : n = 1 <;> simp [odds, tos, frA, hn]
    by_cases e2 : k = 2
    · subst e2; simp [stn] at h; subst h; simp [odds, tos, frA]
    by_cases e3 : k = 3
    · subst e3; simp [stn] at h; subst h; simp [odds, tos, frA]
    simp [stn, e1, e2, e3, e4, e5, e9, e10, e11, e12] at h
    subst h
    simp [odds, tos, frA, e1, e2, e3, e4, e5, e9, e10, e11, e12]
/-- What a value's odd one stands for, and the error. -/
def fromV (v : Val) : Val × Int := if (stn v).2 = true ∧ rR 12 (stn v).1 = true then ((stn v).1, 0) else (zv, 1)
theorem From_odd (v : Val) (hc : cnt v ≤ 200) (hs : strs v = true) : p_dyn_From (odds v) = some (fromV v) := by
  have hco := cnt_odds v
  obtain ⟨w, b, g1, g2, g3⟩ := from_k 12 1000000 (odds v) (by omega) (by omega) (by omega)
  have g1' : p_dyn_from (odds v) 12 = some (w, b) := g1
  show p_dyn_From_0 (odds v) = _
  unfold p_dyn_From_0 b_dyn_From_0
  obtain ⟨w0, w1, w2, w3, w4⟩ := w
  simp only [g1']
  cases b with
  | false =>
    have h3 := g3 rfl
    simp only [fromV]
    rw [if_neg]
    rintro ⟨h1, h2⟩
    rw [stn_fr 12 v _ (Prod.ext rfl h1) h2] at h3
    cases h3
  | true =>
    have h2 := fr_stn 12 v _ (g2 rfl)
    have hR := tree_Right (stn v).1 (by have := cnt_stn v; omega) (strs_stn v hs)
    rw [h2] at hR
    simp only at hR
    simp only [hR, fromV, h2, true_and]
    cases rR 12 (.mk w0 w1 w2 w3 w4) <;> simp
theorem refFrom (v : Val) (hc : cnt v ≤ 200) (hs : strs v = true) : p_cascaderef04_From v = some (fromV v) := by
  have hS := Stands v hc
  have hR := refRight (stn v).1 (by have := cnt_stn v; omega) (strs_stn v hs)
  obtain ⟨a, b, s, l, f⟩ := v
  show p_cascaderef04_From_0 a b s l f = _
  unfold p_cascaderef04_From_0 b_cascaderef04_From_0 fromV
  simp only [hS]
  generalize stn (.mk a b s l f) = w at hR
  obtain ⟨⟨w0, w1, w2, w3, w4⟩, wb⟩ := w
  simp only at hR
  simp only [hR]
  cases wb with
  | false => simp
  | true => cases rR 12 (.mk w0 w1 w2 w3 w4) <;> simp
theorem refKind (v : Val) (hc : cnt v ≤ 200) : p_cascaderef04_Kind v = some (knd (odds v)) := by
  have hS := Stands v hc
  obtain ⟨k, n, s, l, f⟩ := v
  show p_cascaderef04_Kind_0 k n s l f = _
  unfold p_cascaderef04_Kind_0 b_cascaderef04_Kind_0
  simp only [hS]
  by_cases e10 : k = 10
  · subst e10
    rw [eql_t rfl]
    simp [odds, knd]
  rw [eql_f e10]
  have key : (stn (.mk k n s l f)).1 = .mk (knd (odds (.mk k n s l f))) (stn (.mk k n s l f)).1.2 (stn (.mk k n s l f)).1.3 (stn (.mk k n s l f)).1.4 (stn (.mk k n s l f)).1.5 → True := fun _ => trivial
  by_cases e4 : k = 4
  · subst e4; simp [odds, stn, knd]
  by_cases e5 : k = 5
  · subst e5; simp [odds, stn, knd]
  by_cases e9 : k = 9
  · subst e9; simp [odds, stn, knd]
  by_cases e11 : k = 11
  · subst e11; simp [odds, stn, knd]
  by_cases e12 : k = 12
  · subst e12; simp [odds, stn, knd]
  by_cases e1 : k = 1
  · subst e1; simp [odds, tos, stn, knd]
  by_cases e2 : k = 2
  · subst e2; simp [odds, tos, stn, knd]
  by_cases e3 : k = 3
  · subst e3; simp [odds, tos, stn, knd]
  simp [odds, tos, stn, knd, e1, e2, e3, e4, e5, e9, e10, e11, e12]
/-! ## Right values -/
theorem right_stn : ∀ (d : Nat) (v : Val), rR d v = true → stn v = (v, true) ∧ tos v = odds v
  | 0, v, h => by simp [rR] at h
  | d + 1, ⟨k, n, s, l, f⟩, h => by
    have ih := right_stn d
    simp only [rR, headOk, Bool.and_eq_true, decide_eq_true_eq, List.all_eq_true] at h
    obtain ⟨⟨⟨⟨h0, _⟩, hl⟩, _⟩, hf⟩ := h
    obtain ⟨⟨k1, k2⟩, c2, c3, c4, c5, c6, _, _⟩ := h0
    have hL : ∀ l : List Val, (∀ v ∈ l, rR d v = true) → stnL l = (l, true) ∧ tosL l = oddsL l := by
      intro l
      induction l with
      | nil => intro _; exact ⟨rfl, rfl⟩
      | cons v r ihl =>
        intro hv
        obtain ⟨a1, a2⟩ := ih v (hv v (by simp))
        obtain ⟨b1, b2⟩ := ihl (fun x hx => hv x (by simp [hx]))
        simp [stnL, tosL, oddsL, a1, a2, b1, b2]
    have hF : ∀ l : List Par, (∀ p ∈ l, rR d (valOf p) = true) → stnF l = (l, true) ∧ tosF l = oddsF l := by
      intro l
      induction l with
      | nil => intro _; exact ⟨rfl, rfl⟩
      | cons p r ihl =>
        intro hv
        obtain ⟨kp, v⟩ := p
        obtain ⟨a1, a2⟩ := ih v (hv (.mk kp v) (by simp))
        obtain ⟨b1, b2⟩ := ihl (fun x hx => hv x (by simp [hx]))
        simp [stnF, stnP, tosF, tosP, oddsF, oddsP, a1, a2, b1, b2]
    obtain ⟨l1, l2⟩ := hL l hl
    obtain ⟨f1, f2⟩ := hF f hf
    have nl : ∀ {x : List Val}, x.length = 0 → x = [] := fun h => List.length_eq_zero_iff.1 h
    have nf : ∀ {x : List Par}, x.length = 0 → x = [] := fun h => List.length_eq_zero_iff.1 h
    by_cases e4 : k = 4
    · subst e4
      have : n = 0 := by omega
      subst this
      have : s = [] := c3.resolve_left (by omega)
      subst this
      have := nf (c5.resolve_left (by omega))
      subst this
      simp [stn, tos, odds, l1, l2]
    have : l = [] := nl (c4.resolve_left e4)
    subst this
    by_cases e5 : k = 5
    · subst e5
      have : n = 0 := by omega
      subst this
      have : s = [] := c3.resolve_left (by omega)
      subst this
      simp [stn, tos, odds, f1, f2]
    have : f = [] := nf (c5.resolve_left e5)
    subst this
    by_cases e3 : k = 3
    · subst e3
      have : n = 0 := by omega
      subst this
      simp [stn, tos, odds]
    have : s = [] := c3.resolve_left e3
    subst this
    by_cases e1 : k = 1
    · subst e1
      rcases c6 with h | h | h
      · exact absurd rfl h
      · subst h; simp [stn, tos, odds]
      · subst h; simp [stn, tos, odds]
    by_cases e2 : k = 2
    · subst e2; simp [stn, tos, odds]
    have : k = 0 := by omega
    subst this
    have : n = 0 := by omega
    subst this
    simp [stn, tos, odds]
theorem awake04 : p_cascadelaw04_awake = some true := by
  unfold p_cascadelaw04_awake p_cascadelaw04_awake_0 b_cascadelaw04_awake_0
  simp only [dyn_Kind, knd]
  rw [eql_t rfl]
  rfl
theorem cnt_from (v : Val) : cnt (fromV v).1 ≤ cnt v := by
  unfold fromV
  split
  · exact cnt_stn v
  · have := cnt_pos v
    simp [cnt, cntL, cntF]; omega
end Go.Abs.T
