import Derived.Test.YtbfnelnbjcfliaaMU1
/-! A list's strings: the program's, which gives up by a panic, and the reference's. -/
set_option linter.unusedVariables false
set_option linter.unusedSimpArgs false
namespace Go.Abs.T
open M
def strOf : Val → Option Str | .mk k _ s _ _ => if k = 3 then some s else none
def txt : Any → Option Str | .c9 s => some s | _ => none
def strsO : List Val → Option (List Str)
  | [] => some []
  | v :: r => match strOf v with
    | some s => match strsO r with
      | some l => some (s :: l)
      | none => none
    | none => none
theorem txt_odds : ∀ v : Val, txt (odds v) = strOf v
  | .mk k n s l f => by
    rw [odds, strOf]
    by_cases e3 : k = 3
    · subst e3
      rw [if_neg (by decide), if_neg (by decide), if_neg (by decide), if_neg (by decide), if_neg (by decide), if_neg (by decide), tos, if_neg (by decide), if_neg (by decide), if_pos rfl, if_pos rfl]
      rfl
    rw [if_neg e3]
    by_cases e4 : k = 4
    · rw [if_pos e4]; rfl
    rw [if_neg e4]
    by_cases e5 : k = 5
    · rw [if_pos e5]; rfl
    rw [if_neg e5]
    by_cases e9 : k = 9
    · rw [if_pos e9]; rfl
    rw [if_neg e9]
    by_cases e10 : k = 10
    · rw [if_pos e10]; rfl
    rw [if_neg e10]
    by_cases e11 : k = 11
    · rw [if_pos e11]; rfl
    rw [if_neg e11]
    by_cases e12 : k = 12
    · rw [if_pos e12]; rfl
    rw [if_neg e12, tos]
    by_cases e1 : k = 1
    · rw [if_pos e1]; rfl
    rw [if_neg e1]
    by_cases e2 : k = 2
    · rw [if_pos e2]; rfl
    rw [if_neg e2, if_neg e3, if_neg e4, if_neg e5]; rfl
def toT (acc : List Str) : Option (List Str) → List Str × Int
  | some ss => (acc ++ ss, 0)
  | none => ([], 1)
theorem Texts_1 (l : List Val) (hl : l.length ≤ 1000) : ∀ (m i g : Nat) (acc : List Str), l.length - i ≤ m → i ≤ l.length → acc.length ≤ i →
    p_dyn_Texts_1 (oddsL l, (l.length : Int), (i : Int), g, acc, 0) = some (toT acc (strsO (l.drop i)))
  | m, i, g, acc, hm, hi, ha => by
    rw [u_dyn_Texts_1]
    unfold b_dyn_Texts_1
    dsimp only
    have hb : ∀ (e : Int) (o : List Str), p_dyn_Texts_1_h__0 .c15 e o = some (1, []) := fun _ _ => rfl
    have hn : p_dyn_Texts_1_h__0 .n 0 acc = some (0, acc) := rfl
    by_cases h : i < l.length
    · have hg : (oddsL l)[i]? = some (odds l[i]) := by rw [oddsL_map, List.getElem?_map, List.getElem?_eq_getElem h]; rfl
      have ht := txt_odds l[i]
      rw [lss_t (by omega), r_idx hg, List.drop_eq_getElem_cons h, strsO]
      generalize odds l[i] = y at ht
      rw [← ht]
      cases y with
      | c9 s =>
        simp only [txt]
        rw [M.r_app (by simp [room]; omega) (by simp [room]; omega)]
        simp only
        rw [r_add (by unfold fit64; omega)]
        cases m with
        | zero => omega
        | succ m =>
          rw [show ((i : Int) + 1) = ((i + 1 : Nat) : Int) by omega, Texts_1 l hl m (i + 1) _ _ (by omega) (by omega) (by simp; omega)]
          cases strsO (l.drop (i + 1)) with
          | none => rfl
          | some ss => simp [toT]
      | _ => simp only [hb, txt]; rfl
    · rw [lss_f (by omega), List.drop_eq_nil_of_le (by omega)]
      simp only [hn, strsO, toT, List.append_nil]
theorem Texts_odd (a b : Int) (s : Str) (l : List Val) (f : List Par) (hl : l.length ≤ 1000) : p_dyn_Texts (odds (.mk a b s l f)) = some (if a = 4 then toT [] (strsO l) else if a = 11 then ([], 0) else ([], 1)) := by
  show p_dyn_Texts_0 (odds (.mk a b s l f)) = _
  have h1 := Texts_1 l hl _ 0 0 [] (Nat.le_refl _) (by omega) (by simp)
  rw [Int.natCast_zero, List.drop_zero] at h1
  have hol : (oddsL l).length = l.length := by rw [oddsL_map, List.length_map]
  rw [odds]
  by_cases e4 : a = 4
  · rw [if_pos e4, if_pos e4]
    show p_dyn_Texts_1 (oddsL l, Prims.real.len (oddsL l), 0, 0, [], 0) = _
    rw [r_len, hol]; exact h1
  rw [if_neg e4, if_neg e4]
  by_cases e11 : a = 11
  · subst e11
    rw [if_neg (by decide), if_neg (by decide), if_neg (by decide), if_pos rfl, if_pos rfl]
    show p_dyn_Texts_1 ([], Prims.real.len ([] : List Any), 0, 0, [], 0) = _
    rw [u_dyn_Texts_1]
    rfl
  rw [if_neg e11, if_neg e11]
  by_cases e5 : a = 5
  · rw [if_pos e5]; rfl
  rw [if_neg e5]
  by_cases e9 : a = 9
  · rw [if_pos e9]; rfl
  rw [if_neg e9]
  by_cases e10 : a = 10
  · rw [if_pos e10]; rfl
  rw [if_neg e10]
  by_cases e12 : a = 12
  · rw [if_pos e12]; rfl
  rw [if_neg e12, tos]
  by_cases e1 : a = 1
  · rw [if_pos e1]; rfl
  rw [if_neg e1]
  by_cases e2 : a = 2
  · rw [if_pos e2]; rfl
  rw [if_neg e2]
  by_cases e3 : a = 3
  · rw [if_pos e3]; rfl
  rw [if_neg e3, if_neg e4, if_neg e5]; rfl
/-! ## The reference's -/
def toR (acc : List Str) : Option (List Str) → List Str × Bool
  | some ss => (acc ++ ss, true)
  | none => ([], false)
theorem ref_3 (x0 x1 : Int) (x2 : Str) (l : List Val) (x4 : List Par) (hl : l.length ≤ 1000) : ∀ (m i g : Nat) (acc : List Str), l.length - i ≤ m → i ≤ l.length → acc.length ≤ i →
    p_cascaderef04_Texts_3 (x0, x1, x2, l, x4, g, acc, (i : Int)) = some (toR acc (strsO (l.drop i)))
  | m, i, g, acc, hm, hi, ha => by
    rw [u_cascaderef04_Texts_3]
    unfold b_cascaderef04_Texts_3
    dsimp only
    rw [r_len]
    by_cases h : i < l.length
    · rw [lss_t (by omega), r_idx (List.getElem?_eq_getElem h), List.drop_eq_getElem_cons h, strsO]
      generalize l[i] = y
      obtain ⟨y0, y1, y2, y3, y4⟩ := y
      simp only [strOf]
      by_cases e : y0 = 3
      · rw [neq_f e, if_pos e]
        simp only
        rw [M.r_app (by simp [room]; omega) (by simp [room]; omega)]
        simp only
        rw [r_add (by unfold fit64; omega)]
        cases m with
        | zero => omega
        | succ m =>
          rw [show ((i : Int) + 1) = ((i + 1 : Nat) : Int) by omega, ref_3 x0 x1 x2 l x4 hl m (i + 1) _ _ (by omega) (by omega) (by simp; omega)]
          cases strsO (l.drop (i + 1)) with
          | none => rfl
          | some ss => simp [toR]
      · rw [neq_t e, if_neg e]
        rfl
    · rw [lss_f (by omega), List.drop_eq_nil_of_le (by omega)]
      simp only [strsO, toR, List.append_nil]
theorem ref_Texts (a b : Int) (s : Str) (l : List Val) (f : List Par) (hl : l.length ≤ 1000) : p_cascaderef04_Texts (.mk a b s l f) = some (if a = 4 then toR [] (strsO l) else if a = 11 then ([], true) else ([], false)) := by
  show p_cascaderef04_Texts_0 (a, b, s, l, f) = _
  unfold p_cascaderef04_Texts_0 b_cascaderef04_Texts_0
  dsimp only
  have h3 := ref_3 a b s l f hl _ 0 0 [] (Nat.le_refl _) (by omega) (by simp)
  rw [Int.natCast_zero, List.drop_zero] at h3
  have h1 : p_cascaderef04_Texts_1 (a, b, s, l, f, 0, []) = (match Prims.real.cmp .eql a 11 with | false => p_cascaderef04_Texts_3 (a, b, s, l, f, 0, [], 0) | true => some ([], true)) := rfl
  rw [h1, h3]
  by_cases e4 : a = 4
  · subst e4
    rw [neq_f rfl, if_pos rfl]
    rfl
  rw [neq_t e4, if_neg e4]
  simp only
  by_cases e11 : a = 11
  · rw [neq_f e11, if_pos e11]
    simp only
    rw [eql_t e11]
  · rw [neq_t e11, if_neg e11]
theorem awake04 : p_cascadelaw04_awake = some true := by
  show p_cascadelaw04_awake_0 () = _
  unfold p_cascadelaw04_awake_0 b_cascadelaw04_awake_0
  have h1 : p_dyn_Kind (.c9 [97]) = some 3 := rfl
  have h2 : p_dyn_Kind (.c4 true) = some 1 := rfl
  simp only [h1, h2]
  rw [eql_t rfl, eql_t rfl]
theorem eq_3 (l : List Str) (hl : l.length ≤ 1000) : ∀ (m i : Nat), l.length - i ≤ m → i ≤ l.length → p_cascadelaw04_DynTexts_3 (l, l, (i : Int)) = some true
  | m, i, hm, hi => by
    rw [u_cascadelaw04_DynTexts_3]
    unfold b_cascadelaw04_DynTexts_3
    dsimp only
    rw [r_len]
    by_cases h : i < l.length
    · rw [lss_t (by omega), r_idx (List.getElem?_eq_getElem h)]
      simp only
      rw [seq_t rfl]
      simp only
      rw [r_add (by unfold fit64; omega)]
      cases m with
      | zero => omega
      | succ m => rw [show ((i : Int) + 1) = ((i + 1 : Nat) : Int) by omega]; exact eq_3 l hl m (i + 1) (by omega) (by omega)
    · rw [lss_f (by omega)]
theorem strsO_len : ∀ {l : List Val} {ss : List Str}, strsO l = some ss → ss.length = l.length
  | [], ss, h => by cases h; rfl
  | v :: r, ss, h => by
    simp only [strsO] at h
    split at h <;> try (cases h; done)
    split at h <;> try (cases h; done)
    rename_i h2
    cases h
    rw [List.length_cons, List.length_cons, strsO_len h2]
theorem DynTexts (v : Val) : p_cascadelaw04_DynTexts v = some true := by
  rcases Few v 60 (by omega) with h | ⟨h, hc, hs⟩
  · obtain ⟨a, b, s, l, f⟩ := v
    show p_cascadelaw04_DynTexts_0 (a, b, s, l, f) = _
    unfold p_cascadelaw04_DynTexts_0 b_cascadelaw04_DynTexts_0
    dsimp only
    rw [show ((60 : Nat) : Int) = 60 from rfl] at h
    simp only [awake04, h]
  have h1 := dyn_Odd v (by omega)
  obtain ⟨a, b, s, l, f⟩ := v
  have hlen : l.length ≤ 1000 := by
    have := cntL_len l
    simp only [cnt] at hc
    omega
  have h2 := Texts_odd a b s l f hlen
  have h3 := ref_Texts a b s l f hlen
  show p_cascadelaw04_DynTexts_0 (a, b, s, l, f) = _
  unfold p_cascadelaw04_DynTexts_0 b_cascadelaw04_DynTexts_0
  dsimp only
  rw [show ((60 : Nat) : Int) = 60 from rfl] at h
  simp only [awake04, h, h1, h2, h3]
  have fin : ∀ ss : List Str, ss.length ≤ 1000 → p_cascadelaw04_DynTexts_2 (ss, ss) = some true := fun ss hss => by
    show p_cascadelaw04_DynTexts_3 (ss, ss, 0) = _
    exact eq_3 ss hss _ 0 (Nat.le_refl _) (by omega)
  have good : ∀ ss : List Str, ss.length ≤ 1000 → (match Prims.real.cmp .eql (0 : Int) 1 with
      | false => (match Prims.real.cmp .neq (Prims.real.len ss) (Prims.real.len ss) with | false => p_cascadelaw04_DynTexts_2 (ss, ss) | true => some false)
      | true => some false) = some true := fun ss hss => by
    rw [eql_f (by decide)]
    simp only
    rw [neq_f rfl]
    exact fin ss hss
  have bad : (match Prims.real.cmp .eql (1 : Int) 1 with
      | false => some false
      | true => (match Prims.real.cmp .neq (Prims.real.len ([] : List Str)) (Prims.real.len ([] : List Str)) with | false => p_cascadelaw04_DynTexts_2 ([], []) | true => some false)) = some true := by
    rw [eql_t rfl]
    simp only
    rw [neq_f rfl]
    exact fin [] (by simp)
  by_cases e4 : a = 4
  · simp only [if_pos e4]
    cases hq : strsO l with
    | some ss =>
      simp only [toT, toR, List.nil_append]
      rw [eql_t rfl]
      exact good ss (by rw [strsO_len hq]; exact hlen)
    | none =>
      simp only [toT, toR]
      rw [show Prims.real.cmp .eql (1 : Int) 0 = false from eql_f (by decide)]
      exact bad
  · simp only [if_neg e4]
    by_cases e11 : a = 11
    · simp only [if_pos e11]
      rw [eql_t rfl]
      exact good [] (by simp)
    · simp only [if_neg e11]
      rw [show Prims.real.cmp .eql (1 : Int) 0 = false from eql_f (by decide)]
      exact bad
end Go.Abs.T
