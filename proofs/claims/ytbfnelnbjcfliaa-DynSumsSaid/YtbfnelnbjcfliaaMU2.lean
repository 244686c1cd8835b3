import Derived.Test.YtbfnelnbjcfliaaMU1
/-! Sums: the program's, which gives up by a panic, and the reference's. -/
set_option linter.unusedVariables false
set_option linter.unusedSimpArgs false
namespace Go.Abs.T
open M
mutual
def sumS : Val → Int × Int
  | .mk k n s l f => if k = 2 then (if n > 9007199254740991 then (0, 6) else if n < -9007199254740991 then (0, 6) else (n, 0)) else if k = 11 then (0, 0) else if k = 4 then sumL 0 l else (0, 1)
def sumL : Int → List Val → Int × Int
  | a, [] => (a, 0)
  | a, v :: r => if (sumS v).2 = 0 then (if a + (sumS v).1 > 9007199254740991 then (0, 6) else if a + (sumS v).1 < -9007199254740991 then (0, 6) else sumL (a + (sumS v).1) r) else (0, (sumS v).2)
end
def Okk (r : Int × Int) : Prop := r.2 = 0 ∧ -9007199254740991 ≤ r.1 ∧ r.1 ≤ 9007199254740991 ∨ r = (0, 6) ∨ r = (0, 1)
mutual
theorem sumS_ok : ∀ v : Val, Okk (sumS v)
  | .mk k n s l f => by
    rw [sumS]
    split
    · split
      · exact .inr (.inl rfl)
      · split
        · exact .inr (.inl rfl)
        · exact .inl ⟨rfl, by show -9007199254740991 ≤ n; omega, by show n ≤ 9007199254740991; omega⟩
    · split
      · exact .inl ⟨rfl, by decide, by decide⟩
      · split
        · exact sumL_ok l 0 (by decide) (by decide)
        · exact .inr (.inr rfl)
theorem sumL_ok : ∀ (l : List Val) (a : Int), -9007199254740991 ≤ a → a ≤ 9007199254740991 → Okk (sumL a l)
  | [], a, h1, h2 => by rw [sumL]; exact .inl ⟨rfl, h1, h2⟩
  | v :: r, a, h1, h2 => by
    have hv := sumS_ok v
    rw [sumL]
    split
    · split
      · exact .inr (.inl rfl)
      · split
        · exact .inr (.inl rfl)
        · exact sumL_ok r _ (by omega) (by omega)
    · rename_i h
      rcases hv with hv | hv | hv
      · exact absurd hv.1 h
      · rw [hv]; exact .inr (.inl rfl)
      · rw [hv]; exact .inr (.inr rfl)
end
/-- What the program makes of it: a number, or what it gives up with. -/
def toP (r : Int × Int) : Any ⊕ Int := if r.2 = 0 then .inr r.1 else if r.2 = 6 then .inl .c52 else .inl .c15
theorem within (n : Int) : p_dyn_within n = some (if n > 9007199254740991 then .inl .c52 else if n < -9007199254740991 then .inl .c52 else .inr n) := by
  show p_dyn_within_0 n = _
  unfold p_dyn_within_0 b_dyn_within_0
  dsimp only
  by_cases h : n < -9007199254740991
  · rw [lss_t h]
    simp only [if_neg (show ¬ n > 9007199254740991 by omega), if_pos h]
  · rw [lss_f (by omega)]
    by_cases h2 : n > 9007199254740991
    · rw [gtr_t h2]
      simp only [if_pos h2]
    · rw [gtr_f (by omega)]
      simp only [if_neg h2, if_neg h]
theorem sum_2 (c : Any → Option (Any ⊕ Int)) (l : List Val) (hc : ∀ v ∈ l, c (odds v) = some (toP (sumS v))) (hl : l.length ≤ 1000) : ∀ (m i : Nat) (a : Int), l.length - i ≤ m → i ≤ l.length → -9007199254740991 ≤ a → a ≤ 9007199254740991 →
    p_dyn_sum_2 c (a, oddsL l, (l.length : Int), (i : Int)) = some (toP (sumL a (l.drop i)))
  | m, i, a, hm, hi, h1, h2 => by
    rw [u_dyn_sum_2]
    unfold b_dyn_sum_2
    dsimp only
    by_cases h : i < l.length
    · have hx := hc _ (List.getElem_mem h)
      have hg : (oddsL l)[i]? = some (odds l[i]) := by rw [oddsL_map, List.getElem?_map, List.getElem?_eq_getElem h]; rfl
      rw [lss_t (by omega), r_idx hg, List.drop_eq_getElem_cons h, sumL]
      simp only [hx]
      have hok := sumS_ok l[i]
      rcases hok with ⟨o1, o2, o3⟩ | o | o
      · simp only [toP, o1, if_true]
        rw [r_add (by unfold fit64; omega), within]
        by_cases g1 : a + (sumS l[i]).1 > 9007199254740991
        · simp only [if_pos g1]; rfl
        · simp only [if_neg g1]
          by_cases g2 : a + (sumS l[i]).1 < -9007199254740991
          · simp only [if_pos g2]; rfl
          · simp only [if_neg g2]
            rw [r_add (by unfold fit64; omega)]
            cases m with
            | zero => omega
            | succ m =>
              rw [show ((i : Int) + 1) = ((i + 1 : Nat) : Int) by omega]
              exact sum_2 c l hc hl m (i + 1) _ (by omega) (by omega) (by omega) (by omega)
      · rw [o]; rfl
      · rw [o]; rfl
    · rw [lss_f (by omega), List.drop_eq_nil_of_le (by omega), sumL]
      rfl
theorem sum_k : ∀ (k : Nat) (v : Val), cnt v < k → cnt v ≤ 200 → pk_dyn_sum k (odds v) = some (toP (sumS v))
  | 0, v, h, _ => by omega
  | k + 1, ⟨a, b, s, l, f⟩, h, hc => by
    simp only [cnt] at h hc
    have hlen := cntL_len l
    show p_dyn_sum_0 (pk_dyn_sum k) (odds (.mk a b s l f)) = _
    have h2 := sum_2 (pk_dyn_sum k) l (fun v hv => sum_k k v (by have := cntL_mem hv; omega) (by have := cntL_mem hv; omega)) (by omega) _ 0 0 (Nat.le_refl _) (by omega) (by decide) (by decide)
    rw [Int.natCast_zero, List.drop_zero] at h2
    have hol : (oddsL l).length = l.length := by rw [oddsL_map, List.length_map]
    have z1 : p_dyn_sum_1 (pk_dyn_sum k) () = some (.inl .c15) := rfl
    rw [odds, sumS]
    by_cases e4 : a = 4
    · subst e4
      rw [if_pos rfl, if_neg (by decide), if_neg (by decide), if_pos rfl]
      show p_dyn_sum_2 (pk_dyn_sum k) (0, oddsL l, Prims.real.len (oddsL l), 0) = _
      rw [r_len, hol]; exact h2
    rw [if_neg e4]
    by_cases e2 : a = 2
    · subst e2
      rw [if_neg (by decide), if_neg (by decide), if_neg (by decide), if_neg (by decide), if_neg (by decide), if_pos rfl]
      have e : tos (.mk 2 b s l f) = .c2 b := by rw [tos]; rw [if_neg (by decide), if_pos rfl]
      rw [e]
      show (match p_dyn_within b with | none => none | some (.inl x) => some (.inl x) | some (.inr r) => some (.inr r) : Option (Any ⊕ Int)) = _
      rw [within]
      by_cases g1 : b > 9007199254740991
      · simp only [if_pos g1]; rfl
      · simp only [if_neg g1]
        by_cases g2 : b < -9007199254740991
        · simp only [if_pos g2]; rfl
        · simp only [if_neg g2]; rfl
    rw [if_neg e2]
    by_cases e11 : a = 11
    · subst e11
      rw [if_neg (by decide), if_neg (by decide), if_neg (by decide), if_pos rfl, if_pos rfl]
      show p_dyn_sum_2 (pk_dyn_sum k) (0, [], Prims.real.len ([] : List Any), 0) = _
      rw [u_dyn_sum_2]
      rfl
    rw [if_neg e11, if_neg e11, if_neg e4]
    show _ = some (.inl .c15 : Any ⊕ Int)
    by_cases e5 : a = 5
    · rw [if_pos e5]; rfl
    rw [if_neg e5]
    by_cases e9 : a = 9
    · rw [if_pos e9]; rfl
    rw [if_neg e9]
    by_cases e10 : a = 10
    · rw [if_pos e10]; rfl
    rw [if_neg e10]
    by_cases e12 : a = 12
    · rw [if_pos e12]; rfl
    rw [if_neg e12, tos]
    by_cases e1 : a = 1
    · rw [if_pos e1]; rfl
    rw [if_neg e1, if_neg e2]
    by_cases e3 : a = 3
    · rw [if_pos e3]; rfl
    rw [if_neg e3, if_neg e4, if_neg e5]; rfl
theorem Sum_odd (v : Val) (hc : cnt v ≤ 200) : p_dyn_Sum (odds v) = some (sumS v) := by
  show p_dyn_Sum_0 (odds v) = _
  unfold p_dyn_Sum_0 b_dyn_Sum_0
  dsimp only
  have h : p_dyn_sum (odds v) = some (toP (sumS v)) := sum_k 1000000 v (by omega) hc
  rw [h]
  rcases sumS_ok v with ⟨o1, o2, o3⟩ | o | o
  · simp only [toP, o1, if_true]
    have e : p_dyn_Sum_1_h__0 .n 0 (sumS v).1 = some (0, (sumS v).1) := rfl
    simp only [e]
    rw [← o1]
  · rw [o]; rfl
  · rw [o]; rfl
/-! ## The reference's -/
theorem ref_5 (c : Val → Option (Int × Int)) (x0 x1 : Int) (x2 : Str) (l : List Val) (x4 : List Par) (hc : ∀ v ∈ l, c v = some (sumS v)) (hl : l.length ≤ 1000) : ∀ (m i : Nat) (a : Int), l.length - i ≤ m → i ≤ l.length → -9007199254740991 ≤ a → a ≤ 9007199254740991 →
    p_cascaderef04_Sum_5 c (x0, x1, x2, l, x4, 9007199254740991, a, (i : Int)) = some (sumL a (l.drop i))
  | m, i, a, hm, hi, h1, h2 => by
    rw [u_cascaderef04_Sum_5]
    unfold b_cascaderef04_Sum_5
    dsimp only
    rw [r_len]
    by_cases h : i < l.length
    · have hx := hc _ (List.getElem_mem h)
      rw [lss_t (by omega), r_idx (List.getElem?_eq_getElem h), List.drop_eq_getElem_cons h, sumL]
      have hok := sumS_ok l[i]
      generalize l[i] = y at hx hok
      obtain ⟨y0, y1, y2, y3, y4⟩ := y
      simp only [hx]
      generalize sumS (.mk y0 y1 y2 y3 y4) = r at hok
      obtain ⟨r1, r2⟩ := r
      rcases hok with ⟨o1, o2, o3⟩ | o | o
      · simp only at o1 o2 o3
        subst o1
        rw [neq_f rfl]
        simp only [if_true]
        rw [r_add (by unfold fit64; omega)]
        by_cases g1 : a + r1 > 9007199254740991
        · rw [gtr_t g1, if_pos g1]
        · rw [gtr_f (by omega), if_neg g1]
          simp only
          rw [r_sub64 (by unfold fit64; omega), Int.zero_sub]
          by_cases g2 : a + r1 < -9007199254740991
          · rw [lss_t g2, if_pos g2]
          · rw [lss_f (by omega), if_neg g2]
            simp only
            rw [r_add (by unfold fit64; omega)]
            cases m with
            | zero => omega
            | succ m =>
              rw [show ((i : Int) + 1) = ((i + 1 : Nat) : Int) by omega]
              exact ref_5 c x0 x1 x2 l x4 hc hl m (i + 1) _ (by omega) (by omega) (by omega) (by omega)
      · cases o; rfl
      · cases o; rfl
    · rw [lss_f (by omega), List.drop_eq_nil_of_le (by omega), sumL]
theorem ref_k : ∀ (k : Nat) (v : Val), cnt v < k → cnt v ≤ 200 → pk_cascaderef04_Sum k v = some (sumS v)
  | 0, v, h, _ => by omega
  | k + 1, ⟨a, b, s, l, f⟩, h, hc => by
    simp only [cnt] at h hc
    have hlen := cntL_len l
    show p_cascaderef04_Sum_0 (pk_cascaderef04_Sum k) (a, b, s, l, f) = _
    unfold p_cascaderef04_Sum_0 b_cascaderef04_Sum_0
    dsimp only
    have h2 := ref_5 (pk_cascaderef04_Sum k) a b s l f (fun v hv => ref_k k v (by have := cntL_mem hv; omega) (by have := cntL_mem hv; omega)) (by omega) _ 0 0 (Nat.le_refl _) (by omega) (by decide) (by decide)
    rw [Int.natCast_zero, List.drop_zero] at h2
    rw [sumS]
    by_cases e2 : a = 2
    · rw [eql_t e2, if_pos e2]
      simp only
      by_cases g1 : b > 9007199254740991
      · rw [gtr_t g1, if_pos g1]
      · rw [gtr_f (by omega), if_neg g1]
        simp only
        rw [r_sub64 (by unfold fit64; omega), Int.zero_sub]
        by_cases g2 : b < -9007199254740991
        · rw [lss_t g2, if_pos g2]
        · rw [lss_f (by omega), if_neg g2]
    · rw [eql_f e2, if_neg e2]
      simp only
      by_cases e11 : a = 11
      · rw [eql_t e11, if_pos e11]
      · rw [eql_f e11, if_neg e11]
        simp only
        by_cases e4 : a = 4
        · rw [neq_f e4, if_pos e4]; exact h2
        · rw [neq_t e4, if_neg e4]
theorem ref_Sum (v : Val) (hc : cnt v ≤ 200) : p_cascaderef04_Sum v = some (sumS v) := ref_k 1000000 v (by omega) hc
theorem awake04 : p_cascadelaw04_awake = some true := by
  show p_cascadelaw04_awake_0 () = _
  unfold p_cascadelaw04_awake_0 b_cascadelaw04_awake_0
  have h1 : p_dyn_Kind (.c9 [97]) = some 3 := rfl
  have h2 : p_dyn_Kind (.c4 true) = some 1 := rfl
  simp only [h1, h2]
  rw [eql_t rfl, eql_t rfl]
theorem DynSums (v : Val) : p_cascadelaw04_DynSums v = some true := by
  rcases Few v 60 (by omega) with h | ⟨h, hc, hs⟩
  · obtain ⟨a, b, s, l, f⟩ := v
    show p_cascadelaw04_DynSums_0 (a, b, s, l, f) = _
    unfold p_cascadelaw04_DynSums_0 b_cascadelaw04_DynSums_0
    dsimp only
    rw [show ((60 : Nat) : Int) = 60 from rfl] at h
    simp only [awake04, h]
  have h1 := dyn_Odd v (by omega)
  have h2 := Sum_odd v (by omega)
  have h3 := ref_Sum v (by omega)
  obtain ⟨a, b, s, l, f⟩ := v
  show p_cascadelaw04_DynSums_0 (a, b, s, l, f) = _
  unfold p_cascadelaw04_DynSums_0 b_cascadelaw04_DynSums_0
  dsimp only
  rw [show ((60 : Nat) : Int) = 60 from rfl] at h
  simp only [awake04, h, h1, h2, h3]
  rw [eql_t rfl, eql_t rfl]
end Go.Abs.T
