import Derived.Test.YtbfnelnbjcfliaaMT2
/-! Loose values: what stands for a value; odd ones. -/
set_option linter.unusedVariables false
set_option linter.unusedSimpArgs false
namespace Go.Abs.T
open M
abbrev Any := S_any
abbrev Mem := S_dyn_Member
mutual
def tos : Val → Any
  | .mk k n s l f => if k = 1 then .c4 (decide (n = 1)) else if k = 2 then .c2 n else if k = 3 then .c9 s else if k = 4 then .c42 (tosL l) else if k = 5 then .c44 (tosF f) else .n
def tosP : Par → Mem
  | .mk k v => .mk k (tos v)
def tosL : List Val → List Any
  | [] => []
  | v :: r => tos v :: tosL r
def tosF : List Par → List Mem
  | [] => []
  | p :: r => tosP p :: tosF r
end
mutual
def odds : Val → Any
  | .mk k n s l f => if k = 4 then .c42 (oddsL l) else if k = 5 then .c44 (oddsF f) else if k = 9 then .c3 n else if k = 10 then .c49 else if k = 11 then .c42 [] else if k = 12 then .c44 [] else tos (.mk k n s l f)
def oddsP : Par → Mem
  | .mk k v => .mk k (odds v)
def oddsL : List Val → List Any
  | [] => []
  | v :: r => odds v :: oddsL r
def oddsF : List Par → List Mem
  | [] => []
  | p :: r => oddsP p :: oddsF r
end
theorem keyOf_mk (k : Str) (v : Val) : keyOf (.mk k v) = k := rfl
theorem valOf_mk (k : Str) (v : Val) : valOf (.mk k v) = v := rfl
theorem tosL_map : ∀ l, tosL l = l.map tos
  | [] => rfl
  | v :: r => by simp only [tosL, List.map_cons, tosL_map r]
theorem tosF_map : ∀ l, tosF l = l.map tosP
  | [] => rfl
  | v :: r => by simp only [tosF, List.map_cons, tosF_map r]
theorem oddsL_map : ∀ l, oddsL l = l.map odds
  | [] => rfl
  | v :: r => by simp only [oddsL, List.map_cons, oddsL_map r]
theorem oddsF_map : ∀ l, oddsF l = l.map oddsP
  | [] => rfl
  | v :: r => by simp only [oddsF, List.map_cons, oddsF_map r]
/-! ## The walk: to, Odd -/
theorem to_1 (c : Val → Option Any) (g : Val → Any) (l : List Val) (hc : ∀ v ∈ l, c v = some (g v)) (hl : l.length ≤ 1000) : ∀ (m i q : Nat) (acc : List Any), l.length - i ≤ m → i ≤ l.length → acc.length ≤ i →
    p_dyn_to_1 c (q, acc, l, (l.length : Int), (i : Int)) = some (.c42 (acc ++ (l.drop i).map g))
  | m, i, q, acc, hm, hi, ha => by
    rw [u_dyn_to_1]
    unfold b_dyn_to_1
    dsimp only
    by_cases h : i < l.length
    · have hx := hc _ (List.getElem_mem h)
      rw [lss_t (by omega), r_idx (List.getElem?_eq_getElem h), List.drop_eq_getElem_cons h]
      generalize l[i] = y at hx
      obtain ⟨y0, y1, y2, y3, y4⟩ := y
      simp only [hx]
      rw [M.r_app (by simp [room]; omega) (by simp [room]; omega)]
      simp only
      rw [r_add (by unfold fit64; omega)]
      cases m with
      | zero => omega
      | succ m =>
        rw [show ((i : Int) + 1) = ((i + 1 : Nat) : Int) by omega, to_1 c g l hc hl m (i + 1) _ _ (by omega) (by omega) (by simp; omega)]
        simp
    · rw [lss_f (by omega), List.drop_eq_nil_of_le (by omega)]
      simp
theorem to_5 (c : Val → Option Any) (g : Val → Any) (f : List Par) (hc : ∀ p ∈ f, c (valOf p) = some (g (valOf p))) (hl : f.length ≤ 1000) : ∀ (m i q : Nat) (acc : List Mem), f.length - i ≤ m → i ≤ f.length → acc.length ≤ i →
    p_dyn_to_5 c (q, acc, f, (f.length : Int), (i : Int)) = some (.c44 (acc ++ (f.drop i).map fun p => .mk (keyOf p) (g (valOf p))))
  | m, i, q, acc, hm, hi, ha => by
    rw [u_dyn_to_5]
    unfold b_dyn_to_5
    dsimp only
    by_cases h : i < f.length
    · have hx := hc _ (List.getElem_mem h)
      rw [lss_t (by omega), r_idx (List.getElem?_eq_getElem h), List.drop_eq_getElem_cons h]
      generalize f[i] = y at hx
      obtain ⟨ky, ⟨y0, y1, y2, y3, y4⟩⟩ := y
      simp only [valOf_mk] at hx
      simp only [hx]
      rw [M.r_app (by simp [room]; omega) (by simp [room]; omega)]
      simp only
      rw [r_add (by unfold fit64; omega)]
      cases m with
      | zero => omega
      | succ m =>
        rw [show ((i : Int) + 1) = ((i + 1 : Nat) : Int) by omega, to_5 c g f hc hl m (i + 1) _ _ (by omega) (by omega) (by simp; omega)]
        simp [keyOf_mk, valOf_mk]
    · rw [lss_f (by omega), List.drop_eq_nil_of_le (by omega)]
      simp
theorem odd_1 : @p_dyn_Odd_1 = @p_dyn_to_1 := rfl
theorem odd_5 : @p_dyn_Odd_5 = @p_dyn_to_5 := rfl
theorem tosP_eq : tosP = fun p => .mk (keyOf p) (tos (valOf p)) := by funext p; cases p; rfl
theorem oddsP_eq : oddsP = fun p => .mk (keyOf p) (odds (valOf p)) := by funext p; cases p; rfl
theorem to_k : ∀ (k : Nat) (v : Val), cnt v < k → cnt v ≤ 200 → pk_dyn_to k v = some (tos v)
  | 0, v, h, _ => by omega
  | k + 1, ⟨a, b, s, l, f⟩, h, hc => by
    simp only [cnt] at h hc
    have hlen := cntL_len l
    have hfen := cntF_len f
    show p_dyn_to_0 (pk_dyn_to k) (a, b, s, l, f) = _
    unfold p_dyn_to_0 b_dyn_to_0
    dsimp only
    have h1 := to_1 (pk_dyn_to k) tos l (fun v hv => to_k k v (by have := cntL_mem hv; omega) (by have := cntL_mem hv; omega)) (by omega) _ 0 0 [] (Nat.le_refl _) (by omega) (by simp)
    have h5 := to_5 (pk_dyn_to k) tos f (fun p hp => to_k k _ (by have := cntF_mem hp; omega) (by have := cntF_mem hp; omega)) (by omega) _ 0 0 [] (Nat.le_refl _) (by omega) (by simp)
    rw [Int.natCast_zero, List.drop_zero, List.nil_append] at h1 h5
    rw [← tosP_eq] at h5
    simp only [r_len, h1, h5, tos, tosL_map, tosF_map]
    have hq : ∀ x, Prims.real.cmp .eql a x = decide (a = x) := fun x => by rw [r_eql]; rfl
    have hn : Prims.real.cmp .eql b 1 = decide (b = 1) := by rw [r_eql]; rfl
    simp only [hq, hn]
    by_cases e1 : a = 1
    · simp [e1]
    · by_cases e2 : a = 2
      · simp [e2]
      · by_cases e3 : a = 3
        · simp [e3]
        · by_cases e4 : a = 4
          · simp [e4]
          · by_cases e5 : a = 5
            · simp [e5]
            · simp [e1, e2, e3, e4, e5]
theorem dyn_to (v : Val) (hc : cnt v ≤ 200) : p_dyn_to v = some (tos v) := to_k 1000000 v (by omega) hc
theorem odd_k : ∀ (k : Nat) (v : Val), cnt v < k → cnt v ≤ 200 → pk_dyn_Odd k v = some (odds v)
  | 0, v, h, _ => by omega
  | k + 1, ⟨a, b, s, l, f⟩, h, hc => by
    have hto := dyn_to (.mk a b s l f) hc
    simp only [cnt] at h hc
    have hlen := cntL_len l
    have hfen := cntF_len f
    show p_dyn_Odd_0 (pk_dyn_Odd k) (a, b, s, l, f) = _
    unfold p_dyn_Odd_0 b_dyn_Odd_0
    dsimp only
    have h1 := to_1 (pk_dyn_Odd k) odds l (fun v hv => odd_k k v (by have := cntL_mem hv; omega) (by have := cntL_mem hv; omega)) (by omega) _ 0 0 [] (Nat.le_refl _) (by omega) (by simp)
    have h5 := to_5 (pk_dyn_Odd k) odds f (fun p hp => odd_k k _ (by have := cntF_mem hp; omega) (by have := cntF_mem hp; omega)) (by omega) _ 0 0 [] (Nat.le_refl _) (by omega) (by simp)
    rw [Int.natCast_zero, List.drop_zero, List.nil_append] at h1 h5
    rw [← oddsP_eq] at h5
    rw [odds]
    simp only [r_len, odd_1, odd_5, h1, h5, oddsL_map, oddsF_map, hto]
    have hq : ∀ x, Prims.real.cmp .eql a x = decide (a = x) := fun x => by rw [r_eql]; rfl
    simp only [hq]
    by_cases e1 : a = 4
    · simp [e1]
    · by_cases e2 : a = 5
      · simp [e2]
      · by_cases e3 : a = 9
        · simp [e3]
        · by_cases e4 : a = 10
          · simp [e4]
          · by_cases e5 : a = 11
            · simp [e5]
            · by_cases e6 : a = 12
              · simp [e6]
              · simp [e1, e2, e3, e4, e5, e6]
theorem dyn_Odd (v : Val) (hc : cnt v ≤ 200) : p_dyn_Odd v = some (odds v) := odd_k 1000000 v (by omega) hc
end Go.Abs.T
