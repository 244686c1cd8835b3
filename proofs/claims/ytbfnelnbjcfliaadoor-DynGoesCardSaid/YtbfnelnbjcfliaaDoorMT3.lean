import Derived.Test.YtbfnelnbjcfliaaDoorMT2
/-! Right values: the reference's answer, and the tree's. -/
set_option linter.unusedVariables false
set_option linter.unusedSimpArgs false
namespace Go.Abs.T
open M
def headOk (k n : Int) (s : Str) (l : List Val) (f : List Par) : Bool :=
  decide ((0 ≤ k ∧ k ≤ 5) ∧ (k = 1 ∨ k = 2 ∨ n = 0) ∧ (k = 3 ∨ s = []) ∧ (k = 4 ∨ l.length = 0) ∧ (k = 5 ∨ f.length = 0) ∧ (k ≠ 1 ∨ n = 0 ∨ n = 1) ∧ -9007199254740991 ≤ n ∧ n ≤ 9007199254740991) && isT s
def keysS : List Str → List Par → Bool
  | _, [] => true
  | seen, p :: r => !seen.contains (keyOf p) && isT (keyOf p) && keysS (seen ++ [keyOf p]) r
/-- A right value of so many levels. -/
def rR : Nat → Val → Bool
  | 0, _ => false
  | d + 1, .mk k n s l f => headOk k n s l f && l.all (rR d) && keysS [] f && f.all (fun p => rR d (valOf p))
theorem ref_right_11 (c : Val → Int → Option Bool) (d a b : Int) (s : Str) (l : List Val) (f : List Par) (i : Nat) (hi : i < f.length) (hl : f.length ≤ 1000) : ∀ (m j : Nat), i - j ≤ m → j ≤ i →
    p_cascaderef03_right_11 c d a b s l f (i : Int) (j : Int) = some (match (((f.take i).drop j).map keyOf).contains (keyOf f[i]) with | true => .inr false | false => .inl (d, a, b, s, l, f, ((i + 1 : Nat) : Int)))
  | m, j, hm, hj => by
    rw [u_cascaderef03_right_11]
    unfold b_cascaderef03_right_11
    by_cases h : j < i
    · rw [lss_t (by omega), r_idx (List.getElem?_eq_getElem (show j < f.length by omega)), r_idx (List.getElem?_eq_getElem hi)]
      have hd : (f.take i).drop j = f[j] :: (f.take i).drop (j + 1) := by
        rw [List.drop_eq_getElem_cons (by simp; omega)]
        simp
      rw [hd]
      have ih := fun h => ref_right_11 c d a b s l f i hi hl (m - 1) (j + 1) h (by omega)
      generalize f[j] = x at *
      generalize f[i] = y at *
      obtain ⟨kx, ⟨x0, x1, x2, x3, x4⟩⟩ := x
      obtain ⟨ky, ⟨y0, y1, y2, y3, y4⟩⟩ := y
      simp only
      by_cases e : kx = ky
      · rw [seq_t e]
        simp [keyOf, e]
      · rw [seq_f e, r_add (by unfold fit64; omega)]
        simp only
        cases m with
        | zero => omega
        | succ m =>
          rw [show ((j : Int) + 1) = ((j + 1 : Nat) : Int) by omega, ih (by omega)]
          have e' : ky ≠ kx := fun h => e h.symm
          simp [keyOf, e']
    · rw [lss_f (by omega), r_add (by unfold fit64; omega)]
      have : (f.take i).drop j = [] := List.drop_eq_nil_of_le (by simp; omega)
      rw [this]
      simp
theorem keysS_drop (f : List Par) {i : Nat} (hi : i < f.length) : keysS ((f.take i).map keyOf) (f.drop i) = (!((f.take i).map keyOf).contains (keyOf f[i]) && isT (keyOf f[i]) && keysS ((f.take (i + 1)).map keyOf) (f.drop (i + 1))) := by
  rw [List.drop_eq_getElem_cons hi, keysS]
  congr 2
  rw [List.take_succ_eq_append_getElem hi, List.map_append]
  rfl
theorem keyOf_mk (k : Str) (v : Val) : keyOf (.mk k v) = k := rfl
theorem valOf_mk (k : Str) (v : Val) : valOf (.mk k v) = v := rfl
theorem ref_right_8 (c : Val → Int → Option Bool) (D : Nat) (hc : ∀ v : Val, cnt v ≤ 200 → strs v = true → c v D = some (rR D v)) (a b : Int) (s : Str) (l : List Val) (f : List Par) (hf : cntF f ≤ 200) (hs : strsF f = true) (hD : D ≤ 200) : ∀ (m i : Nat), f.length - i ≤ m → i ≤ f.length →
    p_cascaderef03_right_8 c ((D : Int) + 1) a b s l f (i : Int) = some (keysS ((f.take i).map keyOf) (f.drop i) && (f.drop i).all (fun p => rR D (valOf p)))
  | m, i, hm, hi => by
    have hlen := cntF_len f
    rw [u_cascaderef03_right_8]
    unfold b_cascaderef03_right_8
    rw [r_len]
    by_cases h : i < f.length
    · have hmem : f[i] ∈ f := List.getElem_mem h
      have h11 := ref_right_11 c ((D : Int) + 1) a b s l f i h (by omega) i 0 (by omega) (by omega)
      rw [lss_t (by omega), r_idx (List.getElem?_eq_getElem h), keysS_drop f h]
      rw [List.drop_eq_getElem_cons h, List.all_cons]
      have hcv := cntF_mem hmem
      obtain ⟨hk, hv⟩ := strsF_mem hs hmem
      rw [List.drop_zero] at h11
      generalize f[i] = x at *
      obtain ⟨kx, ⟨x0, x1, x2, x3, x4⟩⟩ := x
      simp only [keyOf_mk, valOf_mk] at *
      rw [ref_isT kx (by omega)]
      cases hT : isT kx with
      | false => simp
      | true =>
        simp only
        rw [r_sub64 (by unfold fit64; omega), show (D : Int) + 1 - 1 = D by omega, hc _ (by omega) hv]
        cases hR : rR D (.mk x0 x1 x2 x3 x4) with
        | false => simp
        | true =>
          simp only [Int.natCast_zero] at h11 ⊢
          cases hC : (((f.take i).map keyOf).contains kx) with
          | true =>
            rw [hC] at h11
            simp only [h11]
            simp
          | false =>
            rw [hC] at h11
            simp only [h11]
            cases m with
            | zero => omega
            | succ m =>
              rw [ref_right_8 c D hc a b s l f hf hs hD m (i + 1) (by omega) (by omega)]
              simp
    · rw [lss_f (by omega), List.drop_eq_nil_of_le (by omega)]
      simp [keysS]
theorem ref_right_4 (c : Val → Int → Option Bool) (D : Nat) (hc : ∀ v : Val, cnt v ≤ 200 → strs v = true → c v D = some (rR D v)) (a b : Int) (s : Str) (l : List Val) (f : List Par) (hf : cntF f ≤ 200) (hs : strsF f = true) (hD : D ≤ 200) (hl : cntL l ≤ 200) (hls : strsL l = true) : ∀ (m i : Nat), l.length - i ≤ m → i ≤ l.length →
    p_cascaderef03_right_4 c ((D : Int) + 1) a b s l f (i : Int) = some ((l.drop i).all (rR D) && keysS [] f && f.all (fun p => rR D (valOf p)))
  | m, i, hm, hi => by
    have hlen := cntL_len l
    rw [u_cascaderef03_right_4]
    unfold b_cascaderef03_right_4
    rw [r_len]
    by_cases h : i < l.length
    · have hmem : l[i] ∈ l := List.getElem_mem h
      rw [lss_t (by omega), r_idx (List.getElem?_eq_getElem h), List.drop_eq_getElem_cons h, List.all_cons]
      have hcv := cntL_mem hmem
      have hv := strsL_mem hls hmem
      generalize l[i] = x at *
      obtain ⟨x0, x1, x2, x3, x4⟩ := x
      simp only
      rw [r_sub64 (by unfold fit64; omega), show (D : Int) + 1 - 1 = D by omega, hc _ (by omega) hv]
      cases hR : rR D (.mk x0 x1 x2 x3 x4) with
      | false => simp
      | true =>
        rw [r_add (by unfold fit64; omega)]
        simp only
        cases m with
        | zero => omega
        | succ m =>
          rw [show ((i : Int) + 1) = ((i + 1 : Nat) : Int) by omega, ref_right_4 c D hc a b s l f hf hs hD hl hls m (i + 1) (by omega) (by omega)]
          simp
    · rw [lss_f (by omega), List.drop_eq_nil_of_le (by omega)]
      have := ref_right_8 c D hc a b s l f hf hs hD _ 0 (Nat.le_refl _) (by omega)
      simp only [Int.natCast_zero, List.take_zero, List.map_nil, List.drop_zero] at this
      simp only [this]
      simp
theorem ref_right_2 (c : Val → Int → Option Bool) (d k n : Int) (s : Str) (l : List Val) (f : List Par) (hs : s.length ≤ 500) :
    p_cascaderef03_right_2 c d k n s l f = if ((k ≠ 1 ∨ n = 0 ∨ n = 1) ∧ -9007199254740991 ≤ n ∧ n ≤ 9007199254740991) ∧ isT s = true then p_cascaderef03_right_4 c d k n s l f 0 else some false := by
  unfold p_cascaderef03_right_2 b_cascaderef03_right_2 p_cascaderef03_right_3 b_cascaderef03_right_3
  rw [ref_isT s (by omega)]
  have e1 : Prims.real.cmp .gtr n 9007199254740991 = decide (9007199254740991 < n) := rfl
  have e2 : Prims.real.cmp .lss n (-9007199254740991) = decide (n < -9007199254740991) := rfl
  have e3 : Prims.real.cmp .eql k 1 = decide (k = 1) := by rw [r_eql]; rfl
  have e4 : Prims.real.cmp .neq n 0 = !decide (n = 0) := by rw [r_neq]; rfl
  have e5 : Prims.real.cmp .neq n 1 = !decide (n = 1) := by rw [r_neq]; rfl
  rw [e1, e2, e3, e4, e5]
  cases hT : isT s <;> by_cases h1 : k = 1 <;> by_cases h2 : n = 0 <;> by_cases h3 : n = 1 <;> by_cases h4 : 9007199254740991 < n <;> by_cases h5 : n < -9007199254740991 <;>
    first
    | (exfalso; omega)
    | (simp [h1, h2, h3, h4, h5]; done)
    | (simp [h1, h2, h3, h4, h5]; omega)
theorem ref_right_0 (c : Val → Int → Option Bool) (d k n : Int) (s : Str) (l : List Val) (f : List Par) :
    p_cascaderef03_right_0 c k n s l f d = if 1 ≤ d ∧ (0 ≤ k ∧ k ≤ 5) ∧ (k = 1 ∨ k = 2 ∨ n = 0) ∧ (k = 3 ∨ s = []) ∧ (k = 4 ∨ l.length = 0) ∧ (k = 5 ∨ f.length = 0) then p_cascaderef03_right_2 c d k n s l f else some false := by
  unfold p_cascaderef03_right_0 b_cascaderef03_right_0
  have e0 : Prims.real.cmp .lss d 1 = !decide (1 ≤ d) := by rw [r_lss]; by_cases h : 1 ≤ d <;> simp [h] <;> omega
  have e1 : Prims.real.cmp .lss k 0 = !decide (0 ≤ k) := by rw [r_lss]; by_cases h : 0 ≤ k <;> simp [h] <;> omega
  have e2 : Prims.real.cmp .gtr k 5 = !decide (k ≤ 5) := by rw [r_gtr]; by_cases h : k ≤ 5 <;> simp [h] <;> omega
  have e3 : ∀ x, Prims.real.cmp .neq k x = !decide (k = x) := fun x => by rw [r_neq]; rfl
  have e4 : Prims.real.cmp .neq n 0 = !decide (n = 0) := by rw [r_neq]; rfl
  have e5 : Prims.real.seq s [] = decide (s = []) := by rw [r_seq]; by_cases h : s = [] <;> simp [h]
  have e6 : Prims.real.cmp .gtr (Prims.real.len l) 0 = !decide (l.length = 0) := by rw [r_len, r_gtr]; by_cases h : l.length = 0 <;> simp [h] <;> omega
  have e7 : Prims.real.cmp .gtr (Prims.real.len f) 0 = !decide (f.length = 0) := by rw [r_len, r_gtr]; by_cases h : f.length = 0 <;> simp [h] <;> omega
  simp only [e0, e1, e2, e3, e4, e5, e6, e7]
  generalize p_cascaderef03_right_2 c d k n s l f = A
  by_cases h0 : 1 ≤ d
  · by_cases h1 : 0 ≤ k
    · by_cases h2 : k ≤ 5
      · have hk : k = 0 ∨ k = 1 ∨ k = 2 ∨ k = 3 ∨ k = 4 ∨ k = 5 := by omega
        rcases hk with rfl | rfl | rfl | rfl | rfl | rfl <;> by_cases hn : n = 0 <;> by_cases hs : s = [] <;> by_cases hl : l.length = 0 <;> by_cases hf : f.length = 0 <;> simp [h0, hn, hs, hl, hf]
      · simp [h0, h1, h2]
    · simp [h0, h1]
  · simp [h0]
theorem right_k : ∀ (d k : Nat) (v : Val), d < k → d ≤ 200 → cnt v ≤ 200 → strs v = true → pk_cascaderef03_right k v d = some (rR d v)
  | d, 0, v, h, _, _, _ => by omega
  | 0, k + 1, ⟨a, b, s, l, f⟩, h, hd, hc, hs => by
    show p_cascaderef03_right_0 (pk_cascaderef03_right k) a b s l f ((0 : Nat) : Int) = _
    rw [ref_right_0, if_neg (by omega)]
    rfl
  | d + 1, k + 1, ⟨a, b, s, l, f⟩, h, hd, hc, hs => by
    show p_cascaderef03_right_0 (pk_cascaderef03_right k) a b s l f ((d + 1 : Nat) : Int) = _
    simp only [cnt] at hc
    simp only [strs, Bool.and_eq_true, decide_eq_true_eq] at hs
    rw [ref_right_0, ref_right_2 _ _ _ _ _ _ _ hs.1.1]
    have h4 := ref_right_4 (pk_cascaderef03_right k) d (fun v h1 h2 => right_k d k v (by omega) (by omega) h1 h2) a b s l f (by omega) hs.2 (by omega) (by omega) hs.1.2 _ 0 (Nat.le_refl _) (by omega)
    rw [show ((d + 1 : Nat) : Int) = (d : Int) + 1 by omega]
    simp only [Int.natCast_zero, List.drop_zero] at h4
    rw [h4, rR]
    unfold headOk
    by_cases c1 : (0 ≤ a ∧ a ≤ 5) ∧ (a = 1 ∨ a = 2 ∨ b = 0) ∧ (a = 3 ∨ s = []) ∧ (a = 4 ∨ l.length = 0) ∧ (a = 5 ∨ f.length = 0)
    · rw [if_pos ⟨by omega, c1⟩]
      by_cases c2 : ((a ≠ 1 ∨ b = 0 ∨ b = 1) ∧ -9007199254740991 ≤ b ∧ b ≤ 9007199254740991)
      · rw [decide_eq_true (show (0 ≤ a ∧ a ≤ 5) ∧ (a = 1 ∨ a = 2 ∨ b = 0) ∧ (a = 3 ∨ s = []) ∧ (a = 4 ∨ l.length = 0) ∧ (a = 5 ∨ f.length = 0) ∧ (a ≠ 1 ∨ b = 0 ∨ b = 1) ∧ -9007199254740991 ≤ b ∧ b ≤ 9007199254740991 from ⟨c1.1, c1.2.1, c1.2.2.1, c1.2.2.2.1, c1.2.2.2.2, c2⟩)]
        cases hT : isT s with
        | true => rw [if_pos ⟨c2, rfl⟩]; simp
        | false => rw [if_neg (by simp)]; simp
      · rw [if_neg (fun h => c2 h.1), decide_eq_false (fun h => c2 h.2.2.2.2.2)]
        simp
    · rw [if_neg (fun h => c1 h.2), decide_eq_false (fun h => c1 ⟨h.1, h.2.1, h.2.2.1, h.2.2.2.1, h.2.2.2.2.1⟩)]
      simp
theorem refRight (v : Val) (hc : cnt v ≤ 200) (hs : strs v = true) : p_cascaderef03_Right v = some (rR 12 v) := by
  obtain ⟨a, b, s, l, f⟩ := v
  unfold p_cascaderef03_Right p_cascaderef03_Right_0 b_cascaderef03_Right_0
  have : p_cascaderef03_right (.mk a b s l f) 12 = some (rR 12 (.mk a b s l f)) := right_k 12 1000000 _ (by omega) (by omega) hc hs
  simp only [this]
end Go.Abs.T
