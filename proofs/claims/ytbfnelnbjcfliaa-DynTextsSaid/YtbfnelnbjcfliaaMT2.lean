import Derived.Test.YtbfnelnbjcfliaaRT
import Derived.Test.YtbfnelnbjcfliaaM1
/-! Values: how many, of which texts, and which are right. -/
set_option linter.unusedVariables false
set_option linter.unusedSimpArgs false
namespace Go.Abs.T
open M
abbrev Val := S_api_Value
abbrev Par := S_api_Pair
def keyOf : Par → Str | .mk k _ => k
def valOf : Par → Val | .mk _ v => v
mutual
def cnt : Val → Nat
  | .mk _ _ _ l f => cntL l + cntF f + 1
def cntP : Par → Nat
  | .mk _ v => cnt v
def cntL : List Val → Nat
  | [] => 0
  | v :: r => cnt v + cntL r
def cntF : List Par → Nat
  | [] => 0
  | p :: r => cntP p + cntF r
end
mutual
def strs : Val → Bool
  | .mk _ _ s l f => decide (s.length ≤ 500) && strsL l && strsF f
def strsP : Par → Bool
  | .mk k v => decide (k.length ≤ 500) && strs v
def strsL : List Val → Bool
  | [] => true
  | v :: r => strs v && strsL r
def strsF : List Par → Bool
  | [] => true
  | p :: r => strsP p && strsF r
end
theorem cnt_pos (v : Val) : 1 ≤ cnt v := by cases v; simp [cnt]
theorem cntP_eq (p : Par) : cntP p = cnt (valOf p) := by cases p; simp [cntP, valOf]
theorem cntL_len : ∀ l : List Val, l.length ≤ cntL l
  | [] => by simp
  | v :: r => by have := cnt_pos v; have := cntL_len r; simp [cntL]; omega
theorem cntF_len : ∀ f : List Par, f.length ≤ cntF f
  | [] => by simp
  | p :: r => by have := cnt_pos (valOf p); have := cntF_len r; simp [cntF, cntP_eq]; omega
theorem cntL_mem : ∀ {l : List Val} {v : Val}, v ∈ l → cnt v ≤ cntL l
  | [], v, h => by cases h
  | x :: r, v, h => by
    rcases List.mem_cons.1 h with rfl | h
    · simp [cntL]
    · have := cntL_mem h; simp [cntL]; omega
theorem cntF_mem : ∀ {f : List Par} {p : Par}, p ∈ f → cnt (valOf p) ≤ cntF f
  | [], v, h => by cases h
  | x :: r, v, h => by
    rcases List.mem_cons.1 h with rfl | h
    · simp [cntF, cntP_eq]
    · have := cntF_mem h; simp [cntF]; omega
theorem strsL_mem : ∀ {l : List Val} {v : Val}, strsL l = true → v ∈ l → strs v = true
  | [], v, _, h => by cases h
  | x :: r, v, hs, h => by
    simp only [strsL, Bool.and_eq_true] at hs
    rcases List.mem_cons.1 h with rfl | h
    · exact hs.1
    · exact strsL_mem hs.2 h
theorem strsF_mem : ∀ {f : List Par} {p : Par}, strsF f = true → p ∈ f → (keyOf p).length ≤ 500 ∧ strs (valOf p) = true
  | [], v, _, h => by cases h
  | x :: r, v, hs, h => by
    simp only [strsF, Bool.and_eq_true] at hs
    rcases List.mem_cons.1 h with rfl | h
    · obtain ⟨h1, _⟩ := hs
      cases v
      simp only [strsP, Bool.and_eq_true, decide_eq_true_eq] at h1
      exact h1
    · exact strsF_mem hs.2 h
/-! ### Few -/
theorem few_6 (c : Val → Int → Option Int) (N : Nat) (hN : N ≤ 200) (hc : ∀ (v : Val) (n : Nat), n ≤ N → ∃ r : Int, c v n = some r ∧ -1 ≤ r ∧ r < n + 1 ∧ (0 ≤ r → r + cnt v = n ∧ strs v = true)) (a b : Int) (s : Str) (l : List Val) (f : List Par) :
    ∀ (j i : Nat) (n : Int), f.length - i ≤ j → i ≤ f.length → -1 ≤ n → n ≤ N → (i : Int) + n ≤ 400 →
      ∃ r : Int, p_cascaderef03_few_6 c (n, a, b, s, l, f, (i : Int)) = some r ∧ -1 ≤ r ∧ r ≤ n ∧ (0 ≤ r → r + cntF (f.drop i) = n ∧ strsF (f.drop i) = true)
  | j, i, n, hj, hi, h0, h1, h2 => by
    rw [u_cascaderef03_few_6]
    simp only [b_cascaderef03_few_6]
    have e10 : p_cascaderef03_few_10 c n = some n := rfl
    rw [r_len]
    by_cases hl : i < f.length
    · rw [lss_t (by omega)]
      simp only
      by_cases hn : n < 0
      · rw [geq_f (by omega)]
        simp only [e10]
        exact ⟨n, rfl, h0, Int.le_refl _, fun h => by omega⟩
      · rw [geq_t (by omega), r_idx (List.getElem?_eq_getElem hl)]
        have hd : f.drop i = f[i] :: f.drop (i + 1) := List.drop_eq_getElem_cons hl
        rw [hd]
        generalize f[i] = x
        obtain ⟨kx, ⟨x0, x1, x2, x3, x4⟩⟩ := x
        simp only [r_slen]
        by_cases hk : kx.length ≤ 500
        · rw [gtr_f (by omega)]
          obtain ⟨r, g1, g2, g3, g4⟩ := hc (.mk x0 x1 x2 x3 x4) n.toNat (by omega)
          rw [show ((n.toNat : Nat) : Int) = n by omega] at g1 g3 g4
          simp only [g1]
          rw [r_add (by unfold fit64; omega)]
          cases j with
          | zero => omega
          | succ j =>
            have hpos := cnt_pos (.mk x0 x1 x2 x3 x4)
            have hr : r ≤ n - 1 := by
              by_cases h : 0 ≤ r
              · have := (g4 h).1; omega
              · omega
            obtain ⟨r', k1, k2, k3, k4⟩ := few_6 c N hN hc a b s l f j (i + 1) r (by omega) (by omega) g2 (by omega) (by omega)
            refine ⟨r', by rw [show ((i : Int) + 1) = ((i + 1 : Nat) : Int) by omega]; exact k1, k2, by omega, fun h => ?_⟩
            obtain ⟨m1, m2⟩ := k4 h
            obtain ⟨m3, m4⟩ := g4 (by omega)
            simp only [cntF, cntP, strsF, strsP, m2, m4, Bool.and_true, decide_eq_true_eq]
            exact ⟨by omega, hk⟩
        · rw [gtr_t (by omega)]
          exact ⟨-1, rfl, by omega, by omega, fun h => by omega⟩
    · rw [lss_f (by omega)]
      simp only [e10]
      rw [List.drop_eq_nil_of_le (by omega)]
      exact ⟨n, rfl, h0, Int.le_refl _, fun h => ⟨by simp [cntF], rfl⟩⟩
theorem few_2 (c : Val → Int → Option Int) (N : Nat) (hN : N ≤ 200) (hc : ∀ (v : Val) (n : Nat), n ≤ N → ∃ r : Int, c v n = some r ∧ -1 ≤ r ∧ r < n + 1 ∧ (0 ≤ r → r + cnt v = n ∧ strs v = true)) (a b : Int) (s : Str) (l : List Val) (f : List Par) :
    ∀ (j i : Nat) (n : Int), l.length - i ≤ j → i ≤ l.length → -1 ≤ n → n ≤ N → (i : Int) + n ≤ 400 →
      ∃ r : Int, p_cascaderef03_few_2 c (n, a, b, s, l, f, (i : Int)) = some r ∧ -1 ≤ r ∧ r ≤ n ∧ (0 ≤ r → r + cntF f + cntL (l.drop i) = n ∧ strsL (l.drop i) = true ∧ strsF f = true)
  | j, i, n, hj, hi, h0, h1, h2 => by
    rw [u_cascaderef03_few_2]
    simp only [b_cascaderef03_few_2]
    have e5 : ∃ r : Int, p_cascaderef03_few_5 c (n, a, b, s, l, f) = some r ∧ -1 ≤ r ∧ r ≤ n ∧ (0 ≤ r → r + cntF f = n ∧ strsF f = true) := by
      unfold p_cascaderef03_few_5
      simp only [b_cascaderef03_few_5]
      simpa using few_6 c N hN hc a b s l f _ 0 n (Nat.le_refl _) (by omega) h0 h1 (by omega)
    obtain ⟨r5, f1, f2, f3, f4⟩ := e5
    rw [r_len]
    by_cases hl : i < l.length
    · rw [lss_t (by omega)]
      simp only
      by_cases hn : n < 0
      · rw [geq_f (by omega)]
        simp only [f1]
        exact ⟨r5, rfl, f2, f3, fun h => by omega⟩
      · rw [geq_t (by omega), r_idx (List.getElem?_eq_getElem hl)]
        have hd : l.drop i = l[i] :: l.drop (i + 1) := List.drop_eq_getElem_cons hl
        rw [hd]
        generalize l[i] = x
        obtain ⟨x0, x1, x2, x3, x4⟩ := x
        obtain ⟨r, g1, g2, g3, g4⟩ := hc (.mk x0 x1 x2 x3 x4) n.toNat (by omega)
        rw [show ((n.toNat : Nat) : Int) = n by omega] at g1 g3 g4
        simp only [g1]
        rw [r_add (by unfold fit64; omega)]
        cases j with
        | zero => omega
        | succ j =>
          have hpos := cnt_pos (.mk x0 x1 x2 x3 x4)
          have hr : r ≤ n - 1 := by
            by_cases h : 0 ≤ r
            · have := (g4 h).1; omega
            · omega
          obtain ⟨r', k1, k2, k3, k4⟩ := few_2 c N hN hc a b s l f j (i + 1) r (by omega) (by omega) g2 (by omega) (by omega)
          refine ⟨r', by rw [show ((i : Int) + 1) = ((i + 1 : Nat) : Int) by omega]; exact k1, k2, by omega, fun h => ?_⟩
          obtain ⟨m1, m2, m5⟩ := k4 h
          obtain ⟨m3, m4⟩ := g4 (by omega)
          simp only [cntL, strsL, m2, m4, Bool.and_true, m5]
          exact ⟨by omega, trivial, trivial⟩
    · rw [lss_f (by omega)]
      simp only [f1]
      rw [List.drop_eq_nil_of_le (by omega)]
      exact ⟨r5, rfl, f2, f3, fun h => ⟨by have := (f4 h).1; simp [cntL]; omega, rfl, (f4 h).2⟩⟩
theorem few_k : ∀ (k : Nat) (v : Val) (n : Nat), n < k → n ≤ 200 → ∃ r : Int, pk_cascaderef03_few k v n = some r ∧ -1 ≤ r ∧ r < n + 1 ∧ (0 ≤ r → r + cnt v = n ∧ strs v = true)
  | 0, v, n, h, _ => by omega
  | k + 1, ⟨a, b, s, l, f⟩, n, hk, hn => by
    show ∃ r : Int, p_cascaderef03_few_0 (pk_cascaderef03_few k) (a, b, s, l, f, n) = some r ∧ _
    unfold p_cascaderef03_few_0
    simp only [b_cascaderef03_few_0]
    by_cases h1 : n < 1
    · rw [lss_t (by omega)]
      exact ⟨-1, rfl, by omega, by omega, fun h => by omega⟩
    · rw [lss_f (by omega)]
      simp only [r_slen]
      by_cases h2 : s.length ≤ 500
      · rw [gtr_f (by omega), r_sub64 (by unfold fit64; omega)]
        simp only
        obtain ⟨r, g1, g2, g3, g4⟩ := few_2 (pk_cascaderef03_few k) (n - 1) (by omega) (fun v m hm => few_k k v m (by omega) (by omega)) a b s l f _ 0 ((n : Int) - 1) (Nat.le_refl _) (by omega) (by omega) (by omega) (by omega)
        refine ⟨r, by simpa using g1, g2, by omega, fun h => ?_⟩
        obtain ⟨m1, m2, m3⟩ := g4 h
        rw [List.drop_zero] at m1 m2
        simp only [cnt, strs, m2, m3, Bool.and_true, decide_eq_true_eq]
        exact ⟨by omega, h2⟩
      · rw [gtr_t (by omega)]
        exact ⟨-1, rfl, by omega, by omega, fun h => by omega⟩
theorem Few (v : Val) (n : Nat) (hn : n ≤ 200) : p_cascaderef03_Few v n = some false ∨ (p_cascaderef03_Few v n = some true ∧ cnt v ≤ n ∧ strs v = true) := by
  obtain ⟨a, b, s, l, f⟩ := v
  obtain ⟨r, g1, g2, g3, g4⟩ := few_k 1000000 (.mk a b s l f) n (by omega) hn
  unfold p_cascaderef03_Few p_cascaderef03_Few_0
  simp only [b_cascaderef03_Few_0]
  have : p_cascaderef03_few (.mk a b s l f) n = some r := g1
  simp only [this]
  by_cases h : 0 ≤ r
  · obtain ⟨m1, m2⟩ := g4 h
    rw [geq_t h]
    exact .inr ⟨rfl, by omega, m2⟩
  · rw [geq_f (by omega)]
    exact .inl rfl
end Go.Abs.T
