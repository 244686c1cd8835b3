import Derived.Test.YtacabmodmbcldaaDoorMK6
/-! BlockIndents, BlockValues. -/
set_option linter.unusedVariables false
set_option linter.unusedSimpArgs false
namespace Go.Abs.Q
open M
theorem val_awake : val [10, 32, 32, 97] = [97] := by
  have e : unq [10, 32, 32, 97] = [10, 32, 32, 97] := by
    unfold unq
    rw [rep_miss (by decide), rep_miss (by decide), rep_miss (by decide), rep_miss (by decide), rep_nil]
  unfold val
  rw [e, lines_nl, lines_norm (by decide), lines_norm (by decide), lines_norm (by decide), lines_nil]
  rfl
theorem awake : p_cascadelaw07_awake = some true := by
  unfold p_cascadelaw07_awake p_cascadelaw07_awake_0 b_cascadelaw07_awake_0
  rw [block_Value _ (by decide), val_awake]
  simp only
  rw [seq_t rfl]
  simp only
  rw [block_Indent _ (by decide) (by intro x hx; simp only [List.mem_cons, List.not_mem_nil, or_false] at hx; rcases hx with rfl | rfl <;> decide)]
  rfl
theorem indents_loop (l : List Str) (hl : l.length ≤ 20) : ∀ (k i : Nat), l.length - i ≤ k → (∀ (j : Nat) x, j < i → l[j]? = some x → x.length ≤ 100) → p_cascadelaw07_BlockIndents_2 l (i : Int) = some true
  | k, i, hk, hb => by
    rw [u_cascadelaw07_BlockIndents_2]
    unfold b_cascadelaw07_BlockIndents_2
    rw [r_len]
    by_cases h : i < l.length
    · rw [lss_true h]
      have hx : l[i]? = some l[i] := List.getElem?_eq_getElem h
      simp only [r_idx hx, r_slen]
      by_cases c : l[i].length ≤ 100
      · rw [gtr_f (by omega)]
        simp only
        rw [M.r_add (by unfold fit64; omega)]
        cases k with
        | zero => omega
        | succ k =>
          exact indents_loop l hl k (i + 1) (by omega) (fun j x hj hjx => by
            by_cases e : j = i
            · subst e; rw [hx] at hjx; cases hjx; exact c
            · exact hb j x (by omega) hjx)
      · rw [gtr_t (by omega)]
    · rw [lss_false (by omega)]
      simp only
      have hs : Sh l := fun x hx => by
        obtain ⟨j, hj⟩ := List.mem_iff_getElem?.1 hx
        have := (List.getElem?_eq_some_iff.1 hj).1
        have := hb j x (by omega) hj
        omega
      rw [block_Indent l (by omega) hs, ref_Indent l (by omega) hs]
      simp only
      rw [eql_t rfl]
theorem BlockIndents (l : List Str) : p_cascadelaw07_BlockIndents l = some true := by
  unfold p_cascadelaw07_BlockIndents p_cascadelaw07_BlockIndents_0 b_cascadelaw07_BlockIndents_0
  simp only [awake, r_len]
  by_cases h : l.length ≤ 20
  · rw [gtr_f (by omega)]
    exact indents_loop l h _ 0 (Nat.le_refl _) (fun j x hj => by omega)
  · rw [gtr_t (by omega)]
theorem BlockValues (s : Str) : p_cascadelaw07_BlockValues s = some true := by
  unfold p_cascadelaw07_BlockValues p_cascadelaw07_BlockValues_0 b_cascadelaw07_BlockValues_0
  simp only [awake, r_slen]
  by_cases h : s.length ≤ 400
  · rw [gtr_f (by omega)]
    simp only
    rw [block_Value s (by omega), ref_Value s (by omega)]
    simp only
    rw [seq_t rfl]
  · rw [gtr_t (by omega)]
end Go.Abs.Q
