import Derived.Test.YtacabmodmbcldaaDoorRT
import Derived.Test.YtacabmodmbcldaaDoorM1
/-! Paths: right ones, their values, sizes. -/
set_option linter.unusedVariables false
set_option linter.unusedSimpArgs false
namespace Go.Abs.T
open M
abbrev Stp := S_api_Step
instance : DecidableEq S_api_Step := fun a b => decidable_of_iff (a.key = b.key ∧ a.f_at = b.f_at ∧ a.index = b.index) (by
  obtain ⟨k, x, i⟩ := a
  obtain ⟨k', x', i'⟩ := b
  simp)
/-- The value of a step. -/
def valS (s : Stp) : S_api_Value := if s.index = true then .mk 2 s.f_at [] [] [] else .mk 3 0 s.key [] []
theorem index06 (q : Stp → Bool) (p : List Stp) (hp : p.length ≤ 1000) (hq : ∀ s ∈ p, p_path_right s = some (q s)) : ∀ (m i : Nat), p.length - i ≤ m → i ≤ p.length →
    ∃ r : Int, p_slices_IndexFunc__api_Step_api_Step__0_1 p (p.length : Int) (i : Int) = some r ∧ -1 ≤ r ∧ (0 ≤ r ↔ (p.drop i).all q = false)
  | m, i, hm, hi => by
    rw [u_slices_IndexFunc__api_Step_api_Step__0_1]
    unfold b_slices_IndexFunc__api_Step_api_Step__0_1
    by_cases h : i < p.length
    · have hmem : p[i] ∈ p := List.getElem_mem h
      rw [lss_t (by omega), r_idx (List.getElem?_eq_getElem h), List.drop_eq_getElem_cons h]
      have hq' := hq _ hmem
      generalize p[i] = x at *
      obtain ⟨k, a, b⟩ := x
      have e : p_path_Right_1 ⟨k, a, b⟩ = some (!q ⟨k, a, b⟩) := by
        show p_path_Right_1_0 k a b = _
        unfold p_path_Right_1_0 b_path_Right_1_0
        simp only [hq']
        cases q ⟨k, a, b⟩ <;> rfl
      simp only [e]
      cases hb : q ⟨k, a, b⟩ with
      | false =>
        simp only [Bool.not_false]
        exact ⟨i, rfl, by omega, by simp [hb]⟩
      | true =>
        simp only [Bool.not_true]
        rw [r_add (by unfold fit64; omega)]
        cases m with
        | zero => omega
        | succ m =>
          rw [show ((i : Int) + 1) = ((i + 1 : Nat) : Int) by omega]
          obtain ⟨r, h1, h2, h3⟩ := index06 q p hp hq m (i + 1) (by omega) (by omega)
          exact ⟨r, h1, h2, by rw [h3]; simp [hb]⟩
    · rw [lss_f (by omega), List.drop_eq_nil_of_le (by omega)]
      exact ⟨-1, rfl, by omega, by simp⟩
theorem right06 (q : Stp → Bool) (p : List Stp) (hp : p.length ≤ 1000) (hq : ∀ s ∈ p, p_path_right s = some (q s)) : p_path_Right p = some (decide (p.length ≤ 30) && p.all q) := by
  unfold p_path_Right p_path_Right_0 b_path_Right_0
  rw [r_len]
  by_cases h : p.length ≤ 30
  · rw [leq_t (by omega), decide_eq_true h]
    obtain ⟨r, h1, h2, h3⟩ := index06 q p hp hq _ 0 (Nat.le_refl _) (by omega)
    have e : p_slices_ContainsFunc__api_Step_api_Step__0 p = some (!p.all q) := by
      unfold p_slices_ContainsFunc__api_Step_api_Step__0 p_slices_ContainsFunc__api_Step_api_Step__0_0 b_slices_ContainsFunc__api_Step_api_Step__0_0 p_slices_IndexFunc__api_Step_api_Step__0 p_slices_IndexFunc__api_Step_api_Step__0_0 b_slices_IndexFunc__api_Step_api_Step__0_0
      rw [r_len]
      rw [show (0 : Int) = ((0 : Nat) : Int) from rfl, h1]
      simp only [List.drop_zero] at h3
      cases hb : p.all q with
      | false => simp only; rw [geq_t (by have := h3.2 hb; omega)]; rfl
      | true =>
        simp only
        rw [geq_f]
        · rfl
        · rcases Int.lt_or_le r 0 with h | h
          · exact h
          · have := h3.1 h; rw [hb] at this; cases this
    simp only [e]
    cases p.all q <;> rfl
  · rw [leq_f (by omega), decide_eq_false h]
    rfl
theorem value_2 (p : List Stp) (hp : p.length ≤ 1000) (o0 o1 : Int) (o2 : Str) (o3 : List S_api_Value) (o4 : List S_api_Pair) : ∀ (m i g : Nat), p.length - i ≤ m → i ≤ p.length →
    p_path_Value_2 p (p.length : Int) (i : Int) o0 o1 o2 o3 o4 4 0 [] g ((p.take i).map valS) [] = some (.mk 4 0 [] (p.map valS) [], 0)
  | m, i, g, hm, hi => by
    rw [u_path_Value_2]
    unfold b_path_Value_2
    by_cases h : i < p.length
    · have ht : (p.take (i + 1)).map valS = (p.take i).map valS ++ [valS p[i]] := by rw [List.take_add_one, List.getElem?_eq_getElem h, List.map_append]; rfl
      have hl : ((p.take i).map valS).length ≤ 1000 := by simp; omega
      have hrec : ∀ g, m ≠ 0 → p_path_Value_2 p (p.length : Int) ((i : Int) + 1) o0 o1 o2 o3 o4 4 0 [] g ((p.take (i + 1)).map valS) [] = some (.mk 4 0 [] (p.map valS) [], 0) := by
        intro g h0
        cases m with
        | zero => omega
        | succ m =>
          rw [show ((i : Int) + 1) = ((i + 1 : Nat) : Int) by omega]
          exact value_2 p hp o0 o1 o2 o3 o4 m (i + 1) g (by omega) (by omega)
      rw [ht] at hrec
      rw [lss_t (by omega), r_idx (List.getElem?_eq_getElem h)]
      generalize p[i] = x at *
      obtain ⟨k, a, b⟩ := x
      cases b with
      | false =>
        simp only
        rw [M.r_app (by simp only [List.length_cons, List.length_nil, room]; omega) (by simp only [List.length_cons, List.length_nil, room]; omega)]
        simp only [p_path_Value_4, b_path_Value_4]
        rw [r_add (by unfold fit64; omega)]
        have := hrec (g + 1) (by omega)
        simpa [valS] using this
      | true =>
        simp only
        rw [M.r_app (by simp only [List.length_cons, List.length_nil, room]; omega) (by simp only [List.length_cons, List.length_nil, room]; omega)]
        simp only [p_path_Value_4, b_path_Value_4]
        rw [r_add (by unfold fit64; omega)]
        have := hrec (g + 1) (by omega)
        simpa [valS] using this
    · rw [lss_f (by omega), List.take_of_length_le (by omega)]
theorem value06 (q : Stp → Bool) (p : List Stp) (hp : p.length ≤ 1000) (hq : ∀ s ∈ p, p_path_right s = some (q s)) :
    p_path_Value p = some (if (decide (p.length ≤ 30) && p.all q) = true then (.mk 4 0 [] (p.map valS) [], 0) else (.mk 0 0 [] [] [], 1)) := by
  unfold p_path_Value p_path_Value_0 b_path_Value_0
  simp only [right06 q p hp hq]
  cases (decide (p.length ≤ 30) && p.all q) with
  | false => rfl
  | true =>
    simp only [if_true]
    rw [r_len]
    have := value_2 p hp 0 0 [] [] [] _ 0 0 (Nat.le_refl _) (by omega)
    simpa using this
theorem awake06 : p_cascadelaw06_awake = some true := by
  have hr : ∀ s ∈ [(⟨[], 3, true⟩ : Stp)], p_path_right s = some ((fun _ => true) s) := by
    intro s hs
    rw [List.mem_singleton] at hs
    subst hs
    show p_path_right_0 [] 3 true = _
    unfold p_path_right_0 b_path_right_0
    rw [seq_t rfl, geq_t (by omega), leq_t (by omega)]
  have hv := value06 (fun _ => true) [⟨[], 3, true⟩] (by simp) hr
  unfold p_cascadelaw06_awake p_cascadelaw06_awake_0 b_cascadelaw06_awake_0
  have hp : p_path_Place 3 = some ⟨[], 3, true⟩ := rfl
  simp only [hp, hv]
  simp only [List.length_singleton, List.all_cons, List.all_nil, Bool.and_self, Bool.and_true, decide_true, Nat.reduceLeDiff, if_true, List.map_cons, List.map_nil, valS]
  rw [eql_t rfl]
  simp only [r_len, List.length_singleton]
  rw [eql_t (show ((1 : Nat) : Int) = 1 from rfl)]
  simp only
  rw [show (0 : Int) = ((0 : Nat) : Int) from rfl, r_idx (b := .mk 2 3 [] [] []) rfl]
  simp only
  rw [eql_t rfl]
/-! ### Few -/
theorem few06_1 (p : List Stp) : ∀ (m i : Nat), 50 - i ≤ m → i ≤ 50 → p_cascaderef06_Few_1 p (i : Int) = some false ∨ (p_cascaderef06_Few_1 p (i : Int) = some (decide (p.length ≤ 40)) ∧ ∀ j x, i ≤ j → j < 50 → p[j]? = some x → x.key.length ≤ 200)
  | m, i, hm, hi => by
    rw [u_cascaderef06_Few_1]
    unfold b_cascaderef06_Few_1
    have e : p_cascaderef06_Few_4 p = some (decide (p.length ≤ 40)) := by
      unfold p_cascaderef06_Few_4 b_cascaderef06_Few_4
      rw [r_len, r_leq]
      congr 2
      simp only [eq_iff_iff]; omega
    rw [r_len]
    by_cases h : i < p.length
    · rw [lss_t (by omega)]
      by_cases h5 : i < 50
      · rw [lss_t (by omega), r_idx (List.getElem?_eq_getElem h)]
        have hx : p[i]? = some p[i] := List.getElem?_eq_getElem h
        generalize p[i] = x at *
        obtain ⟨k, a, b⟩ := x
        simp only
        rw [r_slen]
        by_cases hk : k.length ≤ 200
        · rw [gtr_f (by omega)]
          simp only
          rw [r_add (by unfold fit64; omega)]
          cases m with
          | zero => omega
          | succ m =>
            rw [show ((i : Int) + 1) = ((i + 1 : Nat) : Int) by omega]
            rcases few06_1 p m (i + 1) (by omega) (by omega) with g | ⟨g1, g2⟩
            · exact .inl g
            · refine .inr ⟨g1, fun j x h1 h2 h3 => ?_⟩
              by_cases ej : j = i
              · subst ej; rw [hx] at h3; cases h3; exact hk
              · exact g2 j x (by omega) h2 h3
        · rw [gtr_t (by omega)]
          exact .inl rfl
      · rw [lss_f (by omega)]
        simp only [e]
        exact .inr ⟨trivial, fun j x h1 h2 _ => by omega⟩
    · rw [lss_f (by omega)]
      simp only [e]
      exact .inr ⟨trivial, fun j x h1 h2 h3 => by have := (List.getElem?_eq_some_iff.1 h3).1; omega⟩
theorem few06 (p : List Stp) : p_cascaderef06_Few p = some false ∨ (p_cascaderef06_Few p = some true ∧ p.length ≤ 40 ∧ ∀ s ∈ p, s.key.length ≤ 200) := by
  unfold p_cascaderef06_Few p_cascaderef06_Few_0 b_cascaderef06_Few_0
  rcases few06_1 p 50 0 (by omega) (by omega) with h | ⟨h1, h2⟩
  · exact .inl h
  · by_cases hl : p.length ≤ 40
    · rw [decide_eq_true hl] at h1
      refine .inr ⟨h1, hl, fun s hs => ?_⟩
      obtain ⟨j, hj⟩ := List.getElem?_of_mem hs
      exact h2 j s (by omega) (by have := (List.getElem?_eq_some_iff.1 hj).1; omega) hj
    · rw [decide_eq_false hl] at h1
      exact .inl h1
end Go.Abs.T
