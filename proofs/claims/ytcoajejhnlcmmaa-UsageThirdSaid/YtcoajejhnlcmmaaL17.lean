import Derived.Test.YtcoajejhnlcmmaaU1
/-! Types within types: the plain laws. -/
namespace Go.Abs.B
theorem ends_append (c d : UInt8) (v : Str) : ends c (v ++ [d]) = (d == c) := by
  unfold ends
  simp
theorem ends_eq {c : UInt8} {v : Str} (h : ends c v = true) : v = v.dropLast ++ [c] := by
  unfold ends at h
  have h' : v.getLast? = some c := by simpa using h
  have hne : v ≠ [] := by rintro rfl; simp at h'
  have := List.dropLast_concat_getLast hne
  rw [List.getLast?_eq_some_getLast hne] at h'
  cases h'
  exact this.symm
theorem ends_other {c d : UInt8} {v : Str} (h : ends c v = true) (hcd : c ≠ d) : ends d v = false := by
  rw [ends_eq h, ends_append]
  simpa using hcd
theorem within_self (n : Str) (v : Str) : within n n v v = true := by
  rw [within]
  cases h1 : ends 33 v with
  | true =>
    have := ends_pos h1
    simp only [if_true]
    exact within_self n v.dropLast
  | false =>
    cases h2 : ends 91 v with
    | true =>
      have := ends_pos h2
      simp only [if_true, Bool.false_eq_true, if_false]
      exact within_self n v.dropLast
    | false => simp
termination_by v.length
decreasing_by all_goals (simp; omega)
theorem within_trans (a b c : Str) (v l m : Str) (h1 : within a b v l = true) (h2 : within b c l m = true) : within a c v m = true := by
  rw [within] at h1 h2 ⊢
  cases m1 : ends 33 m with
  | true =>
    cases l1 : ends 33 l with
    | true =>
      cases v1 : ends 33 v with
      | true =>
        have := ends_pos v1
        simp only [m1, l1, v1, if_true] at h1 h2 ⊢
        exact within_trans a b c v.dropLast l.dropLast m.dropLast h1 h2
      | false => simp [l1, v1] at h1
    | false => simp [m1, l1] at h2
  | false =>
    cases l1 : ends 33 l with
    | true =>
      cases v1 : ends 33 v with
      | true =>
        have := ends_pos v1
        simp only [m1, l1, v1, if_true, Bool.false_eq_true, if_false] at h1 h2 ⊢
        exact within_trans a b c v.dropLast l.dropLast m h1 h2
      | false => simp [l1, v1] at h1
    | false =>
      cases v1 : ends 33 v with
      | true =>
        have := ends_pos v1
        simp only [l1, v1, if_true, Bool.false_eq_true, if_false] at h1 ⊢
        refine within_trans a b c v.dropLast l m h1 ?_
        rw [within]; exact h2
      | false =>
        cases m2 : ends 91 m with
        | true =>
          cases l2 : ends 91 l with
          | true =>
            cases v2 : ends 91 v with
            | true =>
              have := ends_pos v2
              simp only [m1, m2, l1, l2, v1, v2, if_true, Bool.false_eq_true, if_false] at h1 h2 ⊢
              exact within_trans a b c v.dropLast l.dropLast m.dropLast h1 h2
            | false => simp [l1, v1, l2, v2] at h1
          | false => simp [m1, l1, m2, l2] at h2
        | false =>
          cases l2 : ends 91 l with
          | true => simp [m1, l1, m2, l2] at h2
          | false =>
            cases v2 : ends 91 v with
            | true => simp [l1, v1, l2, v2] at h1
            | false =>
              simp [m1, m2, l1, l2, v1, v2] at h1 h2 ⊢
              rw [h1, h2]
termination_by v.length
decreasing_by all_goals (simp; omega)
theorem signs_empty {v : Str} (hs : signs v) (h1 : ends 33 v = false) (h2 : ends 91 v = false) : v = [] := by
  cases hl : v.getLast? with
  | none => simpa using hl
  | some c =>
    unfold ends at h1 h2
    rw [hl] at h1 h2
    rcases hs c (List.mem_of_getLast? hl) with rfl | rfl
    · simp at h1
    · simp at h2
theorem within_both (a b : Str) (v l : Str) (hv : signs v) (hl : signs l) (h1 : within a b v l = true) (h2 : within b a l v = true) : a = b ∧ v = l := by
  rw [within] at h1 h2
  cases l1 : ends 33 l with
  | true =>
    cases v1 : ends 33 v with
    | true =>
      have := ends_pos v1
      simp only [l1, v1, if_true] at h1 h2
      obtain ⟨e1, e2⟩ := within_both a b v.dropLast l.dropLast (signs_drop hv) (signs_drop hl) h1 h2
      refine ⟨e1, ?_⟩
      rw [ends_eq v1, ends_eq l1, e2]
    | false => simp [l1, v1] at h1
  | false =>
    cases v1 : ends 33 v with
    | true => simp [l1, v1] at h2
    | false =>
      cases l2 : ends 91 l with
      | true =>
        cases v2 : ends 91 v with
        | true =>
          have := ends_pos v2
          simp only [l1, l2, v1, v2, if_true, Bool.false_eq_true, if_false] at h1 h2
          obtain ⟨e1, e2⟩ := within_both a b v.dropLast l.dropLast (signs_drop hv) (signs_drop hl) h1 h2
          refine ⟨e1, ?_⟩
          rw [ends_eq v2, ends_eq l2, e2]
        | false => simp [l1, v1, l2, v2] at h1
      | false =>
        cases v2 : ends 91 v with
        | true => simp [l1, v1, l2, v2] at h1
        | false =>
          simp [l1, l2, v1, v2] at h1
          exact ⟨h1, by rw [signs_empty hv v1 v2, signs_empty hl l1 l2]⟩
termination_by v.length
decreasing_by all_goals (simp; omega)
theorem within_more (a : Str) (w : Str) (h : ends 33 w = false) : within a a (w ++ [33]) w = true ∧ within a a w (w ++ [33]) = false := by
  constructor
  · rw [within, h, ends_append]
    simp
    exact within_self a w
  · rw [within, h, ends_append]
    simp
end Go.Abs.B
