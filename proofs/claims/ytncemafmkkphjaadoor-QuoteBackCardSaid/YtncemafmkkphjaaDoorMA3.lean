import Derived.Test.YtncemafmkkphjaaDoorMA2
/-! Runes: the reference's reading is the library's. -/
set_option linter.unusedVariables false
namespace Go.Abs.A
open M
/-- The runes of a text from a place on. -/
def runes (s : Str) (p : Nat) : List Int :=
  if h : p < s.length then ((dec (s.drop p)).1 : Int) :: runes s (p + (dec (s.drop p)).2) else []
termination_by s.length - p
decreasing_by
  have := (dec_size (l := s.drop p) (by simp; omega)).1
  omega
theorem size_at {s : Str} {p : Nat} (hp : p < s.length) : 1 ≤ (dec (s.drop p)).2 ∧ p + (dec (s.drop p)).2 ≤ s.length := by
  obtain ⟨h1, h2⟩ := dec_size (l := s.drop p) (by simp; omega)
  simp only [List.length_drop] at h2
  omega
theorem badAt_at {s : Str} {p : Nat} (hp : p < s.length) : badAt s p = if dec (s.drop p) = (65533, 1) then (p : Int) else badAt s (p + (dec (s.drop p)).2) := by
  rw [badAt, dif_pos hp]
theorem badAt_end {s : Str} {p : Nat} (hp : s.length ≤ p) : badAt s p = -1 := by rw [badAt, dif_neg (by omega)]
theorem badAt_neg (s : Str) : ∀ (k p : Nat), s.length - p ≤ k → badAt s p < 0 → badAt s p = -1
  | k, p, hk, h => by
    by_cases hp : p < s.length
    · rw [badAt_at hp] at h ⊢
      have h1 := size_at hp
      by_cases c : dec (s.drop p) = (65533, 1)
      · rw [if_pos c] at h; omega
      · rw [if_neg c] at h ⊢
        cases k with
        | zero => omega
        | succ k => exact badAt_neg s k _ (by omega) h
    · exact badAt_end (by omega)
theorem runes_at {s : Str} {p : Nat} (hp : p < s.length) : runes s p = ((dec (s.drop p)).1 : Int) :: runes s (p + (dec (s.drop p)).2) := by rw [runes, dif_pos hp]
theorem runes_end {s : Str} {p : Nat} (hp : s.length ≤ p) : runes s p = [] := by rw [runes, dif_neg (by omega)]
theorem lss_true {a b : Nat} (h : a < b) : Prims.real.cmp .lss (a : Int) (b : Int) = true := by rw [r_lss]; simp; exact h
theorem lss_false {a b : Nat} (h : b ≤ a) : Prims.real.cmp .lss (a : Int) (b : Int) = false := by rw [r_lss]; simp; exact h
theorem ref_Bad_loop (s : Str) (hs : s.length ≤ 4611686018427387000) : ∀ (k p : Nat), s.length - p ≤ k → p_cascaderef01_Bad_1 s (p : Int) = some (badAt s p)
  | k, p, hk => by
    rw [u_cascaderef01_Bad_1]
    unfold b_cascaderef01_Bad_1
    rw [r_slen]
    by_cases hp : p < s.length
    · rw [lss_true hp]
      simp only [ref_Size s hs p hp]
      obtain ⟨h1, h2⟩ := size_at hp
      rw [badAt_at hp]
      unfold szOf
      by_cases c : dec (s.drop p) = (65533, 1)
      · simp only [if_pos c, r_eql]
        rfl
      · simp only [if_neg c, r_eql]
        have e : ((((dec (s.drop p)).2 : Nat) : Int) == 0) = false := by simp; omega
        simp only [e]
        rw [r_add (by unfold fit64; omega)]
        cases k with
        | zero => omega
        | succ k => exact ref_Bad_loop s hs k _ (by omega)
    · rw [lss_false (by omega), badAt_end (by omega)]
theorem ref_Bad (s : Str) (hs : s.length ≤ 4611686018427387000) : p_cascaderef01_Bad s = some (badAt s 0) := by
  unfold p_cascaderef01_Bad p_cascaderef01_Bad_0 b_cascaderef01_Bad_0
  exact ref_Bad_loop s hs _ 0 (Nat.le_refl _)
theorem ref_Right (s : Str) (hs : s.length ≤ 4611686018427387000) : p_cascaderef01_Right s = some (badAt s 0 == -1) := by
  unfold p_cascaderef01_Right p_cascaderef01_Right_0 b_cascaderef01_Right_0
  simp only [ref_Bad s hs, r_eql]
theorem Runes_loop (s : Str) : ∀ (k p g : Nat) (l : List Int), s.length - p ≤ k → l.length + (s.length - p) ≤ 1000000 → p_text_Runes_2 g l s p = some (l ++ runes s p)
  | k, p, g, l, hk, hl => by
    rw [u_text_Runes_2]
    unfold b_text_Runes_2
    by_cases hp : p < s.length
    · obtain ⟨h1, h2⟩ := size_at hp
      rw [sit_at hp, runes_at hp]
      simp only
      rw [M.r_app (by simp [room]; omega) (by simp [room]; omega)]
      simp only
      cases k with
      | zero => omega
      | succ k =>
        rw [Runes_loop s k _ _ _ (by omega) (by simp; omega)]
        simp
    · rw [sit_end (by omega), runes_end (by omega)]
      simp
theorem text_Runes (s : Str) (hs : s.length ≤ 1000000) : p_text_Runes s = some (if badAt s 0 = -1 then runes s 0 else []) := by
  unfold p_text_Runes p_text_Runes_0 b_text_Runes_0
  simp only [text_Right]
  by_cases c : badAt s 0 < 0
  · rw [if_pos (badAt_neg s _ 0 (Nat.le_refl _) c)]
    simp only [decide_eq_true c]
    rw [Runes_loop s _ 0 0 [] (Nat.le_refl _) (by simp; omega)]
    rfl
  · rw [if_neg (by omega)]
    simp only [decide_eq_false c]
theorem ref_Runes_loop (s : Str) (hs : s.length ≤ 1000000) : ∀ (k p g : Nat) (l : List Int), s.length - p ≤ k → l.length + (s.length - p) ≤ 1000000 → badAt s p = -1 → p_cascaderef01_Runes_2 s g l (p : Int) = some (l ++ runes s p)
  | k, p, g, l, hk, hl, hb => by
    rw [u_cascaderef01_Runes_2]
    unfold b_cascaderef01_Runes_2
    rw [r_slen]
    by_cases hp : p < s.length
    · obtain ⟨h1, h2⟩ := size_at hp
      rw [badAt_at hp] at hb
      have c : ¬ dec (s.drop p) = (65533, 1) := by
        intro c
        rw [if_pos c] at hb
        omega
      rw [if_neg c] at hb
      rw [lss_true hp, runes_at hp]
      simp only [ref_Size s (by omega) p hp]
      unfold szOf
      rw [if_neg c]
      simp only
      rw [M.r_app (by simp [room]; omega) (by simp [room]; omega), r_add (by unfold fit64; omega)]
      simp only
      cases k with
      | zero => omega
      | succ k =>
        have := ref_Runes_loop s hs k _ (g + 1) (l ++ [((dec (s.drop p)).1 : Int)]) (by omega) (by simp; omega) hb
        rw [Int.natCast_add] at this
        rw [this]
        simp
    · rw [lss_false (by omega), runes_end (by omega)]
      simp
theorem ref_Runes (s : Str) (hs : s.length ≤ 1000000) : p_cascaderef01_Runes s = some (if badAt s 0 = -1 then runes s 0 else []) := by
  unfold p_cascaderef01_Runes p_cascaderef01_Runes_0 b_cascaderef01_Runes_0
  simp only [ref_Right s (by omega)]
  by_cases c : badAt s 0 = -1
  · rw [if_pos c]
    have e : (badAt s 0 == -1) = true := by simpa using c
    simp only [e]
    have := ref_Runes_loop s hs _ 0 0 [] (Nat.le_refl _) (by simp; omega) c
    exact this
  · rw [if_neg c]
    have e : (badAt s 0 == -1) = false := by simpa using c
    simp only [e]
theorem same_loop (l : List Int) (hl : l.length ≤ 1000000000) : ∀ (k p : Nat), l.length - p ≤ k → p_cascadelaw01_same_2 l l (p : Int) = some true
  | k, p, hk => by
    rw [u_cascadelaw01_same_2]
    unfold b_cascadelaw01_same_2
    rw [r_len]
    by_cases hp : p < l.length
    · rw [lss_true hp]
      have hx : l[p]? = some l[p] := List.getElem?_eq_getElem hp
      simp only [r_idx hx, r_neq]
      have e : (l[p] != l[p]) = false := by simp
      simp only [e]
      rw [r_add (by unfold fit64; omega)]
      cases k with
      | zero => omega
      | succ k => exact same_loop l hl k (p + 1) (by omega)
    · rw [lss_false (by omega)]
theorem same_self (l : List Int) (hl : l.length ≤ 1000000000) : p_cascadelaw01_same l l = some true := by
  unfold p_cascadelaw01_same p_cascadelaw01_same_0 b_cascadelaw01_same_0
  rw [r_len, r_neq]
  have e : ((l.length : Int) != (l.length : Int)) = false := by simp
  rw [e]
  exact same_loop l hl _ 0 (Nat.le_refl _)
theorem runes_len (s : Str) : ∀ (k p : Nat), s.length - p ≤ k → (runes s p).length ≤ s.length - p
  | k, p, hk => by
    by_cases hp : p < s.length
    · obtain ⟨h1, h2⟩ := size_at hp
      rw [runes_at hp]
      cases k with
      | zero => omega
      | succ k =>
        have := runes_len s k (p + (dec (s.drop p)).2) (by omega)
        simp
        omega
    · rw [runes_end (by omega)]; simp
theorem TextRight (s : Str) : p_cascadelaw01_TextRight s = some true := by
  unfold p_cascadelaw01_TextRight p_cascadelaw01_TextRight_0 b_cascadelaw01_TextRight_0
  simp only [awake01, r_gtr, r_slen]
  by_cases hl : s.length ≤ 400
  · have e : decide ((s.length : Int) > 400) = false := by simp; omega
    have hr := runes_len s _ 0 (Nat.le_refl _)
    simp only [e, ref_Bad s (by omega), text_Bad, text_Right, r_eql, beq_self_eq_true, text_Runes s (by omega), ref_Runes s (by omega)]
    by_cases c : badAt s 0 = -1
    · have e2 : (badAt s 0 == -1) = true := by simpa using c
      have e1 : decide (badAt s 0 < 0) = true := by simp; omega
      simp only [e1, e2, if_pos c, same_self (runes s 0) (by omega)]
    · have e2 : (badAt s 0 == -1) = false := by simpa using c
      have e1 : decide (badAt s 0 < 0) = false := by
        simp only [decide_eq_false_iff_not]
        intro h
        exact c (badAt_neg s _ 0 (Nat.le_refl _) h)
      simp only [e1, e2, if_neg c, same_self [] (by simp)]
  · have e : decide ((s.length : Int) > 400) = true := by simp; omega
    simp only [e]
end Go.Abs.A
