import Derived.Test.YtncemafmkkphjaaDoorMA4
/-! Lines, joined by ends of lines. -/
set_option linter.unusedVariables false
namespace Go.Abs.A
open M
theorem end_1 (v : Int) : p_cascadelaw01_end_1 v = some (if v = 0 then [10] else [13, 10]) := by
  unfold p_cascadelaw01_end_1 b_cascadelaw01_end_1
  rw [r_eql]
  by_cases c : v = 0
  · rw [if_pos c]
    have e : (v == 0) = true := by simpa using c
    rw [e]
  · rw [if_neg c]
    have e : (v == 0) = false := by simpa using c
    rw [e]
theorem end_ok (v : List Int) (i : Nat) : ∃ e, p_cascadelaw01_end v (i : Int) = some e ∧ (e = [10] ∨ e = [13, 10]) := by
  have h1 : ∀ n : Int, ∃ e, p_cascadelaw01_end_1 n = some e ∧ (e = [10] ∨ e = [13, 10]) := fun n => by
    rw [end_1]
    by_cases c : n = 0
    · exact ⟨_, rfl, .inl (if_pos c)⟩
    · exact ⟨_, rfl, .inr (if_neg c)⟩
  unfold p_cascadelaw01_end p_cascadelaw01_end_0 b_cascadelaw01_end_0
  rw [r_len]
  by_cases hi : i < v.length
  · rw [lss_true hi]
    simp only [r_idx (List.getElem?_eq_getElem hi)]
    exact h1 _
  · rw [lss_false (by omega)]
    exact h1 0
/-- A text without breaks, an end of a line, and the rest. -/
theorem brk_app : ∀ (a : Str) (t : Str), brk a = a.length → brk (a ++ t) = a.length + brk t
  | [], t, _ => by simp
  | b :: l, t, h => by
    by_cases c : isBrk b
    · rw [brk, if_pos c] at h; simp at h
    · rw [brk, if_neg c] at h
      rw [List.cons_append, brk, if_neg c, brk_app l t (by simpa using h)]
      simp; omega
theorem lines_app (a e t : Str) (ha : brk a = a.length) (he : e = [10] ∨ e = [13, 10]) : lines (a ++ (e ++ t)) = a :: lines t := by
  have hb : brk (a ++ (e ++ t)) = a.length := by
    rw [brk_app a _ ha]
    rcases he with rfl | rfl
    · simp [brk]
    · simp [brk]
  have hlt : brk (a ++ (e ++ t)) < (a ++ (e ++ t)).length := by
    rw [hb]
    rcases he with rfl | rfl <;> simp
  rw [lines_at hlt, hb, List.take_left]
  congr 2
  unfold skip
  have g0 : (a ++ (e ++ t))[a.length]? = (e ++ t)[0]? := by rw [List.getElem?_append_right (Nat.le_refl _), Nat.sub_self]
  have g1 : (a ++ (e ++ t))[a.length + 1]? = (e ++ t)[1]? := by rw [List.getElem?_append_right (by omega), show a.length + 1 - a.length = 1 by omega]
  rw [g0, g1]
  rcases he with rfl | rfl
  · rw [if_neg (by simp), List.drop_append, List.drop_eq_nil_of_le (by omega), show a.length + 1 - a.length = 1 by omega]
    rfl
  · rw [if_pos (by simp), List.drop_append, List.drop_eq_nil_of_le (by omega), show a.length + 2 - a.length = 2 by omega]
    rfl
theorem lines_one {a : Str} : (lines a).length = 1 → brk a = a.length := fun h => by
  have h2 := brk_le a
  by_cases c : brk a < a.length
  · rw [lines_at c] at h
    simp only [List.length_cons] at h
    have : 0 < (lines (a.drop (skip a (brk a)))).length := by
      by_cases d : brk (a.drop (skip a (brk a))) < (a.drop (skip a (brk a))).length
      · rw [lines_at d]; simp
      · rw [lines_end (by omega)]; simp
    omega
  · omega
theorem lines_pos (a : Str) : 1 ≤ (lines a).length := by
  by_cases d : brk a < a.length
  · rw [lines_at d]; simp
  · rw [lines_end (by omega)]; simp
theorem last_loop (l : List Str) (hl : l.length ≤ 1000000000) : ∀ (k p : Nat), l.length - p ≤ k → p_cascadelaw01_TextEnds_9 l l (p : Int) = some true
  | k, p, hk => by
    rw [u_cascadelaw01_TextEnds_9]
    unfold b_cascadelaw01_TextEnds_9
    rw [r_len]
    by_cases hp : p < l.length
    · rw [lss_true hp]
      have hx : l[p]? = some l[p] := List.getElem?_eq_getElem hp
      simp only [r_idx hx, r_seq]
      have e : (l[p] == l[p]) = true := by simp
      simp only [e]
      rw [M.r_add (by unfold fit64; omega)]
      cases k with
      | zero => omega
      | succ k => exact last_loop l hl k (p + 1) (by omega)
    · rw [lss_false (by omega)]
/-- What has been joined so far reads as the lines so far. -/
def joined (l : List Str) (i : Nat) (s : Str) : Prop := if i < l.length then ∀ t, lines (s ++ t) = l.take i ++ lines t else lines s = l
theorem ends_6 (l : List Str) (v : List Int) (s : Str) (i : Nat) (hi : i ≤ 1000) : p_cascadelaw01_TextEnds_6 l v s (i : Int) = some (.inl (l, v, s, ((i + 1 : Nat) : Int))) := by
  unfold p_cascadelaw01_TextEnds_6 b_cascadelaw01_TextEnds_6
  rw [M.r_add (by unfold fit64; omega)]
  rfl
theorem ends_loop (l : List Str) (hl : l.length ≤ 20) (v : List Int) : ∀ (k i : Nat) (s : Str), l.length - i ≤ k → i ≤ l.length → s.length ≤ 42 * i → joined l i s → p_cascadelaw01_TextEnds_2 l v s (i : Int) = some true
  | k, i, s, hk, hi, hs, hj => by
    rw [u_cascadelaw01_TextEnds_2]
    unfold b_cascadelaw01_TextEnds_2
    rw [r_len]
    by_cases hp : i < l.length
    · rw [lss_true hp]
      have hx : l[i]? = some l[i] := List.getElem?_eq_getElem hp
      simp only [r_idx hx]
      generalize ha : l[i] = a at hx
      unfold joined at hj
      rw [if_pos hp] at hj
      by_cases h40 : a.length ≤ 40
      · have e1 : Prims.real.cmp .gtr (Prims.real.slen a) 40 = false := by rw [r_slen, r_gtr]; simp; omega
        simp only [e1, text_Lines a (by omega)]
        by_cases h1 : (lines a).length = 1
        · have hb := lines_one h1
          have hla : lines a = [a] := lines_end (by omega)
          have e2 : Prims.real.cmp .neq (Prims.real.len (lines a)) 1 = false := by rw [r_len, r_neq, h1]; rfl
          have e3 : Prims.real.idx (lines a) 0 = some a := by rw [hla]; exact r_idx (l := [a]) (i := 0) rfl
          simp only [e2, e3, r_seq]
          have e4 : (a == a) = true := by simp
          rw [e4]
          simp only
          rw [r_scat (by omega)]
          simp only
          rw [r_sub64 (by unfold fit64; omega)]
          have htk : l.take (i + 1) = l.take i ++ [a] := by
            rw [List.take_add_one, hx]; rfl
          cases k with
          | zero => omega
          | succ k =>
            by_cases hlast : i + 1 < l.length
            · have e5 : Prims.real.cmp .lss (i : Int) ((l.length : Int) - 1) = true := by rw [r_lss]; simp; omega
              rw [e5]
              obtain ⟨e, he, hee⟩ := end_ok v i
              have hel : e.length ≤ 2 := by rcases hee with rfl | rfl <;> simp
              simp only [he]
              rw [r_scat (by simp; omega)]
              simp only
              rw [ends_6 l v _ i (by omega)]
              simp only
              refine ends_loop l hl v k (i + 1) _ (by omega) (by omega) (by simp; omega) ?_
              unfold joined
              rw [if_pos hlast]
              intro t
              rw [List.append_assoc, List.append_assoc, hj, lines_app a e t hb hee, htk]
              simp
            · have e5 : Prims.real.cmp .lss (i : Int) ((l.length : Int) - 1) = false := by rw [r_lss]; simp; omega
              rw [e5]
              simp only
              rw [ends_6 l v _ i (by omega)]
              simp only
              refine ends_loop l hl v k (i + 1) _ (by omega) (by omega) (by simp; omega) ?_
              unfold joined
              rw [if_neg hlast, hj, hla, ← htk, List.take_of_length_le (by omega)]
        · have e2 : Prims.real.cmp .neq (Prims.real.len (lines a)) 1 = true := by rw [r_len, r_neq]; simp; omega
          have := lines_pos a
          have e3 : Prims.real.cmp .gtr (Prims.real.len (lines a)) 1 = true := by rw [r_len, r_gtr]; simp; omega
          simp only [e2, e3]
      · have e1 : Prims.real.cmp .gtr (Prims.real.slen a) 40 = true := by rw [r_slen, r_gtr]; simp; omega
        simp only [e1]
    · rw [lss_false (by omega)]
      unfold joined at hj
      rw [if_neg hp] at hj
      simp only [text_Lines s (by omega), hj]
      have e : Prims.real.cmp .neq (Prims.real.len l) (l.length : Int) = false := by rw [r_len, r_neq]; simp
      simp only [e]
      have := last_loop l (by omega) _ 0 (Nat.le_refl _)
      rw [show ((0 : Nat) : Int) = 0 from rfl] at this
      rw [this]
theorem TextEnds (l : List Str) (v : List Int) : p_cascadelaw01_TextEnds l v = some true := by
  unfold p_cascadelaw01_TextEnds p_cascadelaw01_TextEnds_0 b_cascadelaw01_TextEnds_0
  simp only [awake01, r_gtr, r_len, r_eql]
  by_cases h0 : l.length = 0
  · have e : ((l.length : Int) == 0) = true := by simp; exact List.eq_nil_of_length_eq_zero h0
    simp only [e]
  · have e : ((l.length : Int) == 0) = false := by simp; intro h; subst h; exact h0 rfl
    simp only [e]
    by_cases h1 : l.length ≤ 20
    · have e1 : decide ((l.length : Int) > 20) = false := by simp; omega
      simp only [e1]
      by_cases h2 : v.length ≤ 20
      · have e2 : decide ((v.length : Int) > 20) = false := by simp; omega
        simp only [e2]
        refine ends_loop l h1 v _ 0 [] (Nat.le_refl _) (Nat.zero_le _) (by simp) ?_
        unfold joined
        rw [if_pos (by omega)]
        intro t
        rfl
      · have e2 : decide ((v.length : Int) > 20) = true := by simp; omega
        simp only [e2]
    · have e1 : decide ((l.length : Int) > 20) = true := by simp; omega
      simp only [e1]
end Go.Abs.A
