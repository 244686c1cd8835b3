import Derived.Test.YtncemafmkkphjaaDoorMA3
import Derived.Test.YtncemafmkkphjaaDoorM1
/-! Texts of runes. -/
set_option linter.unusedVariables false
namespace Go.Abs.A
open M
theorem valid (r : Int) : p_unicode_utf8_ValidRune r = some (vr r) := by
  unfold p_unicode_utf8_ValidRune p_unicode_utf8_ValidRune_0 b_unicode_utf8_ValidRune_0 p_unicode_utf8_ValidRune_1 b_unicode_utf8_ValidRune_1
  simp only [r_leq, r_lss]
  (repeat' split) <;> simp_all [vr] <;> omega
theorem ref_Rune (r : Int) (h1 : -2147483648 ≤ r) (h2 : r ≤ 2147483647) : p_cascaderef01_Rune r = some (if vr r then enc r else []) := by
  unfold p_cascaderef01_Rune p_cascaderef01_Rune_0 b_cascaderef01_Rune_0
  rw [r_wrap64 (by unfold fit64; omega)]
  by_cases c : vr r = true
  · rw [if_pos c]
    simp only [vr, decide_eq_true_eq] at c
    have hend : (match Prims.real.cmp .lss r 0 with
      | false => match Prims.real.cmp .gtr r 1114111 with
        | false => match Prims.real.cmp .geq r 55296 with
          | false => p_cascaderef01_Rune_1 r
          | true => match Prims.real.cmp .lss r 57344 with
            | false => p_cascaderef01_Rune_1 r
            | true => some []
        | true => some []
      | true => some []) = p_cascaderef01_Rune_1 r := by
      rw [lss_f (by omega), gtr_f (by omega)]
      by_cases g : r < 55296
      · rw [geq_f g]
      · rw [geq_t (by omega), lss_f (by omega)]
    refine Eq.trans hend ?_
    unfold p_cascaderef01_Rune_1 b_cascaderef01_Rune_1 enc Lib.encodeRune
    by_cases c1 : r ≤ 127
    · rw [lss_t (by omega), Lib.encodeRuneZ_one (by omega) c1]
      simp only [r_ofBytes, r_wrap8 (a := r) (by omega) (by omega)]
    by_cases c2 : r ≤ 2047
    · rw [lss_f (by omega), lss_t (by omega), Lib.encodeRuneZ_two (by omega) c2]
      simp only
      rw [r_quo (by omega) (by omega) (by omega), r_rem (by omega) (by omega)]
      simp only
      rw [r_add (a := 192) (by unfold fit64; omega), r_add (a := 128) (by unfold fit64; omega), r_wrap8 (by omega) (by omega), r_wrap8 (by omega) (by omega)]
      rfl
    by_cases c3 : r ≤ 65535
    · rw [lss_f (by omega), lss_f (by omega), lss_t (by omega), Lib.encodeRuneZ_three (by omega)]
      simp only
      rw [r_quo (by omega) (by omega) (by omega), r_quo (by omega) (by omega) (by omega), r_rem (k := .i64) (a := r) (by omega) (by omega)]
      simp only
      rw [r_rem (by omega) (by omega)]
      simp only
      rw [r_add (by unfold fit64; omega), r_add (by unfold fit64; omega), r_add (by unfold fit64; omega), r_wrap8 (by omega) (by omega), r_wrap8 (by omega) (by omega), r_wrap8 (by omega) (by omega)]
      rfl
    · rw [lss_f (by omega), lss_f (by omega), lss_f (by omega), Lib.encodeRuneZ_four (by omega) (by omega)]
      simp only
      rw [r_quo (by omega) (by omega) (by omega), r_quo (by omega) (by omega) (by omega), r_quo (by omega) (by omega) (by omega), r_rem (k := .i64) (a := r) (by omega) (by omega)]
      simp only
      rw [r_rem (by omega) (by omega), r_rem (by omega) (by omega)]
      simp only
      rw [r_add (by unfold fit64; omega), r_add (by unfold fit64; omega), r_add (by unfold fit64; omega), r_add (by unfold fit64; omega), r_wrap8 (by omega) (by omega), r_wrap8 (by omega) (by omega), r_wrap8 (by omega) (by omega), r_wrap8 (by omega) (by omega)]
      rfl
  · rw [if_neg c]
    simp only [vr, decide_eq_true_eq] at c
    by_cases g1 : r < 0
    · rw [lss_t g1]
    by_cases g2 : 1114111 < r
    · rw [lss_f (by omega), gtr_t g2]
    · rw [lss_f (by omega), gtr_f (by omega), geq_t (by omega), lss_t (b := 57344) (by omega)]
/-- What comes of runes. -/
def ofR (l : List Int) : Str × Int := if l.all vr then (l.flatMap enc, 0) else ([], 2)
theorem Of_loop (l : List Int) (hl : l.length ≤ 1000000) : ∀ (k i : Nat) (s : Str) (u : Bool) (g : Nat), l.length - i ≤ k → s.length + 4 * (l.length - i) ≤ 100000000 →
    p_text_Of_1 l l.length (i : Int) u g s = some (if (l.drop i).all vr then (s ++ (l.drop i).flatMap enc, 0) else ([], 2))
  | k, i, s, u, g, hk, hs => by
    rw [u_text_Of_1]
    unfold b_text_Of_1
    by_cases hi : i < l.length
    · rw [lss_true hi]
      have hx : l[i]? = some l[i] := List.getElem?_eq_getElem hi
      have hd : l.drop i = l[i] :: l.drop (i + 1) := List.drop_eq_getElem_cons hi
      simp only [r_idx hx, valid]
      rw [hd]
      simp only [List.all_cons, List.flatMap_cons]
      cases c : vr l[i] with
      | false => simp
      | true =>
        have c' := c
        simp only [vr, decide_eq_true_eq] at c'
        have he := enc_len l[i]
        have hw : p_strings_Builder_WriteRune s l[i] = some (s ++ enc l[i], ((enc l[i]).length : Int)) := brune_some (by omega) (by omega)
        simp only [hw, Bool.true_and]
        rw [r_add (by unfold fit64; omega)]
        cases k with
        | zero => omega
        | succ k =>
          have := Of_loop l hl k (i + 1) (s ++ enc l[i]) true (g + 1) (by omega) (by simp only [List.length_append]; omega)
          rw [show ((i : Int) + 1) = ((i + 1 : Nat) : Int) by omega, this]
          simp only [List.append_assoc]
    · rw [lss_false (by omega), List.drop_eq_nil_of_le (by omega)]
      simp [p_strings_Builder_String, btext]
theorem text_Of (l : List Int) (hl : l.length ≤ 1000000) : p_text_Of l = some (ofR l) := by
  unfold p_text_Of p_text_Of_0 b_text_Of_0
  have := Of_loop l hl _ 0 [] false 0 (Nat.le_refl _) (by simp; omega)
  simpa [ofR, r_len] using this
theorem ref_Of_loop (l : List Int) (hl : l.length ≤ 1000000) (hr : ∀ r ∈ l, -2147483648 ≤ r ∧ r ≤ 2147483647) : ∀ (k i : Nat) (s : Str), l.length - i ≤ k → s.length + 4 * (l.length - i) ≤ 100000000 →
    p_cascaderef01_Of_1 l s (i : Int) = some (if (l.drop i).all vr then (s ++ (l.drop i).flatMap enc, 0) else ([], 2))
  | k, i, s, hk, hs => by
    rw [u_cascaderef01_Of_1]
    unfold b_cascaderef01_Of_1
    rw [r_len]
    by_cases hi : i < l.length
    · rw [lss_true hi]
      have hx : l[i]? = some l[i] := List.getElem?_eq_getElem hi
      have hd : l.drop i = l[i] :: l.drop (i + 1) := List.drop_eq_getElem_cons hi
      obtain ⟨q1, q2⟩ := hr l[i] (List.getElem_mem hi)
      simp only [r_idx hx, ref_Rune _ q1 q2]
      rw [hd]
      simp only [List.all_cons, List.flatMap_cons]
      cases c : vr l[i] with
      | false =>
        simp only [Bool.false_eq_true, if_false, Bool.false_and]
        rw [seq_t rfl]
      | true =>
        have he := enc_len l[i]
        simp only [if_true, Bool.true_and]
        rw [seq_f (by intro e; rw [e] at he; simp at he)]
        simp only
        rw [r_scat (by omega)]
        simp only
        rw [r_add (by unfold fit64; omega)]
        cases k with
        | zero => omega
        | succ k =>
          have := ref_Of_loop l hl hr k (i + 1) (s ++ enc l[i]) (by omega) (by simp only [List.length_append]; omega)
          rw [show ((i : Int) + 1) = ((i + 1 : Nat) : Int) by omega, this]
          simp only [List.append_assoc]
    · rw [lss_false (by omega), List.drop_eq_nil_of_le (by omega)]
      simp
theorem ref_Of (l : List Int) (hl : l.length ≤ 1000000) (hr : ∀ r ∈ l, -2147483648 ≤ r ∧ r ≤ 2147483647) : p_cascaderef01_Of l = some (ofR l) := by
  unfold p_cascaderef01_Of p_cascaderef01_Of_0 b_cascaderef01_Of_0
  have := ref_Of_loop l hl hr _ 0 [] (Nat.le_refl _) (by simp; omega)
  simpa [ofR] using this
/-- The runes of a text of runes are those. -/
theorem enc_runes : ∀ (l : List Int) (s : Str) (p : Nat), p ≤ s.length → s.drop p = l.flatMap enc → l.all vr = true → badAt s p = -1 ∧ runes s p = l
  | [], s, p, hp, hd, _ => by
    have hp' : s.length ≤ p := by simpa using hd
    exact ⟨badAt_end hp', runes_end hp'⟩
  | r :: l, s, p, hp, hd, hv => by
    simp only [List.all_cons, Bool.and_eq_true] at hv
    simp only [List.flatMap_cons] at hd
    have hl := enc_len r
    have hlen := congrArg List.length hd
    simp only [List.length_drop, List.length_append] at hlen
    have hp' : p < s.length := by omega
    have h1 := dec_enc (l.flatMap enc) hv.1
    rw [← hd] at h1
    have h2 := dec_enc_ok (l.flatMap enc) hv.1
    rw [← hd] at h2
    rw [badAt_at hp', if_neg h2, runes_at hp', h1]
    obtain ⟨q1, q2⟩ := enc_runes l s (p + (enc r).length) (by omega) (by rw [← List.drop_drop, hd, List.drop_left]) hv.2
    refine ⟨q1, ?_⟩
    rw [q2]
    have := hv.1
    simp only [vr, decide_eq_true_eq] at this
    congr 1
    simp only
    omega
theorem ofR_len (l : List Int) : (l.flatMap enc).length ≤ 4 * l.length := by
  induction l with
  | nil => simp
  | cons r l ih =>
    have := enc_len r
    simp only [List.flatMap_cons, List.length_append, List.length_cons]
    omega
theorem TextOf (l : List Int) (hr : ∀ r ∈ l, -2147483648 ≤ r ∧ r ≤ 2147483647) : p_cascadelaw01_TextOf l = some true := by
  unfold p_cascadelaw01_TextOf p_cascadelaw01_TextOf_0 b_cascadelaw01_TextOf_0
  simp only [awake01]
  rw [r_len]
  by_cases hl : l.length ≤ 200
  · rw [gtr_f (by omega)]
    simp only [text_Of l (by omega), ref_Of l (by omega) hr]
    rw [seq_t rfl, eql_t rfl]
    simp only
    unfold ofR
    cases c : l.all vr with
    | false =>
      simp only [Bool.false_eq_true, if_false]
      rw [neq_t (by omega)]
    | true =>
      simp only [if_true]
      rw [neq_f rfl]
      simp only
      obtain ⟨q1, q2⟩ := enc_runes l (l.flatMap enc) 0 (Nat.zero_le _) (by simp) c
      have := ofR_len l
      rw [text_Runes _ (by omega), if_pos q1, q2]
      simp only
      rw [same_self l (by omega)]
  · rw [gtr_t (by omega)]
/-- A text comes again from its runes. -/
theorem runes_enc (s : Str) : ∀ (k p : Nat), s.length - p ≤ k → badAt s p = -1 → (runes s p).flatMap enc = s.drop p ∧ (runes s p).all vr = true
  | k, p, hk, hb => by
    by_cases hp : p < s.length
    · obtain ⟨h1, h2⟩ := size_at hp
      rw [badAt_at hp] at hb
      rw [runes_at hp]
      by_cases c : dec (s.drop p) = (65533, 1)
      · rw [if_pos c] at hb; omega
      · rw [if_neg c] at hb
        cases k with
        | zero => omega
        | succ k =>
          obtain ⟨q1, q2⟩ := runes_enc s k _ (by omega) hb
          simp only [List.flatMap_cons, List.all_cons, q2, dec_vr, Bool.and_self, and_true]
          rw [enc_dec (by simp; omega) c, q1, ← List.drop_drop, List.take_append_drop]
    · rw [runes_end (by omega), List.drop_eq_nil_of_le (by omega)]
      exact ⟨rfl, rfl⟩
/-- What stands ahead of the first place where no rune begins is a text. -/
theorem bad_take (s : Str) (n : Nat) : ∀ (k p : Nat), s.length - p ≤ k → badAt s p = (n : Int) → p ≤ n ∧ n < s.length ∧ badAt (s.take n) p = -1
  | k, p, hk, hb => by
    by_cases hp : p < s.length
    · obtain ⟨h1, h2⟩ := size_at hp
      rw [badAt_at hp] at hb
      by_cases c : dec (s.drop p) = (65533, 1)
      · rw [if_pos c] at hb
        have : p = n := by omega
        subst this
        exact ⟨Nat.le_refl _, hp, badAt_end (by simp; omega)⟩
      · rw [if_neg c] at hb
        cases k with
        | zero => omega
        | succ k =>
          obtain ⟨q1, q2, q3⟩ := bad_take s n k _ (by omega) hb
          refine ⟨by omega, q2, ?_⟩
          have hne : s.drop p ≠ [] := by simp; omega
          have hv := dec_vr (l := s.drop p)
          have he := enc_dec hne c
          have hd : (s.take n).drop p = enc ((dec (s.drop p)).1 : Int) ++ ((s.take n).drop p).drop (dec (s.drop p)).2 := by
            rw [he]
            have h5 : ((s.take n).drop p).take (dec (s.drop p)).2 = (s.drop p).take (dec (s.drop p)).2 := by
              rw [List.drop_take, List.take_take, Nat.min_eq_left (by omega)]
            rw [← h5, List.take_append_drop]
          generalize ((s.take n).drop p).drop (dec (s.drop p)).2 = rest at hd
          have h3 := dec_enc rest hv
          have h4 := dec_enc_ok rest hv
          rw [← hd] at h3 h4
          rw [badAt_at (by simp; omega), if_neg h4, h3]
          have : (enc ((dec (s.drop p)).1 : Int)).length = (dec (s.drop p)).2 := by
            rw [he]; simp; omega
          simp only [this]
          exact q3
    · rw [badAt_end (by omega)] at hb; omega
theorem badAt_range (s : Str) : badAt s 0 = -1 ∨ ∃ n : Nat, badAt s 0 = (n : Int) := by
  by_cases c : badAt s 0 < 0
  · exact .inl (badAt_neg s _ 0 (Nat.le_refl _) c)
  · exact .inr ⟨(badAt s 0).toNat, by omega⟩
end Go.Abs.A
