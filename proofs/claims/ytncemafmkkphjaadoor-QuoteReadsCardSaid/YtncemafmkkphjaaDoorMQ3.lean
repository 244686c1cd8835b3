import Derived.Test.YtncemafmkkphjaaDoorMQ2
/-! Quoted texts: the reference reads the same. -/
set_option linter.unusedVariables false
namespace Go.Abs.A
open M
def fourS : Str → Int
  | a :: b :: c :: d :: _ => four a b c d
  | _ => -1
theorem unitS_two (x y : UInt8) (r : Str) : unitS (x :: y :: r) = if x = 92 ∧ y = 117 then fourS r else -1 := by
  match r with
  | [] | [_] | [_, _] | [_, _, _] => simp [unitS, fourS]
  | a :: b :: c :: d :: r => rfl
theorem unitS_few {l : Str} (h : l.length < 2) : unitS l = -1 := by
  match l with
  | [] | [_] => rfl
  | _ :: _ :: _ => simp at h; omega
theorem four_6 (s : Str) (a n i d : Int) (h0 : 0 ≤ n) (h1 : n ≤ 4095) (h2 : -1 ≤ d) (h3 : d ≤ 15) (hi : 0 ≤ i ∧ i ≤ 2000000) : p_cascaderef02_four_6 s a n i d = if d < 0 then some (.inr (-1)) else some (.inl (s, a, n * 16 + d, i + 1)) := by
  unfold p_cascaderef02_four_6 b_cascaderef02_four_6
  by_cases c : d < 0
  · rw [lss_t c, if_pos c]
  · rw [lss_f (by omega), if_neg c, r_mul (by unfold fit64; omega), r_add (by unfold fit64; omega), r_add (by unfold fit64; omega)]
theorem four_5 (s : Str) (a n i c d : Int) (hc : 0 ≤ c ∧ c < 256) : p_cascaderef02_four_5 s a n i c d = p_cascaderef02_four_6 s a n i (if 65 ≤ c ∧ c ≤ 70 then c - 55 else d) := by
  unfold p_cascaderef02_four_5 b_cascaderef02_four_5
  by_cases c1 : 65 ≤ c
  · rw [geq_t c1]
    by_cases c2 : c ≤ 70
    · rw [leq_t c2, if_pos ⟨c1, c2⟩, r_sub64 (by unfold fit64; omega)]
    · rw [leq_f (by omega), if_neg (by omega)]
  · rw [geq_f (by omega), if_neg (by omega)]
theorem four_4 (s : Str) (a n i c d : Int) (hc : 0 ≤ c ∧ c < 256) : p_cascaderef02_four_4 s a n i c d = p_cascaderef02_four_5 s a n i c (if 97 ≤ c ∧ c ≤ 102 then c - 87 else d) := by
  unfold p_cascaderef02_four_4 b_cascaderef02_four_4
  by_cases c1 : 97 ≤ c
  · rw [geq_t c1]
    by_cases c2 : c ≤ 102
    · rw [leq_t c2, if_pos ⟨c1, c2⟩, r_sub64 (by unfold fit64; omega)]
    · rw [leq_f (by omega), if_neg (by omega)]
  · rw [geq_f (by omega), if_neg (by omega)]
theorem four_step (s : Str) (a : Int) (n : Int) (i : Nat) (ha : (i : Int) < a + 4) (ha0 : 0 ≤ a ∧ a ≤ 2000000) {b : UInt8} (hb : s[i]? = some b) (hi : i ≤ 2000000) (h0 : 0 ≤ n) (h1 : n ≤ 4095) :
    p_cascaderef02_four_2 s a n (i : Int) = if hexd b.toNat < 0 then some (-1) else p_cascaderef02_four_2 s a (n * 16 + hexd b.toNat) ((i + 1 : Nat) : Int) := by
  have hc := b.toNat_lt
  have hh := hexd_le b.toNat
  rw [u_cascaderef02_four_2]
  have key : b_cascaderef02_four_2 Prims.real p_cascaderef02_four_4 s a n (i : Int) = if hexd b.toNat < 0 then some (.inr (-1)) else some (.inl (s, a, n * 16 + hexd b.toNat, ((i + 1 : Nat) : Int))) := by
    unfold b_cascaderef02_four_2
    rw [r_add (by unfold fit64; omega), lss_t (by omega), r_sidx hb]
    simp only [byte64]
    have e : (match Prims.real.cmp .geq (b.toNat : Int) 48 with
      | false => p_cascaderef02_four_4 s a n (i : Int) (b.toNat : Int) (-1)
      | true => match Prims.real.cmp .leq (b.toNat : Int) 57 with
        | false => p_cascaderef02_four_4 s a n (i : Int) (b.toNat : Int) (-1)
        | true => p_cascaderef02_four_4 s a n (i : Int) (b.toNat : Int) (Prims.real.ar .sub .i64 (b.toNat : Int) 48)) = p_cascaderef02_four_4 s a n (i : Int) (b.toNat : Int) (if 48 ≤ b.toNat ∧ b.toNat ≤ 57 then (b.toNat : Int) - 48 else -1) := by
      by_cases c1 : 48 ≤ b.toNat
      · rw [geq_t (by omega)]
        by_cases c2 : b.toNat ≤ 57
        · rw [leq_t (by omega), if_pos ⟨c1, c2⟩, r_sub64 (by unfold fit64; omega)]
        · rw [leq_f (by omega), if_neg (by omega)]
      · rw [geq_f (by omega), if_neg (by omega)]
    refine Eq.trans e ?_
    rw [four_4 _ _ _ _ _ _ (by omega), four_5 _ _ _ _ _ _ (by omega)]
    have ed : (if 65 ≤ (b.toNat : Int) ∧ (b.toNat : Int) ≤ 70 then (b.toNat : Int) - 55 else if 97 ≤ (b.toNat : Int) ∧ (b.toNat : Int) ≤ 102 then (b.toNat : Int) - 87 else if 48 ≤ b.toNat ∧ b.toNat ≤ 57 then (b.toNat : Int) - 48 else -1) = hexd b.toNat := by
      unfold hexd
      repeat' split
      all_goals omega
    rw [ed, four_6 _ _ _ _ _ h0 h1 (by omega) (by omega) (by omega)]
    rfl
  rw [key]
  by_cases c : hexd b.toNat < 0
  · rw [if_pos c, if_pos c]
  · rw [if_neg c, if_neg c]
theorem four_end (s : Str) (a : Nat) (n : Int) (ha : a ≤ 2000000) : p_cascaderef02_four_2 s (a : Int) n ((a + 4 : Nat) : Int) = some n := by
  rw [u_cascaderef02_four_2]
  unfold b_cascaderef02_four_2
  rw [r_add (by unfold fit64; omega), lss_f (by omega)]
theorem ref_four (s : Str) (hs : s.length ≤ 1000000) (p : Nat) (hp : p ≤ 1000002) : p_cascaderef02_four s (p : Int) = some (fourS (s.drop p)) := by
  unfold p_cascaderef02_four p_cascaderef02_four_0 b_cascaderef02_four_0
  rw [r_slen, r_sub64 (by unfold fit64; omega)]
  by_cases hl : p + 4 ≤ s.length
  · rw [geq_f (by omega)]
    have g0 : s[p]? = some s[p] := List.getElem?_eq_getElem (by omega)
    have g1 : s[p + 1]? = some s[p + 1] := List.getElem?_eq_getElem (by omega)
    have g2 : s[p + 2]? = some s[p + 2] := List.getElem?_eq_getElem (by omega)
    have g3 : s[p + 3]? = some s[p + 3] := List.getElem?_eq_getElem (by omega)
    have hd : s.drop p = s[p] :: s[p + 1] :: s[p + 2] :: s[p + 3] :: s.drop (p + 4) := by
      rw [List.drop_eq_getElem_cons (by omega), List.drop_eq_getElem_cons (i := p + 1) (by omega), List.drop_eq_getElem_cons (i := p + 2) (by omega), List.drop_eq_getElem_cons (i := p + 3) (by omega)]
    rw [hd]
    have ha := hexd_le s[p].toNat
    have hb := hexd_le s[p + 1].toNat
    have hc := hexd_le s[p + 2].toNat
    have hd := hexd_le s[p + 3].toNat
    simp only [fourS, four]
    rw [four_step s p 0 p (by omega) (by omega) g0 (by omega) (by omega) (by omega)]
    by_cases d1 : hexd s[p].toNat < 0
    · rw [if_pos d1, if_pos d1]
    rw [if_neg d1, if_neg d1, four_step s p _ (p + 1) (by omega) (by omega) g1 (by omega) (by omega) (by omega)]
    by_cases d2 : hexd s[p + 1].toNat < 0
    · rw [if_pos d2, if_pos d2]
    rw [if_neg d2, if_neg d2, four_step s p _ (p + 1 + 1) (by omega) (by omega) g2 (by omega) (by omega) (by omega)]
    by_cases d3 : hexd s[p + 2].toNat < 0
    · rw [if_pos d3, if_pos d3]
    rw [if_neg d3, if_neg d3, four_step s p _ (p + 1 + 1 + 1) (by omega) (by omega) g3 (by omega) (by omega) (by omega)]
    by_cases d4 : hexd s[p + 3].toNat < 0
    · rw [if_pos d4, if_pos d4]
    rw [if_neg d4, if_neg d4]
    refine Eq.trans (four_end s p _ (by omega)) ?_
    congr 1
    omega
  · rw [geq_t (by omega)]
    have hl' : (s.drop p).length < 4 := by simp; omega
    have : fourS (s.drop p) = -1 := by
      match h : s.drop p with
      | [] | [_] | [_, _] | [_, _, _] => rfl
      | a :: b :: c :: d :: r => rw [h] at hl'; simp at hl'; omega
    rw [this]
abbrev signs : Str := [34, 92, 47, 98, 102, 110, 114, 116]
abbrev stands : Str := [34, 92, 47, 8, 12, 10, 13, 9]
theorem sign_step (s : Str) (p c : Int) (i : Nat) {x y : UInt8} (hi : i < 8) (hx : signs[i]? = some x) (hy : stands[i]? = some y) :
    p_cascaderef02_sign_2 s p c signs stands (i : Int) = if (x.toNat : Int) = c then some ((y.toNat : Int), 2) else p_cascaderef02_sign_2 s p c signs stands ((i + 1 : Nat) : Int) := by
  have hyl := y.toNat_lt
  rw [u_cascaderef02_sign_2]
  unfold b_cascaderef02_sign_2
  rw [r_slen, lss_t (by simp; omega), r_sidx hx]
  simp only
  by_cases e : (x.toNat : Int) = c
  · rw [eql_t e, if_pos e, r_sidx hy]
    simp only
    rw [r_wrap32 (by omega) (by omega)]
  · rw [eql_f e, if_neg e, r_add (by unfold fit64; omega)]
    rfl
theorem sign_end (s : Str) (hs : s.length ≤ 1000000) (p : Nat) (hp : p + 2 ≤ s.length) (h92 : s[p]? = some 92) {y : UInt8} (hy : s[p + 1]? = some y) :
    p_cascaderef02_sign_2 s (p : Int) (y.toNat : Int) signs stands 8 = some (escU (s.drop p)) := by
  have hyl := y.toNat_lt
  have hd : s.drop p = 92 :: y :: s.drop (p + 2) := by
    have e1 : s[p] = 92 := Option.some.inj ((List.getElem?_eq_getElem (by omega)).symm.trans h92)
    have e2 : s[p + 1] = y := Option.some.inj ((List.getElem?_eq_getElem (by omega)).symm.trans hy)
    rw [List.drop_eq_getElem_cons (by omega), List.drop_eq_getElem_cons (i := p + 1) (by omega), e1, e2]
  rw [u_cascaderef02_sign_2]
  unfold b_cascaderef02_sign_2 escU
  simp only [r_slen]
  rw [lss_f (by simp)]
  simp only
  have hu : unitS (s.drop p) = if y = 117 then fourS (s.drop (p + 2)) else -1 := by
    rw [hd, unitS_two]; simp
  by_cases c1 : y = 117
  · subst c1
    rw [neq_f (by decide)]
    rw [if_pos rfl] at hu
    have hul := unitS_le (s.drop p)
    simp only
    rw [r_add (by unfold fit64; omega), show (p : Int) + 2 = ((p + 2 : Nat) : Int) by omega, ref_four s hs _ (by omega)]
    simp only
    rw [← hu]
    by_cases c2 : unitS (s.drop p) < 0
    · rw [lss_t c2, if_pos (.inl c2)]
    rw [lss_f (by omega)]
    simp only
    by_cases c3 : unitS (s.drop p) < 55296
    · rw [lss_t c3, if_neg (by omega), if_pos (.inl c3), r_wrap32 (by omega) (by omega)]
    rw [lss_f (b := 55296) (by omega)]
    simp only
    by_cases c4 : 57343 < unitS (s.drop p)
    · rw [gtr_t c4, if_neg (by omega), if_pos (.inr c4), r_wrap32 (by omega) (by omega)]
    rw [gtr_f (b := 57343) (by omega)]
    simp only
    by_cases c5 : 56319 < unitS (s.drop p)
    · rw [gtr_t c5, if_pos (.inr (by omega))]
    rw [gtr_f (b := 56319) (by omega), if_neg (by omega), if_neg (by omega), r_sub64 (by unfold fit64; omega), List.drop_drop]
    simp only
    by_cases c6 : p + 8 ≤ s.length
    · rw [geq_f (by omega)]
      have hd6 : s.drop (p + 6) = s[p + 6] :: s[p + 7] :: s.drop (p + 8) := by
        rw [List.drop_eq_getElem_cons (by omega), List.drop_eq_getElem_cons (i := p + 7) (by omega)]
      have g6 : s[p + 6]? = some s[p + 6] := List.getElem?_eq_getElem (by omega)
      have g7 : s[p + 7]? = some s[p + 7] := List.getElem?_eq_getElem (by omega)
      have h6 := s[p + 6].toNat_lt
      have h7 := s[p + 7].toNat_lt
      rw [r_add (b := 6) (by unfold fit64; omega), r_sidx' (p + 6) (by omega) g6]
      simp only
      have hu6 : unitS (s.drop (p + 6)) = if s[p + 6] = 92 ∧ s[p + 7] = 117 then fourS (s.drop (p + 8)) else -1 := by
        rw [hd6, unitS_two]
      by_cases c7 : s[p + 6] = 92
      · rw [neq_f (by rw [c7]; decide)]
        simp only
        rw [r_add (b := 7) (by unfold fit64; omega), r_sidx' (p + 7) (by omega) g7]
        simp only
        by_cases c8 : s[p + 7] = 117
        · rw [neq_f (by rw [c8]; decide)]
          simp only
          rw [if_pos ⟨c7, c8⟩] at hu6
          have hml := unitS_le (s.drop (p + 6))
          rw [r_add (b := 8) (by unfold fit64; omega), show (p : Int) + 8 = ((p + 8 : Nat) : Int) by omega, ref_four s hs _ (by omega), ← hu6]
          simp only
          by_cases c9 : unitS (s.drop (p + 6)) < 56320
          · rw [lss_t c9, if_pos (.inl c9)]
          rw [lss_f (by omega)]
          simp only
          by_cases c10 : 57343 < unitS (s.drop (p + 6))
          · rw [gtr_t c10, if_pos (.inr c10)]
          · rw [gtr_f (by omega), if_neg (by omega), r_sub64 (a := unitS (s.drop p)) (by unfold fit64; omega), r_mul (by unfold fit64; omega), r_add (a := 65536) (by unfold fit64; omega), r_add (by unfold fit64; omega), r_sub64 (by unfold fit64; omega), r_wrap32 (by omega) (by omega)]
        · rw [if_neg (fun h => c8 h.2)] at hu6
          rw [neq_t (by intro e; exact c8 (UInt8.toNat_inj.1 (by have h : s[p + 7].toNat = 117 := by omega
                                                                 rw [h]; rfl))), hu6]
          rfl
      · rw [if_neg (fun h => c7 h.1)] at hu6
        rw [neq_t (by intro e; exact c7 (UInt8.toNat_inj.1 (by have h : s[p + 6].toNat = 92 := by omega
                                                               rw [h]; rfl))), hu6]
        rfl
    · rw [geq_t (by omega), unitS_few (l := s.drop (p + 6)) (by simp; omega)]
      rfl
  · rw [if_neg c1] at hu
    rw [neq_t (by intro e; exact c1 (UInt8.toNat_inj.1 (by have h : y.toNat = 117 := by omega
                                                           rw [h]; rfl))), hu]
    rfl
theorem ref_sign (s : Str) (hs : s.length ≤ 1000000) (p : Nat) (h92 : s[p]? = some 92) : p_cascaderef02_sign s (p : Int) = some (escS (s.drop p)) := by
  have hp := (List.getElem?_eq_some_iff.1 h92).1
  unfold p_cascaderef02_sign p_cascaderef02_sign_0 b_cascaderef02_sign_0
  rw [r_slen, r_sub64 (by unfold fit64; omega)]
  by_cases h2 : p + 2 ≤ s.length
  · rw [geq_f (by omega), r_add (by unfold fit64; omega)]
    have hy : s[p + 1]? = some s[p + 1] := List.getElem?_eq_getElem (by omega)
    have hd : s.drop p = 92 :: s[p + 1] :: s.drop (p + 2) := by
      have e1 : s[p] = 92 := Option.some.inj ((List.getElem?_eq_getElem (by omega)).symm.trans h92)
      rw [List.drop_eq_getElem_cons (by omega), List.drop_eq_getElem_cons (i := p + 1) (by omega), e1]
    have he := sign_end s hs p h2 h92 hy
    rw [r_sidx' (p + 1) (by omega) hy]
    simp only
    have hsplit : escS (s.drop p) = if (shortS s[p + 1].toNat).2 then ((shortS s[p + 1].toNat).1, 2) else escU (s.drop p) := by
      rw [hd]; rfl
    rw [hsplit]
    generalize s[p + 1] = y at he
    have hyl := y.toNat_lt
    refine Eq.trans (sign_step s p (y.toNat : Int) 0 (x := 34) (y := 34) (by omega) rfl rfl) ?_
    by_cases c0 : y.toNat = 34
    · rw [if_pos (by rw [c0]; rfl), c0]; rfl
    rw [if_neg (by intro e; exact c0 (by have : ((34 : UInt8).toNat : Int) = 34 := rfl
                                         omega))]
    refine Eq.trans (sign_step s p (y.toNat : Int) 1 (x := 92) (y := 92) (by omega) rfl rfl) ?_
    by_cases c1 : y.toNat = 92
    · rw [if_pos (by rw [c1]; rfl), c1]; rfl
    rw [if_neg (by intro e; exact c1 (by have : ((92 : UInt8).toNat : Int) = 92 := rfl
                                         omega))]
    refine Eq.trans (sign_step s p (y.toNat : Int) 2 (x := 47) (y := 47) (by omega) rfl rfl) ?_
    by_cases c2 : y.toNat = 47
    · rw [if_pos (by rw [c2]; rfl), c2]; rfl
    rw [if_neg (by intro e; exact c2 (by have : ((47 : UInt8).toNat : Int) = 47 := rfl
                                         omega))]
    refine Eq.trans (sign_step s p (y.toNat : Int) 3 (x := 98) (y := 8) (by omega) rfl rfl) ?_
    by_cases c3 : y.toNat = 98
    · rw [if_pos (by rw [c3]; rfl), c3]; rfl
    rw [if_neg (by intro e; exact c3 (by have : ((98 : UInt8).toNat : Int) = 98 := rfl
                                         omega))]
    refine Eq.trans (sign_step s p (y.toNat : Int) 4 (x := 102) (y := 12) (by omega) rfl rfl) ?_
    by_cases c4 : y.toNat = 102
    · rw [if_pos (by rw [c4]; rfl), c4]; rfl
    rw [if_neg (by intro e; exact c4 (by have : ((102 : UInt8).toNat : Int) = 102 := rfl
                                         omega))]
    refine Eq.trans (sign_step s p (y.toNat : Int) 5 (x := 110) (y := 10) (by omega) rfl rfl) ?_
    by_cases c5 : y.toNat = 110
    · rw [if_pos (by rw [c5]; rfl), c5]; rfl
    rw [if_neg (by intro e; exact c5 (by have : ((110 : UInt8).toNat : Int) = 110 := rfl
                                         omega))]
    refine Eq.trans (sign_step s p (y.toNat : Int) 6 (x := 114) (y := 13) (by omega) rfl rfl) ?_
    by_cases c6 : y.toNat = 114
    · rw [if_pos (by rw [c6]; rfl), c6]; rfl
    rw [if_neg (by intro e; exact c6 (by have : ((114 : UInt8).toNat : Int) = 114 := rfl
                                         omega))]
    refine Eq.trans (sign_step s p (y.toNat : Int) 7 (x := 116) (y := 9) (by omega) rfl rfl) ?_
    by_cases c7 : y.toNat = 116
    · rw [if_pos (by rw [c7]; rfl), c7]; rfl
    rw [if_neg (by intro e; exact c7 (by have : ((116 : UInt8).toNat : Int) = 116 := rfl
                                         omega))]
    have hsf : (shortS y.toNat).2 = false := by
      unfold shortS
      split <;> first | omega | rfl
    rw [hsf]
    exact he
  · rw [geq_t (by omega)]
    have : s.drop p = [s[p]] := by
      rw [List.drop_eq_getElem_cons (by omega), List.drop_eq_nil_of_le (by omega)]
    rw [this]
    rfl
theorem Size_zero {l : Str} (hne : l ≠ []) : ((szOf l).1 = 0 ↔ dec l = (65533, 1)) := by
  unfold szOf
  have := dec_size hne
  by_cases c : dec l = (65533, 1)
  · rw [if_pos c]; simp [c]
  · rw [if_neg c]; simp only [c, iff_false]; omega
theorem ref_Unq_loop (s : Str) (hs : s.length ≤ 1000000) : ∀ (k p : Nat) (acc : Str), s.length - p ≤ k → acc.length + 4 * (s.length - p) ≤ 10000000 → p ≤ s.length →
    p_cascaderef02_Unquote_2 s acc (p : Int) = some (U s acc p)
  | k, p, acc, hk, ha, hps => by
    rw [u_cascaderef02_Unquote_2, U]
    unfold b_cascaderef02_Unquote_2
    rw [r_slen]
    by_cases hp : p < s.length
    · have hne : s.drop p ≠ [] := by simp; omega
      obtain ⟨h1, h2⟩ := size_at hp
      have hx : s[p]? = some s[p] := List.getElem?_eq_getElem hp
      have hb : byteAt (s.drop p) 0 = s[p].toNat := byteAt_get (i := 0) (by simp)
      rw [lss_true hp, dif_pos hp, r_sidx hx, hb]
      simp only
      by_cases c1 : s[p].toNat = 34
      · rw [if_pos c1, eql_t (by omega), r_add (by unfold fit64; omega)]
      rw [if_neg c1, eql_f (by omega)]
      simp only
      by_cases c2 : s[p].toNat < 32
      · rw [if_pos c2, lss_t (by omega)]
      rw [if_neg c2, lss_f (by omega)]
      simp only
      cases k with
      | zero => omega
      | succ k =>
        by_cases c3 : s[p].toNat = 92
        · have h92 : s[p]? = some 92 := by
            rw [hx]; congr 1; exact UInt8.toNat_inj.1 (by rw [c3]; rfl)
          rw [if_pos c3, eql_t (b := 92) (by omega)]
          simp only [ref_sign s hs p h92]
          rcases escS_cases (s.drop p) with q | ⟨q1, q2, q3, q4⟩
          · rw [dif_pos q, eql_t q]
          · simp only [List.length_drop] at q3
            have hl := enc_len (escS (s.drop p)).1
            have q4' := q4
            simp only [vr, decide_eq_true_eq] at q4'
            rw [dif_neg (by omega), eql_f (by omega)]
            simp only
            rw [ref_Rune _ (by omega) (by omega), if_pos q4]
            simp only
            rw [r_scat (by omega), r_add (by unfold fit64; omega), show (p : Int) + (escS (s.drop p)).2 = ((p + (escS (s.drop p)).2.toNat : Nat) : Int) by omega]
            exact ref_Unq_loop s hs k _ _ (by omega) (by simp only [List.length_append]; omega) (by omega)
        · rw [if_neg c3, eql_f (b := 92) (by omega)]
          simp only [ref_Size s (by omega) p hp]
          by_cases c4 : dec (s.drop p) = (65533, 1)
          · rw [if_pos c4, eql_t ((Size_zero hne).2 c4)]
          · rw [if_neg c4, eql_f (fun h => c4 ((Size_zero hne).1 h))]
            have e : (szOf (s.drop p)).1 = ((dec (s.drop p)).2 : Int) := by unfold szOf; rw [if_neg c4]
            simp only [e]
            rw [r_add (a := (p : Int)) (by unfold fit64; omega), show (p : Int) + ((dec (s.drop p)).2 : Int) = ((p + (dec (s.drop p)).2 : Nat) : Int) by omega, r_ssub2 (by omega) (by omega)]
            simp only
            have et : (s.take (p + (dec (s.drop p)).2)).drop p = (s.drop p).take (dec (s.drop p)).2 := by
              rw [List.drop_take, Nat.add_sub_cancel_left]
            rw [et, r_scat (by simp; omega)]
            simp only
            exact ref_Unq_loop s hs k _ _ (by omega) (by simp only [List.length_append, List.length_take]; omega) (by omega)
    · rw [lss_false (by omega), dif_neg hp]
theorem ref_Unquote (s : Str) (hs : s.length ≤ 1000000) : p_cascaderef02_Unquote s = some (UQ s) := by
  unfold p_cascaderef02_Unquote p_cascaderef02_Unquote_0 b_cascaderef02_Unquote_0 UQ
  rw [r_slen]
  match s with
  | [] => rw [eql_t (by simp), if_neg (by decide)]
  | b :: r =>
    rw [eql_f (by simp; omega), r_sidx' (n := 0) 0 rfl (b := b) (by simp), byteAt0]
    simp only
    by_cases c : b.toNat = 34
    · rw [neq_f (by omega), if_pos c]
      exact ref_Unq_loop _ hs _ 1 _ (Nat.le_refl _) (by simp at hs ⊢; omega) (by simp)
    · rw [neq_t (by omega), if_neg c]
theorem QuoteReads (s : Str) : p_cascadelaw02_QuoteReads s = some true := by
  unfold p_cascadelaw02_QuoteReads p_cascadelaw02_QuoteReads_0 b_cascadelaw02_QuoteReads_0
  simp only [awake02]
  rw [r_slen]
  by_cases hl : s.length ≤ 400
  · rw [gtr_f (by omega)]
    simp only [quote_Unquote s (by omega), ref_Unquote s (by omega)]
    rw [seq_t rfl, eql_t rfl]
    simp only
    rw [eql_t rfl]
  · rw [gtr_t (by omega)]
end Go.Abs.A
