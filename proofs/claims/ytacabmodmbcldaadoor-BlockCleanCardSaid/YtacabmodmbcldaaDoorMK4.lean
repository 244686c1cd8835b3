import Derived.Test.YtacabmodmbcldaaDoorRQ
import Derived.Test.YtacabmodmbcldaaDoorMK3
/-! Lines, as the program tells them. -/
set_option linter.unusedVariables false
set_option linter.unusedSimpArgs false
namespace Go.Abs.Q
open M
theorem get_some {s : Str} {i : Nat} (h : i < s.length) : ∃ b, s[i]? = some b := ⟨s[i], List.getElem?_eq_getElem h⟩
theorem lss_true {i j : Nat} (h : i < j) : Prims.real.cmp .lss (i : Int) (j : Int) = true := by rw [r_lss]; simp; exact h
theorem lss_false {i j : Nat} (h : j ≤ i) : Prims.real.cmp .lss (i : Int) (j : Int) = false := by rw [r_lss]; simp; exact h
theorem has_prefix (t : Str) : p_strings_HasPrefix t [13, 10] = some (decide (t[0]? = some 13 ∧ t[1]? = some 10)) := by
  unfold p_strings_HasPrefix Lib.hasPrefix
  congr 1
  rw [Bool.eq_iff_iff]
  rcases t with _ | ⟨a, _ | ⟨b, r⟩⟩
  · exact ⟨fun h => (by cases h), fun h => (by have := (of_decide_eq_true h).1; cases this)⟩
  · refine ⟨fun h => ?_, fun h => (by have := (of_decide_eq_true h).2; cases this)⟩
    rw [List.isPrefixOf_cons_cons, Bool.and_eq_true] at h
    cases h.2
  · rw [List.isPrefixOf_cons_cons, List.isPrefixOf_cons_cons, Bool.and_eq_true, Bool.and_eq_true, beq_iff_eq, beq_iff_eq, decide_eq_true_iff]
    refine ⟨fun h => ⟨?_, ?_⟩, fun h => ⟨?_, ?_, rfl⟩⟩
    · rw [← h.1]; rfl
    · rw [← h.2.1]; rfl
    · have := h.1; simp only [List.getElem?_cons_zero, Option.some.injEq] at this; exact this.symm
    · have := h.2; simp only [List.getElem?_cons_succ, List.getElem?_cons_zero, Option.some.injEq] at this; exact this.symm
/-- What the search of two bytes comes to. -/
theorem brk_two : ∀ s : Str, (if Lib.indexByte s 13 ≥ 0 ∧ (Lib.indexByte s 10 < 0 ∨ Lib.indexByte s 13 < Lib.indexByte s 10) then Lib.indexByte s 13 else Lib.indexByte s 10) = if brk s < s.length then (brk s : Int) else -1
  | [] => by simp [Lib.indexByte, brk]
  | b :: l => by
    have ih := brk_two l
    have h1 := Lib.indexByte_ge l 10
    have h2 := Lib.indexByte_ge l 13
    unfold Lib.indexByte brk
    by_cases c1 : b = 10
    · subst c1
      rw [if_pos (show isBrk 10 from .inl rfl)]
      by_cases e : Lib.indexByte l 13 = -1
      · simp [e]
      · simp [e]; omega
    · by_cases c2 : b = 13
      · subst c2
        rw [if_pos (show isBrk 13 from .inr rfl)]
        by_cases e : Lib.indexByte l 10 = -1
        · simp [e]
        · have : ¬ (Lib.indexByte l 10 + 1 < 0) := by omega
          simp [e]
          omega
      · have e1 : (b == 10) = false := by simpa using c1
        have e2 : (b == 13) = false := by simpa using c2
        rw [if_neg (show ¬ isBrk b by simp [isBrk, c1, c2])]
        simp only [e1, e2, Bool.false_eq_true, if_false, List.length_cons, beq_iff_eq]
        by_cases e3 : Lib.indexByte l 10 = -1 <;> by_cases e4 : Lib.indexByte l 13 = -1 <;> by_cases e5 : brk l < l.length <;> simp only [e3, e4, e5, if_true, if_false] at ih ⊢ <;> (repeat' split at ih) <;> (repeat' split) <;> omega
/-- The text's own cut, where a break lies. -/
theorem text_cut (s : Str) (hs : s.length ≤ 1000000) (g : Nat) (l : List Str) (hl : l.length ≤ 1000000) (hb : brk s < s.length) :
    p_text_Lines_2 s g l (brk s : Int) = some (.inl (s.drop (skip s (brk s)), g + 1, l ++ [s.take (brk s)])) := by
  unfold p_text_Lines_2 b_text_Lines_2
  have e : decide (((brk s : Nat) : Int) < 0) = false := by simp
  simp only [r_lss, e]
  rw [r_ssub_to (by omega)]
  simp only
  rw [M.r_app (by simp [room]; omega) (by simp [room]; omega)]
  simp only
  rw [r_ssub_from (by omega)]
  simp only [has_prefix, List.getElem?_drop, Nat.add_zero]
  have f : ∀ i : Nat, i < s.length → p_text_Lines_4 s (g + 1) (l ++ [s.take (brk s)]) (i : Int) = some (.inl (s.drop (i + 1), g + 1, l ++ [s.take (brk s)])) := fun i hi => by
    unfold p_text_Lines_4 b_text_Lines_4
    rw [M.r_add (by unfold fit64; omega), show (i : Int) + 1 = ((i + 1 : Nat) : Int) by omega, r_ssub_from (by omega)]
  unfold skip
  by_cases c : s[brk s]? = some 13 ∧ s[brk s + 1]? = some 10
  · have h2 := (List.getElem?_eq_some_iff.1 c.2).1
    rw [if_pos c]
    simp only [decide_eq_true c]
    rw [M.r_add (by unfold fit64; omega), show ((brk s : Nat) : Int) + 1 = ((brk s + 1 : Nat) : Int) by omega, f _ h2]
  · rw [if_neg c]
    simp only [decide_eq_false c]
    rw [f _ hb]
theorem text_last (s : Str) (g : Nat) (l : List Str) (hl : l.length ≤ 1000000) : p_text_Lines_2 s g l (-1) = some (.inr (l ++ [s])) := by
  unfold p_text_Lines_2 b_text_Lines_2
  have e : decide ((-1 : Int) < 0) = true := by decide
  simp only [r_lss, e]
  rw [M.r_app (by simp [room]; omega) (by simp [room]; omega)]
theorem text_Lines_loop : ∀ (k : Nat) (s : Str) (g : Nat) (l : List Str), s.length ≤ k → l.length + s.length ≤ 1000000 → p_text_Lines_1 s g l = some (l ++ lines s)
  | k, s, g, l, hk, hl => by
    rw [u_text_Lines_1]
    unfold b_text_Lines_1
    simp only [p_strings_IndexByte, r_geq, r_lss]
    have h := brk_two s
    have e10 : ((10 : Int).toNat.toUInt8) = 10 := rfl
    have e13 : ((13 : Int).toNat.toUInt8) = 13 := rfl
    rw [e10, e13]
    have hgo : ∀ n : Int, n = (if brk s < s.length then (brk s : Int) else -1) → (match p_text_Lines_2 s g l n with
        | some (.inl (v0, o3_g, o3)) => p_text_Lines_1 v0 o3_g o3
        | some (.inr r) => some r
        | none => none) = some (l ++ lines s) := fun n hn => by
      subst hn
      by_cases c : brk s < s.length
      · rw [if_pos c, text_cut s (by omega) g l (by omega) c, lines_at c]
        have hsk := skip_ge s (brk s)
        have hsl := skip_le c
        cases k with
        | zero => omega
        | succ k =>
          simp only
          rw [text_Lines_loop k _ _ _ (by simp; omega) (by simp; omega)]
          simp
      · rw [if_neg c, text_last s g l (by omega), lines_end (by omega)]
    by_cases c1 : Lib.indexByte s 13 ≥ 0
    · simp only [decide_eq_true c1]
      by_cases c2 : Lib.indexByte s 10 < 0
      · simp only [decide_eq_true c2]
        rw [if_pos ⟨c1, .inl c2⟩] at h
        exact hgo _ h
      · simp only [decide_eq_false c2]
        by_cases c3 : Lib.indexByte s 13 < Lib.indexByte s 10
        · simp only [decide_eq_true c3]
          rw [if_pos ⟨c1, .inr c3⟩] at h
          exact hgo _ h
        · simp only [decide_eq_false c3]
          rw [if_neg (by omega)] at h
          exact hgo _ h
    · simp only [decide_eq_false c1]
      rw [if_neg (by omega)] at h
      exact hgo _ h
theorem text_Lines (s : Str) (hs : s.length ≤ 1000000) : p_text_Lines s = some (lines s) := by
  unfold p_text_Lines p_text_Lines_0 b_text_Lines_0
  rw [text_Lines_loop _ s 0 [] (Nat.le_refl _) (by simp; omega)]
  rfl
/-- The text's own cut, where a break lies. -/
theorem text_cut0 (s : Str) (hs : s.length ≤ 1000000) (g : Nat) (l : List Str) (hl : l.length ≤ 1000000) (hb : brk s < s.length) :
    p_text_Lines__0_2 s g l (brk s : Int) = some (.inl (s.drop (skip s (brk s)), g + 1, l ++ [s.take (brk s)])) := by
  unfold p_text_Lines__0_2 b_text_Lines__0_2
  have e : decide (((brk s : Nat) : Int) < 0) = false := by simp
  simp only [r_lss, e]
  rw [r_ssub_to (by omega)]
  simp only
  rw [M.r_app (by simp [room]; omega) (by simp [room]; omega)]
  simp only
  rw [r_ssub_from (by omega)]
  simp only [has_prefix, List.getElem?_drop, Nat.add_zero]
  have f : ∀ i : Nat, i < s.length → p_text_Lines__0_4 s (g + 1) (l ++ [s.take (brk s)]) (i : Int) = some (.inl (s.drop (i + 1), g + 1, l ++ [s.take (brk s)])) := fun i hi => by
    unfold p_text_Lines__0_4 b_text_Lines__0_4
    rw [M.r_add (by unfold fit64; omega), show (i : Int) + 1 = ((i + 1 : Nat) : Int) by omega, r_ssub_from (by omega)]
  unfold skip
  by_cases c : s[brk s]? = some 13 ∧ s[brk s + 1]? = some 10
  · have h2 := (List.getElem?_eq_some_iff.1 c.2).1
    rw [if_pos c]
    simp only [decide_eq_true c]
    rw [M.r_add (by unfold fit64; omega), show ((brk s : Nat) : Int) + 1 = ((brk s + 1 : Nat) : Int) by omega, f _ h2]
  · rw [if_neg c]
    simp only [decide_eq_false c]
    rw [f _ hb]
theorem text_last0 (s : Str) (g : Nat) (l : List Str) (hl : l.length ≤ 1000000) : p_text_Lines__0_2 s g l (-1) = some (.inr (g + 1, l ++ [s])) := by
  unfold p_text_Lines__0_2 b_text_Lines__0_2
  have e : decide ((-1 : Int) < 0) = true := by decide
  simp only [r_lss, e]
  rw [M.r_app (by simp [room]; omega) (by simp [room]; omega)]
theorem text_Lines_loop0 : ∀ (k : Nat) (s : Str) (g : Nat) (l : List Str), s.length ≤ k → l.length + s.length ≤ 1000000 → p_text_Lines__0_1 s g l = some (g + (lines s).length, l ++ lines s)
  | k, s, g, l, hk, hl => by
    rw [u_text_Lines__0_1]
    unfold b_text_Lines__0_1
    simp only [p_strings_IndexByte, r_geq, r_lss]
    have h := brk_two s
    have e10 : ((10 : Int).toNat.toUInt8) = 10 := rfl
    have e13 : ((13 : Int).toNat.toUInt8) = 13 := rfl
    rw [e10, e13]
    have hgo : ∀ n : Int, n = (if brk s < s.length then (brk s : Int) else -1) → (match p_text_Lines__0_2 s g l n with
        | some (.inl (v0, o3_g, o3)) => p_text_Lines__0_1 v0 o3_g o3
        | some (.inr r) => some r
        | none => none) = some (g + (lines s).length, l ++ lines s) := fun n hn => by
      subst hn
      by_cases c : brk s < s.length
      · rw [if_pos c, text_cut0 s (by omega) g l (by omega) c, lines_at c]
        have hsk := skip_ge s (brk s)
        have hsl := skip_le c
        cases k with
        | zero => omega
        | succ k =>
          simp only
          rw [text_Lines_loop0 k _ _ _ (by simp; omega) (by simp; omega)]
          simp only [List.append_assoc, List.length_cons, List.cons_append, List.nil_append]
          rw [show ∀ n : Nat, g + 1 + n = g + (n + 1) from fun n => by omega]
      · rw [if_neg c, text_last0 s g l (by omega), lines_end (by omega)]
        rfl
    by_cases c1 : Lib.indexByte s 13 ≥ 0
    · simp only [decide_eq_true c1]
      by_cases c2 : Lib.indexByte s 10 < 0
      · simp only [decide_eq_true c2]
        rw [if_pos ⟨c1, .inl c2⟩] at h
        exact hgo _ h
      · simp only [decide_eq_false c2]
        by_cases c3 : Lib.indexByte s 13 < Lib.indexByte s 10
        · simp only [decide_eq_true c3]
          rw [if_pos ⟨c1, .inr c3⟩] at h
          exact hgo _ h
        · simp only [decide_eq_false c3]
          rw [if_neg (by omega)] at h
          exact hgo _ h
    · simp only [decide_eq_false c1]
      rw [if_neg (by omega)] at h
      exact hgo _ h
theorem text_Lines0 (s : Str) (hs : s.length ≤ 1000000) : p_text_Lines__0 s = some ((lines s).length, lines s) := by
  unfold p_text_Lines__0 p_text_Lines__0_0 b_text_Lines__0_0
  rw [text_Lines_loop0 _ s 0 [] (Nat.le_refl _) (by simp; omega), Nat.zero_add]
  rfl
/-- No break before a place. -/
theorem brk_skip : ∀ (s : Str) (n : Nat), n ≤ brk s → brk (s.drop n) + n = brk s
  | s, 0, _ => by simp
  | [], n + 1, h => by simp [brk] at h
  | b :: l, n + 1, h => by
    by_cases c : isBrk b
    · rw [brk, if_pos c] at h; omega
    · rw [brk, if_neg c] at h ⊢
      have := brk_skip l n (by omega)
      rw [List.drop_succ_cons]
      omega
theorem brk_here {s : Str} {i : Nat} {b : UInt8} (h : i ≤ brk s) (hb : s[i]? = some b) : isBrk b ↔ brk s = i := by
  have h1 := brk_skip s i h
  have h2 : s.drop i = b :: s.drop (i + 1) := by
    obtain ⟨hi, rfl⟩ := List.getElem?_eq_some_iff.1 hb
    exact List.drop_eq_getElem_cons hi
  rw [h2, brk] at h1
  by_cases c : isBrk b
  · rw [if_pos c] at h1; exact ⟨fun _ => by omega, fun _ => c⟩
  · rw [if_neg c] at h1; exact ⟨fun h => absurd h c, fun _ => by omega⟩
theorem ref_step (s : Str) (g : Nat) (l : List Str) (st i : Nat) (hs : s.length ≤ 1000000) : p_cascaderef01_Lines_5 s g l (st : Int) (i : Int) = if i ≤ 1000000 then some (.inl (s, g, l, (st : Int), ((i + 1 : Nat) : Int))) else p_cascaderef01_Lines_5 s g l (st : Int) (i : Int) := by
  by_cases c : i ≤ 1000000
  · rw [if_pos c]
    unfold p_cascaderef01_Lines_5 b_cascaderef01_Lines_5
    rw [M.r_add (by unfold fit64; omega)]
    rfl
  · rw [if_neg c]
theorem ref_next (s : Str) (g : Nat) (l : List Str) (i : Nat) (hi : i ≤ 1000000) : p_cascaderef01_Lines_4 s g l (i : Int) = some (.inl (s, g, l, ((i + 1 : Nat) : Int), ((i + 1 : Nat) : Int))) := by
  unfold p_cascaderef01_Lines_4 b_cascaderef01_Lines_4
  rw [M.r_add (by unfold fit64; omega)]
  unfold p_cascaderef01_Lines_5 b_cascaderef01_Lines_5
  rw [M.r_add (by unfold fit64; omega)]
  rfl
theorem ref_cut (s : Str) (hs : s.length ≤ 1000000) (g : Nat) (l : List Str) (hl : l.length ≤ 1000000) (st i : Nat) (h1 : st ≤ i) (h2 : i < s.length) :
    p_cascaderef01_Lines_3 s g l (st : Int) (i : Int) = some (.inl (s, g + 1, l ++ [(s.take i).drop st], ((skip s i : Nat) : Int), ((skip s i : Nat) : Int))) := by
  obtain ⟨b, hb⟩ := get_some h2
  unfold p_cascaderef01_Lines_3 b_cascaderef01_Lines_3
  rw [r_ssub2 h1 (by omega)]
  simp only
  rw [M.r_app (by simp [room]; omega) (by simp [room]; omega)]
  simp only [r_sidx hb, r_eql, r_lss, r_slen]
  rw [r_sub64 (by unfold fit64; omega), M.r_add (by unfold fit64; omega)]
  unfold skip
  have ek : ∀ (x : UInt8) (n : Nat), n < 256 → (((x.toNat : Nat) : Int) == (n : Int)) = decide (x = UInt8.ofNat n) := fun x n hn => by
    rw [Bool.eq_iff_iff, decide_eq_true_iff, beq_iff_eq]
    constructor
    · intro h
      apply UInt8.toNat_inj.1
      simp; omega
    · intro h
      subst h
      simp; omega
  by_cases c1 : b = 13
  · have e1 : (((b.toNat : Nat) : Int) == 13) = true := by rw [c1]; rfl
    simp only [e1]
    by_cases c2 : i + 1 < s.length
    · obtain ⟨b', hb'⟩ := get_some c2
      have e2 : decide ((i : Int) < (s.length : Int) - 1) = true := by simp; omega
      simp only [e2]
      rw [show (i : Int) + 1 = ((i + 1 : Nat) : Int) by omega, r_sidx hb']
      simp only
      have e3 := ek b' 10 (by omega)
      rw [show ((10 : Nat) : Int) = 10 from rfl] at e3
      rw [e3]
      by_cases c3 : b' = 10
      · simp only [show decide (b' = UInt8.ofNat 10) = true by simpa using c3]
        rw [if_pos ⟨by rw [hb, c1], by rw [hb', c3]⟩, ref_next s _ _ (i + 1) (by omega)]
      · simp only [show decide (b' = UInt8.ofNat 10) = false by simpa using c3]
        rw [if_neg (fun h => c3 (by rw [hb'] at h; exact Option.some.inj h.2)), ref_next s _ _ i (by omega)]
    · have e2 : decide ((i : Int) < (s.length : Int) - 1) = false := by simp; omega
      simp only [e2]
      rw [if_neg (fun h => c2 (List.getElem?_eq_some_iff.1 h.2).1), ref_next s _ _ i (by omega)]
  · have e1 := ek b 13 (by omega)
    rw [show ((13 : Nat) : Int) = 13 from rfl] at e1
    rw [e1]
    simp only [show decide (b = UInt8.ofNat 13) = false by simpa using c1]
    rw [if_neg (fun h => c1 (by rw [hb] at h; exact Option.some.inj h.1)), ref_next s _ _ i (by omega)]
theorem skip_drop (s : Str) (st n : Nat) : skip (s.drop st) n + st = skip s (st + n) := by
  unfold skip
  simp only [List.getElem?_drop, Nat.add_assoc]
  split <;> omega
theorem ref_Lines_loop (s : Str) (hs : s.length ≤ 1000000) : ∀ (k st i g : Nat) (l : List Str), s.length - i ≤ k → st ≤ i → i ≤ s.length → i ≤ st + brk (s.drop st) → l.length ≤ st → p_cascaderef01_Lines_1 s g l (st : Int) (i : Int) = some (l ++ lines (s.drop st))
  | k, st, i, g, l, hk, h1, h2, h3, hl => by
    rw [u_cascaderef01_Lines_1]
    unfold b_cascaderef01_Lines_1
    rw [r_slen]
    by_cases hi : i < s.length
    · obtain ⟨b, hb⟩ := get_some hi
      rw [lss_true hi]
      simp only [r_sidx hb, r_neq]
      have hb' : (s.drop st)[i - st]? = some b := by rw [List.getElem?_drop, show st + (i - st) = i by omega]; exact hb
      have hh := brk_here (by omega) hb'
      have hbk := b.toNat_lt
      have e10 : (((b.toNat : Nat) : Int) != 10) = !decide (b = 10) := by
        rw [Bool.eq_iff_iff]; simp
        constructor
        · intro h c; subst c; exact h rfl
        · intro h c; exact h (UInt8.toNat_inj.1 (by simp; omega))
      have e13 : (((b.toNat : Nat) : Int) != 13) = !decide (b = 13) := by
        rw [Bool.eq_iff_iff]; simp
        constructor
        · intro h c; subst c; exact h rfl
        · intro h c; exact h (UInt8.toNat_inj.1 (by simp; omega))
      rw [e10, e13]
      cases k with
      | zero => omega
      | succ k =>
        by_cases c : isBrk b
        · have hbr := hh.1 c
          have hlt : brk (s.drop st) < (s.drop st).length := by simp; omega
          have hsk := skip_ge s i
          have hsl := skip_le hi
          have hsd := skip_drop s st (i - st)
          rw [show st + (i - st) = i by omega] at hsd
          have fin : (match p_cascaderef01_Lines_3 s g l (st : Int) (i : Int) with
              | some (.inl (v0, o3_g, o3, v4, v5)) => p_cascaderef01_Lines_1 v0 o3_g o3 v4 v5
              | some (.inr r) => some r
              | none => none) = some (l ++ lines (s.drop st)) := by
            rw [ref_cut s hs g l (by omega) st i h1 hi]
            simp only
            rw [ref_Lines_loop s hs k (skip s i) (skip s i) _ _ (by omega) (Nat.le_refl _) hsl (by omega) (by simp; omega), lines_at hlt, hbr, List.drop_drop, show st + skip (s.drop st) (i - st) = skip s i by omega]
            rw [List.append_assoc, List.drop_take]
            rfl
          rcases c with c | c
          · simp only [show decide (b = 10) = true by simpa using c, Bool.not_true]
            exact fin
          · subst c
            simp only [show decide ((13 : UInt8) = 10) = false by decide, Bool.not_false]
            exact fin
        · have hne : brk (s.drop st) ≠ i - st := fun h => c (hh.2 h)
          simp only [show decide (b = 10) = false by simpa using fun h => c (.inl h), show decide (b = 13) = false by simpa using fun h => c (.inr h), Bool.not_false]
          rw [ref_step s g l st i hs, if_pos (by omega)]
          simp only
          exact ref_Lines_loop s hs k st (i + 1) g l (by omega) (by omega) (by omega) (by omega) hl
    · rw [lss_false (by omega)]
      simp only
      rw [r_ssub_from (by omega)]
      simp only
      rw [M.r_app (by simp [room]; omega) (by simp [room]; omega)]
      simp only
      rw [lines_end (by simp; omega)]
theorem ref_Lines (s : Str) (hs : s.length ≤ 1000000) : p_cascaderef01_Lines s = some (lines s) := by
  unfold p_cascaderef01_Lines p_cascaderef01_Lines_0 b_cascaderef01_Lines_0
  have := ref_Lines_loop s hs _ 0 0 0 [] (Nat.le_refl _) (Nat.le_refl _) (Nat.zero_le _) (by simp) (by simp)
  simpa using this
end Go.Abs.Q
