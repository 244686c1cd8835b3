import Derived.Test.YtacabmodmbcldaaDoorMK7
/-! BlockRaws. -/
set_option linter.unusedVariables false
set_option linter.unusedSimpArgs false
namespace Go.Abs.Q
open M
theorem contains13 (s : Str) : p_strings_Contains s [13] = some (s.contains 13) := by
  show some (decide (0 ≤ Lib.indexByte s 13)) = _
  congr 1
  rw [Bool.eq_iff_iff, decide_eq_true_iff]
  by_cases h : Lib.indexByte s 13 = -1
  · have hn := Lib.indexByte_none h
    refine ⟨fun c => by omega, fun c => ?_⟩
    have hm : (13 : UInt8) ∈ s := by simpa using c
    obtain ⟨j, hj⟩ := List.mem_iff_getElem?.1 hm
    exact absurd hj (hn j)
  · have hge := Lib.indexByte_ge s 13
    refine ⟨fun _ => ?_, fun _ => by omega⟩
    obtain ⟨o, ho⟩ : ∃ o : Nat, Lib.indexByte s 13 = o := ⟨(Lib.indexByte s 13).toNat, by omega⟩
    have := (Lib.indexByte_some ho).1
    have hm := List.mem_of_getElem? this
    simpa using hm
theorem suffix1 (s : Str) (c : UInt8) (hs : s.length ≤ 1000000) : p_strings_HasSuffix s [c] = some (s.getLast? == some c) := by
  unfold p_strings_HasSuffix
  rw [if_pos (by omega)]
  unfold Lib.hasSuffix
  congr 1
  rw [Bool.eq_iff_iff, List.isSuffixOf_iff_suffix, beq_iff_eq]
  constructor
  · rintro ⟨t, rfl⟩
    simp
  · intro h
    rcases List.eq_nil_or_concat s with rfl | ⟨r, x, rfl⟩
    · cases h
    · rw [List.concat_eq_append] at h ⊢
      simp only [List.getLast?_append, List.getLast?_singleton, Option.some_or, Option.some.injEq] at h
      subst h
      exact ⟨r, rfl⟩
theorem comes_tail (s : Str) (hs : s.length ≤ 1000000) : p_block_comes_2 (lines s) = some (decide (ind ([] :: lines s) = 0)) := by
  unfold p_block_comes_2 b_block_comes_2
  have hsm := sm_lines hs
  have hlen : (lines s).length ≤ 1000000000 := by unfold Sm at hsm; omega
  have hl2 := lines_room s
  rw [M.r_app (by simp [room]; omega) (by simp [room]; omega)]
  simp only
  have hsh : Sh ([[]] ++ lines s) := fun x hx => by
    rcases List.mem_append.1 hx with hx | hx
    · simp only [List.mem_cons, List.not_mem_nil, or_false] at hx; subst hx; simp
    · exact sm_sh hsm x hx
  rw [block_Indent__0 1 _ (by simp; omega) hsh]
  simp only [r_eql, List.cons_append, List.nil_append]
  congr 1
  rw [Bool.eq_iff_iff, beq_iff_eq, decide_eq_true_iff]
  omega
/-- The first and the last line. -/
theorem line_first (s : Str) : (lines s)[0]? = some ((lines s).head?.getD []) := by
  obtain ⟨x, r, e⟩ := lines_ne s
  rw [e]; rfl
theorem line_last (s : Str) : (lines s)[(lines s).length - 1]? = some ((lines s).getLast?.getD []) := by
  obtain ⟨x, r, e⟩ := lines_ne s
  rw [← List.getLast?_eq_getElem?, e]
  simp [List.getLast?_cons]
theorem line_sh (s : Str) (hs : s.length ≤ 1000000) : ((lines s).head?.getD []).length ≤ 1000000000 ∧ ((lines s).getLast?.getD []).length ≤ 1000000000 :=
  ⟨sh_at (sm_sh (sm_lines hs)) (line_first s), sh_at (sm_sh (sm_lines hs)) (line_last s)⟩
theorem idx_first (s : Str) : Prims.real.idx (lines s) 0 = some ((lines s).head?.getD []) := r_idx (i := 0) (line_first s)
theorem idx_last (s : Str) (hs : s.length ≤ 1000000) : Prims.real.idx (lines s) (Prims.real.ar .sub .i64 (Prims.real.len (lines s)) 1) = some ((lines s).getLast?.getD []) := by
  have hsm := sm_lines hs
  unfold Sm at hsm
  obtain ⟨x, r, e⟩ := lines_ne s
  have hlen : 1 ≤ (lines s).length := by rw [e]; simp
  rw [r_len, r_sub64 (by unfold fit64; omega), show ((lines s).length : Int) - 1 = (((lines s).length - 1 : Nat) : Int) by omega]
  exact r_idx (line_last s)
theorem block_comes (s : Str) (hs : s.length ≤ 1000000) : p_block_comes s = some (comes s) := by
  unfold p_block_comes p_block_comes_0 b_block_comes_0
  rw [contains13]
  unfold comes
  cases h1 : s.contains 13 with
  | true => rfl
  | false =>
    simp only
    rw [suffix1 s 92 hs]
    cases h2 : (s.getLast? == some 92) with
    | true => rfl
    | false =>
      simp only
      rw [suffix1 s 34 hs]
      cases h3 : (s.getLast? == some 34) with
      | true => rfl
      | false =>
        simp only
        rw [text_Lines s hs]
        simp only [r_seq, idx_first, idx_last s hs, comes_tail s hs]
        cases s with
        | nil => rfl
        | cons b l =>
          have e : ((b :: l : Str) == []) = false := rfl
          rw [e]
          simp only
          rw [empty _ (line_sh _ hs).1]
          cases h4 : blank ((lines (b :: l)).head?.getD []) with
          | true => rfl
          | false =>
            simp only
            rw [empty _ (line_sh _ hs).2]
            cases h5 : blank ((lines (b :: l)).getLast?.getD []) with
            | true => rfl
            | false => rfl
theorem quo_len (s : Str) : (quo s).length ≤ 5 * s.length := by
  have := rep_len 34 [34, 34] [92, 34, 34, 34] _ s (Nat.le_refl _)
  simp only [List.length_cons, List.length_nil] at this
  exact this
theorem block_Raw (s : Str) (hs : s.length ≤ 100000) : p_block_Raw s = some (if comes s = true then (10 :: quo s, 0) else ([], 4)) := by
  unfold p_block_Raw p_block_Raw_0 b_block_Raw_0
  rw [block_comes s (by omega)]
  cases comes s with
  | false => rfl
  | true =>
    simp only
    rw [replace 34 [34, 34] [92, 34, 34, 34] s (by decide) (by omega) (by simp)]
    simp only
    have := quo_len s
    unfold quo at this
    rw [M.r_scat (by simp; omega)]
    rfl
/-! ### The reference -/
theorem raw3 (s : Str) (i : Nat) (hi : i ≤ 1000000) : p_cascaderef07_Raw_3 s (i : Int) = some (.inl (s, ((i + 1 : Nat) : Int))) := by
  unfold p_cascaderef07_Raw_3 b_cascaderef07_Raw_3
  rw [M.r_add (by unfold fit64; omega)]; rfl
theorem raw5 (s : Str) (hs : s.length ≤ 100000) : p_cascaderef07_Raw_5 s (lines s) = some (if ind ([] :: lines s) = 0 then (10 :: quo s, 0) else ([], 4)) := by
  unfold p_cascaderef07_Raw_5 b_cascaderef07_Raw_5
  have hsm := sm_lines (s := s) (by omega)
  have hlen : (lines s).length ≤ 1000000000 := by unfold Sm at hsm; omega
  have hl2 := lines_room s
  rw [M.r_app (by simp [room]) (by simp [room])]
  simp only [List.nil_append]
  rw [M.r_app (by simp [room]; omega) (by simp [room]; omega)]
  simp only
  have hsh : Sh ([[]] ++ lines s) := fun x hx => by
    rcases List.mem_append.1 hx with hx | hx
    · simp only [List.mem_cons, List.not_mem_nil, or_false] at hx; subst hx; simp
    · exact sm_sh hsm x hx
  rw [ref_Indent__1 2 _ (by simp; omega) hsh]
  simp only [List.cons_append, List.nil_append]
  by_cases h : ind ([] :: lines s) = 0
  · rw [neq_f (by omega), if_pos h]
    simp only
    rw [ref_turned 34 [34, 34] [92, 34, 34, 34] s (by omega) (by simp) (by simp)]
    simp only
    have := quo_len s
    unfold quo at this
    rw [M.r_scat (by simp; omega)]
    rfl
  · rw [neq_t (by omega), if_neg h]
/-- What stands at a text's places that must not. -/
def odd (s : Str) (i : Nat) : Bool := match s[i]? with
  | some b => b == 13 || (decide (i + 1 = s.length) && (b == 92 || b == 34))
  | none => false
theorem raw_end (s : Str) (hs : s.length ≤ 100000) (i : Nat) (hi : s.length ≤ i) (h : s.contains 13 = false ∧ (s.getLast? == some 92) = false ∧ (s.getLast? == some 34) = false) : p_cascaderef07_Raw_1 s (i : Int) = some (if comes s = true then (10 :: quo s, 0) else ([], 4)) := by
  rw [u_cascaderef07_Raw_1]
  unfold b_cascaderef07_Raw_1
  rw [r_slen, lss_false hi]
  simp only
  rw [ref_Lines s (by omega)]
  simp only [idx_first, idx_last s (show s.length ≤ 1000000 by omega), raw5 s hs]
  unfold comes
  rw [h.1, h.2.1, h.2.2]
  cases s with
  | nil =>
    rw [gtr_f (by simp)]
    simp only
    have e : ind ([] :: lines []) = 0 := by rw [lines_nil]; rfl
    rw [e]
    rfl
  | cons b l =>
    rw [gtr_t (by simp)]
    have hsh := line_sh (b :: l) (by omega)
    simp only
    rw [ref_first _ hsh.1]
    simp only [r_slen]
    cases h4 : blank ((lines (b :: l)).head?.getD []) with
    | true =>
      rw [eql_t (by rw [(blank_iff _).1 h4])]
      simp
    | false =>
      have := (blank_iff2 _).1 h4
      rw [eql_f (by omega)]
      simp only
      rw [ref_first _ hsh.2]
      simp only
      cases h5 : blank ((lines (b :: l)).getLast?.getD []) with
      | true =>
        rw [eql_t (by rw [(blank_iff _).1 h5])]
        simp
      | false =>
        have := (blank_iff2 _).1 h5
        rw [eql_f (by omega)]
        simp
theorem comes_odd (s : Str) (i : Nat) (b : UInt8) (hb : s[i]? = some b) (h : b = 13 ∨ (i + 1 = s.length ∧ (b = 92 ∨ b = 34))) : comes s = false := by
  unfold comes
  rcases h with rfl | ⟨h, hc⟩
  · have : s.contains 13 = true := by simpa using List.mem_of_getElem? hb
    rw [this]; rfl
  · have e : s.getLast? = some b := by rw [List.getLast?_eq_getElem?, ← hb]; congr 1; omega
    rw [e]
    rcases hc with rfl | rfl
    · simp
    · simp
theorem raw_loop (s : Str) (hs : s.length ≤ 100000) : ∀ (k i : Nat), s.length - i ≤ k → (∀ (j : Nat) b, j < i → s[j]? = some b → b ≠ 13 ∧ (j + 1 = s.length → b ≠ 92 ∧ b ≠ 34)) → p_cascaderef07_Raw_1 s (i : Int) = some (if comes s = true then (10 :: quo s, 0) else ([], 4))
  | k, i, hk, hb => by
    by_cases h : i < s.length
    · rw [u_cascaderef07_Raw_1]
      unfold b_cascaderef07_Raw_1
      obtain ⟨b, hx⟩ := get_some h
      rw [r_slen, lss_true h, r_sub64 (by unfold fit64; omega)]
      have e13 := byte_eq b 13 (by omega)
      have e92 := byte_eq b 92 (by omega)
      have e34 := byte_eq b 34 (by omega)
      rw [show ((13 : Nat) : Int) = 13 from rfl] at e13
      rw [show ((92 : Nat) : Int) = 92 from rfl] at e92
      rw [show ((34 : Nat) : Int) = 34 from rfl] at e34
      simp only [r_sidx hx, e13, e92, e34, raw3 s i (by omega)]
      cases k with
      | zero => omega
      | succ k =>
        have ih := fun hh => raw_loop s hs k (i + 1) (by omega) hh
        cases c13 : b == UInt8.ofNat 13 with
        | true =>
          simp only
          rw [comes_odd s i b hx (.inl (beq_iff_eq.1 c13))]
          rfl
        | false =>
          have n13 : b ≠ 13 := fun c => by subst c; cases c13
          simp only
          by_cases cl : i + 1 = s.length
          · rw [eql_t (by omega)]
            simp only
            cases c92 : b == UInt8.ofNat 92 with
            | true =>
              simp only
              rw [comes_odd s i b hx (.inr ⟨cl, .inl (beq_iff_eq.1 c92)⟩)]
              rfl
            | false =>
              have n92 : b ≠ 92 := fun c => by subst c; cases c92
              simp only
              cases c34 : b == UInt8.ofNat 34 with
              | true =>
                simp only
                rw [comes_odd s i b hx (.inr ⟨cl, .inr (beq_iff_eq.1 c34)⟩)]
                rfl
              | false =>
                have n34 : b ≠ 34 := fun c => by subst c; cases c34
                exact ih (fun j b' hj hjb => by
                  by_cases e : j = i
                  · subst e; rw [hx] at hjb; cases hjb; exact ⟨n13, fun _ => ⟨n92, n34⟩⟩
                  · exact hb j b' (by omega) hjb)
          · rw [eql_f (by omega)]
            exact ih (fun j b' hj hjb => by
              by_cases e : j = i
              · subst e; rw [hx] at hjb; cases hjb; exact ⟨n13, fun c => absurd c cl⟩
              · exact hb j b' (by omega) hjb)
    · refine raw_end s hs i (by omega) ⟨?_, ?_, ?_⟩
      · refine Bool.eq_false_iff.2 fun c => ?_
        have hm : (13 : UInt8) ∈ s := by simpa using c
        obtain ⟨j, hj⟩ := List.mem_iff_getElem?.1 hm
        have := (List.getElem?_eq_some_iff.1 hj).1
        exact (hb j 13 (by omega) hj).1 rfl
      · refine Bool.eq_false_iff.2 fun c => ?_
        have c := beq_iff_eq.1 c
        rw [List.getLast?_eq_getElem?] at c
        have hl := (List.getElem?_eq_some_iff.1 c).1
        exact ((hb _ 92 (by omega) c).2 (by omega)).1 rfl
      · refine Bool.eq_false_iff.2 fun c => ?_
        have c := beq_iff_eq.1 c
        rw [List.getLast?_eq_getElem?] at c
        have hl := (List.getElem?_eq_some_iff.1 c).1
        exact ((hb _ 34 (by omega) c).2 (by omega)).2 rfl
theorem ref_Raw (s : Str) (hs : s.length ≤ 100000) : p_cascaderef07_Raw s = some (if comes s = true then (10 :: quo s, 0) else ([], 4)) := by
  unfold p_cascaderef07_Raw p_cascaderef07_Raw_0 b_cascaderef07_Raw_0
  exact raw_loop s hs _ 0 (Nat.le_refl _) (fun j b hj => by omega)
theorem BlockRaws (s : Str) : p_cascadelaw07_BlockRaws s = some true := by
  unfold p_cascadelaw07_BlockRaws p_cascadelaw07_BlockRaws_0 b_cascadelaw07_BlockRaws_0
  simp only [awake, r_slen]
  by_cases h : s.length ≤ 400
  · rw [gtr_f (by omega)]
    simp only
    rw [block_Raw s (by omega), ref_Raw s (by omega)]
    cases hc : comes s with
    | false => rfl
    | true =>
      simp only [if_true]
      rw [seq_t rfl]
      simp only
      rw [eql_t rfl]
      simp only
      rw [neq_f rfl]
      simp only
      have := quo_len s
      rw [block_Value _ (by simp; omega), val_quo s hc]
      simp only
      rw [seq_t rfl]
  · rw [gtr_t (by omega)]
end Go.Abs.Q
