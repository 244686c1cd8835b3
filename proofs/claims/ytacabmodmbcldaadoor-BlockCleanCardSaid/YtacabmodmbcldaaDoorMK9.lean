import Derived.Test.YtacabmodmbcldaaDoorMK7
/-! BlockClean. -/
set_option linter.unusedVariables false
set_option linter.unusedSimpArgs false
namespace Go.Abs.Q
open M
theorem clean9 (v0 v5 v6 v8 : Str) (i : Nat) (hi : i ≤ 1000000) : p_cascadelaw07_BlockClean_9 v0 v5 v6 v8 (i : Int) = some (.inl (v0, v5, v6, v8, ((i + 1 : Nat) : Int))) := by
  unfold p_cascadelaw07_BlockClean_9 b_cascadelaw07_BlockClean_9
  rw [M.r_add (by unfold fit64; omega)]; rfl
theorem clean_end (v : Str) (hv : v ≠ []) (hvl : v.length ≤ 1000000) (hc : (∃ b t, v = b :: t ∧ ¬ isBrk b) ∧ (∃ q b, v = q ++ [b] ∧ ¬ isBrk b)) (s p out : Str) (i : Nat) (hi : s.length ≤ i) (hol : out.length ≤ 200000) (ho : val out = v) :
    p_cascadelaw07_BlockClean_7 s v p out (i : Int) = some true := by
  rw [u_cascadelaw07_BlockClean_7]
  unfold b_cascadelaw07_BlockClean_7
  rw [r_slen, lss_false hi, r_slen, r_sub64 (by unfold fit64; omega)]
  simp only
  obtain ⟨⟨b, t, e1, h1⟩, ⟨q, c, e2, h2⟩⟩ := hc
  have hlast : v[q.length]? = some c := by rw [e2]; simp
  have hlen : (v.length : Int) - 1 = (q.length : Int) := by rw [e2]; simp
  have h0 : v[0]? = some b := by rw [e1]; rfl
  have h0' := r_sidx h0
  rw [show ((0 : Nat) : Int) = 0 from rfl] at h0'
  rw [hlen, r_sidx hlast]
  simp only
  rw [block_Value out hol, ho]
  simp only
  rw [seq_t rfl]
  simp only [h0']
  have b10 := byte_ne b 10 (by omega)
  have c10 := byte_ne c 10 (by omega)
  have c13 := byte_ne c 13 (by omega)
  rw [show ((10 : Nat) : Int) = 10 from rfl] at b10 c10
  rw [show ((13 : Nat) : Int) = 13 from rfl] at c13
  have d1 : (b == UInt8.ofNat 10) = false := beq_eq_false_iff_ne.2 (fun e => h1 (.inl e))
  have d2 : (c == UInt8.ofNat 10) = false := beq_eq_false_iff_ne.2 (fun e => h2 (.inl e))
  have d3 : (c == UInt8.ofNat 13) = false := beq_eq_false_iff_ne.2 (fun e => h2 (.inr e))
  rw [b10, d1]
  simp only [Bool.not_false]
  rw [c10, d2]
  simp only [Bool.not_false]
  rw [c13, d3]
  rfl
theorem ins_len (p : Str) : ∀ s : Str, (ins p s).length ≤ (p.length + 1) * s.length
  | [] => by simp [ins]
  | b :: l => by
    have := ins_len p l
    unfold ins
    split
    · simp only [List.length_cons, List.length_append, Nat.mul_add, Nat.mul_one]; omega
    · simp only [List.length_cons, Nat.mul_add, Nat.mul_one]; omega
theorem clean_loop (v : Str) (hv : v ≠ []) (hvl : v.length ≤ 1000000) (hc : (∃ b t, v = b :: t ∧ ¬ isBrk b) ∧ (∃ q b, v = q ++ [b] ∧ ¬ isBrk b)) (s p : Str) (hs : s.length ≤ 400) (hp : p.length ≤ 20) : ∀ (k i : Nat) (acc : Str), s.length - i ≤ k → i ≤ s.length → acc.length ≤ 100 + 100 * i → val (acc ++ ins p (s.drop i)) = v → p_cascadelaw07_BlockClean_7 s v p acc (i : Int) = some true
  | k, i, acc, hk, hi, ha, ho => by
    by_cases h : i < s.length
    · obtain ⟨b, hb⟩ := get_some h
      have hd : s.drop i = b :: s.drop (i + 1) := by
        obtain ⟨_, rfl⟩ := List.getElem?_eq_some_iff.1 hb
        exact List.drop_eq_getElem_cons h
      rw [u_cascadelaw07_BlockClean_7]
      unfold b_cascadelaw07_BlockClean_7
      rw [r_slen, lss_true h]
      simp only
      rw [M.r_add (by unfold fit64; omega), show (i : Int) + 1 = ((i + 1 : Nat) : Int) by omega, r_ssub2 (by omega) (by omega)]
      simp only
      have e1 : (s.take (i + 1)).drop i = [b] := by
        rw [List.drop_take, hd]; simp
      rw [e1, M.r_scat (by simp; omega)]
      simp only
      rw [r_sidx hb]
      simp only
      have e10 := byte_eq b 10 (by omega)
      have e13 := byte_eq b 13 (by omega)
      rw [show ((10 : Nat) : Int) = 10 from rfl] at e10
      rw [show ((13 : Nat) : Int) = 13 from rfl] at e13
      rw [e10, e13, r_sub64 (by unfold fit64; omega)]
      rw [hd] at ho
      have hcat : Prims.real.scat (acc ++ [b]) p = some (acc ++ [b] ++ p) := M.r_scat (by simp; omega)
      have h9 : ∀ o, p_cascadelaw07_BlockClean_9 s v p o (i : Int) = some (.inl (s, v, p, o, ((i + 1 : Nat) : Int))) := fun o => clean9 s v p o i (by omega)
      cases k with
      | zero => omega
      | succ k =>
        have ih := fun acc h1 h2 => clean_loop v hv hvl hc s p hs hp k (i + 1) acc (by omega) (by omega) h1 h2
        have yes : (b = 10 ∨ (b = 13 ∧ (s.drop (i + 1))[0]? ≠ some 10)) → p_cascadelaw07_BlockClean_7 s v p (acc ++ [b] ++ p) ((i + 1 : Nat) : Int) = some true := fun c => by
          rw [ins, if_pos c] at ho
          refine ih _ (by simp; omega) ?_
          simpa using ho
        have no : ¬ (b = 10 ∨ (b = 13 ∧ (s.drop (i + 1))[0]? ≠ some 10)) → p_cascadelaw07_BlockClean_7 s v p (acc ++ [b]) ((i + 1 : Nat) : Int) = some true := fun c => by
          rw [ins, if_neg c] at ho
          refine ih _ (by simp; omega) ?_
          simpa using ho
        cases c10 : b == UInt8.ofNat 10 with
        | true =>
          simp only [hcat, h9]
          exact yes (.inl (beq_iff_eq.1 c10))
        | false =>
          have n10 : b ≠ 10 := fun c => by subst c; cases c10
          simp only
          cases c13 : b == UInt8.ofNat 13 with
          | false =>
            have n13 : b ≠ 13 := fun c => by subst c; cases c13
            simp only [h9]
            exact no (fun c => by rcases c with c | c; · exact n10 c
                                  · exact n13 c.1)
          | true =>
            have y13 : b = 13 := beq_iff_eq.1 c13
            simp only
            have hn : (s.drop (i + 1))[0]? = s[i + 1]? := by rw [List.getElem?_drop]
            rw [hn] at yes no
            by_cases hl : i + 1 < s.length
            · rw [lss_t (by omega)]
              obtain ⟨b', hb'⟩ := get_some hl
              simp only
              rw [r_sidx hb']
              simp only
              have f10 := byte_eq b' 10 (by omega)
              rw [show ((10 : Nat) : Int) = 10 from rfl] at f10
              rw [f10]
              rw [hb'] at yes no
              cases d10 : b' == UInt8.ofNat 10 with
              | false =>
                simp only [hcat, h9]
                exact yes (.inr ⟨y13, fun c => by cases c; cases d10⟩)
              | true =>
                simp only [h9]
                exact no (fun c => by
                  rcases c with c | c
                  · exact n10 c
                  · exact c.2 (by rw [beq_iff_eq.1 d10]; rfl))
            · rw [lss_f (by omega)]
              simp only [hcat, h9]
              exact yes (.inr ⟨y13, fun c => by rw [List.getElem?_eq_none (by omega)] at c; cases c⟩)
    · have : s.drop i = [] := List.drop_eq_nil_of_le (by omega)
      rw [this] at ho
      rw [ins, List.append_nil] at ho
      exact clean_end v hv hvl hc s p acc i (by omega) (by omega) ho
theorem val_len (s : Str) (hs : s.length ≤ 1000) : (val s).length ≤ 1000000 := by
  unfold val valL
  have hl := rep_len 92 [34, 34, 34] [34, 34, 34] _ s (Nat.le_refl _)
  have hr := lines_room (unq s)
  unfold unq at hr ⊢
  simp only [List.length_cons, List.length_nil] at hl
  generalize lines (rep 92 [34, 34, 34] [34, 34, 34] s) = L at *
  have hcut : ∀ n, Lib.lens (cut n L) + (cut n L).length ≤ 4001 := fun n => by
    rw [cut_len]
    cases L with
    | nil => simp [cut, Lib.lens]
    | cons x r =>
      have := lens_map n r
      unfold cut
      rw [lens_cons] at hr ⊢
      omega
  have hcore : ∀ C : List Str, Lib.lens C + C.length ≤ 4001 → (Lib.join (core C) [10]).length ≤ 1000000 := fun C hC => by
    have h1 : Lib.lens (core C) + (core C).length ≤ Lib.lens C + C.length := by
      unfold core
      have e := trimE_prefix (C.dropWhile blank)
      have h2 := Lib.lens_take_le (C.dropWhile blank) (trimE (C.dropWhile blank)).length
      rw [e] at h2
      have h3 := congrArg Lib.lens (List.takeWhile_append_dropWhile (p := blank) (l := C))
      rw [lens_app] at h3
      have h4 := congrArg List.length (List.takeWhile_append_dropWhile (p := blank) (l := C))
      rw [List.length_append] at h4
      have h5 := congrArg List.length e
      rw [List.length_take] at h5
      omega
    generalize core C = D at *
    cases D with
    | nil => exact Nat.zero_le _
    | cons x r =>
      rw [Lib.join_length]
      simp only [List.length_cons, List.length_nil] at h1 ⊢
      omega
  exact hcore _ (hcut _)
theorem clean3 (s v : Str) (hs : s.length ≤ 400) (hv : v = val (10 :: s)) (hne : v ≠ []) (n : Int) (h0 : 0 ≤ n) (h1 : n < 256) : ∀ (k i : Nat), 20 - i ≤ k → (i : Int) ≤ n % 20 → p_cascadelaw07_BlockClean_3 s n v (List.replicate i 32) (i : Int) = some true
  | k, i, hk, hi => by
    rw [u_cascadelaw07_BlockClean_3]
    unfold b_cascadelaw07_BlockClean_3
    rw [r_rem h0 (by omega)]
    simp only
    have hm : n % 20 < 20 := Int.emod_lt_of_pos _ (by omega)
    rw [r_wrap64 (by unfold fit64; omega)]
    by_cases h : (i : Int) < n % 20
    · rw [lss_t h]
      simp only
      rw [M.r_scat (by simp; omega)]
      simp only
      rw [M.r_add (by unfold fit64; omega)]
      have e : List.replicate i (32 : UInt8) ++ [32] = List.replicate (i + 1) 32 := by rw [List.replicate_succ']
      rw [e]
      cases k with
      | zero => omega
      | succ k => exact clean3 s v hs hv hne n h0 h1 k (i + 1) (by omega) (by omega)
    · rw [lss_f (by omega)]
      simp only
      rw [M.r_scat (by simp; omega)]
      simp only
      have hp : ∀ b ∈ List.replicate i (32 : UInt8), b = 32 := fun b hb => (List.mem_replicate.1 hb).2
      have hval := val_more _ hp s
      have hcl := val_clean (10 :: s) (by rw [← hv]; exact hne)
      rw [← hv] at hcl
      have := clean_loop v hne (by rw [hv]; exact val_len _ (by simp; omega)) hcl s (List.replicate i 32) hs (by simp; omega) _ 0 ([10] ++ List.replicate i 32) (Nat.le_refl _) (Nat.zero_le _) (by simp; omega) (by
        rw [List.drop_zero, hv, ← hval]; simp)
      rw [show ((0 : Nat) : Int) = 0 from rfl] at this
      rw [this]
theorem u8_wf {n : Int} (h : (Lit.int .u8 n).wf = true) : 0 ≤ n ∧ n < 256 := by
  simp only [Lit.wf, Bool.and_eq_true, decide_eq_true_eq] at h
  have h1 : IntKind.u8.min = 0 := rfl
  have h2 : IntKind.u8.max = 255 := rfl
  omega
theorem BlockClean (s : Str) (n : Int) (h0 : 0 ≤ n) (h1 : n < 256) : p_cascadelaw07_BlockClean s n = some true := by
  unfold p_cascadelaw07_BlockClean p_cascadelaw07_BlockClean_0 b_cascadelaw07_BlockClean_0
  simp only [awake, r_slen]
  by_cases h : s.length ≤ 400
  · rw [gtr_f (by omega)]
    simp only
    rw [M.r_scat (by simp; omega)]
    simp only [List.cons_append, List.nil_append]
    rw [block_Value _ (by simp; omega)]
    simp only
    by_cases hv : val (10 :: s) = []
    · rw [seq_t hv]
    · rw [seq_f hv]
      exact clean3 s _ h rfl hv n h0 h1 _ 0 (Nat.le_refl _) (by omega)
  · rw [gtr_t (by omega)]
end Go.Abs.Q
