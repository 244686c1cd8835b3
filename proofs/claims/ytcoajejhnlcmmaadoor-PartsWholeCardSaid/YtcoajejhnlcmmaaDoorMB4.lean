import Derived.Test.YtcoajejhnlcmmaaDoorMB3
/-! A stream of which one byte was turned: the law's function. -/
set_option linter.unusedVariables false
set_option linter.unusedSimpArgs false
namespace Go.Abs.B
open M
/-! ### Numbers in digits -/
theorem ofBytes_dch {d : Nat} (h : d < 10) : Prims.real.ofBytes [Prims.real.wrap .u8 (Prims.real.ar .add .i64 48 (d : Int))] = [dch d] := by
  rw [r_add (by unfold fit64; omega), r_wrap8 (by omega) (by omega), r_ofBytes]
  simp only [List.map_cons, List.map_nil, dch]
  congr 2
theorem num_end (s g : Str) (k : Nat) (hk : k ≤ 20) (hs : s.length ≤ 20) (hg : g.length ≤ 20) : p_cascaderef05_Number_3 0 s g (k : Int) = some (g ++ s) := by
  rw [u_cascaderef05_Number_3]
  unfold b_cascaderef05_Number_3
  have e : p_cascaderef05_Number_7 s g = some (g ++ s) := by
    unfold p_cascaderef05_Number_7 b_cascaderef05_Number_7
    rw [r_scat (by omega)]
  by_cases c : k < 20
  · rw [lss_t (by omega), neq_f rfl]
    simp only [e]
  · rw [lss_f (by omega)]
    simp only [e]
theorem num_step (n : Nat) (s g : Str) (k : Nat) (hn : 1 ≤ n) (hn2 : n < 1000) (hk : k < 20) (hs : s.length ≤ 20) : p_cascaderef05_Number_3 (n : Int) s g (k : Int) = p_cascaderef05_Number_3 ((n / 10 : Nat) : Int) (dch (n % 10) :: s) g ((k + 1 : Nat) : Int) := by
  rw [u_cascaderef05_Number_3]
  unfold b_cascaderef05_Number_3
  rw [lss_t (by omega), neq_t (by omega), r_rem (by omega) (by omega)]
  simp only
  rw [lss_f (by omega)]
  simp only
  have e : p_cascaderef05_Number_5 (n : Int) s g (k : Int) ((n : Int) % 10) = some (.inl (((n / 10 : Nat) : Int), dch (n % 10) :: s, g, ((k + 1 : Nat) : Int))) := by
    unfold p_cascaderef05_Number_5 b_cascaderef05_Number_5
    rw [show (n : Int) % 10 = ((n % 10 : Nat) : Int) by omega, ofBytes_dch (by omega), r_scat (by simp; omega)]
    simp only
    rw [r_quo (by omega) (by omega) (by omega), r_add (by unfold fit64; omega)]
    simp only [List.singleton_append]
    congr 2
  simp only [e]
theorem number (n : Nat) (hn : n < 1000) : p_cascaderef05_Number (n : Int) = some (decS n) := by
  unfold p_cascaderef05_Number p_cascaderef05_Number_0 b_cascaderef05_Number_0
  by_cases h0 : n = 0
  · subst h0
    rw [eql_t (by omega)]
    rfl
  · rw [eql_f (by omega), lss_f (by omega)]
    simp only
    unfold p_cascaderef05_Number_2 b_cascaderef05_Number_2
    rw [show (0 : Int) = ((0 : Nat) : Int) from rfl, num_step n [] [] 0 (by omega) hn (by omega) (by simp)]
    unfold decS
    by_cases h1 : n < 10
    · rw [if_pos h1, show n / 10 = 0 by omega, show n % 10 = n by omega]
      exact num_end _ _ _ (by omega) (by simp) (by simp)
    · rw [if_neg h1, num_step (n / 10) _ _ _ (by omega) (by omega) (by omega) (by simp)]
      by_cases h2 : n < 100
      · rw [if_pos h2, show n / 10 / 10 = 0 by omega, show n / 10 % 10 = n / 10 by omega]
        exact num_end _ _ _ (by omega) (by simp) (by simp)
      · rw [if_neg h2, num_step (n / 10 / 10) _ _ _ (by omega) (by omega) (by omega) (by simp), show n / 10 / 10 / 10 = 0 by omega, show n / 10 / 10 % 10 = n / 100 by omega]
        exact num_end _ _ _ (by omega) (by simp) (by simp)
theorem refPart (b : Str) (h : b.length < 1000) : p_cascaderef28_Part b = some (part28 b) := by
  have := decS_len b.length
  unfold p_cascaderef28_Part p_cascaderef28_Part_0 b_cascaderef28_Part_0
  rw [r_slen, number _ h]
  simp only
  rw [r_scat (by simp; omega)]
  simp only
  rw [r_scat (by simp; omega)]
  simp only
  rw [r_scat (by simp; omega)]
  simp only
  rw [r_scat (by simp; omega)]
  simp only [part28, Option.some.injEq, List.append_assoc]
  rfl
def parts28 : List Str → Str
  | [] => []
  | b :: l => part28 b ++ parts28 l
theorem whole_app : ∀ (p l : List Str), whole28 (p ++ l) = parts28 p ++ whole28 l
  | [], l => rfl
  | b :: p, l => by show part28 b ++ whole28 (p ++ l) = _; rw [whole_app p l, parts28, List.append_assoc]
theorem parts_snoc : ∀ (p : List Str) (b : Str), parts28 (p ++ [b]) = parts28 p ++ part28 b
  | [], b => by simp [parts28]
  | c :: p, b => by show part28 c ++ parts28 (p ++ [b]) = _; rw [parts_snoc p b, parts28, List.append_assoc]
theorem part_len (b : Str) (h : b.length ≤ 300) : (part28 b).length ≤ 400 := by
  have := part28_len b; have := decS_len b.length; omega
theorem parts_len : ∀ (l : List Str), (∀ b ∈ l, b.length ≤ 300) → (parts28 l).length ≤ l.length * 400
  | [], _ => by simp [parts28]
  | b :: l, h => by
    have := part_len b (h b (by simp))
    have := parts_len l fun x hx => h x (by simp [hx])
    simp only [parts28, List.length_append, List.length_cons]; omega
theorem refWhole_1 (l : List Str) (hl : l.length ≤ 1000) (h : ∀ b ∈ l, b.length ≤ 300) : ∀ (k : Nat) (p q : List Str), q.length = k → l = p ++ q → p_cascaderef28_Whole_1 l (parts28 p) (p.length : Int) = some (whole28 l)
  | 0, p, q, hk, e => by
    have : q = [] := List.length_eq_zero_iff.1 hk
    subst this
    have hp := parts_len l h
    rw [List.append_nil] at e
    subst e
    rw [u_cascaderef28_Whole_1]
    unfold b_cascaderef28_Whole_1
    rw [r_len, lss_f (by omega)]
    simp only
    rw [r_scat (by simp; omega)]
    have := whole_app l []
    rw [List.append_nil] at this
    rw [this]
    rfl
  | k + 1, p, q, hk, e => by
    cases q with
    | nil => simp at hk
    | cons b q =>
      have hp := parts_len l h
      have hll := congrArg List.length e
      simp only [List.length_append, List.length_cons] at hll
      rw [u_cascaderef28_Whole_1]
      unfold b_cascaderef28_Whole_1
      rw [r_len, lss_t (by omega), r_idx (b := b) (by rw [e]; simp)]
      have hb : b.length ≤ 300 := h b (by rw [e]; simp)
      simp only [refPart b (by omega)]
      have := part_len b hb
      have hpp := parts_len p fun x hx => h x (by rw [e]; simp [hx])
      rw [r_scat (by omega)]
      simp only
      rw [r_add (by unfold fit64; omega), ← parts_snoc]
      have := refWhole_1 l hl h k (p ++ [b]) q (by simpa using hk) (by simp [e])
      simpa using this
theorem refWhole (l : List Str) (hl : l.length ≤ 1000) (h : ∀ b ∈ l, b.length ≤ 300) : p_cascaderef28_Whole l = some (whole28 l) := by
  unfold p_cascaderef28_Whole p_cascaderef28_Whole_0 b_cascaderef28_Whole_0
  exact refWhole_1 l hl h _ [] l rfl rfl
/-! ### Few -/
theorem few_loop (l : List Str) (n z : Int) : ∀ (k i : Nat), 100 - i ≤ k → i ≤ 100 → p_cascadelaw28_few_1 l n z (i : Int) = some false ∨ (p_cascadelaw28_few_1 l n z (i : Int) = some (decide ((l.length : Int) ≤ n)) ∧ ∀ j x, i ≤ j → j < 100 → l[j]? = some x → (x.length : Int) ≤ z)
  | k, i, hk, hi => by
    rw [u_cascadelaw28_few_1]
    unfold b_cascadelaw28_few_1
    have e : p_cascadelaw28_few_4 l n = some (decide ((l.length : Int) ≤ n)) := by
      unfold p_cascadelaw28_few_4 b_cascadelaw28_few_4
      rw [r_len, r_leq]
    rw [r_len]
    by_cases c : i < l.length
    · rw [lss_t (by omega)]
      simp only
      by_cases c2 : i < 100
      · rw [lss_t (by omega)]
        simp only [r_idx (List.getElem?_eq_getElem c), r_slen]
        by_cases c3 : z < (l[i].length : Int)
        · rw [gtr_t c3]; exact .inl rfl
        · rw [gtr_f (by omega), r_add (by unfold fit64; omega)]
          simp only
          cases k with
          | zero => omega
          | succ k =>
            rcases few_loop l n z k (i + 1) (by omega) (by omega) with h | ⟨h1, h2⟩
            · exact .inl h
            · refine .inr ⟨h1, fun j x hj hj2 hx => ?_⟩
              by_cases ej : j = i
              · subst ej
                rw [List.getElem?_eq_getElem c, Option.some.injEq] at hx
                subst hx; omega
              · exact h2 j x (by omega) hj2 hx
      · rw [lss_f (by omega)]
        simp only [e]
        exact .inr ⟨by first | trivial | rfl, fun j x h1 h2 => by omega⟩
    · rw [lss_f (by omega)]
      simp only [e]
      exact .inr ⟨by first | trivial | rfl, fun j x h1 h2 h3 => by rw [List.getElem?_eq_none (by omega)] at h3; cases h3⟩
theorem few (l : List Str) (n z : Nat) (hn : n ≤ 100) : p_cascadelaw28_few l (n : Int) (z : Int) = some false ∨ (p_cascadelaw28_few l (n : Int) (z : Int) = some true ∧ l.length ≤ n ∧ ∀ x ∈ l, x.length ≤ z) := by
  unfold p_cascadelaw28_few p_cascadelaw28_few_0 b_cascadelaw28_few_0
  rcases few_loop l n z 100 0 (by omega) (by omega) with h | ⟨h1, h2⟩
  · exact .inl h
  · by_cases c : l.length ≤ n
    · refine .inr ⟨?_, c, fun x hx => ?_⟩
      · rw [Int.natCast_zero] at h1
        rw [h1, decide_eq_true (by omega)]
      · obtain ⟨j, hj⟩ := List.getElem?_of_mem hx
        have := (List.getElem?_eq_some_iff.1 hj).1
        have := h2 j x (by omega) (by omega) hj
        omega
    · refine .inl ?_
      rw [Int.natCast_zero] at h1
      rw [h1, decide_eq_false (by omega)]
/-! ### The same names -/
theorem same_loop (a b : List Str) (hab : a.length = b.length) (ha : a.length ≤ 1000000000) : ∀ (k i : Nat), a.length - i ≤ k → i ≤ a.length → p_cascaderef12_SameNames_2 a b (i : Int) = some (decide (a.drop i = b.drop i))
  | k, i, hk, hi => by
    rw [u_cascaderef12_SameNames_2]
    unfold b_cascaderef12_SameNames_2
    rw [r_len]
    by_cases c : i < a.length
    · rw [lss_t (by omega)]
      simp only [r_idx (List.getElem?_eq_getElem c), r_idx (List.getElem?_eq_getElem (show i < b.length by omega))]
      rw [List.drop_eq_getElem_cons c, List.drop_eq_getElem_cons (show i < b.length by omega)]
      by_cases e : a[i] = b[i]
      · rw [seq_t e, r_add (by unfold fit64; omega)]
        simp only
        cases k with
        | zero => omega
        | succ k =>
          rw [show ((i : Int) + 1) = ((i + 1 : Nat) : Int) by omega, same_loop a b hab ha k (i + 1) (by omega) (by omega)]
          simp only [e, List.cons.injEq, true_and]
      · rw [seq_f e]
        simp only [List.cons.injEq, e, false_and, decide_false]
    · rw [lss_f (by omega), List.drop_eq_nil_of_le (by omega), List.drop_eq_nil_of_le (by omega)]
      simp
theorem sameNames (a b : List Str) (ha : a.length ≤ 1000000000) : p_cascaderef12_SameNames a b = some (decide (a = b)) := by
  unfold p_cascaderef12_SameNames p_cascaderef12_SameNames_0 b_cascaderef12_SameNames_0
  rw [r_len, r_len]
  by_cases e : a.length = b.length
  · rw [neq_f (by omega)]
    have := same_loop a b e ha _ 0 (Nat.le_refl _) (by omega)
    simpa using this
  · rw [neq_t (by omega), decide_eq_false (fun h => e (by rw [h]))]
/-! ### All bodies that a reader tells -/
def Rd.lies (r : Rd) : Prop := r.at_ + r.rest.length ≤ 1000000000 ∧ r.bad ≤ 1000000001
theorem Rd.lies.fits {r : Rd} (h : r.lies) : r.fits := by
  obtain ⟨h1, h2⟩ := h
  exact ⟨by omega, by omega, by omega⟩
theorem stopS_lies {r : Rd} (h : r.lies) : (stopS r).lies := by
  obtain ⟨h1, h2⟩ := h
  unfold stopS
  split
  · exact ⟨h1, h2⟩
  · exact ⟨h1, by simp only; omega⟩
theorem nextS_lies {r : Rd} (h : r.lies) : (nextS r).2.2.lies := by
  have hh := h
  obtain ⟨h1, h2⟩ := h
  unfold nextS
  split
  · exact hh
  · split
    · exact ⟨h1, by simp only; omega⟩
    · have := partS_le r.rest
      simp only
      split
      · exact ⟨h1, by simp only; omega⟩
      · split
        · exact hh
        · split
          · exact ⟨by simp only [List.length_drop]; omega, h2⟩
          · exact stopS_lies ⟨by simp only [List.length_drop]; omega, by simp⟩
theorem drain_6 : ∀ (k i g : Nat) (out : List Str) (r : Rd), i + k = 500 → r.lies → out.length ≤ 100000 + i →
    p_cascadelaw28_drain__0_6 g out (i : Int) r.rest r.at_ r.over r.bad = some (out ++ (drainS k r).1, (drainS k r).2.rest, ((drainS k r).2.at_ : Int), (drainS k r).2.over, ((drainS k r).2.bad : Int))
  | 0, i, g, out, r, hi, hr, ho => by
    rw [u_cascadelaw28_drain__0_6]
    unfold b_cascadelaw28_drain__0_6
    rw [lss_f (by omega)]
    simp only [p_cascadelaw28_drain__0_8, b_cascadelaw28_drain__0_8, drainS, List.append_nil]
  | k + 1, i, g, out, r, hi, hr, ho => by
    rw [u_cascadelaw28_drain__0_6]
    unfold b_cascadelaw28_drain__0_6
    rw [lss_t (by omega)]
    simp only [p_cascadelaw28_drain__0_7, b_cascadelaw28_drain__0_7, next r hr.fits]
    cases hn : (nextS r).2.1 with
    | false =>
      simp only [drainS, hn, Bool.false_eq_true, if_false, List.append_nil]
    | true =>
      simp only [p_cascadelaw28_drain__0_9, b_cascadelaw28_drain__0_9]
      rw [M.r_app (by simp only [List.length_cons, List.length_nil, room]; omega) (by simp only [List.length_cons, List.length_nil, room]; omega)]
      simp only [p_cascadelaw28_drain__0_10, b_cascadelaw28_drain__0_10]
      rw [r_add (by unfold fit64; omega)]
      have := drain_6 k (i + 1) (g + 1) (out ++ [(nextS r).1]) (nextS r).2.2 (by omega) (nextS_lies hr) (by simp; omega)
      rw [show ((i : Int) + 1) = ((i + 1 : Nat) : Int) by omega]
      simp only [drainS, hn, if_true]
      simpa using this
theorem drainS_succ (n : Nat) (r : Rd) : drainS (n + 1) r = if (nextS r).2.1 = true then ((nextS r).1 :: (drainS n (nextS r).2.2).1, (drainS n (nextS r).2.2).2) else ([], (nextS r).2.2) := by rw [drainS]
theorem drain (r : Rd) (hr : r.lies) : p_cascadelaw28_drain__0 r.rest r.at_ r.over r.bad = some ((drainS 500 r).1, (drainS 500 r).2.rest, ((drainS 500 r).2.at_ : Int), (drainS 500 r).2.over, ((drainS 500 r).2.bad : Int)) := by
  unfold p_cascadelaw28_drain__0 p_cascadelaw28_drain__0_0 b_cascadelaw28_drain__0_0
  rw [u_cascadelaw28_drain__0_1]
  unfold b_cascadelaw28_drain__0_1
  rw [lss_t (by omega)]
  have h6 := fun (r : Rd) (out : List Str) (h : r.lies) (ho : out.length ≤ 100001) => drain_6 499 1 0 out r (by omega) h ho
  have h500 := drainS_succ 499 r
  rw [show 499 + 1 = 500 from rfl] at h500
  simp only [p_cascadelaw28_drain__0_2, b_cascadelaw28_drain__0_2, next r hr.fits]
  cases hn : (nextS r).2.1 with
  | false =>
    rw [hn, if_neg (by simp)] at h500
    rw [h500]
  | true =>
    rw [hn, if_pos rfl] at h500
    rw [h500]
    simp only [p_cascadelaw28_drain__0_3, b_cascadelaw28_drain__0_3]
    rw [M.r_app (by simp [room]) (by simp [room])]
    simp only [p_cascadelaw28_drain__0_4, b_cascadelaw28_drain__0_4]
    rw [r_add (by unfold fit64; omega)]
    have := h6 (nextS r).2.2 [(nextS r).1] (nextS_lies hr) (by simp)
    rw [show ((0 : Int) + 1) = ((1 : Nat) : Int) from rfl]
    simp only [List.nil_append, this, List.singleton_append]
end Go.Abs.B
