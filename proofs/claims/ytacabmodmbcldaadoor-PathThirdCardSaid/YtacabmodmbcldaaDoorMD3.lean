import Derived.Test.YtacabmodmbcldaaDoorMD0
import Derived.Sort.Walk0
/-! The order of paths. -/
set_option linter.unusedVariables false
set_option linter.unusedSimpArgs false
namespace Go.Abs.T
open M
theorem one06 (s t : Stp) : p_path_one s t = some (decide (s = t)) := by
  obtain ⟨k, a, b⟩ := s
  obtain ⟨k', a', b'⟩ := t
  show p_path_one_0 k a b k' a' b' = _
  unfold p_path_one_0 b_path_one_0
  by_cases h1 : k = k'
  · rw [seq_t h1]
    by_cases h2 : a = a'
    · rw [eql_t h2]
      subst h1; subst h2
      cases b <;> cases b' <;> simp
    · rw [eql_f h2]
      simp [h2]
  · rw [seq_f h1]
    simp [h1]
theorem equal_2 (p q : List Stp) (hl : p.length = q.length) (hp : p.length ≤ 1000) : ∀ (m i : Nat), p.length - i ≤ m → i ≤ p.length →
    p_slices_EqualFunc__api_Step__api_Step_api_Step_api_Step__0_2 q p (p.length : Int) (i : Int) = some (decide (p.drop i = q.drop i))
  | m, i, hm, hi => by
    rw [u_slices_EqualFunc__api_Step__api_Step_api_Step_api_Step__0_2]
    unfold b_slices_EqualFunc__api_Step__api_Step_api_Step_api_Step__0_2
    by_cases h : i < p.length
    · have h' : i < q.length := by omega
      rw [lss_t (by omega), r_idx (List.getElem?_eq_getElem h), List.drop_eq_getElem_cons h, List.drop_eq_getElem_cons h']
      have hy : q[i]? = some q[i] := List.getElem?_eq_getElem h'
      generalize p[i] = x at *
      generalize q[i] = y at *
      obtain ⟨k, a, b⟩ := x
      obtain ⟨k', a', b'⟩ := y
      simp only [r_idx hy, one06]
      by_cases e : (⟨k, a, b⟩ : Stp) = ⟨k', a', b'⟩
      · rw [decide_eq_true e]
        simp only
        rw [r_add (by unfold fit64; omega)]
        cases m with
        | zero => omega
        | succ m =>
          rw [show ((i : Int) + 1) = ((i + 1 : Nat) : Int) by omega, equal_2 p q hl hp m (i + 1) (by omega) (by omega), e]
          simp
      · rw [decide_eq_false e]
        simp only [List.cons.injEq, e, false_and, decide_false]
    · rw [lss_f (by omega), List.drop_eq_nil_of_le (by omega), List.drop_eq_nil_of_le (by omega)]
      rfl
theorem equal06 (p q : List Stp) (hp : p.length ≤ 1000) : p_slices_EqualFunc__api_Step__api_Step_api_Step_api_Step__0 p q = some (decide (p = q)) := by
  unfold p_slices_EqualFunc__api_Step__api_Step_api_Step_api_Step__0 p_slices_EqualFunc__api_Step__api_Step_api_Step_api_Step__0_0 b_slices_EqualFunc__api_Step__api_Step_api_Step_api_Step__0_0
  rw [r_len, r_len]
  by_cases h : p.length = q.length
  · rw [neq_f (by omega)]
    have := equal_2 p q h hp _ 0 (Nat.le_refl _) (by omega)
    simpa using this
  · rw [neq_t (by omega), decide_eq_false (fun e => h (by rw [e]))]
theorem same06 (p q : List Stp) (hp : p.length ≤ 1000) : p_path_Same p q = some (decide (p = q)) := by
  unfold p_path_Same p_path_Same_0 b_path_Same_0
  simp only [equal06 p q hp]
theorem under06 (p q : List Stp) (hp : p.length ≤ 1000) : p_path_Under p q = some (decide (p.length ≤ q.length ∧ p = q.take p.length)) := by
  unfold p_path_Under p_path_Under_0 b_path_Under_0
  rw [r_len, r_len]
  by_cases h : p.length ≤ q.length
  · rw [leq_t (by omega)]
    have e : Prims.real.sub q none (some (p.length : Int)) = some (q.take p.length) := by
      rw [r_sub]
      simp [Pr.sub, bnd_nat, Pr.bnd.eq_1, Pr.cutB, h]
    simp only [e, equal06 p _ hp]
    simp [h]
  · rw [leq_f (by omega), decide_eq_false (fun e => h e.1)]
/-! ### The order -/
/-- Ahead of: a step of another. -/
def cS (s t : Stp) : Int :=
  if s.index ≠ t.index then (if t.index = true then -1 else 1)
  else if s.key < t.key then -1 else if s.key = t.key then (if s.f_at < t.f_at then -1 else if t.f_at < s.f_at then 1 else 0) else 1
theorem nanS (k : Str) : p_cmp_isNaN_string k = some false := by
  unfold p_cmp_isNaN_string p_cmp_isNaN_string_0 b_cmp_isNaN_string_0
  rw [seq_t rfl]
theorem nanI (k : Int) : p_cmp_isNaN_int k = some false := by
  unfold p_cmp_isNaN_int p_cmp_isNaN_int_0 b_cmp_isNaN_int_0
  rw [neq_f rfl]
theorem slt06 (a b : Str) : Prims.real.slt a b = decide (a < b) := by rw [r_slt]; exact Go.Proofs.bytesLess_eq a b
theorem cmpS (a b : Str) : p_cmp_Compare_string a b = some (if a < b then -1 else if a = b then 0 else 1) := by
  unfold p_cmp_Compare_string p_cmp_Compare_string_0 b_cmp_Compare_string_0
  simp only [nanS]
  rw [slt06]
  by_cases h : a < b
  · simp [h]
  · rw [decide_eq_false h, if_neg h]
    by_cases e : a = b
    · rw [seq_t e, if_pos e]; rfl
    · rw [seq_f e, if_neg e]
theorem cmpI (a b : Int) : p_cmp_Compare_int a b = some (if a < b then -1 else if b < a then 1 else 0) := by
  unfold p_cmp_Compare_int p_cmp_Compare_int_0 b_cmp_Compare_int_0
  simp only [nanI]
  by_cases h : a < b
  · rw [lss_t h, if_pos h]
  · rw [lss_f (by omega), if_neg h]
    by_cases e : b < a
    · rw [gtr_t e, if_pos e]
    · rw [gtr_f (by omega), if_neg e]
      first | done | rfl
theorem or06 (a b : Int) : p_cmp_Or_int [a, b] = some (if a ≠ 0 then a else b) := by
  have i0 : Prims.real.idx [a, b] 0 = some a := rfl
  have i1 : Prims.real.idx [a, b] 1 = some b := rfl
  have a0 : Prims.real.ar .add .i64 0 1 = 1 := rfl
  have a1 : Prims.real.ar .add .i64 1 1 = 2 := rfl
  unfold p_cmp_Or_int p_cmp_Or_int_0 b_cmp_Or_int_0
  rw [r_len, u_cmp_Or_int_1]
  unfold b_cmp_Or_int_1
  rw [lss_t (by simp)]
  simp only [i0]
  by_cases h : a = 0
  · rw [neq_f h, if_neg (by simp [h])]
    simp only [a0]
    rw [u_cmp_Or_int_1]
    unfold b_cmp_Or_int_1
    rw [lss_t (by simp)]
    simp only [i1]
    by_cases h2 : b = 0
    · rw [neq_f h2]
      simp only [a1]
      rw [u_cmp_Or_int_1]
      unfold b_cmp_Or_int_1
      rw [lss_f (by simp)]
      simp [h2]
    · rw [neq_t h2]
  · rw [neq_t h, if_pos h]
theorem compare06 (s t : Stp) : p_path_compare s t = some (cS s t) := by
  obtain ⟨k, a, b⟩ := s
  obtain ⟨k', a', b'⟩ := t
  show p_path_compare_0 k a b k' a' b' = _
  unfold p_path_compare_0 b_path_compare_0 cS
  have e2 : ∀ c d, p_path_compare_2 k a c k' a' d = some (if k < k' then -1 else if k = k' then (if a < a' then -1 else if a' < a then 1 else 0) else 1) := by
    intro c d
    unfold p_path_compare_2 b_path_compare_2
    simp only [cmpS, cmpI, or06]
    by_cases h1 : k < k'
    · simp [h1]
    · by_cases h2 : k = k'
      · subst h2; simp [h1]
      · simp [h1, h2]
  cases b <;> cases b' <;> simp [e2]
def cP : List Stp → List Stp → Int
  | [], [] => 0
  | [], _ :: _ => -1
  | _ :: _, [] => 1
  | s :: p, t :: q => if cS s t ≠ 0 then cS s t else cP p q
theorem cmp_1 (p q : List Stp) (hp : p.length ≤ 1000) (hq : q.length ≤ 1000) : ∀ (m i : Nat), p.length - i ≤ m → i ≤ p.length → i ≤ q.length →
    p_slices_CompareFunc__api_Step__api_Step_api_Step_api_Step__0_1 p q p (p.length : Int) (i : Int) = some (cP (p.drop i) (q.drop i))
  | m, i, hm, hi, hi2 => by
    rw [u_slices_CompareFunc__api_Step__api_Step_api_Step_api_Step__0_1]
    unfold b_slices_CompareFunc__api_Step__api_Step_api_Step_api_Step__0_1
    rw [r_len, r_len]
    by_cases h : i < p.length
    · rw [lss_t (by omega), r_idx (List.getElem?_eq_getElem h), List.drop_eq_getElem_cons h]
      by_cases h' : i < q.length
      · rw [List.drop_eq_getElem_cons h']
        have hy : q[i]? = some q[i] := List.getElem?_eq_getElem h'
        generalize p[i] = x at *
        generalize q[i] = y at *
        obtain ⟨k, a, b⟩ := x
        obtain ⟨k', a', b'⟩ := y
        simp only
        rw [geq_f (by omega)]
        simp only [r_idx hy, compare06, cP]
        by_cases e : cS ⟨k, a, b⟩ ⟨k', a', b'⟩ = 0
        · rw [neq_f e, if_neg (by simp [e])]
          simp only
          rw [r_add (by unfold fit64; omega)]
          cases m with
          | zero => omega
          | succ m =>
            rw [show ((i : Int) + 1) = ((i + 1 : Nat) : Int) by omega]
            exact cmp_1 p q hp hq m (i + 1) (by omega) (by omega) (by omega)
        · rw [neq_t e, if_pos e]
      · rw [show q.drop i = [] from List.drop_eq_nil_of_le (by omega)]
        generalize p[i] = x at *
        obtain ⟨k, a, b⟩ := x
        simp only
        rw [geq_t (by omega)]
        rfl
    · rw [lss_f (by omega), List.drop_eq_nil_of_le (by omega)]
      by_cases h' : i < q.length
      · rw [lss_t (by omega), List.drop_eq_getElem_cons h']
        rfl
      · rw [lss_f (by omega), List.drop_eq_nil_of_le (by omega)]
        rfl
theorem less06 (p q : List Stp) (hp : p.length ≤ 1000) (hq : q.length ≤ 1000) : p_path_Less p q = some (decide (cP p q < 0)) := by
  unfold p_path_Less p_path_Less_0 b_path_Less_0 p_slices_CompareFunc__api_Step__api_Step_api_Step_api_Step__0 p_slices_CompareFunc__api_Step__api_Step_api_Step_api_Step__0_0 b_slices_CompareFunc__api_Step__api_Step_api_Step_api_Step__0_0
  rw [r_len]
  have := cmp_1 p q hp hq _ 0 (Nat.le_refl _) (by omega) (by omega)
  simp only [List.drop_zero] at this
  rw [show (0 : Int) = ((0 : Nat) : Int) from rfl, this]
  simp only [r_lss]
theorem cS_refl (s : Stp) : cS s s = 0 := by
  unfold cS
  simp
theorem cS_zero {s t : Stp} (h : cS s t = 0) : s = t := by
  obtain ⟨k, a, b⟩ := s
  obtain ⟨k', a', b'⟩ := t
  unfold cS at h
  simp only at h
  split at h
  · split at h <;> omega
  · rename_i hb
    split at h
    · omega
    · split at h
      · rename_i hk
        split at h
        · omega
        · split at h
          · omega
          · have : a = a' := by omega
            simp only [ne_eq, Decidable.not_not] at hb
            rw [hb, hk, this]
      · omega
theorem cS_trans {s t u : Stp} (h1 : cS s t < 0) (h2 : cS t u < 0) : cS s u < 0 := by
  obtain ⟨k, a, b⟩ := s
  obtain ⟨k', a', b'⟩ := t
  obtain ⟨k'', a'', b''⟩ := u
  have tr : ∀ {x y z : Str}, x < y → y < z → x < z := fun h h' => List.lt_trans h h'
  unfold cS at *
  simp only at *
  cases b <;> cases b' <;> cases b'' <;> simp only [ne_eq, Bool.false_eq_true, Bool.true_eq_false, not_false_eq_true, not_true_eq_false, if_true, if_false, reduceCtorEq] at h1 h2 ⊢ <;> first
    | omega
    | (by_cases c1 : k < k'
       · by_cases c2 : k' < k''
         · rw [if_pos (tr c1 c2)]; omega
         · rw [if_neg c2] at h2
           by_cases c3 : k' = k''
           · subst c3; rw [if_pos c1]; omega
           · rw [if_neg c3] at h2; omega
       · rw [if_neg c1] at h1
         by_cases c3 : k = k'
         · subst c3
           rw [if_pos rfl] at h1
           by_cases c2 : k < k''
           · rw [if_pos c2]; omega
           · rw [if_neg c2] at h2 ⊢
             by_cases c4 : k = k''
             · rw [if_pos c4] at h2 ⊢
               split at h1 <;> split at h2 <;> first
                 | (rw [if_pos (by omega)]; omega)
                 | (split at h1 <;> omega)
                 | (split at h2 <;> omega)
             · rw [if_neg c4] at h2; omega
         · rw [if_neg c3] at h1; omega)
theorem cP_trans : ∀ {p q r : List Stp}, cP p q < 0 → cP q r < 0 → cP p r < 0
  | [], [], r, h, _ => by simp [cP] at h
  | [], _ :: _, [], _, h => by simp [cP] at h
  | [], _ :: _, _ :: _, _, _ => by simp [cP]
  | _ :: _, [], _, h, _ => by simp [cP] at h
  | _ :: _, _ :: _, [], _, h => by simp [cP] at h
  | s :: p, t :: q, u :: r, h1, h2 => by
    simp only [cP] at h1 h2 ⊢
    by_cases e1 : cS s t = 0
    · have := cS_zero e1; subst this
      rw [if_neg (by simp [e1])] at h1
      by_cases e2 : cS s u = 0
      · rw [if_neg (by simp [e2])] at h2 ⊢
        exact cP_trans h1 h2
      · rw [if_pos e2] at h2 ⊢; exact h2
    · rw [if_pos e1] at h1
      by_cases e2 : cS t u = 0
      · have := cS_zero e2; subst this
        rw [if_pos e1]; exact h1
      · rw [if_pos e2] at h2
        have := cS_trans h1 h2
        rw [if_pos (by omega)]; exact this
theorem cP_under : ∀ (p t : List Stp), t ≠ [] → cP p (p ++ t) < 0
  | [], [], h => absurd rfl h
  | [], _ :: _, _ => by simp [cP]
  | s :: p, t, h => by
    simp only [List.cons_append, cP, cS_refl]
    simpa using cP_under p t h
theorem third_3 (p q : List Stp) (hp : p.length ≤ 1000) (hq : q.length ≤ 1000) : ∀ (m i : Nat), p.length - i ≤ m → i ≤ p.length → p_cascadelaw06_PathThird_3 p q (i : Int) = some true
  | m, i, hm, hi => by
    rw [u_cascadelaw06_PathThird_3]
    unfold b_cascadelaw06_PathThird_3
    rw [r_len]
    by_cases h : i < p.length
    · rw [lss_t (by omega), r_idx (List.getElem?_eq_getElem h)]
      generalize p[i] = x at *
      obtain ⟨k, a, b⟩ := x
      have e1 : p_path_Key k = some ⟨k, 0, false⟩ := rfl
      have e2 : p_path_Place a = some ⟨[], a, true⟩ := rfl
      simp only [e1, e2]
      rw [seq_t rfl, eql_t rfl]
      simp only
      rw [seq_t rfl, eql_t rfl]
      simp only
      rw [r_add (by unfold fit64; omega)]
      cases m with
      | zero => omega
      | succ m =>
        rw [show ((i : Int) + 1) = ((i + 1 : Nat) : Int) by omega]
        exact third_3 p q hp hq m (i + 1) (by omega) (by omega)
    · rw [lss_f (by omega)]
      simp only [under06 p q hp, same06 p q hp, less06 p q hp hq, under06 q p hq]
      by_cases hu : p.length ≤ q.length ∧ p = q.take p.length
      · rw [decide_eq_true hu]
        simp only
        by_cases hs : p = q
        · rw [decide_eq_true hs]
        · rw [decide_eq_false hs]
          simp only
          have hq' : q = p ++ q.drop p.length := by
            have := List.take_append_drop p.length q
            rw [← hu.2] at this; exact this.symm
          have hne : q.drop p.length ≠ [] := fun e => by rw [e, List.append_nil] at hq'; exact hs hq'.symm
          have hlt : cP p q < 0 := by rw [hq']; exact cP_under p _ hne
          have hpos : 0 < (q.drop p.length).length := List.length_pos_iff.2 hne
          rw [List.length_drop] at hpos
          rw [decide_eq_true hlt]
          simp only
          rw [decide_eq_false (by omega)]
      · rw [decide_eq_false hu]
theorem PathThird (p q r : List Stp) : p_cascadelaw06_PathThird p q r = some true := by
  unfold p_cascadelaw06_PathThird p_cascadelaw06_PathThird_0 b_cascadelaw06_PathThird_0
  simp only [awake06]
  rcases few06 p with h | ⟨h1, h2, h3⟩
  · simp only [h]
  rcases few06 q with g | ⟨g1, g2, g3⟩
  · simp only [h1, g]
  rcases few06 r with k | ⟨k1, k2, k3⟩
  · simp only [h1, g1, k]
  simp only [h1, g1, k1, less06 p q (by omega) (by omega), less06 q r (by omega) (by omega), less06 p r (by omega) (by omega)]
  have e2 : p_cascadelaw06_PathThird_2 p q = some true := by
    unfold p_cascadelaw06_PathThird_2 b_cascadelaw06_PathThird_2
    exact third_3 p q (by omega) (by omega) _ 0 (Nat.le_refl _) (by omega)
  simp only [e2]
  by_cases c1 : cP p q < 0
  · rw [decide_eq_true c1]
    simp only
    by_cases c2 : cP q r < 0
    · rw [decide_eq_true c2, decide_eq_true (cP_trans c1 c2)]
    · rw [decide_eq_false c2]
  · rw [decide_eq_false c1]
end Go.Abs.T
