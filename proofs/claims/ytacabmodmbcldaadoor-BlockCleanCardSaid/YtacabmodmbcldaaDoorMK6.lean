import Derived.Test.YtacabmodmbcldaaDoorMK5
/-! Values, as the program tells them. -/
set_option linter.unusedVariables false
set_option linter.unusedSimpArgs false
namespace Go.Abs.Q
open M
theorem r_set {α : Type} {l : List α} {i : Nat} {x : α} (h : i < l.length) : Prims.real.set l (i : Int) x = some (l.set i x) := by
  show Pr.set l i x = _
  unfold Pr.set
  rw [if_neg (by omega)]
  simp [h]
theorem sub1 {α : Type} (x : α) (l : List α) : Prims.real.sub (x :: l) (some 1) none = some l := by
  have hb : Pr.bnd (some (1 : Int)) 0 = some 1 := rfl
  show Pr.sub (x :: l) (some (1 : Int)) none = _
  simp [Pr.sub, hb, Pr.bnd.eq_1, Pr.cutB]
theorem sub_to {α : Type} (l : List α) (m : Nat) (h : m ≤ l.length) : Prims.real.sub l none (some (m : Int)) = some (l.take m) := by
  rw [r_sub]
  unfold Pr.sub
  rw [bnd_nat]
  unfold Pr.bnd Pr.cutB
  simp only
  rw [if_pos (by omega)]
  simp [h]
/-- What lines hold is small. -/
def Sm (l : List Str) : Prop := Lib.lens l + l.length ≤ 1000000000
theorem lens_cons (x : Str) (r : List Str) : Lib.lens (x :: r) = x.length + Lib.lens r := by simp [Lib.lens]
theorem lens_app (a b : List Str) : Lib.lens (a ++ b) = Lib.lens a + Lib.lens b := by simp [Lib.lens]
theorem sm_sh {l : List Str} (h : Sm l) : Sh l := by
  unfold Sm at h
  intro x hx
  obtain ⟨a, b, rfl⟩ := List.append_of_mem hx
  rw [lens_app, lens_cons] at h
  omega
theorem sm_tail {x : Str} {r : List Str} (h : Sm (x :: r)) : Sm r := by
  unfold Sm at h ⊢
  rw [lens_cons, List.length_cons] at h
  omega
theorem sm_init {x : Str} {r : List Str} (h : Sm (r ++ [x])) : Sm r := by
  unfold Sm at h ⊢
  rw [lens_app, List.length_append] at h
  omega
theorem lens_map (n : Nat) : ∀ r : List Str, Lib.lens (r.map (List.drop n)) ≤ Lib.lens r
  | [] => Nat.le_refl _
  | x :: r => by
    have := lens_map n r
    rw [List.map_cons, lens_cons, lens_cons, List.length_drop]
    omega
theorem sm_cut {l : List Str} (n : Nat) (h : Sm l) : Sm (cut n l) := by
  unfold Sm at h ⊢
  cases l with
  | nil => exact h
  | cons x r =>
    have := lens_map n r
    unfold cut
    rw [lens_cons, List.length_cons, List.length_map]
    rw [lens_cons, List.length_cons] at h
    omega
theorem sm_lines {s : Str} (h : s.length ≤ 1000000) : Sm (lines s) := by
  have := lines_room s
  unfold Sm
  omega
theorem joinS {l : List Str} (h : Sm l) : (Lib.join l [10]).length ≤ 1000000000 := by
  unfold Sm at h
  cases l with
  | nil => exact Nat.zero_le _
  | cons x r =>
    rw [Lib.join_length]
    simp only [List.length_cons, List.length_nil] at h ⊢
    omega
theorem strJoin {l : List Str} (h : Sm l) : p_strings_Join l [10] = some (Lib.join l [10]) := by
  unfold p_strings_Join
  rw [if_pos]
  have := joinS h
  unfold joinOk
  unfold Sm at h
  simp only [Bool.and_eq_true, decide_eq_true_eq]
  omega
theorem v10 {l : List Str} (h : Sm l) : p_block_Value_10 l = some (Lib.join l [10]) := by
  unfold p_block_Value_10 b_block_Value_10
  rw [strJoin h]
theorem v8 : ∀ (k : Nat) (l : List Str), l.length ≤ k → Sm l → p_block_Value_8 l = some (Lib.join (trimE l) [10])
  | k, l, hk, hs => by
    rw [u_block_Value_8]
    unfold b_block_Value_8
    rw [r_len]
    have hlen : l.length ≤ 1000000000 := by unfold Sm at hs; omega
    rcases List.eq_nil_or_concat l with rfl | ⟨r, x, rfl⟩
    · rw [gtr_f (by simp)]
      simp only
      rw [v10 hs]
      rfl
    · rw [List.concat_eq_append] at hs hk hlen ⊢
      rw [gtr_t (by simp), r_sub64 (by unfold fit64; omega)]
      simp only
      have hn : ((r ++ [x]).length : Int) - 1 = (r.length : Int) := by simp
      have hx : (r ++ [x])[r.length]? = some x := by simp
      rw [hn, r_idx hx]
      simp only
      rw [empty x (sh_at (sm_sh hs) hx)]
      cases hb : blank x with
      | false =>
        simp only
        rw [v10 hs, trimE_full x hb]
      | true =>
        simp only
        rw [sub_to _ _ (by simp)]
        simp only
        cases k with
        | zero => simp at hk
        | succ k =>
          rw [List.take_left, v8 k r (by simpa using hk) (sm_init hs), trimE_blank x hb]
theorem v7 (l : List Str) (hs : Sm l) : p_block_Value_7 l = some (Lib.join (trimE l) [10]) := by
  unfold p_block_Value_7 b_block_Value_7
  exact v8 _ l (Nat.le_refl _) hs
theorem v11 : ∀ (l : List Str), Sm l → p_block_Value_11 l = some (Lib.join (core l) [10])
  | [], hs => by
    rw [u_block_Value_11]
    unfold b_block_Value_11
    rw [r_len, gtr_f (by simp)]
    simp only
    rw [v7 [] hs]
    rfl
  | x :: r, hs => by
    rw [u_block_Value_11]
    unfold b_block_Value_11
    rw [r_len, gtr_t (by simp)]
    have hx : (x :: r)[0]? = some x := rfl
    have := r_idx hx
    rw [show ((0 : Nat) : Int) = 0 from rfl] at this
    simp only [this]
    rw [empty x (sh_at (sm_sh hs) hx)]
    unfold core
    rw [List.dropWhile_cons]
    cases hb : blank x with
    | false =>
      simp only
      rw [v7 _ hs]
      rfl
    | true =>
      have e12 : p_block_Value_12 (x :: r) = some (.inl r) := by
        unfold p_block_Value_12 b_block_Value_12
        rw [sub1]
      simp only [e12]
      exact v11 r (sm_tail hs)
theorem v5 (g : Nat) (l : List Str) (hs : Sm l) : p_block_Value_5 g l = some (Lib.join (core l) [10]) := by
  rw [u_block_Value_5]
  unfold b_block_Value_5
  rw [r_len]
  cases l with
  | nil =>
    rw [gtr_f (by simp)]
    simp only
    rw [v7 [] hs]
    rfl
  | cons x r =>
    rw [gtr_t (by simp)]
    have hx : (x :: r)[0]? = some x := rfl
    have := r_idx hx
    rw [show ((0 : Nat) : Int) = 0 from rfl] at this
    simp only [this]
    rw [empty x (sh_at (sm_sh hs) hx)]
    cases hb : blank x with
    | false =>
      simp only
      rw [v7 _ hs]
      unfold core
      rw [List.dropWhile_cons, hb]
      rfl
    | true =>
      simp only
      unfold p_block_Value_6 b_block_Value_6
      rw [sub1]
      simp only
      rw [v11 r (sm_tail hs)]
      unfold core
      rw [List.dropWhile_cons, hb]
      rfl
theorem cut_len (n : Nat) (l : List Str) : (cut n l).length = l.length := by cases l <;> simp [cut]
theorem cut_at (n : Nat) (l : List Str) (i : Nat) (h : i < l.length) : (cut n l)[i]'(by rw [cut_len]; exact h) = if i = 0 then l[i] else l[i].drop n := by
  cases l with
  | nil => simp at h
  | cons x r =>
    cases i with
    | zero => rfl
    | succ i => simp [cut]
theorem cut_ssub (x : Str) (n : Nat) : (match Prims.real.cmp .lss (x.length : Int) (n : Int) with
    | false => Prims.real.ssub x (some (n : Int)) none
    | true => Prims.real.ssub x (some (x.length : Int)) none) = some (x.drop n) := by
  by_cases c : x.length < n
  · rw [lss_true c]
    simp only
    rw [r_ssub_from (Nat.le_refl _), List.drop_length, List.drop_eq_nil_of_le (by omega)]
  · rw [lss_false (by omega)]
    simp only
    rw [r_ssub_from (by omega)]
theorem v3 (g : Nat) (l : List Str) (n len : Int) (i : Nat) (h : i ≤ 1000000000) : p_block_Value_3 g l n len (i : Int) = some (.inl (g, l, n, len, ((i + 1 : Nat) : Int))) := by
  unfold p_block_Value_3 b_block_Value_3
  rw [M.r_add (by unfold fit64; omega)]; rfl
theorem v1 (g n : Nat) (l : List Str) (hs : Sm l) : ∀ (k i : Nat), l.length - i ≤ k → i ≤ l.length → p_block_Value_1 g ((cut n l).take i ++ l.drop i) (n : Int) (l.length : Int) (i : Int) = some (Lib.join (core (cut n l)) [10])
  | k, i, hk, hi => by
    rw [u_block_Value_1]
    unfold b_block_Value_1
    have hlen : l.length ≤ 1000000000 := by unfold Sm at hs; omega
    by_cases h : i < l.length
    · rw [lss_true h]
      simp only
      have hd : l.drop i = l[i] :: l.drop (i + 1) := List.drop_eq_getElem_cons h
      have hl : ((cut n l).take i).length = i := by rw [List.length_take, cut_len]; omega
      have hx : ((cut n l).take i ++ l.drop i)[i]? = some l[i] := by
        rw [List.getElem?_append_right (by omega), hl, Nat.sub_self, hd]; rfl
      have hset : ∀ y, ((cut n l).take i ++ l.drop i).set i y = (cut n l).take i ++ y :: l.drop (i + 1) := fun y => by
        rw [List.set_append_right _ _ (by omega), hl, Nat.sub_self, hd]; rfl
      have hc := cut_at n l i h
      have hnext : (cut n l).take (i + 1) = (cut n l).take i ++ [if i = 0 then l[i] else l[i].drop n] := by
        rw [List.take_succ_eq_append_getElem (by rw [cut_len]; exact h), hc]
      cases k with
      | zero => omega
      | succ k =>
        have ih := v1 g n l hs k (i + 1) (by omega) (by omega)
        by_cases h0 : i = 0
        · subst h0
          rw [gtr_f (by simp)]
          simp only
          rw [v3 _ _ _ _ _ (by omega)]
          rw [hnext, if_pos rfl, List.append_assoc] at ih
          rw [hd]
          exact ih
        · rw [gtr_t (by omega)]
          rw [hnext, if_neg h0, List.append_assoc] at ih
          generalize l[i] = x at *
          simp only [r_idx hx, r_slen]
          have hss := cut_ssub x n
          have hst : ∀ y, Prims.real.set ((cut n l).take i ++ l.drop i) (i : Int) y = some ((cut n l).take i ++ y :: l.drop (i + 1)) := fun y => by
            rw [r_set (by rw [List.length_append, hl, List.length_drop]; omega), hset]
          by_cases c : x.length < n
          · rw [lss_true c] at hss ⊢
            simp only at hss ⊢
            rw [hss]
            simp only
            rw [hst]
            simp only
            rw [v3 _ _ _ _ _ (by omega)]
            exact ih
          · rw [lss_false (by omega)] at hss ⊢
            simp only at hss ⊢
            rw [hss]
            simp only
            rw [hst]
            simp only
            rw [v3 _ _ _ _ _ (by omega)]
            exact ih
    · rw [lss_false (by omega)]
      simp only
      have : i = l.length := by omega
      subst this
      rw [List.drop_length, List.append_nil, List.take_of_length_le (by rw [cut_len]; omega), v5 _ _ (sm_cut n hs)]
theorem block_Value (s : Str) (hs : s.length ≤ 200000) : p_block_Value s = some (val s) := by
  unfold p_block_Value p_block_Value_0 b_block_Value_0
  have hl := rep_len 92 [34, 34, 34] [34, 34, 34] _ s (Nat.le_refl _)
  simp only [List.length_cons, List.length_nil] at hl
  rw [replace 92 [34, 34, 34] [34, 34, 34] s (by decide) (by omega) (by simp)]
  simp only
  rw [text_Lines0 _ (by omega)]
  simp only
  have hsm : Sm (lines (rep 92 [34, 34, 34] [34, 34, 34] s)) := sm_lines (by omega)
  rw [block_Indent__0 _ _ (by unfold Sm at hsm; omega) (sm_sh hsm)]
  simp only
  have := v1 (lines (rep 92 [34, 34, 34] [34, 34, 34] s)).length (ind (lines (rep 92 [34, 34, 34] [34, 34, 34] s))) _ hsm _ 0 (Nat.le_refl _) (Nat.zero_le _)
  rw [List.take_zero, List.nil_append, List.drop_zero] at this
  exact this
/-! ### The reference -/
theorem w9 (f t : Int) (g : Nat) (C : List Str) (out : Str) (j : Nat) {x : Str} (hx : C[j]? = some x) (hj : j ≤ 1000000000) (ho : out.length + x.length ≤ 2000000000) : p_cascaderef07_Value_9 f t g C out (j : Int) = some (.inl (f, t, g, C, out ++ x, ((j + 1 : Nat) : Int))) := by
  unfold p_cascaderef07_Value_9 b_cascaderef07_Value_9
  rw [r_idx hx]
  simp only
  rw [M.r_scat (by omega)]
  simp only
  rw [M.r_add (by unfold fit64; omega)]
  rfl
theorem w7 (f t : Nat) (g : Nat) (C : List Str) (ht : t ≤ C.length) (hC : C.length ≤ 1000000000) : ∀ (k j : Nat) (out : Str), t - j ≤ k → f ≤ j → out.length + Lib.lens ((C.take t).drop j) + ((C.take t).drop j).length ≤ 2000000000 → p_cascaderef07_Value_7 (f : Int) (t : Int) g C out (j : Int) = some (out ++ (if j = f then Lib.join ((C.take t).drop j) [10] else Lib.joinTail [10] ((C.take t).drop j)))
  | k, j, out, hk, hf, ho => by
    rw [u_cascaderef07_Value_7]
    unfold b_cascaderef07_Value_7
    by_cases h : j < t
    · rw [lss_true h]
      simp only
      have hj : j < C.length := by omega
      have hjt : j < (C.take t).length := by rw [List.length_take]; omega
      have hd : (C.take t).drop j = C[j] :: (C.take t).drop (j + 1) := by
        rw [List.drop_eq_getElem_cons hjt, List.getElem_take]
      have hx : C[j]? = some C[j] := List.getElem?_eq_getElem hj
      rw [hd] at ho ⊢
      generalize C[j] = x at hx ho hd ⊢
      rw [lens_cons, List.length_cons] at ho
      cases k with
      | zero => omega
      | succ k =>
        by_cases c : j = f
        · subst c
          rw [gtr_f (by omega), if_pos rfl, Lib.join_cons]
          simp only
          rw [w9 _ _ _ _ _ _ hx (by omega) (by omega)]
          simp only
          rw [w7 j t g C ht hC k (j + 1) (out ++ x) (by omega) (by omega) (by rw [List.length_append]; omega), if_neg (by omega), List.append_assoc]
        · rw [gtr_t (by omega), if_neg c]
          simp only
          rw [M.r_scat (by simp; omega)]
          simp only
          rw [w9 _ _ _ _ _ _ hx (by omega) (by rw [List.length_append]; simp; omega)]
          simp only
          rw [w7 f t g C ht hC k (j + 1) _ (by omega) (by omega) (by rw [List.length_append, List.length_append]; simp only [List.length_cons, List.length_nil]; omega), if_neg (by omega)]
          simp [Lib.joinTail]
    · rw [lss_false (by omega), List.drop_eq_nil_of_le (by rw [List.length_take]; omega)]
      simp only
      split <;> simp [Lib.join_nil, Lib.joinTail]
theorem w4 (l : List Str) (n f t : Int) (g : Nat) (o : List Str) (i : Nat) (x : Str) (hi : i ≤ 1000000000) (ho : o.length ≤ 1000000000) : p_cascaderef07_Value_4 l n f t g o (i : Int) x = some (.inl (l, n, f, t, g + 1, o ++ [x], ((i + 1 : Nat) : Int))) := by
  unfold p_cascaderef07_Value_4 b_cascaderef07_Value_4
  rw [M.r_app (by simp [room]; omega) (by simp [room]; omega)]
  simp only
  rw [M.r_add (by unfold fit64; omega)]
  rfl
theorem w3 (l : List Str) (n : Int) (f t : Nat) (g : Nat) (o : List Str) (i : Nat) (x : Str) (hi : i ≤ 1000000000) (ho : o.length ≤ 1000000000) (hx : x.length ≤ 1000000000) :
    p_cascaderef07_Value_3 l n (f : Int) (t : Int) g o (i : Int) x = some (.inl (l, n, (((if blank x = true then f else min f i) : Nat) : Int), (((if blank x = true then t else i + 1) : Nat) : Int), g + 1, o ++ [x], ((i + 1 : Nat) : Int))) := by
  unfold p_cascaderef07_Value_3 b_cascaderef07_Value_3
  rw [ref_first x hx]
  simp only [r_slen]
  cases hb : blank x with
  | true =>
    have := (blank_iff x).1 hb
    rw [lss_false (by omega)]
    simp only [if_true]
    rw [w4 _ _ _ _ _ _ _ _ hi ho]
  | false =>
    have := (blank_iff2 x).1 hb
    rw [lss_true this, M.r_add (by unfold fit64; omega)]
    simp only [Bool.false_eq_true, if_false]
    by_cases c : i < f
    · rw [lss_true c, Nat.min_eq_right (by omega)]
      simp only
      rw [w4 _ _ _ _ _ _ _ _ hi ho]
      rfl
    · rw [lss_false (by omega), Nat.min_eq_left (by omega)]
      simp only
      rw [w4 _ _ _ _ _ _ _ _ hi ho]
      rfl
theorem scan_le : ∀ (r : List Str) (k f t : Nat), t ≤ k → (scan k f t r).2 ≤ k + r.length
  | [], k, f, t, h => h
  | x :: r, k, f, t, h => by
    unfold scan
    split
    · have := scan_le r (k + 1) f t (by omega)
      simp only [List.length_cons]; omega
    · have := scan_le r (k + 1) (min f k) (k + 1) (Nat.le_refl _)
      simp only [List.length_cons]; omega
theorem lens_drop (l : List Str) (j : Nat) : Lib.lens (l.drop j) ≤ Lib.lens l := by
  have := congrArg Lib.lens (List.take_append_drop j l)
  rw [lens_app] at this
  omega
theorem w1 (n : Nat) (l : List Str) (hs : Sm l) : ∀ (k i g f t : Nat), l.length - i ≤ k → i ≤ l.length → t ≤ i → p_cascaderef07_Value_1 l (n : Int) (f : Int) (t : Int) g ((cut n l).take i) (i : Int) = some (Lib.join (((cut n l).take (scan i f t ((cut n l).drop i)).2).drop (scan i f t ((cut n l).drop i)).1) [10])
  | k, i, g, f, t, hk, hi, hti => by
    rw [u_cascaderef07_Value_1]
    unfold b_cascaderef07_Value_1
    rw [r_len]
    have hlen : l.length ≤ 1000000000 := by unfold Sm at hs; omega
    have hlt : ((cut n l).take i).length ≤ 1000000000 := by rw [List.length_take, cut_len]; omega
    by_cases h : i < l.length
    · rw [lss_true h]
      simp only
      have hx : l[i]? = some l[i] := List.getElem?_eq_getElem h
      have hc := cut_at n l i h
      have hd : (cut n l).drop i = (if i = 0 then l[i] else l[i].drop n) :: (cut n l).drop (i + 1) := by
        rw [List.drop_eq_getElem_cons (by rw [cut_len]; exact h), hc]
      have hnext : (cut n l).take (i + 1) = (cut n l).take i ++ [if i = 0 then l[i] else l[i].drop n] := by
        rw [List.take_succ_eq_append_getElem (by rw [cut_len]; exact h), hc]
      rw [hd]
      have hsx := sh_at (sm_sh hs) hx
      cases k with
      | zero => omega
      | succ k =>
        have ih := fun f t ht => w1 n l hs k (i + 1) (g + 1) f t (by omega) (by omega) ht
        rw [hnext] at ih
        generalize l[i] = x at *
        have fin : ∀ y, y = (if i = 0 then x else x.drop n) → (match p_cascaderef07_Value_3 l (n : Int) (f : Int) (t : Int) g ((cut n l).take i) (i : Int) y with
            | some (.inl (v3', v4', v5', v6', o7_g', o7', v8')) => p_cascaderef07_Value_1 v3' v4' v5' v6' o7_g' o7' v8'
            | some (.inr r) => some r
            | none => none) = some (Lib.join (((cut n l).take (scan i f t ((if i = 0 then x else x.drop n) :: (cut n l).drop (i + 1))).2).drop (scan i f t ((if i = 0 then x else x.drop n) :: (cut n l).drop (i + 1))).1) [10]) := fun y hy => by
          rw [← hy] at ih ⊢
          have hyl : y.length ≤ 1000000000 := by
            rw [hy]; split
            · exact hsx
            · rw [List.length_drop]; omega
          rw [w3 _ _ _ _ _ _ _ _ (by omega) hlt hyl]
          simp only
          unfold scan
          cases hb : blank y with
          | true => exact ih f t (by omega)
          | false => exact ih (min f i) (i + 1) (Nat.le_refl _)
        by_cases h0 : i = 0
        · rw [gtr_f (by omega)]
          simp only [r_idx hx]
          exact fin x (by rw [if_pos h0])
        · rw [gtr_t (by omega)]
          simp only [r_idx hx, r_slen]
          have hss := cut_ssub x n
          by_cases c : x.length < n
          · rw [lss_true c] at hss ⊢
            simp only at hss ⊢
            rw [hss]
            exact fin _ (by rw [if_neg h0])
          · rw [lss_false (by omega)] at hss ⊢
            simp only at hss ⊢
            rw [hss]
            exact fin _ (by rw [if_neg h0])
    · rw [lss_false (by omega)]
      simp only
      have e : (cut n l).drop i = [] := List.drop_eq_nil_of_le (by rw [cut_len]; omega)
      have hsm := sm_cut n hs
      rw [e, List.take_of_length_le (by rw [cut_len]; omega)]
      have hl2 : (cut n l).length = l.length := cut_len n l
      have hld := lens_drop ((cut n l).take t) f
      have hlt2 := Lib.lens_take_le (cut n l) t
      have hll : (((cut n l).take t).drop f).length ≤ (cut n l).length := by rw [List.length_drop, List.length_take]; omega
      unfold Sm at hsm
      rw [w7 f t g (cut n l) (by omega) (by omega) _ f [] (Nat.le_refl _) (Nat.le_refl _) (by simp only [List.length_nil]; omega), if_pos rfl]
      rfl
theorem ref_Value (s : Str) (hs : s.length ≤ 200000) : p_cascaderef07_Value s = some (val s) := by
  unfold p_cascaderef07_Value p_cascaderef07_Value_0 b_cascaderef07_Value_0
  have hl := rep_len 92 [34, 34, 34] [34, 34, 34] _ s (Nat.le_refl _)
  simp only [List.length_cons, List.length_nil] at hl
  rw [ref_turned 92 [34, 34, 34] [34, 34, 34] s (by omega) (by simp) (by simp)]
  simp only
  rw [ref_Lines _ (by omega)]
  simp only
  have hsm : Sm (lines (rep 92 [34, 34, 34] [34, 34, 34] s)) := sm_lines (by omega)
  rw [ref_Indent _ (by unfold Sm at hsm; omega) (sm_sh hsm)]
  simp only [r_len]
  have := w1 (ind (lines (rep 92 [34, 34, 34] [34, 34, 34] s))) _ hsm _ 0 0 (lines (rep 92 [34, 34, 34] [34, 34, 34] s)).length 0 (Nat.le_refl _) (Nat.zero_le _) (Nat.le_refl _)
  rw [List.take_zero, List.drop_zero] at this
  have h2 := scan_core (cut (ind (lines (rep 92 [34, 34, 34] [34, 34, 34] s))) (lines (rep 92 [34, 34, 34] [34, 34, 34] s)))
  rw [cut_len] at h2
  rw [h2] at this
  exact this
end Go.Abs.Q
