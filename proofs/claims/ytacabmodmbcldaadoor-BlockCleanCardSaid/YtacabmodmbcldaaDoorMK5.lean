import Derived.Test.YtacabmodmbcldaaDoorMK4
/-! Indents and values, as the program tells them. -/
set_option linter.unusedVariables false
set_option linter.unusedSimpArgs false
namespace Go.Abs.Q
open M
theorem byte_ne (b : UInt8) (n : Nat) (hn : n < 256) : Prims.real.cmp .neq ((b.toNat : Nat) : Int) (n : Int) = !(b == UInt8.ofNat n) := by
  rw [r_neq, Bool.eq_iff_iff]
  have := b.toNat_lt
  simp
  constructor
  · intro h c; subst c; apply h; simp; omega
  · intro h c; apply h; apply UInt8.toNat_inj.1; simp; omega
theorem byte_eq (b : UInt8) (n : Nat) (hn : n < 256) : Prims.real.cmp .eql ((b.toNat : Nat) : Int) (n : Int) = (b == UInt8.ofNat n) := by
  have := byte_ne b n hn
  rw [r_neq] at this
  rw [r_eql]
  cases h : (((b.toNat : Nat) : Int) == (n : Int)) <;> cases h2 : (b == UInt8.ofNat n) <;> simp_all
theorem fst_cons (b : UInt8) (l : Str) : fst (b :: l) = if isBl b = true then fst l + 1 else 0 := by
  unfold fst
  rw [List.takeWhile_cons]
  split <;> rfl
theorem fst_drop (s : Str) (i : Nat) (b : UInt8) (hb : s[i]? = some b) : fst (s.drop i) = if isBl b = true then fst (s.drop (i + 1)) + 1 else 0 := by
  obtain ⟨hi, rfl⟩ := List.getElem?_eq_some_iff.1 hb
  rw [List.drop_eq_getElem_cons hi, fst_cons]
theorem first_loop (s : Str) (hs : s.length ≤ 1000000000) : ∀ (k i : Nat), s.length - i ≤ k → i ≤ s.length → p_cascaderef07_first_1 s (i : Int) = some ((i + fst (s.drop i) : Nat) : Int)
  | k, i, hk, hi => by
    rw [u_cascaderef07_first_1]
    unfold b_cascaderef07_first_1
    rw [r_slen]
    by_cases h : i < s.length
    · rw [lss_true h]
      obtain ⟨b, hb⟩ := get_some h
      have e3 : p_cascaderef07_first_3 s (i : Int) = some (.inl (s, ((i + 1 : Nat) : Int))) := by
        unfold p_cascaderef07_first_3 b_cascaderef07_first_3
        rw [M.r_add (by unfold fit64; omega)]; rfl
      have n32 := byte_ne b 32 (by omega)
      have n9 := byte_ne b 9 (by omega)
      rw [show ((32 : Nat) : Int) = 32 from rfl] at n32
      rw [show ((9 : Nat) : Int) = 9 from rfl] at n9
      simp only [r_sidx hb, n32, n9, e3]
      rw [fst_drop s i b hb]
      cases k with
      | zero => omega
      | succ k =>
        have ih := first_loop s hs k (i + 1) (by omega) (by omega)
        unfold isBl
        cases h32 : b == UInt8.ofNat 32 with
        | true =>
          simp only [Bool.not_true]
          rw [ih, if_pos (by simp)]
          congr 2; omega
        | false =>
          simp only [Bool.not_false]
          cases h9 : b == UInt8.ofNat 9 with
          | true =>
            simp only [Bool.not_true]
            rw [ih, if_pos (by simp)]
            congr 2; omega
          | false =>
            simp only [Bool.not_false]
            rw [if_neg (by decide)]
            rfl
    · rw [lss_false (by omega)]
      have : i = s.length := by omega
      subst this
      rw [List.drop_length]
      rfl
theorem ref_first (s : Str) (hs : s.length ≤ 1000000000) : p_cascaderef07_first s = some (fst s : Int) := by
  have := first_loop s hs _ 0 (Nat.le_refl _) (Nat.zero_le _)
  rw [Nat.zero_add, List.drop_zero] at this
  exact this
theorem lead (s : Str) (hs : s.length ≤ 1000000000) : p_block_lead s = some ((fst s : Int), !blank s) := by
  unfold p_block_lead p_block_lead_0 b_block_lead_0
  have e : p_strings_TrimLeft s [32, 9] = some (s.dropWhile isBl) := rfl
  have hl := fst_add s
  simp only [e, r_slen, r_seq]
  rw [r_sub64 (by unfold fit64; omega)]
  have e2 : (s.length : Int) - ((s.dropWhile isBl).length : Int) = (fst s : Int) := by omega
  rw [e2]
  unfold blank
  cases h : s.dropWhile isBl with
  | nil => rfl
  | cons b l => rfl
theorem empty (s : Str) (hs : s.length ≤ 1000000000) : p_block_empty s = some (blank s) := by
  unfold p_block_empty p_block_empty_0 b_block_empty_0
  rw [lead s hs]
  cases blank s <;> rfl
/-- The lines are short. -/
def Sh (l : List Str) : Prop := ∀ x ∈ l, x.length ≤ 1000000000
theorem sh_at {l : List Str} (h : Sh l) {i : Nat} {x : Str} (hx : l[i]? = some x) : x.length ≤ 1000000000 := h x (List.mem_of_getElem? hx)
def encO : Option Nat → Int
  | none => -1
  | some n => n
theorem ind5 (l : List Str) (v3 : Int) (v4 : Bool) (i : Nat) (hi : i ≤ 1000000000) : p_block_Indent_5 v3 v4 l (l.length : Int) (i : Int) = some (.inl (v3, v4, l, (l.length : Int), ((i + 1 : Nat) : Int))) := by
  unfold p_block_Indent_5 b_block_Indent_5
  rw [M.r_add (by unfold fit64; omega)]; rfl
theorem ind4 (l : List Str) (v3 : Int) (i : Nat) (hi : i ≤ 1000000000) : p_block_Indent_4 v3 l (l.length : Int) (i : Int) = some (.inl (v3, true, l, (l.length : Int), ((i + 1 : Nat) : Int))) := by
  unfold p_block_Indent_4 b_block_Indent_4
  exact ind5 l v3 true i hi
theorem ind_loop (l : List Str) (hl : l.length ≤ 1000000000) (hs : Sh l) : ∀ (k i : Nat) (a : Option Nat), l.length - i ≤ k → 1 ≤ i → p_block_Indent_1 ((a.getD 0 : Nat) : Int) a.isSome l (l.length : Int) (i : Int) = some (((indF a (l.drop i)).getD 0 : Nat) : Int)
  | k, i, a, hk, h1 => by
    rw [u_block_Indent_1]
    unfold b_block_Indent_1
    by_cases h : i < l.length
    · rw [lss_true h]
      have hx : l[i]? = some l[i] := List.getElem?_eq_getElem h
      have hd : l.drop i = l[i] :: l.drop (i + 1) := List.drop_eq_getElem_cons h
      rw [hd, indF]
      generalize l[i] = x at hx
      simp only [r_idx hx, lead x (sh_at hs hx)]
      rw [eql_f (by omega)]
      simp only
      cases k with
      | zero => omega
      | succ k =>
        have ih := fun a => ind_loop l hl hs k (i + 1) a (by omega) (by omega)
        unfold indS
        cases hb : blank x with
        | true =>
          simp only [Bool.not_true, if_true]
          rw [ind5 _ _ _ _ (by omega)]
          exact ih a
        | false =>
          simp only [Bool.not_false, Bool.false_eq_true, if_false]
          cases a with
          | none =>
            simp only [Option.isSome_none]
            rw [ind4 _ _ _ (by omega)]
            exact ih (some (fst x))
          | some n =>
            simp only [Option.isSome_some, Option.getD_some]
            by_cases c : fst x < n
            · rw [lss_true c, if_pos c]
              simp only
              rw [ind4 _ _ _ (by omega)]
              exact ih (some (fst x))
            · rw [lss_false (by omega), if_neg c]
              simp only
              rw [ind4 _ _ _ (by omega)]
              exact ih (some n)
    · rw [lss_false (by omega), List.drop_eq_nil_of_le (by omega)]
      rfl
theorem block_Indent (l : List Str) (hl : l.length ≤ 1000000000) (hs : Sh l) : p_block_Indent l = some ((ind l : Nat) : Int) := by
  unfold p_block_Indent p_block_Indent_0 b_block_Indent_0
  rw [r_len]
  rw [u_block_Indent_1]
  unfold b_block_Indent_1
  cases l with
  | nil => rfl
  | cons x r =>
    rw [show (0 : Int) = ((0 : Nat) : Int) from rfl, lss_true (by simp)]
    have hx : (x :: r)[0]? = some x := rfl
    simp only [r_idx hx, lead x (sh_at hs hx)]
    rw [eql_t rfl]
    simp only
    rw [ind5 _ _ _ 0 (by omega)]
    exact ind_loop (x :: r) hl hs _ 1 none (Nat.le_refl _) (Nat.le_refl _)
theorem ind5__0 (g : Nat) (l : List Str) (v3 : Int) (v4 : Bool) (i : Nat) (hi : i ≤ 1000000000) : p_block_Indent__0_5 v3 v4 g l (l.length : Int) (i : Int) = some (.inl (v3, v4, (l.length : Int), ((i + 1 : Nat) : Int))) := by
  unfold p_block_Indent__0_5 b_block_Indent__0_5
  rw [M.r_add (by unfold fit64; omega)]; rfl
theorem ind4__0 (g : Nat) (l : List Str) (v3 : Int) (i : Nat) (hi : i ≤ 1000000000) : p_block_Indent__0_4 v3 g l (l.length : Int) (i : Int) = some (.inl (v3, true, (l.length : Int), ((i + 1 : Nat) : Int))) := by
  unfold p_block_Indent__0_4 b_block_Indent__0_4
  exact ind5__0 g l v3 true i hi
theorem ind_loop__0 (g : Nat) (l : List Str) (hl : l.length ≤ 1000000000) (hs : Sh l) : ∀ (k i : Nat) (a : Option Nat), l.length - i ≤ k → 1 ≤ i → p_block_Indent__0_1 ((a.getD 0 : Nat) : Int) a.isSome g l (l.length : Int) (i : Int) = some (((indF a (l.drop i)).getD 0 : Nat) : Int)
  | k, i, a, hk, h1 => by
    rw [u_block_Indent__0_1]
    unfold b_block_Indent__0_1
    by_cases h : i < l.length
    · rw [lss_true h]
      have hx : l[i]? = some l[i] := List.getElem?_eq_getElem h
      have hd : l.drop i = l[i] :: l.drop (i + 1) := List.drop_eq_getElem_cons h
      rw [hd, indF]
      generalize l[i] = x at hx
      simp only [r_idx hx, lead x (sh_at hs hx)]
      rw [eql_f (by omega)]
      simp only
      cases k with
      | zero => omega
      | succ k =>
        have ih := fun a => ind_loop__0 g l hl hs k (i + 1) a (by omega) (by omega)
        unfold indS
        cases hb : blank x with
        | true =>
          simp only [Bool.not_true, if_true]
          rw [ind5__0 _ _ _ _ _ (by omega)]
          exact ih a
        | false =>
          simp only [Bool.not_false, Bool.false_eq_true, if_false]
          cases a with
          | none =>
            simp only [Option.isSome_none]
            rw [ind4__0 _ _ _ _ (by omega)]
            exact ih (some (fst x))
          | some n =>
            simp only [Option.isSome_some, Option.getD_some]
            by_cases c : fst x < n
            · rw [lss_true c, if_pos c]
              simp only
              rw [ind4__0 _ _ _ _ (by omega)]
              exact ih (some (fst x))
            · rw [lss_false (by omega), if_neg c]
              simp only
              rw [ind4__0 _ _ _ _ (by omega)]
              exact ih (some n)
    · rw [lss_false (by omega), List.drop_eq_nil_of_le (by omega)]
      rfl
theorem block_Indent__0 (g : Nat) (l : List Str) (hl : l.length ≤ 1000000000) (hs : Sh l) : p_block_Indent__0 g l = some ((ind l : Nat) : Int) := by
  unfold p_block_Indent__0 p_block_Indent__0_0 b_block_Indent__0_0
  rw [r_len]
  rw [u_block_Indent__0_1]
  unfold b_block_Indent__0_1
  cases l with
  | nil => rfl
  | cons x r =>
    rw [show (0 : Int) = ((0 : Nat) : Int) from rfl, lss_true (by simp)]
    have hx : (x :: r)[0]? = some x := rfl
    simp only [r_idx hx, lead x (sh_at hs hx)]
    rw [eql_t rfl]
    simp only
    rw [ind5__0 _ _ _ _ 0 (by omega)]
    exact ind_loop__0 g (x :: r) hl hs _ 1 none (Nat.le_refl _) (Nat.le_refl _)
theorem rind3 (l : List Str) (v3 : Int) (i : Nat) (hi : i ≤ 1000000000) : p_cascaderef07_Indent_3 l v3 (i : Int) = some (.inl (l, v3, ((i + 1 : Nat) : Int))) := by
  unfold p_cascaderef07_Indent_3 b_cascaderef07_Indent_3
  rw [M.r_add (by unfold fit64; omega)]; rfl
theorem rind_loop (l : List Str) (hl : l.length ≤ 1000000000) (hs : Sh l) : ∀ (k i : Nat) (a : Option Nat), l.length - i ≤ k → 1 ≤ i → p_cascaderef07_Indent_1 l (encO a) (i : Int) = some (((indF a (l.drop i)).getD 0 : Nat) : Int)
  | k, i, a, hk, h1 => by
    rw [u_cascaderef07_Indent_1]
    unfold b_cascaderef07_Indent_1
    rw [r_len]
    by_cases h : i < l.length
    · rw [lss_true h]
      have hx : l[i]? = some l[i] := List.getElem?_eq_getElem h
      have hd : l.drop i = l[i] :: l.drop (i + 1) := List.drop_eq_getElem_cons h
      rw [hd, indF]
      generalize l[i] = x at hx
      simp only [r_idx hx, ref_first x (sh_at hs hx), r_slen]
      cases k with
      | zero => omega
      | succ k =>
        have ih := fun a => rind_loop l hl hs k (i + 1) a (by omega) (by omega)
        unfold indS
        cases hb : blank x with
        | true =>
          have := (blank_iff x).1 hb
          rw [lss_false (by omega)]
          simp only [if_true]
          rw [rind3 _ _ _ (by omega)]
          exact ih a
        | false =>
          have := (blank_iff2 x).1 hb
          rw [lss_true this]
          simp only [Bool.false_eq_true, if_false]
          cases a with
          | none =>
            rw [show encO none = -1 from rfl, lss_t (by omega)]
            simp only
            rw [rind3 _ _ _ (by omega)]
            exact ih (some (fst x))
          | some n =>
            rw [show encO (some n) = (n : Int) from rfl, lss_f (by omega)]
            simp only
            by_cases c : fst x < n
            · rw [lss_true c, if_pos c]
              simp only
              rw [rind3 _ _ _ (by omega)]
              exact ih (some (fst x))
            · rw [lss_false (by omega), if_neg c]
              simp only
              rw [rind3 _ _ _ (by omega)]
              exact ih (some n)
    · rw [lss_false (by omega), List.drop_eq_nil_of_le (by omega)]
      cases a with
      | none => rw [show encO none = -1 from rfl, gtr_t (by omega)]; rfl
      | some n => rw [show encO (some n) = (n : Int) from rfl, gtr_f (by omega)]; rfl
theorem ref_Indent (l : List Str) (hl : l.length ≤ 1000000000) (hs : Sh l) : p_cascaderef07_Indent l = some ((ind l : Nat) : Int) := by
  unfold p_cascaderef07_Indent p_cascaderef07_Indent_0 b_cascaderef07_Indent_0
  exact rind_loop l hl hs _ 1 none (Nat.le_refl _) (Nat.le_refl _)
theorem rind3__1 (g : Nat) (l : List Str) (v3 : Int) (i : Nat) (hi : i ≤ 1000000000) : p_cascaderef07_Indent__1_3 g l v3 (i : Int) = some (.inl (v3, ((i + 1 : Nat) : Int))) := by
  unfold p_cascaderef07_Indent__1_3 b_cascaderef07_Indent__1_3
  rw [M.r_add (by unfold fit64; omega)]; rfl
theorem rind_loop__1 (g : Nat) (l : List Str) (hl : l.length ≤ 1000000000) (hs : Sh l) : ∀ (k i : Nat) (a : Option Nat), l.length - i ≤ k → 1 ≤ i → p_cascaderef07_Indent__1_1 g l (encO a) (i : Int) = some (((indF a (l.drop i)).getD 0 : Nat) : Int)
  | k, i, a, hk, h1 => by
    rw [u_cascaderef07_Indent__1_1]
    unfold b_cascaderef07_Indent__1_1
    rw [r_len]
    by_cases h : i < l.length
    · rw [lss_true h]
      have hx : l[i]? = some l[i] := List.getElem?_eq_getElem h
      have hd : l.drop i = l[i] :: l.drop (i + 1) := List.drop_eq_getElem_cons h
      rw [hd, indF]
      generalize l[i] = x at hx
      simp only [r_idx hx, ref_first x (sh_at hs hx), r_slen]
      cases k with
      | zero => omega
      | succ k =>
        have ih := fun a => rind_loop__1 g l hl hs k (i + 1) a (by omega) (by omega)
        unfold indS
        cases hb : blank x with
        | true =>
          have := (blank_iff x).1 hb
          rw [lss_false (by omega)]
          simp only [if_true]
          rw [rind3__1 _ _ _ _ (by omega)]
          exact ih a
        | false =>
          have := (blank_iff2 x).1 hb
          rw [lss_true this]
          simp only [Bool.false_eq_true, if_false]
          cases a with
          | none =>
            rw [show encO none = -1 from rfl, lss_t (by omega)]
            simp only
            rw [rind3__1 _ _ _ _ (by omega)]
            exact ih (some (fst x))
          | some n =>
            rw [show encO (some n) = (n : Int) from rfl, lss_f (by omega)]
            simp only
            by_cases c : fst x < n
            · rw [lss_true c, if_pos c]
              simp only
              rw [rind3__1 _ _ _ _ (by omega)]
              exact ih (some (fst x))
            · rw [lss_false (by omega), if_neg c]
              simp only
              rw [rind3__1 _ _ _ _ (by omega)]
              exact ih (some n)
    · rw [lss_false (by omega), List.drop_eq_nil_of_le (by omega)]
      cases a with
      | none => rw [show encO none = -1 from rfl, gtr_t (by omega)]; rfl
      | some n => rw [show encO (some n) = (n : Int) from rfl, gtr_f (by omega)]; rfl
theorem ref_Indent__1 (g : Nat) (l : List Str) (hl : l.length ≤ 1000000000) (hs : Sh l) : p_cascaderef07_Indent__1 g l = some ((ind l : Nat) : Int) := by
  unfold p_cascaderef07_Indent__1 p_cascaderef07_Indent__1_0 b_cascaderef07_Indent__1_0
  exact rind_loop__1 g l hl hs _ 1 none (Nat.le_refl _) (Nat.le_refl _)
theorem turned_loop (a : UInt8) (r to s : Str) (hs : s.length ≤ 1000000) (hr : r.length ≤ 1000) (ht : to.length ≤ 1000) : ∀ (k i : Nat) (acc : Str), s.length - i ≤ k → i ≤ s.length → acc.length ≤ 1000 * i + i → p_cascaderef07_turned_1 s (a :: r) to acc (i : Int) = some (acc ++ rep a r to (s.drop i))
  | k, i, acc, hk, hi, ha => by
    rw [u_cascaderef07_turned_1]
    unfold b_cascaderef07_turned_1
    rw [r_slen, r_slen]
    by_cases h : i < s.length
    · rw [lss_true h, r_sub64 (by unfold fit64; omega)]
      simp only
      obtain ⟨b, hb⟩ := get_some h
      have hd : s.drop i = b :: s.drop (i + 1) := by
        obtain ⟨_, rfl⟩ := List.getElem?_eq_some_iff.1 hb
        exact List.drop_eq_getElem_cons h
      cases k with
      | zero => omega
      | succ k =>
        have miss : (a :: r).isPrefixOf (s.drop i) = false → (match (match Prims.real.ssub s (some (i : Int)) (some (Prims.real.ar .add .i64 (i : Int) 1)) with
           | none => none
           | some s12 =>
            match Prims.real.scat acc s12 with
            | none => none
            | some s14 =>
             some (Sum.inl (s, a :: r, to, s14, Prims.real.ar .add .i64 (i : Int) 1)) : Option ((Str × Str × Str × Str × Int) ⊕ Str)) with
            | some (.inl (v0', v1', v2', v7', v8')) => p_cascaderef07_turned_1 v0' v1' v2' v7' v8'
            | some (.inr r) => some r
            | none => none) = some (acc ++ rep a r to (s.drop i)) := fun hm => by
          rw [M.r_add (by unfold fit64; omega), show (i : Int) + 1 = ((i + 1 : Nat) : Int) by omega, r_ssub2 (by omega) (by omega)]
          simp only
          have e1 : (s.take (i + 1)).drop i = [b] := by
            rw [List.drop_take, hd]; simp
          rw [e1, M.r_scat (by simp; omega)]
          simp only
          rw [turned_loop a r to s hs hr ht k (i + 1) _ (by omega) (by omega) (by simp; omega), hd, rep_miss (by rw [← hd]; exact hm)]
          simp
        have hlen : (s.drop i).length = s.length - i := by simp
        by_cases c : (a :: r).length ≤ s.length - i
        · rw [geq_t (by omega)]
          simp only
          rw [M.r_add (by unfold fit64; simp only [List.length_cons]; omega), show (i : Int) + (((a :: r).length : Nat) : Int) = ((i + (a :: r).length : Nat) : Int) by omega, r_ssub2 (by omega) (by omega)]
          simp only [r_seq]
          have e2 : ((s.take (i + (a :: r).length)).drop i == (a :: r)) = (a :: r).isPrefixOf (s.drop i) := by
            rw [List.drop_take, show i + (a :: r).length - i = (a :: r).length by omega]
            have := Lib.occAt_iff_take s (a :: r) i (by omega)
            unfold Lib.occAt at this
            rw [this]
          rw [e2]
          cases hp : (a :: r).isPrefixOf (s.drop i) with
          | true =>
            simp only
            rw [M.r_scat (by omega)]
            simp only
            have := rep_hit (to := to) (by rw [← hd]; exact hp : (a :: r).isPrefixOf (b :: s.drop (i + 1)) = true)
            rw [turned_loop a r to s hs hr ht k (i + (a :: r).length) _ (by simp; omega) (by omega) (by simp; omega), hd, this, List.drop_drop, List.append_assoc, show i + 1 + r.length = i + (a :: r).length by simp; omega]
          | false => exact miss hp
        · rw [geq_f (by omega)]
          refine miss (Bool.eq_false_iff.2 fun hp => ?_)
          have := (List.isPrefixOf_iff_prefix.1 hp).length_le
          omega
    · rw [lss_false (by omega), List.drop_eq_nil_of_le (by omega), rep_nil, List.append_nil]
theorem ref_turned (a : UInt8) (r to s : Str) (hs : s.length ≤ 1000000) (hr : r.length ≤ 1000) (ht : to.length ≤ 1000) : p_cascaderef07_turned s (a :: r) to = some (rep a r to s) := by
  unfold p_cascaderef07_turned p_cascaderef07_turned_0 b_cascaderef07_turned_0
  exact turned_loop a r to s hs hr ht _ 0 [] (Nat.le_refl _) (Nat.zero_le _) (by simp)
theorem replace (a : UInt8) (r to s : Str) (hne : a :: r ≠ to) (hs : s.length ≤ 1000000) (ht : to.length ≤ 1000) : p_strings_ReplaceAll s (a :: r) to = some (rep a r to s) := by
  unfold p_strings_ReplaceAll
  rw [replaceAll_rep hne, if_pos]
  unfold repOk
  simp only [Bool.and_eq_true, decide_eq_true_eq]
  have h1 := Lib.countB_le ⟨⟨a :: r⟩⟩ (by show 1 ≤ (a :: r).length; simp) _ ⟨⟨s⟩⟩ (Nat.le_refl _)
  have h2 : Lib.countB ⟨⟨s⟩⟩ ⟨⟨a :: r⟩⟩ ≤ s.length := h1
  have h3 := Nat.mul_le_mul h2 ht
  refine ⟨⟨by omega, by simp⟩, by omega⟩
end Go.Abs.Q
