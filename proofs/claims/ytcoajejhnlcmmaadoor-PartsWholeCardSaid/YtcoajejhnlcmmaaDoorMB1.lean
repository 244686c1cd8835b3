import Derived.Test.YtcoajejhnlcmmaaDoorRB
import Derived.Test.YtcoajejhnlcmmaaDoorM1
/-! A reader of parts: what each of its functions comes to. -/
set_option linter.unusedVariables false
set_option linter.unusedSimpArgs false
set_option linter.unusedVariables false
namespace Go.Abs.B
open M
def common : Str → Str → Nat
  | a :: s, b :: t => if a = b then common s t + 1 else 0
  | _, _ => 0
theorem common_le : ∀ s t : Str, common s t ≤ s.length ∧ common s t ≤ t.length
  | [], _ => by simp [common]
  | _ :: _, [] => by simp [common]
  | a :: s, b :: t => by
    have := common_le s t
    unfold common
    split <;> simp <;> omega
theorem common_nil (w : Str) : common [] w = 0 := by cases w <;> rfl
/-- What looking for a text comes to: how far, and what. -/
def textS (s w : Str) (p : Nat) (what : Int) : Nat × Int :=
  if what = 0 then (p + common (s.drop p) w, if common (s.drop p) w = w.length then 0 else if p + common (s.drop p) w = s.length then 1 else 2) else (p, what)
theorem text_off (w s : Str) (i : Nat) (p what : Int) (h : what ≠ 0) : p_parts_scan_text__0_1 w (i : Int) s p what = some (s, p, what) := by
  rw [u_parts_scan_text__0_1]
  unfold b_parts_scan_text__0_1
  rw [r_slen]
  by_cases hi : i < w.length
  · rw [lss_t (by omega), eql_f h]
  · rw [lss_f (by omega)]
theorem text_3 (w s : Str) (i : Nat) (p what : Int) (hi : i ≤ 1000000000) : p_parts_scan_text__0_3 w (i : Int) s p what = some (.inl (w, ((i + 1 : Nat) : Int), s, p, what)) := by
  unfold p_parts_scan_text__0_3 b_parts_scan_text__0_3
  rw [r_add (by unfold fit64; omega)]
  rfl
theorem text_loop (w s : Str) (hw : w.length ≤ 1000000000) (hs : s.length ≤ 1000000000) : ∀ (k i p : Nat), w.length - i ≤ k → p ≤ s.length →
    p_parts_scan_text__0_1 w (i : Int) s (p : Int) 0 = some (s, ((p + common (s.drop p) (w.drop i) : Nat) : Int), if common (s.drop p) (w.drop i) = (w.drop i).length then 0 else if p + common (s.drop p) (w.drop i) = s.length then 1 else 2)
  | k, i, p, hk, hp => by
    rw [u_parts_scan_text__0_1]
    unfold b_parts_scan_text__0_1
    rw [r_slen, r_slen]
    by_cases hi : i < w.length
    · rw [lss_t (by omega), eql_t rfl]
      have hdw : w.drop i = w[i] :: w.drop (i + 1) := List.drop_eq_getElem_cons hi
      simp only
      by_cases he : p = s.length
      · rw [eql_t (by omega)]
        simp only [text_3 w s i _ _ (by omega)]
        rw [text_off _ _ _ _ _ (by omega), List.drop_eq_nil_of_le (by omega), common_nil]
        rw [if_neg (by simp; omega), if_pos (by omega)]
        rfl
      · rw [eql_f (by omega)]
        have hp' : p < s.length := by omega
        have hds : s.drop p = s[p] :: s.drop (p + 1) := List.drop_eq_getElem_cons hp'
        have hx : s[p]? = some s[p] := List.getElem?_eq_getElem hp'
        have hy : w[i]? = some w[i] := List.getElem?_eq_getElem hi
        simp only [r_sidx hx, r_sidx hy]
        rw [hds, hdw]
        simp only [common]
        by_cases e : s[p] = w[i]
        · rw [neq_f (by rw [e]), r_add (by unfold fit64; omega)]
          simp only [if_pos e]
          simp only [text_3 w s i _ _ (by omega)]
          cases k with
          | zero => omega
          | succ k =>
            have ih := text_loop w s hw hs k (i + 1) (p + 1) (by omega) (by omega)
            rw [show ((p : Int) + 1) = ((p + 1 : Nat) : Int) by omega, ih]
            simp only [List.length_cons]
            rw [show p + 1 + common (s.drop (p + 1)) (w.drop (i + 1)) = p + (common (s.drop (p + 1)) (w.drop (i + 1)) + 1) by omega]
            simp only [Nat.add_right_cancel_iff]
        · rw [neq_t (by intro h; exact e (UInt8.toNat_inj.1 (by omega)))]
          simp only [if_neg e]
          simp only [text_3 w s i _ _ (by omega)]
          rw [text_off _ _ _ _ _ (by omega), if_neg (by simp; omega), if_neg (by omega)]
          rfl
    · rw [lss_f (by omega), List.drop_eq_nil_of_le (show w.length ≤ i by omega)]
      have : common (s.drop p) [] = 0 := by cases s.drop p <;> rfl
      rw [this]
      rfl
theorem scan_text (w s : Str) (hw : w.length ≤ 1000000000) (hs : s.length ≤ 1000000000) (p : Nat) (what : Int) (hp : p ≤ s.length) :
    p_parts_scan_text__0 w s (p : Int) what = some (s, ((textS s w p what).1 : Int), (textS s w p what).2) := by
  unfold p_parts_scan_text__0 p_parts_scan_text__0_0 b_parts_scan_text__0_0 textS
  by_cases h : what = 0
  · subst h
    have := text_loop w s hw hs _ 0 p (Nat.le_refl _) hp
    simpa using this
  · rw [if_neg h]
    exact text_off w s 0 p what h
theorem textS_le (s w : Str) (p : Nat) (what : Int) (hp : p ≤ s.length) : (textS s w p what).1 ≤ s.length := by
  unfold textS
  have := common_le (s.drop p) w
  split
  · simp only [List.length_drop] at this; simp only; omega
  · exact hp
/-- A digit. -/
def dg (b : UInt8) : Bool := decide (48 ≤ b.toNat ∧ b.toNat ≤ 57)
def numL : Str → Nat → Nat → Nat × Nat × Int
  | c :: r, n, k => if dg c = true then (if (0 < k ∧ n = 0) ∨ 16777216 < n * 10 + (c.toNat - 48) then (k, 0, 2) else numL r (n * 10 + (c.toNat - 48)) (k + 1)) else if k = 0 then (k, n, 2) else (k, n, 0)
  | [], n, k => if k = 0 then (k, n, 1) else (k, n, 0)
theorem numL_le : ∀ (l : Str) (n k : Nat), k ≤ (numL l n k).1 ∧ (numL l n k).1 ≤ k + l.length ∧ ((numL l n k).2.1 ≤ 16777216 ∨ (numL l n k).2.1 = n)
  | [], n, k => by unfold numL; split <;> simp
  | c :: r, n, k => by
    unfold numL
    split
    · split
      · simp only; omega
      · rename_i h
        have := numL_le r (n * 10 + (c.toNat - 48)) (k + 1)
        simp only [List.length_cons]
        omega
    · split <;> simp <;> omega
theorem dig (s : Str) (p : Nat) : p_parts_scan_number_1__0 s (p : Int) 0 = some (match s[p]? with | some c => dg c | none => false) := by
  unfold p_parts_scan_number_1__0 p_parts_scan_number_1__0_0 b_parts_scan_number_1__0_0
  rw [eql_t rfl, r_slen]
  simp only
  by_cases h : p < s.length
  · have hx : s[p]? = some s[p] := List.getElem?_eq_getElem h
    rw [lss_t (by omega), hx, r_sidx hx]
    simp only [r_geq, r_leq, dg]
    by_cases c : 48 ≤ s[p].toNat
    · rw [show decide ((s[p].toNat : Int) ≥ 48) = true by simp; omega]
      simp only [Option.some.injEq]
      rw [Bool.eq_iff_iff]; simp; omega
    · rw [show decide ((s[p].toNat : Int) ≥ 48) = false by simp; omega]
      simp only [Option.some.injEq]
      rw [Bool.eq_iff_iff]; simp; omega
  · rw [lss_f (by omega), List.getElem?_eq_none (by omega)]
theorem num_5 (n : Int) (s : Str) (p what : Int) : p_parts_scan_number__0_5 n s p what = some (n, s, p, what) := rfl
theorem num_3 (n f d : Int) (s : Str) (p what : Int) (h0 : 0 ≤ n ∧ n ≤ 100000000) (h1 : 0 ≤ d ∧ d < 10) (hp : 0 ≤ p ∧ p ≤ 1000000000) : p_parts_scan_number__0_3 n f d s p what = some (.inl (n * 10 + d, f, s, p + 1, what)) := by
  unfold p_parts_scan_number__0_3 b_parts_scan_number__0_3
  rw [r_mul (by unfold fit64; omega), r_add (by unfold fit64; omega), r_add (by unfold fit64; omega)]
theorem num_loop (s : Str) (hs : s.length ≤ 1000000000) (f : Nat) : ∀ (j n k : Nat), s.length - (f + k) ≤ j → f + k ≤ s.length → n ≤ 16777216 →
    p_parts_scan_number__0_1 (n : Int) (f : Int) s ((f + k : Nat) : Int) 0 = some (((numL (s.drop (f + k)) n k).2.1 : Int), s, ((f + (numL (s.drop (f + k)) n k).1 : Nat) : Int), (numL (s.drop (f + k)) n k).2.2)
  | j, n, k, hj, hk, hn => by
    rw [u_parts_scan_number__0_1]
    unfold b_parts_scan_number__0_1
    simp only [dig]
    by_cases h : f + k < s.length
    · have hx : s[f + k]? = some s[f + k] := List.getElem?_eq_getElem h
      have hd : s.drop (f + k) = s[f + k] :: s.drop (f + k + 1) := List.drop_eq_getElem_cons h
      rw [hx, hd]
      simp only [numL]
      cases hc : dg s[f + k] with
      | false =>
        simp only [Bool.false_eq_true, if_false, r_slen]
        by_cases c : k = 0
        · rw [if_pos c, eql_t (by omega), eql_t rfl, eql_f (by omega)]
          rfl
        · rw [if_neg c, eql_f (by omega)]
          rfl
      | true =>
        simp only [if_true]
        have hc' := hc
        simp only [dg, decide_eq_true_eq] at hc'
        rw [r_sidx hx]
        simp only
        have e1 : Prims.real.wrap .i64 (Prims.real.ar .sub .u8 (s[f + k].toNat : Int) 48) = ((s[f + k].toNat - 48 : Nat) : Int) := by
          have : Prims.real.ar .sub .u8 (s[f + k].toNat : Int) 48 = ((s[f + k].toNat - 48 : Nat) : Int) := by
            show IntKind.u8.wrap _ = _
            rw [IntKind.wrap_u8]; omega
          rw [this, r_wrap64 (by unfold fit64; omega)]
        simp only [e1]
        generalize hdd : s[f + k].toNat - 48 = d
        have hd9 : d < 10 := by omega
        have e2 : Prims.real.ar .add .i64 (Prims.real.ar .mul .i64 (n : Int) 10) (d : Int) = ((n * 10 + d : Nat) : Int) := by
          rw [r_mul (by unfold fit64; omega), r_add (by unfold fit64; omega)]
          omega
        simp only [e2]
        by_cases c1 : (0 < k ∧ n = 0) ∨ 16777216 < n * 10 + d
        · rw [if_pos c1]
          by_cases c2 : 0 < k
          · rw [gtr_t (by omega)]
            simp only
            by_cases c3 : n = 0
            · rw [eql_t (by omega)]
              rfl
            · rw [eql_f (by omega), gtr_t (by omega)]
              rfl
          · rw [gtr_f (by omega), gtr_t (by omega)]
            rfl
        · rw [if_neg c1]
          have e3 : p_parts_scan_number__0_3 (n : Int) (f : Int) (d : Int) s ((f + k : Nat) : Int) 0 = some (.inl (((n * 10 + d : Nat) : Int), (f : Int), s, ((f + (k + 1) : Nat) : Int), 0)) := by
            rw [num_3 _ _ _ _ _ _ (by omega) (by omega) (by omega)]
            refine congrArg (fun x => some (Sum.inl x)) ?_
            refine Prod.ext (by simp only; omega) (Prod.ext rfl (Prod.ext rfl (Prod.ext (by simp only; omega) rfl)))
          cases j with
          | zero => omega
          | succ j =>
            have ih := num_loop s hs f j (n * 10 + d) (k + 1) (by omega) (by omega) (by omega)
            rw [show f + (k + 1) = f + k + 1 by omega] at ih
            by_cases c2 : 0 < k
            · rw [gtr_t (by omega)]
              simp only
              rw [eql_f (by omega), gtr_f (by omega)]
              simp only [e3]
              exact ih
            · rw [gtr_f (by omega), gtr_f (by omega)]
              simp only [e3]
              exact ih
    · have he : f + k = s.length := by omega
      rw [List.getElem?_eq_none (by omega), List.drop_eq_nil_of_le (by omega)]
      simp only [numL, r_slen]
      by_cases c : k = 0
      · rw [if_pos c, eql_t (by omega), eql_t rfl, eql_t (by omega)]
        rfl
      · rw [if_neg c, eql_f (by omega)]
        rfl
/-- What looking for a length comes to: the length, how far, and what. -/
def numS (s : Str) (p : Nat) (what : Int) : Nat × Nat × Int :=
  if what = 0 then ((numL (s.drop p) 0 0).2.1, p + (numL (s.drop p) 0 0).1, (numL (s.drop p) 0 0).2.2) else (0, p, what)
theorem scan_number (s : Str) (hs : s.length ≤ 1000000000) (p : Nat) (what : Int) (hp : p ≤ s.length) :
    p_parts_scan_number__0 s (p : Int) what = some (((numS s p what).1 : Int), s, ((numS s p what).2.1 : Int), (numS s p what).2.2) := by
  unfold p_parts_scan_number__0 p_parts_scan_number__0_0 b_parts_scan_number__0_0 numS
  by_cases h : what = 0
  · subst h
    have := num_loop s hs p _ 0 0 (Nat.le_refl _) (by omega) (by omega)
    simpa using this
  · rw [if_neg h, u_parts_scan_number__0_1]
    unfold b_parts_scan_number__0_1 p_parts_scan_number_1__0 p_parts_scan_number_1__0_0 b_parts_scan_number_1__0_0
    rw [eql_f h]
    simp only
    rw [eql_t rfl]
    simp only
    rfl
theorem numS_le (s : Str) (p : Nat) (what : Int) (hp : p ≤ s.length) : (numS s p what).2.1 ≤ s.length ∧ (numS s p what).1 ≤ 16777216 := by
  unfold numS
  have := numL_le (s.drop p) 0 0
  split
  · simp only [List.length_drop] at this; simp only; omega
  · simp only; omega
/-- So many bytes. -/
def takeS (s : Str) (n p : Nat) (what : Int) : Str × Nat × Int :=
  if what = 0 then (if s.length < p + n then ([], s.length, 1) else ((s.drop p).take n, p + n, 0)) else ([], p, what)
theorem scan_take (s : Str) (hs : s.length ≤ 1000000000) (n p : Nat) (what : Int) (hp : p ≤ s.length) (hn : n ≤ 16777216) :
    p_parts_scan_take__0 (n : Int) s (p : Int) what = some ((takeS s n p what).1, s, ((takeS s n p what).2.1 : Int), (takeS s n p what).2.2) := by
  unfold p_parts_scan_take__0 p_parts_scan_take__0_0 b_parts_scan_take__0_0 takeS
  rw [r_slen]
  by_cases h : what = 0
  · subst h
    rw [neq_f rfl, if_pos rfl, r_sub64 (by unfold fit64; omega)]
    simp only
    by_cases c : s.length < p + n
    · rw [lss_t (by omega), if_pos c]
    · rw [lss_f (by omega), if_neg c, r_add (by unfold fit64; omega), show (p : Int) + n = ((p + n : Nat) : Int) by omega, r_ssub2 (by omega) (by omega)]
      simp only
      rw [List.drop_take, Nat.add_sub_cancel_left]
  · rw [neq_t h, if_neg h]
theorem takeS_le (s : Str) (n p : Nat) (what : Int) (hp : p ≤ s.length) : (takeS s n p what).2.1 ≤ s.length := by
  unfold takeS
  repeat' split
  all_goals simp only; omega
def isS (c : UInt8) (s : Str) (p : Nat) (what : Int) : Bool := what == 0 && (match s[p]? with | some b => b == c | none => false)
theorem scan_is (c : UInt8) (s : Str) (p : Nat) (what : Int) : p_parts_scan_is__0 (c.toNat : Int) s (p : Int) what = some (isS c s p what) := by
  unfold p_parts_scan_is__0 p_parts_scan_is__0_0 b_parts_scan_is__0_0 isS
  rw [r_slen]
  by_cases h : what = 0
  · subst h
    rw [eql_t rfl]
    simp only
    by_cases hp : p < s.length
    · have hx : s[p]? = some s[p] := List.getElem?_eq_getElem hp
      rw [lss_t (by omega), hx, r_sidx hx]
      simp only [r_eql, beq_self_eq_true, Bool.true_and, Option.some.injEq]
      rw [Bool.eq_iff_iff]
      simp only [beq_iff_eq]
      constructor
      · intro e; exact UInt8.toNat_inj.1 (by omega)
      · intro e; rw [e]
    · rw [lss_f (by omega), List.getElem?_eq_none (by omega)]
      simp
  · rw [eql_f h]
    simp [h]
abbrev markT : Str := [45, 45, 99, 117, 116]
abbrev endT : Str := [45, 45, 13, 10]
abbrev headT : Str := [13, 10, 67, 111, 110, 116, 101, 110, 116, 45, 84, 121, 112, 101, 58, 32, 97, 112, 112, 108, 105, 99, 97, 116, 105, 111, 110, 47, 106, 115, 111, 110, 13, 10, 67, 111, 110, 116, 101, 110, 116, 45, 76, 101, 110, 103, 116, 104, 58, 32]
abbrev blankT : Str := [13, 10, 13, 10]
abbrev lineT : Str := [13, 10]
/-- A part, or the end: the body, whether it is a part, how far, and what. -/
def partS (s : Str) : Str × Bool × Nat × Int :=
  let a := textS s markT 0 0
  if isS 45 s a.1 a.2 = true then ([], false, (textS s endT a.1 a.2).1, (textS s endT a.1 a.2).2)
  else
    let b := textS s headT a.1 a.2
    let c := numS s b.1 b.2
    let d := textS s blankT c.2.1 c.2.2
    let e := takeS s c.1 d.1 d.2
    let f := textS s lineT e.2.1 e.2.2
    (e.1, true, f.1, f.2)
theorem scan_part (s : Str) (hs : s.length ≤ 1000000000) : p_parts_scan_part__0 s 0 0 = some ((partS s).1, (partS s).2.1, s, ((partS s).2.2.1 : Int), (partS s).2.2.2) := by
  unfold p_parts_scan_part__0 p_parts_scan_part__0_0 b_parts_scan_part__0_0 partS
  have h0 := scan_text markT s (by decide) hs 0 0 (Nat.zero_le _)
  simp only [Int.natCast_zero] at h0
  simp only [h0]
  have l0 := textS_le s markT 0 0 (Nat.zero_le _)
  generalize textS s markT 0 0 = a at l0
  have h1 := scan_is 45 s a.1 a.2
  rw [show ((45 : UInt8).toNat : Int) = 45 from rfl] at h1
  simp only [h1]
  cases hi : isS 45 s a.1 a.2 with
  | true =>
    simp only [if_true, scan_text endT s (by decide) hs a.1 a.2 l0]
  | false =>
    simp only [Bool.false_eq_true, if_false, scan_text headT s (by decide) hs a.1 a.2 l0]
    have l1 := textS_le s headT a.1 a.2 l0
    generalize textS s headT a.1 a.2 = b at l1
    simp only [scan_number s hs b.1 b.2 l1]
    have l2 := numS_le s b.1 b.2 l1
    generalize numS s b.1 b.2 = c at l2
    simp only [scan_text blankT s (by decide) hs c.2.1 c.2.2 l2.1]
    have l3 := textS_le s blankT c.2.1 c.2.2 l2.1
    generalize textS s blankT c.2.1 c.2.2 = d at l3
    simp only [scan_take s hs c.1 d.1 d.2 l3 l2.2]
    have l4 := takeS_le s c.1 d.1 d.2 l3
    generalize takeS s c.1 d.1 d.2 = e at l4
    simp only [scan_text lineT s (by decide) hs e.2.1 e.2.2 l4]
theorem partS_le (s : Str) : (partS s).2.2.1 ≤ s.length := by
  unfold partS
  have l0 := textS_le s markT 0 0 (Nat.zero_le _)
  simp only
  split
  · exact textS_le _ _ _ _ l0
  · exact textS_le _ _ _ _ (takeS_le _ _ _ _ (textS_le _ _ _ _ (numS_le _ _ _ (textS_le _ _ _ _ l0)).1))
/-- A reader: what isn't read, its place, the end, the bad place. -/
structure Rd where
  rest : Str
  at_ : Nat
  over : Bool
  bad : Nat
def stopS (r : Rd) : Rd := if 0 < r.bad ∨ r.rest = [] then r else { r with bad := r.at_ + 1 }
def nextS (r : Rd) : Str × Bool × Rd :=
  if 0 < r.bad ∨ r.rest = [] then ([], false, r)
  else if r.over = true then ([], false, { r with bad := r.at_ + 1 })
  else
    let x := partS r.rest
    if x.2.2.2 = 2 then ([], false, { r with bad := r.at_ + x.2.2.1 + 1 })
    else if x.2.2.2 = 1 then ([], false, r)
    else if x.2.1 = true then (x.1, true, { r with rest := r.rest.drop x.2.2.1, at_ := r.at_ + x.2.2.1 })
    else ([], false, stopS { rest := r.rest.drop x.2.2.1, at_ := r.at_ + x.2.2.1, over := true, bad := 0 })
def Rd.fits (r : Rd) : Prop := r.rest.length ≤ 1000000000 ∧ r.at_ ≤ 2000000000 ∧ r.bad ≤ 4000000000
theorem next_over (k : Nat) (r : Rd) (h2 : r.at_ ≤ 4000000000) (ho : r.over = true) : pk_parts_Reader_Next__0 (k + 1) r.rest r.at_ r.over r.bad = some ([], false, (stopS r).rest, ((stopS r).at_ : Int), (stopS r).over, ((stopS r).bad : Int)) := by
  show p_parts_Reader_Next__0_0 _ _ _ _ _ = _
  unfold p_parts_Reader_Next__0_0 b_parts_Reader_Next__0_0 stopS
  rw [ho]
  by_cases c : 0 < r.bad
  · rw [gtr_t (by omega), if_pos (.inl c), ho]
  · rw [gtr_f (by omega)]
    simp only
    by_cases e : r.rest = []
    · rw [seq_t e, if_pos (.inr e), ho]
    · rw [seq_f e, if_neg (by simp [c, e]), r_add (by unfold fit64; omega)]
      simp only [ho]
      rfl
theorem next_k (k : Nat) (r : Rd) (h : r.fits) : pk_parts_Reader_Next__0 (k + 2) r.rest r.at_ r.over r.bad = some ((nextS r).1, (nextS r).2.1, (nextS r).2.2.rest, ((nextS r).2.2.at_ : Int), (nextS r).2.2.over, ((nextS r).2.2.bad : Int)) := by
  have hf := h
  obtain ⟨h1, h2, h3⟩ := h
  show p_parts_Reader_Next__0_0 (pk_parts_Reader_Next__0 (k + 1)) _ _ _ _ = _
  unfold p_parts_Reader_Next__0_0 b_parts_Reader_Next__0_0 nextS
  by_cases c : 0 < r.bad
  · rw [gtr_t (by omega), if_pos (.inl c)]
  rw [gtr_f (by omega)]
  simp only
  by_cases e : r.rest = []
  · rw [seq_t e, if_pos (.inr e)]
  rw [seq_f e, if_neg (by simp [c, e])]
  simp only
  cases ho : r.over with
  | true =>
    simp only [if_true]
    rw [r_add (by unfold fit64; omega)]
    rfl
  | false =>
    simp only [Bool.false_eq_true, if_false, scan_part r.rest h1]
    have hl := partS_le r.rest
    generalize partS r.rest = x at hl
    by_cases c1 : x.2.2.2 = 2
    · rw [eql_t c1, if_pos c1, r_add (a := (r.at_ : Int)) (by unfold fit64; omega), r_add (by unfold fit64; omega)]
      rfl
    rw [eql_f c1, if_neg c1]
    simp only
    by_cases c2 : x.2.2.2 = 1
    · rw [eql_t c2, if_pos c2]
      simp only [ho]
    rw [eql_f c2, if_neg c2, r_ssub_from hl, r_add (by unfold fit64; omega)]
    simp only
    cases hm : x.2.1 with
    | true => simp only [if_true, ho]; rfl
    | false =>
      simp only [Bool.false_eq_true, if_false]
      have hb : r.bad = 0 := by omega
      have := next_over k { rest := r.rest.drop x.2.2.1, at_ := r.at_ + x.2.2.1, over := true, bad := 0 } (by simp only; omega) rfl
      simp only at this
      rw [hb, show (r.at_ : Int) + (x.2.2.1 : Int) = ((r.at_ + x.2.2.1 : Nat) : Int) by omega, show ((0 : Nat) : Int) = 0 from rfl]
      rw [show ((0 : Nat) : Int) = 0 from rfl] at this
      rw [this]
theorem next (r : Rd) (h : r.fits) : p_parts_Reader_Next__0 r.rest r.at_ r.over r.bad = some ((nextS r).1, (nextS r).2.1, (nextS r).2.2.rest, ((nextS r).2.2.at_ : Int), (nextS r).2.2.over, ((nextS r).2.2.bad : Int)) := next_k 999998 r h
end Go.Abs.B
