import Derived.Test.YtacabmodmbcldaaDoorMK1
import Derived.Test.YtacabmodmbcldaaDoorXQ
/-! Indents, values, raw texts: in plain words. -/
set_option linter.unusedVariables false
namespace Go.Abs.Q
/-- A line of blanks alone. -/
def blank (s : Str) : Bool := (s.dropWhile isBl).isEmpty
/-- How many blanks a line begins with. -/
def fst (s : Str) : Nat := (s.takeWhile isBl).length
theorem fst_add (s : Str) : fst s + (s.dropWhile isBl).length = s.length := by
  have := congrArg List.length (List.takeWhile_append_dropWhile (p := isBl) (l := s))
  rw [List.length_append] at this
  exact this
theorem blank_iff (s : Str) : blank s = true ↔ fst s = s.length := by
  have := fst_add s
  unfold blank
  rw [List.isEmpty_iff, ← List.length_eq_zero_iff]
  omega
theorem blank_iff2 (s : Str) : blank s = false ↔ fst s < s.length := by
  have := fst_add s
  have h := blank_iff s
  cases hb : blank s with
  | true => have := h.1 hb; constructor <;> intro c <;> first | (cases c; done) | omega
  | false =>
    refine ⟨fun _ => ?_, fun _ => rfl⟩
    have : ¬ fst s = s.length := fun c => by rw [h.2 c] at hb; cases hb
    omega
/-- One line more. -/
def indS (a : Option Nat) (x : Str) : Option Nat := if blank x = true then a else some (match a with
  | none => fst x
  | some n => if fst x < n then fst x else n)
def indF (a : Option Nat) : List Str → Option Nat
  | [] => a
  | x :: r => indF (indS a x) r
def ind (l : List Str) : Nat := (indF none (l.drop 1)).getD 0
/-- Without as many signs. -/
def cut (n : Nat) : List Str → List Str
  | [] => []
  | x :: r => x :: r.map (List.drop n)
theorem cut_zero (l : List Str) : cut 0 l = l := by
  cases l with
  | nil => rfl
  | cons x r => simp [cut, show (List.drop 0 : Str → Str) = id from rfl]
/-- Without the blank lines at the end. -/
def trimE : List Str → List Str
  | [] => []
  | x :: r => if trimE r = [] ∧ blank x = true then [] else x :: trimE r
theorem trimE_blank (x : Str) (hx : blank x = true) : ∀ l, trimE (l ++ [x]) = trimE l
  | [] => by simp [trimE, hx]
  | y :: r => by simp only [List.cons_append, trimE, trimE_blank x hx r]
theorem trimE_full (x : Str) (hx : blank x = false) : ∀ l, trimE (l ++ [x]) = l ++ [x]
  | [] => by simp [trimE, hx]
  | y :: r => by simp [trimE, trimE_full x hx r]
theorem trimE_all (l : List Str) : trimE l = [] ↔ l.all blank = true := by
  induction l with
  | nil => simp [trimE]
  | cons x r ih =>
    simp only [trimE, List.all_cons, Bool.and_eq_true]
    constructor
    · intro h
      split at h
      · rename_i c; exact ⟨c.2, ih.1 c.1⟩
      · cases h
    · intro h
      rw [if_pos ⟨ih.2 h.2, h.1⟩]
theorem trimE_prefix (l : List Str) : l.take (trimE l).length = trimE l := by
  induction l with
  | nil => rfl
  | cons x r ih =>
    simp only [trimE]
    split
    · rfl
    · simp [ih]
theorem trimE_app (b : List Str) (hb : trimE b ≠ []) : ∀ a, trimE (a ++ b) = a ++ trimE b
  | [] => rfl
  | x :: r => by
    have := trimE_app b hb r
    simp only [List.cons_append, trimE, this]
    rw [if_neg (by simp [hb])]
theorem drop_head (l : List Str) {x : Str} {r : List Str} (h : l.dropWhile blank = x :: r) : blank x = false := by
  induction l with
  | nil => cases h
  | cons y t ih =>
    rw [List.dropWhile_cons] at h
    split at h
    · exact ih h
    · rename_i c
      cases h
      exact Bool.eq_false_iff.2 c
theorem trimE_drop (l : List Str) (h : trimE (l.dropWhile blank) ≠ []) : trimE (l.dropWhile blank) = (trimE l).drop (l.takeWhile blank).length := by
  have e := List.takeWhile_append_dropWhile (p := blank) (l := l)
  conv => rhs; arg 2; rw [← e, trimE_app _ h]
  simp
theorem trimE_some (l : List Str) (h : l.all blank = false) : trimE (l.dropWhile blank) ≠ [] := by
  intro c
  have h2 := (trimE_all _).1 c
  have e := List.takeWhile_append_dropWhile (p := blank) (l := l)
  have h3 : l.all blank = true := by
    rw [← e, List.all_append, h2, Bool.and_true, List.all_eq_true]
    intro x hx
    exact List.all_eq_true.1 List.all_takeWhile x hx
  rw [h3] at h; cases h
theorem trimE_none (l : List Str) (h : l.all blank = true) : trimE (l.dropWhile blank) = [] := by
  rw [trimE_all, List.all_eq_true]
  intro x hx
  exact List.all_eq_true.1 h x ((List.dropWhile_sublist blank).subset hx)
/-- Where the first and the last line lie that aren't blank. -/
def scan (k f t : Nat) : List Str → Nat × Nat
  | [] => (f, t)
  | x :: r => if blank x = true then scan (k + 1) f t r else scan (k + 1) (min f k) (k + 1) r
theorem scan_at (k f t : Nat) (r : List Str) : scan k f t r = if r.all blank = true then (f, t) else (min f (k + (r.takeWhile blank).length), k + (trimE r).length) := by
  induction r generalizing k f t with
  | nil => simp [scan]
  | cons x r ih =>
    have hall := trimE_all r
    cases hx : blank x with
    | true =>
      rw [scan, if_pos hx, ih]
      simp only [List.all_cons, hx, Bool.true_and, List.takeWhile_cons, if_true, List.length_cons, trimE]
      cases hr : r.all blank with
      | true => rfl
      | false =>
        have hne : ¬ trimE r = [] := fun c => by rw [hall.1 c] at hr; cases hr
        simp only [Bool.false_eq_true, if_false, hne, false_and, List.length_cons]
        rw [show k + 1 + (r.takeWhile blank).length = k + ((r.takeWhile blank).length + 1) by omega, show k + 1 + (trimE r).length = k + ((trimE r).length + 1) by omega]
    | false =>
      rw [scan, if_neg (by rw [hx]; decide), ih]
      simp only [List.all_cons, hx, Bool.false_and, Bool.false_eq_true, if_false, List.takeWhile_cons, trimE, and_false, List.length_cons, List.length_nil, Nat.add_zero]
      cases hr : r.all blank with
      | true => rw [if_pos rfl, hall.2 hr]; rfl
      | false =>
        simp only [Bool.false_eq_true, if_false]
        rw [show k + 1 + (trimE r).length = k + ((trimE r).length + 1) by omega]
        congr 1
        omega
/-- The lines from the first to the last that aren't blank. -/
def core (l : List Str) : List Str := trimE (l.dropWhile blank)
theorem scan_core (l : List Str) : ((l.take (scan 0 l.length 0 l).2).drop (scan 0 l.length 0 l).1) = core l := by
  rw [scan_at]
  unfold core
  cases h : l.all blank with
  | true => rw [if_pos rfl, trimE_none l h]; simp
  | false =>
    simp only [Bool.false_eq_true, if_false, Nat.zero_add]
    rw [trimE_prefix, trimE_drop l (trimE_some l h), Nat.min_eq_right]
    have := congrArg List.length (List.takeWhile_append_dropWhile (p := blank) (l := l))
    simp only [List.length_append] at this
    omega
/-- A raw text's value. -/
def valL (l : List Str) : Str := Lib.join (core (cut (ind l) l)) [10]
def unq (s : Str) : Str := rep 92 [34, 34, 34] [34, 34, 34] s
def quo (s : Str) : Str := rep 34 [34, 34] [92, 34, 34, 34] s
def val (s : Str) : Str := valL (lines (unq s))
/-- Texts that come again. -/
def comes (s : Str) : Bool := !s.contains 13 && !(s.getLast? == some 92) && !(s.getLast? == some 34) && (s.isEmpty || (!blank ((lines s).head?.getD []) && !blank ((lines s).getLast?.getD []))) && decide (ind ([] :: lines s) = 0)
theorem unq_nl (s : Str) : unq (10 :: s) = 10 :: unq s := by
  unfold unq
  rw [rep_miss (by rw [List.isPrefixOf_cons_cons]; rfl)]
theorem quo_head (s : Str) : ([34, 34, 34] : Str).isPrefixOf (quo s) = false ∧ (([34, 34] : Str).isPrefixOf (quo s) = true → ([34, 34] : Str).isPrefixOf s = true) ∧ (([34] : Str).isPrefixOf (quo s) = true → ([34] : Str).isPrefixOf s = true) := by
  have one : ∀ s, ([34] : Str).isPrefixOf (quo s) = true → ([34] : Str).isPrefixOf s = true := fun s h => by
    cases s with
    | nil => unfold quo at h; rw [rep_nil] at h; cases h
    | cons b l =>
      cases hp : ([34, 34, 34] : Str).isPrefixOf (b :: l) with
      | true => unfold quo at h; rw [rep_hit hp] at h; simp at h
      | false => unfold quo at h; rw [rep_miss hp] at h; simpa using h
  have two : ∀ s, ([34, 34] : Str).isPrefixOf (quo s) = true → ([34, 34] : Str).isPrefixOf s = true := fun s h => by
    cases s with
    | nil => unfold quo at h; rw [rep_nil] at h; cases h
    | cons b l =>
      cases hp : ([34, 34, 34] : Str).isPrefixOf (b :: l) with
      | true => unfold quo at h; rw [rep_hit hp] at h; simp at h
      | false =>
        unfold quo at h; rw [rep_miss hp] at h
        have h1 : 34 = b ∧ ([34] : Str).isPrefixOf (quo l) = true := by
          rw [List.isPrefixOf_cons_cons, Bool.and_eq_true, beq_iff_eq] at h
          exact h
        have h2 := one l h1.2
        rw [List.isPrefixOf_cons_cons, Bool.and_eq_true, beq_iff_eq]
        exact ⟨h1.1, h2⟩
  refine ⟨?_, two s, one s⟩
  cases s with
  | nil => unfold quo; rw [rep_nil]; rfl
  | cons b l =>
    cases hp : ([34, 34, 34] : Str).isPrefixOf (b :: l) with
    | true =>
      unfold quo; rw [rep_hit hp]
      show List.isPrefixOf _ (92 :: _) = false
      rw [List.isPrefixOf_cons_cons]; rfl
    | false =>
      refine Bool.eq_false_iff.2 fun h => ?_
      unfold quo at h
      rw [rep_miss hp] at h
      have h1 : 34 = b ∧ ([34, 34] : Str).isPrefixOf (quo l) = true := by
        rw [List.isPrefixOf_cons_cons, Bool.and_eq_true, beq_iff_eq] at h
        exact h
      have h2 := two l h1.2
      have h3 : ([34, 34, 34] : Str).isPrefixOf (b :: l) = true := by
        rw [List.isPrefixOf_cons_cons, Bool.and_eq_true, beq_iff_eq]
        exact ⟨h1.1, h2⟩
      rw [h3] at hp; cases hp
/-- What is quoted comes again. -/
theorem unq_quo : ∀ (k : Nat) (s : Str), s.length ≤ k → unq (quo s) = s
  | k, [], _ => by unfold quo unq; rw [rep_nil, rep_nil]
  | 0, b :: l, hk => by simp at hk
  | k + 1, b :: l, hk => by
    simp only [List.length_cons] at hk
    cases hp : ([34, 34, 34] : Str).isPrefixOf (b :: l) with
    | true =>
      have e : quo (b :: l) = [92, 34, 34, 34] ++ quo (l.drop 2) := by unfold quo; rw [rep_hit hp]; rfl
      have e2 : unq ([92, 34, 34, 34] ++ quo (l.drop 2)) = [34, 34, 34] ++ unq (quo (l.drop 2)) := by unfold unq; exact rep_row
      rw [e, e2, unq_quo k _ (by simp; omega)]
      obtain ⟨t, ht⟩ := List.isPrefixOf_iff_prefix.1 hp
      have ht2 : b = 34 ∧ l = 34 :: 34 :: t := by
        simp only [List.cons_append, List.nil_append, List.cons.injEq] at ht
        exact ⟨ht.1.symm, ht.2.symm⟩
      rw [ht2.1, ht2.2]
      rfl
    | false =>
      have e : quo (b :: l) = b :: quo l := by unfold quo; rw [rep_miss hp]
      rw [e]
      have hm : ([92, 34, 34, 34] : Str).isPrefixOf (b :: quo l) = false := by
        rw [List.isPrefixOf_cons_cons, (quo_head l).1, Bool.and_false]
      have e2 : unq (b :: quo l) = b :: unq (quo l) := by unfold unq; rw [rep_miss hm]
      rw [e2, unq_quo k l (by omega)]
/-- What comes again has the text as its value. -/
theorem val_quo (s : Str) (h : comes s = true) : val (10 :: quo s) = s := by
  unfold comes at h
  simp only [Bool.and_eq_true, Bool.not_eq_true', Bool.or_eq_true, decide_eq_true_eq] at h
  obtain ⟨⟨⟨⟨h1, _⟩, _⟩, h4⟩, h5⟩ := h
  unfold val
  rw [unq_nl, unq_quo _ s (Nat.le_refl _), lines_nl]
  unfold valL
  rw [h5, cut_zero]
  have hb : blank [] = true := rfl
  have hno : ∀ b ∈ s, b ≠ 13 := fun b hb c => by
    subst c
    have : s.contains 13 = true := by simpa using hb
    rw [this] at h1; cases h1
  have hj := join_lines s hno
  unfold core
  rw [List.dropWhile_cons, if_pos hb]
  rcases h4 with h4 | ⟨h4, h6⟩
  · rw [List.isEmpty_iff] at h4
    subst h4
    rw [lines_nil]
    rfl
  · obtain ⟨x, r, e⟩ := lines_ne s
    have hx : blank x = false := by rw [e] at h4; simpa using h4
    have hd : (lines s).dropWhile blank = lines s := by rw [e, List.dropWhile_cons, if_neg (by rw [hx]; decide)]
    rw [hd]
    have hne : lines s ≠ [] := by rw [e]; simp
    have hl := List.dropLast_concat_getLast hne
    have hy : blank ((lines s).getLast hne) = false := by
      rw [List.getLast?_eq_some_getLast hne] at h6
      simpa using h6
    have ht := trimE_full _ hy (lines s).dropLast
    rw [hl] at ht
    rw [ht, hj]
end Go.Abs.Q
