import Derived.Test.YtacabmodmbcldaaDoorM1
import Derived.Lib.ReplaceLaws
import Derived.Lib.Join
/-! Lines, what stands in the place of what, indents: in plain words. -/
set_option linter.unusedVariables false
namespace Go.Abs.Q
/-- A break of lines. -/
abbrev isBrk (b : UInt8) : Prop := b = 10 ∨ b = 13
/-- Where the first break lies; the text's length if none does. -/
def brk : Str → Nat
  | [] => 0
  | b :: l => if isBrk b then 0 else brk l + 1
theorem brk_le : ∀ s : Str, brk s ≤ s.length
  | [] => Nat.le_refl _
  | b :: l => by
    have := brk_le l
    unfold brk
    split <;> simp <;> omega
/-- The text after a break. -/
def skip (s : Str) (i : Nat) : Nat := if s[i]? = some 13 ∧ s[i + 1]? = some 10 then i + 2 else i + 1
theorem skip_ge (s : Str) (i : Nat) : i + 1 ≤ skip s i := by unfold skip; split <;> omega
theorem skip_le {s : Str} {i : Nat} (h : i < s.length) : skip s i ≤ s.length := by
  unfold skip
  split
  · rename_i c
    have := (List.getElem?_eq_some_iff.1 c.2).1
    omega
  · omega
def lines (s : Str) : List Str := if h : brk s < s.length then s.take (brk s) :: lines (s.drop (skip s (brk s))) else [s]
termination_by s.length
decreasing_by
  have := skip_ge s (brk s)
  simp only [List.length_drop]
  omega
theorem lines_at {s : Str} (h : brk s < s.length) : lines s = s.take (brk s) :: lines (s.drop (skip s (brk s))) := by rw [lines, dif_pos h]
theorem lines_end {s : Str} (h : s.length ≤ brk s) : lines s = [s] := by rw [lines, dif_neg (by omega)]
def hd (p : Str) : List Str → List Str
  | x :: r => (p ++ x) :: r
  | [] => [p]
theorem lines_nil : lines [] = [[]] := lines_end (by simp)
theorem lines_norm {b : UInt8} {l : Str} (h : ¬ isBrk b) : lines (b :: l) = hd [b] (lines l) := by
  have e : brk (b :: l) = brk l + 1 := by rw [brk, if_neg h]
  by_cases c : brk l < l.length
  · rw [lines_at (s := b :: l) (by rw [e]; simp; omega), lines_at c, e]
    have e2 : skip (b :: l) (brk l + 1) = skip l (brk l) + 1 := by
      unfold skip
      simp only [List.getElem?_cons_succ]
      split <;> rfl
    rw [e2]
    simp [hd]
  · rw [lines_end (s := b :: l) (by rw [e]; simp; omega), lines_end (by omega)]
    rfl
theorem lines_nl (l : Str) : lines (10 :: l) = [] :: lines l := by
  have e : brk (10 :: l) = 0 := by rw [brk, if_pos (.inl rfl)]
  rw [lines_at (by rw [e]; simp), e]
  have e2 : skip (10 :: l) 0 = 1 := by
    unfold skip
    rw [if_neg (by simp)]
  rw [e2]
  rfl
theorem lines_crlf (l : Str) : lines (13 :: 10 :: l) = [] :: lines l := by
  have e : brk (13 :: 10 :: l) = 0 := by rw [brk, if_pos (.inr rfl)]
  rw [lines_at (by rw [e]; simp), e]
  have e2 : skip (13 :: 10 :: l) 0 = 2 := by
    unfold skip
    rw [if_pos (by simp)]
  rw [e2]
  rfl
theorem lines_cr {l : Str} (h : l[0]? ≠ some 10) : lines (13 :: l) = [] :: lines l := by
  have e : brk (13 :: l) = 0 := by rw [brk, if_pos (.inr rfl)]
  rw [lines_at (by rw [e]; simp), e]
  have e2 : skip (13 :: l) 0 = 1 := by
    unfold skip
    rw [if_neg (fun c => h (by simpa using c.2))]
  rw [e2]
  rfl
/-- By what lines are told. -/
theorem lines_ind {p : Str → Prop} (h0 : p []) (h1 : ∀ b l, ¬ isBrk b → p l → p (b :: l)) (h2 : ∀ l, p l → p (10 :: l)) (h3 : ∀ l, p l → p (13 :: 10 :: l)) (h4 : ∀ l, l[0]? ≠ some 10 → p l → p (13 :: l)) : ∀ (k : Nat) (s : Str), s.length ≤ k → p s
  | k, [], _ => h0
  | 0, b :: l, hk => by simp at hk
  | k + 1, b :: l, hk => by
    simp only [List.length_cons] at hk
    by_cases c : isBrk b
    · rcases c with rfl | rfl
      · exact h2 l (lines_ind h0 h1 h2 h3 h4 k l (by omega))
      · by_cases c2 : l[0]? = some 10
        · cases l with
          | nil => cases c2
          | cons d l =>
            simp only [List.getElem?_cons_zero, Option.some.injEq] at c2
            subst c2
            simp only [List.length_cons] at hk
            exact h3 l (lines_ind h0 h1 h2 h3 h4 k l (by omega))
        · exact h4 l c2 (lines_ind h0 h1 h2 h3 h4 k l (by omega))
    · exact h1 b l c (lines_ind h0 h1 h2 h3 h4 k l (by omega))
theorem lines_ne (s : Str) : ∃ x r, lines s = x :: r := by
  by_cases h : brk s < s.length
  · exact ⟨_, _, lines_at h⟩
  · exact ⟨_, _, lines_end (by omega)⟩
/-- How much lines hold. -/
theorem lines_room (s : Str) : Lib.lens (lines s) + (lines s).length ≤ s.length + 1 := by
  refine lines_ind (p := fun s => Lib.lens (lines s) + (lines s).length ≤ s.length + 1) ?_ ?_ ?_ ?_ ?_ _ s (Nat.le_refl _)
  · rw [lines_nil]; simp [Lib.lens]
  · intro b l hb ih
    rw [lines_norm hb]
    obtain ⟨x, r, e⟩ := lines_ne l
    rw [e] at ih ⊢
    simp [hd, Lib.lens] at ih ⊢
    omega
  · intro l ih; rw [lines_nl]; simp [Lib.lens] at ih ⊢; omega
  · intro l ih; rw [lines_crlf]; simp [Lib.lens] at ih ⊢; omega
  · intro l hl ih; rw [lines_cr hl]; simp [Lib.lens] at ih ⊢; omega
/-- No line holds a break. -/
theorem lines_clean (s : Str) : ∀ x ∈ lines s, ∀ b ∈ x, ¬ isBrk b := by
  refine lines_ind (p := fun s => ∀ x ∈ lines s, ∀ b ∈ x, ¬ isBrk b) ?_ ?_ ?_ ?_ ?_ _ s (Nat.le_refl _)
  · rw [lines_nil]; simp
  · intro b l hb ih
    rw [lines_norm hb]
    obtain ⟨x, r, e⟩ := lines_ne l
    rw [e] at ih ⊢
    intro y hy c hc
    rcases List.mem_cons.1 hy with rfl | hy
    · rcases List.mem_cons.1 (show c ∈ b :: x from hc) with rfl | hc
      · exact hb
      · exact ih x (List.mem_cons_self ..) c hc
    · exact ih y (List.mem_cons_of_mem _ hy) c hc
  · intro l ih
    rw [lines_nl]
    intro y hy c hc
    rcases List.mem_cons.1 hy with rfl | hy
    · cases hc
    · exact ih y hy c hc
  · intro l ih
    rw [lines_crlf]
    intro y hy c hc
    rcases List.mem_cons.1 hy with rfl | hy
    · cases hc
    · exact ih y hy c hc
  · intro l hl ih
    rw [lines_cr hl]
    intro y hy c hc
    rcases List.mem_cons.1 hy with rfl | hy
    · cases hc
    · exact ih y hy c hc
theorem join_hd (b : UInt8) (sep x : Str) (r : List Str) : Lib.join (hd [b] (x :: r)) sep = b :: Lib.join (x :: r) sep := by
  simp only [hd, Lib.join_cons]
  rfl
theorem join_nl (x : Str) (r : List Str) : Lib.join ([] :: x :: r) [10] = 10 :: Lib.join (x :: r) [10] := by
  simp [Lib.join_cons, Lib.joinTail]
/-- A text without the sign 13 is its lines again. -/
theorem join_lines (s : Str) (h : ∀ b ∈ s, b ≠ 13) : Lib.join (lines s) [10] = s := by
  refine lines_ind (p := fun s => (∀ b ∈ s, b ≠ 13) → Lib.join (lines s) [10] = s) ?_ ?_ ?_ ?_ ?_ _ s (Nat.le_refl _) h
  · intro _; rw [lines_nil, Lib.join_one]
  · intro b l hb ih hh
    rw [lines_norm hb]
    obtain ⟨x, r, e⟩ := lines_ne l
    have := ih (fun c hc => hh c (List.mem_cons_of_mem _ hc))
    rw [e] at this ⊢
    rw [join_hd, this]
  · intro l ih hh
    rw [lines_nl]
    obtain ⟨x, r, e⟩ := lines_ne l
    have := ih (fun c hc => hh c (List.mem_cons_of_mem _ hc))
    rw [e] at this ⊢
    rw [join_nl, this]
  · intro l ih hh; exact absurd rfl (hh 13 (List.mem_cons_self ..))
  · intro l hl ih hh; exact absurd rfl (hh 13 (List.mem_cons_self ..))
/-- A text with another one in the place of each row of signs, from the left. -/
def rep (a : UInt8) (r to : Str) : Str → Str
  | [] => []
  | b :: l => if (a :: r).isPrefixOf (b :: l) = true then to ++ rep a r to (l.drop r.length) else b :: rep a r to l
termination_by s => s.length
decreasing_by all_goals (simp only [List.length_drop, List.length_cons]; omega)
theorem rep_nil (a : UInt8) (r to : Str) : rep a r to [] = [] := by rw [rep]
theorem rep_hit {a b : UInt8} {r to l : Str} (h : (a :: r).isPrefixOf (b :: l) = true) : rep a r to (b :: l) = to ++ rep a r to (l.drop r.length) := by rw [rep, if_pos h]
theorem rep_miss {a b : UInt8} {r to l : Str} (h : (a :: r).isPrefixOf (b :: l) = false) : rep a r to (b :: l) = b :: rep a r to l := by rw [rep, if_neg (by rw [h]; decide)]
theorem rep_row {a : UInt8} {r to l : Str} : rep a r to (a :: r ++ l) = to ++ rep a r to l := by
  rw [List.cons_append, rep_hit (by simp)]
  simp
theorem rep_none {a : UInt8} {r to : Str} : ∀ {s : Str}, (∀ j, j ≤ s.length → Lib.occAt s (a :: r) j = false) → rep a r to s = s
  | [], _ => rep_nil ..
  | b :: l, h => by
    rw [rep_miss (by simpa [Lib.occAt] using h 0 (Nat.zero_le _)), rep_none (s := l) (fun j hj => by simpa [Lib.occAt] using h (j + 1) (by simp; omega))]
theorem rep_first {a : UInt8} {r to : Str} : ∀ {s : Str} {i : Nat}, i ≤ s.length → Lib.occAt s (a :: r) i = true → (∀ j, j < i → Lib.occAt s (a :: r) j = false) → rep a r to s = s.take i ++ to ++ rep a r to (s.drop (i + (a :: r).length))
  | [], i, hi, h, _ => by
    have : i = 0 := by simpa using hi
    subst this
    simp [Lib.occAt] at h
  | b :: l, 0, _, h, _ => by
    rw [rep_hit (by simpa [Lib.occAt] using h)]
    simp
  | b :: l, i + 1, hi, h, hn => by
    rw [rep_miss (by simpa [Lib.occAt] using hn 0 (Nat.succ_pos i))]
    have := rep_first (to := to) (s := l) (i := i) (by simpa using hi) (by simpa [Lib.occAt] using h) (fun j hj => by simpa [Lib.occAt] using hn (j + 1) (by omega))
    rw [this]
    simp only [List.length_cons, show i + 1 + (r.length + 1) = (i + (r.length + 1)) + 1 by omega, List.drop_succ_cons, List.take_succ_cons, List.cons_append]
theorem replaceK_rep {a : UInt8} {r to : Str} : ∀ (k : Nat) (s : Str), s.length ≤ k → Lib.replaceK (a :: r) to (Lib.count s (a :: r)) s = rep a r to s
  | k, s, hk => by
    rcases Lib.index_spec s (a :: r) with ⟨h, hn⟩ | ⟨i, h, hi, ho, hn⟩
    · rw [Lib.count_miss h, rep_none hn]
      rfl
    · have hroom := Lib.occAt_room ho
      simp only [reduceCtorEq, or_false] at hroom
      rw [Lib.count_hit (by simp) h, Nat.add_comm 1, Lib.replaceK_hit _ _ _ _ _ h, rep_first hi ho hn]
      cases k with
      | zero => simp only [List.length_cons] at hroom; omega
      | succ k => rw [replaceK_rep k (s.drop (i + (a :: r).length)) (by simp only [List.length_drop, List.length_cons] at hroom ⊢; omega)]
theorem replaceAll_rep {a : UInt8} {r to : Str} (hne : a :: r ≠ to) (s : Str) : Lib.replaceAll s (a :: r) to = rep a r to s := by
  unfold Lib.replaceAll Lib.replace Lib.replaceNum
  rw [if_neg (by simpa using hne), if_pos (.inl (by omega)), replaceK_rep _ s (Nat.le_refl _)]
theorem rep_len (a : UInt8) (r to : Str) : ∀ (k : Nat) (s : Str), s.length ≤ k → (rep a r to s).length ≤ (to.length + 1) * s.length
  | k, [], _ => by rw [rep_nil]; simp
  | 0, b :: l, hk => by simp at hk
  | k + 1, b :: l, hk => by
    simp only [List.length_cons] at hk
    by_cases h : (a :: r).isPrefixOf (b :: l) = true
    · rw [rep_hit h]
      have := rep_len a r to k (l.drop r.length) (by simp; omega)
      have h2 : (to.length + 1) * (l.drop r.length).length ≤ (to.length + 1) * l.length := Nat.mul_le_mul_left _ (by simp)
      simp only [List.length_append, List.length_cons, Nat.mul_add, Nat.mul_one]
      omega
    · rw [rep_miss (Bool.eq_false_iff.2 h)]
      have := rep_len a r to k l (by omega)
      simp only [List.length_cons, Nat.mul_add, Nat.mul_one]
      omega
end Go.Abs.Q
