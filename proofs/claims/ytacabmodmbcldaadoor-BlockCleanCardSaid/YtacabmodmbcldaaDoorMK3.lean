import Derived.Test.YtacabmodmbcldaaDoorMK2
/-! Blanks ahead of each line. -/
set_option linter.unusedVariables false
namespace Go.Abs.Q
/-- A text with something behind each break of lines. -/
def ins (by_ : Str) : Str → Str
  | [] => []
  | b :: l => if b = 10 ∨ (b = 13 ∧ l[0]? ≠ some 10) then b :: (by_ ++ ins by_ l) else b :: ins by_ l
theorem ins_head (p : Str) (l : Str) : (ins p l)[0]? = l[0]? := by
  cases l with
  | nil => rfl
  | cons b l => unfold ins; split <;> rfl
theorem ins_q (p : Str) (n : Nat) : ∀ l : Str, (List.replicate n (34 : UInt8)).isPrefixOf (ins p l) = (List.replicate n (34 : UInt8)).isPrefixOf l := by
  induction n with
  | zero => intro l; rfl
  | succ n ih =>
    intro l
    cases l with
    | nil => rfl
    | cons b l =>
      unfold ins
      rw [List.replicate_succ]
      split
      · rename_i c
        have hb : ((34 : UInt8) == b) = false := by
          rcases c with rfl | ⟨rfl, _⟩ <;> decide
        rw [List.isPrefixOf_cons_cons, List.isPrefixOf_cons_cons, hb, Bool.false_and, Bool.false_and]
      · rw [List.isPrefixOf_cons_cons, List.isPrefixOf_cons_cons, ih]
theorem unq_head (l : Str) : (unq l)[0]? = some 10 ↔ l[0]? = some 10 := by
  cases l with
  | nil => unfold unq; rw [rep_nil]
  | cons b l =>
    unfold unq
    cases hp : ([92, 34, 34, 34] : Str).isPrefixOf (b :: l) with
    | true =>
      rw [rep_hit hp]
      have : 92 = b := by
        rw [List.isPrefixOf_cons_cons, Bool.and_eq_true, beq_iff_eq] at hp
        exact hp.1
      subst this
      simp
    | false => rw [rep_miss hp]; rfl
theorem rep_skip {a : UInt8} {r to : Str} : ∀ (p : Str), (∀ b ∈ p, b ≠ a) → ∀ s, rep a r to (p ++ s) = p ++ rep a r to s
  | [], _, s => rfl
  | b :: p, h, s => by
    have hb : (a == b) = false := by
      rw [beq_eq_false_iff_ne]
      exact fun c => h b (List.mem_cons_self ..) c.symm
    rw [List.cons_append, rep_miss (by rw [List.isPrefixOf_cons_cons, hb, Bool.false_and]), rep_skip p (fun c hc => h c (List.mem_cons_of_mem _ hc)) s]
    rfl
theorem unq_ins (p : Str) (hp : ∀ b ∈ p, b = 32) : ∀ (k : Nat) (s : Str), s.length ≤ k → unq (ins p s) = ins p (unq s)
  | k, [], _ => by unfold unq; rw [rep_nil]; unfold ins; rw [rep_nil]
  | 0, b :: l, hk => by simp at hk
  | k + 1, b :: l, hk => by
    simp only [List.length_cons] at hk
    cases hc : ([92, 34, 34, 34] : Str).isPrefixOf (b :: l) with
    | true =>
      obtain ⟨t, ht⟩ := List.isPrefixOf_iff_prefix.1 hc
      simp only [List.cons_append, List.nil_append, List.cons.injEq] at ht
      obtain ⟨rfl, rfl⟩ := ht
      have e : unq (92 :: 34 :: 34 :: 34 :: t) = [34, 34, 34] ++ unq t := rep_row (a := 92) (r := [34, 34, 34])
      have e2 : ∀ x, unq (92 :: 34 :: 34 :: 34 :: x) = [34, 34, 34] ++ unq x := fun x => rep_row (a := 92) (r := [34, 34, 34])
      have e3 : ins p (92 :: 34 :: 34 :: 34 :: t) = 92 :: 34 :: 34 :: 34 :: ins p t := by simp [ins]
      have e4 : ∀ x, ins p (34 :: 34 :: 34 :: x) = 34 :: 34 :: 34 :: ins p x := fun x => by simp [ins]
      rw [e3, e2, e, unq_ins p hp k t (by simp at hk; omega)]
      exact (e4 _).symm
    | false =>
      have e : unq (b :: l) = b :: unq l := by unfold unq; rw [rep_miss hc]
      have ih := unq_ins p hp k l (by omega)
      have hpb : ∀ x, unq (p ++ x) = p ++ unq x := fun x => by
        unfold unq
        exact rep_skip p (fun c hc => by rw [hp c hc]; decide) x
      rw [e]
      by_cases c : b = 10 ∨ (b = 13 ∧ l[0]? ≠ some 10)
      · have c2 : b = 10 ∨ (b = 13 ∧ (unq l)[0]? ≠ some 10) := by
          rcases c with c | ⟨c, c3⟩
          · exact .inl c
          · exact .inr ⟨c, fun h => c3 ((unq_head l).1 h)⟩
        rw [ins, if_pos c, ins, if_pos c2, ← ih, ← hpb]
        have hb : ((92 : UInt8) == b) = false := by
          rcases c with rfl | ⟨rfl, _⟩ <;> decide
        unfold unq
        rw [rep_miss (by rw [List.isPrefixOf_cons_cons, hb, Bool.false_and])]
      · have c2 : ¬ (b = 10 ∨ (b = 13 ∧ (unq l)[0]? ≠ some 10)) := by
          intro h
          apply c
          rcases h with h | ⟨h, h3⟩
          · exact .inl h
          · exact .inr ⟨h, fun h4 => h3 ((unq_head l).2 h4)⟩
        rw [ins, if_neg c, ins, if_neg c2, ← ih]
        have hm : ([92, 34, 34, 34] : Str).isPrefixOf (b :: ins p l) = false := by
          rw [List.isPrefixOf_cons_cons] at hc ⊢
          have := ins_q p 3 l
          rw [show List.replicate 3 (34 : UInt8) = [34, 34, 34] from rfl] at this
          rw [this]; exact hc
        unfold unq
        rw [rep_miss hm]
theorem lines_app (p : Str) (hp : ∀ b ∈ p, b = 32) (s : Str) : lines (p ++ s) = hd p (lines s) := by
  induction p with
  | nil =>
    obtain ⟨x, r, e⟩ := lines_ne s
    rw [List.nil_append, e]; rfl
  | cons b p ih =>
    have hb := hp b (List.mem_cons_self ..)
    subst hb
    rw [List.cons_append, lines_norm (by decide), ih (fun c hc => hp c (List.mem_cons_of_mem _ hc))]
    obtain ⟨x, r, e⟩ := lines_ne s
    rw [e]; rfl
def tailMap (p : Str) : List Str → List Str
  | [] => []
  | x :: r => x :: r.map (p ++ ·)
theorem lines_ins (p : Str) (hp : ∀ b ∈ p, b = 32) (s : Str) : lines (ins p s) = tailMap p (lines s) := by
  have hh : ∀ l, hd p (tailMap p (lines l)) = (lines l).map (p ++ ·) := fun l => by
    obtain ⟨x, r, e⟩ := lines_ne l
    rw [e]; rfl
  refine lines_ind (p := fun s => lines (ins p s) = tailMap p (lines s)) ?_ ?_ ?_ ?_ ?_ _ s (Nat.le_refl _)
  · unfold ins; rw [lines_nil]; rfl
  · intro b l hb ih
    rw [ins, if_neg (fun c => hb (c.imp_right And.left)), lines_norm hb, lines_norm hb, ih]
    obtain ⟨x, r, e⟩ := lines_ne l
    rw [e]; rfl
  · intro l ih
    rw [ins, if_pos (.inl rfl), lines_nl, lines_nl, lines_app p hp, ih, hh]; rfl
  · intro l ih
    rw [ins, if_neg (by simp), ins, if_pos (.inl rfl), lines_crlf, lines_crlf, lines_app p hp, ih, hh]; rfl
  · intro l hl ih
    rw [ins, if_pos (.inr ⟨rfl, hl⟩), lines_cr hl, lines_cr, lines_app p hp, ih, hh]
    · rfl
    · cases p with
      | nil => rw [List.nil_append, ins_head]; exact hl
      | cons c p => have := hp c (List.mem_cons_self ..); subst this; simp
theorem fst_app (p : Str) (hp : ∀ b ∈ p, b = 32) (x : Str) : fst (p ++ x) = p.length + fst x := by
  unfold fst
  rw [List.takeWhile_append_of_pos (by intro b hb; rw [hp b hb]; rfl)]
  simp
theorem blank_app (p : Str) (hp : ∀ b ∈ p, b = 32) (x : Str) : blank (p ++ x) = blank x := by
  have h1 := blank_iff (p ++ x)
  have h2 := blank_iff x
  rw [fst_app p hp, List.length_append] at h1
  rw [Bool.eq_iff_iff, h1, h2]
  omega
theorem indF_app (p : Str) (hp : ∀ b ∈ p, b = 32) : ∀ (l : List Str) (a : Option Nat), indF (a.map (p.length + ·)) (l.map (p ++ ·)) = (indF a l).map (p.length + ·)
  | [], a => rfl
  | x :: r, a => by
    rw [List.map_cons, indF, indF, ← indF_app p hp r]
    congr 1
    unfold indS
    rw [blank_app p hp, fst_app p hp]
    cases blank x with
    | true => rfl
    | false =>
      cases a with
      | none => rfl
      | some n =>
        simp only [Option.map_some, Bool.false_eq_true, if_false]
        by_cases c : fst x < n
        · rw [if_pos c, if_pos (by omega)]
        · rw [if_neg c, if_neg (by omega)]
theorem indF_some : ∀ (l : List Str) (n : Nat), ∃ m, indF (some n) l = some m
  | [], n => ⟨n, rfl⟩
  | x :: r, n => by
    unfold indF indS
    split <;> exact indF_some r _
theorem indF_none : ∀ (l : List Str), indF none l = none → l.all blank = true
  | [], _ => rfl
  | x :: r, h => by
    unfold indF indS at h
    cases hx : blank x with
    | true =>
      rw [hx, if_pos rfl] at h
      rw [List.all_cons, hx, indF_none r h]; rfl
    | false =>
      rw [hx] at h
      simp only [Bool.false_eq_true, if_false] at h
      obtain ⟨m, hm⟩ := indF_some r (fst x)
      rw [hm] at h; cases h
/-- Of lines, the first one empty: a value hangs not on how many blanks more there are. -/
theorem valL_more (p : Str) (hp : ∀ b ∈ p, b = 32) (l : List Str) : valL ([] :: l.map (p ++ ·)) = valL ([] :: l) := by
  have hI := indF_app p hp l none
  rw [Option.map_none] at hI
  unfold valL ind
  rw [List.drop_succ_cons, List.drop_zero, List.drop_succ_cons, List.drop_zero, hI]
  cases h : indF none l with
  | none =>
    have ha := indF_none l h
    have e1 : core (cut 0 ([] :: l.map (p ++ ·))) = [] := by
      rw [cut_zero]
      unfold core
      rw [trimE_none]
      rw [List.all_cons, List.all_map]
      simp only [show blank [] = true from rfl, Bool.true_and]
      rw [List.all_eq_true] at ha ⊢
      intro x hx
      show blank (p ++ x) = true
      rw [blank_app p hp]; exact ha x hx
    have e2 : core (cut 0 ([] :: l)) = [] := by
      rw [cut_zero]
      unfold core
      rw [trimE_none]
      rw [List.all_cons, ha]; rfl
    show Lib.join (core (cut 0 _)) _ = Lib.join (core (cut 0 _)) _
    rw [e1, e2]
  | some n =>
    show Lib.join (core ([] :: (l.map (p ++ ·)).map (List.drop (p.length + n)))) [10] = Lib.join (core ([] :: l.map (List.drop n))) [10]
    rw [List.map_map]
    have : ((List.drop (p.length + n)) ∘ (p ++ ·) : Str → Str) = List.drop n := by
      funext x
      show List.drop (p.length + n) (p ++ x) = _
      rw [List.drop_append, List.drop_eq_nil_of_le (by omega)]
      simp
    rw [this]
theorem val_more (p : Str) (hp : ∀ b ∈ p, b = 32) (s : Str) : val (10 :: (p ++ ins p s)) = val (10 :: s) := by
  unfold val
  have hpb : ∀ x, unq (p ++ x) = p ++ unq x := fun x => by
    unfold unq
    exact rep_skip p (fun c hc => by rw [hp c hc]; decide) x
  rw [unq_nl, unq_nl, hpb, unq_ins p hp _ s (Nat.le_refl _), lines_nl, lines_nl, lines_app p hp, lines_ins p hp]
  obtain ⟨x, r, e⟩ := lines_ne (unq s)
  rw [e]
  exact valL_more p hp (x :: r)
theorem join_last (sep : Str) : ∀ (l : List Str) (y : Str), ∃ q, Lib.join (l ++ [y]) sep = q ++ y
  | [], y => ⟨[], by rw [List.nil_append, Lib.join_one]; rfl⟩
  | x :: l, y => ⟨x ++ Lib.joinTail sep l ++ sep, by
    rw [List.cons_append, Lib.join_cons]
    simp [Lib.joinTail]⟩
theorem trimE_last : ∀ (l : List Str), trimE l ≠ [] → ∃ q y, trimE l = q ++ [y] ∧ blank y = false ∧ ∀ x ∈ trimE l, x ∈ l
  | [], h => absurd rfl h
  | x :: r, h => by
    by_cases c : trimE r = []
    · cases hx : blank x with
      | true => exact absurd (by rw [trimE, if_pos ⟨c, hx⟩]) h
      | false =>
        have e : trimE (x :: r) = [x] := by rw [trimE, if_neg (by rw [hx]; simp), c]
        exact ⟨[], x, e, hx, by rw [e]; simp⟩
    · obtain ⟨q, y, e, hy, hm⟩ := trimE_last r c
      have e2 : trimE (x :: r) = x :: trimE r := by rw [trimE, if_neg (fun h => c h.1)]
      refine ⟨x :: q, y, by rw [e2, e]; rfl, hy, fun z hz => ?_⟩
      rw [e2] at hz
      rcases List.mem_cons.1 hz with rfl | hz
      · exact List.mem_cons_self ..
      · exact List.mem_cons_of_mem _ (hm z hz)
/-- A value that isn't empty neither begins nor ends with a break. -/
theorem val_clean (s : Str) (h : val s ≠ []) : (∃ b t, val s = b :: t ∧ ¬ isBrk b) ∧ (∃ q b, val s = q ++ [b] ∧ ¬ isBrk b) := by
  unfold val at h ⊢
  generalize hL : cut (ind (lines (unq s))) (lines (unq s)) = L
  unfold valL at h ⊢
  rw [hL] at h ⊢
  have hcl : ∀ x ∈ L, ∀ b ∈ x, ¬ isBrk b := by
    have h0 := lines_clean (unq s)
    subst hL
    cases hl : lines (unq s) with
    | nil => intro x hx; cases hx
    | cons y r =>
      rw [hl] at h0
      intro x hx b hb
      rcases List.mem_cons.1 hx with rfl | hx
      · exact h0 x (List.mem_cons_self ..) b hb
      · obtain ⟨z, hz, rfl⟩ := List.mem_map.1 hx
        exact h0 z (List.mem_cons_of_mem _ hz) b (List.mem_of_mem_drop hb)
  have hne : core L ≠ [] := fun c => h (by rw [c]; rfl)
  unfold core at hne h ⊢
  obtain ⟨q, y, e, hy, hm⟩ := trimE_last _ hne
  have hcl2 : ∀ x ∈ trimE (L.dropWhile blank), ∀ b ∈ x, ¬ isBrk b := fun x hx => hcl x ((List.dropWhile_sublist blank).subset (hm x hx))
  have nb : ∀ x : Str, blank x = false → x ≠ [] := fun x hx c => by subst c; cases hx
  constructor
  · cases hd : L.dropWhile blank with
    | nil => rw [hd] at hne; exact absurd rfl hne
    | cons x r =>
      have hx := drop_head L hd
      have e2 : trimE (x :: r) = x :: trimE r := by rw [trimE, if_neg (by rw [hx]; simp)]
      rw [e2, Lib.join_cons]
      cases hxx : x with
      | nil => exact absurd hxx (nb x hx)
      | cons b t =>
        refine ⟨b, t ++ Lib.joinTail [10] (trimE r), rfl, ?_⟩
        refine hcl2 x ?_ b (by rw [hxx]; exact List.mem_cons_self ..)
        rw [hd, e2]; exact List.mem_cons_self ..
  · obtain ⟨q2, e2⟩ := join_last [10] q y
    have hyn := nb y hy
    refine ⟨q2 ++ y.dropLast, y.getLast hyn, ?_, hcl2 y (by rw [e]; simp) _ (List.getLast_mem hyn)⟩
    rw [e, e2, List.append_assoc, List.dropLast_concat_getLast hyn]
end Go.Abs.Q
