import Derived.Test.YtacabmodmbcldaaDoorMD1
/-! Paths and values: two laws. -/
set_option linter.unusedVariables false
set_option linter.unusedSimpArgs false
namespace Go.Abs.T
open M
theorem zero06 : p_cascadelaw06_zero zv = some true := by
  show p_cascadelaw06_zero_0 0 0 [] [] [] = _
  unfold p_cascadelaw06_zero_0 b_cascadelaw06_zero_0
  have : p_cascaderef03_Same (.mk 0 0 [] [] []) (.mk 0 0 [] [] []) = some true := Same_self _ (by simp [cnt, cntL, cntF])
  simp only [this]
theorem refValue_1 (p : List Stp) (hp : p.length ≤ 1000) (o0 o1 : Int) (o2 : Str) (o3 : List Val) (o4 : List Par) : ∀ (m i g : Nat), p.length - i ≤ m → i ≤ p.length →
    p_cascaderef06_Value_1 p (i : Int) o0 o1 o2 o3 o4 4 0 [] g ((p.take i).map valS) [] = some (.mk 4 0 [] (p.map valS) [])
  | m, i, g, hm, hi => by
    rw [u_cascaderef06_Value_1]
    unfold b_cascaderef06_Value_1
    rw [r_len]
    by_cases h : i < p.length
    · have ht : (p.take (i + 1)).map valS = (p.take i).map valS ++ [valS p[i]] := by rw [List.take_add_one, List.getElem?_eq_getElem h, List.map_append]; rfl
      have hl : ((p.take i).map valS).length ≤ 1000 := by simp; omega
      have hrec : ∀ g, m ≠ 0 → p_cascaderef06_Value_1 p ((i : Int) + 1) o0 o1 o2 o3 o4 4 0 [] g ((p.take (i + 1)).map valS) [] = some (.mk 4 0 [] (p.map valS) []) := by
        intro g h0
        cases m with
        | zero => omega
        | succ m =>
          rw [show ((i : Int) + 1) = ((i + 1 : Nat) : Int) by omega]
          exact refValue_1 p hp o0 o1 o2 o3 o4 m (i + 1) g (by omega) (by omega)
      rw [ht] at hrec
      have e3 : ∀ x : Val, valS p[i] = x → ∀ a b s l f, x = .mk a b s l f → p_cascaderef06_Value_3 p (i : Int) o0 o1 o2 o3 o4 4 0 [] g ((p.take i).map valS) [] a b s l f = some (.inl (p, (i : Int) + 1, o0, o1, o2, o3, o4, 4, 0, [], g + 1, (p.take i).map valS ++ [x], [])) := by
        intro x hx a b s l f hx2
        subst hx2
        unfold p_cascaderef06_Value_3 b_cascaderef06_Value_3
        rw [M.r_app (by simp only [List.length_cons, List.length_nil, room]; omega) (by simp only [List.length_cons, List.length_nil, room]; omega)]
        simp only
        rw [r_add (by unfold fit64; omega)]
      rw [lss_t (by omega), r_idx (List.getElem?_eq_getElem h)]
      generalize p[i] = x at *
      obtain ⟨k, a, b⟩ := x
      cases b with
      | false =>
        simp only [e3 _ rfl 3 0 k [] [] rfl]
        exact hrec _ (by omega)
      | true =>
        simp only [e3 _ rfl 2 a [] [] [] rfl]
        exact hrec _ (by omega)
    · rw [lss_f (by omega), List.take_of_length_le (by omega)]
theorem refValue06 (p : List Stp) (hp : p.length ≤ 1000) : p_cascaderef06_Value p = some (.mk 4 0 [] (p.map valS) []) := by
  unfold p_cascaderef06_Value p_cascaderef06_Value_0 b_cascaderef06_Value_0
  have := refValue_1 p hp 0 0 [] [] [] _ 0 0 (Nat.le_refl _) (by omega)
  simpa using this
theorem refSame_2 (p q : List Stp) (hl : p.length = q.length) (hp : p.length ≤ 1000) : ∀ (m i : Nat), p.length - i ≤ m → i ≤ p.length →
    p_cascaderef06_Same_2 p q (i : Int) = some (decide (p.drop i = q.drop i))
  | m, i, hm, hi => by
    rw [u_cascaderef06_Same_2]
    unfold b_cascaderef06_Same_2
    rw [r_len]
    by_cases h : i < p.length
    · have h' : i < q.length := by omega
      rw [lss_t (by omega), r_idx (List.getElem?_eq_getElem h), List.drop_eq_getElem_cons h, List.drop_eq_getElem_cons h']
      have hy : q[i]? = some q[i] := List.getElem?_eq_getElem h'
      generalize p[i] = x at *
      generalize q[i] = y at *
      obtain ⟨k, a, b⟩ := x
      obtain ⟨k', a', b'⟩ := y
      simp only [r_idx hy]
      have e4 : p_cascaderef06_Same_4 p q (i : Int) = some (.inl (p, q, (i : Int) + 1)) := by
        unfold p_cascaderef06_Same_4 b_cascaderef06_Same_4
        rw [r_add (by unfold fit64; omega)]
      have hnext : m ≠ 0 → p_cascaderef06_Same_2 p q ((i : Int) + 1) = some (decide (p.drop (i + 1) = q.drop (i + 1))) := by
        intro h0
        cases m with
        | zero => omega
        | succ m =>
          rw [show ((i : Int) + 1) = ((i + 1 : Nat) : Int) by omega]
          exact refSame_2 p q hl hp m (i + 1) (by omega) (by omega)
      by_cases h1 : k = k'
      · rw [seq_t h1]
        simp only
        by_cases h2 : a = a'
        · rw [eql_t h2]
          simp only
          cases b <;> cases b' <;> simp only
          · simp only [e4, hnext (by omega)]; simp [h1, h2]
          · simp
          · simp
          · simp only [e4, hnext (by omega)]; simp [h1, h2]
        · rw [eql_f h2]
          simp [h2]
      · rw [seq_f h1]
        simp [h1]
    · rw [lss_f (by omega), List.drop_eq_nil_of_le (by omega), List.drop_eq_nil_of_le (by omega)]
      simp
theorem refSame06 (p q : List Stp) (hp : p.length ≤ 1000) : p_cascaderef06_Same p q = some (decide (p = q)) := by
  unfold p_cascaderef06_Same p_cascaderef06_Same_0 b_cascaderef06_Same_0
  rw [r_len, r_len]
  by_cases h : p.length = q.length
  · rw [neq_f (by omega)]
    have := refSame_2 p q h hp _ 0 (Nat.le_refl _) (by omega)
    simpa using this
  · rw [neq_t (by omega), decide_eq_false (fun e => h (by rw [e]))]
/-! ### The path of a value -/
def ofV : Val → Option Stp
  | .mk a b s _ _ => if a = 3 then some ⟨s, 0, false⟩ else if a = 2 ∧ 0 ≤ b then some ⟨[], b, true⟩ else none
def ofS : List Val → Option (List Stp)
  | [] => some []
  | v :: r => match ofV v with
    | none => none
    | some s => match ofS r with
      | none => none
      | some q => some (s :: q)
/-- The outcome, out of the steps. -/
def ofR : Option (List Stp) → List Stp × Int
  | none => ([], 1)
  | some p => if pathR p = true then (p, 0) else ([], 1)
theorem of_2 (l : List Val) (hl : l.length ≤ 1000) : ∀ (m i g : Nat) (acc : List Stp), l.length - i ≤ m → i ≤ l.length → acc.length = i →
    p_path_Of_2 g acc l (l.length : Int) (i : Int) = some (ofR ((ofS (l.drop i)).map (acc ++ ·)))
  | m, i, g, acc, hm, hi, ha => by
    rw [u_path_Of_2]
    unfold b_path_Of_2
    by_cases h : i < l.length
    · rw [lss_t (by omega), r_idx (List.getElem?_eq_getElem h), List.drop_eq_getElem_cons h]
      generalize l[i] = x at *
      obtain ⟨a, b, s, ll, ff⟩ := x
      have hrec : ∀ st : Stp, m ≠ 0 → p_path_Of_2 (g + 1) (acc ++ [st]) l (l.length : Int) ((i : Int) + 1) = some (ofR ((ofS (l.drop (i + 1))).map ((acc ++ [st]) ++ ·))) := by
        intro st h0
        cases m with
        | zero => omega
        | succ m =>
          rw [show ((i : Int) + 1) = ((i + 1 : Nat) : Int) by omega]
          exact of_2 l hl m (i + 1) (g + 1) (acc ++ [st]) (by omega) (by omega) (by simp [ha])
      have e4 : ∀ st : Stp, p_path_Of_4 (g + 1) (acc ++ [st]) l (l.length : Int) (i : Int) = some (.inl (g + 1, acc ++ [st], l, (l.length : Int), (i : Int) + 1)) := by
        intro st
        unfold p_path_Of_4 b_path_Of_4
        rw [r_add (by unfold fit64; omega)]
      have hfin : ∀ st, ofV (.mk a b s ll ff) = some st → (ofS (.mk a b s ll ff :: l.drop (i + 1))).map (acc ++ ·) = (ofS (l.drop (i + 1))).map ((acc ++ [st]) ++ ·) := by
        intro st hst
        simp only [ofS, hst]
        cases ofS (l.drop (i + 1)) <;> simp
      have hbad : ofV (.mk a b s ll ff) = none → ofR ((ofS (.mk a b s ll ff :: l.drop (i + 1))).map (acc ++ ·)) = ([], 1) := by
        intro hst
        simp only [ofS, hst]
        rfl
      by_cases h3 : a = 3
      · simp only
        rw [eql_t h3]
        have ek : p_path_Key s = some ⟨s, 0, false⟩ := rfl
        simp only [ek]
        rw [M.r_app (by simp only [List.length_cons, List.length_nil, room]; omega) (by simp only [List.length_cons, List.length_nil, room]; omega)]
        simp only [e4]
        rw [hrec _ (by omega), hfin ⟨s, 0, false⟩ (by simp [ofV, h3])]
      · simp only
        rw [eql_f h3]
        simp only
        by_cases h2 : a = 2
        · rw [eql_t h2]
          simp only
          by_cases hb : 0 ≤ b
          · rw [geq_t hb]
            have ek : p_path_Place b = some ⟨[], b, true⟩ := rfl
            simp only [ek]
            rw [M.r_app (by simp only [List.length_cons, List.length_nil, room]; omega) (by simp only [List.length_cons, List.length_nil, room]; omega)]
            simp only [e4]
            rw [hrec _ (by omega), hfin ⟨[], b, true⟩ (by simp [ofV, h2, hb])]
          · rw [geq_f (by omega)]
            rw [hbad (by simp [ofV, h2, hb])]
        · rw [eql_f h2]
          rw [hbad (by simp [ofV, h2, h3])]
    · rw [lss_f (by omega), List.drop_eq_nil_of_le (by omega)]
      simp only [Right1 g acc (by omega), ofS, Option.map_some, List.append_nil, ofR]
      cases pathR acc <;> simp
theorem Of06 (a b : Int) (s : Str) (l : List Val) (f : List Par) (hc : cnt (.mk a b s l f) ≤ 200) (hs : strs (.mk a b s l f) = true) :
    p_path_Of (.mk a b s l f) = some (if rR 12 (.mk a b s l f) = true ∧ a = 4 then ofR (ofS l) else ([], 1)) := by
  have hlen : l.length ≤ 1000 := by have := cntL_len l; simp only [cnt] at hc; omega
  show p_path_Of_0 a b s l f = _
  unfold p_path_Of_0 b_path_Of_0
  simp only [tree_Right _ hc hs]
  cases hr : rR 12 (.mk a b s l f) with
  | false => simp
  | true =>
    simp only
    by_cases h4 : a = 4
    · rw [neq_f h4, r_len]
      have := of_2 l hlen _ 0 0 [] (Nat.le_refl _) (by omega) rfl
      simp only [List.drop_zero] at this
      have e : (ofS l).map (([] : List Stp) ++ ·) = ofS l := by cases ofS l <;> simp
      rw [e] at this
      simp only [h4, and_self, if_true]
      exact this
    · rw [neq_t h4]
      simp [h4]
/-- The reference's steps: with all that stands in a value. -/
def refV : Val → Option Stp
  | .mk a b s _ _ => if (a = 2 ∨ a = 3) ∧ 0 ≤ b then some ⟨s, b, decide (a = 2)⟩ else none
def refS : List Val → Option (List Stp)
  | [] => some []
  | v :: r => match refV v with
    | none => none
    | some s => match refS r with
      | none => none
      | some q => some (s :: q)
theorem refOf_1 (A B : Int) (S : Str) (l : List Val) (F : List Par) (hc : cnt (.mk A B S l F) ≤ 200) (hs : strs (.mk A B S l F) = true) : ∀ (m i g : Nat) (acc : List Stp), l.length - i ≤ m → i ≤ l.length → acc.length = i → (∀ s ∈ acc, s.key.length ≤ 500) →
    p_cascaderef06_Of_1 A B S l F g acc (i : Int) = some (match refS (l.drop i) with
      | none => ([], false)
      | some q => if A = 4 ∧ rR 12 (.mk A B S l F) = true ∧ pathR (acc ++ q) = true then (acc ++ q, true) else ([], false))
  | m, i, g, acc, hm, hi, ha, hk => by
    have hlen : l.length ≤ 1000 := by have := cntL_len l; simp only [cnt] at hc; omega
    have hsl : strsL l = true := by simp only [strs, Bool.and_eq_true] at hs; exact hs.1.2
    rw [u_cascaderef06_Of_1]
    unfold b_cascaderef06_Of_1
    rw [r_len]
    by_cases h : i < l.length
    · rw [lss_t (by omega), r_idx (List.getElem?_eq_getElem h), List.drop_eq_getElem_cons h]
      have hsx := strsL_mem hsl (List.getElem_mem h)
      generalize l[i] = x at *
      obtain ⟨a, b, s, ll, ff⟩ := x
      have hsk : s.length ≤ 500 := by simp only [strs, Bool.and_eq_true, decide_eq_true_eq] at hsx; exact hsx.1.1
      have hrec : ∀ st : Stp, st.key.length ≤ 500 → m ≠ 0 → p_cascaderef06_Of_1 A B S l F (g + 1) (acc ++ [st]) ((i : Int) + 1) = some (match refS (l.drop (i + 1)) with
          | none => ([], false)
          | some q => if A = 4 ∧ rR 12 (.mk A B S l F) = true ∧ pathR ((acc ++ [st]) ++ q) = true then ((acc ++ [st]) ++ q, true) else ([], false)) := by
        intro st hst h0
        cases m with
        | zero => omega
        | succ m =>
          rw [show ((i : Int) + 1) = ((i + 1 : Nat) : Int) by omega]
          exact refOf_1 A B S l F hc hs m (i + 1) (g + 1) (acc ++ [st]) (by omega) (by omega) (by simp [ha]) (fun s hs => by
            rcases List.mem_append.1 hs with h | h
            · exact hk s h
            · rw [List.mem_singleton] at h; subst h; exact hst)
      have e3 : p_cascaderef06_Of_3 A B S l F g acc (i : Int) a b s ll ff = some (.inl (A, B, S, l, F, g + 1, acc ++ [⟨s, b, decide (a = 2)⟩], (i : Int) + 1)) := by
        unfold p_cascaderef06_Of_3 b_cascaderef06_Of_3
        rw [M.r_app (by simp only [List.length_cons, List.length_nil, room]; omega) (by simp only [List.length_cons, List.length_nil, room]; omega)]
        simp only
        rw [r_add (by unfold fit64; omega), r_eql]
        rfl
      have hgood : (a = 2 ∨ a = 3) → 0 ≤ b → (match refS (.mk a b s ll ff :: l.drop (i + 1)) with
          | none => ([], false)
          | some q => if A = 4 ∧ rR 12 (.mk A B S l F) = true ∧ pathR (acc ++ q) = true then (acc ++ q, true) else (([] : List Stp), false)) = (match refS (l.drop (i + 1)) with
          | none => ([], false)
          | some q => if A = 4 ∧ rR 12 (.mk A B S l F) = true ∧ pathR ((acc ++ [⟨s, b, decide (a = 2)⟩]) ++ q) = true then ((acc ++ [⟨s, b, decide (a = 2)⟩]) ++ q, true) else ([], false)) := by
        intro h1 h2
        have : refV (.mk a b s ll ff) = some ⟨s, b, decide (a = 2)⟩ := by simp only [refV]; rw [if_pos ⟨h1, h2⟩]
        simp only [refS, this]
        cases refS (l.drop (i + 1)) with
        | none => rfl
        | some q => simp only [List.append_assoc, List.singleton_append]
      have hbad : ¬ ((a = 2 ∨ a = 3) ∧ 0 ≤ b) → (match refS (.mk a b s ll ff :: l.drop (i + 1)) with
          | none => ([], false)
          | some q => if A = 4 ∧ rR 12 (.mk A B S l F) = true ∧ pathR (acc ++ q) = true then (acc ++ q, true) else (([] : List Stp), false)) = ([], false) := by
        intro h1
        have : refV (.mk a b s ll ff) = none := by simp only [refV]; rw [if_neg h1]
        simp only [refS, this]
      by_cases h2 : a = 2
      · simp only
        rw [neq_f h2]
        simp only
        by_cases hb : b < 0
        · rw [lss_t hb]
          simp only
          rw [hbad (by omega)]
        · rw [lss_f (by omega)]
          simp only [e3]
          rw [hrec _ hsk (by omega), hgood (.inl h2) (by omega)]
      · simp only
        rw [neq_t h2]
        simp only
        by_cases h3 : a = 3
        · rw [neq_f h3]
          simp only
          by_cases hb : b < 0
          · rw [lss_t hb]
            simp only
            rw [hbad (by omega)]
          · rw [lss_f (by omega)]
            simp only [e3]
            rw [hrec _ hsk (by omega), hgood (.inr h3) (by omega)]
        · rw [neq_t h3]
          simp only
          rw [hbad (by omega)]
    · rw [lss_f (by omega), List.drop_eq_nil_of_le (by omega)]
      simp only [refS, List.append_nil]
      by_cases h4 : A = 4
      · rw [neq_f h4]
        simp only [refRight _ hc hs]
        cases hr : rR 12 (.mk A B S l F) with
        | false => simp
        | true =>
          simp only [refRight1 g acc hk]
          cases hp : pathR acc <;> simp [h4]
      · rw [neq_t h4]
        simp [h4]
theorem refOf06 (A B : Int) (S : Str) (l : List Val) (F : List Par) (hc : cnt (.mk A B S l F) ≤ 200) (hs : strs (.mk A B S l F) = true) :
    p_cascaderef06_Of (.mk A B S l F) = some (match refS l with
      | none => ([], false)
      | some q => if A = 4 ∧ rR 12 (.mk A B S l F) = true ∧ pathR q = true then (q, true) else ([], false)) := by
  show p_cascaderef06_Of_0 A B S l F = _
  unfold p_cascaderef06_Of_0 b_cascaderef06_Of_0
  have := refOf_1 A B S l F hc hs _ 0 0 [] (Nat.le_refl _) (by omega) rfl (fun s hs => by cases hs)
  simpa using this
theorem of_ref : ∀ l : List Val, (∀ v ∈ l, rR 11 v = true) → ofS l = refS l
  | [], _ => rfl
  | .mk a b s ll ff :: r, h => by
    have h1 := h _ List.mem_cons_self
    simp only [rR, headOk, Bool.and_eq_true, decide_eq_true_eq] at h1
    have hh := h1.1.1.1.1
    have e : ofV (.mk a b s ll ff) = refV (.mk a b s ll ff) := by
      simp only [ofV, refV]
      by_cases h3 : a = 3
      · have : b = 0 := by omega
        simp [h3, this]
      · by_cases h2 : a = 2
        · have hs : s = [] := by rcases hh.2.2.1 with h | h; exact absurd h h3; exact h
          subst hs
          simp [h2]
        · simp [h2, h3]
    simp only [ofS, refS, e, of_ref r fun v hv => h v (List.mem_cons_of_mem _ hv)]
theorem right_el {a b : Int} {s : Str} {l : List Val} {f : List Par} (h : rR 12 (.mk a b s l f) = true) : ∀ v ∈ l, rR 11 v = true := by
  simp only [rR, Bool.and_eq_true] at h
  exact List.all_eq_true.1 h.1.1.2
theorem PathOf (v : Val) : p_cascadelaw06_PathOf v = some true := by
  obtain ⟨a, b, s, l, f⟩ := v
  show p_cascadelaw06_PathOf_0 a b s l f = _
  unfold p_cascadelaw06_PathOf_0 b_cascadelaw06_PathOf_0
  simp only [awake06]
  rcases Few (.mk a b s l f) 60 (by omega) with h | ⟨h1, h2, h3⟩
  · rw [show ((60 : Nat) : Int) = 60 from rfl] at h
    simp only [h]
  rw [show ((60 : Nat) : Int) = 60 from rfl] at h1
  have hc : cnt (.mk a b s l f) ≤ 200 := by omega
  have hlen : l.length ≤ 1000 := by have := cntL_len l; simp only [cnt] at hc; omega
  simp only [h1, Of06 a b s l f hc h3, refOf06 a b s l f hc h3]
  by_cases c : rR 12 (.mk a b s l f) = true ∧ a = 4
  · rw [if_pos c, ← of_ref l (right_el c.1)]
    obtain ⟨c1, c2⟩ := c
    subst c2
    cases ho : ofS l with
    | none =>
      simp only [ofR]
      rw [eql_f (by omega), eql_t rfl]
      simp only [refSame06 [] [] (by simp)]
      simp
    | some q =>
      simp only [ofR, c1, true_and]
      cases hp : pathR q with
      | false =>
        simp only [Bool.false_eq_true, if_false]
        rw [eql_f (by omega), eql_t rfl]
        simp only [refSame06 [] [] (by simp)]
        simp
      | true =>
        simp only [if_true]
        rw [eql_t rfl, eql_f (by omega)]
        have hq : q.length ≤ 1000 := by
          rcases Nat.lt_or_ge 30 q.length with g | g
          · rw [pathR_long g] at hp; cases hp
          · omega
        simp only [refSame06 q q hq, decide_true]
  · rw [if_neg c]
    have e : (match refS l with
      | none => (([] : List Stp), false)
      | some q => if a = 4 ∧ rR 12 (.mk a b s l f) = true ∧ pathR q = true then (q, true) else ([], false)) = ([], false) := by
      cases refS l with
      | none => rfl
      | some q =>
        simp only
        rw [if_neg]
        rintro ⟨k1, k2, k3⟩
        exact c ⟨k2, k1⟩
    rw [e]
    simp only
    rw [eql_f (by omega), eql_t rfl]
    simp only [refSame06 [] [] (by simp)]
    simp
theorem of_val : ∀ p : List Stp, (∀ s ∈ p, stepR s = true) → ofS (p.map valS) = some p
  | [], _ => rfl
  | ⟨k, a, b⟩ :: r, h => by
    have h1 := h _ List.mem_cons_self
    have e : ofV (valS ⟨k, a, b⟩) = some ⟨k, a, b⟩ := by
      cases b with
      | false =>
        simp only [stepR, Bool.false_eq_true, if_false, Bool.and_eq_true, decide_eq_true_eq] at h1
        simp [valS, ofV, h1.1]
      | true =>
        simp only [stepR, if_true, decide_eq_true_eq] at h1
        simp [valS, ofV, h1.1, h1.2.1]
    simp only [List.map_cons, ofS, e, of_val r fun s hs => h s (List.mem_cons_of_mem _ hs)]
theorem val_right (s : Stp) (h : stepR s = true) : rR 11 (valS s) = true := by
  obtain ⟨k, a, b⟩ := s
  cases b with
  | false =>
    simp only [stepR, Bool.false_eq_true, if_false, Bool.and_eq_true, decide_eq_true_eq] at h
    simp [valS, rR, headOk, keysS, h.2]
  | true =>
    simp only [stepR, if_true, decide_eq_true_eq] at h
    obtain ⟨h1, h2, h3⟩ := h
    have h4 : -9007199254740991 ≤ a := by omega
    simp [valS, rR, headOk, keysS, isT_nil, h3, h4]
theorem cnt_vals : ∀ p : List Stp, cntL (p.map valS) = p.length
  | [] => rfl
  | s :: r => by
    have : cnt (valS s) = 1 := by unfold valS; split <;> simp [cnt, cntL, cntF]
    simp only [List.map_cons, cntL, this, cnt_vals r, List.length_cons]; omega
theorem strs_vals : ∀ p : List Stp, (∀ s ∈ p, s.key.length ≤ 200) → strsL (p.map valS) = true
  | [], _ => rfl
  | s :: r, h => by
    have h1 := h _ List.mem_cons_self
    have : strs (valS s) = true := by
      unfold valS
      split
      · simp [strs, strsL, strsF]
      · simp only [strs, strsL, strsF, Bool.and_true, decide_eq_true_eq]; omega
    simp only [List.map_cons, strsL, this, Bool.true_and]
    exact strs_vals r fun s hs => h s (List.mem_cons_of_mem _ hs)
theorem PathRight (p : List Stp) : p_cascadelaw06_PathRight p = some true := by
  unfold p_cascadelaw06_PathRight p_cascadelaw06_PathRight_0 b_cascadelaw06_PathRight_0
  simp only [awake06]
  rcases few06 p with h | ⟨h1, h2, h3⟩
  · simp only [h]
  simp only [h1, refRight06 p (fun s hs => by have := h3 s hs; omega), Value06 p (by omega), Right06 p (by omega)]
  cases hr : pathR p with
  | false =>
    simp only [Bool.false_eq_true, if_false]
    unfold p_cascadelaw06_PathRight_2 b_cascadelaw06_PathRight_2
    simp only
    rw [eql_t rfl]
    have := zero06
    simp only [this]
  | true =>
    simp only [if_true]
    unfold p_cascadelaw06_PathRight_2 b_cascadelaw06_PathRight_2
    simp only
    have hall : ∀ s ∈ p, stepR s = true := by
      unfold pathR at hr
      rw [Bool.and_eq_true] at hr
      exact List.all_eq_true.1 hr.2
    have hc : cnt (.mk 4 0 [] (p.map valS) []) ≤ 200 := by simp only [cnt, cnt_vals, cntF]; omega
    have hs : strs (.mk 4 0 [] (p.map valS) []) = true := by simp [strs, strs_vals p h3, strsF]
    have hrr : rR 12 (.mk 4 0 [] (p.map valS) []) = true := by
      have : (p.map valS).all (rR 11) = true := by
        rw [List.all_eq_true]
        intro v hv
        obtain ⟨s, hs, rfl⟩ := List.mem_map.1 hv
        exact val_right s (hall s hs)
      simp [rR, headOk, keysS, isT_nil] at this ⊢
      exact this
    simp only [Of06 4 0 [] _ [] hc hs, hrr, of_val p hall, ofR, hr, true_and, if_true]
    rw [eql_t rfl]
    simp only [refValue06 p (by omega), Same_self _ hc]
    simp only [refSame06 p p (by omega), decide_true]
end Go.Abs.T
