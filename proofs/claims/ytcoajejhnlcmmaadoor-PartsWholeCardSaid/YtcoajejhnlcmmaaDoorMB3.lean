import Derived.Test.YtcoajejhnlcmmaaDoorMB2
/-! What is read of parts, and of parts of which one byte was turned. -/
set_option linter.unusedVariables false
set_option linter.unusedSimpArgs false
namespace Go.Abs.B
open M
theorem common_full : ∀ (w r : Str), common (w ++ r) w = w.length
  | [], r => by cases r <;> rfl
  | a :: w, r => by simp [common, common_full w r]
theorem common_bad : ∀ (u : Str) {c d : UInt8} {r r' : Str}, c ≠ d → common (u ++ c :: r) (u ++ d :: r') = u.length
  | [], c, d, r, r', h => by simp [common, h]
  | a :: u, c, d, r, r', h => by simp [common, common_bad u h]
theorem textS_ok {s w r : Str} {p : Nat} (h : s.drop p = w ++ r) : textS s w p 0 = (p + w.length, 0) := by
  unfold textS
  rw [h, common_full]; simp
theorem textS_bad {s w u r r' : Str} {c d : UInt8} {p : Nat} (h : s.drop p = u ++ c :: r) (hw : w = u ++ d :: r') (hc : c ≠ d) : textS s w p 0 = (p + u.length, 2) := by
  have hl := congrArg List.length h
  subst hw
  unfold textS
  rw [h, common_bad u hc]
  simp only [List.length_drop, List.length_append, List.length_cons] at hl ⊢
  simp
  omega
theorem textS_off {s w : Str} {p : Nat} {x : Int} (h : x ≠ 0) : textS s w p x = (p, x) := by unfold textS; rw [if_neg h]
theorem numS_off {s : Str} {p : Nat} {x : Int} (h : x ≠ 0) : numS s p x = (0, p, x) := by unfold numS; rw [if_neg h]
theorem takeS_off {s : Str} {n p : Nat} {x : Int} (h : x ≠ 0) : takeS s n p x = ([], p, x) := by unfold takeS; rw [if_neg h]
theorem drop_more {s w r : Str} {p : Nat} (h : s.drop p = w ++ r) : s.drop (p + w.length) = r := by
  rw [← List.drop_drop, h, List.drop_left]
theorem takeS_ok {s b r : Str} {p : Nat} (h : s.drop p = b ++ r) (hp : p ≤ s.length) : takeS s b.length p 0 = (b, p + b.length, 0) := by
  have hl := congrArg List.length h
  simp only [List.length_drop, List.length_append] at hl
  unfold takeS
  rw [if_pos rfl, if_neg (by omega), h, List.take_left]
/-! ### Decimal digits of small numbers -/
def dch (n : Nat) : UInt8 := UInt8.ofNat (48 + n)
theorem dch_nat {n : Nat} (h : n < 10) : (dch n).toNat = 48 + n := by
  unfold dch; rw [UInt8.toNat_ofNat']; omega
theorem dg_dch {n : Nat} (h : n < 10) : dg (dch n) = true := by
  unfold dg; rw [dch_nat h]; simp; omega
def decS (n : Nat) : Str := if n < 10 then [dch n] else if n < 100 then [dch (n / 10), dch (n % 10)] else [dch (n / 100), dch (n / 10 % 10), dch (n % 10)]
theorem numL_step {c : UInt8} {r : Str} {n k : Nat} (hd : dg c = true) (h : ¬ ((0 < k ∧ n = 0) ∨ 16777216 < n * 10 + (c.toNat - 48))) : numL (c :: r) n k = numL r (n * 10 + (c.toNat - 48)) (k + 1) := by
  rw [numL, if_pos hd, if_neg h]
theorem numL_dec {n : Nat} (hn : n < 1000) (t : Str) : numL (decS n ++ t) 0 0 = numL t n (decS n).length := by
  unfold decS
  split
  · rw [List.singleton_append, numL_step (dg_dch (by omega)) (by rw [dch_nat (by omega)]; omega), dch_nat (by omega)]
    congr 1; omega
  · split
    · rw [List.cons_append, List.singleton_append, numL_step (dg_dch (by omega)) (by rw [dch_nat (by omega)]; omega), dch_nat (by omega),
        numL_step (dg_dch (by omega)) (by rw [dch_nat (by omega)]; omega), dch_nat (by omega)]
      congr 1; omega
    · rw [List.cons_append, List.cons_append, List.singleton_append, numL_step (dg_dch (by omega)) (by rw [dch_nat (by omega)]; omega), dch_nat (by omega),
        numL_step (dg_dch (by omega)) (by rw [dch_nat (by omega)]; omega), dch_nat (by omega), numL_step (dg_dch (by omega)) (by rw [dch_nat (by omega)]; omega), dch_nat (by omega)]
      congr 1; omega
theorem decS_len (n : Nat) : 1 ≤ (decS n).length ∧ (decS n).length ≤ 3 := by
  unfold decS
  split
  · simp
  · split <;> simp
theorem decS_dg {n : Nat} (hn : n < 1000) : ∀ c ∈ decS n, dg c = true := by
  intro c hc
  unfold decS at hc
  split at hc
  · simp only [List.mem_singleton] at hc; subst hc; exact dg_dch (by omega)
  · split at hc
    · simp only [List.mem_cons, List.mem_nil_iff, or_false] at hc
      rcases hc with rfl | rfl <;> exact dg_dch (by omega)
    · simp only [List.mem_cons, List.mem_nil_iff, or_false] at hc
      rcases hc with rfl | rfl | rfl <;> exact dg_dch (by omega)
theorem numL_stop {c : UInt8} {r : Str} {n k : Nat} (hd : dg c = false) (hk : 0 < k) : numL (c :: r) n k = (k, n, 0) := by
  rw [numL, hd, if_neg (by simp), if_neg (by omega)]
theorem numS_ok {s t : Str} {p n : Nat} {c : UInt8} (hn : n < 1000) (h : s.drop p = decS n ++ c :: t) (hc : dg c = false) : numS s p 0 = (n, p + (decS n).length, 0) := by
  have := decS_len n
  unfold numS
  rw [if_pos rfl, h, numL_dec hn, numL_stop hc (by omega)]
theorem numS_more {s t : Str} {p n : Nat} {c : UInt8} (hn : n < 1000) (h : s.drop p = decS n ++ c :: 10 :: t) (hc : dg c = true) : (numS s p 0).2.2 = 2 ∨ ((numS s p 0).2.1 = p + (decS n).length + 1 ∧ (numS s p 0).2.2 = 0) := by
  have := decS_len n
  unfold numS
  rw [if_pos rfl, h, numL_dec hn]
  unfold numL
  rw [if_pos hc]
  split
  · exact .inl rfl
  · rw [numL_stop rfl (by omega)]
    exact .inr ⟨by simp only; omega, rfl⟩
/-! ### The stages -/
theorem isS_off {c : UInt8} {s : Str} {p : Nat} {x : Int} (h : x ≠ 0) : isS c s p x = false := by unfold isS; simp [h]
theorem partS_a {s : Str} (h : (textS s markT 0 0).2 = 2) : (partS s).2.2.2 = 2 := by
  unfold partS
  simp only
  rw [h, isS_off (by decide), if_neg (by simp)]
  simp only [textS_off (show (2 : Int) ≠ 0 by decide), numS_off (show (2 : Int) ≠ 0 by decide), takeS_off (show (2 : Int) ≠ 0 by decide)]
theorem partS_e {s : Str} (h : textS s markT 0 0 = (5, 0)) (hi : s[5]? = some 45) : partS s = ([], false, (textS s endT 5 0).1, (textS s endT 5 0).2) := by
  unfold partS
  simp only
  rw [h, if_pos (by unfold isS; rw [hi]; rfl)]
theorem partS_o {s : Str} (h : textS s markT 0 0 = (5, 0)) (hi : s[5]? ≠ some 45) : partS s =
    let b := textS s headT 5 0
    let c := numS s b.1 b.2
    let d := textS s blankT c.2.1 c.2.2
    let e := takeS s c.1 d.1 d.2
    let f := textS s lineT e.2.1 e.2.2
    (e.1, true, f.1, f.2) := by
  have : isS 45 s 5 0 = false := by
    unfold isS
    cases hx : s[5]? with
    | none => rfl
    | some b =>
      rw [hx] at hi
      simpa using hi
  conv => lhs; unfold partS
  simp only
  rw [h, this]
  simp
def hdr28 (b : Str) : Str := hd28 ++ (decS b.length ++ blankT)
def part28 (b : Str) : Str := markT ++ (headT ++ (decS b.length ++ (blankT ++ (b ++ lineT))))
theorem part28_len (b : Str) : (part28 b).length = 55 + (decS b.length).length + 4 + b.length + 2 := by
  unfold part28; simp; omega
theorem part28_app (b r : Str) : part28 b ++ r = markT ++ (headT ++ (decS b.length ++ (blankT ++ (b ++ (lineT ++ r))))) := by
  unfold part28; simp only [List.append_assoc]
theorem lm28 : markT.length = 5 := rfl
theorem lh28 : headT.length = 50 := rfl
theorem lb28 : blankT.length = 4 := rfl
theorem ll28 : lineT.length = 2 := rfl
theorem get5 {h r : Str} {c : UInt8} : (markT ++ (c :: r))[5]? = some c := by simp
theorem partS_ok (b r : Str) (hb : b.length < 1000) : partS (part28 b ++ r) = (b, true, (part28 b).length, 0) := by
  rw [part28_app, part28_len]
  generalize hs : markT ++ (headT ++ (decS b.length ++ (blankT ++ (b ++ (lineT ++ r))))) = s
  have h0 : s.drop 0 = markT ++ (headT ++ (decS b.length ++ (blankT ++ (b ++ (lineT ++ r))))) := by rw [← hs]; rfl
  have h1 : s.drop 5 = _ := drop_more h0
  have h2 : s.drop 55 = _ := drop_more h1
  have h3 := drop_more h2
  have h4 := drop_more h3
  have h5 := drop_more h4
  have hl := congrArg List.length hs
  simp only [List.length_append, lm28, lh28, lb28, ll28] at hl
  rw [partS_o (textS_ok h0) (by rw [← hs]; simp)]
  simp only [textS_ok h1]
  simp only [show 5 + headT.length = 55 from rfl]
  rw [numS_ok (t := [10, 13, 10] ++ (b ++ (lineT ++ r))) hb h2 rfl]
  simp only
  rw [textS_ok h3]
  simp only
  rw [takeS_ok h4 (by rw [lb28]; omega)]
  simp only
  rw [textS_ok h5]
  simp only [List.length_cons, List.length_nil]
theorem set_split {w : Str} {k : Nat} {v : UInt8} (hk : k < w.length) : w.set k v = w.take k ++ v :: w.drop (k + 1) ∧ w = w.take k ++ w[k] :: w.drop (k + 1) := by
  refine ⟨List.set_eq_take_append_cons_drop.trans (if_pos hk), ?_⟩
  rw [← List.drop_eq_getElem_cons hk, List.take_append_drop]
theorem textS_set {s w r : Str} {p k : Nat} {v : UInt8} (h : s.drop p = w.set k v ++ r) (hk : k < w.length) (hv : w[k]? ≠ some v) : (textS s w p 0).2 = 2 := by
  obtain ⟨h1, h2⟩ := set_split (v := v) hk
  rw [h1, List.append_assoc, List.cons_append] at h
  rw [textS_bad h h2 (fun e => hv (by rw [List.getElem?_eq_getElem hk, e]))]
/-- A part of which one byte was turned, that is neither a digit nor the body's. -/
theorem partS_bent (b r : Str) (hb : b.length < 1000) (k : Nat) (v : UInt8) (hk : k < (part28 b).length) (hv : (part28 b ++ r)[k]? ≠ some v)
    (hbody : ¬ (55 + (decS b.length).length + 4 ≤ k ∧ k < 55 + (decS b.length).length + 4 + b.length)) (hdig : k < 55 + (decS b.length).length + 4 → ∀ c, (part28 b ++ r)[k]? = some c → dg c = false) :
    (partS ((part28 b ++ r).set k v)).2.2.2 = 2 := by
  have hdl := decS_len b.length
  rw [part28_len] at hk
  rw [part28_app] at *
  by_cases k1 : k < 5
  · rw [List.set_append, if_pos (by simpa using k1)]
    exact partS_a (textS_set (r := headT ++ (decS b.length ++ (blankT ++ (b ++ (lineT ++ r))))) (k := k) (v := v) (by simp) (by simpa using k1) (by rw [List.getElem?_append_left (by simpa using k1)] at hv; exact hv))
  rw [List.set_append, if_neg (by simpa using k1)]
  rw [List.getElem?_append_right (by simpa using k1)] at hv hdig
  simp only [List.length_cons, List.length_nil, Nat.zero_add, Nat.reduceAdd] at hv hdig ⊢
  obtain ⟨j, rfl⟩ : ∃ j, k = 5 + j := ⟨k - 5, by omega⟩
  rw [Nat.add_sub_cancel_left] at hv hdig ⊢
  by_cases k2 : j < 50
  · rw [List.set_append, if_pos (by simpa using k2)]
    rw [List.getElem?_append_left (by simpa using k2)] at hv
    generalize hs : markT ++ (headT.set j v ++ (decS b.length ++ (blankT ++ (b ++ (lineT ++ r))))) = s
    have h0 : s.drop 0 = _ := hs.symm
    have h1 : s.drop 5 = _ := drop_more h0
    have hx : s[5]? = (headT.set j v)[0]? := by
      rw [← hs, List.getElem?_append_right (by simp), List.getElem?_append_left (by simp)]
      rfl
    by_cases e : s[5]? = some 45
    · rw [partS_e (textS_ok h0) e]
      have hj : j = 0 := by
        refine Classical.byContradiction fun hj => ?_
        rw [hx, List.getElem?_set_ne hj] at e
        simp at e
      subst hj
      have hv45 : v = 45 := by
        rw [hx] at e; simpa using e
      subst hv45
      have := textS_bad (s := s) (w := endT) (u := [45]) (c := 10) (d := 45) (r' := [13, 10]) (p := 5) h1 rfl (by decide)
      rw [this]
    · rw [partS_o (textS_ok h0) e]
      simp only [textS_set h1 (by simpa using k2) hv]
      simp only [textS_off (show (2 : Int) ≠ 0 by decide), numS_off (show (2 : Int) ≠ 0 by decide), takeS_off (show (2 : Int) ≠ 0 by decide)]
  rw [List.set_append, if_neg (by simpa using k2)]
  rw [List.getElem?_append_right (by simpa using k2)] at hv hdig
  simp only [List.length_cons, List.length_nil, Nat.zero_add, Nat.reduceAdd] at hv hdig ⊢
  obtain ⟨i, rfl⟩ : ∃ i, j = 50 + i := ⟨j - 50, by omega⟩
  rw [Nat.add_sub_cancel_left] at hv hdig ⊢
  have k3 : ¬ i < (decS b.length).length := by
    intro k3
    have hx : (decS b.length)[i]? = some (decS b.length)[i] := List.getElem?_eq_getElem k3
    have := hdig (by omega) _ (by rw [List.getElem?_append_left k3]; exact hx)
    rw [decS_dg hb _ (List.getElem_mem k3)] at this
    cases this
  rw [List.set_append, if_neg k3]
  rw [List.getElem?_append_right (by omega)] at hv hdig
  obtain ⟨q, rfl⟩ : ∃ q, i = (decS b.length).length + q := ⟨i - (decS b.length).length, by omega⟩
  rw [Nat.add_sub_cancel_left] at hv hdig ⊢
  by_cases k4 : q < 4
  · rw [List.set_append, if_pos (by simpa using k4)]
    rw [List.getElem?_append_left (by simpa using k4)] at hv
    generalize hs : markT ++ (headT ++ (decS b.length ++ (blankT.set q v ++ (b ++ (lineT ++ r))))) = s
    have h0 : s.drop 0 = _ := hs.symm
    have h1 : s.drop 5 = _ := drop_more h0
    have h2 : s.drop 55 = _ := drop_more h1
    have h3 := drop_more h2
    rw [partS_o (textS_ok h0) (by rw [← hs]; simp)]
    simp only [textS_ok h1]
    simp only [show 5 + headT.length = 55 from rfl]
    have off : ∀ (n : Nat) (p : Nat), (textS s lineT (takeS s n p 2).2.1 (takeS s n p 2).2.2).2 = 2 := fun n p => by
      rw [takeS_off (by decide)]; simp only; rw [textS_off (by decide)]
    by_cases hq : q = 0
    · subst hq
      have h2' : s.drop 55 = decS b.length ++ v :: 10 :: ([13, 10] ++ (b ++ (lineT ++ r))) := h2
      cases hc : dg v with
      | false =>
        rw [numS_ok hb h2' hc]
        simp only
        rw [show (textS s blankT (55 + (decS b.length).length) 0) = ((textS s blankT (55 + (decS b.length).length) 0).1, 2) from Prod.ext rfl (textS_set h3 (by simp) hv)]
        exact off _ _
      | true =>
        rcases numS_more hb h2' hc with h | ⟨g1, g2⟩
        · rw [h, textS_off (w := blankT) (x := 2) (by decide)]
          exact off _ _
        · rw [g1, g2]
          have h4 : s.drop (55 + (decS b.length).length + 1) = 10 :: ([13, 10] ++ (b ++ (lineT ++ r))) := by
            rw [← List.drop_drop, h3]; rfl
          rw [textS_bad (w := blankT) (u := []) (c := 10) (d := 13) (r' := [10, 13, 10]) h4 rfl (by decide)]
          exact off _ _
    · obtain ⟨c, t, hct, hdc⟩ : ∃ c t, blankT.set q v ++ (b ++ (lineT ++ r)) = c :: t ∧ dg c = false := by
        cases q with
        | zero => exact absurd rfl hq
        | succ q => exact ⟨13, _, rfl, rfl⟩
      rw [hct] at h2
      rw [numS_ok hb h2 hdc]
      simp only
      rw [show (textS s blankT (55 + (decS b.length).length) 0) = ((textS s blankT (55 + (decS b.length).length) 0).1, 2) from Prod.ext rfl (textS_set h3 (by simpa using k4) hv)]
      exact off _ _
  rw [List.set_append, if_neg (by simpa using k4)]
  rw [List.getElem?_append_right (by simpa using k4)] at hv
  simp only [List.length_cons, List.length_nil, Nat.zero_add, Nat.reduceAdd] at hv ⊢
  obtain ⟨u, rfl⟩ : ∃ u, q = 4 + u := ⟨q - 4, by omega⟩
  rw [Nat.add_sub_cancel_left] at hv ⊢
  have k5 : ¬ u < b.length := by omega
  rw [List.set_append, if_neg k5]
  rw [List.getElem?_append_right (by omega)] at hv
  obtain ⟨z, rfl⟩ : ∃ z, u = b.length + z := ⟨u - b.length, by omega⟩
  rw [Nat.add_sub_cancel_left] at hv ⊢
  have k6 : z < 2 := by omega
  rw [List.set_append, if_pos (by simpa using k6)]
  rw [List.getElem?_append_left (by simpa using k6)] at hv
  generalize hs : markT ++ (headT ++ (decS b.length ++ (blankT ++ (b ++ (lineT.set z v ++ r))))) = s
  have h0 : s.drop 0 = markT ++ (headT ++ (decS b.length ++ (blankT ++ (b ++ (lineT.set z v ++ r))))) := hs.symm
  have h1 : s.drop 5 = _ := drop_more h0
  have h2 : s.drop 55 = _ := drop_more h1
  have h3 := drop_more h2
  have h4 := drop_more h3
  have h5 := drop_more h4
  have hl := congrArg List.length hs
  simp only [List.length_append, lm28, lh28, lb28, ll28] at hl
  rw [partS_o (textS_ok h0) (by rw [← hs]; simp)]
  simp only [textS_ok h1]
  simp only [show 5 + headT.length = 55 from rfl]
  rw [numS_ok (t := [10, 13, 10] ++ (b ++ (lineT.set z v ++ r))) hb h2 rfl]
  simp only
  rw [textS_ok h3]
  simp only
  rw [takeS_ok h4 (by rw [lb28]; omega)]
  simp only
  exact textS_set h5 (by simpa using k6) hv
theorem end_bent : ∀ (k : Fin 9) (v : Fin 256), (markT ++ endT)[k.val]? ≠ some (UInt8.ofNat v.val) → (partS ((markT ++ endT).set k.val (UInt8.ofNat v.val))).2.2.2 = 2 := by decide +kernel
def whole28 : List Str → Str
  | [] => markT ++ endT
  | b :: l => part28 b ++ whole28 l
/-- The place is no body's, nor that of a digit ahead of one. -/
def freeAt : List Str → Nat → Prop
  | [], _ => True
  | b :: l, k => ¬ (55 + (decS b.length).length + 4 ≤ k ∧ k < 55 + (decS b.length).length + 4 + b.length) ∧ (k < 55 + (decS b.length).length + 4 → ∀ c, (part28 b)[k]? = some c → dg c = false) ∧ ((part28 b).length ≤ k → freeAt l (k - (part28 b).length))
noncomputable def drainS : Nat → Rd → List Str × Rd
  | 0, r => ([], r)
  | n + 1, r => if (nextS r).2.1 = true then ((nextS r).1 :: (drainS n (nextS r).2.2).1, (drainS n (nextS r).2.2).2) else ([], (nextS r).2.2)
theorem nextS_bad {s : Str} {a : Nat} (hs : s ≠ []) (h : (partS s).2.2.2 = 2) : (nextS ⟨s, a, false, 0⟩).2.1 = false ∧ 0 < (nextS ⟨s, a, false, 0⟩).2.2.bad := by
  unfold nextS
  rw [if_neg (by simp [hs]), if_neg (by simp)]
  simp only
  rw [if_pos h]
  exact ⟨rfl, by simp⟩
theorem nextS_part {b r : Str} {a : Nat} (hb : b.length < 1000) : nextS ⟨part28 b ++ r, a, false, 0⟩ = (b, true, ⟨r, a + (part28 b).length, false, 0⟩) := by
  unfold nextS
  rw [if_neg (by have := part28_len b; simp; intro h; simp [h] at this), if_neg (by simp)]
  simp only
  rw [partS_ok b r hb, if_neg (by simp), if_neg (by simp), if_pos rfl]
  simp
theorem bent : ∀ (l : List Str) (a k : Nat) (v : UInt8) (n : Nat), (∀ b ∈ l, b.length < 1000) → k < (whole28 l).length → (whole28 l)[k]? ≠ some v → freeAt l k → l.length < n →
    ∃ m, m ≤ l.length ∧ (drainS n ⟨(whole28 l).set k v, a, false, 0⟩).1 = l.take m ∧ 0 < (drainS n ⟨(whole28 l).set k v, a, false, 0⟩).2.bad
  | [], a, k, v, 0, _, _, _, _, hn => by simp at hn
  | b :: l, a, k, v, 0, _, _, _, _, hn => by simp at hn
  | [], a, k, v, n + 1, hl, hk, hv, hf, hn => by
    have h := end_bent ⟨k, by simpa [whole28] using hk⟩ ⟨v.toNat, UInt8.toNat_lt v⟩ (by simpa [whole28] using hv)
    simp only [UInt8.ofNat_toNat] at h
    have := nextS_bad (s := (whole28 []).set k v) (a := a) (by intro e; have := congrArg List.length e; simp [whole28] at this) h
    refine ⟨0, Nat.le_refl _, ?_⟩
    rw [drainS, this.1, if_neg (by simp)]
    exact ⟨rfl, this.2⟩
  | b :: l, a, k, v, n + 1, hl, hk, hv, hf, hn => by
    obtain ⟨f1, f2, f3⟩ := hf
    have hb := hl b (by simp)
    have hpl := part28_len b
    by_cases c : k < (part28 b).length
    · have h := partS_bent b (whole28 l) hb k v c hv f1 (fun h c' hc' => f2 h c' (by rw [List.getElem?_append_left c] at hc'; exact hc'))
      have := nextS_bad (a := a) (by intro e; have := congrArg List.length e; rw [List.length_set, List.length_append, hpl, List.length_nil] at this; omega) h
      refine ⟨0, Nat.zero_le _, ?_⟩
      show (drainS (n + 1) ⟨(part28 b ++ whole28 l).set k v, a, false, 0⟩).1 = _ ∧ 0 < (drainS (n + 1) ⟨(part28 b ++ whole28 l).set k v, a, false, 0⟩).2.bad
      rw [drainS, this.1, if_neg (by simp)]
      exact ⟨rfl, this.2⟩
    · have hv' : (whole28 l)[k - (part28 b).length]? ≠ some v := by
        have hv2 : (part28 b ++ whole28 l)[k]? ≠ some v := hv
        rw [List.getElem?_append_right (by omega)] at hv2; exact hv2
      have hk' : k - (part28 b).length < (whole28 l).length := by
        have : k < (part28 b ++ whole28 l).length := hk
        rw [List.length_append] at this; omega
      obtain ⟨m, m1, m2, m3⟩ := bent l (a + (part28 b).length) (k - (part28 b).length) v n (fun x hx => hl x (by simp [hx])) hk' hv' (f3 (by omega)) (by simpa using hn)
      have e : (whole28 (b :: l)).set k v = part28 b ++ (whole28 l).set (k - (part28 b).length) v := by
        show (part28 b ++ whole28 l).set k v = _
        rw [List.set_append, if_neg c]
      refine ⟨m + 1, by simpa using m1, ?_⟩
      rw [e, drainS, nextS_part hb, if_pos rfl]
      exact ⟨by simp [m2], m3⟩
end Go.Abs.B
