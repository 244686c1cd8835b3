import Derived.Test.YtacabmodmbcldaaDoorRT
import Derived.Test.YtacabmodmbcldaaDoorM1
import Derived.Test.YtacabmodmbcldaaDoorMTa
/-! Paths: right ones, their values, sizes. -/
set_option linter.unusedVariables false
set_option linter.unusedSimpArgs false
namespace Go.Abs.T
open M
abbrev Stp := S1_
instance : DecidableEq S1_ := fun a b => decidable_of_iff (a.key = b.key ∧ a.f_at = b.f_at ∧ a.index = b.index) (by
 obtain ⟨k, x, i⟩ := a
 obtain ⟨k', x', i'⟩ := b
 simp)
def valS (s : Stp) : S2_ := if s.index = true then .mk 2 s.f_at [] [] [] else .mk 3 0 s.key [] []
theorem index06 (q : Stp → Bool) (p : List Stp) (hp : p.length ≤ 1000) (hq : ∀ s ∈ p, p_zc8 s = some (q s)) : ∀ (m i : Nat), p.length - i ≤ m → i ≤ p.length →
  ∃ r : Int, p_zd6_1 (p, (p.length : Int), (i : Int)) = some r ∧ -1 ≤ r ∧ (0 ≤ r ↔ (p.drop i).all q = false)
 | m, i, hm, hi => by
  rw [u_zd6_1]
  simp only [b_zd6_1]
  by_cases h : i < p.length
  ·have hmem : p[i] ∈ p := List.getElem_mem h
   rw [lss_t (by omega), r_idx (List.getElem?_eq_getElem h), List.drop_eq_getElem_cons h]
   have hq' := hq _ hmem
   generalize p[i] = x at *
   obtain ⟨k, a, b⟩ := x
   have e : p_zcw ⟨k, a, b⟩ = some (!q ⟨k, a, b⟩) := by
    show p_zcw_0 (k, a, b) = _
    unfold p_zcw_0
    simp only [b_zcw_0]
    simp only [hq']
    cases q ⟨k, a, b⟩ <;> rfl
   simp only [e]
   cases hb : q ⟨k, a, b⟩ with
   | false =>
    simp only [Bool.not_false]
    exact ⟨i, rfl, by omega, by simp [hb]⟩
   | true =>
    simp only [Bool.not_true]
    rw [r_add (by unfold fit64; omega)]
    cases m with
    | zero => omega
    | succ m =>
     rw [show ((i : Int) + 1) = ((i + 1 : Nat) : Int) by omega]
     obtain ⟨r, h1, h2, h3⟩ := index06 q p hp hq m (i + 1) (by omega) (by omega)
     exact ⟨r, h1, h2, by rw [h3]; simp [hb]⟩
  ·rw [lss_f (by omega), List.drop_eq_nil_of_le (by omega)]
   exact ⟨-1, rfl, by omega, by simp⟩
theorem right06 (q : Stp → Bool) (p : List Stp) (hp : p.length ≤ 1000) (hq : ∀ s ∈ p, p_zc8 s = some (q s)) : p_zcv p = some (decide (p.length ≤ 30) && p.all q) := by
 unfold p_zcv p_zcv_0
 simp only [b_zcv_0]
 rw [r_len]
 by_cases h : p.length ≤ 30
 ·rw [leq_t (by omega), decide_eq_true h]
  obtain ⟨r, h1, h2, h3⟩ := index06 q p hp hq _ 0 (Nat.le_refl _) (by omega)
  have e : p_zdv p = some (!p.all q) := by
   unfold p_zdv p_zdv_0 p_zd6 p_zd6_0
   simp only [b_zdv_0, b_zd6_0]
   rw [r_len]
   rw [show (0 : Int) = ((0 : Nat) : Int) from rfl, h1]
   simp only [List.drop_zero] at h3
   cases hb : p.all q with
   | false => simp only; rw [geq_t (by have := h3.2 hb; omega)]; rfl
   | true =>
    simp only
    rw [geq_f]
    ·rfl
    ·rcases Int.lt_or_le r 0 with h | h
     ·exact h
     ·have := h3.1 h; rw [hb] at this; cases this
  simp only [e]
  cases p.all q <;> rfl
 ·rw [leq_f (by omega), decide_eq_false h]
  rfl
theorem value_2 (p : List Stp) (hp : p.length ≤ 1000) (o0 o1 : Int) (o2 : Str) (o3 : List S2_) (o4 : List S0_) : ∀ (m i g : Nat), p.length - i ≤ m → i ≤ p.length →
  p_zcz_2 (p, (p.length : Int), (i : Int), o0, o1, o2, o3, o4, 4, 0, [], g, ((p.take i).map valS), []) = some (.mk 4 0 [] (p.map valS) [], 0)
 | m, i, g, hm, hi => by
  rw [u_zcz_2]
  simp only [b_zcz_2]
  by_cases h : i < p.length
  ·have ht : (p.take (i + 1)).map valS = (p.take i).map valS ++ [valS p[i]] := by rw [List.take_add_one, List.getElem?_eq_getElem h, List.map_append]; rfl
   have hl : ((p.take i).map valS).length ≤ 1000 := by simp; omega
   have hrec : ∀ g, m ≠ 0 → p_zcz_2 (p, (p.length : Int), ((i : Int) + 1), o0, o1, o2, o3, o4, 4, 0, [], g, ((p.take (i + 1)).map valS), []) = some (.mk 4 0 [] (p.map valS) [], 0) := by
    intro g h0
    cases m with
    | zero => omega
    | succ m =>
     rw [show ((i : Int) + 1) = ((i + 1 : Nat) : Int) by omega]
     exact value_2 p hp o0 o1 o2 o3 o4 m (i + 1) g (by omega) (by omega)
   rw [ht] at hrec
   rw [lss_t (by omega), r_idx (List.getElem?_eq_getElem h)]
   generalize p[i] = x at *
   obtain ⟨k, a, b⟩ := x
   cases b with
   | false =>
    simp only
    rw [M.r_app (by simp only [List.length_cons, List.length_nil, room]; omega) (by simp only [List.length_cons, List.length_nil, room]; omega)]
    simp only [p_zcz_4, b_zcz_4]
    rw [r_add (by unfold fit64; omega)]
    have := hrec (g + 1) (by omega)
    simpa [valS] using this
   | true =>
    simp only
    rw [M.r_app (by simp only [List.length_cons, List.length_nil, room]; omega) (by simp only [List.length_cons, List.length_nil, room]; omega)]
    simp only [p_zcz_4, b_zcz_4]
    rw [r_add (by unfold fit64; omega)]
    have := hrec (g + 1) (by omega)
    simpa [valS] using this
  ·rw [lss_f (by omega), List.take_of_length_le (by omega)]
theorem value06 (q : Stp → Bool) (p : List Stp) (hp : p.length ≤ 1000) (hq : ∀ s ∈ p, p_zc8 s = some (q s)) :
  p_zcz p = some (if (decide (p.length ≤ 30) && p.all q) = true then (.mk 4 0 [] (p.map valS) [], 0) else (.mk 0 0 [] [] [], 1)) := by
 unfold p_zcz p_zcz_0
 simp only [b_zcz_0]
 simp only [right06 q p hp hq]
 cases (decide (p.length ≤ 30) && p.all q) with
 | false => rfl
 | true =>
  simp only [if_true]
  rw [r_len]
  have := value_2 p hp 0 0 [] [] [] _ 0 0 (Nat.le_refl _) (by omega)
  simpa using this
theorem awake06 : p_zo = some true := by
 have hr : ∀ s ∈ [(⟨[], 3, true⟩ : Stp)], p_zc8 s = some ((fun _ => true) s) := by
  intro s hs
  rw [List.mem_singleton] at hs
  subst hs
  show p_zc8_0 ([], 3, true) = _
  unfold p_zc8_0
  simp only [b_zc8_0]
  rw [seq_t rfl, geq_t (by omega), leq_t (by omega)]
 have hv := value06 (fun _ => true) [⟨[], 3, true⟩] (by simp) hr
 unfold p_zo p_zo_0
 simp only [b_zo_0]
 have hp : p_zcs 3 = some ⟨[], 3, true⟩ := rfl
 simp only [hp, hv]
 simp only [List.length_singleton, List.all_cons, List.all_nil, Bool.and_self, Bool.and_true, decide_true, Nat.reduceLeDiff, if_true, List.map_cons, List.map_nil, valS]
 rw [eql_t rfl]
 simp only [r_len, List.length_singleton]
 rw [eql_t (show ((1 : Nat) : Int) = 1 from rfl)]
 simp only
 rw [show (0 : Int) = ((0 : Nat) : Int) from rfl, r_idx (b := .mk 2 3 [] [] []) rfl]
 simp only
 rw [eql_t rfl]
/-! ### Few -/
theorem few06_1 (p : List Stp) : ∀ (m i : Nat), 50 - i ≤ m → i ≤ 50 → p_z7_1 (p, (i : Int)) = some false ∨ (p_z7_1 (p, (i : Int)) = some (decide (p.length ≤ 40)) ∧ ∀ j x, i ≤ j → j < 50 → p[j]? = some x → x.key.length ≤ 200)
 | m, i, hm, hi => by
  rw [u_z7_1]
  simp only [b_z7_1]
  have e : p_z7_4 p = some (decide (p.length ≤ 40)) := by
   unfold p_z7_4
   simp only [b_z7_4]
   rw [r_len, r_leq]
   congr 2
   simp only [eq_iff_iff]; omega
  rw [r_len]
  by_cases h : i < p.length
  ·rw [lss_t (by omega)]
   by_cases h5 : i < 50
   ·rw [lss_t (by omega), r_idx (List.getElem?_eq_getElem h)]
    have hx : p[i]? = some p[i] := List.getElem?_eq_getElem h
    generalize p[i] = x at *
    obtain ⟨k, a, b⟩ := x
    simp only
    rw [r_slen]
    by_cases hk : k.length ≤ 200
    ·rw [gtr_f (by omega)]
     simp only
     rw [r_add (by unfold fit64; omega)]
     cases m with
     | zero => omega
     | succ m =>
      rw [show ((i : Int) + 1) = ((i + 1 : Nat) : Int) by omega]
      rcases few06_1 p m (i + 1) (by omega) (by omega) with g | ⟨g1, g2⟩
      ·exact .inl g
      ·refine .inr ⟨g1, fun j x h1 h2 h3 => ?_⟩
       by_cases ej : j = i
       ·subst ej; rw [hx] at h3; cases h3; exact hk
       ·exact g2 j x (by omega) h2 h3
    ·rw [gtr_t (by omega)]
     exact .inl rfl
   ·rw [lss_f (by omega)]
    simp only [e]
    exact .inr ⟨trivial, fun j x h1 h2 _ => by omega⟩
  ·rw [lss_f (by omega)]
   simp only [e]
   exact .inr ⟨trivial, fun j x h1 h2 h3 => by have := (List.getElem?_eq_some_iff.1 h3).1; omega⟩
theorem few06 (p : List Stp) : p_z7 p = some false ∨ (p_z7 p = some true ∧ p.length ≤ 40 ∧ ∀ s ∈ p, s.key.length ≤ 200) := by
 unfold p_z7 p_z7_0
 simp only [b_z7_0]
 rcases few06_1 p 50 0 (by omega) (by omega) with h | ⟨h1, h2⟩
 ·exact .inl h
 ·by_cases hl : p.length ≤ 40
  ·rw [decide_eq_true hl] at h1
   refine .inr ⟨h1, hl, fun s hs => ?_⟩
   obtain ⟨j, hj⟩ := List.getElem?_of_mem hs
   exact h2 j s (by omega) (by have := (List.getElem?_eq_some_iff.1 hj).1; omega) hj
  ·rw [decide_eq_false hl] at h1
   exact .inl h1
/-! Paths and values: which paths are right, whose value is whose. -/
def stepR (s : Stp) : Bool := if s.index = true then decide (s.key = [] ∧ 0 ≤ s.f_at ∧ s.f_at ≤ 9007199254740991) else decide (s.f_at = 0) && isT s.key
def pathR (p : List Stp) : Bool := decide (p.length ≤ 30) && p.all stepR
theorem step_right (s : Stp) : p_zc8 s = some (stepR s) := by
 obtain ⟨k, a, b⟩ := s
 show p_zc8_0 (k, a, b) = _
 unfold p_zc8_0 stepR
 simp only [b_zc8_0]
 cases b with
 | false =>
  simp only [Bool.false_eq_true, if_false]
  by_cases h : a = 0
  ·rw [eql_t h]
   simp only [text_isT, h, decide_true, Bool.true_and]
  ·rw [eql_f h]
   simp [h]
 | true =>
  simp only [if_true]
  by_cases h : k = []
  ·rw [seq_t h]
   simp only
   by_cases h2 : 0 ≤ a
   ·rw [geq_t h2, r_leq]
    simp [h, h2]
   ·rw [geq_f (by omega)]
    simp [h2]
  ·rw [seq_f h]
   simp [h]
theorem Right06 (p : List Stp) (hp : p.length ≤ 1000) : p_zcv p = some (pathR p) := right06 stepR p hp fun s _ => step_right s
/-! ### The reference -/
theorem refRight_1 (p : List Stp) (hk : ∀ s ∈ p, s.key.length ≤ 500) : ∀ (m i : Nat), 40 - i ≤ m → i ≤ 40 → p_zbd_1 (p, (i : Int)) = some (decide (p.length ≤ 30) && ((p.take 40).drop i).all stepR)
 | m, i, hm, hi => by
  rw [u_zbd_1]
  simp only [b_zbd_1]
  have e : p_zbd_4 p = some (decide (p.length ≤ 30)) := by
   unfold p_zbd_4
   simp only [b_zbd_4]
   rw [r_len, r_leq]
   congr 2
   simp only [eq_iff_iff]; omega
  rw [r_len]
  by_cases h : i < p.length
  ·rw [lss_t (by omega)]
   by_cases h4 : i < 40
   ·have hlt : i < (p.take 40).length := by simp; omega
    rw [lss_t (by omega), r_idx (List.getElem?_eq_getElem h), List.drop_eq_getElem_cons hlt]
    have hg : (p.take 40)[i] = p[i] := by simp
    rw [hg]
    have hx : p[i] ∈ p := List.getElem_mem h
    have hkx := hk _ hx
    generalize p[i] = x at *
    obtain ⟨k, a, b⟩ := x
    have hnext : m ≠ 0 → p_zbd_1 (p, ((i : Int) + 1)) = some (decide (p.length ≤ 30) && ((p.take 40).drop (i + 1)).all stepR) := by
     intro h0
     cases m with
     | zero => omega
     | succ m =>
      rw [show ((i : Int) + 1) = ((i + 1 : Nat) : Int) by omega]
      exact refRight_1 p hk m (i + 1) (by omega) (by omega)
    have e3 : p_zbd_3 (p, (i : Int)) = some (.inl (p, (i : Int) + 1)) := by
     unfold p_zbd_3
     simp only [b_zbd_3]
     rw [r_add (by unfold fit64; omega)]
    cases b with
    | false =>
     simp only
     by_cases ha : a = 0
     ·rw [neq_f ha]
      simp only [ref_isT k (by simpa using Nat.le_trans hkx (by decide))]
      cases ht : isT k with
      | false => simp [stepR, ht]
      | true =>
       simp only [e3, hnext (by omega)]
       simp [stepR, ht, ha]
     ·rw [neq_t ha]
      simp [stepR, ha]
    | true =>
     simp only
     by_cases hk0 : k = []
     ·rw [seq_t hk0]
      simp only
      by_cases ha : a < 0
      ·rw [lss_t ha]
       have : ¬ 0 ≤ a := by omega
       simp [stepR, this]
      ·rw [lss_f (by omega)]
       simp only
       by_cases ha2 : 9007199254740991 < a
       ·rw [gtr_t ha2]
        have : ¬ a ≤ 9007199254740991 := by omega
        simp [stepR, this]
       ·rw [gtr_f (by omega)]
        simp only [e3, hnext (by omega)]
        have h1 : 0 ≤ a := by omega
        have h2 : a ≤ 9007199254740991 := by omega
        simp [stepR, hk0, h1, h2]
     ·rw [seq_f hk0]
      simp [stepR, hk0]
   ·rw [lss_f (by omega)]
    simp only [e]
    rw [List.drop_eq_nil_of_le (by simp; omega)]
    simp
  ·rw [lss_f (by omega)]
   simp only [e]
   rw [List.drop_eq_nil_of_le (by simp; omega)]
   simp
theorem take_path (p : List Stp) : (decide (p.length ≤ 30) && ((p.take 40).drop 0).all stepR) = pathR p := by
 unfold pathR
 by_cases h : p.length ≤ 30
 ·rw [List.take_of_length_le (by omega), List.drop_zero]
 ·rw [decide_eq_false h]; rfl
theorem refRight06 (p : List Stp) (hk : ∀ s ∈ p, s.key.length ≤ 500) : p_zbd p = some (pathR p) := by
 unfold p_zbd p_zbd_0
 simp only [b_zbd_0]
 have := refRight_1 p hk 40 0 (by omega) (by omega)
 rw [take_path] at this
 exact this
/-! What a path leads to, and what is put there: the law PathPuts. -/
theorem Clone (v : Val) (hc : cnt v ≤ 200) (hs : strs v = true) : p_ze6 v = some (if rR 12 v = true then v else zv) := by
 obtain ⟨a, b, s, l, f⟩ := v
 show p_ze6_0 (a, b, s, l, f) = _
 unfold p_ze6_0
 simp only [b_ze6_0]
 simp only [tree_Right _ hc hs, clone _ hc]
 cases rR 12 (.mk a b s l f) <;> simp
theorem r_set {α : Type} {l : List α} {i : Nat} {x : α} (h : i < l.length) : Prims.real.set l (i : Int) x = some (l.set i x) := by
 show Pr.set l i x = _
 unfold Pr.set
 rw [if_neg (by omega)]
 simp [h]
theorem sub1 {α : Type} (x : α) (l : List α) : Prims.real.sub (x :: l) (some 1) none = some l := by
 have hb : Pr.bnd (some (1 : Int)) 0 = some 1 := rfl
 show Pr.sub (x :: l) (some (1 : Int)) none = _
 simp [Pr.sub, hb, Pr.bnd.eq_1, Pr.cutB]
/-! ### Keys -/
def idxN (k : Str) : List Par → Nat → Int
 | [], _ => -1
 | p :: r, i => if keyOf p = k then (i : Int) else idxN k r (i + 1)
theorem idxN_yes {k kx : Str} {v : Val} {r : List Par} {i : Nat} (h : kx = k) : idxN k (.mk kx v :: r) i = i := by
 show (if kx = k then _ else _) = _
 rw [if_pos h]
theorem idxN_no {k kx : Str} {v : Val} {r : List Par} {i : Nat} (h : ¬ kx = k) : idxN k (.mk kx v :: r) i = idxN k r (i + 1) := by
 show (if kx = k then _ else _) = _
 rw [if_neg h]
theorem idxN_spec (k : Str) : ∀ (f : List Par) (i : Nat), idxN k f i = -1 ∨ ∃ j p, idxN k f i = ((i + j : Nat) : Int) ∧ f[j]? = some p
 | [], i => .inl rfl
 | p :: r, i => by
  unfold idxN
  by_cases h : keyOf p = k
  ·rw [if_pos h]; exact .inr ⟨0, p, rfl, rfl⟩
  ·rw [if_neg h]
   rcases idxN_spec k r (i + 1) with g | ⟨j, q, g1, g2⟩
   ·exact .inl g
   ·exact .inr ⟨j + 1, q, by rw [g1]; omega, by simpa using g2⟩
theorem at06_1 (k : Str) (a b : Int) (s : Str) (l : List Val) (f : List Par) (hf : f.length ≤ 1000) : ∀ (m i : Nat), f.length - i ≤ m → i ≤ f.length → p_zz_1 (k, a, b, s, l, f, (i : Int)) = some (idxN k (f.drop i) i)
 | m, i, hm, hi => by
  rw [u_zz_1]
  simp only [b_zz_1]
  rw [r_len]
  by_cases h : i < f.length
  ·rw [lss_t (by omega), r_idx (List.getElem?_eq_getElem h), List.drop_eq_getElem_cons h]
   generalize f[i] = x at *
   obtain ⟨kx, ⟨x0, x1, x2, x3, x4⟩⟩ := x
   simp only
   by_cases e : kx = k
   ·rw [seq_t e, idxN_yes e]
   ·rw [seq_f e, idxN_no e]
    simp only
    rw [r_add (by unfold fit64; omega)]
    cases m with
    | zero => omega
    | succ m =>
     rw [show ((i : Int) + 1) = ((i + 1 : Nat) : Int) by omega]
     exact at06_1 k a b s l f hf m (i + 1) (by omega) (by omega)
  ·rw [lss_f (by omega), List.drop_eq_nil_of_le (by omega)]
   rfl
theorem at06 (k : Str) (a b : Int) (s : Str) (l : List Val) (f : List Par) (hf : f.length ≤ 1000) : p_zz (.mk a b s l f) k = some (idxN k f 0) := by
 show p_zz_0 (a, b, s, l, f, k) = _
 unfold p_zz_0
 simp only [b_zz_0]
 have := at06_1 k a b s l f hf _ 0 (Nat.le_refl _) (by omega)
 simpa using this
theorem ixf_1 (k : Str) (n : Int) (c : Bool) (f : List Par) (hf : f.length ≤ 1000) : ∀ (m i : Nat), f.length - i ≤ m → i ≤ f.length → p_zd4_1 k n c (f, (f.length : Int), (i : Int)) = some (idxN k (f.drop i) i)
 | m, i, hm, hi => by
  rw [u_zd4_1]
  simp only [b_zd4_1]
  by_cases h : i < f.length
  ·rw [lss_t (by omega), r_idx (List.getElem?_eq_getElem h), List.drop_eq_getElem_cons h]
   generalize f[i] = x at *
   obtain ⟨kx, ⟨x0, x1, x2, x3, x4⟩⟩ := x
   have e1 : p_zc2 (.mk kx ⟨x0, x1, x2, x3, x4⟩) k n c = some (Prims.real.seq kx k) := rfl
   simp only [e1]
   by_cases e : kx = k
   ·rw [seq_t e, idxN_yes e]
   ·rw [seq_f e, idxN_no e]
    simp only
    rw [r_add (by unfold fit64; omega)]
    cases m with
    | zero => omega
    | succ m =>
     rw [show ((i : Int) + 1) = ((i + 1 : Nat) : Int) by omega]
     exact ixf_1 k n c f hf m (i + 1) (by omega) (by omega)
  ·rw [lss_f (by omega), List.drop_eq_nil_of_le (by omega)]
   rfl
theorem ixf (k : Str) (n : Int) (c : Bool) (f : List Par) (hf : f.length ≤ 1000) : p_zd4 f k n c = some (idxN k f 0) := by
 unfold p_zd4 p_zd4_0
 simp only [b_zd4_0]
 rw [r_len]
 have := ixf_1 k n c f hf _ 0 (Nat.le_refl _) (by omega)
 simpa using this
theorem cloneV (l : List Val) (h : 0 < l.length) (hl : l.length ≤ 1000) : p_zdo l = some (1, l) := by
 unfold p_zdo p_zdo_0
 simp only [b_zdo_0]
 rw [show (0 : Int) = ((0 : Nat) : Int) from rfl, r_idx (List.getElem?_eq_getElem h)]
 simp only
 rw [M.r_app (by simp only [List.length_nil, room]; omega) (by simp only [List.length_nil, room]; omega)]
 rfl
theorem cloneF (l : List Par) (h : 0 < l.length) (hl : l.length ≤ 1000) : p_zdm l = some (1, l) := by
 unfold p_zdm p_zdm_0
 simp only [b_zdm_0]
 rw [show (0 : Int) = ((0 : Nat) : Int) from rfl, r_idx (List.getElem?_eq_getElem h)]
 simp only
 rw [M.r_app (by simp only [List.length_nil, room]; omega) (by simp only [List.length_nil, room]; omega)]
 rfl
/-! ### Steps -/
def nextI : Val → Stp → Int
 | .mk a _ _ l f, st => if st.index = true then (if a = 4 ∧ st.f_at < l.length then st.f_at else -1) else if a = 5 then idxN st.key f 0 else -1
def kid : Val → Stp → Nat → Option Val
 | .mk _ _ _ l f, st, i => if st.index = true then l[i]? else (f[i]?).map valOf
def put1 : Val → Stp → Nat → Val → Val
 | .mk a b s l f, st, i, w => if st.index = true then .mk a b s (l.set i w) f else match f[i]? with
  | some p => .mk a b s l (f.set i (.mk (keyOf p) w))
  | none => .mk a b s l f
def findS : Val → List Stp → Option Val
 | v, [] => some v
 | v, st :: p => if nextI v st < 0 then none else match kid v st (nextI v st).toNat with
  | none => none
  | some y => findS y p
def atS (x : Val) : Val → List Stp → Option Val
 | _, [] => some x
 | v, st :: p => if nextI v st < 0 then none else match kid v st (nextI v st).toNat with
  | none => none
  | some y => match atS x y p with
   | none => none
   | some w => some (put1 v st (nextI v st).toNat w)
theorem next_kid (v : Val) (st : Stp) (h : stepR st = true) : nextI v st = -1 ∨ ∃ i y, nextI v st = ((i : Nat) : Int) ∧ kid v st i = some y := by
 obtain ⟨a, b, s, l, f⟩ := v
 obtain ⟨k, n, c⟩ := st
 cases c with
 | true =>
  simp only [stepR, if_true, decide_eq_true_eq] at h
  simp only [nextI, kid, if_true]
  by_cases g : a = 4 ∧ n < l.length
  ·rw [if_pos g]
   obtain ⟨i, rfl⟩ := Int.eq_ofNat_of_zero_le h.2.1
   exact .inr ⟨i, l[i]'(by omega), rfl, List.getElem?_eq_getElem (by omega)⟩
  ·rw [if_neg g]; exact .inl rfl
 | false =>
  simp only [nextI, kid, Bool.false_eq_true, if_false]
  by_cases g : a = 5
  ·rw [if_pos g]
   rcases idxN_spec k f 0 with h | ⟨j, p, h1, h2⟩
   ·exact .inl h
   ·exact .inr ⟨j, valOf p, by rw [h1]; simp, by rw [h2]; rfl⟩
  ·rw [if_neg g]; exact .inl rfl
theorem at_find (x : Val) : ∀ (p : List Stp) (v : Val), (atS x v p).isSome = (findS v p).isSome
 | [], v => rfl
 | st :: p, v => by
  simp only [atS, findS]
  by_cases h : nextI v st < 0
  ·rw [if_pos h, if_pos h]
  ·rw [if_neg h, if_neg h]
   cases kid v st (nextI v st).toNat with
   | none => rfl
   | some y =>
    simp only
    rw [← at_find x p y]
    cases atS x y p <;> rfl
theorem ref_next (v : Val) (st : Stp) (hv : cnt v ≤ 200) : p_zbj v st = some (nextI v st) := by
 obtain ⟨a, b, s, l, f⟩ := v
 obtain ⟨k, n, c⟩ := st
 have hf : f.length ≤ 1000 := by have := cntF_len f; simp only [cnt] at hv; omega
 show p_zbj_0 (a, b, s, l, f, k, n, c) = _
 unfold p_zbj_0 nextI
 simp only [b_zbj_0]
 have e1 : p_zbj_1 () = some (-1) := rfl
 cases c with
 | true =>
  simp only [if_true]
  by_cases h : a = 4
  ·rw [eql_t h, r_len]
   simp only
   by_cases g : n < l.length
   ·rw [lss_t g, if_pos ⟨h, g⟩]
   ·rw [lss_f (by omega), if_neg (fun c => g c.2)]
    try exact e1
  ·rw [eql_f h, if_neg (fun c => h c.1)]
   try exact e1
 | false =>
  simp only [Bool.false_eq_true, if_false]
  by_cases h : a = 5
  ·rw [neq_f h, if_pos h]
   simp only [at06 k a b s l f hf]
  ·rw [neq_t h, if_neg h]
theorem kid_cnt {v : Val} {st : Stp} {i : Nat} {y : Val} (h : kid v st i = some y) : cnt y < cnt v := by
 obtain ⟨a, b, s, l, f⟩ := v
 change (if st.index = true then l[i]? else (f[i]?).map valOf) = some y at h
 simp only [cnt]
 split at h
 ·have := cntL_mem (List.mem_of_getElem? h); omega
 ·obtain ⟨p, h1, rfl⟩ := Option.map_eq_some_iff.1 h
  have := cntF_mem (List.mem_of_getElem? h1); omega
theorem kid_right {d : Nat} {v : Val} {st : Stp} {i : Nat} {y : Val} (h : kid v st i = some y) (hr : rR (d + 1) v = true) : rR d y = true := by
 obtain ⟨a, b, s, l, f⟩ := v
 simp only [rR, Bool.and_eq_true] at hr
 change (if st.index = true then l[i]? else (f[i]?).map valOf) = some y at h
 split at h
 ·exact List.all_eq_true.1 hr.1.1.2 _ (List.mem_of_getElem? h)
 ·obtain ⟨p, h1, rfl⟩ := Option.map_eq_some_iff.1 h
  exact List.all_eq_true.1 hr.2 _ (List.mem_of_getElem? h1)
/-! ### How many then -/
theorem cntL_set : ∀ {l : List Val} {i : Nat} {y w : Val}, l[i]? = some y → cntL (l.set i w) + cnt y = cntL l + cnt w
 | [], i, y, w, h => by simp at h
 | v :: r, 0, y, w, h => by simp at h; subst h; simp [cntL]; omega
 | v :: r, i + 1, y, w, h => by
  have := cntL_set (w := w) (show r[i]? = some y by simpa using h)
  simp only [List.set_cons_succ, cntL]; omega
theorem cntF_set : ∀ {f : List Par} {i : Nat} {q : Par} {k : Str} {w : Val}, f[i]? = some q → cntF (f.set i (.mk k w)) + cnt (valOf q) = cntF f + cnt w
 | [], i, q, k, w, h => by simp at h
 | v :: r, 0, q, k, w, h => by simp at h; subst h; simp [cntF, cntP_eq, valOf_mk]; omega
 | v :: r, i + 1, q, k, w, h => by
  have := cntF_set (k := k) (w := w) (show r[i]? = some q by simpa using h)
  simp only [List.set_cons_succ, cntF]; omega
theorem strsL_set : ∀ {l : List Val} {i : Nat} {w : Val}, strsL l = true → strs w = true → strsL (l.set i w) = true
 | [], i, w, h, _ => h
 | v :: r, 0, w, h, hw => by simp only [List.set_cons_zero, strsL, Bool.and_eq_true] at h ⊢; exact ⟨hw, h.2⟩
 | v :: r, i + 1, w, h, hw => by simp only [List.set_cons_succ, strsL, Bool.and_eq_true] at h ⊢; exact ⟨h.1, strsL_set h.2 hw⟩
theorem strsF_set : ∀ {f : List Par} {i : Nat} {q : Par} {w : Val}, strsF f = true → f[i]? = some q → strs w = true → strsF (f.set i (.mk (keyOf q) w)) = true
 | [], i, q, w, h, _, _ => h
 | v :: r, 0, q, w, h, hq, hw => by
  simp at hq; subst hq
  obtain ⟨kq, vq⟩ := v
  simp only [List.set_cons_zero, strsF, strsP, Bool.and_eq_true, keyOf_mk] at h ⊢; exact ⟨⟨h.1.1, hw⟩, h.2⟩
 | v :: r, i + 1, q, w, h, hq, hw => by simp only [List.set_cons_succ, strsF, Bool.and_eq_true] at h ⊢; exact ⟨h.1, strsF_set h.2 (by simpa using hq) hw⟩
theorem kid_strs {v : Val} {st : Stp} {i : Nat} {y : Val} (h : kid v st i = some y) (hr : strs v = true) : strs y = true := by
 obtain ⟨a, b, s, l, f⟩ := v
 simp only [strs, Bool.and_eq_true] at hr
 change (if st.index = true then l[i]? else (f[i]?).map valOf) = some y at h
 split at h
 ·exact strsL_mem hr.1.2 (List.mem_of_getElem? h)
 ·obtain ⟨p, h1, rfl⟩ := Option.map_eq_some_iff.1 h
  exact (strsF_mem hr.2 (List.mem_of_getElem? h1)).2
theorem put1_cnt {v : Val} {st : Stp} {i : Nat} {y w : Val} (h : kid v st i = some y) : cnt (put1 v st i w) + cnt y = cnt v + cnt w ∧ (strs v = true → strs w = true → strs (put1 v st i w) = true) := by
 obtain ⟨a, b, s, l, f⟩ := v
 change (if st.index = true then l[i]? else (f[i]?).map valOf) = some y at h
 have hp : put1 (.mk a b s l f) st i w = (if st.index = true then .mk a b s (l.set i w) f else match f[i]? with
  | some p => .mk a b s l (f.set i (.mk (keyOf p) w))
  | none => .mk a b s l f) := rfl
 rw [hp]
 split at h
 ·rename_i c
  rw [if_pos c]
  have := cntL_set (w := w) h
  refine ⟨by simp only [cnt]; omega, fun h1 h2 => ?_⟩
  simp only [strs, Bool.and_eq_true] at h1 ⊢
  exact ⟨⟨h1.1.1, strsL_set h1.1.2 h2⟩, h1.2⟩
 ·rename_i c
  rw [if_neg c]
  obtain ⟨p, h1, rfl⟩ := Option.map_eq_some_iff.1 h
  simp only [h1]
  have := cntF_set (k := keyOf p) (w := w) h1
  refine ⟨by simp only [cnt]; omega, fun h2 h3 => ?_⟩
  simp only [strs, Bool.and_eq_true] at h2 ⊢
  exact ⟨h2.1, strsF_set h2.2 h1 h3⟩
theorem atS_cnt (x : Val) (hx : strs x = true) : ∀ (p : List Stp) (v w : Val), strs v = true → atS x v p = some w → cnt w ≤ cnt v + cnt x ∧ strs w = true
 | [], v, w, _, h => by
  simp only [atS, Option.some.injEq] at h
  subst h
  exact ⟨by omega, hx⟩
 | st :: p, v, w, hv, h => by
  simp only [atS] at h
  split at h
  ·cases h
  ·cases hk : kid v st (nextI v st).toNat with
   | none => rw [hk] at h; cases h
   | some y =>
    rw [hk] at h
    simp only at h
    cases ha : atS x y p with
    | none => rw [ha] at h; cases h
    | some w' =>
     rw [ha] at h
     simp only [Option.some.injEq] at h
     subst h
     obtain ⟨h1, h2⟩ := atS_cnt x hx p y w' (kid_strs hk hv) ha
     obtain ⟨h3, h4⟩ := put1_cnt (w := w') hk
     exact ⟨by omega, h4 hv h2⟩
/-! What is added to a list at a place. -/
def chA (xs : List Val) : Val → Val × Int
 | .mk k n s l f => if k = 4 then (.mk k n s (l ++ xs) f, 0) else (.mk 0 0 [] [] [], 9)
def Res (xs : List Val) (v : Val) (p : List Stp) (w : Val) (e : Int) : Prop :=
 match findS v p with
 | none => e = 8
 | some y => e = (chA xs y).2 ∧ (e = 0 → atS (chA xs y).1 v p = some w)
theorem res_none {xs : List Val} {v : Val} {st : Stp} {p : List Stp} {w : Val} (h : nextI v st = -1) : Res xs v (st :: p) w 8 := by
 unfold Res
 simp only [findS]
 rw [if_pos (by omega)]
 trivial
theorem res_step {xs : List Val} {v y : Val} {st : Stp} {p : List Stp} {i : Nat} {w : Val} {e : Int} (h : nextI v st = (i : Int)) (hk : kid v st i = some y) (hr : Res xs y p w e) : Res xs v (st :: p) (put1 v st i w) e := by
 unfold Res at *
 simp only [findS, atS]
 rw [h, if_neg (by omega), Int.toNat_natCast, hk]
 simp only
 revert hr
 cases findS y p with
 | none => exact fun h => h
 | some z =>
  rintro ⟨h1, h2⟩
  refine ⟨h1, fun h0 => ?_⟩
  rw [if_neg (by omega)]
  simp only [h2 h0]
theorem add_2 (xs : List Val) (hx : xs.length ≤ 1000) (v : Val) (hc : cnt v ≤ 200) : ∃ w e, p_zci v xs = some (w, e) ∧ Res xs v [] w e := by
 obtain ⟨a, b, s, l, f⟩ := v
 have hl : l.length ≤ 1000 := by have := cntL_len l; simp only [cnt] at hc; omega
 show ∃ w e, p_zci_0 (a, b, s, l, f, xs) = some (w, e) ∧ _
 unfold p_zci_0
 simp only [b_zci_0]
 by_cases h : a = 4
 ·rw [neq_f h]
  have hcat : p_zdr [l, xs] = some (l ++ xs) := by
   unfold p_zdr
   simp only
   rw [if_pos (by simp only [room]; omega)]
  simp only [hcat]
  exact ⟨_, _, rfl, by unfold Res; simp [findS, atS, chA, h]⟩
 ·rw [neq_t h]
  exact ⟨_, _, rfl, by unfold Res; simp [findS, chA, h]⟩
/-! ### The tree's way -/
theorem at_k (xs : List Val) (hx : xs.length ≤ 1000) : ∀ (k : Nat) (p : List Stp) (v : Val), p.length < k → (∀ s ∈ p, stepR s = true) → cnt v ≤ 200 →
  ∃ w e, pk_zc3 k v p xs = some (w, e) ∧ Res xs v p w e
 | 0, p, v, h, _, _ => by omega
 | k + 1, p, .mk a b s l f, hk, hs, hc => by
  have hl : l.length ≤ 1000 := by have := cntL_len l; simp only [cnt] at hc; omega
  have hf : f.length ≤ 1000 := by have := cntF_len f; simp only [cnt] at hc; omega
  show ∃ w e, p_zc3_0 (pk_zc3 k) (a, b, s, l, f, p, xs) = some (w, e) ∧ _
  unfold p_zc3_0
  simp only [b_zc3_0]
  rw [r_len]
  have e2 : p_zc3_2 (pk_zc3 k) (0, 0, [], [], []) = some (.mk 0 0 [] [] [], 8) := rfl
  cases p with
  | nil =>
   rw [eql_t (by simp)]
   obtain ⟨w, e, h1, h2⟩ := add_2 xs hx (.mk a b s l f) hc
   obtain ⟨w0, w1, w2, w3, w4⟩ := w
   simp only [h1]
   exact ⟨_, _, rfl, h2⟩
  | cons st p =>
   rw [eql_f (by simp; omega)]
   have i0 : Prims.real.idx (st :: p) 0 = some st := rfl
   have hst := hs st List.mem_cons_self
   have hnk := next_kid (.mk a b s l f) st hst
   have hrec := fun (y : Val) (hy : cnt y ≤ 200) => at_k xs hx k p y (by simp at hk; omega) (fun s h => hs s (List.mem_cons_of_mem _ h)) hy
   obtain ⟨kk, n, c⟩ := st
   simp only [i0]
   cases c with
   | false =>
    simp only
    by_cases g : a = 5
    ·rw [eql_t g]
     simp only [ixf kk n false f hf]
     have en : nextI (.mk a b s l f) ⟨kk, n, false⟩ = idxN kk f 0 := by simp [nextI, g]
     rw [en] at hnk
     rcases idxN_spec kk f 0 with h | ⟨j, q, h1, h2⟩
     ·rw [h, geq_f (by omega)]
      simp only [e2]
      exact ⟨_, _, rfl, res_none (en.trans h)⟩
     ·rw [Nat.zero_add] at h1
      have hj := (List.getElem?_eq_some_iff.1 h2).1
      rw [h1, geq_t (by omega)]
      simp only [cloneF f (by omega) hf]
      rw [r_idx h2]
      have hkid : kid (.mk a b s l f) ⟨kk, n, false⟩ j = some (valOf q) := by simp [kid, h2]
      have hy := kid_cnt hkid
      obtain ⟨w, e, r1, r2⟩ := hrec (valOf q) (by omega)
      obtain ⟨kq, ⟨q0, q1, q2, q3, q4⟩⟩ := q
      simp only [sub1]
      simp only [valOf_mk] at r1 r2 hkid
      simp only [r1]
      obtain ⟨w0, w1, w2, w3, w4⟩ := w
      simp only
      rw [r_set hj]
      simp only
      have hp : put1 (.mk a b s l f) ⟨kk, n, false⟩ j (.mk w0 w1 w2 w3 w4) = .mk a b s l (f.set j (.mk kq (.mk w0 w1 w2 w3 w4))) := by simp [put1, h2, keyOf_mk]
      rw [← hp]
      exact ⟨_, _, rfl, res_step (en.trans h1) hkid r2⟩
    ·rw [eql_f g]
     simp only [e2]
     exact ⟨_, _, rfl, res_none (by simp [nextI, g])⟩
   | true =>
    simp only
    simp only [stepR, if_true, decide_eq_true_eq] at hst
    obtain ⟨j, rfl⟩ := Int.eq_ofNat_of_zero_le hst.2.1
    by_cases g : a = 4
    ·rw [eql_t g, r_len]
     simp only
     by_cases gl : j < l.length
     ·rw [lss_t (by omega)]
      simp only [cloneV l (by omega) hl]
      rw [r_idx (List.getElem?_eq_getElem gl)]
      have hkid : kid (.mk a b s l f) ⟨kk, (j : Int), true⟩ j = some l[j] := by simp [kid, gl]
      have hy := kid_cnt hkid
      obtain ⟨w, e, r1, r2⟩ := hrec l[j] (by omega)
      have hset : ∀ w, put1 (.mk a b s l f) ⟨kk, (j : Int), true⟩ j w = .mk a b s (l.set j w) f := fun w => by simp [put1]
      have en : nextI (.mk a b s l f) ⟨kk, (j : Int), true⟩ = (j : Int) := by simp [nextI, g, gl]
      generalize l[j] = y at *
      obtain ⟨q0, q1, q2, q3, q4⟩ := y
      simp only [sub1, r1]
      obtain ⟨w0, w1, w2, w3, w4⟩ := w
      simp only
      rw [r_set gl]
      simp only
      rw [← hset]
      exact ⟨_, _, rfl, res_step en hkid r2⟩
     ·rw [lss_f (by omega)]
      simp only [e2]
      have en : nextI (.mk a b s l f) ⟨kk, (j : Int), true⟩ = -1 := by simp [nextI, gl]
      exact ⟨_, _, rfl, res_none en⟩
    ·rw [eql_f g]
     simp only [e2]
     have en : nextI (.mk a b s l f) ⟨kk, (j : Int), true⟩ = -1 := by simp [nextI, g]
     exact ⟨_, _, rfl, res_none en⟩
/-! What is put: the reference, and the law PathPuts. -/
theorem find_1 (p : List Stp) (hp : p.length ≤ 1000) (hs : ∀ s ∈ p, stepR s = true) : ∀ (m i : Nat) (v0 v1 : Int) (v2 : Str) (v3 : List Val) (v4 : List Par) (o0 o1 : Int) (o2 : Str) (o3 : List Val) (o4 : List Par), p.length - i ≤ m → i ≤ p.length → cnt (.mk v0 v1 v2 v3 v4) ≤ 200 →
  p_z8_1 (p, (i : Int), v0, v1, v2, v3, v4, o0, o1, o2, o3, o4) = some (match findS (.mk v0 v1 v2 v3 v4) (p.drop i) with | some y => (y, true) | none => (zv, false))
 | m, i, v0, v1, v2, v3, v4, o0, o1, o2, o3, o4, hm, hi, hc => by
  rw [u_z8_1]
  simp only [b_z8_1]
  rw [r_len]
  by_cases h : i < p.length
  ·have hst := hs p[i] (List.getElem_mem h)
   rw [lss_t (by omega), r_idx (List.getElem?_eq_getElem h), List.drop_eq_getElem_cons h]
   have hn := next_kid (.mk v0 v1 v2 v3 v4) p[i] hst
   have hrn := ref_next (.mk v0 v1 v2 v3 v4) p[i] hc
   have hrec : ∀ w : Val, cnt w ≤ 200 → m ≠ 0 → ∀ w0 w1 w2 w3 w4, w = .mk w0 w1 w2 w3 w4 → p_z8_1 (p, ((i : Int) + 1), w0, w1, w2, w3, w4, o0, o1, o2, o3, o4) = some (match findS w (p.drop (i + 1)) with | some y => (y, true) | none => (zv, false)) := by
    intro w hw h0 w0 w1 w2 w3 w4 e
    cases m with
    | zero => omega
    | succ m =>
     subst e
     rw [show ((i : Int) + 1) = ((i + 1 : Nat) : Int) by omega]
     exact find_1 p hp hs m (i + 1) w0 w1 w2 w3 w4 o0 o1 o2 o3 o4 (by omega) (by omega) hw
   generalize p[i] = st at *
   simp only [findS]
   obtain ⟨k, n, c⟩ := st
   simp only [hrn]
   rcases hn with hn | ⟨j, y, hn, hk⟩
   ·rw [hn, lss_t (by omega), if_pos (by omega)]
   ·rw [hn, lss_f (by omega), if_neg (by omega), Int.toNat_natCast, hk]
    have hy := kid_cnt hk
    have e4 : ∀ w0 w1 w2 w3 w4, p_z8_4 (p, (i : Int), w0, w1, w2, w3, w4, o0, o1, o2, o3, o4) = some (.inl (p, (i : Int) + 1, w0, w1, w2, w3, w4, o0, o1, o2, o3, o4)) := by
     intro w0 w1 w2 w3 w4
     unfold p_z8_4
     simp only [b_z8_4]
     rw [r_add (by unfold fit64; omega)]
    cases c with
    | true =>
     have hk' : v3[j]? = some y := by simpa [kid] using hk
     simp only
     rw [r_idx hk']
     obtain ⟨y0, y1, y2, y3, y4⟩ := y
     simp only [e4]
     exact hrec _ (by omega) (by omega) _ _ _ _ _ rfl
    | false =>
     have hk' : (v4[j]?).map valOf = some y := by simpa [kid] using hk
     obtain ⟨q, hq, hqy⟩ := Option.map_eq_some_iff.1 hk'
     subst hqy
     simp only
     rw [r_idx hq]
     obtain ⟨kq, ⟨y0, y1, y2, y3, y4⟩⟩ := q
     simp only [e4]
     exact hrec _ (by omega) (by omega) _ _ _ _ _ rfl
  ·rw [lss_f (by omega), List.drop_eq_nil_of_le (by omega)]
   rfl
theorem refFind (v : Val) (p : List Stp) (hp : p.length ≤ 1000) (hs : ∀ s ∈ p, stepR s = true) (hc : cnt v ≤ 200) : p_z8 v p = some (match findS v p with | some y => (y, true) | none => (zv, false)) := by
 obtain ⟨a, b, s, l, f⟩ := v
 show p_z8_0 (a, b, s, l, f, p) = _
 unfold p_z8_0
 simp only [b_z8_0]
 have := find_1 p hp hs _ 0 a b s l f 0 0 [] [] [] (Nat.le_refl _) (by omega) hc
 simpa using this
theorem take_set {α : Type} {l : List α} {i : Nat} (h : i < l.length) : l.take (i + 1) = l.take i ++ [l[i]] := by
 rw [List.take_add_one, List.getElem?_eq_getElem h]; rfl
theorem put_2 (c : Val → List Stp → Val → Option Val) (st : Stp) (p : List Stp) (a b : Int) (s : Str) (l : List Val) (x0 x1 : Int) (x2 : Str) (x3 : List Val) (x4 : List Par) (o0 o1 : Int) (o2 : Str) (o3 : List Val) (o4 : List Par) (j : Nat) (w : Val) (hl : l.length ≤ 1000)
  (hj : j < l.length) (hc : c l[j] p (.mk x0 x1 x2 x3 x4) = some w) : ∀ (m i g h : Nat), l.length - i ≤ m → i ≤ l.length →
  p_zbb_2 c ((st :: p), a, b, s, l, [], x0, x1, x2, x3, x4, (j : Int), (i : Int), o0, o1, o2, o3, o4, a, 0, [], g, ((l.set j w).take i), h, []) = some (.mk a 0 [] (l.set j w) [])
 | m, i, g, h, hm, hi => by
  rw [u_zbb_2]
  simp only [b_zbb_2]
  rw [r_len]
  have hll : (l.set j w).length = l.length := List.length_set
  have hacc : ((l.set j w).take i).length ≤ 1000 := by simp; omega
  by_cases hlt : i < l.length
  ·have hw : (l.set j w).take (i + 1) = (l.set j w).take i ++ [(l.set j w)[i]'(by omega)] := take_set (by omega)
   have hrec : ∀ g, m ≠ 0 → p_zbb_2 c ((st :: p), a, b, s, l, [], x0, x1, x2, x3, x4, (j : Int), ((i : Int) + 1), o0, o1, o2, o3, o4, a, 0, [], g, ((l.set j w).take (i + 1)), h, []) = some (.mk a 0 [] (l.set j w) []) := by
    intro g h0
    cases m with
    | zero => omega
    | succ m =>
     rw [show ((i : Int) + 1) = ((i + 1 : Nat) : Int) by omega]
     exact put_2 c st p a b s l x0 x1 x2 x3 x4 o0 o1 o2 o3 o4 j w hl hj hc m (i + 1) g h (by omega) (by omega)
   have e4 : ∀ y : Val, ∀ y0 y1 y2 y3 y4, y = .mk y0 y1 y2 y3 y4 → p_zbb_4 c ((st :: p), a, b, s, l, [], x0, x1, x2, x3, x4, (j : Int), (i : Int), o0, o1, o2, o3, o4, a, 0, [], g, ((l.set j w).take i), h, [], y0, y1, y2, y3, y4) =
     some (.inl (st :: p, a, b, s, l, [], x0, x1, x2, x3, x4, (j : Int), (i : Int) + 1, o0, o1, o2, o3, o4, a, 0, [], g + 1, (l.set j w).take i ++ [y], h, [])) := by
    intro y y0 y1 y2 y3 y4 e
    subst e
    unfold p_zbb_4
    simp only [b_zbb_4]
    rw [M.r_app (by simp only [List.length_cons, List.length_nil, room]; omega) (by simp only [List.length_cons, List.length_nil, room]; omega)]
    simp only
    rw [r_add (by unfold fit64; omega)]
   rw [lss_t (by omega), r_idx (List.getElem?_eq_getElem hlt)]
   by_cases e : i = j
   ·subst e
    have hg : (l.set i w)[i]'(by omega) = w := by simp
    rw [hg] at hw
    rw [hw] at hrec
    generalize l[i] = y at *
    obtain ⟨y0, y1, y2, y3, y4⟩ := y
    simp only
    rw [eql_t rfl]
    simp only [sub1, hc]
    obtain ⟨w0, w1, w2, w3, w4⟩ := w
    simp only [e4 _ _ _ _ _ _ rfl]
    exact hrec _ (by omega)
   ·have hg : (l.set j w)[i]'(by omega) = l[i] := by
     rw [List.getElem_set_ne (by omega)]
    rw [hg] at hw
    rw [hw] at hrec
    generalize l[i] = y at *
    obtain ⟨y0, y1, y2, y3, y4⟩ := y
    simp only
    rw [eql_f (by omega)]
    simp only [e4 _ _ _ _ _ _ rfl]
    exact hrec _ (by omega)
  ·rw [lss_f (by omega), List.take_of_length_le (by omega)]
   have e7 : ∀ g h, p_zbb_7 c ((st :: p), a, b, s, l, [], x0, x1, x2, x3, x4, (j : Int), 0, o0, o1, o2, o3, o4, a, 0, [], g, (l.set j w), h, []) = some (.mk a 0 [] (l.set j w) []) := by
    intro g h
    rw [u_zbb_7]
    simp only [b_zbb_7]
    rw [r_len, lss_f (by simp)]
   simp only [e7]
theorem put_7 (c : Val → List Stp → Val → Option Val) (st : Stp) (p : List Stp) (a b : Int) (s : Str) (f : List Par) (x0 x1 : Int) (x2 : Str) (x3 : List Val) (x4 : List Par) (o0 o1 : Int) (o2 : Str) (o3 : List Val) (o4 : List Par) (j : Nat) (q : Par) (w : Val) (hl : f.length ≤ 1000)
  (hj : f[j]? = some q) (hc : c (valOf q) p (.mk x0 x1 x2 x3 x4) = some w) : ∀ (m i g h : Nat), f.length - i ≤ m → i ≤ f.length →
  p_zbb_7 c ((st :: p), a, b, s, [], f, x0, x1, x2, x3, x4, (j : Int), (i : Int), o0, o1, o2, o3, o4, a, 0, [], g, [], h, ((f.set j (.mk (keyOf q) w)).take i)) = some (.mk a 0 [] [] (f.set j (.mk (keyOf q) w)))
 | m, i, g, h, hm, hi => by
  rw [u_zbb_7]
  simp only [b_zbb_7]
  rw [r_len]
  have hll : (f.set j (.mk (keyOf q) w)).length = f.length := List.length_set
  have hacc : ((f.set j (.mk (keyOf q) w)).take i).length ≤ 1000 := by simp; omega
  have hjl := (List.getElem?_eq_some_iff.1 hj).1
  by_cases hlt : i < f.length
  ·have hw : (f.set j (.mk (keyOf q) w)).take (i + 1) = (f.set j (.mk (keyOf q) w)).take i ++ [(f.set j (.mk (keyOf q) w))[i]'(by omega)] := take_set (by omega)
   have hrec : ∀ h, m ≠ 0 → p_zbb_7 c ((st :: p), a, b, s, [], f, x0, x1, x2, x3, x4, (j : Int), ((i : Int) + 1), o0, o1, o2, o3, o4, a, 0, [], g, [], h, ((f.set j (.mk (keyOf q) w)).take (i + 1))) = some (.mk a 0 [] [] (f.set j (.mk (keyOf q) w))) := by
    intro h h0
    cases m with
    | zero => omega
    | succ m =>
     rw [show ((i : Int) + 1) = ((i + 1 : Nat) : Int) by omega]
     exact put_7 c st p a b s f x0 x1 x2 x3 x4 o0 o1 o2 o3 o4 j q w hl hj hc m (i + 1) g h (by omega) (by omega)
   have e9 : ∀ y : Par, ∀ k y0 y1 y2 y3 y4, y = .mk k ⟨y0, y1, y2, y3, y4⟩ → p_zbb_9 c ((st :: p), a, b, s, [], f, x0, x1, x2, x3, x4, (j : Int), (i : Int), o0, o1, o2, o3, o4, a, 0, [], g, [], h, ((f.set j (.mk (keyOf q) w)).take i), k, y0, y1, y2, y3, y4) =
     some (.inl (st :: p, a, b, s, [], f, x0, x1, x2, x3, x4, (j : Int), (i : Int) + 1, o0, o1, o2, o3, o4, a, 0, [], g, [], h + 1, (f.set j (.mk (keyOf q) w)).take i ++ [y])) := by
    intro y k y0 y1 y2 y3 y4 e
    subst e
    unfold p_zbb_9
    simp only [b_zbb_9]
    rw [M.r_app (by simp only [List.length_cons, List.length_nil, room]; omega) (by simp only [List.length_cons, List.length_nil, room]; omega)]
    simp only
    rw [r_add (by unfold fit64; omega)]
   rw [lss_t (by omega), r_idx (List.getElem?_eq_getElem hlt)]
   by_cases e : i = j
   ·subst e
    have hq : f[i] = q := by rw [List.getElem?_eq_getElem hlt] at hj; exact Option.some.inj hj
    have hg : (f.set i (.mk (keyOf q) w))[i]'(by omega) = .mk (keyOf q) w := by simp
    rw [hg] at hw
    rw [hw] at hrec
    rw [hq]
    obtain ⟨kq, ⟨y0, y1, y2, y3, y4⟩⟩ := q
    simp only
    rw [eql_t rfl]
    simp only [valOf_mk] at hc
    simp only [sub1, hc]
    obtain ⟨w0, w1, w2, w3, w4⟩ := w
    simp only [e9 _ _ _ _ _ _ _ rfl]
    exact hrec _ (by omega)
   ·have hg : (f.set j (.mk (keyOf q) w))[i]'(by omega) = f[i] := by
     rw [List.getElem_set_ne (by omega)]
    rw [hg] at hw
    rw [hw] at hrec
    generalize f[i] = y at *
    obtain ⟨k, ⟨y0, y1, y2, y3, y4⟩⟩ := y
    simp only
    rw [eql_f (by omega)]
    simp only [e9 _ _ _ _ _ _ _ rfl]
    exact hrec _ (by omega)
  ·rw [lss_f (by omega), List.take_of_length_le (by omega)]
theorem refPut_k (x0 x1 : Int) (x2 : Str) (x3 : List Val) (x4 : List Par) : ∀ (k : Nat) (p : List Stp) (v w : Val) (d : Nat), p.length < k → (∀ s ∈ p, stepR s = true) → cnt v ≤ 200 → rR (d + p.length) v = true → atS (.mk x0 x1 x2 x3 x4) v p = some w →
  pk_zbb k v p (.mk x0 x1 x2 x3 x4) = some w
 | 0, p, v, w, d, h, _, _, _, _ => by omega
 | k + 1, p, .mk a b s l f, w, d, hk, hs, hc, hr, ha => by
  have hl : l.length ≤ 1000 := by have := cntL_len l; simp only [cnt] at hc; omega
  have hf : f.length ≤ 1000 := by have := cntF_len f; simp only [cnt] at hc; omega
  show p_zbb_0 (pk_zbb k) (a, b, s, l, f, p, x0, x1, x2, x3, x4) = _
  unfold p_zbb_0
  simp only [b_zbb_0]
  rw [r_len]
  cases p with
  | nil =>
   rw [eql_t (by simp)]
   simp only [atS, Option.some.injEq] at ha
   subst ha
   rfl
  | cons st p =>
   rw [eql_f (by simp; omega)]
   have i0 : Prims.real.idx (st :: p) 0 = some st := rfl
   have hst := hs st List.mem_cons_self
   have hnk := next_kid (.mk a b s l f) st hst
   have hrn := ref_next (.mk a b s l f) st hc
   simp only [atS] at ha
   have hr' : rR (d + p.length + 1) (.mk a b s l f) = true := by rw [show d + p.length + 1 = d + (st :: p).length by simp; omega]; exact hr
   rcases hnk with hn | ⟨j, y, hn, hkid⟩
   ·rw [hn, if_pos (by omega)] at ha; cases ha
   ·rw [hn, if_neg (by omega), Int.toNat_natCast, hkid] at ha
    simp only at ha
    have hy := kid_cnt hkid
    have hry := kid_right hkid hr'
    cases hat : atS (.mk x0 x1 x2 x3 x4) y p with
    | none => rw [hat] at ha; cases ha
    | some w' =>
     rw [hat] at ha
     simp only [Option.some.injEq] at ha
     subst ha
     have ih := refPut_k x0 x1 x2 x3 x4 k p y w' d (by simp at hk; omega) (fun s h => hs s (List.mem_cons_of_mem _ h)) (by omega) hry hat
     simp only [rR, headOk, Bool.and_eq_true, decide_eq_true_eq] at hr'
     have hh := hr'.1.1.1.1
     obtain ⟨kk, n, c⟩ := st
     simp only [i0, hrn, hn]
     cases c with
     | true =>
      have ha4 : a = 4 := by
       by_cases g : a = 4
       ·exact g
       ·exfalso
        have : nextI (.mk a b s l f) ⟨kk, n, true⟩ = -1 := by simp [nextI, g]
        rw [this] at hn; omega
      subst ha4
      have hb : b = 0 := by omega
      have hs0 : s = [] := by rcases hh.2.2.1 with h | h; exact absurd h (by omega); exact h
      have hf0 : f = [] := List.length_eq_zero_iff.1 (by rcases hh.2.2.2.2.1 with h | h; exact absurd h (by omega); exact h)
      subst hb; subst hs0; subst hf0
      have hk' : l[j]? = some y := by simpa [kid] using hkid
      have hj := (List.getElem?_eq_some_iff.1 hk').1
      have hgy : l[j] = y := (List.getElem?_eq_some_iff.1 hk').2
      have := put_2 (pk_zbb k) ⟨kk, n, true⟩ p 4 0 [] l x0 x1 x2 x3 x4 0 0 [] [] [] j w' hl hj (by rw [hgy]; exact ih) _ 0 0 0 (Nat.le_refl _) (by omega)
      simp only [List.take_zero, Int.natCast_zero] at this
      simp only [this, put1, if_true]
     | false =>
      have ha5 : a = 5 := by
       by_cases g : a = 5
       ·exact g
       ·exfalso
        have : nextI (.mk a b s l f) ⟨kk, n, false⟩ = -1 := by simp [nextI, g]
        rw [this] at hn; omega
      subst ha5
      have hb : b = 0 := by omega
      have hs0 : s = [] := by rcases hh.2.2.1 with h | h; exact absurd h (by omega); exact h
      have hl0 : l = [] := List.length_eq_zero_iff.1 (by rcases hh.2.2.2.1 with h | h; exact absurd h (by omega); exact h)
      subst hb; subst hs0; subst hl0
      have hk' : (f[j]?).map valOf = some y := by simpa [kid] using hkid
      obtain ⟨q, hq, hqy⟩ := Option.map_eq_some_iff.1 hk'
      subst hqy
      have e2 : ∀ g h, p_zbb_2 (pk_zbb k) ((⟨kk, n, false⟩ :: p), 5, 0, [], [], f, x0, x1, x2, x3, x4, (j : Int), 0, 0, 0, [], [], [], 5, 0, [], g, [], h, []) = p_zbb_7 (pk_zbb k) ((⟨kk, n, false⟩ :: p), 5, 0, [], [], f, x0, x1, x2, x3, x4, (j : Int), 0, 0, 0, [], [], [], 5, 0, [], g, [], h, []) := by
       intro g h
       rw [u_zbb_2]
       simp only [b_zbb_2]
       rw [r_len, lss_f (by simp)]
       simp only
       cases p_zbb_7 (pk_zbb k) ((⟨kk, n, false⟩ :: p), 5, 0, [], [], f, x0, x1, x2, x3, x4, (j : Int), 0, 0, 0, [], [], [], 5, 0, [], g, [], h, []) <;> rfl
      have := put_7 (pk_zbb k) ⟨kk, n, false⟩ p 5 0 [] f x0 x1 x2 x3 x4 0 0 [] [] [] j q w' hf hq ih _ 0 0 0 (Nat.le_refl _) (by omega)
      simp only [List.take_zero, Int.natCast_zero] at this
      simp only [e2, this, put1, Bool.false_eq_true, if_false, hq]
theorem rR_more : ∀ (d : Nat) (v : Val), rR d v = true → rR (d + 1) v = true
 | 0, v, h => by simp [rR] at h
 | d + 1, .mk a b s l f, h => by
  simp only [rR, Bool.and_eq_true, List.all_eq_true] at h ⊢
  refine ⟨⟨⟨h.1.1.1, fun v hv => ?_⟩, h.1.2⟩, fun p hp => ?_⟩
  ·have := rR_more d v (h.1.1.2 v hv)
   simpa only [rR] using this
  ·have := rR_more d _ (h.2 p hp)
   simpa only [rR] using this
theorem rR_add (v : Val) (d : Nat) (h : rR d v = true) : ∀ n, rR (d + n) v = true
 | 0 => h
 | n + 1 => rR_more _ _ (rR_add v d h n)
/-! What is added at a place: the program, the reference, and the law PathAdds. -/
theorem addIdx (l : List Val) (hl : cntL l ≤ 200) (hs : strsL l = true) : ∀ (m i : Nat), l.length - i ≤ m → i ≤ l.length →
  ∃ r : Int, p_zd9_1 (l, (l.length : Int), (i : Int)) = some r ∧ decide (0 ≤ r) = !((l.drop i).all (rR 12))
 | m, i, hm, hi => by
  have hlen := cntL_len l
  rw [u_zd9_1]
  simp only [b_zd9_1]
  by_cases h : i < l.length
  ·have hmem : l[i] ∈ l := List.getElem_mem h
   rw [lss_t (by omega), r_idx (List.getElem?_eq_getElem h), List.drop_eq_getElem_cons h, List.all_cons]
   have hcv := cntL_mem hmem
   have hv := strsL_mem hs hmem
   generalize l[i] = x at *
   obtain ⟨x0, x1, x2, x3, x4⟩ := x
   have e : p_zcg (.mk x0 x1 x2 x3 x4) = some (!rR 12 (.mk x0 x1 x2 x3 x4)) := by
    show p_zcg_0 (x0, x1, x2, x3, x4) = _
    unfold p_zcg_0
    simp only [b_zcg_0]
    simp only [tree_Right _ (show cnt (.mk x0 x1 x2 x3 x4) ≤ 200 by omega) hv]
    cases rR 12 (.mk x0 x1 x2 x3 x4) <;> rfl
   simp only [e]
   cases hR : rR 12 (.mk x0 x1 x2 x3 x4) with
   | false => exact ⟨i, by simp, by simp⟩
   | true =>
    simp only [Bool.not_true]
    rw [r_add (by unfold fit64; omega)]
    cases m with
    | zero => omega
    | succ m =>
     obtain ⟨r, g1, g2⟩ := addIdx l hl hs m (i + 1) (by omega) (by omega)
     exact ⟨r, by rw [show ((i : Int) + 1) = ((i + 1 : Nat) : Int) by omega]; exact g1, by simpa using g2⟩
  ·rw [lss_f (by omega), List.drop_eq_nil_of_le (by omega)]
   exact ⟨-1, rfl, by simp⟩
theorem addAll (l : List Val) (hl : cntL l ≤ 200) (hs : strsL l = true) : p_zdy l = some (!(l.all (rR 12))) := by
 show p_zdy_0 l = _
 unfold p_zdy_0
 simp only [b_zdy_0]
 obtain ⟨r, g1, g2⟩ := addIdx l hl hs _ 0 (Nat.le_refl _) (by omega)
 have e : p_zd9 l = some r := g1
 simp only [e, r_geq]
 rw [List.drop_zero] at g2
 rw [← g2]
theorem cntL_app : ∀ a b : List Val, cntL (a ++ b) = cntL a + cntL b
 | [], b => by simp [cntL]
 | x :: a, b => by simp only [List.cons_append, cntL, cntL_app a b]; omega
theorem strsL_app : ∀ a b : List Val, strsL (a ++ b) = (strsL a && strsL b)
 | [], b => by simp [strsL]
 | x :: a, b => by simp only [List.cons_append, strsL, strsL_app a b, Bool.and_assoc]
theorem findS_in : ∀ (p : List Stp) (v y : Val), findS v p = some y → cnt y ≤ cnt v ∧ (strs v = true → strs y = true) ∧ ∀ d, rR (d + p.length) v = true → rR d y = true
 | [], v, y, h => by
  simp only [findS, Option.some.injEq] at h
  subst h
  exact ⟨Nat.le_refl _, fun h => h, fun d h => h⟩
 | st :: p, v, y, h => by
  simp only [findS] at h
  split at h
  ·cases h
  ·cases hk : kid v st (nextI v st).toNat with
   | none => rw [hk] at h; cases h
   | some z =>
    rw [hk] at h
    simp only at h
    obtain ⟨h1, h2, h3⟩ := findS_in p z y h
    have := kid_cnt hk
    exact ⟨by omega, fun hs => h2 (kid_strs hk hs), fun d hd => h3 d (kid_right hk hd)⟩
def addR (v : Val) (p : List Stp) (xs : List Val) : Val × Int :=
 if rR 12 v = true ∧ pathR p = true ∧ xs.all (rR 12) = true then
  match findS v p with
  | none => (zv, 8)
  | some y => if (chA xs y).2 = 0 then match atS (chA xs y).1 v p with
    | none => (zv, 8)
    | some w => if rR 12 w = true then (w, 0) else (zv, 5)
   else (zv, 9)
 else (zv, 1)
theorem chA_in {xs : List Val} {v y : Val} {p : List Stp} (hc : cnt v ≤ 60) (hs : strs v = true) (hx : cntL xs ≤ 60) (hsx : strsL xs = true) (hf : findS v p = some y) (h0 : (chA xs y).2 = 0) : cnt (chA xs y).1 ≤ 120 ∧ strs (chA xs y).1 = true := by
 obtain ⟨h1, h2, _⟩ := findS_in p v y hf
 have h2 := h2 hs
 obtain ⟨a, b, s, l, f⟩ := y
 simp only [chA] at h0 ⊢
 by_cases e : a = 4
 ·rw [if_pos e]
  simp only [cnt, strs, cntL_app, strsL_app, Bool.and_eq_true] at *
  exact ⟨by omega, ⟨h2.1.1, h2.1.2, hsx⟩, h2.2⟩
 ·rw [if_neg e] at h0; cases h0
theorem chA_e (xs : List Val) (y : Val) : (chA xs y).2 = 0 ∨ (chA xs y).2 = 9 := by
 obtain ⟨a, b, s, l, f⟩ := y
 simp only [chA]
 split
 ·exact .inl rfl
 ·exact .inr rfl
theorem Add06 (v : Val) (p : List Stp) (xs : List Val) (hp : p.length ≤ 1000) (hc : cnt v ≤ 60) (hs : strs v = true) (hx : cntL xs ≤ 60) (hsx : strsL xs = true) :
  p_zcf v p xs = some (addR v p xs) := by
 unfold addR
 obtain ⟨a, b, s, l, f⟩ := v
 have hxl := cntL_len xs
 show p_zcf_0 (a, b, s, l, f, p, xs) = _
 unfold p_zcf_0
 simp only [b_zcf_0]
 simp only [tree_Right _ (show cnt (.mk a b s l f) ≤ 200 by omega) hs, Right06 p hp, addAll xs (by omega) hsx]
 cases h1 : rR 12 (.mk a b s l f) with
 | false => simp
 | true =>
  cases h2 : pathR p with
  | false => simp
  | true =>
   cases h3 : xs.all (rR 12) with
   | false => simp
   | true =>
    simp only [Bool.not_true, and_self, if_true]
    have hst : ∀ s ∈ p, stepR s = true := by
     unfold pathR at h2
     rw [Bool.and_eq_true] at h2
     exact List.all_eq_true.1 h2.2
    obtain ⟨w, e, r1, r2⟩ := at_k xs (by omega) 1000000 p (.mk a b s l f) (by omega) hst (by omega)
    have hat : p_zc3 (.mk a b s l f) p xs = some (w, e) := r1
    have hch : p_zc5 (.mk a b s l f) p xs = some ((match findS (.mk a b s l f) p with
      | none => (zv, 8)
      | some y => if (chA xs y).2 = 0 then match atS (chA xs y).1 (.mk a b s l f) p with
        | none => (zv, 8)
        | some w => if rR 12 w = true then (w, 0) else (zv, 5)
       else (zv, 9)) : Val × Int) := by
     show p_zc5_0 (a, b, s, l, f, p, xs) = _
     unfold p_zc5_0
     simp only [b_zc5_0]
     simp only [hat]
     unfold Res at r2
     revert r2
     cases hf : findS (.mk a b s l f) p with
     | none =>
      intro r2
      have r2' : e = 8 := r2
      obtain ⟨w0, w1, w2, w3, w4⟩ := w
      simp only [r2']
      rw [neq_t (by omega)]
     | some y =>
      rintro ⟨rfl, r2⟩
      rcases chA_e xs y with h0 | h9
      ·have r2 := r2 h0
       obtain ⟨q1, q2⟩ := chA_in hc hs hx hsx hf h0
       obtain ⟨c1, c2⟩ := atS_cnt _ q2 p _ _ hs r2
       have c3 : cnt w ≤ 200 := by omega
       have e1 := tree_Right w c3 c2
       have e2 := Clone w c3 c2
       simp only [h0, if_true, r2]
       obtain ⟨w0, w1, w2, w3, w4⟩ := w
       simp only
       rw [neq_f rfl]
       simp only [e1]
       cases hw : rR 12 (.mk w0 w1 w2 w3 w4) with
       | false => simp
       | true =>
        rw [hw, if_pos rfl] at e2
        simp only [e2, if_true]
      ·obtain ⟨w0, w1, w2, w3, w4⟩ := w
       simp only [h9]
       rw [neq_t (by omega), if_neg (by omega)]
    simp only [hch]
    generalize (match findS (.mk a b s l f) p with
      | none => (zv, 8)
      | some y => if (chA xs y).2 = 0 then match atS (chA xs y).1 (.mk a b s l f) p with
        | none => (zv, 8)
        | some w => if rR 12 w = true then (w, 0) else (zv, 5)
       else (zv, 9) : Val × Int) = r
    obtain ⟨⟨w0, w1, w2, w3, w4⟩, e⟩ := r
    rfl
/-! What is added at a place: the reference, and the law. -/
theorem right_list {d : Nat} {b : Int} {s : Str} {l : List Val} {f : List Par} (h : rR (d + 1) (.mk 4 b s l f) = true) : b = 0 ∧ s = [] ∧ f = [] := by
 rw [rR] at h
 simp only [Bool.and_eq_true, headOk, decide_eq_true_eq] at h
 obtain ⟨⟨⟨⟨h1, _⟩, _⟩, h2⟩, _⟩ := h
 refine ⟨by omega, ?_, List.length_eq_zero_iff.1 (by omega)⟩
 rcases h1.2.2.1 with h | h
 ·omega
 ·exact h
theorem refAdd_1 (p : List Stp) (xs : List Val) (hx : cntL xs ≤ 60) (hsx : strsL xs = true) (a b : Int) (s : Str) (l : List Val) (f : List Par) (o0 o1 : Int) (o2 : Str) (o3 : List Val) (o4 : List Par) : ∀ (m i : Nat), xs.length - i ≤ m → i ≤ xs.length →
  p_z6_1 (p, xs, a, b, s, l, f, (i : Int), o0, o1, o2, o3, o4) = if (xs.drop i).all (rR 12) = true then p_z6_1 (p, xs, a, b, s, l, f, (xs.length : Int), o0, o1, o2, o3, o4) else some (zv, 1)
 | m, i, hm, hi => by
  have hlen := cntL_len xs
  by_cases h : i < xs.length
  ·rw [u_z6_1]
   simp only [b_z6_1]
   have hmem : xs[i] ∈ xs := List.getElem_mem h
   rw [r_len, lss_t (by omega), r_idx (List.getElem?_eq_getElem h), List.drop_eq_getElem_cons h, List.all_cons]
   have hcv := cntL_mem hmem
   have hv := strsL_mem hsx hmem
   generalize xs[i] = x at *
   obtain ⟨x0, x1, x2, x3, x4⟩ := x
   simp only [refRight _ (show cnt (.mk x0 x1 x2 x3 x4) ≤ 200 by omega) hv]
   cases rR 12 (.mk x0 x1 x2 x3 x4) with
   | false => rfl
   | true =>
    simp only [Bool.true_and]
    rw [r_add (by unfold fit64; omega)]
    cases m with
    | zero => omega
    | succ m =>
     rw [show ((i : Int) + 1) = ((i + 1 : Nat) : Int) by omega]
     exact refAdd_1 p xs hx hsx a b s l f o0 o1 o2 o3 o4 m (i + 1) (by omega) (by omega)
  ·rw [List.drop_eq_nil_of_le (by omega), show i = xs.length by omega]
   rfl
theorem refAdd06 (v : Val) (p : List Stp) (xs : List Val) (hp : p.length ≤ 40) (hkp : ∀ s ∈ p, s.key.length ≤ 200) (hc : cnt v ≤ 60) (hs : strs v = true) (hx : cntL xs ≤ 60) (hsx : strsL xs = true) :
  p_z6 v p xs = some (addR v p xs) := by
 unfold addR
 obtain ⟨a, b, s, l, f⟩ := v
 have hxl := cntL_len xs
 have h0 : p_z6 (.mk a b s l f) p xs = p_z6_1 (p, xs, a, b, s, l, f, ((0 : Nat) : Int), 0, 0, [], [], []) := rfl
 rw [h0, refAdd_1 p xs hx hsx a b s l f 0 0 [] [] [] xs.length 0 (by omega) (by omega), List.drop_zero]
 cases h3 : xs.all (rR 12) with
 | false => simp
 | true =>
  rw [if_pos rfl, u_z6_1]
  simp only [b_z6_1]
  rw [r_len, lss_f (by omega)]
  have hmay : p_zbi (.mk a b s l f) p = some ((if rR 12 (.mk a b s l f) = true ∧ pathR p = true then (match findS (.mk a b s l f) p with | some y => (y, 0) | none => (zv, 8)) else (zv, 1)) : Val × Int) := by
   show p_zbi_0 (a, b, s, l, f, p) = _
   unfold p_zbi_0
   simp only [b_zbi_0]
   simp only [refRight _ (show cnt (.mk a b s l f) ≤ 200 by omega) hs]
   cases h1 : rR 12 (.mk a b s l f) with
   | false => simp
   | true =>
    simp only [refRight06 p (fun s hs => by have := hkp s hs; omega)]
    cases h2 : pathR p with
    | false => simp
    | true =>
     have hst : ∀ s ∈ p, stepR s = true := by
      unfold pathR at h2
      rw [Bool.and_eq_true] at h2
      exact List.all_eq_true.1 h2.2
     simp only [refFind _ p (by omega) hst (show cnt (.mk a b s l f) ≤ 200 by omega), and_self, if_true]
     cases findS (.mk a b s l f) p with
     | none => rfl
     | some y => obtain ⟨y0, y1, y2, y3, y4⟩ := y; rfl
  simp only [hmay]
  by_cases h12 : rR 12 (.mk a b s l f) = true ∧ pathR p = true
  ·obtain ⟨h1, h2⟩ := h12
   have hst : ∀ s ∈ p, stepR s = true := by
    unfold pathR at h2
    rw [Bool.and_eq_true] at h2
    exact List.all_eq_true.1 h2.2
   simp only [h1, h2, and_self, if_true]
   cases hfd : findS (.mk a b s l f) p with
   | none =>
    simp only
    rw [neq_t (by omega)]
   | some y =>
    obtain ⟨q1, q2, q3⟩ := findS_in p _ _ hfd
    have q3 := q3 12 (rR_add _ _ h1 _)
    have hch := fun h => chA_in hc hs hx hsx hfd h
    obtain ⟨y0, y1, y2, y3, y4⟩ := y
    simp only
    rw [neq_f rfl]
    by_cases e4 : y0 = 4
    ·subst e4
     obtain ⟨rfl, rfl, rfl⟩ := right_list q3
     have ec : chA xs (.mk 4 0 [] y3 []) = (.mk 4 0 [] (y3 ++ xs) [], 0) := by simp [chA]
     rw [ec] at hch
     obtain ⟨k1, k2⟩ := hch rfl
     have hyl := cntL_len y3
     have hyc : cntL y3 ≤ 60 := by simp only [cnt] at q1 hc; omega
     simp only [ec, if_true]
     rw [neq_f rfl, M.r_app (by simp [room]; omega) (by simp [room]; omega)]
     simp only [List.nil_append]
     rw [M.r_app (by simp [room]; omega) (by simp [room]; omega)]
     simp only
     have haf := at_find (.mk 4 0 [] (y3 ++ xs) []) p (.mk a b s l f)
     rw [hfd] at haf
     cases ha : atS (.mk 4 0 [] (y3 ++ xs) []) (.mk a b s l f) p with
     | none => rw [ha] at haf; cases haf
     | some w =>
      obtain ⟨c1, c2⟩ := atS_cnt _ k2 p _ _ hs ha
      have c3 : cnt w ≤ 200 := by omega
      have hput : p_zbb (.mk a b s l f) p (.mk 4 0 [] (y3 ++ xs) []) = some w :=
       refPut_k 4 0 [] (y3 ++ xs) [] 1000000 p (.mk a b s l f) w 12 (by omega) hst (by omega) (rR_add _ _ h1 _) ha
      have hcg : p_zbh (.mk a b s l f) p (.mk 4 0 [] (y3 ++ xs) []) = some ((if rR 12 w = true then (w, 0) else (zv, 5)) : Val × Int) := by
       show p_zbh_0 (a, b, s, l, f, p, 4, 0, [], y3 ++ xs, []) = _
       unfold p_zbh_0
       simp only [b_zbh_0]
       have e1 := refRight w c3 c2
       simp only [hput]
       obtain ⟨w0, w1, w2, w3, w4⟩ := w
       simp only [e1]
       cases rR 12 (.mk w0 w1 w2 w3 w4) <;> rfl
      simp only [hcg]
      obtain ⟨w0, w1, w2, w3, w4⟩ := w
      cases rR 12 (.mk w0 w1 w2 w3 w4) <;> rfl
    ·have ec : (chA xs (.mk y0 y1 y2 y3 y4)).2 = 9 := by simp [chA, e4]
     rw [ec, if_neg (by omega), neq_t e4]
  ·rw [if_neg h12, if_neg (fun h => h12 ⟨h.1, h.2.1⟩)]
   simp only
   rw [neq_t (by omega)]
theorem PathAdds (v : Val) (p : List Stp) (xs : List Val) : p_zg v p xs = some true := by
 obtain ⟨a, b, s, l, f⟩ := v
 show p_zg_0 (a, b, s, l, f, p, xs) = _
 unfold p_zg_0
 simp only [b_zg_0]
 simp only [awake06]
 rcases Few (.mk a b s l f) 60 (by omega) with h | ⟨h1, h2, h3⟩
 ·rw [show ((60 : Nat) : Int) = 60 from rfl] at h
  simp only [h]
 rw [show ((60 : Nat) : Int) = 60 from rfl] at h1
 simp only [h1]
 rcases Few (.mk 0 0 [] xs []) 60 (by omega) with g | ⟨g1, g2, g3⟩
 ·rw [show ((60 : Nat) : Int) = 60 from rfl] at g
  simp only [g]
 rw [show ((60 : Nat) : Int) = 60 from rfl] at g1
 simp only [g1]
 have hx : cntL xs ≤ 60 := by simp only [cnt] at g2; omega
 have hsx : strsL xs = true := by simp only [strs, Bool.and_eq_true] at g3; exact g3.1.2
 rcases few06 p with q | ⟨q1, q2, q3⟩
 ·simp only [q]
 simp only [q1, Add06 (.mk a b s l f) p xs (by omega) h2 h3 hx hsx, refAdd06 (.mk a b s l f) p xs q2 q3 h2 h3 hx hsx]
 have hcr : cnt (addR (.mk a b s l f) p xs).1 ≤ 200 := by
  unfold addR
  split
  ·cases hfd : findS (.mk a b s l f) p with
   | none => simp [cnt, cntL, cntF]
   | some y =>
    simp only
    split
    ·rename_i h0
     obtain ⟨k1, k2⟩ := chA_in h2 h3 hx hsx hfd h0
     cases ha : atS (chA xs y).1 (.mk a b s l f) p with
     | none => simp [cnt, cntL, cntF]
     | some w =>
      obtain ⟨c1, c2⟩ := atS_cnt _ k2 p _ _ h3 ha
      simp only
      split
      ·simp only; omega
      ·simp [cnt, cntL, cntF]
    ·simp [cnt, cntL, cntF]
  ·simp [cnt, cntL, cntF]
 generalize addR (.mk a b s l f) p xs = r at hcr
 obtain ⟨⟨r0, r1, r2, r3, r4⟩, e⟩ := r
 simp only
 rw [eql_t rfl]
 have := Same_self _ hcr
 simp only [this]
end Go.Abs.T
