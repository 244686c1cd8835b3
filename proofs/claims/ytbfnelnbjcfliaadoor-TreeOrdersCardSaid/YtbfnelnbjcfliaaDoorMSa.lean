import Derived.Test.YtbfnelnbjcfliaaDoorRT
import Derived.Test.YtbfnelnbjcfliaaDoorM1
import Derived.Sort.Walk0
/-! A row that is sorted in place, by place: what lies where. -/
set_option linter.unusedVariables false
set_option linter.unusedSimpArgs false
namespace Go.Abs.T
open M
abbrev Pa := S0_
abbrev Mp := List (Str × Nat × Int)
def dp : Pa := .mk [] (.mk 0 0 [] [] [])
def at_ (L : List Pa) (i : Nat) : Pa := L.getD i dp
theorem at_get {L : List Pa} {i : Nat} (h : i < L.length) : L[i]? = some (at_ L i) := by
 unfold at_
 rw [List.getD_eq_getElem?_getD, List.getElem?_eq_getElem h]
 rfl
theorem at_idx {L : List Pa} {i : Nat} (h : i < L.length) : Prims.real.idx L (i : Int) = some (at_ L i) := r_idx (at_get h)
theorem at_set {L : List Pa} {i : Nat} {x : Pa} (h : i < L.length) (k : Nat) : at_ (L.set i x) k = if k = i then x else at_ L k := by
 unfold at_
 simp only [List.getD_eq_getElem?_getD, List.getElem?_set]
 by_cases e : k = i
 ·subst e; simp [h]
 ·rw [if_neg (fun h => e h.symm), if_neg e]
theorem pr_set {L : List Pa} {i : Nat} {x : Pa} (h : i < L.length) : Prims.real.set L (i : Int) x = some (L.set i x) := by
 show Pr.set L (i : Int) x = _
 unfold Pr.set
 rw [if_neg (by omega), if_pos (by simpa using h)]
 simp
theorem ar_add {a b : Nat} (h : a + b ≤ 100000) : Prims.real.ar .add .i64 (a : Int) (b : Int) = ((a + b : Nat) : Int) := by rw [r_add (by unfold fit64; omega)]; omega
theorem ar_add1 {a : Nat} (h : a ≤ 100000) : Prims.real.ar .add .i64 (a : Int) 1 = ((a + 1 : Nat) : Int) := by rw [r_add (by unfold fit64; omega)]; omega
theorem ar_sub {a b : Nat} (h : b ≤ a) (h2 : a ≤ 100000) : Prims.real.ar .sub .i64 (a : Int) (b : Int) = ((a - b : Nat) : Int) := by rw [r_sub64 (by unfold fit64; omega)]; omega
theorem ar_sub1 {a : Nat} (h : 1 ≤ a) (h2 : a ≤ 100000) : Prims.real.ar .sub .i64 (a : Int) 1 = ((a - 1 : Nat) : Int) := by rw [r_sub64 (by unfold fit64; omega)]; omega
def In (L : List Pa) (a b : Nat) (x : Pa) : Prop := ∃ i, a ≤ i ∧ i < b ∧ at_ L i = x
def swp (L : List Pa) (i j : Nat) : List Pa := (L.set i (at_ L j)).set j (at_ L i)
theorem swp_len (L : List Pa) (i j : Nat) : (swp L i j).length = L.length := by simp [swp]
theorem at_swp {L : List Pa} {i j : Nat} (hi : i < L.length) (hj : j < L.length) (k : Nat) : at_ (swp L i j) k = if k = j then at_ L i else if k = i then at_ L j else at_ L k := by
 unfold swp
 rw [at_set (by simpa using hj), at_set hi]
theorem In_swp {L : List Pa} {i j a b : Nat} (hi : i < L.length) (hj : j < L.length) (h1 : a ≤ i) (h2 : i < b) (h3 : a ≤ j) (h4 : j < b) (x : Pa) : In (swp L i j) a b x ↔ In L a b x := by
 constructor
 ·rintro ⟨k, k1, k2, rfl⟩
  rw [at_swp hi hj]
  split
  ·exact ⟨i, h1, h2, rfl⟩
  ·split
   ·exact ⟨j, h3, h4, rfl⟩
   ·exact ⟨k, k1, k2, rfl⟩
 ·rintro ⟨k, k1, k2, rfl⟩
  by_cases e : k = i
  ·subst e; exact ⟨j, h3, h4, by rw [at_swp hi hj, if_pos rfl]⟩
  ·by_cases e2 : k = j
   ·subst e2
    refine ⟨i, h1, h2, ?_⟩
    rw [at_swp hi hj]
    by_cases e3 : i = k
    ·exact absurd e3.symm e
    ·rw [if_neg e3, if_pos rfl]
   ·exact ⟨k, k1, k2, by rw [at_swp hi hj, if_neg e2, if_neg e]⟩
/-! ## swapRange, rotate -/
theorem swapRange_1 (g : Nat) (K : List Str) (c : Nat) (M : Mp) (a b n : Nat) (hab : a + n ≤ b) : ∀ (m i : Nat) (L : List Pa), n - i ≤ m → i ≤ n → b + n ≤ L.length → L.length ≤ 1000 →
  ∃ L', p_zcl_1 g K c M (L, (a : Int), (b : Int), (n : Int), (i : Int)) = some L' ∧ L'.length = L.length ∧ ∀ k, at_ L' k = if a + i ≤ k ∧ k < a + n then at_ L (k - a + b) else if b + i ≤ k ∧ k < b + n then at_ L (k - b + a) else at_ L k
 | m, i, L, hm, hi, hb, hl => by
  rw [u_zcl_1]
  simp only [b_zcl_1]
  by_cases h : i < n
  ·rw [lss_t (by omega), ar_add (by omega), ar_add (by omega), at_idx (show b + i < L.length by omega), at_idx (show a + i < L.length by omega)]
   have hx : ∃ x, x = at_ L (b + i) := ⟨_, rfl⟩
   have hy : ∃ y, y = at_ L (a + i) := ⟨_, rfl⟩
   obtain ⟨x, hx⟩ := hx
   obtain ⟨y, hy⟩ := hy
   rw [← hx, ← hy]
   obtain ⟨x5, ⟨x0, x1, x2, x3, x4⟩⟩ := x
   obtain ⟨y5, ⟨y0, y1, y2, y3, y4⟩⟩ := y
   simp only
   rw [pr_set (show a + i < L.length by omega)]
   simp only
   rw [at_idx (show b + i < (L.set (a + i) (.mk x5 (.mk x0 x1 x2 x3 x4))).length by simp; omega)]
   generalize at_ (L.set (a + i) (.mk x5 (.mk x0 x1 x2 x3 x4))) (b + i) = z
   obtain ⟨z5, ⟨z0, z1, z2, z3, z4⟩⟩ := z
   simp only
   rw [pr_set (show b + i < (L.set (a + i) (.mk x5 (.mk x0 x1 x2 x3 x4))).length by simp; omega)]
   simp only
   rw [hx, hy, ar_add1 (by omega)]
   cases m with
   | zero => omega
   | succ m =>
    have hs : (L.set (a + i) (at_ L (b + i))).set (b + i) (at_ L (a + i)) = swp L (a + i) (b + i) := rfl
    rw [hs]
    obtain ⟨L', g1, g2, g3⟩ := swapRange_1 g K c M a b n hab m (i + 1) (swp L (a + i) (b + i)) (by omega) (by omega) (by rw [swp_len]; omega) (by rw [swp_len]; omega)
    refine ⟨L', g1, by rw [g2, swp_len], fun k => ?_⟩
    rw [g3 k]
    have ha := at_swp (L := L) (i := a + i) (j := b + i) (by omega) (by omega)
    by_cases e1 : k = a + i
    ·subst e1
     rw [if_neg (by omega), if_neg (by omega), ha, if_neg (by omega), if_pos rfl, if_pos (by omega)]
     congr 1; omega
    ·by_cases e2 : k = b + i
     ·subst e2
      rw [if_neg (by omega), if_neg (by omega), ha, if_pos rfl, if_neg (by omega), if_pos (by omega)]
      congr 1; omega
     ·by_cases e3 : a + i ≤ k ∧ k < a + n
      ·rw [if_pos (by omega), if_pos e3, ha, if_neg (by omega), if_neg (by omega)]
      ·rw [if_neg (by omega), if_neg e3]
       by_cases e4 : b + i ≤ k ∧ k < b + n
       ·rw [if_pos (by omega), if_pos e4, ha, if_neg (by omega), if_neg (by omega)]
       ·rw [if_neg (by omega), if_neg e4, ha, if_neg e2, if_neg e1]
  ·rw [lss_f (by omega)]
   refine ⟨L, rfl, rfl, fun k => ?_⟩
   rw [if_neg (by omega), if_neg (by omega)]
theorem swapRange (g : Nat) (K : List Str) (c : Nat) (M : Mp) (a b n : Nat) (hab : a + n ≤ b) (L : List Pa) (hb : b + n ≤ L.length) (hl : L.length ≤ 1000) :
  ∃ L', p_zcl (a : Int) (b : Int) (n : Int) g L K c M = some L' ∧ L'.length = L.length ∧ ∀ k, at_ L' k = if a ≤ k ∧ k < a + n then at_ L (k - a + b) else if b ≤ k ∧ k < b + n then at_ L (k - b + a) else at_ L k := by
 obtain ⟨L', g1, g2, g3⟩ := swapRange_1 g K c M a b n hab n 0 L (by omega) (by omega) hb hl
 exact ⟨L', g1, g2, fun k => by rw [g3 k]; simp only [Nat.add_zero]⟩
theorem rotate_1 (g : Nat) (K : List Str) (c : Nat) (M : Mp) (m : Nat) : ∀ (q i j : Nat) (L : List Pa), i + j ≤ q → 1 ≤ i → 1 ≤ j → i ≤ m → m + j ≤ L.length → L.length ≤ 1000 →
  ∃ L', p_zch_1 g K c M (L, (m : Int), (i : Int), (j : Int)) = some L' ∧ L'.length = L.length ∧ ∀ k, at_ L' k = if m - i ≤ k ∧ k < m - i + j then at_ L (k + i) else if m - i + j ≤ k ∧ k < m + j then at_ L (k - j) else at_ L k
 | 0, i, j, L, hq, hi, hj, _, _, _ => by omega
 | q + 1, i, j, L, hq, hi, hj, him, hb, hl => by
  rw [u_zch_1]
  simp only [b_zch_1]
  by_cases e : i = j
  ·subst e
   rw [neq_f rfl]
   simp only
   rw [ar_sub him (by omega)]
   obtain ⟨L', g1, g2, g3⟩ := swapRange g K c M (m - i) m i (by omega) L (by omega) hl
   simp only [g1, r_len, g2]
   rw [eql_t rfl]
   refine ⟨L', rfl, g2, fun k => ?_⟩
   rw [g3 k]
   by_cases e1 : m - i ≤ k ∧ k < m - i + i
   ·rw [if_pos e1, if_pos e1]; congr 1; omega
   ·rw [if_neg e1, if_neg e1]
    by_cases e2 : m ≤ k ∧ k < m + i
    ·rw [if_pos e2, if_pos (by omega)]; congr 1; omega
    ·rw [if_neg e2, if_neg (by omega)]
  ·rw [neq_t (by omega)]
   simp only
   by_cases e2 : j < i
   ·rw [gtr_t (by omega)]
    simp only
    rw [ar_sub him (by omega)]
    obtain ⟨L1, g1, g2, g3⟩ := swapRange g K c M (m - i) m j (by omega) L (by omega) hl
    simp only [g1, r_len, g2]
    rw [eql_t rfl, ar_sub (by omega) (by omega)]
    simp only
    obtain ⟨L', k1, k2, k3⟩ := rotate_1 g K c M m q (i - j) j L1 (by omega) (by omega) hj (by omega) (by omega) (by omega)
    refine ⟨L', k1, by rw [k2, g2], fun k => ?_⟩
    rw [k3 k]
    by_cases a1 : m - (i - j) ≤ k ∧ k < m - (i - j) + j
    ·rw [if_pos a1, g3]
     by_cases a2 : m ≤ k + (i - j) ∧ k + (i - j) < m + j
     ·rw [if_neg (by omega), if_pos a2]
      by_cases a3 : m - i ≤ k ∧ k < m - i + j
      ·rw [if_pos a3]; omega
      ·rw [if_neg a3, if_pos (by omega)]; congr 1; omega
     ·rw [if_neg (by omega), if_neg a2]; omega
    ·rw [if_neg a1]
     by_cases a2 : m - (i - j) + j ≤ k ∧ k < m + j
     ·rw [if_pos a2, g3, if_neg (by omega)]
      rw [if_neg (show ¬ (m ≤ k - j ∧ k - j < m + j) by omega), if_neg (by omega), if_pos (by omega)]
     ·rw [if_neg a2, g3]
      by_cases a3 : m - i ≤ k ∧ k < m - i + j
      ·rw [if_pos a3, if_pos a3]; congr 1; omega
      ·rw [if_neg a3, if_neg a3, if_neg (by omega), if_neg (by omega)]
   ·rw [gtr_f (by omega)]
    simp only
    rw [ar_sub him (by omega), ar_add (by omega), ar_sub (by omega) (by omega)]
    obtain ⟨L1, g1, g2, g3⟩ := swapRange g K c M (m - i) (m + j - i) i (by omega) L (by omega) hl
    simp only [g1, r_len, g2]
    rw [eql_t rfl, ar_sub (by omega) (by omega)]
    simp only
    obtain ⟨L', k1, k2, k3⟩ := rotate_1 g K c M m q i (j - i) L1 (by omega) (by omega) (by omega) (by omega) (by omega) (by omega)
    refine ⟨L', k1, by rw [k2, g2], fun k => ?_⟩
    rw [k3 k]
    by_cases a1 : m - i ≤ k ∧ k < m - i + (j - i)
    ·rw [if_pos a1, g3, if_neg (by omega), if_neg (by omega), if_pos (by omega)]
    ·rw [if_neg a1]
     by_cases a2 : m - i + (j - i) ≤ k ∧ k < m + (j - i)
     ·rw [if_pos a2, g3]
      by_cases a3 : m - i ≤ k - (j - i) ∧ k - (j - i) < m - i + i
      ·rw [if_pos a3]
       by_cases a4 : m - i ≤ k ∧ k < m - i + j
       ·rw [if_pos a4]; congr 1; omega
       ·rw [if_neg a4]; omega
      ·omega
     ·rw [if_neg a2, g3]
      by_cases a3 : m + j - i ≤ k ∧ k < m + j - i + i
      ·rw [if_neg (by omega), if_pos a3, if_neg (by omega), if_pos (by omega)]; congr 1; omega
      ·rw [if_neg (by omega), if_neg a3, if_neg (by omega), if_neg (by omega)]
theorem rotate (g : Nat) (K : List Str) (c : Nat) (M : Mp) (a m b : Nat) (L : List Pa) (h1 : a < m) (h2 : m < b) (hb : b ≤ L.length) (hl : L.length ≤ 1000) :
  ∃ L', p_zch (a : Int) (m : Int) (b : Int) g L K c M = some L' ∧ L'.length = L.length ∧ ∀ k, at_ L' k = if a ≤ k ∧ k < a + (b - m) then at_ L (k + (m - a)) else if a + (b - m) ≤ k ∧ k < b then at_ L (k - (b - m)) else at_ L k := by
 show ∃ L', p_zch_0 g K c M ((a : Int), (m : Int), (b : Int), L) = some L' ∧ _
 unfold p_zch_0
 simp only [b_zch_0]
 rw [ar_sub (by omega) (by omega), ar_sub (by omega) (by omega)]
 obtain ⟨L', g1, g2, g3⟩ := rotate_1 g K c M m (m - a + (b - m)) (m - a) (b - m) L (by omega) (by omega) (by omega) (by omega) (by omega) hl
 refine ⟨L', g1, g2, fun k => ?_⟩
 rw [g3 k]
 have e1 : m - (m - a) = a := by omega
 have e2 : m + (b - m) = b := by omega
 rw [e1, e2]
/-! Sorted rows; the sort by insertion. -/
def Sd (r : Pa → Nat) (L : List Pa) (a b : Nat) : Prop := ∀ i j, a ≤ i → i < j → j < b → r (at_ L i) < r (at_ L j)
structure Rs (L L' : List Pa) (a b : Nat) : Prop where
 len : L'.length = L.length
 out : ∀ k, k < a ∨ b ≤ k → at_ L' k = at_ L k
 mem : ∀ x, In L' a b x ↔ In L a b x
def Cm (K : List Str) (c : Nat) (M : Mp) (r ix : Pa → Nat) : Prop := ∀ x y, ∃ z : Int, p_zcy x y K c M = some z ∧ (ix y < ix x → (z < 0 ∧ r x < r y) ∨ (0 ≤ z ∧ r y < r x))
theorem Sd.le {r : Pa → Nat} {L : List Pa} {a b i j : Nat} (h : Sd r L a b) (h1 : a ≤ i) (h2 : i ≤ j) (h3 : j < b) : r (at_ L i) ≤ r (at_ L j) := by
 by_cases e : i = j
 ·subst e; exact Nat.le_refl _
 ·exact Nat.le_of_lt (h i j h1 (by omega) h3)
theorem Rs.refl (L : List Pa) (a b : Nat) : Rs L L a b := ⟨rfl, fun _ _ => rfl, fun _ => Iff.rfl⟩
theorem Rs.trans {L L1 L2 : List Pa} {a b : Nat} (h : Rs L L1 a b) (g : Rs L1 L2 a b) : Rs L L2 a b := ⟨g.len.trans h.len, fun k hk => (g.out k hk).trans (h.out k hk), fun x => (g.mem x).trans (h.mem x)⟩
theorem Rs.wide {L L' : List Pa} {a b a' b' : Nat} (h : Rs L L' a b) (h1 : a' ≤ a) (h2 : b ≤ b') : Rs L L' a' b' := by
 refine ⟨h.len, fun k hk => h.out k (by omega), fun x => ⟨?_, ?_⟩⟩
 ·rintro ⟨i, i1, i2, rfl⟩
  by_cases e : a ≤ i ∧ i < b
  ·obtain ⟨j, j1, j2, j3⟩ := (h.mem _).1 ⟨i, e.1, e.2, rfl⟩
   exact ⟨j, by omega, by omega, j3⟩
  ·exact ⟨i, i1, i2, (h.out i (by omega)).symm⟩
 ·rintro ⟨i, i1, i2, rfl⟩
  by_cases e : a ≤ i ∧ i < b
  ·obtain ⟨j, j1, j2, j3⟩ := (h.mem _).2 ⟨i, e.1, e.2, rfl⟩
   exact ⟨j, by omega, by omega, j3⟩
  ·exact ⟨i, i1, i2, h.out i (by omega)⟩
theorem Rs.swap {L : List Pa} {i j a b : Nat} (hi : i < L.length) (hj : j < L.length) (h1 : a ≤ i) (h2 : i < b) (h3 : a ≤ j) (h4 : j < b) : Rs L (swp L i j) a b :=
 ⟨swp_len L i j, fun k hk => by rw [at_swp hi hj, if_neg (by omega), if_neg (by omega)], fun x => In_swp hi hj h1 h2 h3 h4 x⟩
theorem Rs.all {L L' : List Pa} {a b : Nat} (h : Rs L L' a b) {p : Pa → Prop} (hp : ∀ i, a ≤ i → i < b → p (at_ L i)) (i : Nat) (h1 : a ≤ i) (h2 : i < b) : p (at_ L' i) := by
 obtain ⟨j, j1, j2, j3⟩ := (h.mem _).1 ⟨i, h1, h2, rfl⟩
 rw [← j3]; exact hp j j1 j2
theorem Sd.keep {r : Pa → Nat} {L L' : List Pa} {a b a' b' : Nat} (h : Rs L L' a b) (hd : b' ≤ a ∨ b ≤ a') (s : Sd r L a' b') : Sd r L' a' b' := by
 intro i j h1 h2 h3
 rw [h.out i (by omega), h.out j (by omega)]
 exact s i j h1 h2 h3
section
variable (g : Nat) (K : List Str) (c : Nat) (M : Mp) (r ix : Pa → Nat) (hc : Cm K c M r ix)
include hc
theorem ins_3 (a b i : Nat) (hib : i < b) : ∀ (n j : Nat) (L : List Pa), j - a ≤ n → a ≤ j → j ≤ i → b ≤ L.length → L.length ≤ 1000 →
  (∀ p q, a ≤ p → p < q → q ≤ i → p ≠ j → q ≠ j → r (at_ L p) < r (at_ L q)) → (∀ q, j < q → q ≤ i → r (at_ L j) < r (at_ L q)) → (∀ p, a ≤ p → p ≤ i → p ≠ j → ix (at_ L p) < ix (at_ L j)) →
  ∃ L', p_zcf_3 g K c M (L, (a : Int), (b : Int), (i : Int), (j : Int)) = some (.inl (L', (a : Int), (b : Int), ((i + 1 : Nat) : Int))) ∧ Rs L L' a (i + 1) ∧ Sd r L' a (i + 1)
 | n, j, L, hn, haj, hji, hb, hl, I1, I2, I3 => by
  rw [u_zcf_3]
  simp only [b_zcf_3]
  have hex : (a < j → r (at_ L (j - 1)) < r (at_ L j)) → Sd r L a (i + 1) := by
   intro h p q h1 h2 h3
   by_cases e1 : p = j
   ·subst e1; exact I2 q h2 (by omega)
   ·by_cases e2 : q = j
    ·subst e2
     by_cases e3 : p = q - 1
     ·subst e3; exact h (by omega)
     ·exact Nat.lt_trans (I1 p (q - 1) h1 (by omega) (by omega) (by omega) (by omega)) (h (by omega))
    ·exact I1 p q h1 h2 (by omega) e1 e2
  have h6 : p_zcf_6 g K c M (L, (a : Int), (b : Int), (i : Int)) = some (.inl (L, (a : Int), (b : Int), ((i + 1 : Nat) : Int))) := by
   unfold p_zcf_6
   simp only [b_zcf_6]
   rw [ar_add1 (by omega)]
  by_cases h : a < j
  ·rw [gtr_t (by omega), ar_sub1 (by omega) (by omega), at_idx (show j < L.length by omega), at_idx (show j - 1 < L.length by omega)]
   obtain ⟨z, c1, c2⟩ := hc (at_ L j) (at_ L (j - 1))
   obtain ⟨x, hx⟩ : ∃ x, x = at_ L j := ⟨_, rfl⟩
   obtain ⟨y, hy⟩ : ∃ y, y = at_ L (j - 1) := ⟨_, rfl⟩
   rw [← hx, ← hy] at c1 ⊢
   obtain ⟨x5, ⟨x0, x1, x2, x3, x4⟩⟩ := x
   obtain ⟨y5, ⟨y0, y1, y2, y3, y4⟩⟩ := y
   simp only
   rw [c1]
   simp only
   rcases c2 (I3 (j - 1) (by omega) (by omega) (by omega)) with ⟨c2, c3⟩ | ⟨c2, c3⟩
   ·rw [lss_t c2]
    simp only
    rw [pr_set (show j < L.length by omega)]
    simp only
    rw [at_idx (show j - 1 < (L.set j (.mk y5 (.mk y0 y1 y2 y3 y4))).length by simp; omega)]
    generalize at_ (L.set j (.mk y5 (.mk y0 y1 y2 y3 y4))) (j - 1) = z
    obtain ⟨z5, ⟨z0, z1, z2, z3, z4⟩⟩ := z
    simp only
    rw [pr_set (show j - 1 < (L.set j (.mk y5 (.mk y0 y1 y2 y3 y4))).length by simp; omega)]
    simp only
    rw [hx, hy]
    have hs : (L.set j (at_ L (j - 1))).set (j - 1) (at_ L j) = swp L j (j - 1) := rfl
    rw [hs]
    cases n with
    | zero => omega
    | succ n =>
     have hj : j < L.length := by omega
     have hj1 : j - 1 < L.length := by omega
     have s1 : at_ (swp L j (j - 1)) j = at_ L (j - 1) := by rw [at_swp hj hj1, if_neg (by omega), if_pos rfl]
     have s2 : at_ (swp L j (j - 1)) (j - 1) = at_ L j := by rw [at_swp hj hj1, if_pos rfl]
     have s3 : ∀ k, k ≠ j → k ≠ j - 1 → at_ (swp L j (j - 1)) k = at_ L k := fun k k1 k2 => by rw [at_swp hj hj1, if_neg k2, if_neg k1]
     obtain ⟨L', g1, g2, g3⟩ := ins_3 a b i hib n (j - 1) (swp L j (j - 1)) (by omega) (by omega) (by omega) (by rw [swp_len]; omega) (by rw [swp_len]; omega)
      (by
       intro p q h1 h2 h3 h4 h5
       by_cases e1 : p = j
       ·subst e1; rw [s1, s3 q (by omega) h5]; exact I1 (p - 1) q (by omega) (by omega) h3 (by omega) (by omega)
       ·by_cases e2 : q = j
        ·subst e2; rw [s1, s3 p e1 h4]; exact I1 p (q - 1) h1 (by omega) (by omega) e1 (by omega)
        ·rw [s3 p e1 h4, s3 q e2 h5]; exact I1 p q h1 h2 h3 e1 e2)
      (by
       intro q h1 h2
       rw [s2]
       by_cases e2 : q = j
       ·subst e2; rw [s1]; exact c3
       ·rw [s3 q e2 (by omega)]; exact I2 q (by omega) h2)
      (by
       intro p h1 h2 h3
       rw [s2]
       by_cases e2 : p = j
       ·subst e2; rw [s1]; exact I3 (p - 1) (by omega) (by omega) (by omega)
       ·rw [s3 p e2 h3]; exact I3 p h1 h2 e2)
     exact ⟨L', g1, (Rs.swap hj hj1 (by omega) (by omega) (by omega) (by omega)).trans g2, g3⟩
   ·rw [lss_f (by omega)]
    simp only
    rw [h6]
    exact ⟨L, rfl, Rs.refl _ _ _, hex fun _ => c3⟩
  ·rw [gtr_f (by omega)]
   simp only
   rw [h6]
   exact ⟨L, rfl, Rs.refl _ _ _, hex fun h' => absurd h' h⟩
theorem ins_1 (a b : Nat) : ∀ (n i : Nat) (L : List Pa), b - i ≤ n → a < i → (i ≤ b ∨ i = a + 1) → b ≤ L.length → L.length ≤ 1000 → Sd r L a i → (∀ p, a ≤ p → p < i → p < b → ix (at_ L p) < i) → (∀ k, i ≤ k → k < b → ix (at_ L k) = k) →
  ∃ L', p_zcf_1 g K c M (L, (a : Int), (b : Int), (i : Int)) = some L' ∧ Rs L L' a b ∧ Sd r L' a b
 | n, i, L, hn, hai, hib, hb, hl, hs, h1, h2 => by
  rw [u_zcf_1]
  simp only [b_zcf_1]
  by_cases h : i < b
  ·rw [lss_t (by omega)]
   simp only
   obtain ⟨L1, g1, g2, g3⟩ := ins_3 g K c M r ix hc a b i h (i - a) i L (by omega) (by omega) (by omega) hb hl (fun p q q1 q2 q3 q4 q5 => hs p q q1 q2 (by omega)) (fun q q1 q2 => by omega) (fun p q1 q2 q3 => by rw [h2 i (by omega) h]; exact h1 p q1 (by omega) (by omega))
   rw [g1]
   simp only
   cases n with
   | zero => omega
   | succ n =>
    obtain ⟨L', k1, k2, k3⟩ := ins_1 a b n (i + 1) L1 (by omega) (by omega) (by omega) (by rw [g2.len]; exact hb) (by rw [g2.len]; exact hl) g3
     (fun p q1 q2 q3 => g2.all (p := fun x => ix x < i + 1) (fun k k1 k2 => by
      by_cases e : k = i
      ·subst e; rw [h2 k (by omega) h]; omega
      ·have := h1 k k1 (by omega) (by omega); omega) p q1 q2)
     (fun k q1 q2 => by rw [g2.out k (by omega)]; exact h2 k (by omega) q2)
    exact ⟨L', k1, (g2.wide (by omega) (by omega)).trans k2, k3⟩
  ·rw [lss_f (by omega)]
   exact ⟨L, rfl, Rs.refl _ _ _, fun p q q1 q2 q3 => by
    by_cases e : i ≤ b
    ·exact hs p q q1 q2 (by omega)
    ·omega⟩
theorem insSort (a b : Nat) (L : List Pa) (hb : b ≤ L.length) (hl : L.length ≤ 1000) (hab : a ≤ b) (h : ∀ k, a ≤ k → k < b → ix (at_ L k) = k) :
  ∃ L', p_zcf (a : Int) (b : Int) g L K c M = some L' ∧ Rs L L' a b ∧ Sd r L' a b := by
 show ∃ L', p_zcf_0 g K c M ((a : Int), (b : Int), L) = some L' ∧ _
 unfold p_zcf_0
 simp only [b_zcf_0]
 rw [ar_add1 (by omega)]
 exact ins_1 g K c M r ix hc a b (b - a) (a + 1) L (by omega) (by omega) (by omega) hb hl (fun p q q1 q2 q3 => by omega) (fun p q1 q2 q3 => by rw [h p q1 q3]; omega) (fun k q1 q2 => h k (by omega) q2)
end
/-! Two sorted neighbours merged in place. -/
theorem half {a b : Nat} (h : a + b ≤ 100000) : Prims.real.shf .shr .u64 (Prims.real.wrap .u64 (Prims.real.ar .add .i64 (a : Int) (b : Int))) 1 = some (((a + b) / 2 : Nat) : Int) := by
 rw [ar_add h]
 have e : Prims.real.wrap .u64 ((a + b : Nat) : Int) = ((a + b : Nat) : Int) := by
  show IntKind.u64.wrap _ = _
  simp [IntKind.wrap, IntKind.bits, IntKind.signed]; omega
 rw [e]
 show Pr.shf .shr .u64 _ 1 = _
 unfold Pr.shf
 rw [if_neg (by omega)]
 show some (Int.fdiv _ (2 ^ 1)) = _
 rw [Int.fdiv_eq_ediv_of_nonneg _ (by decide)]
 congr 1
theorem wrapN {a : Nat} (h : a ≤ 100000) : Prims.real.wrap .i64 (a : Int) = (a : Int) := r_wrap64 (by unfold fit64; omega)
structure Rt (L L' : List Pa) (s m e : Nat) : Prop where
 len : L'.length = L.length
 lo : ∀ k, s ≤ k → k < s + (e - m) → at_ L' k = at_ L (k + (m - s))
 hi : ∀ k, s + (e - m) ≤ k → k < e → at_ L' k = at_ L (k - (e - m))
 out : ∀ k, k < s ∨ e ≤ k → at_ L' k = at_ L k
theorem Rt.triv {L : List Pa} {s m e : Nat} (h1 : s ≤ m) (h2 : m ≤ e) (h : s = m ∨ m = e) : Rt L L s m e :=
 ⟨rfl, fun k k1 k2 => by congr 1; omega, fun k k1 k2 => by congr 1; omega, fun _ _ => rfl⟩
theorem Rt.rs {L L' : List Pa} {s m e : Nat} (h : Rt L L' s m e) (h1 : s ≤ m) (h2 : m ≤ e) : Rs L L' s e := by
 refine ⟨h.len, h.out, fun x => ⟨?_, ?_⟩⟩
 ·rintro ⟨i, i1, i2, rfl⟩
  by_cases c : i < s + (e - m)
  ·exact ⟨i + (m - s), by omega, by omega, (h.lo i i1 c).symm⟩
  ·exact ⟨i - (e - m), by omega, by omega, (h.hi i (by omega) i2).symm⟩
 ·rintro ⟨i, i1, i2, rfl⟩
  by_cases c : i < m
  ·exact ⟨i + (e - m), by omega, by omega, by rw [h.hi _ (by omega) (by omega)]; congr 1; omega⟩
  ·exact ⟨i - (m - s), by omega, by omega, by rw [h.lo _ (by omega) (by omega)]; congr 1; omega⟩
theorem Rt.of_rotate {L L' : List Pa} {s m e : Nat} (h1 : s ≤ m) (h2 : m ≤ e) (hl : L'.length = L.length) (h : ∀ k, at_ L' k = if s ≤ k ∧ k < s + (e - m) then at_ L (k + (m - s)) else if s + (e - m) ≤ k ∧ k < e then at_ L (k - (e - m)) else at_ L k) : Rt L L' s m e :=
 ⟨hl, fun k a b => by rw [h, if_pos ⟨a, b⟩], fun k a b => by rw [h, if_neg (by omega), if_pos ⟨a, b⟩], fun k a => by rw [h, if_neg (by omega), if_neg (by omega)]⟩
theorem Rt.left {L L' : List Pa} {k i : Nat} (h : k + 1 < i) (hl : i ≤ L.length) (g : Rt (swp L k (k + 1)) L' (k + 1) (k + 2) i) : Rt L L' k (k + 1) i := by
 have a := at_swp (L := L) (i := k) (j := k + 1) (by omega) (by omega)
 refine ⟨by rw [g.len, swp_len], fun q h1 h2 => ?_, fun q h1 h2 => ?_, fun q h1 => ?_⟩
 ·by_cases e : q = k
  ·subst e; rw [g.out q (by omega), a, if_neg (by omega), if_pos rfl]; congr 1; omega
  ·rw [g.lo q (by omega) (by omega), a, if_neg (by omega), if_neg (by omega)]; congr 1; omega
 ·rw [g.hi q (by omega) (by omega), a, if_pos (by omega)]; congr 1; omega
 ·rw [g.out q (by omega), a, if_neg (by omega), if_neg (by omega)]
theorem Rt.right {L L' : List Pa} {k i : Nat} (h : i < k) (hl : k < L.length) (g : Rt (swp L k (k - 1)) L' i (k - 1) k) : Rt L L' i k (k + 1) := by
 have a := at_swp (L := L) (i := k) (j := k - 1) (by omega) (by omega)
 refine ⟨by rw [g.len, swp_len], fun q h1 h2 => ?_, fun q h1 h2 => ?_, fun q h1 => ?_⟩
 ·rw [g.lo q (by omega) (by omega), a, if_pos (by omega)]; congr 1; omega
 ·by_cases e : q = k
  ·subst e; rw [g.out q (by omega), a, if_neg (by omega), if_pos rfl]; congr 1; omega
  ·rw [g.hi q (by omega) (by omega), a, if_neg (by omega), if_neg (by omega)]; congr 1; omega
 ·rw [g.out q (by omega), a, if_neg (by omega), if_neg (by omega)]
theorem Sd.join {r : Pa → Nat} {L : List Pa} {a m b : Nat} (h : Sd r L a m) (g : Sd r L m b) (x : ∀ i j, a ≤ i → i < m → m ≤ j → j < b → r (at_ L i) < r (at_ L j)) : Sd r L a b := by
 intro i j h1 h2 h3
 by_cases e : j < m
 ·exact h i j h1 h2 e
 ·by_cases e2 : i < m
  ·exact x i j h1 e2 (by omega) h3
  ·exact g i j (by omega) h2 h3
theorem Sd.join1 {r : Pa → Nat} {L : List Pa} {a m b : Nat} (h : Sd r L a m) (g : Sd r L m b) (x : a < m → m < b → r (at_ L (m - 1)) < r (at_ L m)) : Sd r L a b :=
 h.join g fun i j h1 h2 h3 h4 => Nat.lt_of_le_of_lt (h.le h1 (by omega) (by omega)) (Nat.lt_of_lt_of_le (x (by omega) (by omega)) (g.le (by omega) h3 h4))
theorem merge {r : Pa → Nat} {L L' : List Pa} {a s m e b : Nat} (h1 : Sd r L a m) (h2 : Sd r L m b) (q1 : a ≤ s) (q2 : s ≤ m) (q3 : m ≤ e) (q4 : e ≤ b)
  (c1 : a < s → e < b → r (at_ L (s - 1)) < r (at_ L e)) (c2 : m < e → s < m → r (at_ L (e - 1)) < r (at_ L s)) (t : Rt L L' s m e) :
  Sd r L' a s ∧ Sd r L' s (s + (e - m)) ∧ Sd r L' (s + (e - m)) e ∧ Sd r L' e b ∧ ∀ i j, a ≤ i → i < s + (e - m) → s + (e - m) ≤ j → j < b → r (at_ L' i) < r (at_ L' j) := by
 refine ⟨fun i j k1 k2 k3 => ?_, fun i j k1 k2 k3 => ?_, fun i j k1 k2 k3 => ?_, fun i j k1 k2 k3 => ?_, fun i j k1 k2 k3 k4 => ?_⟩
 ·rw [t.out i (by omega), t.out j (by omega)]; exact h1 i j k1 k2 (by omega)
 ·rw [t.lo i k1 (by omega), t.lo j (by omega) k3]; exact h2 _ _ (by omega) (by omega) (by omega)
 ·rw [t.hi i k1 (by omega), t.hi j (by omega) k3]; exact h1 _ _ (by omega) (by omega) (by omega)
 ·rw [t.out i (by omega), t.out j (by omega)]; exact h2 i j (by omega) k2 k3
 ·by_cases d1 : i < s
  ·rw [t.out i (by omega)]
   by_cases d2 : j < e
   ·rw [t.hi j k3 d2]; exact h1 _ _ k1 (by omega) (by omega)
   ·rw [t.out j (by omega)]
    exact Nat.lt_of_le_of_lt (h1.le k1 (by omega) (by omega)) (Nat.lt_of_lt_of_le (c1 (by omega) (by omega)) (h2.le q3 (by omega) k4))
  ·rw [t.lo i (by omega) k2]
   by_cases d2 : j < e
   ·rw [t.hi j k3 d2]
    exact Nat.lt_of_le_of_lt (h2.le (by omega) (by omega) (by omega)) (Nat.lt_of_lt_of_le (c2 (by omega) (by omega)) (h1.le q1 (by omega) (by omega)))
   ·rw [t.out j (by omega)]; exact h2 _ _ (by omega) (by omega) k4
section
variable (cS : Int → Int → Int → Nat → List Pa → List Str → Nat → Mp → Option (List Pa)) (g : Nat) (K : List Str) (c : Nat) (M : Mp)
theorem sm_4 (i : Nat) : ∀ (n k : Nat) (L : List Pa), i - k ≤ n → k < i → i ≤ L.length → L.length ≤ 1000 →
  ∃ L', p_zcn_4 cS g K c M (L, (i : Int), (k : Int)) = some L' ∧ Rt L L' k (k + 1) i
 | n, k, L, hn, hk, hi, hl => by
  rw [u_zcn_4]
  simp only [b_zcn_4]
  rw [ar_sub1 (by omega) (by omega)]
  by_cases h : k < i - 1
  ·rw [lss_t (by omega), ar_add1 (by omega), at_idx (show k < L.length by omega), at_idx (show k + 1 < L.length by omega)]
   obtain ⟨x, hx⟩ : ∃ x, x = at_ L (k + 1) := ⟨_, rfl⟩
   obtain ⟨y, hy⟩ : ∃ y, y = at_ L k := ⟨_, rfl⟩
   rw [← hx, ← hy]
   obtain ⟨x5, ⟨x0, x1, x2, x3, x4⟩⟩ := x
   obtain ⟨y5, ⟨y0, y1, y2, y3, y4⟩⟩ := y
   simp only
   rw [pr_set (show k < L.length by omega)]
   simp only
   rw [at_idx (show k + 1 < (L.set k (.mk x5 (.mk x0 x1 x2 x3 x4))).length by simp; omega)]
   generalize at_ (L.set k (.mk x5 (.mk x0 x1 x2 x3 x4))) (k + 1) = z
   obtain ⟨z5, ⟨z0, z1, z2, z3, z4⟩⟩ := z
   simp only
   rw [pr_set (show k + 1 < (L.set k (.mk x5 (.mk x0 x1 x2 x3 x4))).length by simp; omega)]
   simp only
   rw [hx, hy]
   have hs : (L.set k (at_ L (k + 1))).set (k + 1) (at_ L k) = swp L k (k + 1) := rfl
   rw [hs]
   cases n with
   | zero => omega
   | succ n =>
    obtain ⟨L', g1, g2⟩ := sm_4 i n (k + 1) (swp L k (k + 1)) (by omega) (by omega) (by rw [swp_len]; omega) (by rw [swp_len]; omega)
    exact ⟨L', g1, g2.left (by omega) (by omega)⟩
  ·rw [lss_f (by omega)]
   exact ⟨L, rfl, Rt.triv (by omega) (by omega) (by omega)⟩
theorem sm_12 (i : Nat) : ∀ (n k : Nat) (L : List Pa), k - i ≤ n → i ≤ k → k < L.length → L.length ≤ 1000 →
  ∃ L', p_zcn_12 cS g K c M (L, (i : Int), (k : Int)) = some L' ∧ Rt L L' i k (k + 1)
 | n, k, L, hn, hk, hi, hl => by
  rw [u_zcn_12]
  simp only [b_zcn_12]
  by_cases h : i < k
  ·rw [gtr_t (by omega), ar_sub1 (by omega) (by omega), at_idx (show k < L.length by omega), at_idx (show k - 1 < L.length by omega)]
   obtain ⟨x, hx⟩ : ∃ x, x = at_ L (k - 1) := ⟨_, rfl⟩
   obtain ⟨y, hy⟩ : ∃ y, y = at_ L k := ⟨_, rfl⟩
   rw [← hx, ← hy]
   obtain ⟨x5, ⟨x0, x1, x2, x3, x4⟩⟩ := x
   obtain ⟨y5, ⟨y0, y1, y2, y3, y4⟩⟩ := y
   simp only
   rw [pr_set (show k < L.length by omega)]
   simp only
   rw [at_idx (show k - 1 < (L.set k (.mk x5 (.mk x0 x1 x2 x3 x4))).length by simp; omega)]
   generalize at_ (L.set k (.mk x5 (.mk x0 x1 x2 x3 x4))) (k - 1) = z
   obtain ⟨z5, ⟨z0, z1, z2, z3, z4⟩⟩ := z
   simp only
   rw [pr_set (show k - 1 < (L.set k (.mk x5 (.mk x0 x1 x2 x3 x4))).length by simp; omega)]
   simp only
   rw [hx, hy]
   have hs : (L.set k (at_ L (k - 1))).set (k - 1) (at_ L k) = swp L k (k - 1) := rfl
   rw [hs]
   cases n with
   | zero => omega
   | succ n =>
    obtain ⟨L', g1, g2⟩ := sm_12 i n (k - 1) (swp L k (k - 1)) (by omega) (by omega) (by rw [swp_len]; omega) (by rw [swp_len]; omega)
    have e : k - 1 + 1 = k := by omega
    rw [e] at g2
    exact ⟨L', g1, g2.right h hi⟩
  ·rw [gtr_f (by omega)]
   exact ⟨L, rfl, Rt.triv (by omega) (by omega) (by omega)⟩
variable (r ix : Pa → Nat) (hc : Cm K c M r ix)
include hc
theorem sm_1 (a b : Nat) : ∀ (n i j : Nat) (L : List Pa), j - i ≤ n → a + 1 ≤ i → i ≤ j → j ≤ b → b ≤ L.length → L.length ≤ 1000 → (∀ q, a + 1 ≤ q → q < b → ix (at_ L a) < ix (at_ L q)) →
  (a + 1 < i → r (at_ L (i - 1)) < r (at_ L a)) → (j < b → r (at_ L a) < r (at_ L j)) →
  ∃ (L' : List Pa) (e : Nat), p_zcn_1 cS g K c M (L, (a : Int), (i : Int), (j : Int)) = some L' ∧ Rt L L' a (a + 1) e ∧ a + 1 ≤ e ∧ e ≤ b ∧ (a + 1 < e → r (at_ L (e - 1)) < r (at_ L a)) ∧ (e < b → r (at_ L a) < r (at_ L e))
 | n, i, j, L, hn, hi, hij, hj, hb, hl, hx, k1, k2 => by
  rw [u_zcn_1]
  simp only [b_zcn_1]
  by_cases h : i < j
  ·rw [lss_t (by omega), half (by omega)]
   simp only
   rw [wrapN (by omega), at_idx (show (i + j) / 2 < L.length by omega), at_idx (show a < L.length by omega)]
   obtain ⟨z, c1, c2⟩ := hc (at_ L ((i + j) / 2)) (at_ L a)
   have c3 := c2 (hx _ (by omega) (by omega))
   obtain ⟨x, ex⟩ : ∃ x, x = at_ L ((i + j) / 2) := ⟨_, rfl⟩
   obtain ⟨y, ey⟩ : ∃ y, y = at_ L a := ⟨_, rfl⟩
   rw [← ex, ← ey] at c1 c3 ⊢
   obtain ⟨x5, ⟨x0, x1, x2, x3, x4⟩⟩ := x
   obtain ⟨y5, ⟨y0, y1, y2, y3, y4⟩⟩ := y
   simp only
   rw [c1]
   simp only
   rw [ex, ey] at c3
   rw [ey]
   cases n with
   | zero => omega
   | succ n =>
    rcases c3 with ⟨c2, c3⟩ | ⟨c2, c3⟩
    ·rw [lss_t c2, ar_add1 (by omega)]
     exact sm_1 a b n ((i + j) / 2 + 1) j L (by omega) (by omega) (by omega) hj hb hl hx (fun _ => c3) k2
    ·rw [lss_f (by omega)]
     exact sm_1 a b n i ((i + j) / 2) L (by omega) (by omega) (by omega) (by omega) hb hl hx k1 (fun _ => c3)
  ·rw [lss_f (by omega)]
   obtain ⟨L', g1, g2⟩ := sm_4 cS g K c M i (i - a) a L (by omega) (by omega) (by omega) hl
   simp only
   rw [g1]
   have e : i = j := by omega
   subst e
   exact ⟨L', i, rfl, g2, hi, hj, k1, k2⟩
theorem sm_9 (a m : Nat) : ∀ (n i j : Nat) (L : List Pa), j - i ≤ n → a ≤ i → i ≤ j → j ≤ m → m < L.length → L.length ≤ 1000 → (∀ q, a ≤ q → q < m → ix (at_ L q) < ix (at_ L m)) →
  (a < i → r (at_ L (i - 1)) < r (at_ L m)) → (j < m → r (at_ L m) < r (at_ L j)) →
  ∃ (L' : List Pa) (e : Nat), p_zcn_9 cS g K c M (L, (m : Int), (i : Int), (j : Int)) = some L' ∧ Rt L L' e m (m + 1) ∧ a ≤ e ∧ e ≤ m ∧ (a < e → r (at_ L (e - 1)) < r (at_ L m)) ∧ (e < m → r (at_ L m) < r (at_ L e))
 | n, i, j, L, hn, hi, hij, hj, hb, hl, hx, k1, k2 => by
  rw [u_zcn_9]
  simp only [b_zcn_9]
  by_cases h : i < j
  ·rw [lss_t (by omega), half (by omega)]
   simp only
   rw [wrapN (by omega), at_idx (show (i + j) / 2 < L.length by omega), at_idx (show m < L.length by omega)]
   obtain ⟨z, c1, c2⟩ := hc (at_ L m) (at_ L ((i + j) / 2))
   have c3 := c2 (hx _ (by omega) (by omega))
   obtain ⟨x, ex⟩ : ∃ x, x = at_ L m := ⟨_, rfl⟩
   obtain ⟨y, ey⟩ : ∃ y, y = at_ L ((i + j) / 2) := ⟨_, rfl⟩
   rw [← ex, ← ey] at c1 c3 ⊢
   obtain ⟨x5, ⟨x0, x1, x2, x3, x4⟩⟩ := x
   obtain ⟨y5, ⟨y0, y1, y2, y3, y4⟩⟩ := y
   simp only
   rw [c1]
   simp only
   rw [ex, ey] at c3
   rw [ex]
   cases n with
   | zero => omega
   | succ n =>
    rcases c3 with ⟨c2, c3⟩ | ⟨c2, c3⟩
    ·rw [lss_t c2]
     exact sm_9 a m n i ((i + j) / 2) L (by omega) (by omega) (by omega) (by omega) hb hl hx k1 (fun _ => c3)
    ·rw [lss_f (by omega), ar_add1 (by omega)]
     exact sm_9 a m n ((i + j) / 2 + 1) j L (by omega) (by omega) (by omega) hj hb hl hx (fun _ => c3) k2
  ·rw [lss_f (by omega)]
   obtain ⟨L', g1, g2⟩ := sm_12 cS g K c M i (m - i) m L (by omega) (by omega) (by omega) hl
   simp only
   rw [g1]
   have e : i = j := by omega
   subst e
   exact ⟨L', i, rfl, g2, hi, hj, k1, k2⟩
theorem sm_18 (a m b d lo hi : Nat) (ham : a < m) (hmb : m < b) (q1 : a ≤ lo) (q2 : hi ≤ m) (q3 : hi ≤ d) (q4 : d + m ≤ b + lo) (q5 : d < b) (q6 : d + m = hi + m ∨ hi = m) : ∀ (n s q : Nat) (L : List Pa), q - s ≤ n → lo ≤ s → s ≤ q → q ≤ hi → b ≤ L.length → L.length ≤ 1000 → (∀ i j, a ≤ i → i < m → m ≤ j → j < b → ix (at_ L i) < ix (at_ L j)) →
  (lo < s → r (at_ L (s - 1)) < r (at_ L (d + m - s))) → (q < hi → r (at_ L (d + m - 1 - q)) < r (at_ L q)) →
  ∃ (L' : List Pa) (e : Nat), p_zcn_18 cS g K c M (L, (a : Int), (m : Int), (b : Int), (d : Int), ((d + m : Nat) : Int), (s : Int), (q : Int), ((d + m - 1 : Nat) : Int)) = p_zcn_21 cS g K c M (L', (a : Int), (b : Int), (d : Int), (e : Int), ((d + m - e : Nat) : Int)) ∧ Rt L L' e m (d + m - e) ∧ lo ≤ e ∧ e ≤ hi ∧ (lo < e → r (at_ L (e - 1)) < r (at_ L (d + m - e))) ∧ (e < hi → r (at_ L (d + m - 1 - e)) < r (at_ L e))
 | n, s, q, L, hn, hs, hsq, hq, hb, hl, hx, k1, k2 => by
  rw [u_zcn_18]
  simp only [b_zcn_18]
  by_cases h : s < q
  ·rw [lss_t (by omega), half (by omega)]
   simp only
   rw [wrapN (by omega), ar_sub (by omega) (by omega), at_idx (show (s + q) / 2 < L.length by omega), at_idx (show d + m - 1 - (s + q) / 2 < L.length by omega)]
   obtain ⟨z, c1, c2⟩ := hc (at_ L (d + m - 1 - (s + q) / 2)) (at_ L ((s + q) / 2))
   have c3 := c2 (hx _ _ (by omega) (by omega) (by omega) (by omega))
   obtain ⟨x, ex⟩ : ∃ x, x = at_ L (d + m - 1 - (s + q) / 2) := ⟨_, rfl⟩
   obtain ⟨y, ey⟩ : ∃ y, y = at_ L ((s + q) / 2) := ⟨_, rfl⟩
   rw [← ex, ← ey] at c1 c3 ⊢
   obtain ⟨x5, ⟨x0, x1, x2, x3, x4⟩⟩ := x
   obtain ⟨y5, ⟨y0, y1, y2, y3, y4⟩⟩ := y
   simp only
   rw [c1]
   simp only
   rw [ex, ey] at c3
   cases n with
   | zero => omega
   | succ n =>
    rcases c3 with ⟨c2, c3⟩ | ⟨c2, c3⟩
    ·rw [lss_t c2]
     exact sm_18 a m b d lo hi ham hmb q1 q2 q3 q4 q5 q6 n s ((s + q) / 2) L (by omega) (by omega) (by omega) (by omega) hb hl hx k1 (fun _ => c3)
    ·rw [lss_f (by omega), ar_add1 (by omega)]
     refine sm_18 a m b d lo hi ham hmb q1 q2 q3 q4 q5 q6 n ((s + q) / 2 + 1) q L (by omega) (by omega) (by omega) hq hb hl hx (fun _ => ?_) k2
     have e1 : (s + q) / 2 + 1 - 1 = (s + q) / 2 := by omega
     have e2 : d + m - ((s + q) / 2 + 1) = d + m - 1 - (s + q) / 2 := by omega
     rw [e1, e2]; exact c3
  ·have e : s = q := by omega
   subst e
   rw [lss_f (by omega), ar_sub (by omega) (by omega)]
   simp only
   have fin : ∀ o : Option (List Pa), (match (match o with | none => none | some o91 => some (.inr o91) : Option (T_zcn_18 ⊕ List Pa)) with | some (.inl t) => p_zcn_18 cS g K c M t | some (.inr r) => some r | none => none) = o := by intro o; cases o <;> rfl
   by_cases e1 : s < m
   ·rw [lss_t (by omega)]
    simp only
    by_cases e2 : m < d + m - s
    ·rw [lss_t (by omega)]
     obtain ⟨L', g1, g2, g3⟩ := rotate g K c M s m (d + m - s) L e1 e2 (by omega) hl
     simp only
     rw [g1]
     simp only [r_len]
     rw [g2, eql_t rfl]
     exact ⟨L', s, fin _, Rt.of_rotate (by omega) (by omega) g2 g3, hs, hq, k1, k2⟩
    ·rw [lss_f (by omega)]
     exact ⟨L, s, fin _, Rt.triv (by omega) (by omega) (by omega), hs, hq, k1, k2⟩
   ·rw [lss_f (by omega)]
    exact ⟨L, s, fin _, Rt.triv (by omega) (by omega) (by omega), hs, hq, k1, k2⟩
end
/-! The stable sort. -/
section
variable (g : Nat) (K : List Str) (c : Nat) (M : Mp) (r ix : Pa → Nat) (hc : Cm K c M r ix)
include hc
theorem symMerge_k : ∀ (k a m b : Nat) (L : List Pa), b - a ≤ k → a < m → m < b → b ≤ L.length → L.length ≤ 1000 → Sd r L a m → Sd r L m b → (∀ i j, a ≤ i → i < m → m ≤ j → j < b → ix (at_ L i) < ix (at_ L j)) →
  ∃ L', pk_zcn k (a : Int) (m : Int) (b : Int) g L K c M = some L' ∧ Rs L L' a b ∧ Sd r L' a b
 | 0, a, m, b, L, hk, _, _, _, _, _, _, _ => by omega
 | k + 1, a, m, b, L, hk, ham, hmb, hb, hl, s1, s2, hx => by
  show ∃ L', p_zcn_0 (pk_zcn k) g K c M ((a : Int), (m : Int), (b : Int), L) = some L' ∧ _
  unfold p_zcn_0
  simp only [b_zcn_0]
  rw [ar_sub (by omega) (by omega), ar_sub (by omega) (by omega)]
  by_cases e1 : m = a + 1
  ·subst e1
   rw [eql_t (by omega)]
   obtain ⟨L', e, g1, g2, g3, g4, g5, g6⟩ := sm_1 (pk_zcn k) g K c M r ix hc a b (b - (a + 1)) (a + 1) b L (by omega) (by omega) (by omega) (by omega) hb hl (fun q q1 q2 => hx a q (by omega) (by omega) q1 q2) (fun h => by omega) (fun h => by omega)
   refine ⟨L', g1, (g2.rs (by omega) g3).wide (by omega) g4, ?_⟩
   obtain ⟨m1, m2, m3, m4, m5⟩ := merge s1 s2 (Nat.le_refl a) (by omega) g3 g4 (fun h => by omega) (fun h _ => g5 h) g2
   refine m2.join (m3.join1 m4 fun h1 h2 => ?_) m5
   rw [g2.hi _ (by omega) (by omega), g2.out _ (by omega)]
   have : e - 1 - (e - (a + 1)) = a := by omega
   rw [this]; exact g6 h2
  ·rw [eql_f (by omega)]
   by_cases e2 : b = m + 1
   ·subst e2
    simp only
    rw [eql_t (by omega)]
    obtain ⟨L', e, g1, g2, g3, g4, g5, g6⟩ := sm_9 (pk_zcn k) g K c M r ix hc a m (m - a) a m L (by omega) (by omega) (by omega) (by omega) (by omega) hl (fun q q1 q2 => hx q m q1 q2 (by omega) (by omega)) (fun h => by omega) (fun h => by omega)
    refine ⟨L', g1, (g2.rs g4 (by omega)).wide g3 (by omega), ?_⟩
    obtain ⟨m1, m2, m3, m4, m5⟩ := merge s1 s2 g3 g4 (by omega) (Nat.le_refl _) (fun _ h => by omega) (fun _ h => g6 h) g2
    refine (m1.join1 m2 fun h1 h2 => ?_).join m3 m5
    rw [g2.out _ (by omega), g2.lo _ (by omega) (by omega)]
    have : e + (m - e) = m := by omega
    rw [this]; exact g5 h1
   ·simp only
    rw [eql_f (by omega), half (by omega)]
    simp only
    rw [wrapN (by omega), ar_add (by omega)]
    obtain ⟨d, hd⟩ : ∃ d, d = (a + b) / 2 := ⟨_, rfl⟩
    rw [← hd]
    have main : ∀ lo hi : Nat, (lo = a ∧ hi = m ∧ m ≤ d) ∨ (lo = d + m - b ∧ hi = d ∧ d < m) → ∃ L', p_zcn_17 (pk_zcn k) g K c M (L, (a : Int), (m : Int), (b : Int), (d : Int), ((d + m : Nat) : Int), (lo : Int), (hi : Int)) = some L' ∧ Rs L L' a b ∧ Sd r L' a b := by
     intro lo hi hlo
     unfold p_zcn_17
     simp only [b_zcn_17]
     rw [ar_sub1 (by omega) (by omega)]
     obtain ⟨L1, e, g1, g2, g3, g4, g5, g6⟩ := sm_18 (pk_zcn k) g K c M r ix hc a m b d lo hi ham hmb (by omega) (by omega) (by omega) (by omega) (by omega) (by omega) (hi - lo) lo hi L (by omega) (by omega) (by omega) (by omega) hb hl hx (fun h => by omega) (fun h => by omega)
     rw [g1]
     have hem : e ≤ m := by omega
     have hmd : m ≤ d + m - e := by omega
     obtain ⟨m1, m2, m3, m4, m5⟩ := merge s1 s2 (show a ≤ e by omega) hem hmd (show d + m - e ≤ b by omega) (fun h h' => g5 (by omega)) (fun h h' => by
      have := g6 (by omega)
      rw [show d + m - e - 1 = d + m - 1 - e by omega]; exact this) g2
     rw [show e + (d + m - e - m) = d by omega] at m2 m3 m5
     have r1 : Rs L L1 a b := (g2.rs hem hmd).wide (by omega) (by omega)
     have hL1 : L1.length = L.length := g2.len
     have second : ∀ L2 : List Pa, Rs L1 L2 a d → Sd r L2 a d → ∃ L', p_zcn_22 (pk_zcn k) g K c M (L2, (b : Int), (d : Int), ((d + m - e : Nat) : Int)) = some L' ∧ Rs L L' a b ∧ Sd r L' a b := by
      intro L2 r2 t2
      unfold p_zcn_22
      simp only [b_zcn_22]
      have t3 : Sd r L2 d (d + m - e) := m3.keep r2 (by omega)
      have t4 : Sd r L2 (d + m - e) b := m4.keep r2 (by omega)
      have done : ∀ L3 : List Pa, Rs L2 L3 d b → Sd r L3 d b → Rs L L3 a b ∧ Sd r L3 a b := by
       intro L3 r3 t5
       refine ⟨(r1.trans (r2.wide (by omega) (by omega))).trans (r3.wide (by omega) (by omega)), (t2.keep r3 (by omega)).join t5 fun i j i1 i2 j1 j2 => ?_⟩
       rw [r3.out i (by omega)]
       refine r3.all (p := fun y => r (at_ L2 i) < r y) (fun j j1 j2 => ?_) j j1 j2
       rw [r2.out j (by omega)]
       exact r2.all (p := fun x => r x < r (at_ L1 j)) (fun i i1 i2 => m5 i j i1 i2 j1 j2) i i1 i2
      by_cases f1 : d < d + m - e
      ·rw [lss_t (by omega)]
       simp only
       by_cases f2 : d + m - e < b
       ·rw [lss_t (by omega)]
        obtain ⟨L3, h1, h2, h3⟩ := symMerge_k k d (d + m - e) b L2 (by omega) f1 f2 (by rw [r2.len]; omega) (by rw [r2.len]; omega) t3 t4 (fun i j i1 i2 j1 j2 => by
         rw [r2.out i (by omega), r2.out j (by omega), g2.hi i (by omega) i2, g2.out j (by omega)]
         exact hx _ _ (by omega) (by omega) (by omega) j2)
        simp only [h1, r_len]
        rw [h2.len, eql_t rfl]
        exact ⟨L3, rfl, done L3 h2 h3⟩
       ·rw [lss_f (by omega)]
        exact ⟨L2, rfl, done L2 (Rs.refl _ _ _) (by rw [show b = d + m - e by omega]; exact t3)⟩
      ·rw [lss_f (by omega)]
       exact ⟨L2, rfl, done L2 (Rs.refl _ _ _) (by rw [show d + m - e = d by omega] at t4; exact t4)⟩
     unfold p_zcn_21
     simp only [b_zcn_21]
     by_cases f1 : a < e
     ·rw [lss_t (by omega)]
      simp only
      by_cases f2 : e < d
      ·rw [lss_t (by omega)]
       obtain ⟨L2, h1, h2, h3⟩ := symMerge_k k a e d L1 (by omega) f1 f2 (by omega) (by omega) m1 m2 (fun i j i1 i2 j1 j2 => by
        rw [g2.out i (by omega), g2.lo j j1 (by omega)]
        exact hx _ _ i1 (by omega) (by omega) (by omega))
       simp only [h1, r_len]
       rw [h2.len, eql_t rfl]
       exact second L2 h2 h3
      ·rw [lss_f (by omega)]
       exact second L1 (Rs.refl _ _ _) (by rw [show d = e by omega]; exact m1)
     ·rw [lss_f (by omega)]
      exact second L1 (Rs.refl _ _ _) (by rw [show e = a by omega] at m2; exact m2)
    by_cases e3 : d < m
    ·rw [gtr_t (by omega)]
     simp only
     rw [ar_sub (by omega) (by omega)]
     exact main (d + m - b) d (by omega)
    ·rw [gtr_f (by omega)]
     exact main a m (by omega)
theorem symMerge (a m b : Nat) (L : List Pa) (ham : a < m) (hmb : m < b) (hb : b ≤ L.length) (hl : L.length ≤ 1000) (s1 : Sd r L a m) (s2 : Sd r L m b) (hx : ∀ i j, a ≤ i → i < m → m ≤ j → j < b → ix (at_ L i) < ix (at_ L j)) :
  ∃ L', p_zcn (a : Int) (m : Int) (b : Int) g L K c M = some L' ∧ Rs L L' a b ∧ Sd r L' a b := symMerge_k g K c M r ix hc 1000000 a m b L (by omega) ham hmb hb hl s1 s2 hx
end
/-! The stable sort: blocks of twenty, then doubled. -/
def Blk (r ix : Pa → Nat) (L : List Pa) (p q : Nat) : Prop := Sd r L p q ∧ ∀ i, p ≤ i → i < q → p ≤ ix (at_ L i) ∧ ix (at_ L i) < q
theorem Blk.keep {r ix : Pa → Nat} {L L' : List Pa} {a b p q : Nat} (h : Rs L L' a b) (hd : q ≤ a ∨ b ≤ p) (s : Blk r ix L p q) : Blk r ix L' p q :=
 ⟨s.1.keep h hd, fun i h1 h2 => by rw [h.out i (by omega)]; exact s.2 i h1 h2⟩
theorem dvd_step {d p a : Nat} (h1 : d ∣ p) (h2 : d ∣ a) (h : p < a) : p + d ≤ a := by
 obtain ⟨x, rfl⟩ := h1
 obtain ⟨y, rfl⟩ := h2
 have : x < y := by
  by_cases e : x < y
  ·exact e
  ·have := Nat.mul_le_mul_left d (show y ≤ x by omega); omega
 have := Nat.mul_le_mul_left d (show x + 1 ≤ y by omega)
 rw [Nat.mul_add, Nat.mul_one] at this
 exact this
section
variable (g : Nat) (K : List Str) (c : Nat) (M : Mp) (r ix : Pa → Nat) (hc : Cm K c M r ix)
include hc
theorem mergeBlk {L : List Pa} {a m b : Nat} (ham : a < m) (hmb : m < b) (hb : b ≤ L.length) (hl : L.length ≤ 1000) (s1 : Blk r ix L a m) (s2 : Blk r ix L m b) :
  ∃ L', p_zcn (a : Int) (m : Int) (b : Int) g L K c M = some L' ∧ Rs L L' a b ∧ Blk r ix L' a b := by
 obtain ⟨L', h1, h2, h3⟩ := symMerge g K c M r ix hc a m b L ham hmb hb hl s1.1 s2.1 (fun i j i1 i2 j1 j2 => by have := s1.2 i i1 i2; have := s2.2 j j1 j2; omega)
 refine ⟨L', h1, h2, h3, fun i i1 i2 => h2.all (p := fun x => a ≤ ix x ∧ ix x < b) (fun i i1 i2 => ?_) i i1 i2⟩
 by_cases e : i < m
 ·have := s1.2 i i1 e; omega
 ·have := s2.2 i (by omega) i2; omega
theorem stb_6 (n bs : Nat) (h20 : 20 ≤ bs) (hbs : bs ≤ 1000) (hn : n ≤ 1000) : ∀ (m a : Nat) (L : List Pa), n - a ≤ m → 2 * bs ∣ a → a ≤ n → L.length = n → (∀ p, 2 * bs ∣ p → p < a → Blk r ix L p (p + 2 * bs)) → (∀ p, bs ∣ p → a ≤ p → p < n → Blk r ix L p (min (p + bs) n)) →
  ∃ L', p_zcj_6 g K c M (L, (n : Int), (bs : Int), (a : Int), ((a + 2 * bs : Nat) : Int)) = some (.inl (L', (n : Int), ((2 * bs : Nat) : Int))) ∧ Rs L L' 0 n ∧ ∀ p, 2 * bs ∣ p → p < n → Blk r ix L' p (min (p + 2 * bs) n)
 | m, a, L, hm, hda, ha, hl, h1, h2 => by
  rw [u_zcj_6]
  simp only [b_zcj_6]
  have hdb : bs ∣ a := Nat.dvd_trans ⟨2, by omega⟩ hda
  have h9 : ∀ L : List Pa, p_zcj_9 g K c M (L, (n : Int), (bs : Int)) = some (.inl (L, (n : Int), ((2 * bs : Nat) : Int))) := by
   intro L
   unfold p_zcj_9
   simp only [b_zcj_9]
   rw [r_mul (by unfold fit64; omega), show (bs : Int) * 2 = ((2 * bs : Nat) : Int) by omega]
  by_cases h : a + 2 * bs ≤ n
  ·rw [leq_t (by omega)]
   simp only
   rw [ar_add (by omega)]
   have q1 := h2 a hdb (Nat.le_refl _) (by omega)
   have q2 := h2 (a + bs) (Nat.dvd_add hdb (Nat.dvd_refl _)) (by omega) (by omega)
   rw [show min (a + bs) n = a + bs by omega] at q1
   rw [show min (a + bs + bs) n = a + 2 * bs by omega] at q2
   obtain ⟨L1, g1, g2, g3⟩ := mergeBlk g K c M r ix hc (by omega) (by omega) (by omega) (by omega) q1 q2
   simp only [g1, r_len]
   rw [g2.len, eql_t rfl, r_mul (by unfold fit64; omega), show 2 * (bs : Int) = ((2 * bs : Nat) : Int) by omega, ar_add (by omega)]
   cases m with
   | zero => omega
   | succ m =>
    obtain ⟨L', k1, k2, k3⟩ := stb_6 n bs h20 hbs hn m (a + 2 * bs) L1 (by omega) (Nat.dvd_add hda (Nat.dvd_refl _)) h (by rw [g2.len]; exact hl)
     (fun p p1 p2 => by
      by_cases e : p < a
      ·exact (h1 p p1 e).keep g2 (.inl (dvd_step p1 hda e))
      ·by_cases e2 : p = a
       ·subst e2; exact g3
       ·have := dvd_step hda p1 (by omega); omega)
     (fun p p1 p2 p3 => (h2 p p1 (by omega) p3).keep g2 (.inr p2))
    exact ⟨L', k1, (g2.wide (by omega) (by omega)).trans k2, k3⟩
  ·rw [leq_f (by omega)]
   simp only
   rw [ar_add (by omega)]
   have fin : ∀ L1 : List Pa, Rs L L1 a n → Blk r ix L1 a n → ∀ p, 2 * bs ∣ p → p < n → Blk r ix L1 p (min (p + 2 * bs) n) := by
    intro L1 g2 g3 p p1 p2
    by_cases e : p < a
    ·have := dvd_step p1 hda e
     rw [show min (p + 2 * bs) n = p + 2 * bs by omega]
     exact (h1 p p1 e).keep g2 (.inl this)
    ·by_cases e2 : p = a
     ·subst e2; rw [show min (p + 2 * bs) n = n by omega]; exact g3
     ·have := dvd_step hda p1 (by omega); omega
   by_cases e : a + bs < n
   ·rw [lss_t (by omega)]
    have q1 := h2 a hdb (Nat.le_refl _) (by omega)
    have q2 := h2 (a + bs) (Nat.dvd_add hdb (Nat.dvd_refl _)) (by omega) (by omega)
    rw [show min (a + bs) n = a + bs by omega] at q1
    rw [show min (a + bs + bs) n = n by omega] at q2
    obtain ⟨L1, g1, g2, g3⟩ := mergeBlk g K c M r ix hc (by omega) (by omega) (by omega) (by omega) q1 q2
    simp only [g1, r_len]
    rw [g2.len, eql_t rfl]
    simp only
    rw [h9]
    exact ⟨L1, rfl, g2.wide (by omega) (by omega), fin L1 g2 g3⟩
   ·rw [lss_f (by omega)]
    simp only
    rw [h9]
    refine ⟨L, rfl, Rs.refl _ _ _, fin L (Rs.refl _ _ _) ?_⟩
    by_cases e2 : a < n
    ·have q1 := h2 a hdb (Nat.le_refl _) e2
     rw [show min (a + bs) n = n by omega] at q1
     exact q1
    ·exact ⟨fun i j i1 i2 i3 => by omega, fun i i1 i2 => by omega⟩
theorem stb_4 (n : Nat) (hn : n ≤ 1000) : ∀ (m bs : Nat) (L : List Pa), n - bs ≤ m → 20 ≤ bs → bs ≤ 2000 → L.length = n → (∀ p, bs ∣ p → p < n → Blk r ix L p (min (p + bs) n)) →
  ∃ L', p_zcj_4 g K c M (L, (n : Int), (bs : Int)) = some L' ∧ Rs L L' 0 n ∧ Sd r L' 0 n
 | m, bs, L, hm, h20, h2000, hl, h => by
  rw [u_zcj_4]
  simp only [b_zcj_4]
  by_cases e : bs < n
  ·rw [lss_t (by omega)]
   simp only
   rw [r_mul (by unfold fit64; omega), show 2 * (bs : Int) = ((0 + 2 * bs : Nat) : Int) by omega]
   obtain ⟨L1, g1, g2, g3⟩ := stb_6 g K c M r ix hc n bs h20 (by omega) hn n 0 L (by omega) ⟨0, by omega⟩ (by omega) hl (fun p _ h => by omega) (fun p p1 _ p3 => h p p1 p3)
   rw [show (0 : Int) = ((0 : Nat) : Int) from rfl, g1]
   simp only
   cases m with
   | zero => omega
   | succ m =>
    obtain ⟨L', k1, k2, k3⟩ := stb_4 n hn m (2 * bs) L1 (by omega) (by omega) (by omega) (by rw [g2.len]; exact hl) g3
    exact ⟨L', k1, g2.trans k2, k3⟩
  ·rw [lss_f (by omega)]
   refine ⟨L, rfl, Rs.refl _ _ _, ?_⟩
   by_cases e2 : n = 0
   ·intro i j i1 i2 i3; omega
   ·have := (h 0 ⟨0, by omega⟩ (by omega)).1
    rw [show min (0 + bs) n = n by omega] at this
    exact this
theorem stb_1 (n : Nat) (hn : n ≤ 1000) : ∀ (m a : Nat) (L : List Pa), n - a ≤ m → 20 ∣ a → a ≤ n → L.length = n → (∀ p, 20 ∣ p → p < a → Blk r ix L p (p + 20)) → (∀ k, a ≤ k → k < n → ix (at_ L k) = k) →
  ∃ L', p_zcj_1 g K c M (L, (n : Int), 20, (a : Int), ((a + 20 : Nat) : Int)) = some L' ∧ Rs L L' 0 n ∧ Sd r L' 0 n
 | m, a, L, hm, hda, ha, hl, h1, h2 => by
  rw [u_zcj_1]
  simp only [b_zcj_1]
  by_cases h : a + 20 ≤ n
  ·rw [leq_t (by omega)]
   simp only
   obtain ⟨L1, g1, g2, g3⟩ := insSort g K c M r ix hc a (a + 20) L (by omega) (by omega) (by omega) (fun k k1 k2 => h2 k k1 (by omega))
   simp only [g1, r_len]
   rw [g2.len, eql_t rfl, show (20 : Int) = ((20 : Nat) : Int) from rfl, ar_add (by omega)]
   cases m with
   | zero => omega
   | succ m =>
    obtain ⟨L', k1, k2, k3⟩ := stb_1 n hn m (a + 20) L1 (by omega) (by omega) h (by rw [g2.len]; exact hl)
     (fun p p1 p2 => by
      by_cases e : p < a
      ·exact (h1 p p1 e).keep g2 (.inl (by omega))
      ·have e2 : p = a := by omega
       subst e2
       exact ⟨g3, fun i i1 i2 => g2.all (p := fun x => p ≤ ix x ∧ ix x < p + 20) (fun i i1 i2 => by rw [h2 i i1 (by omega)]; omega) i i1 i2⟩)
     (fun k k1 k2 => by rw [g2.out k (by omega)]; exact h2 k (by omega) k2)
    exact ⟨L', k1, (g2.wide (by omega) (by omega)).trans k2, k3⟩
  ·rw [leq_f (by omega)]
   simp only
   obtain ⟨L1, g1, g2, g3⟩ := insSort g K c M r ix hc a n L (by omega) (by omega) (by omega) (fun k k1 k2 => h2 k k1 (by omega))
   simp only [g1, r_len]
   rw [g2.len, eql_t rfl]
   obtain ⟨L', k1, k2, k3⟩ := stb_4 g K c M r ix hc n hn n 20 L1 (by omega) (by omega) (by omega) (by rw [g2.len]; exact hl)
    (fun p p1 p2 => by
     by_cases e : p < a
     ·rw [show min (p + 20) n = p + 20 by omega]; exact (h1 p p1 e).keep g2 (.inl (by omega))
     ·have e2 : p = a := by omega
      subst e2
      rw [show min (p + 20) n = n by omega]
      exact ⟨g3, fun i i1 i2 => g2.all (p := fun x => p ≤ ix x ∧ ix x < n) (fun i i1 i2 => by rw [h2 i i1 (by omega)]; omega) i i1 i2⟩)
   simp only
   rw [show (20 : Int) = ((20 : Nat) : Int) from rfl, k1]
   exact ⟨L', rfl, (g2.wide (by omega) (by omega)).trans k2, k3⟩
theorem sortStable (L : List Pa) (hl : L.length ≤ 1000) (h : ∀ k, k < L.length → ix (at_ L k) = k) :
  ∃ L', p_zcd g L K c M = some L' ∧ Rs L L' 0 L.length ∧ Sd r L' 0 L.length := by
 show ∃ L', p_zcd_0 g K c M L = some L' ∧ _
 unfold p_zcd_0
 simp only [b_zcd_0, r_len]
 have e : p_zcj (L.length : Int) g L K c M = p_zcj_1 g K c M (L, (L.length : Int), 20, ((0 : Nat) : Int), ((0 + 20 : Nat) : Int)) := by
  show p_zcj_0 g K c M ((L.length : Int), L) = _
  unfold p_zcj_0
  simp only [b_zcj_0]
  rfl
 obtain ⟨L', k1, k2, k3⟩ := stb_1 g K c M r ix hc L.length hl L.length 0 L (by omega) ⟨0, by omega⟩ (by omega) rfl (fun p _ h => by omega) (fun k _ h2 => h k h2)
 rw [e, k1]
 simp only
 rw [k2.len, eql_t rfl]
 exact ⟨L', rfl, k2, k3⟩
end
end Go.Abs.T
