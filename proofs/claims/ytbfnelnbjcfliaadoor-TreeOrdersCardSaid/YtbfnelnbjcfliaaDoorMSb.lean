import Derived.Test.YtbfnelnbjcfliaaDoorMSa
import Derived.Test.YtbfnelnbjcfliaaDoorMTa
/-! An object's pairs by a row of keys: the tree's. -/
set_option linter.unusedVariables false
set_option linter.unusedSimpArgs false
namespace Go.Abs.T
open M
def ixf (f : List Par) (x : Par) : Nat := (f.map keyOf).idxOf (keyOf x)
def plf (K : List Str) (x : Par) : Nat := K.idxOf (keyOf x)
def rkf (K : List Str) (f : List Par) (x : Par) : Nat := plf K x * 1000 + ixf f x
theorem ix_le (f : List Par) (x : Par) : ixf f x ≤ f.length := by
 have := List.idxOf_le_length (l := f.map keyOf) (a := keyOf x)
 simpa [ixf] using this
theorem ix_at {f : List Par} (h : (f.map keyOf).Nodup) {i : Nat} (hi : i < f.length) : ixf f f[i] = i := by
 have := List.Nodup.idxOf_getElem h i (by simpa using hi)
 simpa [ixf] using this
theorem key_inj {f : List Par} (h : (f.map keyOf).Nodup) {x y : Par} (hx : x ∈ f) (hy : y ∈ f) (e : keyOf x = keyOf y) : x = y := by
 obtain ⟨i, hi, rfl⟩ := List.mem_iff_getElem.1 hx
 obtain ⟨j, hj, rfl⟩ := List.mem_iff_getElem.1 hy
 have h1 := ix_at h hi
 have h2 := ix_at h hj
 have : i = j := by rw [← h1, ← h2]; unfold ixf; rw [e]
 subst this; rfl
theorem row_nodup {f : List Par} (h : (f.map keyOf).Nodup) : f.Nodup := by
 unfold List.Nodup at *
 rw [List.pairwise_map] at h
 exact h.imp fun h e => h (by rw [e])
theorem at_getElem {L : List Par} {i : Nat} (h : i < L.length) : at_ L i = L[i] := by
 have := at_get h
 rw [List.getElem?_eq_getElem h] at this
 injection this with this
 exact this.symm
theorem row_of {r : Par → Nat} {L L' : List Par} (h : Rs L L' 0 L.length) (s : Sd r L' 0 L.length) (hn : L.Nodup) : L'.Perm L ∧ L'.Pairwise fun x y => r x < r y := by
 have hp : L'.Pairwise fun x y => r x < r y := List.pairwise_iff_getElem.2 fun i j hi hj hij => by
  have := s i j (Nat.zero_le _) hij (by rw [← h.len]; exact hj)
  rwa [at_getElem hi, at_getElem hj] at this
 have hm : ∀ (A : List Par) (x : Par), A.length = L.length → (x ∈ A ↔ In A 0 L.length x) := fun A x e => by
  constructor
  ·intro hx
   obtain ⟨i, hi, rfl⟩ := List.mem_iff_getElem.1 hx
   exact ⟨i, Nat.zero_le _, by omega, at_getElem hi⟩
  ·rintro ⟨i, _, hi, rfl⟩
   rw [at_getElem (show i < A.length by omega)]
   exact List.getElem_mem _
 refine ⟨(List.perm_ext_iff_of_nodup (hp.imp fun h e => by subst e; omega) hn).2 fun x => ?_, hp⟩
 rw [hm L' x h.len, hm L x rfl]
 exact h.mem x
/-! ## Places by key -/
def isPl (K : List Str) (i : Nat) (M : Mp) : Prop := ∀ k, Pr.mfind k M = if k ∈ K.take i then some ((K.idxOf k : Nat) : Int) else none
theorem idx_new {K : List Str} {i : Nat} (hi : i < K.length) (h : K[i] ∉ K.take i) : K.idxOf K[i] = i := by
 have hm : K[i] ∈ K := List.getElem_mem hi
 have hlt := List.idxOf_lt_length_iff.2 hm
 have hg := List.getElem_idxOf hlt
 by_cases e : K.idxOf K[i] < i
 ·exact absurd (List.mem_take_iff_getElem.2 ⟨K.idxOf K[i], by omega, hg⟩) h
 ·by_cases e2 : i < K.idxOf K[i]
  ·have := List.not_of_lt_findIdx (p := (· == K[i])) (xs := K) (i := i) e2
   simp at this
  ·omega
theorem ord_2 (a b : Int) (s : Str) (l : List Val) (f : List Par) (K : List Str) (hK : K.length ≤ 100) (o0 o1 : Int) (o2 : Str) (o3 : List Val) (o4 : List Par) : ∀ (m i c : Nat) (M : Mp), K.length - i ≤ m → i ≤ K.length → (K.take i).Nodup → isPl K i M →
  (¬ K.Nodup ∧ p_zcx (a, b, s, l, f, K, K, (K.length : Int), (i : Int), o0, o1, o2, o3, o4, c, M) = some (.mk 0 0 [] [] [], 7)) ∨
  (K.Nodup ∧ ∃ c' M', isPl K K.length M' ∧ p_zcx (a, b, s, l, f, K, K, (K.length : Int), (i : Int), o0, o1, o2, o3, o4, c, M) = p_zcx (a, b, s, l, f, K, K, (K.length : Int), (K.length : Int), o0, o1, o2, o3, o4, c', M'))
 | m, i, c, M, hm, hi, hn, hp => by
  by_cases h : i < K.length
  ·rw [u_zcx]
   simp only [b_zcx]
   rw [lss_t (by omega), r_idx (List.getElem?_eq_getElem h)]
   simp only
   rw [r_mfind, hp]
   by_cases e : K[i] ∈ K.take i
   ·rw [if_pos e]
    refine .inl ⟨fun hk => ?_, rfl⟩
    have := hk.sublist (List.take_sublist (i + 1) K)
    rw [List.take_succ_eq_append_getElem h, List.nodup_append] at this
    exact this.2.2 _ e _ (List.mem_singleton.2 rfl) rfl
   ·rw [if_neg e]
    simp only
    unfold p_zcu_5
    simp only [b_zcu_5]
    rw [ar_add1 (by omega), r_mput]
    cases m with
    | zero => omega
    | succ m =>
     refine ord_2 a b s l f K hK o0 o1 o2 o3 o4 m (i + 1) (c + 1) _ (by omega) (by omega) ?_ ?_
     ·rw [List.take_succ_eq_append_getElem h, List.nodup_append]
      refine ⟨hn, by simp, fun x hx y hy => ?_⟩
      rw [List.mem_singleton] at hy
      subst hy
      intro he
      subst he
      exact e hx
     ·intro k
      have hm : k ∈ K.take (i + 1) ↔ k ∈ K.take i ∨ k = K[i] := by rw [List.take_succ_eq_append_getElem h, List.mem_append, List.mem_singleton]
      rw [mfind_put, hp k]
      by_cases ek : k = K[i]
      ·rw [if_pos ek, if_pos (hm.2 (.inr ek)), ek, idx_new h e]
      ·rw [if_neg ek]
       by_cases e3 : k ∈ K.take i
       ·rw [if_pos e3, if_pos (hm.2 (.inl e3))]
       ·rw [if_neg e3, if_neg fun q => (hm.1 q).elim e3 ek]
  ·have e : i = K.length := by omega
   subst e
   rw [List.take_of_length_le (Nat.le_refl _)] at hn
   exact .inr ⟨hn, c, M, hp, rfl⟩
theorem place (K : List Str) (hK : K.length ≤ 100) (c : Nat) (M : Mp) (hp : isPl K K.length M) (x : Par) : p_zcw x K c M = some (plf K x : Int) := by
 obtain ⟨k, ⟨x0, x1, x2, x3, x4⟩⟩ := x
 show p_zcw_0 c M (k, x0, x1, x2, x3, x4, K) = _
 unfold p_zcw_0
 simp only [b_zcw_0]
 rw [r_mfind, hp k, List.take_of_length_le (Nat.le_refl _)]
 unfold plf
 rw [keyOf_mk]
 by_cases e : k ∈ K
 ·rw [if_pos e]
 ·rw [if_neg e, List.idxOf_eq_length e]; rfl
theorem cm (K : List Str) (hK : K.length ≤ 100) (f : List Par) (hf : f.length < 1000) (c : Nat) (M : Mp) (hp : isPl K K.length M) : Cm K c M (rkf K f) (ixf f) := by
 intro x y
 have h1 := place K hK c M hp x
 have h2 := place K hK c M hp y
 have b1 : plf K x ≤ K.length := List.idxOf_le_length
 have b2 : plf K y ≤ K.length := List.idxOf_le_length
 have b3 := ix_le f x
 have b4 := ix_le f y
 refine ⟨(plf K x : Int) - plf K y, ?_, fun h => ?_⟩
 ·obtain ⟨k, ⟨x0, x1, x2, x3, x4⟩⟩ := x
  obtain ⟨k', ⟨y0, y1, y2, y3, y4⟩⟩ := y
  show p_zcy_0 K c M (k, x0, x1, x2, x3, x4, k', y0, y1, y2, y3, y4) = _
  unfold p_zcy_0
  simp only [b_zcy_0, h1, h2]
  rw [r_sub64 (by unfold fit64; omega)]
 ·unfold rkf
  by_cases e : plf K x < plf K y
  ·exact .inl ⟨by omega, by omega⟩
  ·exact .inr ⟨by omega, by omega⟩
theorem treeOrdered (f : List Par) (K : List Str) (hK : K.length ≤ 100) (hc : cnt (.mk 5 0 [] [] f) ≤ 190) (hs : strs (.mk 5 0 [] [] f) = true) (hr : rR 12 (.mk 5 0 [] [] f) = true) (hn : (f.map keyOf).Nodup) :
  (¬ K.Nodup ∧ p_zcu (.mk 5 0 [] [] f) K = some (.mk 0 0 [] [] [], 7)) ∨
  (K.Nodup ∧ ∃ L, p_zcu (.mk 5 0 [] [] f) K = some (.mk 5 0 [] [] L, 0) ∧ L.Perm f ∧ L.Pairwise fun x y => rkf K f x < rkf K f y) := by
 have hlen := cntF_len f
 have hcf : cntF f ≤ 189 := by simp only [cnt] at hc; omega
 have hob : p_zdf (.mk 5 0 [] [] f) = some true := by
  show p_zdf_0 (5, 0, [], [], f) = _
  unfold p_zdf_0
  simp only [b_zdf_0]
  rw [eql_t rfl]
  simp only [tree_Right _ (show cnt (.mk 5 0 [] [] f) ≤ 200 by omega) hs, hr]
 have h0 : p_zcu (.mk 5 0 [] [] f) K = p_zcx (5, 0, [], [], f, K, K, (K.length : Int), ((0 : Nat) : Int), 0, 0, [], [], [], 0, []) := by
  show p_zcu_0 (5, 0, [], [], f, K) = _
  unfold p_zcu_0
  simp only [b_zcu_0, hob]
  rfl
 rw [h0]
 rcases ord_2 5 0 [] [] f K hK 0 0 [] [] [] K.length 0 0 [] (by omega) (by omega) (by simp) (fun k => by simp [Pr.mfind]) with h | ⟨hk, c', M', hp, h⟩
 ·exact .inl h
 ·refine .inr ⟨hk, ?_⟩
  rw [h]
  rw [u_zcx]
  simp only [b_zcx]
  rw [lss_f (by omega)]
  obtain ⟨g1, g2, hcl⟩ := kept 5 0 [] [] f hc
  obtain ⟨L, k1, k2, k3⟩ := sortStable g2 K c' M' (rkf K f) (ixf f) (cm K hK f (by omega) c' M' hp) f (by omega) (fun k hk => by rw [at_getElem hk]; exact ix_at hn hk)
  simp only [hcl, k1, r_len]
  rw [k2.len, eql_t rfl]
  obtain ⟨p1, p2⟩ := row_of k2 k3 (row_nodup hn)
  exact ⟨L, rfl, p1, p2⟩
/-! An object's pairs by a row of keys: the reference's, and the law. -/
theorem at_1 (k : Str) (a b : Int) (s : Str) (l : List Val) (f : List Par) (hf : f.length ≤ 1000) : ∀ (m i : Nat), f.length - i ≤ m → i ≤ f.length → (∀ x ∈ f.take i, keyOf x ≠ k) →
  (p_zs_1 (k, (i : Int), a, b, s, l, f) = some (-1) ∧ ∀ x ∈ f, keyOf x ≠ k) ∨ ∃ j, ∃ h : j < f.length, p_zs_1 (k, (i : Int), a, b, s, l, f) = some (j : Int) ∧ keyOf f[j] = k
 | m, i, hm, hi, hn => by
  rw [u_zs_1]
  simp only [b_zs_1]
  rw [r_len]
  by_cases h : i < f.length
  ·rw [lss_t (by omega), r_idx (List.getElem?_eq_getElem h)]
   obtain ⟨x, hx⟩ : ∃ x, x = f[i] := ⟨_, rfl⟩
   rw [← hx]
   obtain ⟨kx, ⟨x0, x1, x2, x3, x4⟩⟩ := x
   simp only
   by_cases e : kx = k
   ·rw [seq_t e]
    exact .inr ⟨i, h, rfl, by rw [← hx]; exact e⟩
   ·rw [seq_f e, ar_add1 (by omega)]
    cases m with
    | zero => omega
    | succ m =>
     refine at_1 k a b s l f hf m (i + 1) (by omega) (by omega) fun y hy => ?_
     rw [List.take_succ_eq_append_getElem h, List.mem_append, List.mem_singleton, ← hx] at hy
     rcases hy with hy | rfl
     ·exact hn y hy
     ·exact e
  ·rw [lss_f (by omega)]
   rw [List.take_of_length_le (by omega)] at hn
   exact .inl ⟨rfl, hn⟩
theorem at1_1 (k : Str) (a b : Int) (s : Str) (l : List Val) (g : Nat) (f : List Par) (hf : f.length ≤ 1000) : ∀ (m i : Nat), f.length - i ≤ m → i ≤ f.length → (∀ x ∈ f.take i, keyOf x ≠ k) →
  (p_zt_1 g f (k, (i : Int), a, b, s, l) = some (-1) ∧ ∀ x ∈ f, keyOf x ≠ k) ∨ ∃ j, ∃ h : j < f.length, p_zt_1 g f (k, (i : Int), a, b, s, l) = some (j : Int) ∧ keyOf f[j] = k
 | m, i, hm, hi, hn => by
  rw [u_zt_1]
  simp only [b_zt_1]
  rw [r_len]
  by_cases h : i < f.length
  ·rw [lss_t (by omega), r_idx (List.getElem?_eq_getElem h)]
   obtain ⟨x, hx⟩ : ∃ x, x = f[i] := ⟨_, rfl⟩
   rw [← hx]
   obtain ⟨kx, ⟨x0, x1, x2, x3, x4⟩⟩ := x
   simp only
   by_cases e : kx = k
   ·rw [seq_t e]
    exact .inr ⟨i, h, rfl, by rw [← hx]; exact e⟩
   ·rw [seq_f e, ar_add1 (by omega)]
    cases m with
    | zero => omega
    | succ m =>
     refine at1_1 k a b s l g f hf m (i + 1) (by omega) (by omega) fun y hy => ?_
     rw [List.take_succ_eq_append_getElem h, List.mem_append, List.mem_singleton, ← hx] at hy
     rcases hy with hy | rfl
     ·exact hn y hy
     ·exact e
  ·rw [lss_f (by omega)]
   rw [List.take_of_length_le (by omega)] at hn
   exact .inl ⟨rfl, hn⟩
theorem pw_snoc {r : Par → Nat} {l : List Par} {x : Par} (h : l.Pairwise fun x y => r x < r y) (hx : ∀ y ∈ l, r y < r x) : (l ++ [x]).Pairwise fun x y => r x < r y := by
 rw [List.pairwise_append]
 exact ⟨h, by simp, fun a ha b hb => by rw [List.mem_singleton] at hb; subst hb; exact hx a ha⟩
structure Inv (K : List Str) (f : List Par) (P : Par → Prop) (n : Nat) (acc : List Par) : Prop where
 pw : acc.Pairwise fun x y => rkf K f x < rkf K f y
 mem : ∀ x, x ∈ acc ↔ x ∈ f ∧ P x
 len : acc.length ≤ n
theorem ref_5 (f : List Par) (hn : (f.map keyOf).Nodup) (hf : f.length ≤ 200) (K : List Str) (hK : K.length ≤ 100) (a b : Int) (s : Str) (l : List Val) (o0 o1 : Int) (o2 : Str) (o3 : List Val) (o4 : List Par) (q0 q1 : Int) (q2 : Str) (q3 : List Val) : ∀ (m i g : Nat) (acc : List Par), f.length - i ≤ m → i ≤ f.length → Inv K f (fun x => plf K x < K.length ∨ ixf f x < i) (K.length + i) acc →
  ∃ acc', p_zw_5 (a, b, s, l, f, (i : Int), o0, o1, o2, o3, o4, q0, q1, q2, q3, g, acc) = some (.mk q0 q1 q2 q3 acc') ∧ Inv K f (fun x => plf K x < K.length ∨ ixf f x < f.length) (K.length + f.length) acc'
 | m, i, g, acc, hm, hi, hv => by
  rw [u_zw_5]
  simp only [b_zw_5]
  rw [r_len]
  by_cases h : i < f.length
  ·rw [lss_t (by omega), r_idx (List.getElem?_eq_getElem h)]
   have hix := ix_at hn h
   have hmem : f[i] ∈ f := List.getElem_mem h
   obtain ⟨x, hx⟩ : ∃ x, x = f[i] := ⟨_, rfl⟩
   rw [← hx] at hix hmem ⊢
   have hlen := hv.len
   have only : ∀ y ∈ f, ixf f y = i → y = x := fun y hy e => by
    obtain ⟨j, hj, rfl⟩ := List.mem_iff_getElem.1 hy
    rw [ix_at hn hj] at e; subst e; exact hx.symm
   have h7 : ∀ g acc, p_zw_7 (a, b, s, l, f, (i : Int), o0, o1, o2, o3, o4, q0, q1, q2, q3, g, acc) = some (.inl (a, b, s, l, f, ((i + 1 : Nat) : Int), o0, o1, o2, o3, o4, q0, q1, q2, q3, g, acc)) := fun g acc => by
    unfold p_zw_7
    simp only [b_zw_7]
    rw [ar_add1 (by omega)]
   have hAt : p_zt (keyOf x) q0 q1 q2 q3 g acc = p_zt_1 g acc (keyOf x, ((0 : Nat) : Int), q0, q1, q2, q3) := rfl
   cases m with
   | zero => omega
   | succ m =>
    rcases at1_1 (keyOf x) q0 q1 q2 q3 g acc (by omega) _ 0 (Nat.le_refl _) (by omega) (by simp) with ⟨e1, e2⟩ | ⟨j, hj, e1, e2⟩
    ·rw [← hAt] at e1
     have hnot : x ∉ acc := fun hxa => e2 x hxa rfl
     have hpl : ¬ plf K x < K.length := fun hp => hnot ((hv.mem x).2 ⟨hmem, .inl hp⟩)
     have hple : plf K x ≤ K.length := List.idxOf_le_length
     obtain ⟨acc', k1, k2⟩ := ref_5 f hn hf K hK a b s l o0 o1 o2 o3 o4 q0 q1 q2 q3 m (i + 1) (g + 1) (acc ++ [x]) (by omega) (by omega) ⟨pw_snoc hv.pw fun y hy => by
      have := (hv.mem y).1 hy
      have := ix_le f y
      have : plf K y ≤ K.length := List.idxOf_le_length
      unfold rkf
      omega, fun y => by
       rw [List.mem_append, List.mem_singleton, hv.mem]
       constructor
       ·rintro (⟨q, q'⟩ | rfl)
        ·exact ⟨q, by omega⟩
        ·exact ⟨hmem, .inr (by omega)⟩
       ·rintro ⟨q, q'⟩
        by_cases e : ixf f y = i
        ·exact .inr (only y q e)
        ·exact .inl ⟨q, by omega⟩, by rw [List.length_append]; simp only [List.length_cons, List.length_nil]; omega⟩
     refine ⟨acc', ?_, k2⟩
     obtain ⟨kx, ⟨x0, x1, x2, x3, x4⟩⟩ := x
     simp only [keyOf_mk] at e1
     simp only [e1]
     rw [lss_t (by omega), M.r_app (by simp [room]; omega) (by simp [room]; omega)]
     simp only [h7]
     exact k1
    ·rw [← hAt] at e1
     have hxa : x ∈ acc := by
      have hja : acc[j] ∈ acc := List.getElem_mem hj
      have := key_inj hn ((hv.mem _).1 hja).1 hmem e2
      rw [← this]; exact hja
     obtain ⟨acc', k1, k2⟩ := ref_5 f hn hf K hK a b s l o0 o1 o2 o3 o4 q0 q1 q2 q3 m (i + 1) g acc (by omega) (by omega) ⟨hv.pw, fun y => by
       rw [hv.mem]
       constructor
       ·rintro ⟨q, q'⟩; exact ⟨q, by omega⟩
       ·rintro ⟨q, q'⟩
        by_cases e : ixf f y = i
        ·rw [only y q e]; exact (hv.mem x).1 hxa
        ·exact ⟨q, by omega⟩, by omega⟩
     refine ⟨acc', ?_, k2⟩
     obtain ⟨kx, ⟨x0, x1, x2, x3, x4⟩⟩ := x
     simp only [keyOf_mk] at e1
     simp only [e1]
     rw [lss_f (by omega)]
     simp only [h7]
     exact k1
  ·have e : i = f.length := by omega
   subst e
   rw [lss_f (by omega)]
   exact ⟨acc, rfl, hv⟩
theorem ref_1 (f : List Par) (hn : (f.map keyOf).Nodup) (hf : f.length ≤ 200) (K : List Str) (hk : K.Nodup) (hK : K.length ≤ 100) (a b : Int) (s : Str) (l : List Val) (o0 o1 : Int) (o2 : Str) (o3 : List Val) (o4 : List Par) (q0 q1 : Int) (q2 : Str) (q3 : List Val) : ∀ (m i g : Nat) (acc : List Par), K.length - i ≤ m → i ≤ K.length → Inv K f (fun x => plf K x < i) i acc →
  ∃ g' acc', p_zw_1 (K, a, b, s, l, f, (i : Int), o0, o1, o2, o3, o4, q0, q1, q2, q3, g, acc) = p_zw_5 (a, b, s, l, f, ((0 : Nat) : Int), o0, o1, o2, o3, o4, q0, q1, q2, q3, g', acc') ∧ Inv K f (fun x => plf K x < K.length) K.length acc'
 | m, i, g, acc, hm, hi, hv => by
  rw [u_zw_1]
  simp only [b_zw_1]
  rw [r_len]
  by_cases h : i < K.length
  ·rw [lss_t (by omega), r_idx (List.getElem?_eq_getElem h)]
   have hlen := hv.len
   have hpk : ∀ y, keyOf y = K[i] ↔ plf K y = i := fun y => by
    unfold plf
    constructor
    ·intro e; rw [e, List.Nodup.idxOf_getElem hk]
    ·intro e
     have := List.getElem_idxOf (x := keyOf y) (xs := K) (by omega)
     rw [← this]; simp only [e]
   have h3 : ∀ g acc, p_zw_3 (K, a, b, s, l, f, (i : Int), o0, o1, o2, o3, o4, q0, q1, q2, q3, g, acc) = some (.inl (K, a, b, s, l, f, ((i + 1 : Nat) : Int), o0, o1, o2, o3, o4, q0, q1, q2, q3, g, acc)) := fun g acc => by
    unfold p_zw_3
    simp only [b_zw_3]
    rw [ar_add1 (by omega)]
   have hAt : p_zs (.mk a b s l f) K[i] = p_zs_1 (K[i], ((0 : Nat) : Int), a, b, s, l, f) := rfl
   cases m with
   | zero => omega
   | succ m =>
    rcases at_1 K[i] a b s l f (by omega) _ 0 (Nat.le_refl _) (by omega) (by simp) with ⟨e1, e2⟩ | ⟨j, hj, e1, e2⟩
    ·rw [← hAt] at e1
     obtain ⟨g', acc', k1, k2⟩ := ref_1 f hn hf K hk hK a b s l o0 o1 o2 o3 o4 q0 q1 q2 q3 m (i + 1) g acc (by omega) (by omega) ⟨hv.pw, fun y => by
       rw [hv.mem]
       constructor
       ·rintro ⟨q, q'⟩; exact ⟨q, by omega⟩
       ·rintro ⟨q, q'⟩
        have := e2 y q
        rw [Ne, hpk] at this
        exact ⟨q, by omega⟩, by omega⟩
     refine ⟨g', acc', ?_, k2⟩
     simp only [e1]
     rw [geq_f (by omega)]
     simp only [h3]
     exact k1
    ·rw [← hAt] at e1
     have hmem : f[j] ∈ f := List.getElem_mem hj
     have hpj := (hpk f[j]).1 e2
     obtain ⟨g', acc', k1, k2⟩ := ref_1 f hn hf K hk hK a b s l o0 o1 o2 o3 o4 q0 q1 q2 q3 m (i + 1) (g + 1) (acc ++ [f[j]]) (by omega) (by omega) ⟨pw_snoc hv.pw fun y hy => by
      have := (hv.mem y).1 hy
      have := ix_le f y
      unfold rkf
      omega, fun y => by
       rw [List.mem_append, List.mem_singleton, hv.mem]
       constructor
       ·rintro (⟨q, q'⟩ | rfl)
        ·exact ⟨q, by omega⟩
        ·exact ⟨hmem, by omega⟩
       ·rintro ⟨q, q'⟩
        by_cases e : plf K y = i
        ·exact .inr (key_inj hn q hmem (((hpk y).2 e).trans e2.symm))
        ·exact .inl ⟨q, by omega⟩, by rw [List.length_append]; simp only [List.length_cons, List.length_nil]; omega⟩
     refine ⟨g', acc', ?_, k2⟩
     simp only [e1]
     rw [geq_t (by omega), r_idx (List.getElem?_eq_getElem hj)]
     generalize f[j] = x at *
     obtain ⟨kx, ⟨x0, x1, x2, x3, x4⟩⟩ := x
     simp only
     rw [M.r_app (by simp [room]; omega) (by simp [room]; omega)]
     simp only [h3]
     exact k1
  ·have e : i = K.length := by omega
   subst e
   rw [lss_f (by omega)]
   refine ⟨g, acc, ?_, hv⟩
   simp only
   rw [show (0 : Int) = ((0 : Nat) : Int) from rfl]
   generalize p_zw_5 _ = o
   cases o <;> rfl
theorem refOrdered (f : List Par) (hn : (f.map keyOf).Nodup) (hf : f.length ≤ 200) (K : List Str) (hk : K.Nodup) (hK : K.length ≤ 100) :
  ∃ L, p_zw (.mk 5 0 [] [] f) K = some (.mk 5 0 [] [] L) ∧ L.Perm f ∧ L.Pairwise fun x y => rkf K f x < rkf K f y := by
 have h0 : p_zw (.mk 5 0 [] [] f) K = p_zw_1 (K, 5, 0, [], [], f, ((0 : Nat) : Int), 0, 0, [], [], [], 5, 0, [], [], 0, []) := rfl
 obtain ⟨g, acc, k1, k2⟩ := ref_1 f hn hf K hk hK 5 0 [] [] 0 0 [] [] [] 5 0 [] [] K.length 0 0 [] (by omega) (by omega) ⟨List.Pairwise.nil, fun x => by simp, by simp⟩
 obtain ⟨L, e1, e2⟩ := ref_5 f hn hf K hK 5 0 [] [] 0 0 [] [] [] 5 0 [] [] f.length 0 g acc (by omega) (by omega) ⟨k2.pw, fun x => by rw [k2.mem]; simp, by have := k2.len; omega⟩
 refine ⟨L, by rw [h0, k1, e1], (List.perm_ext_iff_of_nodup (e2.pw.imp fun h e => by subst e; omega) (row_nodup hn)).2 fun x => ?_, e2.pw⟩
 rw [e2.mem]
 constructor
 ·exact fun h => h.1
 ·intro h
  obtain ⟨i, hi, rfl⟩ := List.mem_iff_getElem.1 h
  exact ⟨h, .inr (by rw [ix_at hn hi]; exact hi)⟩
theorem pw_eq {r : Par → Nat} {a b : List Par} (h : a.Perm b) (ha : a.Pairwise fun x y => r x < r y) (hb : b.Pairwise fun x y => r x < r y) : a = b :=
 List.Perm.eq_of_pairwise (fun x y _ _ h1 h2 => by omega) ha hb h
/-! The law of ordered objects. -/
theorem twice_3 (K : List Str) (hK : K.length ≤ 100) (i : Nat) (hi : i < K.length) : ∀ (m j : Nat), i - j ≤ m → j ≤ i → K[i] ∉ K.take j →
  p_zj_3 (K, (i : Int), (j : Int)) = if K[i] ∈ K.take i then some (.inr true) else some (.inl (K, ((i + 1 : Nat) : Int)))
 | m, j, hm, hj, hn => by
  rw [u_zj_3]
  simp only [b_zj_3]
  by_cases h : j < i
  ·have hjK : j < K.length := by omega
   rw [lss_t (by omega), r_idx (List.getElem?_eq_getElem hjK), r_idx (List.getElem?_eq_getElem hi)]
   simp only
   by_cases e : K[j] = K[i]
   ·rw [seq_t e, if_pos (List.mem_take_iff_getElem.2 ⟨j, by omega, e⟩)]
   ·rw [seq_f e, ar_add1 (by omega)]
    cases m with
    | zero => omega
    | succ m =>
     refine twice_3 K hK i hi m (j + 1) (by omega) (by omega) ?_
     rw [List.take_succ_eq_append_getElem hjK, List.mem_append, List.mem_singleton]
     rintro (h | h)
     ·exact hn h
     ·exact e h.symm
  ·have e : j = i := by omega
   subst e
   rw [lss_f (by omega), ar_add1 (by omega), if_neg hn]
theorem twice_1 (K : List Str) (hK : K.length ≤ 100) : ∀ (m i : Nat), K.length - i ≤ m → i ≤ K.length → (K.take i).Nodup → ∃ r, p_zj_1 (K, (i : Int)) = some r ∧ (r = false ↔ K.Nodup)
 | m, i, hm, hi, hn => by
  rw [u_zj_1]
  simp only [b_zj_1]
  rw [r_len]
  by_cases h : i < K.length
  ·rw [lss_t (by omega)]
   have := twice_3 K hK i h i 0 (by omega) (by omega) (by simp)
   rw [show ((0 : Nat) : Int) = 0 from rfl] at this
   simp only [this]
   have hs := List.take_succ_eq_append_getElem h
   by_cases e : K[i] ∈ K.take i
   ·rw [if_pos e]
    refine ⟨true, rfl, by simp, fun hk => ?_⟩
    have := hk.sublist (List.take_sublist (i + 1) K)
    rw [hs, List.nodup_append] at this
    exact absurd rfl (this.2.2 _ e _ (List.mem_singleton.2 rfl))
   ·rw [if_neg e]
    cases m with
    | zero => omega
    | succ m =>
     refine twice_1 K hK m (i + 1) (by omega) (by omega) ?_
     rw [hs, List.nodup_append]
     refine ⟨hn, by simp, fun x hx y hy => ?_⟩
     rw [List.mem_singleton] at hy
     subst hy
     intro he; subst he; exact e hx
  ·rw [lss_f (by omega)]
   rw [List.take_of_length_le (by omega)] at hn
   exact ⟨false, rfl, by simp [hn]⟩
theorem few_1 (K : List Str) : ∀ (m i : Nat), 50 - i ≤ m → i ≤ 50 → ∃ r, p_zh_1 (K, (i : Int)) = some r ∧ (r = true → K.length ≤ 40)
 | m, i, hm, hi => by
  rw [u_zh_1]
  simp only [b_zh_1]
  rw [r_len]
  have h4 : ∃ r, (match (match p_zh_4 K with | none => none | some o => some (.inr o) : Option (T_zh_1 ⊕ R_zh)) with | some (.inl t) => p_zh_1 t | some (.inr r) => some r | none => none) = some r ∧ (r = true → K.length ≤ 40) := by
   unfold p_zh_4
   simp only [b_zh_4, r_len, r_leq]
   exact ⟨_, rfl, fun h => by have := of_decide_eq_true h; omega⟩
  by_cases h : i < K.length
  ·rw [lss_t (by omega)]
   simp only
   by_cases h50 : i < 50
   ·rw [lss_t (by omega), r_idx (List.getElem?_eq_getElem h)]
    simp only [r_slen]
    by_cases e : 500 < K[i].length
    ·rw [gtr_t (by omega)]
     exact ⟨false, rfl, by simp⟩
    ·rw [gtr_f (by omega), ar_add1 (by omega)]
     cases m with
     | zero => omega
     | succ m => exact few_1 K m (i + 1) (by omega) (by omega)
   ·rw [lss_f (by omega)]; exact h4
  ·rw [lss_f (by omega)]; exact h4
theorem keysS_iff : ∀ (f : List Par) (seen : List Str), keysS seen f = true ↔ (f.map keyOf).Nodup ∧ (∀ p ∈ f, keyOf p ∉ seen) ∧ ∀ p ∈ f, isT (keyOf p) = true
 | [], _ => by simp [keysS]
 | p :: r, seen => by
  simp only [keysS, Bool.and_eq_true, Bool.not_eq_true', List.contains_eq_mem, decide_eq_false_iff_not, keysS_iff r, List.map_cons, List.nodup_cons, List.mem_map, not_exists, not_and, List.mem_append, List.mem_singleton, not_or, List.mem_cons, forall_eq_or_imp]
  constructor
  ·rintro ⟨⟨h1, h2⟩, h3, h4, h5⟩
   exact ⟨⟨fun x hx e => (h4 x hx).2.1 e, h3⟩, ⟨h1, fun x hx => (h4 x hx).1⟩, h2, h5⟩
  ·rintro ⟨⟨h1, h3⟩, ⟨h2, h4⟩, h5, h6⟩
   exact ⟨⟨h2, h5⟩, h3, fun x hx => ⟨h4 x hx, h1 x hx, by simp⟩, h6⟩
theorem cntF_perm {f g : List Par} (h : f.Perm g) : cntF f = cntF g := by
 induction h with
 | nil => rfl
 | cons x _ ih => simp only [cntF, ih]
 | swap x y l => simp only [cntF]; omega
 | trans _ _ h1 h2 => exact h1.trans h2
theorem strsF_perm {f g : List Par} (h : f.Perm g) : strsF f = strsF g := by
 induction h with
 | nil => rfl
 | cons x _ ih => simp only [strsF, ih]
 | swap x y l => simp only [strsF]; cases strsP x <;> cases strsP y <;> rfl
 | trans _ _ h1 h2 => exact h1.trans h2
theorem right_obj {b : Int} {s : Str} {l : List Val} {f : List Par} (h : rR 12 (.mk 5 b s l f) = true) : b = 0 ∧ s = [] ∧ l = [] ∧ keysS [] f = true := by
 rw [rR] at h
 simp only [Bool.and_eq_true, headOk, decide_eq_true_eq] at h
 obtain ⟨⟨⟨⟨h1, _⟩, _⟩, h2⟩, _⟩ := h
 refine ⟨by omega, ?_, List.length_eq_zero_iff.1 (by omega), h2⟩
 rcases h1.2.2.1 with h | h
 ·omega
 ·exact h
theorem rR_perm {f g : List Par} (h : g.Perm f) (hr : rR 12 (.mk 5 0 [] [] f) = true) : rR 12 (.mk 5 0 [] [] g) = true := by
 rw [rR] at hr ⊢
 simp only [Bool.and_eq_true, headOk, decide_eq_true_eq, keysS_iff, List.all_eq_true] at hr ⊢
 obtain ⟨⟨⟨⟨h1, h2⟩, h3⟩, h4, h5, h6⟩, h7⟩ := hr
 exact ⟨⟨⟨⟨by refine ⟨h1.1, h1.2.1, h1.2.2.1, h1.2.2.2.1, .inl trivial, h1.2.2.2.2.2⟩, h2⟩, h3⟩, (h.map keyOf).nodup_iff.2 h4, fun p hp => h5 p (h.mem_iff.1 hp), fun p hp => h6 p (h.mem_iff.1 hp)⟩, fun p hp => h7 p (h.mem_iff.1 hp)⟩
theorem self_sorted {K : List Str} {f L : List Par} (hn : (L.map keyOf).Nodup) (hf : f.length ≤ 200) (h : L.Pairwise fun x y => rkf K f x < rkf K f y) : L.Pairwise fun x y => rkf K L x < rkf K L y := by
 rw [List.pairwise_iff_getElem] at h ⊢
 intro i j hi hj hij
 have := h i j hi hj hij
 have b1 := ix_le f L[i]
 have b2 := ix_le f L[j]
 unfold rkf at *
 rw [ix_at hn hi, ix_at hn hj]
 omega
theorem srt_perm {f L : List Par} (h : L.Perm f) (hn : (f.map keyOf).Nodup) : srtF f [] = srtF L [] := by
 have hn' := (h.map keyOf).nodup_iff.2 hn
 refine (srtF_iff hn hn' h.length_eq.symm).1 fun p hp => ⟨valOf p, ?_, rfl⟩
 obtain ⟨k, v⟩ := p
 exact getS_of hn' (h.mem_iff.2 hp)
theorem noOrdered {v : Val} {K : List Str} (h : p_zdf v = some false) : p_zcu v K = some (.mk 0 0 [] [] [], 1) := by
 obtain ⟨a, b, s, l, f⟩ := v
 show p_zcu_0 (a, b, s, l, f, K) = _
 unfold p_zcu_0
 simp only [b_zcu_0, h]
theorem TreeOrders (v : Val) (K : List Str) : p_zb v K = some true := by
 obtain ⟨a, b, s, l, f⟩ := v
 show p_zb_0 (a, b, s, l, f, K) = _
 unfold p_zb_0
 simp only [b_zb_0]
 simp only [awake03]
 rcases Few (.mk a b s l f) 60 (by omega) with h | ⟨h, hc, hs⟩
 ·rw [show ((60 : Nat) : Int) = 60 from rfl] at h
  simp only [h]
 ·rw [show ((60 : Nat) : Int) = 60 from rfl] at h
  have hf : cntF f ≤ 60 := by simp only [cnt] at hc; omega
  have hlen := cntF_len f
  simp only [h]
  have hfew : ∃ r, p_zh K = some r ∧ (r = true → K.length ≤ 40) := few_1 K 50 0 (by omega) (by omega)
  obtain ⟨r, e1, e2⟩ := hfew
  simp only [e1]
  cases r with
  | false => rfl
  | true =>
   have hK := e2 rfl
   have hz := zero_zero
   simp only
   have hobj : p_zdf (.mk a b s l f) = some (decide (a = 5) && rR 12 (.mk a b s l f)) := by
    show p_zdf_0 (a, b, s, l, f) = _
    unfold p_zdf_0
    simp only [b_zdf_0]
    by_cases e : a = 5
    ·rw [eql_t e]
     simp only [tree_Right _ (show cnt (.mk a b s l f) ≤ 200 by omega) hs]
     simp [e]
    ·rw [eql_f e]; simp [e]
   by_cases e5 : a = 5
   ·rw [neq_f e5]
    subst e5
    simp only [refRight _ (show cnt (.mk 5 b s l f) ≤ 200 by omega) hs]
    cases hr : rR 12 (.mk 5 b s l f) with
    | false =>
     rw [hr] at hobj
     simp only [noOrdered (K := K) hobj]
     rw [eql_t rfl]
     simp only [hz]
    | true =>
     obtain ⟨rfl, rfl, rfl, hk⟩ := right_obj hr
     have hn := ((keysS_iff f []).1 hk).1
     obtain ⟨t, t1, t2⟩ := twice_1 K (by omega) K.length 0 (by omega) (by omega) (by simp)
     have t1' : p_zj K = some t := t1
     rcases treeOrdered f K (by omega) (by omega) hs hr hn with ⟨hd, q⟩ | ⟨hd, L, q1, q2, q3⟩
     ·have : t = true := by cases t with | true => rfl | false => exact absurd (t2.1 rfl) hd
      subst this
      simp only [q, t1']
      rw [eql_t rfl]
      simp only [hz]
     ·have : t = false := t2.2 hd
      subst this
      have hn' := (q2.map keyOf).nodup_iff.2 hn
      have hcL : cnt (.mk 5 0 [] [] L) ≤ 60 := by simp only [cnt] at hc ⊢; rw [cntF_perm q2]; exact hc
      have hsL : strs (.mk 5 0 [] [] L) = true := by simp only [strs] at hs ⊢; rw [strsF_perm q2]; exact hs
      have hrL := rR_perm q2 hr
      rcases treeOrdered L K (by omega) (by omega) hsL hrL hn' with ⟨hd', _⟩ | ⟨_, L2, p1, p2, p3⟩
      ·exact absurd hd hd'
      ·obtain ⟨L3, z1, z2, z3⟩ := refOrdered f hn (by omega) K hd (by omega)
       have s2 := self_sorted hn' (by omega) q3
       have e2 : L2 = L := pw_eq p2 p3 s2
       have e3 : L3 = L := pw_eq (z2.trans q2.symm) z3 q3
       subst e2 e3
       obtain ⟨r1, a1, a2⟩ := tree_Alike (.mk 5 0 [] [] f) (.mk 5 0 [] [] L3) (by omega) hs (by omega) hsL
       obtain ⟨r2, b1, b2⟩ := tree_Same (.mk 5 0 [] [] L3) (.mk 5 0 [] [] L3) (by omega) hsL (by omega) hsL
       have ha : r1 = true := a2.2 ⟨hr, hrL, by simp only [srt]; rw [srt_perm q2 hn]⟩
       have hb : r2 = true := b2.2 ⟨hrL, hrL, rfl⟩
       subst ha hb
       simp only [q1, t1', p1, z1, Same_self _ (show cnt (.mk 5 0 [] [] L3) ≤ 200 by omega), a1, b1]
       rw [eql_t rfl]
   ·rw [neq_t e5]
    rw [decide_eq_false e5, Bool.false_and] at hobj
    simp only [noOrdered (K := K) hobj]
    rw [eql_t rfl]
    simp only [hz]
end Go.Abs.T
