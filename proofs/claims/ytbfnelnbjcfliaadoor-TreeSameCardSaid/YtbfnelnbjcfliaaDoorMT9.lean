import Derived.Test.YtbfnelnbjcfliaaDoorMT6
import Derived.Sort.Walk0
/-! Values with their keys in order: the reference's Sorted, and what is alike. -/
set_option linter.unusedVariables false
set_option linter.unusedSimpArgs false
namespace Go.Abs.T
open M
theorem sub_to {α : Type} (l : List α) (m : Nat) (h : m ≤ l.length) : Prims.real.sub l none (some (m : Int)) = some (l.take m) := by
  rw [r_sub]
  simp [Pr.sub, bnd_nat, Pr.bnd.eq_1, Pr.cutB, h]
theorem sub_from {α : Type} (l : List α) (m : Nat) (h : m ≤ l.length) : Prims.real.sub l (some (m : Int)) none = some (l.drop m) := by
  rw [r_sub]
  simp [Pr.sub, bnd_nat, Pr.bnd.eq_1, Pr.cutB, h]
/-- A pair put ahead of the first that isn't less. -/
def insP (p : Par) : List Par → List Par
  | [] => [p]
  | q :: r => if keyOf q < keyOf p then q :: insP p r else p :: q :: r
mutual
def srt : Val → Val
  | .mk k n s l f => .mk k n s (srtL l) (srtF f [])
def srtP : Par → Par
  | .mk k v => .mk k (srt v)
def srtL : List Val → List Val
  | [] => []
  | v :: r => srt v :: srtL r
def srtF : List Par → List Par → List Par
  | [], acc => acc
  | p :: r, acc => srtF r (insP (srtP p) acc)
end
theorem slt_dec (a b : Str) : Prims.real.slt a b = decide (a < b) := by rw [r_slt]; exact Go.Proofs.bytesLess_eq a b
theorem insP_len (p : Par) : ∀ l : List Par, (insP p l).length = l.length + 1
  | [] => rfl
  | q :: r => by
    unfold insP
    split
    · simp [insP_len p r]
    · simp
theorem insP_cnt (p : Par) : ∀ l : List Par, cntF (insP p l) = cntF l + cntP p
  | [] => by simp [insP, cntF]
  | q :: r => by
    unfold insP
    split
    · simp only [cntF, insP_cnt p r]; omega
    · simp only [cntF]; omega
mutual
theorem cnt_srt : ∀ v : Val, cnt (srt v) = cnt v
  | .mk k n s l f => by
    simp only [srt, cnt, cntL_srt l, cntF_srt f []]
    simp [cntF]
theorem cntP_srt : ∀ p : Par, cntP (srtP p) = cntP p
  | .mk k v => by simp only [srtP, cntP, cnt_srt v]
theorem cntL_srt : ∀ l : List Val, cntL (srtL l) = cntL l
  | [] => rfl
  | v :: r => by simp only [srtL, cntL, cnt_srt v, cntL_srt r]
theorem cntF_srt : ∀ (f acc : List Par), cntF (srtF f acc) = cntF f + cntF acc
  | [], acc => by simp [srtF, cntF]
  | p :: r, acc => by simp only [srtF, cntF, cntF_srt r, insP_cnt, cntP_srt p]; omega
end
theorem srtL_map : ∀ l : List Val, srtL l = l.map srt
  | [] => rfl
  | v :: r => by simp only [srtL, List.map_cons, srtL_map r]
theorem srtF_app : ∀ (f acc : List Par), (srtF f acc).length = f.length + acc.length
  | [], acc => by simp [srtF]
  | p :: r, acc => by simp only [srtF, srtF_app r, insP_len, List.length_cons]; omega
theorem srtF_step (f acc : List Par) {i : Nat} (h : i < f.length) : srtF (f.drop i) acc = srtF (f.drop (i + 1)) (insP (srtP f[i]) acc) := by
  rw [List.drop_eq_getElem_cons h, srtF]
/-! ## The walk -/
theorem sorted_7 (c : Val → Option Val) (v0 v1 : Int) (v2 : Str) (v3 : List Val) (v4 : List Par) (i : Nat) (o0 o1 : Int) (o2 : Str) (o3 : List Val) (o4 : List Par) (a b : Int) (s : Str) (g : Nat) (l : List Val) (acc : List Par) (k : Str) (x0 x1 : Int) (x2 : Str) (x3 : List Val) (x4 : List Par) (hacc : acc.length ≤ 1000) (hi : i ≤ 1000) : ∀ (m j : Nat), acc.length - j ≤ m → j ≤ acc.length →
    p_cascaderef03_Sorted_7 c v0 v1 v2 v3 v4 (i : Int) (j : Int) o0 o1 o2 o3 o4 a b s g l acc k x0 x1 x2 x3 x4 = some (.inl (v0, v1, v2, v3, v4, ((i + 1 : Nat) : Int), o0, o1, o2, o3, o4, a, b, s, g, l, acc.take j ++ insP (.mk k (.mk x0 x1 x2 x3 x4)) (acc.drop j)))
  | m, j, hm, hj => by
    have hend : (acc.drop j = [] ∨ ∃ q r, acc.drop j = q :: r ∧ ¬ keyOf q < k) → p_cascaderef03_Sorted_9 c v0 v1 v2 v3 v4 (i : Int) (j : Int) o0 o1 o2 o3 o4 a b s g l acc k x0 x1 x2 x3 x4 = some (.inl (v0, v1, v2, v3, v4, ((i + 1 : Nat) : Int), o0, o1, o2, o3, o4, a, b, s, g, l, acc.take j ++ insP (.mk k (.mk x0 x1 x2 x3 x4)) (acc.drop j))) := by
      intro hc
      have hins : insP (.mk k (.mk x0 x1 x2 x3 x4)) (acc.drop j) = .mk k (.mk x0 x1 x2 x3 x4) :: acc.drop j := by
        rcases hc with h | ⟨q, r, h, hq⟩
        · rw [h]; rfl
        · rw [h, insP, if_neg (show ¬ keyOf q < keyOf (.mk k (.mk x0 x1 x2 x3 x4)) from hq)]
      rw [hins]
      unfold p_cascaderef03_Sorted_9 b_cascaderef03_Sorted_9
      rw [sub_to acc j hj, sub_from acc j hj]
      simp only
      rw [M.r_app (by simp [room]; omega) (by simp [room]; omega)]
      simp only
      rw [M.r_app (by simp [room]; omega) (by simp [room]; omega)]
      simp only
      rw [M.r_app (by simp [room]; omega) (by simp [room]; omega)]
      simp only
      rw [r_add (by unfold fit64; omega), show ((i : Int) + 1) = ((i + 1 : Nat) : Int) by omega]
      simp
    rw [u_cascaderef03_Sorted_7]
    unfold b_cascaderef03_Sorted_7
    rw [r_len]
    by_cases h : j < acc.length
    · rw [lss_t (by omega), r_idx (List.getElem?_eq_getElem h)]
      have hd : acc.drop j = acc[j] :: acc.drop (j + 1) := List.drop_eq_getElem_cons h
      have htk : acc.take (j + 1) = acc.take j ++ [acc[j]] := by rw [List.take_succ_eq_append_getElem h]
      generalize acc[j] = y at hd htk
      obtain ⟨ky, ⟨y0, y1, y2, y3, y4⟩⟩ := y
      simp only
      rw [slt_dec]
      by_cases hk : ky < k
      · rw [decide_eq_true hk]
        simp only
        rw [r_add (by unfold fit64; omega)]
        cases m with
        | zero => omega
        | succ m =>
          rw [show ((j : Int) + 1) = ((j + 1 : Nat) : Int) by omega, sorted_7 c v0 v1 v2 v3 v4 i o0 o1 o2 o3 o4 a b s g l acc k x0 x1 x2 x3 x4 hacc hi m (j + 1) (by omega) (by omega), htk, hd]
          have : insP (.mk k (.mk x0 x1 x2 x3 x4)) (.mk ky (.mk y0 y1 y2 y3 y4) :: acc.drop (j + 1)) = .mk ky (.mk y0 y1 y2 y3 y4) :: insP (.mk k (.mk x0 x1 x2 x3 x4)) (acc.drop (j + 1)) := by
            rw [insP, if_pos (show keyOf (.mk ky (.mk y0 y1 y2 y3 y4)) < keyOf (.mk k (.mk x0 x1 x2 x3 x4)) from hk)]
          rw [this]
          simp
      · rw [decide_eq_false hk]
        simp only [hend (.inr ⟨_, _, hd, hk⟩)]
    · rw [lss_f (by omega)]
      simp only [hend (.inl (List.drop_eq_nil_of_le (by omega)))]
theorem sorted_5 (c : Val → Option Val) (v0 v1 : Int) (v2 : Str) (v3 : List Val) (f : List Par) (hc : ∀ p ∈ f, c (valOf p) = some (srt (valOf p))) (hf : f.length ≤ 400) (o0 o1 : Int) (o2 : Str) (o3 : List Val) (o4 : List Par) (a b : Int) (s : Str) (g : Nat) (l : List Val) : ∀ (m i : Nat) (acc : List Par), f.length - i ≤ m → i ≤ f.length → acc.length ≤ i →
    p_cascaderef03_Sorted_5 c v0 v1 v2 v3 f (i : Int) o0 o1 o2 o3 o4 a b s g l acc = some (.mk a b s l (srtF (f.drop i) acc))
  | m, i, acc, hm, hi, ha => by
    rw [u_cascaderef03_Sorted_5]
    unfold b_cascaderef03_Sorted_5
    rw [r_len]
    by_cases h : i < f.length
    · have hx := hc _ (List.getElem_mem h)
      rw [lss_t (by omega), r_idx (List.getElem?_eq_getElem h), srtF_step f acc h]
      generalize f[i] = y at hx
      obtain ⟨ky, ⟨y0, y1, y2, y3, y4⟩⟩ := y
      simp only [valOf_mk] at hx
      simp only [hx]
      have hsp : srtP (.mk ky (.mk y0 y1 y2 y3 y4)) = .mk ky (srt (.mk y0 y1 y2 y3 y4)) := rfl
      rw [hsp]
      generalize srt (.mk y0 y1 y2 y3 y4) = z
      obtain ⟨z0, z1, z2, z3, z4⟩ := z
      simp only
      have h7 := sorted_7 c v0 v1 v2 v3 f i o0 o1 o2 o3 o4 a b s g l acc ky z0 z1 z2 z3 z4 (by omega) (by omega) _ 0 (Nat.le_refl _) (by omega)
      rw [Int.natCast_zero, List.take_zero, List.drop_zero, List.nil_append] at h7
      simp only [h7]
      cases m with
      | zero => omega
      | succ m =>
        exact sorted_5 c v0 v1 v2 v3 f hc hf o0 o1 o2 o3 o4 a b s g l m (i + 1) _ (by omega) (by omega) (by rw [insP_len]; omega)
    · rw [lss_f (by omega), List.drop_eq_nil_of_le (by omega)]
      rfl
theorem sorted_1 (c : Val → Option Val) (v0 v1 : Int) (v2 : Str) (l : List Val) (f : List Par) (hc : ∀ p ∈ f, c (valOf p) = some (srt (valOf p))) (hf : f.length ≤ 400) (hcl : ∀ v ∈ l, c v = some (srt v)) (hl : l.length ≤ 400) (o0 o1 : Int) (o2 : Str) (o3 : List Val) (o4 : List Par) (a b : Int) (s : Str) : ∀ (m i g : Nat) (acc : List Val), l.length - i ≤ m → i ≤ l.length → acc.length ≤ i →
    p_cascaderef03_Sorted_1 c v0 v1 v2 l f (i : Int) o0 o1 o2 o3 o4 a b s g acc [] = some (.mk a b s (acc ++ srtL (l.drop i)) (srtF f []))
  | m, i, g, acc, hm, hi, ha => by
    rw [u_cascaderef03_Sorted_1]
    unfold b_cascaderef03_Sorted_1
    rw [r_len]
    by_cases h : i < l.length
    · have hx := hcl _ (List.getElem_mem h)
      rw [lss_t (by omega), r_idx (List.getElem?_eq_getElem h), List.drop_eq_getElem_cons h]
      generalize l[i] = y at hx
      obtain ⟨y0, y1, y2, y3, y4⟩ := y
      simp only [hx, srtL]
      generalize srt (.mk y0 y1 y2 y3 y4) = z
      obtain ⟨z0, z1, z2, z3, z4⟩ := z
      simp only
      rw [M.r_app (by simp [room]; omega) (by simp [room]; omega)]
      simp only
      rw [r_add (by unfold fit64; omega)]
      cases m with
      | zero => omega
      | succ m =>
        rw [show ((i : Int) + 1) = ((i + 1 : Nat) : Int) by omega, sorted_1 c v0 v1 v2 l f hc hf hcl hl o0 o1 o2 o3 o4 a b s m (i + 1) _ _ (by omega) (by omega) (by simp; omega)]
        simp
    · rw [lss_f (by omega), List.drop_eq_nil_of_le (by omega)]
      have := sorted_5 c v0 v1 v2 l f hc hf o0 o1 o2 o3 o4 a b s g acc _ 0 [] (Nat.le_refl _) (by omega) (by simp)
      rw [Int.natCast_zero, List.drop_zero] at this
      simp only [this, srtL, List.append_nil]
theorem sorted_k : ∀ (k : Nat) (v : Val), cnt v < k → cnt v ≤ 200 → pk_cascaderef03_Sorted k v = some (srt v)
  | 0, v, h, _ => by omega
  | k + 1, ⟨a, b, s, l, f⟩, h, hc => by
    simp only [cnt] at h hc
    have hlen := cntL_len l
    have hfen := cntF_len f
    show p_cascaderef03_Sorted_0 (pk_cascaderef03_Sorted k) a b s l f = _
    unfold p_cascaderef03_Sorted_0 b_cascaderef03_Sorted_0
    have := sorted_1 (pk_cascaderef03_Sorted k) a b s l f (fun p hp => sorted_k k _ (by have := cntF_mem hp; omega) (by have := cntF_mem hp; omega)) (by omega) (fun v hv => sorted_k k v (by have := cntL_mem hv; omega) (by have := cntL_mem hv; omega)) (by omega) 0 0 [] [] [] a b s _ 0 0 [] (Nat.le_refl _) (by omega) (by simp)
    rw [Int.natCast_zero, List.drop_zero, List.nil_append] at this
    exact this
theorem Sorted (v : Val) (hc : cnt v ≤ 200) : p_cascaderef03_Sorted v = some (srt v) := sorted_k 1000000 v (by omega) hc
/-! ## Order -/
def Str.up (l : List Par) : Prop := l.Pairwise fun p q => keyOf p < keyOf q
theorem insP_mem (p q : Par) : ∀ l : List Par, q ∈ insP p l ↔ q = p ∨ q ∈ l
  | [] => by simp [insP]
  | x :: r => by
    unfold insP
    split
    · simp only [List.mem_cons, insP_mem p q r]
      constructor
      · rintro (h | h | h) <;> simp [h]
      · rintro (h | h | h) <;> simp [h]
    · simp only [List.mem_cons]
theorem lt_or {a b : Str} (h : ¬ a < b) (h2 : a ≠ b) : b < a := by
  have h3 : b ≤ a := List.not_lt.1 h
  exact Std.lt_of_le_of_ne h3 (fun e => h2 e.symm)
theorem insP_up (p : Par) : ∀ l : List Par, Str.up l → (∀ q ∈ l, keyOf q ≠ keyOf p) → Str.up (insP p l)
  | [], _, _ => by simp [insP, Str.up]
  | x :: r, h, hn => by
    have h' : (x :: r).Pairwise fun p q => keyOf p < keyOf q := h
    rw [List.pairwise_cons] at h'
    unfold insP
    by_cases hx : keyOf x < keyOf p
    · rw [if_pos hx]
      show (x :: insP p r).Pairwise _
      rw [List.pairwise_cons]
      refine ⟨fun q hq => ?_, insP_up p r h'.2 (fun q hq => hn q (by simp [hq]))⟩
      rcases (insP_mem p q r).1 hq with rfl | hq
      · exact hx
      · exact h'.1 q hq
    · rw [if_neg hx]
      show (p :: x :: r).Pairwise _
      rw [List.pairwise_cons]
      have hpx : keyOf p < keyOf x := lt_or hx (hn x (by simp))
      refine ⟨fun q hq => ?_, h⟩
      rcases List.mem_cons.1 hq with rfl | hq
      · exact hpx
      · exact List.lt_trans hpx (h'.1 q hq)
theorem key_srtP (p : Par) : keyOf (srtP p) = keyOf p := by cases p; rfl
theorem srtF_mem (q : Par) : ∀ (f acc : List Par), q ∈ srtF f acc ↔ q ∈ acc ∨ ∃ p ∈ f, q = srtP p
  | [], acc => by simp [srtF]
  | p :: r, acc => by
    rw [srtF, srtF_mem q r, insP_mem]
    constructor
    · rintro ((h | h) | ⟨p', h1, h2⟩)
      · exact .inr ⟨p, by simp, h⟩
      · exact .inl h
      · exact .inr ⟨p', by simp [h1], h2⟩
    · rintro (h | ⟨p', h1, h2⟩)
      · exact .inl (.inr h)
      · rcases List.mem_cons.1 h1 with rfl | h1
        · exact .inl (.inl h2)
        · exact .inr ⟨p', h1, h2⟩
theorem srtF_up : ∀ (f acc : List Par), (f.map keyOf).Nodup → (∀ p ∈ f, ∀ q ∈ acc, keyOf q ≠ keyOf p) → Str.up acc → Str.up (srtF f acc)
  | [], acc, _, _, h => h
  | p :: r, acc, hn, hd, h => by
    rw [srtF]
    simp only [List.map_cons, List.nodup_cons] at hn
    refine srtF_up r _ hn.2 (fun x hx q hq => ?_) (insP_up _ acc h (fun q hq => by rw [key_srtP]; exact hd p (by simp) q hq))
    rcases (insP_mem _ q acc).1 hq with rfl | hq
    · rw [key_srtP]
      exact fun e => hn.1 (by rw [e]; exact List.mem_map_of_mem hx)
    · exact hd x (by simp [hx]) q hq
theorem up_sub : ∀ (a b : List Par), Str.up a → Str.up b → (∀ x ∈ a, x ∈ b) → a.Sublist b
  | [], b, _, _, _ => List.nil_sublist b
  | x :: a, [], _, _, h => by have := h x (by simp); simp at this
  | x :: a, y :: b, ha, hb, h => by
    have ha' : (x :: a).Pairwise fun p q => keyOf p < keyOf q := ha
    have hb' : (y :: b).Pairwise fun p q => keyOf p < keyOf q := hb
    rw [List.pairwise_cons] at ha' hb'
    rcases List.mem_cons.1 (h x (by simp)) with rfl | hx
    · refine List.Sublist.cons_cons _ (up_sub a b ha'.2 hb'.2 (fun z hz => ?_))
      rcases List.mem_cons.1 (h z (by simp [hz])) with rfl | h'
      · exact absurd (ha'.1 z hz) (List.lt_irrefl _)
      · exact h'
    · refine List.Sublist.cons _ (up_sub (x :: a) b ha hb'.2 (fun z hz => ?_))
      rcases List.mem_cons.1 (h z hz) with rfl | h'
      · exfalso
        have h1 := hb'.1 x hx
        rcases List.mem_cons.1 hz with rfl | hz
        · exact List.lt_irrefl _ h1
        · exact List.lt_irrefl _ (List.lt_trans h1 (ha'.1 z hz))
      · exact h'
theorem keysS_nodup : ∀ (f : List Par) (seen : List Str), keysS seen f = true → (f.map keyOf).Nodup ∧ ∀ p ∈ f, keyOf p ∉ seen
  | [], _, _ => by simp
  | p :: r, seen, h => by
    simp only [keysS, Bool.and_eq_true, Bool.not_eq_true', List.contains_eq_mem, decide_eq_false_iff_not] at h
    obtain ⟨h1, h2⟩ := keysS_nodup r _ h.2
    simp only [List.map_cons, List.nodup_cons]
    refine ⟨⟨fun hm => ?_, h1⟩, fun q hq => ?_⟩
    · obtain ⟨q, hq, e⟩ := List.mem_map.1 hm
      exact h2 q hq (by rw [e]; simp)
    · rcases List.mem_cons.1 hq with rfl | hq
      · exact h.1.1
      · exact fun hm => h2 q hq (List.mem_append_left _ hm)
theorem getS_mem {k : Str} {x : Val} : ∀ {f : List Par}, getS k f = (x, true) → S_api_Pair.mk k x ∈ f
  | [], h => by simp [getS] at h
  | ⟨kx, v⟩ :: r, h => by
    by_cases e : kx = k
    · rw [getS_yes e] at h
      injection h with h1 h2
      subst h1; subst e; simp
    · rw [getS_no e] at h
      exact List.mem_cons_of_mem _ (getS_mem h)
theorem getS_of {k : Str} {x : Val} : ∀ {f : List Par}, (f.map keyOf).Nodup → S_api_Pair.mk k x ∈ f → getS k f = (x, true)
  | [], _, h => by simp at h
  | ⟨kx, v⟩ :: r, hn, h => by
    simp only [List.map_cons, List.nodup_cons] at hn
    rcases List.mem_cons.1 h with h | h
    · injection h with h1 h2
      subst h1; subst h2
      exact getS_yes rfl
    · rw [getS_no (fun e => hn.1 (by
        have := List.mem_map_of_mem (f := keyOf) h
        rw [show keyOf (S_api_Pair.mk kx v) = kx from rfl, e]; exact this))]
      exact getS_of hn.2 h
theorem srtF_iff {f f' : List Par} (hn : (f.map keyOf).Nodup) (hn' : (f'.map keyOf).Nodup) (hl : f.length = f'.length) :
    (∀ p ∈ f, ∃ x, getS (keyOf p) f' = (x, true) ∧ srt (valOf p) = srt x) ↔ srtF f [] = srtF f' [] := by
  have u1 := srtF_up f [] hn (by simp) (by simp [Str.up])
  have u2 := srtF_up f' [] hn' (by simp) (by simp [Str.up])
  constructor
  · intro h
    refine (up_sub _ _ u1 u2 (fun q hq => ?_)).eq_of_length (by rw [srtF_app, srtF_app, hl])
    rcases (srtF_mem q f []).1 hq with h' | ⟨p, hp, rfl⟩
    · simp at h'
    · obtain ⟨x, hx, e⟩ := h p hp
      refine (srtF_mem _ f' []).2 (.inr ⟨_, getS_mem hx, ?_⟩)
      obtain ⟨k, v⟩ := p
      simp only [srtP, keyOf_mk, valOf_mk] at e ⊢
      rw [e]
  · intro h p hp
    have h1 : srtP p ∈ srtF f' [] := h ▸ (srtF_mem _ f []).2 (.inr ⟨p, hp, rfl⟩)
    rcases (srtF_mem _ f' []).1 h1 with h' | ⟨q, hq, e⟩
    · simp at h'
    · obtain ⟨k, v⟩ := p
      obtain ⟨k', v'⟩ := q
      simp only [srtP, Par, S_api_Pair.mk.injEq] at e
      obtain ⟨rfl, e⟩ := e
      exact ⟨v', getS_of hn' hq, e⟩
end Go.Abs.T
