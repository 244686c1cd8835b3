import Derived.Test.YtcoajejhnlcmmaaDoorMB4
import Derived.Test.YtcoajejhnlcmmaaDoorAbsB
/-! Whole streams: the laws' functions. -/
set_option linter.unusedVariables false
set_option linter.unusedSimpArgs false
namespace Go.Abs.B
open M
theorem dec1 {u : Nat} (h : u < 10) : Lib.decDigits u = [dch u] := by rw [Lib.decDigits, dif_pos h]; rfl
theorem dec2 {u : Nat} (h : ¬ u < 10) : Lib.decDigits u = Lib.decDigits (u / 10) ++ [dch (u % 10)] := by rw [Lib.decDigits, dif_neg h]; rfl
theorem itoa_dec (n : Nat) (h : n < 1000) : p_strconv_Itoa (n : Int) = some (decS n) := by
  unfold p_strconv_Itoa
  rw [if_pos ⟨by omega, by omega⟩]
  unfold Lib.itoa
  rw [if_neg (by omega), Int.toNat_natCast]
  unfold decS
  congr 1
  by_cases h1 : n < 10
  · rw [if_pos h1, dec1 h1]
  · rw [if_neg h1, dec2 h1]
    by_cases h2 : n < 100
    · rw [if_pos h2, dec1 (by omega)]; rfl
    · rw [if_neg h2, dec2 (by omega), dec1 (by omega), show n / 10 / 10 = n / 100 by omega]; rfl
theorem part (b : Str) (h : b.length ≤ 300) : p_parts_Part b = some (part28 b, 0) := by
  have := decS_len b.length
  unfold p_parts_Part p_parts_Part_0 b_parts_Part_0
  rw [r_slen, gtr_f (by omega)]
  simp only [itoa_dec _ (show b.length < 1000 by omega)]
  rw [r_scat (by simp; omega)]
  simp only
  rw [r_scat (by simp; omega)]
  simp only
  rw [r_scat (by simp; omega)]
  simp only
  rw [r_scat (by simp; omega)]
  simp only [part28, Option.some.injEq, List.append_assoc]
  rfl
theorem bs (s t : Str) (h : s.length + t.length ≤ 1000000000) : p_strings_Builder_WriteString s t = some (s ++ t, (t.length : Int)) := by
  show bstr s t = _
  unfold bstr bput
  rw [if_pos (by unfold room; omega)]
theorem endP : p_parts_End = some (markT ++ endT) := rfl
theorem whole_1 (l : List Str) (hl : l.length ≤ 1000) (h : ∀ b ∈ l, b.length ≤ 300) : ∀ (k : Nat) (p q : List Str) (u : Bool) (g : Nat), q.length = k → l = p ++ q → p_parts_Whole_1 l (l.length : Int) (p.length : Int) u g (parts28 p) = some (whole28 l, 0)
  | 0, p, q, u, g, hk, e => by
    have : q = [] := List.length_eq_zero_iff.1 hk
    subst this
    have hp := parts_len l h
    rw [List.append_nil] at e
    subst e
    rw [u_parts_Whole_1]
    unfold b_parts_Whole_1
    rw [lss_f (by omega), endP]
    simp only
    rw [bs _ _ (by simp; omega)]
    have := whole_app l []
    rw [List.append_nil] at this
    rw [this]
    rfl
  | k + 1, p, q, u, g, hk, e => by
    cases q with
    | nil => simp at hk
    | cons b q =>
      have hp := parts_len l h
      have hll := congrArg List.length e
      simp only [List.length_append, List.length_cons] at hll
      rw [u_parts_Whole_1]
      unfold b_parts_Whole_1
      rw [lss_t (by omega), r_idx (b := b) (by rw [e]; simp)]
      have hb : b.length ≤ 300 := h b (by rw [e]; simp)
      simp only [part b hb]
      have := part_len b hb
      have hpp := parts_len p fun x hx => h x (by rw [e]; simp [hx])
      rw [neq_f rfl]
      simp only
      rw [bs _ _ (by omega)]
      simp only
      rw [r_add (by unfold fit64; omega), ← parts_snoc]
      have := whole_1 l hl h k (p ++ [b]) q true (g + 1) (by simpa using hk) (by simp [e])
      simpa using this
theorem whole (l : List Str) (hl : l.length ≤ 1000) (h : ∀ b ∈ l, b.length ≤ 300) : p_parts_Whole l = some (whole28 l, 0) := by
  unfold p_parts_Whole p_parts_Whole_0 b_parts_Whole_0
  rw [r_len]
  exact whole_1 l hl h _ [] l _ _ rfl rfl
theorem whole__1_1 (l : List Str) (G : Nat) (hl : l.length ≤ 1000) (h : ∀ b ∈ l, b.length ≤ 300) : ∀ (k : Nat) (p q : List Str) (u : Bool) (g : Nat), q.length = k → l = p ++ q → p_parts_Whole__1_1 G l (l.length : Int) (p.length : Int) u g (parts28 p) = some (whole28 l, 0)
  | 0, p, q, u, g, hk, e => by
    have : q = [] := List.length_eq_zero_iff.1 hk
    subst this
    have hp := parts_len l h
    rw [List.append_nil] at e
    subst e
    rw [u_parts_Whole__1_1]
    unfold b_parts_Whole__1_1
    rw [lss_f (by omega), endP]
    simp only
    rw [bs _ _ (by simp; omega)]
    have := whole_app l []
    rw [List.append_nil] at this
    rw [this]
    rfl
  | k + 1, p, q, u, g, hk, e => by
    cases q with
    | nil => simp at hk
    | cons b q =>
      have hp := parts_len l h
      have hll := congrArg List.length e
      simp only [List.length_append, List.length_cons] at hll
      rw [u_parts_Whole__1_1]
      unfold b_parts_Whole__1_1
      rw [lss_t (by omega), r_idx (b := b) (by rw [e]; simp)]
      have hb : b.length ≤ 300 := h b (by rw [e]; simp)
      simp only [part b hb]
      have := part_len b hb
      have hpp := parts_len p fun x hx => h x (by rw [e]; simp [hx])
      rw [neq_f rfl]
      simp only
      rw [bs _ _ (by omega)]
      simp only
      rw [r_add (by unfold fit64; omega), ← parts_snoc]
      have := whole__1_1 l G hl h k (p ++ [b]) q true (g + 1) (by simpa using hk) (by simp [e])
      simpa using this
theorem whole__1 (l : List Str) (G : Nat) (hl : l.length ≤ 1000) (h : ∀ b ∈ l, b.length ≤ 300) : p_parts_Whole__1 G l = some (whole28 l, 0) := by
  unfold p_parts_Whole__1 p_parts_Whole__1_0 b_parts_Whole__1_0
  rw [r_len]
  exact whole__1_1 l G hl h _ [] l _ _ rfl rfl
theorem whole_end (l : List Str) : whole28 l = parts28 l ++ (markT ++ endT) := by
  have := whole_app l []
  rw [List.append_nil] at this
  exact this
theorem PartsTwo (l m : List Str) : p_cascadelaw28_PartsTwo l m = some true := by
  unfold p_cascadelaw28_PartsTwo p_cascadelaw28_PartsTwo_0 b_cascadelaw28_PartsTwo_0
  simp only [awake28]
  rcases few l 10 200 (by omega) with h | ⟨h1, h2, h3⟩
  · rw [show ((10 : Nat) : Int) = 10 from rfl, show ((200 : Nat) : Int) = 200 from rfl] at h
    simp only [h]
  rw [show ((10 : Nat) : Int) = 10 from rfl, show ((200 : Nat) : Int) = 200 from rfl] at h1
  simp only [h1]
  rcases few m 10 200 (by omega) with k | ⟨k1, k2, k3⟩
  · rw [show ((10 : Nat) : Int) = 10 from rfl, show ((200 : Nat) : Int) = 200 from rfl] at k
    simp only [k]
  rw [show ((10 : Nat) : Int) = 10 from rfl, show ((200 : Nat) : Int) = 200 from rfl] at k1
  simp only [k1]
  have a1 : ∀ b ∈ l, b.length ≤ 300 := fun b hb => by have := h3 b hb; omega
  have a2 : ∀ b ∈ m, b.length ≤ 300 := fun b hb => by have := k3 b hb; omega
  rw [M.r_app (by simp only [List.length_nil, room]; omega) (by simp only [List.length_nil, room]; omega)]
  simp only [List.nil_append]
  rw [M.r_app (by simp only [List.length_append, room]; omega) (by simp only [List.length_append, room]; omega)]
  simp only [whole l (by omega) a1, whole m (by omega) a2]
  rw [whole__1 (l ++ m) 2 (by simp; omega) (fun b hb => by rcases List.mem_append.1 hb with h | h; exact a1 b h; exact a2 b h)]
  simp only [endP]
  have hl := parts_len l a1
  have hm := parts_len m a2
  have e1 := whole_end l
  have e2 := whole_end m
  have hlen : (whole28 l).length = (parts28 l).length + 9 := by rw [e1]; simp
  have hlen2 : (whole28 m).length = (parts28 m).length + 9 := by rw [e2]; simp
  rw [eql_t rfl]
  simp only
  rw [r_slen, r_slen, hlen, r_sub64 (by unfold fit64; simp; omega), show (((parts28 l).length + 9 : Nat) : Int) - ((markT ++ endT).length : Int) = ((parts28 l).length : Int) by simp, geq_t (by omega)]
  simp only
  rw [r_ssub_to (by omega)]
  rw [show (whole28 l).take (parts28 l).length = parts28 l by rw [e1]; simp]
  simp only
  rw [r_scat (by rw [hlen2]; omega)]
  simp only [whole_app, r_seq, decide_true, beq_self_eq_true]
theorem nextS_end (a : Nat) : nextS ⟨markT ++ endT, a, false, 0⟩ = ([], false, ⟨[], a + 9, true, 0⟩) := by
  have e : partS (markT ++ endT) = ([], false, 9, 0) := by decide +kernel
  unfold nextS
  simp only [e]
  simp [stopS]
theorem drain_whole : ∀ (l : List Str) (a n : Nat), (∀ b ∈ l, b.length < 1000) → l.length < n → drainS n ⟨whole28 l, a, false, 0⟩ = (l, ⟨[], a + (whole28 l).length, true, 0⟩)
  | l, a, 0, _, h => by omega
  | [], a, n + 1, _, h => by
    rw [drainS_succ]
    show (if (nextS ⟨markT ++ endT, a, false, 0⟩).2.1 = true then _ else _) = _
    have := nextS_end a
    simp only [whole28] at *
    rw [this]
    simp
  | b :: l, a, n + 1, hb, h => by
    rw [drainS_succ]
    show (if (nextS ⟨part28 b ++ whole28 l, a, false, 0⟩).2.1 = true then _ else _) = _
    have := nextS_part (r := whole28 l) (a := a) (hb b (by simp))
    rw [show whole28 (b :: l) = part28 b ++ whole28 l from rfl, this]
    simp only [if_true]
    rw [drain_whole l _ n (fun x hx => hb x (by simp [hx])) (by simpa using h)]
    simp [Nat.add_assoc]
theorem over (s : Str) (a : Int) (o : Bool) (b : Int) : p_parts_Reader_Over__0 s a o b = some o := rfl
theorem PartsWhole_2 (l : List Str) (hl : l.length ≤ 20) (h : ∀ b ∈ l, b.length ≤ 300) : ∀ (k i : Nat), l.length - i ≤ k → i ≤ l.length → p_cascadelaw28_PartsWhole_2 l (i : Int) = some true
  | k, i, hk, hi => by
    rw [u_cascadelaw28_PartsWhole_2]
    unfold b_cascadelaw28_PartsWhole_2
    rw [r_len]
    by_cases c : i < l.length
    · have hb : (l[i]).length ≤ 300 := h _ (List.getElem_mem c)
      rw [lss_t (by omega), r_idx (List.getElem?_eq_getElem c)]
      simp only [part _ hb]
      rw [neq_f rfl, refPart _ (by omega)]
      simp only [r_seq, beq_self_eq_true, decide_true]
      rw [r_add (by unfold fit64; omega)]
      cases k with
      | zero => omega
      | succ k =>
        rw [show ((i : Int) + 1) = ((i + 1 : Nat) : Int) by omega]
        exact PartsWhole_2 l hl h k (i + 1) (by omega) (by omega)
    · rw [lss_f (by omega)]
      have hp := parts_len l h
      have hlen : (whole28 l).length = (parts28 l).length + 9 := by rw [whole_end l]; simp
      simp only [whole l (by omega) h]
      have hn : p_parts_New__0 = some ([], 0, false, 0) := rfl
      simp only [hn]
      rw [feed _ _ _ _ _ (by simp; omega)]
      simp only [List.nil_append]
      have hd := drain ⟨whole28 l, 0, false, 0⟩ ⟨by simp; omega, by simp⟩
      rw [drain_whole l 0 500 (fun b hb => by have := h b hb; omega) (by omega)] at hd
      simp only [Int.natCast_zero] at hd
      simp only [hd]
      rw [eql_t rfl, refWhole l (by omega) h]
      simp only [r_seq, beq_self_eq_true, decide_true]
      rw [sameNames l l (by omega)]
      simp only [decide_true, over]
      have hb := badR [] ((0 + (whole28 l).length : Nat) : Int) true 0 (by omega)
      simp only [Int.natCast_zero] at hb
      rw [hb]
      rfl
theorem PartsWhole (l : List Str) : p_cascadelaw28_PartsWhole l = some true := by
  unfold p_cascadelaw28_PartsWhole p_cascadelaw28_PartsWhole_0 b_cascadelaw28_PartsWhole_0
  simp only [awake28]
  rcases few l 20 300 (by omega) with h | ⟨h1, h2, h3⟩
  · rw [show ((20 : Nat) : Int) = 20 from rfl, show ((300 : Nat) : Int) = 300 from rfl] at h
    simp only [h]
  rw [show ((20 : Nat) : Int) = 20 from rfl, show ((300 : Nat) : Int) = 300 from rfl] at h1
  simp only [h1]
  exact PartsWhole_2 l h2 h3 _ 0 (Nat.le_refl _) (by omega)
end Go.Abs.B
