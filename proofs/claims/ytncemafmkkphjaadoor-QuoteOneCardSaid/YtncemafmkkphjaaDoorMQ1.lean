import Derived.Test.YtncemafmkkphjaaDoorMA6
/-! Quoted texts: what is written. -/
set_option linter.unusedVariables false
namespace Go.Abs.A
open M
/-- A digit's sign. -/
def hexc (n : Nat) : UInt8 := UInt8.ofNat (if n < 10 then 48 + n else 87 + n)
/-- What stands behind a sign 5c for a byte. -/
def plainS (n : Nat) : Nat := match n with
  | 34 => 34 | 92 => 92 | 8 => 98 | 12 => 102 | 10 => 110 | 13 => 114 | 9 => 116 | _ => 0
/-- What stands for a byte. -/
def esc (b : UInt8) : Str :=
  if plainS b.toNat ≠ 0 then [92, UInt8.ofNat (plainS b.toNat)] else if b.toNat < 32 then [92, 117, 48, 48, hexc (b.toNat / 16), hexc (b.toNat % 16)] else [b]
def Q (s : Str) : Str := 34 :: s.flatMap esc ++ [34]
theorem escape_tab : ∀ i : Fin 128, p_quote_escape (i.val : Int) = some (if esc (UInt8.ofNat i.val) = [UInt8.ofNat i.val] then [] else esc (UInt8.ofNat i.val)) := by decide +kernel
theorem escape_high {r : Int} (h : 128 ≤ r) : p_quote_escape r = some [] := by
  unfold p_quote_escape p_quote_escape_0 b_quote_escape_0
  rw [eql_f (b := 34) (by omega), eql_f (b := 92) (by omega), eql_f (b := 8) (by omega), eql_f (b := 12) (by omega), eql_f (b := 10) (by omega), eql_f (b := 13) (by omega), eql_f (b := 9) (by omega), lss_f (b := 32) (by omega)]
theorem plain_tab : ∀ i : Fin 256, p_cascaderef02_plain (i.val : Int) = some (plainS i.val : Int) := by decide +kernel
theorem hex_tab : ∀ i : Fin 16, p_cascaderef02_hex (i.val : Int) = some [hexc i.val] := by decide +kernel
theorem plainS_le : ∀ i : Fin 256, plainS i.val < 256 := by decide +kernel
theorem esc_high {b : UInt8} (h : 128 ≤ b.toNat) : esc b = [b] := by
  have : plainS b.toNat = 0 := by
    unfold plainS
    split <;> first | omega | rfl
  unfold esc
  rw [if_neg (by omega), if_neg (by omega)]
theorem esc_len (b : UInt8) : 1 ≤ (esc b).length ∧ (esc b).length ≤ 6 := by
  unfold esc; repeat' split
  all_goals simp
theorem flat_len (s : Str) : s.length ≤ (s.flatMap esc).length ∧ (s.flatMap esc).length ≤ 6 * s.length := by
  induction s with
  | nil => simp
  | cons b s ih =>
    have := esc_len b
    simp only [List.flatMap_cons, List.length_append, List.length_cons]
    omega
/-- A rune of several bytes stands for itself. -/
theorem esc_enc {r : Int} (hv : vr r = true) (h : 128 ≤ r) : (enc r).flatMap esc = enc r := by
  have key : ∀ b ∈ enc r, 128 ≤ b.toNat := by
    simp only [vr, decide_eq_true_eq] at hv
    intro b hb
    unfold enc Lib.encodeRune at hb
    by_cases c2 : r ≤ 2047
    · rw [Lib.encodeRuneZ_two h c2] at hb
      simp only [List.map_cons, List.map_nil, List.mem_cons, List.not_mem_nil, or_false] at hb
      rcases hb with rfl | rfl <;> rw [tob (by omega) (by omega)] <;> omega
    by_cases c3 : r ≤ 65535
    · rw [Lib.encodeRuneZ_three (by omega)] at hb
      simp only [List.map_cons, List.map_nil, List.mem_cons, List.not_mem_nil, or_false] at hb
      rcases hb with rfl | rfl | rfl <;> rw [tob (by omega) (by omega)] <;> omega
    · rw [Lib.encodeRuneZ_four (by omega) (by omega)] at hb
      simp only [List.map_cons, List.map_nil, List.mem_cons, List.not_mem_nil, or_false] at hb
      rcases hb with rfl | rfl | rfl | rfl <;> rw [tob (by omega) (by omega)] <;> omega
  generalize enc r = l at key
  induction l with
  | nil => rfl
  | cons b l ih =>
    rw [List.flatMap_cons, esc_high (key b List.mem_cons_self), ih fun x hx => key x (List.mem_cons_of_mem _ hx)]
    rfl
theorem enc_low {r : Int} (h0 : 0 ≤ r) (h : r < 128) : enc r = [UInt8.ofNat r.toNat] := by
  unfold enc Lib.encodeRune
  rw [Lib.encodeRuneZ_one h0 (by omega)]
  rfl
theorem Quote_loop (s : Str) (hs : s.length ≤ 1000000) : ∀ (k p : Nat) (acc : Str) (u : Bool) (g : Nat), s.length - p ≤ k → acc.length + 6 * (s.length - p) ≤ 100000000 → badAt s p = -1 →
    p_quote_Quote_2 u g acc s p = some (acc ++ (s.drop p).flatMap esc ++ [34], 0)
  | k, p, acc, u, g, hk, ha, hb => by
    rw [u_quote_Quote_2]
    unfold b_quote_Quote_2
    by_cases hp : p < s.length
    · obtain ⟨h1, h2⟩ := size_at hp
      rw [badAt_at hp] at hb
      by_cases c : dec (s.drop p) = (65533, 1)
      · rw [if_pos c] at hb; omega
      rw [if_neg c] at hb
      have hne : s.drop p ≠ [] := by simp; omega
      have hv := dec_vr (l := s.drop p)
      have he := enc_dec hne c
      have hd : s.drop p = enc ((dec (s.drop p)).1 : Int) ++ s.drop (p + (dec (s.drop p)).2) := by
        rw [he, ← List.drop_drop, List.take_append_drop]
      have hl := enc_len ((dec (s.drop p)).1 : Int)
      rw [sit_at hp]
      simp only
      cases k with
      | zero => omega
      | succ k =>
        by_cases hr : (dec (s.drop p)).1 < 128
        · have ht := escape_tab ⟨_, hr⟩
          simp only at ht
          simp only [ht]
          have hel := enc_low (r := ((dec (s.drop p)).1 : Int)) (by omega) (by omega)
          simp only [Int.toNat_natCast] at hel
          have hfl : (s.drop p).flatMap esc = esc (UInt8.ofNat (dec (s.drop p)).1) ++ (s.drop (p + (dec (s.drop p)).2)).flatMap esc := by
            conv => lhs; rw [hd]
            rw [hel, List.flatMap_append]
            simp
          have hq := esc_len (UInt8.ofNat (dec (s.drop p)).1)
          by_cases ce : esc (UInt8.ofNat (dec (s.drop p)).1) = [UInt8.ofNat (dec (s.drop p)).1]
          · rw [if_pos ce, seq_t rfl]
            have hw : p_strings_Builder_WriteRune acc ((dec (s.drop p)).1 : Int) = some (acc ++ enc ((dec (s.drop p)).1 : Int), ((enc ((dec (s.drop p)).1 : Int)).length : Int)) := brune_some (by omega) (by omega)
            simp only [hw]
            rw [Quote_loop s hs k _ _ _ _ (by omega) (by simp only [List.length_append]; omega) hb, hfl, hel, ce]
            simp only [List.append_assoc]
          · rw [if_neg ce, seq_f (by intro e; rw [e] at hq; simp at hq)]
            have hw : p_strings_Builder_WriteString acc (esc (UInt8.ofNat (dec (s.drop p)).1)) = some (acc ++ esc (UInt8.ofNat (dec (s.drop p)).1), ((esc (UInt8.ofNat (dec (s.drop p)).1)).length : Int)) := bstr_some (by omega)
            simp only [hw]
            rw [Quote_loop s hs k _ _ _ _ (by omega) (by simp only [List.length_append]; omega) hb, hfl]
            simp only [List.append_assoc]
        · simp only [escape_high (r := ((dec (s.drop p)).1 : Int)) (by omega)]
          rw [seq_t rfl]
          have hw : p_strings_Builder_WriteRune acc ((dec (s.drop p)).1 : Int) = some (acc ++ enc ((dec (s.drop p)).1 : Int), ((enc ((dec (s.drop p)).1 : Int)).length : Int)) := brune_some (by omega) (by simp only [vr, decide_eq_true_eq] at hv; omega)
          have hfl : (s.drop p).flatMap esc = enc ((dec (s.drop p)).1 : Int) ++ (s.drop (p + (dec (s.drop p)).2)).flatMap esc := by
            conv => lhs; rw [hd]
            rw [List.flatMap_append, esc_enc hv (by omega)]
          simp only [hw]
          rw [Quote_loop s hs k _ _ _ _ (by omega) (by simp only [List.length_append]; omega) hb, hfl]
          simp only [List.append_assoc]
    · rw [sit_end (by omega), List.drop_eq_nil_of_le (by omega)]
      have hw : p_strings_Builder_WriteByte acc 34 = some (acc ++ [34]) := bbyte_some (by omega) (by omega)
      simp [hw, p_strings_Builder_String, btext]
theorem quote_Quote (s : Str) (hs : s.length ≤ 1000000) : p_quote_Quote s = some (if badAt s 0 = -1 then (Q s, 0) else ([], 2)) := by
  unfold p_quote_Quote p_quote_Quote_0 b_quote_Quote_0
  simp only [text_Right]
  by_cases c : badAt s 0 < 0
  · have c' := badAt_neg s _ 0 (Nat.le_refl _) c
    rw [if_pos c']
    simp only [decide_eq_true c]
    have hw : p_strings_Builder_WriteByte [] 34 = some ([] ++ [34]) := bbyte_some (by simp) (by omega)
    simp only [hw]
    rw [Quote_loop s hs _ 0 _ _ _ (Nat.le_refl _) (by simp; omega) c']
    simp [Q]
  · rw [if_neg (by omega)]
    simp only [decide_eq_false c]
theorem ref_Quote_3 (s acc : Str) (p : Nat) (hp : p ≤ 1000000) : p_cascaderef02_Quote_3 s acc (p : Int) = some (.inl (s, acc, ((p + 1 : Nat) : Int))) := by
  unfold p_cascaderef02_Quote_3 b_cascaderef02_Quote_3
  rw [r_add (by unfold fit64; omega)]
  rfl
theorem ref_Quote_loop (s : Str) (hs : s.length ≤ 1000000) : ∀ (k p : Nat) (acc : Str), s.length - p ≤ k → acc.length + 6 * (s.length - p) ≤ 100000000 →
    p_cascaderef02_Quote_1 s acc (p : Int) = some (acc ++ (s.drop p).flatMap esc ++ [34])
  | k, p, acc, hk, ha => by
    rw [u_cascaderef02_Quote_1]
    unfold b_cascaderef02_Quote_1
    rw [r_slen]
    by_cases hp : p < s.length
    · rw [lss_true hp]
      have hx : s[p]? = some s[p] := List.getElem?_eq_getElem hp
      have hd : s.drop p = s[p] :: s.drop (p + 1) := List.drop_eq_getElem_cons hp
      have hb := s[p].toNat_lt
      have ht := plain_tab ⟨_, hb⟩
      have hq := esc_len s[p]
      simp only at ht
      simp only [r_sidx hx, ht]
      rw [hd, List.flatMap_cons]
      cases k with
      | zero => omega
      | succ k =>
        have ih := ref_Quote_loop s hs k (p + 1) (acc ++ esc s[p]) (by omega) (by simp only [List.length_append]; omega)
        unfold esc at ih hq ⊢
        by_cases c1 : plainS s[p].toNat ≠ 0
        · rw [if_pos c1] at ih hq ⊢
          rw [neq_t (by omega)]
          have hpl := plainS_le ⟨_, hb⟩
          simp only at hpl
          have e : Prims.real.ofBytes [92, (plainS s[p].toNat : Int)] = [92, UInt8.ofNat (plainS s[p].toNat)] := by
            rw [r_ofBytes]; simp
          simp only [e]
          rw [r_scat (by simp at hq ⊢; omega)]
          simp only [ref_Quote_3 s _ p (by omega)]
          rw [ih]
          simp only [List.append_assoc]
        · rw [if_neg c1] at ih hq ⊢
          rw [neq_f (by omega)]
          simp only
          by_cases c2 : s[p].toNat < 32
          · rw [if_pos c2] at ih hq ⊢
            rw [lss_t (by omega)]
            simp only [byte64]
            rw [r_quo (by omega) (by omega) (by omega), r_rem (by omega) (by omega)]
            simp only
            have t1 := hex_tab ⟨s[p].toNat / 16, by omega⟩
            have t2 := hex_tab ⟨s[p].toNat % 16, by omega⟩
            simp only at t1 t2
            rw [show ((s[p].toNat : Int) / 16) = ((s[p].toNat / 16 : Nat) : Int) by omega, t1, show ((s[p].toNat : Int) % 16) = ((s[p].toNat % 16 : Nat) : Int) by omega]
            simp only
            rw [r_scat (by simp)]
            simp only [t2]
            rw [r_scat (by simp)]
            simp only
            rw [r_scat (by simp; omega)]
            simp only [ref_Quote_3 s _ p (by omega)]
            have e : ([92, 117, 48, 48] ++ [hexc (s[p].toNat / 16)] ++ [hexc (s[p].toNat % 16)] : Str) = [92, 117, 48, 48, hexc (s[p].toNat / 16), hexc (s[p].toNat % 16)] := rfl
            rw [e, ih]
            simp only [List.append_assoc]
          · rw [if_neg c2] at ih hq ⊢
            rw [lss_f (by omega), r_add (by unfold fit64; omega)]
            simp only
            rw [show ((p : Int) + 1) = ((p + 1 : Nat) : Int) by omega, r_ssub2 (by omega) (by omega)]
            simp only
            have e : (s.take (p + 1)).drop p = [s[p]] := by
              rw [List.drop_take, Nat.add_sub_cancel_left, hd]
              rfl
            rw [e, r_scat (by simp; omega)]
            simp only [ref_Quote_3 s _ p (by omega)]
            rw [ih]
            simp only [List.append_assoc]
    · rw [lss_false (by omega), List.drop_eq_nil_of_le (by omega), r_scat (by simp; omega)]
      simp
theorem ref_Quote (s : Str) (hs : s.length ≤ 1000000) : p_cascaderef02_Quote s = some (Q s) := by
  unfold p_cascaderef02_Quote p_cascaderef02_Quote_0 b_cascaderef02_Quote_0
  rw [show (0 : Int) = ((0 : Nat) : Int) from rfl, ref_Quote_loop s hs _ 0 _ (Nat.le_refl _) (by simp; omega)]
  simp [Q]
theorem awake02 : p_cascadelaw02_awake = some true := by
  have h1 : badAt [97] 0 = -1 := badAt_nm [97] _ 0 (Nat.le_refl _) true (by decide)
  unfold p_cascadelaw02_awake p_cascadelaw02_awake_0 b_cascadelaw02_awake_0
  simp only [quote_Quote [97] (by simp), if_pos h1]
  decide +kernel
theorem QuoteTexts (s : Str) : p_cascadelaw02_QuoteTexts s = some true := by
  unfold p_cascadelaw02_QuoteTexts p_cascadelaw02_QuoteTexts_0 b_cascadelaw02_QuoteTexts_0
  simp only [awake02]
  rw [r_slen]
  by_cases hl : s.length ≤ 400
  · rw [gtr_f (by omega)]
    simp only [quote_Quote s (by omega), ref_Right s (by omega), ref_Quote s (by omega)]
    by_cases c : badAt s 0 = -1
    · rw [if_pos c, show (badAt s 0 == -1) = true by simpa using c, eql_t rfl]
      simp only
      rw [seq_t rfl]
    · rw [if_neg c, show (badAt s 0 == -1) = false by simpa using c, eql_t rfl]
      simp only
      rw [seq_t rfl]
  · rw [gtr_t (by omega)]
end Go.Abs.A
