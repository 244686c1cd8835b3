import Derived.Test.YtncemafmkkphjaaDoorRA
import Derived.Test.YtncemafmkkphjaaDoorM0
/-! Texts: what the functions of layer 1 come to. -/
set_option linter.unusedVariables false
namespace Go.Abs.A
open M
/-- A letter. -/
def ltr (c : Int) : Bool := decide ((97 ≤ c ∧ c ≤ 122) ∨ (65 ≤ c ∧ c ≤ 90) ∨ c = 95)
def dgt (c : Int) : Bool := decide (48 ≤ c ∧ c ≤ 57)
theorem text_letter (c : Int) : p_text_letter c = some (ltr c) := by
  unfold p_text_letter p_text_letter_0 b_text_letter_0
  simp only [r_geq, r_leq, r_eql]
  (repeat' split) <;> simp_all [ltr] <;> first | omega | (rw [Bool.eq_iff_iff]; simp; omega)
theorem ref_Letter (c : Int) : p_cascaderef01_Letter c = some (ltr c) := by
  unfold p_cascaderef01_Letter p_cascaderef01_Letter_0 b_cascaderef01_Letter_0
  simp only [r_geq, r_leq, r_eql]
  (repeat' split) <;> simp_all [ltr] <;> first | omega | (rw [Bool.eq_iff_iff]; simp; omega)
theorem ref_Digit (c : Int) : p_cascaderef01_Digit c = some (dgt c) := by
  unfold p_cascaderef01_Digit p_cascaderef01_Digit_0 b_cascaderef01_Digit_0
  simp only [r_geq, r_leq]
  (repeat' split) <;> simp_all [dgt] <;> first | omega | (rw [Bool.eq_iff_iff]; simp; omega)
/-- Where no rune begins. -/
def badAt (s : Str) (p : Nat) : Int :=
  if h : p < s.length then if dec (s.drop p) = (65533, 1) then p else badAt s (p + (dec (s.drop p)).2) else -1
termination_by s.length - p
decreasing_by
  have := (dec_size (l := s.drop p) (by simp; omega)).1
  omega
theorem decodeGo_dec (l : Str) (h : l ≠ []) : Lib.decodeGo ⟨⟨l⟩⟩ = dec l := by
  unfold Lib.decodeGo
  have hs : (⟨⟨l⟩⟩ : ByteArray).size = l.length := rfl
  rw [hs, if_neg (by cases l <;> simp_all), decode_dec l 0 (Nat.zero_le _), List.drop_zero]
theorem Bad_loop (s : Str) : ∀ (k p : Nat), s.length - p ≤ k → p_text_Bad_1 s s p = some (badAt s p)
  | k, p, hk => by
    rw [u_text_Bad_1, badAt]
    unfold b_text_Bad_1
    by_cases hp : p < s.length
    · have hne : s.drop p ≠ [] := by simp; omega
      obtain ⟨h1, h2⟩ := dec_size hne
      simp only [List.length_drop] at h2
      rw [sit_at hp, dif_pos hp]
      simp only [r_neq, r_eql]
      cases k with
      | zero => omega
      | succ k =>
        have ih := Bad_loop s k (p + (dec (s.drop p)).2) (by omega)
        by_cases e1 : (dec (s.drop p)).1 = 65533
        · have e1' : ((((dec (s.drop p)).1 : Nat) : Int) != 65533) = false := by simp [e1]
          simp only [e1', r_ssub_from (Nat.le_of_lt hp), p_unicode_utf8_DecodeRuneInString, decodeGo_dec _ hne]
          by_cases e2 : (dec (s.drop p)).2 = 1
          · have e2' : ((((dec (s.drop p)).2 : Nat) : Int) == 1) = true := by simp [e2]
            simp only [e2', if_pos (show dec (s.drop p) = (65533, 1) from Prod.ext e1 e2)]
          · have e2' : ((((dec (s.drop p)).2 : Nat) : Int) == 1) = false := by simp; omega
            simp only [e2', if_neg (show ¬ dec (s.drop p) = (65533, 1) from fun h => e2 (by rw [h]))]
            exact ih
        · have e1' : ((((dec (s.drop p)).1 : Nat) : Int) != 65533) = true := by simp; omega
          simp only [e1', if_neg (show ¬ dec (s.drop p) = (65533, 1) from fun h => e1 (by rw [h]))]
          exact ih
    · rw [sit_end (by omega), dif_neg hp]
theorem text_Bad (s : Str) : p_text_Bad s = some (badAt s 0) := Bad_loop s _ 0 (Nat.le_refl _)
theorem text_Right (s : Str) : p_text_Right s = some (decide (badAt s 0 < 0)) := by
  unfold p_text_Right p_text_Right_0 b_text_Right_0
  simp only [text_Bad, r_lss]
/-- A name's signs. -/
def nm : Bool → Str → Bool
  | _, [] => true
  | first, b :: r => (ltr b.toNat || (!first && dgt b.toNat)) && nm false r
theorem byteAt_drop {s : Str} {p : Nat} {b : UInt8} {r : Str} (h : s.drop p = b :: r) : byteAt (s.drop p) 0 = b.toNat := by rw [h]; rfl
theorem Name_loop (v s : Str) : ∀ (k p : Nat), s.length - p ≤ k → p_text_Name_1 v s p = some (nm (p == 0) (s.drop p) && v != [])
  | k, p, hk => by
    rw [u_text_Name_1]
    unfold b_text_Name_1
    by_cases hp : p < s.length
    · obtain ⟨b, r, hbr⟩ : ∃ b r, s.drop p = b :: r := by
        cases h : s.drop p with
        | nil => have := congrArg List.length h; simp at this; omega
        | cons b r => exact ⟨b, r, rfl⟩
      have hb := byteAt_drop hbr
      have hr : s.drop (p + 1) = r := by rw [← List.drop_drop, hbr]; rfl
      rw [sit_at hp]
      simp only [text_letter, r_eql, r_lss, r_gtr]
      cases k with
      | zero => omega
      | succ k =>
        have hp0 : (((p : Nat) : Int) == 0) = (p == 0) := by rw [Bool.eq_iff_iff]; simp
        by_cases ha : byteAt (s.drop p) 0 < 128
        · have hd := dec_ascii ha
          rw [hb, hbr] at hd
          have ih := Name_loop v s k (p + 1) (by omega)
          rw [hr] at ih
          have hp1 : (p + 1 == 0) = false := by simp
          rw [hp1] at ih
          simp only [hd, hbr, nm, hp0]
          cases hl : ltr (b.toNat : Int) with
          | true => simp only [Bool.true_or, Bool.true_and]; exact ih
          | false =>
            simp only [Bool.false_or]
            cases hz : (p == 0) with
            | true => simp
            | false =>
              by_cases h1 : ((b.toNat : Nat) : Int) < 48
              · simp [h1, dgt]; intro h; omega
              · by_cases h2 : ((b.toNat : Nat) : Int) > 57
                · simp [h1, h2, dgt]; intro h; omega
                · have hdg : dgt (b.toNat : Int) = true := by simp [dgt]; omega
                  simp only [h1, h2, decide_false, hdg, Bool.not_false, Bool.true_and]
                  exact ih
        · have hh := dec_high (l := s.drop p) (by omega)
          have hl1 : ltr (((dec (s.drop p)).1 : Nat) : Int) = false := by simp [ltr]; omega
          have hl2 : ltr ((b.toNat : Nat) : Int) = false := by simp [ltr]; omega
          have hd2 : dgt ((b.toNat : Nat) : Int) = false := by simp [dgt]; omega
          have h1 : decide ((((dec (s.drop p)).1 : Nat) : Int) < 48) = false := by simp; omega
          have h2 : decide ((((dec (s.drop p)).1 : Nat) : Int) > 57) = true := by simp; omega
          simp only [hl1, h1, h2]
          rw [hbr]
          simp only [nm, hl2, hd2, Bool.and_false, Bool.or_false, Bool.false_and, hp0]
          cases (p == 0) <;> rfl
    · rw [sit_end (by omega), List.drop_eq_nil_of_le (by omega)]
      simp only [nm, r_seq, Bool.true_and]
      cases v <;> rfl
theorem text_Name (s : Str) : p_text_Name s = some (nm true s && s != []) := by
  have := Name_loop s s _ 0 (Nat.le_refl _)
  unfold p_text_Name p_text_Name_0 b_text_Name_0
  simpa using this
theorem ref_Name_loop (s : Str) (hs : s.length ≤ 4611686018427387904) : ∀ (k p : Nat), s.length - p ≤ k → p ≤ s.length → p_cascaderef01_Name_1 s (p : Int) = some (nm (p == 0) (s.drop p) && decide (0 < s.length))
  | k, p, hk, hle => by
    rw [u_cascaderef01_Name_1]
    unfold b_cascaderef01_Name_1
    simp only [r_lss, r_slen, r_gtr, r_eql]
    by_cases hp : p < s.length
    · obtain ⟨b, r, hbr⟩ : ∃ b r, s.drop p = b :: r := by
        cases h : s.drop p with
        | nil => have := congrArg List.length h; simp at this; omega
        | cons b r => exact ⟨b, r, rfl⟩
      have hr : s.drop (p + 1) = r := by rw [← List.drop_drop, hbr]; rfl
      have hat : s[p]? = some b := by
        have := congrArg (fun l => l[0]?) hbr
        simpa using this
      have hlt : decide ((p : Int) < (s.length : Int)) = true := by simp; omega
      simp only [hlt, r_sidx hat, ref_Letter, ref_Digit]
      cases k with
      | zero => omega
      | succ k =>
        have ih := ref_Name_loop s hs k (p + 1) (by omega) (by omega)
        have hp1 : (p + 1 == 0) = false := by simp
        rw [hr, hp1] at ih
        have hp0 : (((p : Nat) : Int) == 0) = (p == 0) := by rw [Bool.eq_iff_iff]; simp
        have hstep : p_cascaderef01_Name_3 s (p : Int) = some (.inl (s, ((p + 1 : Nat) : Int))) := by
          unfold p_cascaderef01_Name_3 b_cascaderef01_Name_3
          rw [r_add (by unfold fit64; omega)]
          rfl
        rw [hbr]
        simp only [nm, hp0]
        cases hl : ltr (b.toNat : Int) with
        | true => simp only [hstep, Bool.true_or, Bool.true_and]; exact ih
        | false =>
          simp only [Bool.false_or]
          cases hz : (p == 0) with
          | true => simp
          | false =>
            cases hdg : dgt (b.toNat : Int) with
            | true => simp only [hstep, Bool.not_false, Bool.true_and]; exact ih
            | false => simp
    · have hlt : decide ((p : Int) < (s.length : Int)) = false := by simp; omega
      simp only [hlt]
      rw [List.drop_eq_nil_of_le (by omega)]
      simp [nm]
theorem ref_Name (s : Str) (hs : s.length ≤ 4611686018427387904) : p_cascaderef01_Name s = some (nm true s && s != []) := by
  have := ref_Name_loop s hs _ 0 (Nat.le_refl _) (Nat.zero_le _)
  unfold p_cascaderef01_Name p_cascaderef01_Name_0 b_cascaderef01_Name_0
  rw [show (0 : Int) = ((0 : Nat) : Int) from rfl, this]
  cases s <;> simp
/-- The signs of a name are runes of one byte. -/
theorem badAt_nm (s : Str) : ∀ (k p : Nat), s.length - p ≤ k → ∀ f, nm f (s.drop p) = true → badAt s p = -1
  | k, p, hk, f, hn => by
    rw [badAt]
    by_cases hp : p < s.length
    · obtain ⟨b, r, hbr⟩ : ∃ b r, s.drop p = b :: r := by
        cases h : s.drop p with
        | nil => have := congrArg List.length h; simp at this; omega
        | cons b r => exact ⟨b, r, rfl⟩
      have hb := byteAt_drop hbr
      have hr : s.drop (p + 1) = r := by rw [← List.drop_drop, hbr]; rfl
      rw [hbr] at hn
      simp only [nm, Bool.and_eq_true, Bool.or_eq_true] at hn
      have hlow : b.toNat < 128 := by
        rcases hn.1 with h | h
        · simp [ltr] at h; omega
        · simp [dgt] at h; omega
      have hd := dec_ascii (l := s.drop p) (by omega)
      rw [dif_pos hp, if_neg (by rw [hd]; intro h; have := congrArg Prod.fst h; simp at this; omega)]
      cases k with
      | zero => omega
      | succ k =>
        rw [hd]
        exact badAt_nm s k (p + 1) (by omega) false (by rw [hr]; exact hn.2)
    · rw [dif_neg hp]
theorem awake01 : p_cascadelaw01_awake = some true := by
  have h1 : badAt [97] 0 = -1 := badAt_nm [97] _ 0 (Nat.le_refl _) true (by decide)
  unfold p_cascadelaw01_awake p_cascadelaw01_awake_0 b_cascadelaw01_awake_0
  simp only [text_Right, text_Bad, text_Name, h1, r_eql]
  decide
theorem TextNames (s : Str) : p_cascadelaw01_TextNames s = some true := by
  unfold p_cascadelaw01_TextNames p_cascadelaw01_TextNames_0 b_cascadelaw01_TextNames_0
  simp only [awake01, r_gtr, r_slen]
  by_cases hl : s.length ≤ 200
  · have e : decide ((s.length : Int) > 200) = false := by simp; omega
    simp only [e, text_Name, ref_Name s (by omega), text_Right]
    cases h : (nm true s && s != []) with
    | false => simp
    | true =>
      simp only [Bool.and_eq_true] at h
      have := badAt_nm s _ 0 (Nat.le_refl _) true (by simpa using h.1)
      simp [this]
  · have e : decide ((s.length : Int) > 200) = true := by simp; omega
    simp only [e]
end Go.Abs.A
