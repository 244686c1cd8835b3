import Derived.Test.YtacabmodmbcldaaDoorRT
import Derived.Test.YtacabmodmbcldaaDoorM1
/-! Texts, and the runes of them: what the functions of layer 1 come to. -/
set_option linter.unusedVariables false
set_option linter.unusedSimpArgs false
namespace Go.Abs.T
open M
/-- Where no rune begins. -/
def badAt (s : Str) (p : Nat) : Int :=
  if h : p < s.length then if dec (s.drop p) = (65533, 1) then p else badAt s (p + (dec (s.drop p)).2) else -1
termination_by s.length - p
decreasing_by
  have := (dec_size (l := s.drop p) (by simp; omega)).1
  omega
theorem decodeGo_dec (l : Str) (h : l ≠ []) : Lib.decodeGo ⟨⟨l⟩⟩ = dec l := by
  unfold Lib.decodeGo
  have hs : (⟨⟨l⟩⟩ : ByteArray).size = l.length := rfl
  rw [hs, if_neg (by cases l <;> simp_all), decode_dec l 0 (Nat.zero_le _), List.drop_zero]
theorem Bad_loop (s : Str) : ∀ (k p : Nat), s.length - p ≤ k → p_text_Bad_1 s s p = some (badAt s p)
  | k, p, hk => by
    rw [u_text_Bad_1, badAt]
    unfold b_text_Bad_1
    by_cases hp : p < s.length
    · have hne : s.drop p ≠ [] := by simp; omega
      obtain ⟨h1, h2⟩ := dec_size hne
      simp only [List.length_drop] at h2
      rw [sit_at hp, dif_pos hp]
      simp only [r_neq, r_eql]
      cases k with
      | zero => omega
      | succ k =>
        have ih := Bad_loop s k (p + (dec (s.drop p)).2) (by omega)
        by_cases e1 : (dec (s.drop p)).1 = 65533
        · have e1' : ((((dec (s.drop p)).1 : Nat) : Int) != 65533) = false := by simp [e1]
          simp only [e1', r_ssub_from (Nat.le_of_lt hp), p_unicode_utf8_DecodeRuneInString, decodeGo_dec _ hne]
          by_cases e2 : (dec (s.drop p)).2 = 1
          · have e2' : ((((dec (s.drop p)).2 : Nat) : Int) == 1) = true := by simp [e2]
            simp only [e2', if_pos (show dec (s.drop p) = (65533, 1) from Prod.ext e1 e2)]
          · have e2' : ((((dec (s.drop p)).2 : Nat) : Int) == 1) = false := by simp; omega
            simp only [e2', if_neg (show ¬ dec (s.drop p) = (65533, 1) from fun h => e2 (by rw [h]))]
            exact ih
        · have e1' : ((((dec (s.drop p)).1 : Nat) : Int) != 65533) = true := by simp; omega
          simp only [e1', if_neg (show ¬ dec (s.drop p) = (65533, 1) from fun h => e1 (by rw [h]))]
          exact ih
    · rw [sit_end (by omega), dif_neg hp]
theorem text_Bad (s : Str) : p_text_Bad s = some (badAt s 0) := Bad_loop s _ 0 (Nat.le_refl _)
theorem text_Right (s : Str) : p_text_Right s = some (decide (badAt s 0 < 0)) := by
  unfold p_text_Right p_text_Right_0 b_text_Right_0
  simp only [text_Bad, r_lss]
theorem wrap32 {n : Int} (h1 : -2147483648 ≤ n) (h2 : n ≤ 2147483647) : Prims.real.wrap .i32 n = n := by
  show IntKind.i32.wrap n = n
  rw [IntKind.wrap_i32]; omega
theorem byte64 (b : UInt8) : Prims.real.wrap .i64 (b.toNat : Int) = (b.toNat : Int) := r_wrap64 (by have := b.toNat_lt; unfold fit64; omega)
/-- A rune that Size tells of a value of so many bytes. -/
def szEnd (n : Nat) (v least : Int) : Int × Int := if v < least ∨ v > 1114111 ∨ (55296 ≤ v ∧ v < 57344) then (0, 0) else (n, v)
/-- What the reference tells at a place. -/
def szOf (l : Str) : Int × Int := if dec l = (65533, 1) then (0, 0) else ((dec l).2, (dec l).1)
theorem byteAt_get {s : Str} {p i : Nat} {b : UInt8} (h : s[p + i]? = some b) : byteAt (s.drop p) i = b.toNat := by
  unfold byteAt; rw [List.getElem?_drop, h]; rfl
theorem get_some {s : Str} {i : Nat} (h : i < s.length) : ∃ b, s[i]? = some b := ⟨s[i], List.getElem?_eq_getElem h⟩
theorem szOf_eq {l : Str} {d : Nat × Nat} (h : dec l = d) : szOf l = if d = (65533, 1) then (0, 0) else ((d.2 : Int), (d.1 : Int)) := by subst h; rfl
theorem szOf_bad {l : Str} (h : dec l = (65533, 1)) : szOf l = (0, 0) := by rw [szOf_eq h]; rfl
/-- Two more bytes. -/
abbrev in6 (b : Nat) : Prop := 128 ≤ b ∧ b < 192
theorem low_eq (n b0 b1 b2 b3 : Nat) (h : 128 ≤ b0) (h' : b0 < 194 ∨ 245 ≤ b0) (hb : b0 < 256) (h1 : b1 < 256) : Lib.decodeN n b0 b1 b2 b3 = (65533, 1) := by
  refine Lib.bad_eq n b0 b1 b2 b3 hb ?_
  unfold Lib.firstT
  repeat' split
  all_goals omega
set_option maxHeartbeats 3200000 in
theorem size_at {s : Str} {p : Nat} (hp : p < s.length) : 1 ≤ (dec (s.drop p)).2 ∧ p + (dec (s.drop p)).2 ≤ s.length := by
  obtain ⟨h1, h2⟩ := dec_size (l := s.drop p) (by simp; omega)
  simp only [List.length_drop] at h2
  omega
theorem badAt_at {s : Str} {p : Nat} (hp : p < s.length) : badAt s p = if dec (s.drop p) = (65533, 1) then (p : Int) else badAt s (p + (dec (s.drop p)).2) := by
  rw [badAt, dif_pos hp]
theorem badAt_end {s : Str} {p : Nat} (hp : s.length ≤ p) : badAt s p = -1 := by rw [badAt, dif_neg (by omega)]
theorem badAt_neg (s : Str) : ∀ (k p : Nat), s.length - p ≤ k → badAt s p < 0 → badAt s p = -1
  | k, p, hk, h => by
    by_cases hp : p < s.length
    · rw [badAt_at hp] at h ⊢
      have h1 := size_at hp
      by_cases c : dec (s.drop p) = (65533, 1)
      · rw [if_pos c] at h; omega
      · rw [if_neg c] at h ⊢
        cases k with
        | zero => omega
        | succ k => exact badAt_neg s k _ (by omega) h
    · exact badAt_end (by omega)
theorem lss_true {a b : Nat} (h : a < b) : Prims.real.cmp .lss (a : Int) (b : Int) = true := by rw [r_lss]; simp; exact h
theorem lss_false {a b : Nat} (h : b ≤ a) : Prims.real.cmp .lss (a : Int) (b : Int) = false := by rw [r_lss]; simp; exact h
theorem right_eq (s : Str) : decide (badAt s 0 < 0) = (badAt s 0 == -1) := by
  rw [Bool.eq_iff_iff]
  simp only [decide_eq_true_eq, beq_iff_eq]
  exact ⟨badAt_neg s _ 0 (Nat.le_refl _), fun h => by omega⟩
/-- A text. -/
def isT (s : Str) : Bool := badAt s 0 == -1
theorem text_isT (s : Str) : p_text_Right s = some (isT s) := by rw [text_Right, right_eq]; rfl
end Go.Abs.T
