import Derived.Test.YtbfnelnbjcfliaaDoorRT
import Derived.Test.YtbfnelnbjcfliaaDoorM1
/-! Texts, and the runes of them: what the functions of layer 1 come to. -/
set_option linter.unusedVariables false
set_option linter.unusedSimpArgs false
namespace Go.Abs.T
open M
/-- Where no rune begins. -/
def badAt (s : Str) (p : Nat) : Int :=
  if h : p < s.length then if dec (s.drop p) = (65533, 1) then p else badAt s (p + (dec (s.drop p)).2) else -1
termination_by s.length - p
decreasing_by
  have := (dec_size (l := s.drop p) (by simp; omega)).1
  omega
theorem decodeGo_dec (l : Str) (h : l ≠ []) : Lib.decodeGo ⟨⟨l⟩⟩ = dec l := by
  unfold Lib.decodeGo
  have hs : (⟨⟨l⟩⟩ : ByteArray).size = l.length := rfl
  rw [hs, if_neg (by cases l <;> simp_all), decode_dec l 0 (Nat.zero_le _), List.drop_zero]
theorem Bad_loop (s : Str) : ∀ (k p : Nat), s.length - p ≤ k → p_text_Bad_1 s s p = some (badAt s p)
  | k, p, hk => by
    rw [u_text_Bad_1, badAt]
    unfold b_text_Bad_1
    by_cases hp : p < s.length
    · have hne : s.drop p ≠ [] := by simp; omega
      obtain ⟨h1, h2⟩ := dec_size hne
      simp only [List.length_drop] at h2
      rw [sit_at hp, dif_pos hp]
      simp only [r_neq, r_eql]
      cases k with
      | zero => omega
      | succ k =>
        have ih := Bad_loop s k (p + (dec (s.drop p)).2) (by omega)
        by_cases e1 : (dec (s.drop p)).1 = 65533
        · have e1' : ((((dec (s.drop p)).1 : Nat) : Int) != 65533) = false := by simp [e1]
          simp only [e1', r_ssub_from (Nat.le_of_lt hp), p_unicode_utf8_DecodeRuneInString, decodeGo_dec _ hne]
          by_cases e2 : (dec (s.drop p)).2 = 1
          · have e2' : ((((dec (s.drop p)).2 : Nat) : Int) == 1) = true := by simp [e2]
            simp only [e2', if_pos (show dec (s.drop p) = (65533, 1) from Prod.ext e1 e2)]
          · have e2' : ((((dec (s.drop p)).2 : Nat) : Int) == 1) = false := by simp; omega
            simp only [e2', if_neg (show ¬ dec (s.drop p) = (65533, 1) from fun h => e2 (by rw [h]))]
            exact ih
        · have e1' : ((((dec (s.drop p)).1 : Nat) : Int) != 65533) = true := by simp; omega
          simp only [e1', if_neg (show ¬ dec (s.drop p) = (65533, 1) from fun h => e1 (by rw [h]))]
          exact ih
    · rw [sit_end (by omega), dif_neg hp]
theorem text_Bad (s : Str) : p_text_Bad s = some (badAt s 0) := Bad_loop s _ 0 (Nat.le_refl _)
theorem text_Right (s : Str) : p_text_Right s = some (decide (badAt s 0 < 0)) := by
  unfold p_text_Right p_text_Right_0 b_text_Right_0
  simp only [text_Bad, r_lss]
theorem wrap32 {n : Int} (h1 : -2147483648 ≤ n) (h2 : n ≤ 2147483647) : Prims.real.wrap .i32 n = n := by
  show IntKind.i32.wrap n = n
  rw [IntKind.wrap_i32]; omega
theorem byte64 (b : UInt8) : Prims.real.wrap .i64 (b.toNat : Int) = (b.toNat : Int) := r_wrap64 (by have := b.toNat_lt; unfold fit64; omega)
/-- A rune that Size tells of a value of so many bytes. -/
def szEnd (n : Nat) (v least : Int) : Int × Int := if v < least ∨ v > 1114111 ∨ (55296 ≤ v ∧ v < 57344) then (0, 0) else (n, v)
theorem Size_11 (n : Nat) (v : Int) (h1 : 0 ≤ v) (h2 : v ≤ 1114111) : p_cascaderef01_Size_11 n v = some ((n : Int), v) := by
  unfold p_cascaderef01_Size_11 b_cascaderef01_Size_11
  rw [wrap32 (by omega) (by omega)]
theorem Size_end (s : Str) (p : Int) (n : Nat) (v least : Int) (h1 : 0 ≤ v) : p_cascaderef01_Size_6 s p n v least n = some (szEnd n v least) := by
  rw [u_cascaderef01_Size_6]
  unfold b_cascaderef01_Size_6 szEnd
  simp only [r_lss, r_gtr, r_geq]
  have e0 : decide ((n : Int) < n) = false := by simp
  simp only [e0]
  by_cases c1 : v < least
  · simp [c1]
  · by_cases c2 : v > 1114111
    · simp [c1, c2]
    · by_cases c3 : v ≥ 55296
      · by_cases c4 : v < 57344
        · simp [c1, c2, c3, c4]
        · rw [Size_11 n v h1 (by omega)]
          simp [c1, c2, c3, c4]
      · rw [Size_11 n v h1 (by omega)]
        have : ¬ (55296 ≤ v ∧ v < 57344) := by omega
        simp [c1, c2, c3]
theorem Size_step (s : Str) (p i : Nat) (n v least : Int) (hi : (i : Int) < n) {b : UInt8} (hb : s[p + i]? = some b) (hv : 0 ≤ v ∧ v ≤ 1000000000) (hp : p + i ≤ 4611686018427387904) :
    p_cascaderef01_Size_6 s p n v least i = if b.toNat < 128 ∨ 192 ≤ b.toNat then some (0, 0) else p_cascaderef01_Size_6 s p n (v * 64 + b.toNat - 128) least ((i + 1 : Nat) : Int) := by
  have hb' := b.toNat_lt
  rw [u_cascaderef01_Size_6]
  unfold b_cascaderef01_Size_6
  have e0 : decide ((i : Int) < n) = true := by simpa using hi
  simp only [r_lss, r_geq, e0]
  rw [r_add (a := (p : Int)) (b := (i : Int)) (by unfold fit64; omega), show (p : Int) + (i : Int) = ((p + i : Nat) : Int) by omega, r_sidx hb]
  simp only [byte64]
  by_cases c1 : b.toNat < 128
  · have e1 : decide (((b.toNat : Nat) : Int) < 128) = true := by simp; omega
    simp [e1, c1]
  · have e1 : decide (((b.toNat : Nat) : Int) < 128) = false := by simp; omega
    simp only [e1]
    by_cases c2 : 192 ≤ b.toNat
    · have e2 : decide (((b.toNat : Nat) : Int) ≥ 192) = true := by simp; omega
      simp [e2, c2]
    · have e2 : decide (((b.toNat : Nat) : Int) ≥ 192) = false := by simp; omega
      simp only [e2]
      rw [if_neg (by omega), r_mul (by unfold fit64; omega), r_add (a := v * 64) (by unfold fit64; omega), r_sub64 (by unfold fit64; omega), r_add (a := (i : Int)) (b := 1) (by unfold fit64; omega)]
      rfl
/-- What the reference tells at a place. -/
def szOf (l : Str) : Int × Int := if dec l = (65533, 1) then (0, 0) else ((dec l).2, (dec l).1)
theorem byteAt_get {s : Str} {p i : Nat} {b : UInt8} (h : s[p + i]? = some b) : byteAt (s.drop p) i = b.toNat := by
  unfold byteAt; rw [List.getElem?_drop, h]; rfl
theorem get_some {s : Str} {i : Nat} (h : i < s.length) : ∃ b, s[i]? = some b := ⟨s[i], List.getElem?_eq_getElem h⟩
theorem sz2 (s : Str) (p c : Int) (n v l : Int) (h : 0 ≤ c ∧ c < 256) : p_cascaderef01_Size_2 s p c n v l = if 224 ≤ c ∧ c < 240 then p_cascaderef01_Size_3 s p c 3 (c - 224) 2048 else p_cascaderef01_Size_3 s p c n v l := by
  unfold p_cascaderef01_Size_2 b_cascaderef01_Size_2
  simp only [r_geq, r_lss]
  by_cases c1 : 224 ≤ c
  · have e1 : decide (c ≥ 224) = true := by simpa using c1
    simp only [e1]
    by_cases c2 : c < 240
    · have e2 : decide (c < 240) = true := by simpa using c2
      simp only [e2]
      rw [if_pos ⟨c1, c2⟩, r_sub64 (by unfold fit64; omega)]
    · have e2 : decide (c < 240) = false := by simpa using c2
      simp only [e2]
      rw [if_neg (by omega)]
  · have e1 : decide (c ≥ 224) = false := by simpa using c1
    simp only [e1]
    rw [if_neg (by omega)]
theorem sz3 (s : Str) (p c : Int) (n v l : Int) (h : 0 ≤ c ∧ c < 256) : p_cascaderef01_Size_3 s p c n v l = if 240 ≤ c ∧ c < 245 then p_cascaderef01_Size_4 s p 4 (c - 240) 65536 else p_cascaderef01_Size_4 s p n v l := by
  unfold p_cascaderef01_Size_3 b_cascaderef01_Size_3
  simp only [r_geq, r_lss]
  by_cases c1 : 240 ≤ c
  · have e1 : decide (c ≥ 240) = true := by simpa using c1
    simp only [e1]
    by_cases c2 : c < 245
    · have e2 : decide (c < 245) = true := by simpa using c2
      simp only [e2]
      rw [if_pos ⟨c1, c2⟩, r_sub64 (by unfold fit64; omega)]
    · have e2 : decide (c < 245) = false := by simpa using c2
      simp only [e2]
      rw [if_neg (by omega)]
  · have e1 : decide (c ≥ 240) = false := by simpa using c1
    simp only [e1]
    rw [if_neg (by omega)]
theorem sz0 (s : Str) (p : Nat) {b0 : UInt8} (h0 : s[p]? = some b0) : p_cascaderef01_Size s p =
    if b0.toNat < 128 then some ((1 : Int), (b0.toNat : Int)) else if b0.toNat < 194 then p_cascaderef01_Size_4 s p 0 0 0 else if b0.toNat < 224 then p_cascaderef01_Size_4 s p 2 ((b0.toNat : Int) - 192) 128
    else if b0.toNat < 240 then p_cascaderef01_Size_4 s p 3 ((b0.toNat : Int) - 224) 2048 else if b0.toNat < 245 then p_cascaderef01_Size_4 s p 4 ((b0.toNat : Int) - 240) 65536 else p_cascaderef01_Size_4 s p 0 0 0 := by
  have hb := b0.toNat_lt
  unfold p_cascaderef01_Size p_cascaderef01_Size_0 b_cascaderef01_Size_0
  rw [r_sidx h0]
  simp only [byte64, r_lss, r_geq]
  rw [wrap32 (by omega) (by omega), r_sub64 (by unfold fit64; omega)]
  simp only [sz2 s p (b0.toNat : Int) _ _ _ ⟨by omega, by omega⟩, sz3 s p (b0.toNat : Int) _ _ _ ⟨by omega, by omega⟩]
  by_cases c1 : b0.toNat < 128
  · have e : decide (((b0.toNat : Nat) : Int) < 128) = true := by simp; omega
    simp only [e, if_pos c1]
  · have e : decide (((b0.toNat : Nat) : Int) < 128) = false := by simp; omega
    simp only [e, if_neg c1]
    by_cases c2 : b0.toNat < 194
    · have e : decide (((b0.toNat : Nat) : Int) ≥ 194) = false := by simp; omega
      simp only [e, if_pos c2]
      rw [if_neg (by omega), if_neg (by omega)]
    · have e : decide (((b0.toNat : Nat) : Int) ≥ 194) = true := by simp; omega
      simp only [e, if_neg c2]
      by_cases c3 : b0.toNat < 224
      · have e : decide (((b0.toNat : Nat) : Int) < 224) = true := by simp; omega
        simp only [e, if_pos c3]
        rw [if_neg (by omega), if_neg (by omega)]
      · have e : decide (((b0.toNat : Nat) : Int) < 224) = false := by simp; omega
        simp only [e, if_neg c3]
        by_cases c4 : b0.toNat < 240
        · simp only [if_pos c4]
          rw [if_pos (by omega), if_neg (by omega)]
        · simp only [if_neg c4]
          rw [if_neg (by omega)]
          by_cases c5 : b0.toNat < 245
          · rw [if_pos (by omega), if_pos c5]
          · rw [if_neg (by omega), if_neg c5]
theorem sz4 (s : Str) (hs : s.length ≤ 4611686018427387000) (p : Nat) (n : Nat) (v least : Int) (h1 : n ≠ 0) (h4 : n ≤ 4) (hp : p < s.length) : p_cascaderef01_Size_4 s p n v least = if s.length < p + n then some (0, 0) else p_cascaderef01_Size_6 s p n v least ((1 : Nat) : Int) := by
  unfold p_cascaderef01_Size_4 b_cascaderef01_Size_4
  rw [r_slen, r_sub64 (by unfold fit64; omega), r_add (by unfold fit64; omega)]
  simp only [r_eql, r_geq]
  have e1 : (((n : Nat) : Int) == 0) = false := by simpa using h1
  simp only [e1]
  by_cases c : s.length < p + n
  · rw [if_pos c]
    have e2 : decide ((p : Int) ≥ (s.length : Int) - (n : Int) + 1) = true := by simp; omega
    simp only [e2]
  · rw [if_neg c]
    have e2 : decide ((p : Int) ≥ (s.length : Int) - (n : Int) + 1) = false := by simp; omega
    simp only [e2]; rfl
theorem sz4_0 (s : Str) (p : Int) : p_cascaderef01_Size_4 s p 0 0 0 = some (0, 0) := by
  unfold p_cascaderef01_Size_4 b_cascaderef01_Size_4
  simp [r_eql]
theorem szOf_eq {l : Str} {d : Nat × Nat} (h : dec l = d) : szOf l = if d = (65533, 1) then (0, 0) else ((d.2 : Int), (d.1 : Int)) := by subst h; rfl
theorem szOf_bad {l : Str} (h : dec l = (65533, 1)) : szOf l = (0, 0) := by rw [szOf_eq h]; rfl
/-- Two more bytes. -/
abbrev in6 (b : Nat) : Prop := 128 ≤ b ∧ b < 192
theorem run2 (s : Str) (hs : s.length ≤ 4611686018427387000) (p : Nat) (v : Int) (hv : 0 ≤ v ∧ v < 64) (hp : p + 2 ≤ s.length) :
    p_cascaderef01_Size_6 s p 2 v 128 ((1 : Nat) : Int) = if in6 (byteAt (s.drop p) 1) then some (szEnd 2 (v * 64 + byteAt (s.drop p) 1 - 128) 128) else some (0, 0) := by
  obtain ⟨b1, h1⟩ := get_some (s := s) (i := p + 1) (by omega)
  have hb1 := b1.toNat_lt
  rw [Size_step s p 1 2 v 128 (by omega) h1 ⟨by omega, by omega⟩ (by omega), byteAt_get h1]
  unfold in6
  by_cases c : b1.toNat < 128 ∨ 192 ≤ b1.toNat
  · rw [if_pos c, if_neg (by omega)]
  · rw [if_neg c, if_pos (by omega)]
    exact Size_end s p 2 _ 128 (by omega)
theorem run3 (s : Str) (hs : s.length ≤ 4611686018427387000) (p : Nat) (v : Int) (hv : 0 ≤ v ∧ v < 64) (hp : p + 3 ≤ s.length) :
    p_cascaderef01_Size_6 s p 3 v 2048 ((1 : Nat) : Int) = if in6 (byteAt (s.drop p) 1) ∧ in6 (byteAt (s.drop p) 2) then some (szEnd 3 ((v * 64 + byteAt (s.drop p) 1 - 128) * 64 + byteAt (s.drop p) 2 - 128) 2048) else some (0, 0) := by
  obtain ⟨b1, h1⟩ := get_some (s := s) (i := p + 1) (by omega)
  obtain ⟨b2, h2⟩ := get_some (s := s) (i := p + 2) (by omega)
  have hb1 := b1.toNat_lt
  have hb2 := b2.toNat_lt
  rw [Size_step s p 1 3 v 2048 (by omega) h1 ⟨by omega, by omega⟩ (by omega), byteAt_get h1, byteAt_get h2]
  unfold in6
  by_cases c : b1.toNat < 128 ∨ 192 ≤ b1.toNat
  · rw [if_pos c, if_neg (by omega)]
  · rw [if_neg c, Size_step s p 2 3 _ 2048 (by omega) h2 ⟨by omega, by omega⟩ (by omega)]
    by_cases c2 : b2.toNat < 128 ∨ 192 ≤ b2.toNat
    · rw [if_pos c2, if_neg (by omega)]
    · rw [if_neg c2, if_pos (by omega)]
      exact Size_end s p 3 _ 2048 (by omega)
theorem run4 (s : Str) (hs : s.length ≤ 4611686018427387000) (p : Nat) (v : Int) (hv : 0 ≤ v ∧ v < 64) (hp : p + 4 ≤ s.length) :
    p_cascaderef01_Size_6 s p 4 v 65536 ((1 : Nat) : Int) = if in6 (byteAt (s.drop p) 1) ∧ in6 (byteAt (s.drop p) 2) ∧ in6 (byteAt (s.drop p) 3) then some (szEnd 4 (((v * 64 + byteAt (s.drop p) 1 - 128) * 64 + byteAt (s.drop p) 2 - 128) * 64 + byteAt (s.drop p) 3 - 128) 65536) else some (0, 0) := by
  obtain ⟨b1, h1⟩ := get_some (s := s) (i := p + 1) (by omega)
  obtain ⟨b2, h2⟩ := get_some (s := s) (i := p + 2) (by omega)
  obtain ⟨b3, h3⟩ := get_some (s := s) (i := p + 3) (by omega)
  have hb1 := b1.toNat_lt
  have hb2 := b2.toNat_lt
  have hb3 := b3.toNat_lt
  rw [Size_step s p 1 4 v 65536 (by omega) h1 ⟨by omega, by omega⟩ (by omega), byteAt_get h1, byteAt_get h2, byteAt_get h3]
  unfold in6
  by_cases c : b1.toNat < 128 ∨ 192 ≤ b1.toNat
  · rw [if_pos c, if_neg (by omega)]
  · rw [if_neg c, Size_step s p 2 4 _ 65536 (by omega) h2 ⟨by omega, by omega⟩ (by omega)]
    by_cases c2 : b2.toNat < 128 ∨ 192 ≤ b2.toNat
    · rw [if_pos c2, if_neg (by omega)]
    · rw [if_neg c2, Size_step s p 3 4 _ 65536 (by omega) h3 ⟨by omega, by omega⟩ (by omega)]
      by_cases c3 : b3.toNat < 128 ∨ 192 ≤ b3.toNat
      · rw [if_pos c3, if_neg (by omega)]
      · rw [if_neg c3, if_pos (by omega)]
        exact Size_end s p 4 _ 65536 (by omega)
theorem low_eq (n b0 b1 b2 b3 : Nat) (h : 128 ≤ b0) (h' : b0 < 194 ∨ 245 ≤ b0) (hb : b0 < 256) (h1 : b1 < 256) : Lib.decodeN n b0 b1 b2 b3 = (65533, 1) := by
  refine Lib.bad_eq n b0 b1 b2 b3 hb ?_
  unfold Lib.firstT
  repeat' split
  all_goals omega
set_option maxHeartbeats 3200000 in
theorem ref_Size (s : Str) (hs : s.length ≤ 4611686018427387000) (p : Nat) (hp : p < s.length) : p_cascaderef01_Size s p = some (szOf (s.drop p)) := by
  obtain ⟨b0, h0⟩ := get_some hp
  have B0 : byteAt (s.drop p) 0 = b0.toNat := byteAt_get (by simpa using h0)
  have hb0 := b0.toNat_lt
  have hlen : (s.drop p).length = s.length - p := by simp
  have l1 := byteAt_lt (s.drop p) 1
  have l2 := byteAt_lt (s.drop p) 2
  have l3 := byteAt_lt (s.drop p) 3
  have hd : dec (s.drop p) = Lib.decodeN (s.length - p) b0.toNat (byteAt (s.drop p) 1) (byteAt (s.drop p) 2) (byteAt (s.drop p) 3) := by
    unfold dec; rw [B0, hlen]
  rw [sz0 s p h0]
  by_cases c1 : b0.toNat < 128
  · rw [if_pos c1, szOf_eq (dec_ascii (l := s.drop p) (by omega)), B0, if_neg (by simp; omega)]
    rfl
  rw [if_neg c1]
  by_cases c2 : b0.toNat < 194
  · rw [if_pos c2, sz4_0, szOf_bad (by rw [hd]; exact low_eq _ _ _ _ _ (by omega) (by omega) hb0 l1)]
  rw [if_neg c2]
  by_cases c3 : b0.toNat < 224
  · rw [if_pos c3, show (2 : Int) = ((2 : Nat) : Int) from rfl, sz4 s hs p 2 _ _ (by omega) (by omega) hp]
    have hd' := hd.trans (Lib.slow_C2 _ _ _ _ _ (by omega) l1 l2 l3 ⟨by omega, c3⟩).symm
    unfold Lib.slowN at hd'
    by_cases c : s.length < p + 2
    · rw [if_pos (by omega)] at hd'
      rw [if_pos c, szOf_bad hd']
    · rw [if_neg (by omega)] at hd'
      rw [if_neg c]
      rw [show ((2 : Nat) : Int) = 2 from rfl, run2 s hs p _ (by omega) (by omega)]
      unfold in6
      by_cases d1 : byteAt (s.drop p) 1 < 128 ∨ 191 < byteAt (s.drop p) 1
      · rw [if_pos d1] at hd'
        rw [if_neg (by omega), szOf_bad hd']
      · rw [if_neg d1, if_pos (by omega)] at hd'
        rw [if_pos (by omega), szOf_eq hd', if_neg (by simp)]
        unfold szEnd
        rw [if_neg (by omega)]
        simp only [Option.some.injEq, Prod.mk.injEq]
        refine ⟨trivial, ?_⟩
        omega
  rw [if_neg c3]
  by_cases c4 : b0.toNat < 240
  · rw [if_pos c4, show (3 : Int) = ((3 : Nat) : Int) from rfl, sz4 s hs p 3 _ _ (by omega) (by omega) hp]
    obtain ⟨lo, hi, hq, hd'⟩ : ∃ lo hi, ((b0.toNat = 224 ∧ lo = 160 ∧ hi = 191) ∨ (b0.toNat = 237 ∧ lo = 128 ∧ hi = 159) ∨ (b0.toNat ≠ 224 ∧ b0.toNat ≠ 237 ∧ lo = 128 ∧ hi = 191)) ∧ dec (s.drop p) = Lib.slowN (s.length - p) b0.toNat (byteAt (s.drop p) 1) (byteAt (s.drop p) 2) (byteAt (s.drop p) 3) 3 lo hi := by
      by_cases q1 : b0.toNat = 224
      · exact ⟨160, 191, .inl ⟨q1, rfl, rfl⟩, hd.trans (Lib.slow_E0 _ _ _ _ _ (by omega) l1 l2 l3 q1).symm⟩
      · by_cases q2 : b0.toNat = 237
        · exact ⟨128, 159, .inr (.inl ⟨q2, rfl, rfl⟩), hd.trans (Lib.slow_ED _ _ _ _ _ (by omega) l1 l2 l3 q2).symm⟩
        · exact ⟨128, 191, .inr (.inr ⟨q1, q2, rfl, rfl⟩), hd.trans (Lib.slow_E1 _ _ _ _ _ (by omega) l1 l2 l3 (by omega)).symm⟩
    unfold Lib.slowN at hd'
    by_cases c : s.length < p + 3
    · rw [if_pos (by omega)] at hd'
      rw [if_pos c, szOf_bad hd']
    · rw [if_neg (by omega)] at hd'
      rw [if_neg c]
      rw [show ((3 : Nat) : Int) = 3 from rfl, run3 s hs p _ (by omega) (by omega)]
      unfold in6 szEnd
      generalize byteAt (s.drop p) 1 = b1 at *
      generalize byteAt (s.drop p) 2 = b2 at *
      by_cases d1 : b1 < lo ∨ hi < b1
      · rw [if_pos d1] at hd'
        rw [szOf_bad hd']
        by_cases e1 : (128 ≤ b1 ∧ b1 < 192) ∧ (128 ≤ b2 ∧ b2 < 192)
        · rw [if_pos e1, if_pos (by omega)]
        · rw [if_neg e1]
      · rw [if_neg d1, if_neg (by omega)] at hd'
        by_cases d2 : b2 < 128 ∨ 191 < b2
        · rw [if_pos d2] at hd'
          rw [if_neg (by omega), szOf_bad hd']
        · rw [if_neg d2, if_pos (by omega)] at hd'
          rw [if_pos (by omega), if_neg (by omega), szOf_eq hd', if_neg (by simp)]
          simp only [Option.some.injEq, Prod.mk.injEq]
          refine ⟨trivial, ?_⟩
          omega
  rw [if_neg c4]
  by_cases c5 : b0.toNat < 245
  · rw [if_pos c5, show (4 : Int) = ((4 : Nat) : Int) from rfl, sz4 s hs p 4 _ _ (by omega) (by omega) hp]
    obtain ⟨lo, hi, hq, hd'⟩ : ∃ lo hi, ((b0.toNat = 240 ∧ lo = 144 ∧ hi = 191) ∨ (b0.toNat = 244 ∧ lo = 128 ∧ hi = 143) ∨ (b0.toNat ≠ 240 ∧ b0.toNat ≠ 244 ∧ lo = 128 ∧ hi = 191)) ∧ dec (s.drop p) = Lib.slowN (s.length - p) b0.toNat (byteAt (s.drop p) 1) (byteAt (s.drop p) 2) (byteAt (s.drop p) 3) 4 lo hi := by
      by_cases q1 : b0.toNat = 240
      · exact ⟨144, 191, .inl ⟨q1, rfl, rfl⟩, hd.trans (Lib.slow_F0 _ _ _ _ _ (by omega) l1 l2 l3 q1).symm⟩
      · by_cases q2 : b0.toNat = 244
        · exact ⟨128, 143, .inr (.inl ⟨q2, rfl, rfl⟩), hd.trans (Lib.slow_F4 _ _ _ _ _ (by omega) l1 l2 l3 q2).symm⟩
        · exact ⟨128, 191, .inr (.inr ⟨q1, q2, rfl, rfl⟩), hd.trans (Lib.slow_F1 _ _ _ _ _ (by omega) l1 l2 l3 (by omega)).symm⟩
    unfold Lib.slowN at hd'
    by_cases c : s.length < p + 4
    · rw [if_pos (by omega)] at hd'
      rw [if_pos c, szOf_bad hd']
    · rw [if_neg (by omega)] at hd'
      rw [if_neg c]
      rw [show ((4 : Nat) : Int) = 4 from rfl, run4 s hs p _ (by omega) (by omega)]
      unfold in6 szEnd
      generalize byteAt (s.drop p) 1 = b1 at *
      generalize byteAt (s.drop p) 2 = b2 at *
      generalize byteAt (s.drop p) 3 = b3 at *
      by_cases d1 : b1 < lo ∨ hi < b1
      · rw [if_pos d1] at hd'
        rw [szOf_bad hd']
        by_cases e1 : (128 ≤ b1 ∧ b1 < 192) ∧ (128 ≤ b2 ∧ b2 < 192) ∧ (128 ≤ b3 ∧ b3 < 192)
        · rw [if_pos e1, if_pos (by omega)]
        · rw [if_neg e1]
      · rw [if_neg d1, if_neg (by omega)] at hd'
        by_cases d2 : b2 < 128 ∨ 191 < b2
        · rw [if_pos d2] at hd'
          rw [if_neg (by omega), szOf_bad hd']
        · rw [if_neg d2, if_neg (by omega)] at hd'
          by_cases d3 : b3 < 128 ∨ 191 < b3
          · rw [if_pos d3] at hd'
            rw [if_neg (by omega), szOf_bad hd']
          · rw [if_neg d3] at hd'
            rw [if_pos (by omega), if_neg (by omega), szOf_eq hd', if_neg (by simp)]
            simp only [Option.some.injEq, Prod.mk.injEq]
            refine ⟨trivial, ?_⟩
            omega
  rw [if_neg c5, sz4_0, szOf_bad (by rw [hd]; exact low_eq _ _ _ _ _ (by omega) (by omega) hb0 l1)]
theorem size_at {s : Str} {p : Nat} (hp : p < s.length) : 1 ≤ (dec (s.drop p)).2 ∧ p + (dec (s.drop p)).2 ≤ s.length := by
  obtain ⟨h1, h2⟩ := dec_size (l := s.drop p) (by simp; omega)
  simp only [List.length_drop] at h2
  omega
theorem badAt_at {s : Str} {p : Nat} (hp : p < s.length) : badAt s p = if dec (s.drop p) = (65533, 1) then (p : Int) else badAt s (p + (dec (s.drop p)).2) := by
  rw [badAt, dif_pos hp]
theorem badAt_end {s : Str} {p : Nat} (hp : s.length ≤ p) : badAt s p = -1 := by rw [badAt, dif_neg (by omega)]
theorem badAt_neg (s : Str) : ∀ (k p : Nat), s.length - p ≤ k → badAt s p < 0 → badAt s p = -1
  | k, p, hk, h => by
    by_cases hp : p < s.length
    · rw [badAt_at hp] at h ⊢
      have h1 := size_at hp
      by_cases c : dec (s.drop p) = (65533, 1)
      · rw [if_pos c] at h; omega
      · rw [if_neg c] at h ⊢
        cases k with
        | zero => omega
        | succ k => exact badAt_neg s k _ (by omega) h
    · exact badAt_end (by omega)
theorem lss_true {a b : Nat} (h : a < b) : Prims.real.cmp .lss (a : Int) (b : Int) = true := by rw [r_lss]; simp; exact h
theorem lss_false {a b : Nat} (h : b ≤ a) : Prims.real.cmp .lss (a : Int) (b : Int) = false := by rw [r_lss]; simp; exact h
theorem ref_Bad_loop (s : Str) (hs : s.length ≤ 4611686018427387000) : ∀ (k p : Nat), s.length - p ≤ k → p_cascaderef01_Bad_1 s (p : Int) = some (badAt s p)
  | k, p, hk => by
    rw [u_cascaderef01_Bad_1]
    unfold b_cascaderef01_Bad_1
    rw [r_slen]
    by_cases hp : p < s.length
    · rw [lss_true hp]
      simp only [ref_Size s hs p hp]
      obtain ⟨h1, h2⟩ := size_at hp
      rw [badAt_at hp]
      unfold szOf
      by_cases c : dec (s.drop p) = (65533, 1)
      · simp only [if_pos c, r_eql]
        rfl
      · simp only [if_neg c, r_eql]
        have e : ((((dec (s.drop p)).2 : Nat) : Int) == 0) = false := by simp; omega
        simp only [e]
        rw [r_add (by unfold fit64; omega)]
        cases k with
        | zero => omega
        | succ k => exact ref_Bad_loop s hs k _ (by omega)
    · rw [lss_false (by omega), badAt_end (by omega)]
theorem ref_Bad (s : Str) (hs : s.length ≤ 4611686018427387000) : p_cascaderef01_Bad s = some (badAt s 0) := by
  unfold p_cascaderef01_Bad p_cascaderef01_Bad_0 b_cascaderef01_Bad_0
  exact ref_Bad_loop s hs _ 0 (Nat.le_refl _)
theorem ref_Right (s : Str) (hs : s.length ≤ 4611686018427387000) : p_cascaderef01_Right s = some (badAt s 0 == -1) := by
  unfold p_cascaderef01_Right p_cascaderef01_Right_0 b_cascaderef01_Right_0
  simp only [ref_Bad s hs, r_eql]
theorem right_eq (s : Str) : decide (badAt s 0 < 0) = (badAt s 0 == -1) := by
  rw [Bool.eq_iff_iff]
  simp only [decide_eq_true_eq, beq_iff_eq]
  exact ⟨badAt_neg s _ 0 (Nat.le_refl _), fun h => by omega⟩
/-- A text. -/
def isT (s : Str) : Bool := badAt s 0 == -1
theorem text_isT (s : Str) : p_text_Right s = some (isT s) := by rw [text_Right, right_eq]; rfl
theorem ref_isT (s : Str) (hs : s.length ≤ 4611686018427387000) : p_cascaderef01_Right s = some (isT s) := ref_Right s hs
end Go.Abs.T
