import Derived.Test.YtacabmodmbcldaaDoorRT
import Derived.Test.YtacabmodmbcldaaDoorM1
/-! Texts, and the runes of them: what the functions of layer 1 come to. -/
set_option linter.unusedVariables false
set_option linter.unusedSimpArgs false
namespace Go.Abs.T
open M
def badAt (s : Str) (p : Nat) : Int :=
 if h : p < s.length then if dec (s.drop p) = (65533, 1) then p else badAt s (p + (dec (s.drop p)).2) else -1
termination_by s.length - p
decreasing_by
 have := (dec_size (l := s.drop p) (by simp; omega)).1
 omega
theorem decodeGo_dec (l : Str) (h : l ≠ []) : Lib.decodeGo ⟨⟨l⟩⟩ = dec l := by
 unfold Lib.decodeGo
 have hs : (⟨⟨l⟩⟩ : ByteArray).size = l.length := rfl
 rw [hs, if_neg (by cases l <;> simp_all), decode_dec l 0 (Nat.zero_le _), List.drop_zero]
theorem Bad_loop (s : Str) : ∀ (k p : Nat), s.length - p ≤ k → p_ze3_1 (s, s, p) = some (badAt s p)
 | k, p, hk => by
  rw [u_ze3_1, badAt]
  simp only [b_ze3_1]
  by_cases hp : p < s.length
  ·have hne : s.drop p ≠ [] := by simp; omega
   obtain ⟨h1, h2⟩ := dec_size hne
   simp only [List.length_drop] at h2
   rw [sit_at hp, dif_pos hp]
   simp only [r_neq, r_eql]
   cases k with
   | zero => omega
   | succ k =>
    have ih := Bad_loop s k (p + (dec (s.drop p)).2) (by omega)
    by_cases e1 : (dec (s.drop p)).1 = 65533
    ·have e1' : ((((dec (s.drop p)).1 : Nat) : Int) != 65533) = false := by simp [e1]
     simp only [e1', r_ssub_from (Nat.le_of_lt hp), p_zfl, decodeGo_dec _ hne]
     by_cases e2 : (dec (s.drop p)).2 = 1
     ·have e2' : ((((dec (s.drop p)).2 : Nat) : Int) == 1) = true := by simp [e2]
      simp only [e2', if_pos (show dec (s.drop p) = (65533, 1) from Prod.ext e1 e2)]
     ·have e2' : ((((dec (s.drop p)).2 : Nat) : Int) == 1) = false := by simp; omega
      simp only [e2', if_neg (show ¬ dec (s.drop p) = (65533, 1) from fun h => e2 (by rw [h]))]
      exact ih
    ·have e1' : ((((dec (s.drop p)).1 : Nat) : Int) != 65533) = true := by simp; omega
     simp only [e1', if_neg (show ¬ dec (s.drop p) = (65533, 1) from fun h => e1 (by rw [h]))]
     exact ih
  ·rw [sit_end (by omega), dif_neg hp]
theorem text_Bad (s : Str) : p_ze3 s = some (badAt s 0) := Bad_loop s _ 0 (Nat.le_refl _)
theorem text_Right (s : Str) : p_ze5 s = some (decide (badAt s 0 < 0)) := by
 unfold p_ze5 p_ze5_0
 simp only [b_ze5_0]
 simp only [text_Bad, r_lss]
theorem wrap32 {n : Int} (h1 : -2147483648 ≤ n) (h2 : n ≤ 2147483647) : Prims.real.wrap .i32 n = n := by
 show IntKind.i32.wrap n = n
 rw [IntKind.wrap_i32]; omega
theorem byte64 (b : UInt8) : Prims.real.wrap .i64 (b.toNat : Int) = (b.toNat : Int) := r_wrap64 (by have := b.toNat_lt; unfold fit64; omega)
def szEnd (n : Nat) (v least : Int) : Int × Int := if v < least ∨ v > 1114111 ∨ (55296 ≤ v ∧ v < 57344) then (0, 0) else (n, v)
theorem Size_11 (n : Nat) (v : Int) (h1 : 0 ≤ v) (h2 : v ≤ 1114111) : p_zy_11 (n, v) = some ((n : Int), v) := by
 unfold p_zy_11
 simp only [b_zy_11]
 rw [wrap32 (by omega) (by omega)]
theorem Size_end (s : Str) (p : Int) (n : Nat) (v least : Int) (h1 : 0 ≤ v) : p_zy_6 (s, p, n, v, least, n) = some (szEnd n v least) := by
 rw [u_zy_6]
 unfold szEnd
 simp only [b_zy_6]
 simp only [r_lss, r_gtr, r_geq]
 have e0 : decide ((n : Int) < n) = false := by simp
 simp only [e0]
 by_cases c1 : v < least
 ·simp [c1]
 ·by_cases c2 : v > 1114111
  ·simp [c1, c2]
  ·by_cases c3 : v ≥ 55296
   ·by_cases c4 : v < 57344
    ·simp [c1, c2, c3, c4]
    ·rw [Size_11 n v h1 (by omega)]
     simp [c1, c2, c3, c4]
   ·rw [Size_11 n v h1 (by omega)]
    have : ¬ (55296 ≤ v ∧ v < 57344) := by omega
    simp [c1, c2, c3]
theorem Size_step (s : Str) (p i : Nat) (n v least : Int) (hi : (i : Int) < n) {b : UInt8} (hb : s[p + i]? = some b) (hv : 0 ≤ v ∧ v ≤ 1000000000) (hp : p + i ≤ 4611686018427387904) :
  p_zy_6 (s, p, n, v, least, i) = if b.toNat < 128 ∨ 192 ≤ b.toNat then some (0, 0) else p_zy_6 (s, p, n, (v * 64 + b.toNat - 128), least, ((i + 1 : Nat) : Int)) := by
 have hb' := b.toNat_lt
 rw [u_zy_6]
 simp only [b_zy_6]
 have e0 : decide ((i : Int) < n) = true := by simpa using hi
 simp only [r_lss, r_geq, e0]
 rw [r_add (a := (p : Int)) (b := (i : Int)) (by unfold fit64; omega), show (p : Int) + (i : Int) = ((p + i : Nat) : Int) by omega, r_sidx hb]
 simp only [byte64]
 by_cases c1 : b.toNat < 128
 ·have e1 : decide (((b.toNat : Nat) : Int) < 128) = true := by simp; omega
  simp [e1, c1]
 ·have e1 : decide (((b.toNat : Nat) : Int) < 128) = false := by simp; omega
  simp only [e1]
  by_cases c2 : 192 ≤ b.toNat
  ·have e2 : decide (((b.toNat : Nat) : Int) ≥ 192) = true := by simp; omega
   simp [e2, c2]
  ·have e2 : decide (((b.toNat : Nat) : Int) ≥ 192) = false := by simp; omega
   simp only [e2]
   rw [if_neg (by omega), r_mul (by unfold fit64; omega), r_add (a := v * 64) (by unfold fit64; omega), r_sub64 (by unfold fit64; omega), r_add (a := (i : Int)) (b := 1) (by unfold fit64; omega)]
   rfl
def szOf (l : Str) : Int × Int := if dec l = (65533, 1) then (0, 0) else ((dec l).2, (dec l).1)
theorem byteAt_get {s : Str} {p i : Nat} {b : UInt8} (h : s[p + i]? = some b) : byteAt (s.drop p) i = b.toNat := by
 unfold byteAt; rw [List.getElem?_drop, h]; rfl
theorem get_some {s : Str} {i : Nat} (h : i < s.length) : ∃ b, s[i]? = some b := ⟨s[i], List.getElem?_eq_getElem h⟩
theorem sz2 (s : Str) (p c : Int) (n v l : Int) (h : 0 ≤ c ∧ c < 256) : p_zy_2 (s, p, c, n, v, l) = if 224 ≤ c ∧ c < 240 then p_zy_3 (s, p, c, 3, (c - 224), 2048) else p_zy_3 (s, p, c, n, v, l) := by
 unfold p_zy_2
 simp only [b_zy_2]
 simp only [r_geq, r_lss]
 by_cases c1 : 224 ≤ c
 ·have e1 : decide (c ≥ 224) = true := by simpa using c1
  simp only [e1]
  by_cases c2 : c < 240
  ·have e2 : decide (c < 240) = true := by simpa using c2
   simp only [e2]
   rw [if_pos ⟨c1, c2⟩, r_sub64 (by unfold fit64; omega)]
  ·have e2 : decide (c < 240) = false := by simpa using c2
   simp only [e2]
   rw [if_neg (by omega)]
 ·have e1 : decide (c ≥ 224) = false := by simpa using c1
  simp only [e1]
  rw [if_neg (by omega)]
theorem sz3 (s : Str) (p c : Int) (n v l : Int) (h : 0 ≤ c ∧ c < 256) : p_zy_3 (s, p, c, n, v, l) = if 240 ≤ c ∧ c < 245 then p_zy_4 (s, p, 4, (c - 240), 65536) else p_zy_4 (s, p, n, v, l) := by
 unfold p_zy_3
 simp only [b_zy_3]
 simp only [r_geq, r_lss]
 by_cases c1 : 240 ≤ c
 ·have e1 : decide (c ≥ 240) = true := by simpa using c1
  simp only [e1]
  by_cases c2 : c < 245
  ·have e2 : decide (c < 245) = true := by simpa using c2
   simp only [e2]
   rw [if_pos ⟨c1, c2⟩, r_sub64 (by unfold fit64; omega)]
  ·have e2 : decide (c < 245) = false := by simpa using c2
   simp only [e2]
   rw [if_neg (by omega)]
 ·have e1 : decide (c ≥ 240) = false := by simpa using c1
  simp only [e1]
  rw [if_neg (by omega)]
theorem sz0 (s : Str) (p : Nat) {b0 : UInt8} (h0 : s[p]? = some b0) : p_zy s p =
  if b0.toNat < 128 then some ((1 : Int), (b0.toNat : Int)) else if b0.toNat < 194 then p_zy_4 (s, p, 0, 0, 0) else if b0.toNat < 224 then p_zy_4 (s, p, 2, ((b0.toNat : Int) - 192), 128)
  else if b0.toNat < 240 then p_zy_4 (s, p, 3, ((b0.toNat : Int) - 224), 2048) else if b0.toNat < 245 then p_zy_4 (s, p, 4, ((b0.toNat : Int) - 240), 65536) else p_zy_4 (s, p, 0, 0, 0) := by
 have hb := b0.toNat_lt
 unfold p_zy p_zy_0
 simp only [b_zy_0]
 rw [r_sidx h0]
 simp only [byte64, r_lss, r_geq]
 rw [wrap32 (by omega) (by omega), r_sub64 (by unfold fit64; omega)]
 simp only [sz2 s p (b0.toNat : Int) _ _ _ ⟨by omega, by omega⟩, sz3 s p (b0.toNat : Int) _ _ _ ⟨by omega, by omega⟩]
 by_cases c1 : b0.toNat < 128
 ·have e : decide (((b0.toNat : Nat) : Int) < 128) = true := by simp; omega
  simp only [e, if_pos c1]
 ·have e : decide (((b0.toNat : Nat) : Int) < 128) = false := by simp; omega
  simp only [e, if_neg c1]
  by_cases c2 : b0.toNat < 194
  ·have e : decide (((b0.toNat : Nat) : Int) ≥ 194) = false := by simp; omega
   simp only [e, if_pos c2]
   rw [if_neg (by omega), if_neg (by omega)]
  ·have e : decide (((b0.toNat : Nat) : Int) ≥ 194) = true := by simp; omega
   simp only [e, if_neg c2]
   by_cases c3 : b0.toNat < 224
   ·have e : decide (((b0.toNat : Nat) : Int) < 224) = true := by simp; omega
    simp only [e, if_pos c3]
    rw [if_neg (by omega), if_neg (by omega)]
   ·have e : decide (((b0.toNat : Nat) : Int) < 224) = false := by simp; omega
    simp only [e, if_neg c3]
    by_cases c4 : b0.toNat < 240
    ·simp only [if_pos c4]
     rw [if_pos (by omega), if_neg (by omega)]
    ·simp only [if_neg c4]
     rw [if_neg (by omega)]
     by_cases c5 : b0.toNat < 245
     ·rw [if_pos (by omega), if_pos c5]
     ·rw [if_neg (by omega), if_neg c5]
theorem sz4 (s : Str) (hs : s.length ≤ 4611686018427387000) (p : Nat) (n : Nat) (v least : Int) (h1 : n ≠ 0) (h4 : n ≤ 4) (hp : p < s.length) : p_zy_4 (s, p, n, v, least) = if s.length < p + n then some (0, 0) else p_zy_6 (s, p, n, v, least, ((1 : Nat) : Int)) := by
 unfold p_zy_4
 simp only [b_zy_4]
 rw [r_slen, r_sub64 (by unfold fit64; omega), r_add (by unfold fit64; omega)]
 simp only [r_eql, r_geq]
 have e1 : (((n : Nat) : Int) == 0) = false := by simpa using h1
 simp only [e1]
 by_cases c : s.length < p + n
 ·rw [if_pos c]
  have e2 : decide ((p : Int) ≥ (s.length : Int) - (n : Int) + 1) = true := by simp; omega
  simp only [e2]
 ·rw [if_neg c]
  have e2 : decide ((p : Int) ≥ (s.length : Int) - (n : Int) + 1) = false := by simp; omega
  simp only [e2]; rfl
theorem sz4_0 (s : Str) (p : Int) : p_zy_4 (s, p, 0, 0, 0) = some (0, 0) := by
 unfold p_zy_4
 simp only [b_zy_4]
 simp [r_eql]
theorem szOf_eq {l : Str} {d : Nat × Nat} (h : dec l = d) : szOf l = if d = (65533, 1) then (0, 0) else ((d.2 : Int), (d.1 : Int)) := by subst h; rfl
theorem szOf_bad {l : Str} (h : dec l = (65533, 1)) : szOf l = (0, 0) := by rw [szOf_eq h]; rfl
abbrev in6 (b : Nat) : Prop := 128 ≤ b ∧ b < 192
theorem run2 (s : Str) (hs : s.length ≤ 4611686018427387000) (p : Nat) (v : Int) (hv : 0 ≤ v ∧ v < 64) (hp : p + 2 ≤ s.length) :
  p_zy_6 (s, p, 2, v, 128, ((1 : Nat) : Int)) = if in6 (byteAt (s.drop p) 1) then some (szEnd 2 (v * 64 + byteAt (s.drop p) 1 - 128) 128) else some (0, 0) := by
 obtain ⟨b1, h1⟩ := get_some (s := s) (i := p + 1) (by omega)
 have hb1 := b1.toNat_lt
 rw [Size_step s p 1 2 v 128 (by omega) h1 ⟨by omega, by omega⟩ (by omega), byteAt_get h1]
 unfold in6
 by_cases c : b1.toNat < 128 ∨ 192 ≤ b1.toNat
 ·rw [if_pos c, if_neg (by omega)]
 ·rw [if_neg c, if_pos (by omega)]
  exact Size_end s p 2 _ 128 (by omega)
theorem run3 (s : Str) (hs : s.length ≤ 4611686018427387000) (p : Nat) (v : Int) (hv : 0 ≤ v ∧ v < 64) (hp : p + 3 ≤ s.length) :
  p_zy_6 (s, p, 3, v, 2048, ((1 : Nat) : Int)) = if in6 (byteAt (s.drop p) 1) ∧ in6 (byteAt (s.drop p) 2) then some (szEnd 3 ((v * 64 + byteAt (s.drop p) 1 - 128) * 64 + byteAt (s.drop p) 2 - 128) 2048) else some (0, 0) := by
 obtain ⟨b1, h1⟩ := get_some (s := s) (i := p + 1) (by omega)
 obtain ⟨b2, h2⟩ := get_some (s := s) (i := p + 2) (by omega)
 have hb1 := b1.toNat_lt
 have hb2 := b2.toNat_lt
 rw [Size_step s p 1 3 v 2048 (by omega) h1 ⟨by omega, by omega⟩ (by omega), byteAt_get h1, byteAt_get h2]
 unfold in6
 by_cases c : b1.toNat < 128 ∨ 192 ≤ b1.toNat
 ·rw [if_pos c, if_neg (by omega)]
 ·rw [if_neg c, Size_step s p 2 3 _ 2048 (by omega) h2 ⟨by omega, by omega⟩ (by omega)]
  by_cases c2 : b2.toNat < 128 ∨ 192 ≤ b2.toNat
  ·rw [if_pos c2, if_neg (by omega)]
  ·rw [if_neg c2, if_pos (by omega)]
   exact Size_end s p 3 _ 2048 (by omega)
theorem run4 (s : Str) (hs : s.length ≤ 4611686018427387000) (p : Nat) (v : Int) (hv : 0 ≤ v ∧ v < 64) (hp : p + 4 ≤ s.length) :
  p_zy_6 (s, p, 4, v, 65536, ((1 : Nat) : Int)) = if in6 (byteAt (s.drop p) 1) ∧ in6 (byteAt (s.drop p) 2) ∧ in6 (byteAt (s.drop p) 3) then some (szEnd 4 (((v * 64 + byteAt (s.drop p) 1 - 128) * 64 + byteAt (s.drop p) 2 - 128) * 64 + byteAt (s.drop p) 3 - 128) 65536) else some (0, 0) := by
 obtain ⟨b1, h1⟩ := get_some (s := s) (i := p + 1) (by omega)
 obtain ⟨b2, h2⟩ := get_some (s := s) (i := p + 2) (by omega)
 obtain ⟨b3, h3⟩ := get_some (s := s) (i := p + 3) (by omega)
 have hb1 := b1.toNat_lt
 have hb2 := b2.toNat_lt
 have hb3 := b3.toNat_lt
 rw [Size_step s p 1 4 v 65536 (by omega) h1 ⟨by omega, by omega⟩ (by omega), byteAt_get h1, byteAt_get h2, byteAt_get h3]
 unfold in6
 by_cases c : b1.toNat < 128 ∨ 192 ≤ b1.toNat
 ·rw [if_pos c, if_neg (by omega)]
 ·rw [if_neg c, Size_step s p 2 4 _ 65536 (by omega) h2 ⟨by omega, by omega⟩ (by omega)]
  by_cases c2 : b2.toNat < 128 ∨ 192 ≤ b2.toNat
  ·rw [if_pos c2, if_neg (by omega)]
  ·rw [if_neg c2, Size_step s p 3 4 _ 65536 (by omega) h3 ⟨by omega, by omega⟩ (by omega)]
   by_cases c3 : b3.toNat < 128 ∨ 192 ≤ b3.toNat
   ·rw [if_pos c3, if_neg (by omega)]
   ·rw [if_neg c3, if_pos (by omega)]
    exact Size_end s p 4 _ 65536 (by omega)
theorem low_eq (n b0 b1 b2 b3 : Nat) (h : 128 ≤ b0) (h' : b0 < 194 ∨ 245 ≤ b0) (hb : b0 < 256) (h1 : b1 < 256) : Lib.decodeN n b0 b1 b2 b3 = (65533, 1) := by
 refine Lib.bad_eq n b0 b1 b2 b3 hb ?_
 unfold Lib.firstT
 repeat' split
 all_goals omega
set_option maxHeartbeats 3200000 in
theorem ref_Size (s : Str) (hs : s.length ≤ 4611686018427387000) (p : Nat) (hp : p < s.length) : p_zy s p = some (szOf (s.drop p)) := by
 obtain ⟨b0, h0⟩ := get_some hp
 have B0 : byteAt (s.drop p) 0 = b0.toNat := byteAt_get (by simpa using h0)
 have hb0 := b0.toNat_lt
 have hlen : (s.drop p).length = s.length - p := by simp
 have l1 := byteAt_lt (s.drop p) 1
 have l2 := byteAt_lt (s.drop p) 2
 have l3 := byteAt_lt (s.drop p) 3
 have hd : dec (s.drop p) = Lib.decodeN (s.length - p) b0.toNat (byteAt (s.drop p) 1) (byteAt (s.drop p) 2) (byteAt (s.drop p) 3) := by
  unfold dec; rw [B0, hlen]
 rw [sz0 s p h0]
 by_cases c1 : b0.toNat < 128
 ·rw [if_pos c1, szOf_eq (dec_ascii (l := s.drop p) (by omega)), B0, if_neg (by simp; omega)]
  rfl
 rw [if_neg c1]
 by_cases c2 : b0.toNat < 194
 ·rw [if_pos c2, sz4_0, szOf_bad (by rw [hd]; exact low_eq _ _ _ _ _ (by omega) (by omega) hb0 l1)]
 rw [if_neg c2]
 by_cases c3 : b0.toNat < 224
 ·rw [if_pos c3, show (2 : Int) = ((2 : Nat) : Int) from rfl, sz4 s hs p 2 _ _ (by omega) (by omega) hp]
  have hd' := hd.trans (Lib.slow_C2 _ _ _ _ _ (by omega) l1 l2 l3 ⟨by omega, c3⟩).symm
  unfold Lib.slowN at hd'
  by_cases c : s.length < p + 2
  ·rw [if_pos (by omega)] at hd'
   rw [if_pos c, szOf_bad hd']
  ·rw [if_neg (by omega)] at hd'
   rw [if_neg c]
   rw [show ((2 : Nat) : Int) = 2 from rfl, run2 s hs p _ (by omega) (by omega)]
   unfold in6
   by_cases d1 : byteAt (s.drop p) 1 < 128 ∨ 191 < byteAt (s.drop p) 1
   ·rw [if_pos d1] at hd'
    rw [if_neg (by omega), szOf_bad hd']
   ·rw [if_neg d1, if_pos (by omega)] at hd'
    rw [if_pos (by omega), szOf_eq hd', if_neg (by simp)]
    unfold szEnd
    rw [if_neg (by omega)]
    simp only [Option.some.injEq, Prod.mk.injEq]
    refine ⟨trivial, ?_⟩
    omega
 rw [if_neg c3]
 by_cases c4 : b0.toNat < 240
 ·rw [if_pos c4, show (3 : Int) = ((3 : Nat) : Int) from rfl, sz4 s hs p 3 _ _ (by omega) (by omega) hp]
  obtain ⟨lo, hi, hq, hd'⟩ : ∃ lo hi, ((b0.toNat = 224 ∧ lo = 160 ∧ hi = 191) ∨ (b0.toNat = 237 ∧ lo = 128 ∧ hi = 159) ∨ (b0.toNat ≠ 224 ∧ b0.toNat ≠ 237 ∧ lo = 128 ∧ hi = 191)) ∧ dec (s.drop p) = Lib.slowN (s.length - p) b0.toNat (byteAt (s.drop p) 1) (byteAt (s.drop p) 2) (byteAt (s.drop p) 3) 3 lo hi := by
   by_cases q1 : b0.toNat = 224
   ·exact ⟨160, 191, .inl ⟨q1, rfl, rfl⟩, hd.trans (Lib.slow_E0 _ _ _ _ _ (by omega) l1 l2 l3 q1).symm⟩
   ·by_cases q2 : b0.toNat = 237
    ·exact ⟨128, 159, .inr (.inl ⟨q2, rfl, rfl⟩), hd.trans (Lib.slow_ED _ _ _ _ _ (by omega) l1 l2 l3 q2).symm⟩
    ·exact ⟨128, 191, .inr (.inr ⟨q1, q2, rfl, rfl⟩), hd.trans (Lib.slow_E1 _ _ _ _ _ (by omega) l1 l2 l3 (by omega)).symm⟩
  unfold Lib.slowN at hd'
  by_cases c : s.length < p + 3
  ·rw [if_pos (by omega)] at hd'
   rw [if_pos c, szOf_bad hd']
  ·rw [if_neg (by omega)] at hd'
   rw [if_neg c]
   rw [show ((3 : Nat) : Int) = 3 from rfl, run3 s hs p _ (by omega) (by omega)]
   unfold in6 szEnd
   generalize byteAt (s.drop p) 1 = b1 at *
   generalize byteAt (s.drop p) 2 = b2 at *
   by_cases d1 : b1 < lo ∨ hi < b1
   ·rw [if_pos d1] at hd'
    rw [szOf_bad hd']
    by_cases e1 : (128 ≤ b1 ∧ b1 < 192) ∧ (128 ≤ b2 ∧ b2 < 192)
    ·rw [if_pos e1, if_pos (by omega)]
    ·rw [if_neg e1]
   ·rw [if_neg d1, if_neg (by omega)] at hd'
    by_cases d2 : b2 < 128 ∨ 191 < b2
    ·rw [if_pos d2] at hd'
     rw [if_neg (by omega), szOf_bad hd']
    ·rw [if_neg d2, if_pos (by omega)] at hd'
     rw [if_pos (by omega), if_neg (by omega), szOf_eq hd', if_neg (by simp)]
     simp only [Option.some.injEq, Prod.mk.injEq]
     refine ⟨trivial, ?_⟩
     omega
 rw [if_neg c4]
 by_cases c5 : b0.toNat < 245
 ·rw [if_pos c5, show (4 : Int) = ((4 : Nat) : Int) from rfl, sz4 s hs p 4 _ _ (by omega) (by omega) hp]
  obtain ⟨lo, hi, hq, hd'⟩ : ∃ lo hi, ((b0.toNat = 240 ∧ lo = 144 ∧ hi = 191) ∨ (b0.toNat = 244 ∧ lo = 128 ∧ hi = 143) ∨ (b0.toNat ≠ 240 ∧ b0.toNat ≠ 244 ∧ lo = 128 ∧ hi = 191)) ∧ dec (s.drop p) = Lib.slowN (s.length - p) b0.toNat (byteAt (s.drop p) 1) (byteAt (s.drop p) 2) (byteAt (s.drop p) 3) 4 lo hi := by
   by_cases q1 : b0.toNat = 240
   ·exact ⟨144, 191, .inl ⟨q1, rfl, rfl⟩, hd.trans (Lib.slow_F0 _ _ _ _ _ (by omega) l1 l2 l3 q1).symm⟩
   ·by_cases q2 : b0.toNat = 244
    ·exact ⟨128, 143, .inr (.inl ⟨q2, rfl, rfl⟩), hd.trans (Lib.slow_F4 _ _ _ _ _ (by omega) l1 l2 l3 q2).symm⟩
    ·exact ⟨128, 191, .inr (.inr ⟨q1, q2, rfl, rfl⟩), hd.trans (Lib.slow_F1 _ _ _ _ _ (by omega) l1 l2 l3 (by omega)).symm⟩
  unfold Lib.slowN at hd'
  by_cases c : s.length < p + 4
  ·rw [if_pos (by omega)] at hd'
   rw [if_pos c, szOf_bad hd']
  ·rw [if_neg (by omega)] at hd'
   rw [if_neg c]
   rw [show ((4 : Nat) : Int) = 4 from rfl, run4 s hs p _ (by omega) (by omega)]
   unfold in6 szEnd
   generalize byteAt (s.drop p) 1 = b1 at *
   generalize byteAt (s.drop p) 2 = b2 at *
   generalize byteAt (s.drop p) 3 = b3 at *
   by_cases d1 : b1 < lo ∨ hi < b1
   ·rw [if_pos d1] at hd'
    rw [szOf_bad hd']
    by_cases e1 : (128 ≤ b1 ∧ b1 < 192) ∧ (128 ≤ b2 ∧ b2 < 192) ∧ (128 ≤ b3 ∧ b3 < 192)
    ·rw [if_pos e1, if_pos (by omega)]
    ·rw [if_neg e1]
   ·rw [if_neg d1, if_neg (by omega)] at hd'
    by_cases d2 : b2 < 128 ∨ 191 < b2
    ·rw [if_pos d2] at hd'
     rw [if_neg (by omega), szOf_bad hd']
    ·rw [if_neg d2, if_neg (by omega)] at hd'
     by_cases d3 : b3 < 128 ∨ 191 < b3
     ·rw [if_pos d3] at hd'
      rw [if_neg (by omega), szOf_bad hd']
     ·rw [if_neg d3] at hd'
      rw [if_pos (by omega), if_neg (by omega), szOf_eq hd', if_neg (by simp)]
      simp only [Option.some.injEq, Prod.mk.injEq]
      refine ⟨trivial, ?_⟩
      omega
 rw [if_neg c5, sz4_0, szOf_bad (by rw [hd]; exact low_eq _ _ _ _ _ (by omega) (by omega) hb0 l1)]
theorem size_at {s : Str} {p : Nat} (hp : p < s.length) : 1 ≤ (dec (s.drop p)).2 ∧ p + (dec (s.drop p)).2 ≤ s.length := by
 obtain ⟨h1, h2⟩ := dec_size (l := s.drop p) (by simp; omega)
 simp only [List.length_drop] at h2
 omega
theorem badAt_at {s : Str} {p : Nat} (hp : p < s.length) : badAt s p = if dec (s.drop p) = (65533, 1) then (p : Int) else badAt s (p + (dec (s.drop p)).2) := by
 rw [badAt, dif_pos hp]
theorem badAt_end {s : Str} {p : Nat} (hp : s.length ≤ p) : badAt s p = -1 := by rw [badAt, dif_neg (by omega)]
theorem badAt_neg (s : Str) : ∀ (k p : Nat), s.length - p ≤ k → badAt s p < 0 → badAt s p = -1
 | k, p, hk, h => by
  by_cases hp : p < s.length
  ·rw [badAt_at hp] at h ⊢
   have h1 := size_at hp
   by_cases c : dec (s.drop p) = (65533, 1)
   ·rw [if_pos c] at h; omega
   ·rw [if_neg c] at h ⊢
    cases k with
    | zero => omega
    | succ k => exact badAt_neg s k _ (by omega) h
  ·exact badAt_end (by omega)
theorem lss_true {a b : Nat} (h : a < b) : Prims.real.cmp .lss (a : Int) (b : Int) = true := by rw [r_lss]; simp; exact h
theorem lss_false {a b : Nat} (h : b ≤ a) : Prims.real.cmp .lss (a : Int) (b : Int) = false := by rw [r_lss]; simp; exact h
theorem ref_Bad_loop (s : Str) (hs : s.length ≤ 4611686018427387000) : ∀ (k p : Nat), s.length - p ≤ k → p_zv_1 (s, (p : Int)) = some (badAt s p)
 | k, p, hk => by
  rw [u_zv_1]
  simp only [b_zv_1]
  rw [r_slen]
  by_cases hp : p < s.length
  ·rw [lss_true hp]
   simp only [ref_Size s hs p hp]
   obtain ⟨h1, h2⟩ := size_at hp
   rw [badAt_at hp]
   unfold szOf
   by_cases c : dec (s.drop p) = (65533, 1)
   ·simp only [if_pos c, r_eql]
    rfl
   ·simp only [if_neg c, r_eql]
    have e : ((((dec (s.drop p)).2 : Nat) : Int) == 0) = false := by simp; omega
    simp only [e]
    rw [r_add (by unfold fit64; omega)]
    cases k with
    | zero => omega
    | succ k => exact ref_Bad_loop s hs k _ (by omega)
  ·rw [lss_false (by omega), badAt_end (by omega)]
theorem ref_Bad (s : Str) (hs : s.length ≤ 4611686018427387000) : p_zv s = some (badAt s 0) := by
 unfold p_zv p_zv_0
 simp only [b_zv_0]
 exact ref_Bad_loop s hs _ 0 (Nat.le_refl _)
theorem ref_Right (s : Str) (hs : s.length ≤ 4611686018427387000) : p_zx s = some (badAt s 0 == -1) := by
 unfold p_zx p_zx_0
 simp only [b_zx_0]
 simp only [ref_Bad s hs, r_eql]
theorem right_eq (s : Str) : decide (badAt s 0 < 0) = (badAt s 0 == -1) := by
 rw [Bool.eq_iff_iff]
 simp only [decide_eq_true_eq, beq_iff_eq]
 exact ⟨badAt_neg s _ 0 (Nat.le_refl _), fun h => by omega⟩
def isT (s : Str) : Bool := badAt s 0 == -1
theorem text_isT (s : Str) : p_ze5 s = some (isT s) := by rw [text_Right, right_eq]; rfl
theorem ref_isT (s : Str) (hs : s.length ≤ 4611686018427387000) : p_zx s = some (isT s) := ref_Right s hs
/-! Values: how many, of which texts, and which are right. -/
abbrev Val := S2_
abbrev Par := S0_
def keyOf : Par → Str | .mk k _ => k
def valOf : Par → Val | .mk _ v => v
mutual
def cnt : Val → Nat
 | .mk _ _ _ l f => cntL l + cntF f + 1
def cntP : Par → Nat
 | .mk _ v => cnt v
def cntL : List Val → Nat
 | [] => 0
 | v :: r => cnt v + cntL r
def cntF : List Par → Nat
 | [] => 0
 | p :: r => cntP p + cntF r
end
mutual
def strs : Val → Bool
 | .mk _ _ s l f => decide (s.length ≤ 500) && strsL l && strsF f
def strsP : Par → Bool
 | .mk k v => decide (k.length ≤ 500) && strs v
def strsL : List Val → Bool
 | [] => true
 | v :: r => strs v && strsL r
def strsF : List Par → Bool
 | [] => true
 | p :: r => strsP p && strsF r
end
theorem cnt_pos (v : Val) : 1 ≤ cnt v := by cases v; simp [cnt]
theorem cntP_eq (p : Par) : cntP p = cnt (valOf p) := by cases p; simp [cntP, valOf]
theorem cntL_len : ∀ l : List Val, l.length ≤ cntL l
 | [] => by simp
 | v :: r => by have := cnt_pos v; have := cntL_len r; simp [cntL]; omega
theorem cntF_len : ∀ f : List Par, f.length ≤ cntF f
 | [] => by simp
 | p :: r => by have := cnt_pos (valOf p); have := cntF_len r; simp [cntF, cntP_eq]; omega
theorem cntL_mem : ∀ {l : List Val} {v : Val}, v ∈ l → cnt v ≤ cntL l
 | [], v, h => by cases h
 | x :: r, v, h => by
  rcases List.mem_cons.1 h with rfl | h
  ·simp [cntL]
  ·have := cntL_mem h; simp [cntL]; omega
theorem cntF_mem : ∀ {f : List Par} {p : Par}, p ∈ f → cnt (valOf p) ≤ cntF f
 | [], v, h => by cases h
 | x :: r, v, h => by
  rcases List.mem_cons.1 h with rfl | h
  ·simp [cntF, cntP_eq]
  ·have := cntF_mem h; simp [cntF]; omega
theorem strsL_mem : ∀ {l : List Val} {v : Val}, strsL l = true → v ∈ l → strs v = true
 | [], v, _, h => by cases h
 | x :: r, v, hs, h => by
  simp only [strsL, Bool.and_eq_true] at hs
  rcases List.mem_cons.1 h with rfl | h
  ·exact hs.1
  ·exact strsL_mem hs.2 h
theorem strsF_mem : ∀ {f : List Par} {p : Par}, strsF f = true → p ∈ f → (keyOf p).length ≤ 500 ∧ strs (valOf p) = true
 | [], v, _, h => by cases h
 | x :: r, v, hs, h => by
  simp only [strsF, Bool.and_eq_true] at hs
  rcases List.mem_cons.1 h with rfl | h
  ·obtain ⟨h1, _⟩ := hs
   cases v
   simp only [strsP, Bool.and_eq_true, decide_eq_true_eq] at h1
   exact h1
  ·exact strsF_mem hs.2 h
/-! ### Few -/
theorem few_6 (c : Val → Int → Option Int) (N : Nat) (hN : N ≤ 200) (hc : ∀ (v : Val) (n : Nat), n ≤ N → ∃ r : Int, c v n = some r ∧ -1 ≤ r ∧ r < n + 1 ∧ (0 ≤ r → r + cnt v = n ∧ strs v = true)) (a b : Int) (s : Str) (l : List Val) (f : List Par) :
  ∀ (j i : Nat) (n : Int), f.length - i ≤ j → i ≤ f.length → -1 ≤ n → n ≤ N → (i : Int) + n ≤ 400 →
   ∃ r : Int, p_z4_6 c (n, a, b, s, l, f, (i : Int)) = some r ∧ -1 ≤ r ∧ r ≤ n ∧ (0 ≤ r → r + cntF (f.drop i) = n ∧ strsF (f.drop i) = true)
 | j, i, n, hj, hi, h0, h1, h2 => by
  rw [u_z4_6]
  simp only [b_z4_6]
  have e10 : p_z4_10 c n = some n := rfl
  rw [r_len]
  by_cases hl : i < f.length
  ·rw [lss_t (by omega)]
   simp only
   by_cases hn : n < 0
   ·rw [geq_f (by omega)]
    simp only [e10]
    exact ⟨n, rfl, h0, Int.le_refl _, fun h => by omega⟩
   ·rw [geq_t (by omega), r_idx (List.getElem?_eq_getElem hl)]
    have hd : f.drop i = f[i] :: f.drop (i + 1) := List.drop_eq_getElem_cons hl
    rw [hd]
    generalize f[i] = x
    obtain ⟨kx, ⟨x0, x1, x2, x3, x4⟩⟩ := x
    simp only [r_slen]
    by_cases hk : kx.length ≤ 500
    ·rw [gtr_f (by omega)]
     obtain ⟨r, g1, g2, g3, g4⟩ := hc (.mk x0 x1 x2 x3 x4) n.toNat (by omega)
     rw [show ((n.toNat : Nat) : Int) = n by omega] at g1 g3 g4
     simp only [g1]
     rw [r_add (by unfold fit64; omega)]
     cases j with
     | zero => omega
     | succ j =>
      have hpos := cnt_pos (.mk x0 x1 x2 x3 x4)
      have hr : r ≤ n - 1 := by
       by_cases h : 0 ≤ r
       ·have := (g4 h).1; omega
       ·omega
      obtain ⟨r', k1, k2, k3, k4⟩ := few_6 c N hN hc a b s l f j (i + 1) r (by omega) (by omega) g2 (by omega) (by omega)
      refine ⟨r', by rw [show ((i : Int) + 1) = ((i + 1 : Nat) : Int) by omega]; exact k1, k2, by omega, fun h => ?_⟩
      obtain ⟨m1, m2⟩ := k4 h
      obtain ⟨m3, m4⟩ := g4 (by omega)
      simp only [cntF, cntP, strsF, strsP, m2, m4, Bool.and_true, decide_eq_true_eq]
      exact ⟨by omega, hk⟩
    ·rw [gtr_t (by omega)]
     exact ⟨-1, rfl, by omega, by omega, fun h => by omega⟩
  ·rw [lss_f (by omega)]
   simp only [e10]
   rw [List.drop_eq_nil_of_le (by omega)]
   exact ⟨n, rfl, h0, Int.le_refl _, fun h => ⟨by simp [cntF], rfl⟩⟩
theorem few_2 (c : Val → Int → Option Int) (N : Nat) (hN : N ≤ 200) (hc : ∀ (v : Val) (n : Nat), n ≤ N → ∃ r : Int, c v n = some r ∧ -1 ≤ r ∧ r < n + 1 ∧ (0 ≤ r → r + cnt v = n ∧ strs v = true)) (a b : Int) (s : Str) (l : List Val) (f : List Par) :
  ∀ (j i : Nat) (n : Int), l.length - i ≤ j → i ≤ l.length → -1 ≤ n → n ≤ N → (i : Int) + n ≤ 400 →
   ∃ r : Int, p_z4_2 c (n, a, b, s, l, f, (i : Int)) = some r ∧ -1 ≤ r ∧ r ≤ n ∧ (0 ≤ r → r + cntF f + cntL (l.drop i) = n ∧ strsL (l.drop i) = true ∧ strsF f = true)
 | j, i, n, hj, hi, h0, h1, h2 => by
  rw [u_z4_2]
  simp only [b_z4_2]
  have e5 : ∃ r : Int, p_z4_5 c (n, a, b, s, l, f) = some r ∧ -1 ≤ r ∧ r ≤ n ∧ (0 ≤ r → r + cntF f = n ∧ strsF f = true) := by
   unfold p_z4_5
   simp only [b_z4_5]
   simpa using few_6 c N hN hc a b s l f _ 0 n (Nat.le_refl _) (by omega) h0 h1 (by omega)
  obtain ⟨r5, f1, f2, f3, f4⟩ := e5
  rw [r_len]
  by_cases hl : i < l.length
  ·rw [lss_t (by omega)]
   simp only
   by_cases hn : n < 0
   ·rw [geq_f (by omega)]
    simp only [f1]
    exact ⟨r5, rfl, f2, f3, fun h => by omega⟩
   ·rw [geq_t (by omega), r_idx (List.getElem?_eq_getElem hl)]
    have hd : l.drop i = l[i] :: l.drop (i + 1) := List.drop_eq_getElem_cons hl
    rw [hd]
    generalize l[i] = x
    obtain ⟨x0, x1, x2, x3, x4⟩ := x
    obtain ⟨r, g1, g2, g3, g4⟩ := hc (.mk x0 x1 x2 x3 x4) n.toNat (by omega)
    rw [show ((n.toNat : Nat) : Int) = n by omega] at g1 g3 g4
    simp only [g1]
    rw [r_add (by unfold fit64; omega)]
    cases j with
    | zero => omega
    | succ j =>
     have hpos := cnt_pos (.mk x0 x1 x2 x3 x4)
     have hr : r ≤ n - 1 := by
      by_cases h : 0 ≤ r
      ·have := (g4 h).1; omega
      ·omega
     obtain ⟨r', k1, k2, k3, k4⟩ := few_2 c N hN hc a b s l f j (i + 1) r (by omega) (by omega) g2 (by omega) (by omega)
     refine ⟨r', by rw [show ((i : Int) + 1) = ((i + 1 : Nat) : Int) by omega]; exact k1, k2, by omega, fun h => ?_⟩
     obtain ⟨m1, m2, m5⟩ := k4 h
     obtain ⟨m3, m4⟩ := g4 (by omega)
     simp only [cntL, strsL, m2, m4, Bool.and_true, m5]
     exact ⟨by omega, trivial, trivial⟩
  ·rw [lss_f (by omega)]
   simp only [f1]
   rw [List.drop_eq_nil_of_le (by omega)]
   exact ⟨r5, rfl, f2, f3, fun h => ⟨by have := (f4 h).1; simp [cntL]; omega, rfl, (f4 h).2⟩⟩
theorem few_k : ∀ (k : Nat) (v : Val) (n : Nat), n < k → n ≤ 200 → ∃ r : Int, pk_z4 k v n = some r ∧ -1 ≤ r ∧ r < n + 1 ∧ (0 ≤ r → r + cnt v = n ∧ strs v = true)
 | 0, v, n, h, _ => by omega
 | k + 1, ⟨a, b, s, l, f⟩, n, hk, hn => by
  show ∃ r : Int, p_z4_0 (pk_z4 k) (a, b, s, l, f, n) = some r ∧ _
  unfold p_z4_0
  simp only [b_z4_0]
  by_cases h1 : n < 1
  ·rw [lss_t (by omega)]
   exact ⟨-1, rfl, by omega, by omega, fun h => by omega⟩
  ·rw [lss_f (by omega)]
   simp only [r_slen]
   by_cases h2 : s.length ≤ 500
   ·rw [gtr_f (by omega), r_sub64 (by unfold fit64; omega)]
    simp only
    obtain ⟨r, g1, g2, g3, g4⟩ := few_2 (pk_z4 k) (n - 1) (by omega) (fun v m hm => few_k k v m (by omega) (by omega)) a b s l f _ 0 ((n : Int) - 1) (Nat.le_refl _) (by omega) (by omega) (by omega) (by omega)
    refine ⟨r, by simpa using g1, g2, by omega, fun h => ?_⟩
    obtain ⟨m1, m2, m3⟩ := g4 h
    rw [List.drop_zero] at m1 m2
    simp only [cnt, strs, m2, m3, Bool.and_true, decide_eq_true_eq]
    exact ⟨by omega, h2⟩
   ·rw [gtr_t (by omega)]
    exact ⟨-1, rfl, by omega, by omega, fun h => by omega⟩
theorem Few (v : Val) (n : Nat) (hn : n ≤ 200) : p_z0 v n = some false ∨ (p_z0 v n = some true ∧ cnt v ≤ n ∧ strs v = true) := by
 obtain ⟨a, b, s, l, f⟩ := v
 obtain ⟨r, g1, g2, g3, g4⟩ := few_k 1000000 (.mk a b s l f) n (by omega) hn
 unfold p_z0 p_z0_0
 simp only [b_z0_0]
 have : p_z4 (.mk a b s l f) n = some r := g1
 simp only [this]
 by_cases h : 0 ≤ r
 ·obtain ⟨m1, m2⟩ := g4 h
  rw [geq_t h]
  exact .inr ⟨rfl, by omega, m2⟩
 ·rw [geq_f (by omega)]
  exact .inl rfl
/-! Right values: the reference's answer, and the tree's. -/
def headOk (k n : Int) (s : Str) (l : List Val) (f : List Par) : Bool :=
 decide ((0 ≤ k ∧ k ≤ 5) ∧ (k = 1 ∨ k = 2 ∨ n = 0) ∧ (k = 3 ∨ s = []) ∧ (k = 4 ∨ l.length = 0) ∧ (k = 5 ∨ f.length = 0) ∧ (k ≠ 1 ∨ n = 0 ∨ n = 1) ∧ -9007199254740991 ≤ n ∧ n ≤ 9007199254740991) && isT s
def keysS : List Str → List Par → Bool
 | _, [] => true
 | seen, p :: r => !seen.contains (keyOf p) && isT (keyOf p) && keysS (seen ++ [keyOf p]) r
def rR : Nat → Val → Bool
 | 0, _ => false
 | d + 1, .mk k n s l f => headOk k n s l f && l.all (rR d) && keysS [] f && f.all (fun p => rR d (valOf p))
theorem ref_right_11 (c : Val → Int → Option Bool) (d a b : Int) (s : Str) (l : List Val) (f : List Par) (i : Nat) (hi : i < f.length) (hl : f.length ≤ 1000) : ∀ (m j : Nat), i - j ≤ m → j ≤ i →
  p_z5_11 c (d, a, b, s, l, f, (i : Int), (j : Int)) = some (match (((f.take i).drop j).map keyOf).contains (keyOf f[i]) with | true => .inr false | false => .inl (d, a, b, s, l, f, ((i + 1 : Nat) : Int)))
 | m, j, hm, hj => by
  rw [u_z5_11]
  simp only [b_z5_11]
  by_cases h : j < i
  ·rw [lss_t (by omega), r_idx (List.getElem?_eq_getElem (show j < f.length by omega)), r_idx (List.getElem?_eq_getElem hi)]
   have hd : (f.take i).drop j = f[j] :: (f.take i).drop (j + 1) := by
    rw [List.drop_eq_getElem_cons (by simp; omega)]
    simp
   rw [hd]
   have ih := fun h => ref_right_11 c d a b s l f i hi hl (m - 1) (j + 1) h (by omega)
   generalize f[j] = x at *
   generalize f[i] = y at *
   obtain ⟨kx, ⟨x0, x1, x2, x3, x4⟩⟩ := x
   obtain ⟨ky, ⟨y0, y1, y2, y3, y4⟩⟩ := y
   simp only
   by_cases e : kx = ky
   ·rw [seq_t e]
    simp [keyOf, e]
   ·rw [seq_f e, r_add (by unfold fit64; omega)]
    simp only
    cases m with
    | zero => omega
    | succ m =>
     rw [show ((j : Int) + 1) = ((j + 1 : Nat) : Int) by omega, ih (by omega)]
     have e' : ky ≠ kx := fun h => e h.symm
     simp [keyOf, e']
  ·rw [lss_f (by omega), r_add (by unfold fit64; omega)]
   have : (f.take i).drop j = [] := List.drop_eq_nil_of_le (by simp; omega)
   rw [this]
   simp
theorem keysS_drop (f : List Par) {i : Nat} (hi : i < f.length) : keysS ((f.take i).map keyOf) (f.drop i) = (!((f.take i).map keyOf).contains (keyOf f[i]) && isT (keyOf f[i]) && keysS ((f.take (i + 1)).map keyOf) (f.drop (i + 1))) := by
 rw [List.drop_eq_getElem_cons hi, keysS]
 congr 2
 rw [List.take_succ_eq_append_getElem hi, List.map_append]
 rfl
theorem keyOf_mk (k : Str) (v : Val) : keyOf (.mk k v) = k := rfl
theorem valOf_mk (k : Str) (v : Val) : valOf (.mk k v) = v := rfl
theorem ref_right_8 (c : Val → Int → Option Bool) (D : Nat) (hc : ∀ v : Val, cnt v ≤ 200 → strs v = true → c v D = some (rR D v)) (a b : Int) (s : Str) (l : List Val) (f : List Par) (hf : cntF f ≤ 200) (hs : strsF f = true) (hD : D ≤ 200) : ∀ (m i : Nat), f.length - i ≤ m → i ≤ f.length →
  p_z5_8 c (((D : Int) + 1), a, b, s, l, f, (i : Int)) = some (keysS ((f.take i).map keyOf) (f.drop i) && (f.drop i).all (fun p => rR D (valOf p)))
 | m, i, hm, hi => by
  have hlen := cntF_len f
  rw [u_z5_8]
  simp only [b_z5_8]
  rw [r_len]
  by_cases h : i < f.length
  ·have hmem : f[i] ∈ f := List.getElem_mem h
   have h11 := ref_right_11 c ((D : Int) + 1) a b s l f i h (by omega) i 0 (by omega) (by omega)
   rw [lss_t (by omega), r_idx (List.getElem?_eq_getElem h), keysS_drop f h]
   rw [List.drop_eq_getElem_cons h, List.all_cons]
   have hcv := cntF_mem hmem
   obtain ⟨hk, hv⟩ := strsF_mem hs hmem
   rw [List.drop_zero] at h11
   generalize f[i] = x at *
   obtain ⟨kx, ⟨x0, x1, x2, x3, x4⟩⟩ := x
   simp only [keyOf_mk, valOf_mk] at *
   rw [ref_isT kx (by omega)]
   cases hT : isT kx with
   | false => simp
   | true =>
    simp only
    rw [r_sub64 (by unfold fit64; omega), show (D : Int) + 1 - 1 = D by omega, hc _ (by omega) hv]
    cases hR : rR D (.mk x0 x1 x2 x3 x4) with
    | false => simp
    | true =>
     simp only [Int.natCast_zero] at h11 ⊢
     cases hC : (((f.take i).map keyOf).contains kx) with
     | true =>
      rw [hC] at h11
      simp only [h11]
      simp
     | false =>
      rw [hC] at h11
      simp only [h11]
      cases m with
      | zero => omega
      | succ m =>
       rw [ref_right_8 c D hc a b s l f hf hs hD m (i + 1) (by omega) (by omega)]
       simp
  ·rw [lss_f (by omega), List.drop_eq_nil_of_le (by omega)]
   simp [keysS]
theorem ref_right_4 (c : Val → Int → Option Bool) (D : Nat) (hc : ∀ v : Val, cnt v ≤ 200 → strs v = true → c v D = some (rR D v)) (a b : Int) (s : Str) (l : List Val) (f : List Par) (hf : cntF f ≤ 200) (hs : strsF f = true) (hD : D ≤ 200) (hl : cntL l ≤ 200) (hls : strsL l = true) : ∀ (m i : Nat), l.length - i ≤ m → i ≤ l.length →
  p_z5_4 c (((D : Int) + 1), a, b, s, l, f, (i : Int)) = some ((l.drop i).all (rR D) && keysS [] f && f.all (fun p => rR D (valOf p)))
 | m, i, hm, hi => by
  have hlen := cntL_len l
  rw [u_z5_4]
  simp only [b_z5_4]
  rw [r_len]
  by_cases h : i < l.length
  ·have hmem : l[i] ∈ l := List.getElem_mem h
   rw [lss_t (by omega), r_idx (List.getElem?_eq_getElem h), List.drop_eq_getElem_cons h, List.all_cons]
   have hcv := cntL_mem hmem
   have hv := strsL_mem hls hmem
   generalize l[i] = x at *
   obtain ⟨x0, x1, x2, x3, x4⟩ := x
   simp only
   rw [r_sub64 (by unfold fit64; omega), show (D : Int) + 1 - 1 = D by omega, hc _ (by omega) hv]
   cases hR : rR D (.mk x0 x1 x2 x3 x4) with
   | false => simp
   | true =>
    rw [r_add (by unfold fit64; omega)]
    simp only
    cases m with
    | zero => omega
    | succ m =>
     rw [show ((i : Int) + 1) = ((i + 1 : Nat) : Int) by omega, ref_right_4 c D hc a b s l f hf hs hD hl hls m (i + 1) (by omega) (by omega)]
     simp
  ·rw [lss_f (by omega), List.drop_eq_nil_of_le (by omega)]
   have := ref_right_8 c D hc a b s l f hf hs hD _ 0 (Nat.le_refl _) (by omega)
   simp only [Int.natCast_zero, List.take_zero, List.map_nil, List.drop_zero] at this
   simp only [this]
   simp
theorem ref_right_2 (c : Val → Int → Option Bool) (d k n : Int) (s : Str) (l : List Val) (f : List Par) (hs : s.length ≤ 500) :
  p_z5_2 c (d, k, n, s, l, f) = if ((k ≠ 1 ∨ n = 0 ∨ n = 1) ∧ -9007199254740991 ≤ n ∧ n ≤ 9007199254740991) ∧ isT s = true then p_z5_4 c (d, k, n, s, l, f, 0) else some false := by
 unfold p_z5_2 p_z5_3
 simp only [b_z5_2, b_z5_3]
 rw [ref_isT s (by omega)]
 have e1 : Prims.real.cmp .gtr n 9007199254740991 = decide (9007199254740991 < n) := rfl
 have e2 : Prims.real.cmp .lss n (-9007199254740991) = decide (n < -9007199254740991) := rfl
 have e3 : Prims.real.cmp .eql k 1 = decide (k = 1) := by rw [r_eql]; rfl
 have e4 : Prims.real.cmp .neq n 0 = !decide (n = 0) := by rw [r_neq]; rfl
 have e5 : Prims.real.cmp .neq n 1 = !decide (n = 1) := by rw [r_neq]; rfl
 rw [e1, e2, e3, e4, e5]
 cases hT : isT s <;> by_cases h1 : k = 1 <;> by_cases h2 : n = 0 <;> by_cases h3 : n = 1 <;> by_cases h4 : 9007199254740991 < n <;> by_cases h5 : n < -9007199254740991 <;>
  first
  | (exfalso; omega)
  | (simp [h1, h2, h3, h4, h5]; done)
  | (simp [h1, h2, h3, h4, h5]; omega)
theorem ref_right_0 (c : Val → Int → Option Bool) (d k n : Int) (s : Str) (l : List Val) (f : List Par) :
  p_z5_0 c (k, n, s, l, f, d) = if 1 ≤ d ∧ (0 ≤ k ∧ k ≤ 5) ∧ (k = 1 ∨ k = 2 ∨ n = 0) ∧ (k = 3 ∨ s = []) ∧ (k = 4 ∨ l.length = 0) ∧ (k = 5 ∨ f.length = 0) then p_z5_2 c (d, k, n, s, l, f) else some false := by
 unfold p_z5_0
 simp only [b_z5_0]
 have e0 : Prims.real.cmp .lss d 1 = !decide (1 ≤ d) := by rw [r_lss]; by_cases h : 1 ≤ d <;> simp [h] <;> omega
 have e1 : Prims.real.cmp .lss k 0 = !decide (0 ≤ k) := by rw [r_lss]; by_cases h : 0 ≤ k <;> simp [h] <;> omega
 have e2 : Prims.real.cmp .gtr k 5 = !decide (k ≤ 5) := by rw [r_gtr]; by_cases h : k ≤ 5 <;> simp [h] <;> omega
 have e3 : ∀ x, Prims.real.cmp .neq k x = !decide (k = x) := fun x => by rw [r_neq]; rfl
 have e4 : Prims.real.cmp .neq n 0 = !decide (n = 0) := by rw [r_neq]; rfl
 have e5 : Prims.real.seq s [] = decide (s = []) := by rw [r_seq]; by_cases h : s = [] <;> simp [h]
 have e6 : Prims.real.cmp .gtr (Prims.real.len l) 0 = !decide (l.length = 0) := by rw [r_len, r_gtr]; by_cases h : l.length = 0 <;> simp [h] <;> omega
 have e7 : Prims.real.cmp .gtr (Prims.real.len f) 0 = !decide (f.length = 0) := by rw [r_len, r_gtr]; by_cases h : f.length = 0 <;> simp [h] <;> omega
 simp only [e0, e1, e2, e3, e4, e5, e6, e7]
 generalize p_z5_2 c (d, k, n, s, l, f) = A
 by_cases h0 : 1 ≤ d
 ·by_cases h1 : 0 ≤ k
  ·by_cases h2 : k ≤ 5
   ·have hk : k = 0 ∨ k = 1 ∨ k = 2 ∨ k = 3 ∨ k = 4 ∨ k = 5 := by omega
    rcases hk with rfl | rfl | rfl | rfl | rfl | rfl <;> by_cases hn : n = 0 <;> by_cases hs : s = [] <;> by_cases hl : l.length = 0 <;> by_cases hf : f.length = 0 <;> simp [h0, hn, hs, hl, hf]
   ·simp [h0, h1, h2]
  ·simp [h0, h1]
 ·simp [h0]
theorem right_k : ∀ (d k : Nat) (v : Val), d < k → d ≤ 200 → cnt v ≤ 200 → strs v = true → pk_z5 k v d = some (rR d v)
 | d, 0, v, h, _, _, _ => by omega
 | 0, k + 1, ⟨a, b, s, l, f⟩, h, hd, hc, hs => by
  show p_z5_0 (pk_z5 k) (a, b, s, l, f, ((0 : Nat) : Int)) = _
  rw [ref_right_0, if_neg (by omega)]
  rfl
 | d + 1, k + 1, ⟨a, b, s, l, f⟩, h, hd, hc, hs => by
  show p_z5_0 (pk_z5 k) (a, b, s, l, f, ((d + 1 : Nat) : Int)) = _
  simp only [cnt] at hc
  simp only [strs, Bool.and_eq_true, decide_eq_true_eq] at hs
  rw [ref_right_0, ref_right_2 _ _ _ _ _ _ _ hs.1.1]
  have h4 := ref_right_4 (pk_z5 k) d (fun v h1 h2 => right_k d k v (by omega) (by omega) h1 h2) a b s l f (by omega) hs.2 (by omega) (by omega) hs.1.2 _ 0 (Nat.le_refl _) (by omega)
  rw [show ((d + 1 : Nat) : Int) = (d : Int) + 1 by omega]
  simp only [Int.natCast_zero, List.drop_zero] at h4
  rw [h4, rR]
  unfold headOk
  by_cases c1 : (0 ≤ a ∧ a ≤ 5) ∧ (a = 1 ∨ a = 2 ∨ b = 0) ∧ (a = 3 ∨ s = []) ∧ (a = 4 ∨ l.length = 0) ∧ (a = 5 ∨ f.length = 0)
  ·rw [if_pos ⟨by omega, c1⟩]
   by_cases c2 : ((a ≠ 1 ∨ b = 0 ∨ b = 1) ∧ -9007199254740991 ≤ b ∧ b ≤ 9007199254740991)
   ·rw [decide_eq_true (show (0 ≤ a ∧ a ≤ 5) ∧ (a = 1 ∨ a = 2 ∨ b = 0) ∧ (a = 3 ∨ s = []) ∧ (a = 4 ∨ l.length = 0) ∧ (a = 5 ∨ f.length = 0) ∧ (a ≠ 1 ∨ b = 0 ∨ b = 1) ∧ -9007199254740991 ≤ b ∧ b ≤ 9007199254740991 from ⟨c1.1, c1.2.1, c1.2.2.1, c1.2.2.2.1, c1.2.2.2.2, c2⟩)]
    cases hT : isT s with
    | true => rw [if_pos ⟨c2, rfl⟩]; simp
    | false => rw [if_neg (by simp)]; simp
   ·rw [if_neg (fun h => c2 h.1), decide_eq_false (fun h => c2 h.2.2.2.2.2)]
    simp
  ·rw [if_neg (fun h => c1 h.2), decide_eq_false (fun h => c1 ⟨h.1, h.2.1, h.2.2.1, h.2.2.2.1, h.2.2.2.2.1⟩)]
   simp
theorem refRight (v : Val) (hc : cnt v ≤ 200) (hs : strs v = true) : p_z2 v = some (rR 12 v) := by
 obtain ⟨a, b, s, l, f⟩ := v
 unfold p_z2 p_z2_0
 simp only [b_z2_0]
 have : p_z5 (.mk a b s l f) 12 = some (rR 12 (.mk a b s l f)) := right_k 12 1000000 _ (by omega) (by omega) hc hs
 simp only [this]
/-! Right values by the tree, how many, what is cloned, what is the same: two laws. -/
theorem r_mfind {α : Type} (k : Str) (l : List (Str × Nat × α)) : Prims.real.mfind k l = Pr.mfind k l := rfl
theorem r_mput {α : Type} (k : Str) (c : Nat) (v : α) (l : List (Str × Nat × α)) : Prims.real.mput k c v l = Pr.mput k c v l := rfl
theorem mfind_put {α : Type} (k : Str) (c : Nat) (v : α) (k' : Str) : ∀ l : List (Str × Nat × α), Pr.mfind k' (Pr.mput k c v l) = if k' = k then some v else Pr.mfind k' l
 | [] => by
  simp only [Pr.mput, Pr.mfind]
  by_cases h : k' = k
  ·simp [h]
  ·have : (k' == k) = false := by simp [h]
   rw [this, if_neg h]
 | (x, c', v') :: r => by
  have ih := mfind_put k c v k' r
  simp only [Pr.mput]
  by_cases hk : k = x
  ·have e : (k == x) = true := by simp [hk]
   rw [e]
   simp only [Pr.mfind]
   by_cases h : k' = k
   ·have : (k' == x) = true := by simp [h, hk]
    rw [this, if_pos h]
   ·have : (k' == x) = false := by simp; rw [← hk]; exact h
    rw [this, if_neg h]
  ·have e : (k == x) = false := by simp [hk]
   rw [e]
   simp only [Pr.mfind]
   rw [ih]
   by_cases h : k' = x
   ·have e2 : (k' == x) = true := by simp [h]
    have hne : ¬ k' = k := by rw [h]; exact fun h' => hk h'.symm
    simp only [e2, if_neg hne]
   ·have e2 : (k' == x) = false := by simp [h]
    rw [e2]
theorem tree_unused (k n : Int) (s : Str) (l : List Val) (f : List Par) : p_zfk (.mk k n s l f) = some (decide ((k = 1 ∨ k = 2 ∨ n = 0) ∧ (k = 3 ∨ s = []) ∧ (k = 4 ∨ l.length = 0) ∧ (k = 5 ∨ f.length = 0))) := by
 show p_zfk_0 (k, n, s, l, f) = _
 unfold p_zfk_0
 simp only [b_zfk_0]
 have e3 : ∀ x, Prims.real.cmp .eql k x = decide (k = x) := fun x => by rw [r_eql]; rfl
 have e4 : Prims.real.cmp .eql n 0 = decide (n = 0) := by rw [r_eql]; rfl
 have e5 : Prims.real.seq s [] = decide (s = []) := by rw [r_seq]; by_cases h : s = [] <;> simp [h]
 have e6 : Prims.real.cmp .eql (Prims.real.len l) 0 = decide (l.length = 0) := by rw [r_len, r_eql]; by_cases h : l.length = 0 <;> simp [h]
 have e7 : Prims.real.cmp .eql (Prims.real.len f) 0 = decide (f.length = 0) := by rw [r_len, r_eql]; by_cases h : f.length = 0 <;> simp [h]
 simp only [e3, e4, e5, e6, e7]
 by_cases h1 : k = 1
 ·subst h1; by_cases hs : s = [] <;> by_cases hl : l.length = 0 <;> by_cases hf : f.length = 0 <;> simp [hs, hl, hf]
 ·by_cases h2 : k = 2
  ·subst h2; by_cases hs : s = [] <;> by_cases hl : l.length = 0 <;> by_cases hf : f.length = 0 <;> simp [hs, hl, hf]
  ·by_cases hn : n = 0
   ·by_cases h3 : k = 3
    ·subst h3; by_cases hl : l.length = 0 <;> by_cases hf : f.length = 0 <;> simp [hn, hl, hf]
    ·by_cases h4 : k = 4
     ·subst h4; by_cases hs : s = [] <;> by_cases hf : f.length = 0 <;> simp [hn, hs, hf]
     ·by_cases h5 : k = 5
      ·subst h5; by_cases hs : s = [] <;> by_cases hl : l.length = 0 <;> simp [hn, hs, hl]
      ·by_cases hs : s = [] <;> by_cases hl : l.length = 0 <;> by_cases hf : f.length = 0 <;> simp [h1, h2, h3, h4, h5, hn, hs, hl, hf]
   ·simp [h1, h2, hn]
theorem keys_loop (f : List Par) (hf : f.length ≤ 1000) : ∀ (m i c : Nat) (g : List (Str × Nat × Int)), f.length - i ≤ m → i ≤ f.length → (∀ k, Pr.mfind k g = if ((f.take i).map keyOf).contains k = true then some 1 else none) →
  p_zfi_1 (f, (f.length : Int), (i : Int), c, g) = some (keysS ((f.take i).map keyOf) (f.drop i))
 | m, i, c, g, hm, hi, hg => by
  rw [u_zfi_1]
  simp only [b_zfi_1]
  by_cases h : i < f.length
  ·rw [lss_t (by omega), r_idx (List.getElem?_eq_getElem h), keysS_drop f h]
   have hnext : ∀ (x : Par), f[i] = x → (f.take (i + 1)).map keyOf = (f.take i).map keyOf ++ [keyOf x] := fun x hx => by
    rw [List.take_succ_eq_append_getElem h, List.map_append, hx]; rfl
   generalize f[i] = x at *
   obtain ⟨kx, ⟨x0, x1, x2, x3, x4⟩⟩ := x
   have hnext := hnext _ rfl
   simp only [keyOf_mk] at *
   simp only [r_mfind, r_mput]
   rw [text_isT]
   have hgk := hg kx
   cases hC : ((f.take i).map keyOf).contains kx with
   | true =>
    rw [hC] at hgk
    simp only [if_true] at hgk
    simp only [hgk, mfind_put, if_true]
    rw [r_add (by unfold fit64; omega), gtr_t (by omega)]
    simp
   | false =>
    rw [hC] at hgk
    simp only [Bool.false_eq_true, if_false] at hgk
    simp only [hgk, mfind_put, if_true]
    rw [r_add (by unfold fit64; omega), gtr_f (by omega)]
    cases hT : isT kx with
    | false => simp
    | true =>
     simp only [p_zfi_3, b_zfi_3]
     rw [r_add (by unfold fit64; omega)]
     cases m with
     | zero => omega
     | succ m =>
      rw [show ((i : Int) + 1) = ((i + 1 : Nat) : Int) by omega]
      rw [keys_loop f hf m (i + 1) _ _ (by omega) (by omega) (fun k => ?_)]
      ·simp
      ·rw [mfind_put, hg k, hnext]
       by_cases e : k = kx
       ·simp [e]
       ·simp [e]
  ·rw [lss_f (by omega), List.drop_eq_nil_of_le (by omega)]
   rfl
theorem tree_keys (f : List Par) (hf : f.length ≤ 1000) : p_zfi f = some (keysS [] f) := by
 unfold p_zfi p_zfi_0
 simp only [b_zfi_0]
 rw [r_len]
 have := keys_loop f hf _ 0 0 [] (Nat.le_refl _) (by omega) (fun k => by simp [Pr.mfind])
 simpa using this
/-! ### Right values -/
theorem index_v (k d : Nat) (hd : d ≤ 200) (hr : ∀ v : Val, cnt v ≤ 200 → strs v = true → (pk_zfd k).2.1 v (d : Int) = some (rR d v)) (l : List Val) (hl : cntL l ≤ 200) (hs : strsL l = true) : ∀ (m i : Nat), l.length - i ≤ m → i ≤ l.length →
  ∃ r : Int, p_zd8_1 (pk_zfd (k+1)).1 (l, ((d : Int) + 1), (l.length : Int), (i : Int)) = some r ∧ decide (0 ≤ r) = !((l.drop i).all (rR d))
 | m, i, hm, hi => by
  have hlen := cntL_len l
  rw [u_zd8_1]
  simp only [b_zd8_1]
  by_cases h : i < l.length
  ·have hmem : l[i] ∈ l := List.getElem_mem h
   rw [lss_t (by omega), r_idx (List.getElem?_eq_getElem h), List.drop_eq_getElem_cons h, List.all_cons]
   have hcv := cntL_mem hmem
   have hv := strsL_mem hs hmem
   generalize l[i] = x at *
   obtain ⟨x0, x1, x2, x3, x4⟩ := x
   have e : (pk_zfd (k + 1)).1 (.mk x0 x1 x2 x3 x4) ((d : Int) + 1) = some (!rR d (.mk x0 x1 x2 x3 x4)) := by
    show p_zfd_0 (pk_zfd k).2.1 (x0, x1, x2, x3, x4, ((d : Int) + 1)) = _
    unfold p_zfd_0
    simp only [b_zfd_0]
    rw [r_sub64 (by unfold fit64; omega), show (d : Int) + 1 - 1 = d by omega, hr _ (by omega) hv]
    cases rR d (.mk x0 x1 x2 x3 x4) <;> rfl
   simp only [e]
   cases hR : rR d (.mk x0 x1 x2 x3 x4) with
   | false => exact ⟨i, by simp, by simp⟩
   | true =>
    simp only [Bool.not_true]
    rw [r_add (by unfold fit64; omega)]
    cases m with
    | zero => omega
    | succ m =>
     obtain ⟨r, g1, g2⟩ := index_v k d hd hr l hl hs m (i + 1) (by omega) (by omega)
     exact ⟨r, by rw [show ((i : Int) + 1) = ((i + 1 : Nat) : Int) by omega]; exact g1, by simpa using g2⟩
  ·rw [lss_f (by omega), List.drop_eq_nil_of_le (by omega)]
   exact ⟨-1, rfl, by simp⟩
theorem contains_v (k d : Nat) (hd : d ≤ 200) (hr : ∀ v : Val, cnt v ≤ 200 → strs v = true → (pk_zfd k).2.1 v (d : Int) = some (rR d v)) (l : List Val) (hl : cntL l ≤ 200) (hs : strsL l = true) :
  (pk_zfd (k + 3)).2.2.1 l ((d : Int) + 1) = some (!(l.all (rR d))) := by
 show p_zdx_0 (pk_zfd (k+2)).2.2.2.1 (l, ((d : Int) + 1)) = _
 unfold p_zdx_0
 simp only [b_zdx_0]
 obtain ⟨r, g1, g2⟩ := index_v k d hd hr l hl hs _ 0 (Nat.le_refl _) (by omega)
 have e : (pk_zfd (k + 2)).2.2.2.1 l ((d : Int) + 1) = some r := by
  show p_zd8_0 (pk_zfd (k+1)).1 (l, ((d : Int) + 1)) = _
  unfold p_zd8_0
  simp only [b_zd8_0]
  rw [r_len]
  exact g1
 simp only [e, r_geq]
 rw [List.drop_zero] at g2
 rw [← g2]
theorem index_p (k d : Nat) (hd : d ≤ 200) (hr : ∀ v : Val, cnt v ≤ 200 → strs v = true → (pk_zfd k).2.1 v (d : Int) = some (rR d v)) (l : List Par) (hl : cntF l ≤ 200) (hs : strsF l = true) : ∀ (m i : Nat), l.length - i ≤ m → i ≤ l.length →
  ∃ r : Int, p_zd3_1 (pk_zfd (k+1)).2.2.2.2.2.2 (l, ((d : Int) + 1), (l.length : Int), (i : Int)) = some r ∧ decide (0 ≤ r) = !((l.drop i).all (fun p => rR d (valOf p)))
 | m, i, hm, hi => by
  have hlen := cntF_len l
  rw [u_zd3_1]
  simp only [b_zd3_1]
  by_cases h : i < l.length
  ·have hmem : l[i] ∈ l := List.getElem_mem h
   rw [lss_t (by omega), r_idx (List.getElem?_eq_getElem h), List.drop_eq_getElem_cons h, List.all_cons]
   have hcv := cntF_mem hmem
   obtain ⟨hk, hv⟩ := strsF_mem hs hmem
   generalize l[i] = x at *
   obtain ⟨kx, ⟨x0, x1, x2, x3, x4⟩⟩ := x
   simp only [keyOf_mk, valOf_mk] at *
   have e : (pk_zfd (k + 1)).2.2.2.2.2.2 (.mk kx (.mk x0 x1 x2 x3 x4)) ((d : Int) + 1) = some (!rR d (.mk x0 x1 x2 x3 x4)) := by
    show p_zff_0 (pk_zfd k).2.1 (kx, x0, x1, x2, x3, x4, ((d : Int) + 1)) = _
    unfold p_zff_0
    simp only [b_zff_0]
    rw [r_sub64 (by unfold fit64; omega), show (d : Int) + 1 - 1 = d by omega, hr _ (by omega) hv]
    cases rR d (.mk x0 x1 x2 x3 x4) <;> rfl
   simp only [e]
   cases hR : rR d (.mk x0 x1 x2 x3 x4) with
   | false => exact ⟨i, by simp, by simp⟩
   | true =>
    simp only [Bool.not_true]
    rw [r_add (by unfold fit64; omega)]
    cases m with
    | zero => omega
    | succ m =>
     obtain ⟨r, g1, g2⟩ := index_p k d hd hr l hl hs m (i + 1) (by omega) (by omega)
     exact ⟨r, by rw [show ((i : Int) + 1) = ((i + 1 : Nat) : Int) by omega]; exact g1, by simpa using g2⟩
  ·rw [lss_f (by omega), List.drop_eq_nil_of_le (by omega)]
   exact ⟨-1, rfl, by simp⟩
theorem contains_p (k d : Nat) (hd : d ≤ 200) (hr : ∀ v : Val, cnt v ≤ 200 → strs v = true → (pk_zfd k).2.1 v (d : Int) = some (rR d v)) (l : List Par) (hl : cntF l ≤ 200) (hs : strsF l = true) :
  (pk_zfd (k + 3)).2.2.2.2.1 l ((d : Int) + 1) = some (!(l.all (fun p => rR d (valOf p)))) := by
 show p_zdt_0 (pk_zfd (k+2)).2.2.2.2.2.1 (l, ((d : Int) + 1)) = _
 unfold p_zdt_0
 simp only [b_zdt_0]
 obtain ⟨r, g1, g2⟩ := index_p k d hd hr l hl hs _ 0 (Nat.le_refl _) (by omega)
 have e : (pk_zfd (k + 2)).2.2.2.2.2.1 l ((d : Int) + 1) = some r := by
  show p_zd3_0 (pk_zfd (k+1)).2.2.2.2.2.2 (l, ((d : Int) + 1)) = _
  unfold p_zd3_0
  simp only [b_zd3_0]
  rw [r_len]
  exact g1
 simp only [e, r_geq]
 rw [List.drop_zero] at g2
 rw [← g2]
theorem isT_nil : isT [] = true := by unfold isT; rw [badAt_end (by simp)]; rfl
theorem tright_k : ∀ (d k : Nat), 4 * d + 4 ≤ k → d ≤ 200 → ∀ v : Val, cnt v ≤ 200 → strs v = true → (pk_zfd k).2.1 v (d : Int) = some (rR d v)
 | 0, 0, h, _, _, _, _ => by omega
 | 0, k + 1, h, hd, ⟨a, b, s, l, f⟩, hc, hs => by
  show p_zfg_0 (pk_zfd k).2.2.1 (pk_zfd k).2.2.2.2.1 (a, b, s, l, f, ((0 : Nat) : Int)) = _
  unfold p_zfg_0
  simp only [b_zfg_0]
  rw [lss_t (by omega)]
  rfl
 | d + 1, k, h, hd, ⟨a, b, s, l, f⟩, hc, hs => by
  obtain ⟨k, rfl⟩ : ∃ q, k = q + 4 := ⟨k - 4, by omega⟩
  have ih := tright_k d k (by omega) (by omega)
  show p_zfg_0 (pk_zfd (k+3)).2.2.1 (pk_zfd (k+3)).2.2.2.2.1 (a, b, s, l, f, ((d + 1 : Nat) : Int)) = _
  unfold p_zfg_0
  simp only [b_zfg_0]
  simp only [cnt] at hc
  simp only [strs, Bool.and_eq_true, decide_eq_true_eq] at hs
  have hlen := cntL_len l
  have hfen := cntF_len f
  rw [lss_f (by omega), show ((d + 1 : Nat) : Int) = (d : Int) + 1 by omega]
  simp only [tree_unused, text_isT, tree_keys f (by omega), contains_v k d (by omega) ih l (by omega) hs.1.2, contains_p k d (by omega) ih f (by omega) hs.2]
  rw [rR]
  unfold headOk
  by_cases c1 : (a = 1 ∨ a = 2 ∨ b = 0) ∧ (a = 3 ∨ s = []) ∧ (a = 4 ∨ l.length = 0) ∧ (a = 5 ∨ f.length = 0)
  ·rw [decide_eq_true c1]
   simp only
   have nl : ∀ {x : List Val}, x.length = 0 → x = [] := fun h => List.length_eq_zero_iff.1 h
   have nf : ∀ {x : List Par}, x.length = 0 → x = [] := fun h => List.length_eq_zero_iff.1 h
   obtain ⟨c2, c3, c4, c5⟩ := c1
   by_cases h0 : a = 0
   ·subst h0
    rw [eql_t rfl]
    have e1 : s = [] := c3.resolve_left (by omega)
    have e2 : l = [] := nl (by omega)
    have e3 : f = [] := nf (by omega)
    subst e1; subst e2; subst e3
    have e4 : b = 0 := by omega
    subst e4
    simp [isT_nil, keysS]
   ·rw [eql_f h0]
    simp only
    by_cases h1 : a = 1
    ·subst h1
     rw [eql_t rfl]
     have e1 : s = [] := c3.resolve_left (by omega)
     have e2 : l = [] := nl (by omega)
     have e3 : f = [] := nf (by omega)
     subst e1; subst e2; subst e3
     by_cases hb : b = 0
     ·rw [eql_t hb]; subst hb; simp [isT_nil, keysS]
     ·rw [eql_f hb]
      simp only [r_eql, isT_nil, keysS, List.all_nil, Bool.and_true, Option.some.injEq]
      rw [Bool.eq_iff_iff]
      simp
      constructor
      ·rintro rfl; simp
      ·rintro ⟨h, _⟩; exact h.resolve_left hb
    ·rw [eql_f h1]
     simp only
     by_cases h2 : a = 2
     ·subst h2
      rw [eql_t rfl]
      have e1 : s = [] := c3.resolve_left (by omega)
      have e2 : l = [] := nl (by omega)
      have e3 : f = [] := nf (by omega)
      subst e1; subst e2; subst e3
      by_cases hb : -9007199254740991 ≤ b
      ·rw [geq_t hb, r_leq]
       simp only [isT_nil, keysS, List.all_nil, Bool.and_true, Option.some.injEq]
       rw [Bool.eq_iff_iff]
       simp [hb]
      ·rw [geq_f (by omega)]
       simp only [isT_nil, keysS, List.all_nil, Bool.and_true, Option.some.injEq]
       rw [Bool.eq_iff_iff]
       simp
       intro h; omega
     ·rw [eql_f h2]
      have hb : b = 0 := by omega
      subst hb
      simp only
      by_cases h3 : a = 3
      ·subst h3
       rw [eql_t rfl]
       have e2 : l = [] := nl (by omega)
       have e3 : f = [] := nf (by omega)
       subst e2; subst e3
       simp [keysS]
      ·rw [eql_f h3]
       have e1 : s = [] := c3.resolve_left h3
       subst e1
       simp only
       by_cases h4 : a = 4
       ·subst h4
        rw [eql_t rfl]
        have e3 : f = [] := nf (by omega)
        subst e3
        cases l.all (rR d) <;> simp [isT_nil, keysS]
       ·rw [eql_f h4]
        have e2 : l = [] := nl (by omega)
        subst e2
        simp only
        by_cases h5 : a = 5
        ·subst h5
         rw [eql_t rfl]
         cases keysS [] f <;> cases f.all (fun p => rR d (valOf p)) <;> simp [isT_nil]
        ·rw [eql_f h5]
         have : ¬ (0 ≤ a ∧ a ≤ 5) := by omega
         simp [this]
  ·rw [decide_eq_false c1, decide_eq_false (fun h => c1 ⟨h.2.1, h.2.2.1, h.2.2.2.1, h.2.2.2.2.1⟩)]
   simp
theorem tree_Right (v : Val) (hc : cnt v ≤ 200) (hs : strs v = true) : p_zfa v = some (rR 12 v) := by
 obtain ⟨a, b, s, l, f⟩ := v
 show p_zfa_0 (a, b, s, l, f) = _
 unfold p_zfa_0
 simp only [b_zfa_0]
 have : p_zfg (.mk a b s l f) 12 = some (rR 12 (.mk a b s l f)) := tright_k 12 1000000 (by omega) (by omega) _ hc hs
 simp only [this]
/-! How many values, what is cloned, what is the same: two laws. -/
abbrev zv : Val := .mk 0 0 [] [] []
theorem same_6 (c : Val → Val → Option Bool) (a b : Int) (s : Str) (l : List Val) (f : List Par) (a' b' : Int) (s' : Str) (l' : List Val) (f' : List Par) (hc : ∀ p ∈ f, ∀ w, ∃ r, c (valOf p) w = some r ∧ (r = true ↔ valOf p = w)) (he : f.length = f'.length) (hf : f.length ≤ 1000) : ∀ (m i : Nat), f.length - i ≤ m → i ≤ f.length →
  ∃ r, p_z3_6 c (a, b, s, l, f, a', b', s', l', f', (i : Int)) = some r ∧ (r = true ↔ f.drop i = f'.drop i)
 | m, i, hm, hi => by
  rw [u_z3_6]
  simp only [b_z3_6]
  rw [r_len]
  by_cases h : i < f.length
  ·have hmem : f[i] ∈ f := List.getElem_mem h
   have h' : i < f'.length := by omega
   rw [lss_t (by omega), r_idx (List.getElem?_eq_getElem h), r_idx (List.getElem?_eq_getElem h'), List.drop_eq_getElem_cons h, List.drop_eq_getElem_cons h']
   have hc' := hc _ hmem
   generalize f[i] = x at *
   generalize f'[i] = y at *
   obtain ⟨kx, ⟨x0, x1, x2, x3, x4⟩⟩ := x
   obtain ⟨ky, ⟨y0, y1, y2, y3, y4⟩⟩ := y
   simp only [valOf_mk] at *
   by_cases hk : kx = ky
   ·rw [seq_t hk]
    obtain ⟨r, g1, g2⟩ := hc' (.mk y0 y1 y2 y3 y4)
    simp only [g1]
    cases r with
    | false =>
     refine ⟨false, rfl, by simp, fun h => ?_⟩
     injection h with h1 h2
     injection h1 with h3 h4
     exact absurd (g2.2 h4) (by simp)
    | true =>
     simp only
     rw [r_add (by unfold fit64; omega)]
     cases m with
     | zero => omega
     | succ m =>
      obtain ⟨r, k1, k2⟩ := same_6 c a b s l f a' b' s' l' f' hc he hf m (i + 1) (by omega) (by omega)
      refine ⟨r, by rw [show ((i : Int) + 1) = ((i + 1 : Nat) : Int) by omega]; exact k1, ?_⟩
      rw [k2]
      have := g2.1 rfl
      rw [hk, this]
      simp
   ·rw [seq_f hk]
    refine ⟨false, rfl, by simp, fun h => ?_⟩
    injection h with h1 h2
    injection h1 with h3 h4
    exact absurd h3 hk
  ·rw [lss_f (by omega), List.drop_eq_nil_of_le (by omega), List.drop_eq_nil_of_le (by omega)]
   exact ⟨true, rfl, by simp⟩
theorem same_2 (c : Val → Val → Option Bool) (a b : Int) (s : Str) (l : List Val) (f : List Par) (a' b' : Int) (s' : Str) (l' : List Val) (f' : List Par) (hc : ∀ p ∈ f, ∀ w, ∃ r, c (valOf p) w = some r ∧ (r = true ↔ valOf p = w)) (he : f.length = f'.length) (hf : f.length ≤ 1000)
  (hcl : ∀ v ∈ l, ∀ w, ∃ r, c v w = some r ∧ (r = true ↔ v = w)) (hel : l.length = l'.length) (hl : l.length ≤ 1000) : ∀ (m i : Nat), l.length - i ≤ m → i ≤ l.length →
  ∃ r, p_z3_2 c (a, b, s, l, f, a', b', s', l', f', (i : Int)) = some r ∧ (r = true ↔ l.drop i = l'.drop i ∧ f = f')
 | m, i, hm, hi => by
  rw [u_z3_2]
  simp only [b_z3_2]
  rw [r_len]
  by_cases h : i < l.length
  ·have hmem : l[i] ∈ l := List.getElem_mem h
   have h' : i < l'.length := by omega
   rw [lss_t (by omega), r_idx (List.getElem?_eq_getElem h), r_idx (List.getElem?_eq_getElem h'), List.drop_eq_getElem_cons h, List.drop_eq_getElem_cons h']
   have hc' := hcl _ hmem
   generalize l[i] = x at *
   generalize l'[i] = y at *
   obtain ⟨x0, x1, x2, x3, x4⟩ := x
   obtain ⟨y0, y1, y2, y3, y4⟩ := y
   simp only
   obtain ⟨r, g1, g2⟩ := hc' (.mk y0 y1 y2 y3 y4)
   simp only [g1]
   cases r with
   | false =>
    refine ⟨false, rfl, by simp, fun h => ?_⟩
    have h1 := h.1
    injection h1 with h3 h4
    exact absurd (g2.2 h3) (by simp)
   | true =>
    simp only
    rw [r_add (by unfold fit64; omega)]
    cases m with
    | zero => omega
    | succ m =>
     obtain ⟨r, k1, k2⟩ := same_2 c a b s l f a' b' s' l' f' hc he hf hcl hel hl m (i + 1) (by omega) (by omega)
     refine ⟨r, by rw [show ((i : Int) + 1) = ((i + 1 : Nat) : Int) by omega]; exact k1, ?_⟩
     rw [k2]
     have := g2.1 rfl
     rw [this]
     simp
  ·rw [lss_f (by omega), List.drop_eq_nil_of_le (by omega), List.drop_eq_nil_of_le (by omega)]
   obtain ⟨r, k1, k2⟩ := same_6 c a b s l f a' b' s' l' f' hc he hf _ 0 (Nat.le_refl _) (by omega)
   simp only [Int.natCast_zero, List.drop_zero] at k1 k2
   simp only [k1]
   exact ⟨r, rfl, by rw [k2]; simp⟩
theorem same_k : ∀ (k : Nat) (v w : Val), cnt v < k → cnt v ≤ 200 → ∃ r, pk_z3 k v w = some r ∧ (r = true ↔ v = w)
 | 0, v, w, h, _ => by omega
 | k + 1, ⟨a, b, s, l, f⟩, ⟨a', b', s', l', f'⟩, h, hc => by
  show ∃ r, p_z3_0 (pk_z3 k) (a, b, s, l, f, a', b', s', l', f') = some r ∧ _
  simp only [cnt] at h hc
  have hlen := cntL_len l
  have hfen := cntF_len f
  unfold p_z3_0
  simp only [b_z3_0]
  rw [r_len, r_len, r_len, r_len]
  by_cases h1 : a = a'
  ·rw [neq_f h1]
   by_cases h2 : b = b'
   ·rw [neq_f h2]
    by_cases h3 : s = s'
    ·rw [seq_t h3]
     by_cases h4 : l.length = l'.length
     ·rw [neq_f (by omega)]
      by_cases h5 : f.length = f'.length
      ·rw [neq_f (by omega)]
       obtain ⟨r, k1, k2⟩ := same_2 (pk_z3 k) a b s l f a' b' s' l' f' (fun p hp w => same_k k _ w (by have := cntF_mem hp; omega) (by have := cntF_mem hp; omega)) h5 (by omega) (fun v hv w => same_k k v w (by have := cntL_mem hv; omega) (by have := cntL_mem hv; omega)) h4 (by omega) _ 0 (Nat.le_refl _) (by omega)
       simp only [Int.natCast_zero, List.drop_zero] at k1 k2
       refine ⟨r, k1, ?_⟩
       rw [k2]
       simp [h1, h2, h3]
      ·rw [neq_t (by omega)]
       exact ⟨false, rfl, by simp, fun h => by injection h with _ _ _ _ h; exact absurd (by rw [h]) h5⟩
     ·rw [neq_t (by omega)]
      exact ⟨false, rfl, by simp, fun h => by injection h with _ _ _ h _; exact absurd (by rw [h]) h4⟩
    ·rw [seq_f h3]
     exact ⟨false, rfl, by simp, fun h => by injection h with _ _ h _ _; exact absurd h h3⟩
   ·rw [neq_t h2]
    exact ⟨false, rfl, by simp, fun h => by injection h with _ h _ _ _; exact absurd h h2⟩
  ·rw [neq_t h1]
   exact ⟨false, rfl, by simp, fun h => by injection h with h _ _ _ _; exact absurd h h1⟩
theorem Same (v w : Val) (hc : cnt v ≤ 200) : ∃ r, p_z3 v w = some r ∧ (r = true ↔ v = w) := same_k 1000000 v w (by omega) hc
theorem Same_self (v : Val) (hc : cnt v ≤ 200) : p_z3 v v = some true := by
 obtain ⟨r, h1, h2⟩ := Same v v hc
 rw [h1, h2.2 rfl]
/-! How many values, what is cloned, what is the same: two laws. -/
theorem clone_5 (c : Val → Option Val) (f : List Par) (hc : ∀ p ∈ f, c (valOf p) = some (valOf p)) (hf : cntF f ≤ 200) (o0 o1 : Int) (o2 : Str) (o3 : List Val) (o4 : List Par) (a b : Int) (s : Str) (g : Nat) (l : List Val) : ∀ (m i g' : Nat), f.length - i ≤ m → i ≤ f.length →
  p_zfh_5 c (f, (f.length : Int), (i : Int), o0, o1, o2, o3, o4, a, b, s, g, l, g', (f.take i)) = some (.mk a b s l f)
 | m, i, g', hm, hi => by
  have hlen := cntF_len f
  rw [u_zfh_5]
  simp only [b_zfh_5]
  by_cases h : i < f.length
  ·have hmem : f[i] ∈ f := List.getElem_mem h
   rw [lss_t (by omega), r_idx (List.getElem?_eq_getElem h)]
   have hc' := hc _ hmem
   have ht := List.take_succ_eq_append_getElem h
   generalize f[i] = x at *
   obtain ⟨kx, ⟨x0, x1, x2, x3, x4⟩⟩ := x
   simp only [valOf_mk] at *
   simp only [hc']
   rw [M.r_app (by simp [room]; omega) (by simp [room]; omega)]
   simp only
   rw [r_add (by unfold fit64; omega)]
   cases m with
   | zero => omega
   | succ m =>
    rw [← ht, show ((i : Int) + 1) = ((i + 1 : Nat) : Int) by omega]
    exact clone_5 c f hc hf o0 o1 o2 o3 o4 a b s g l m (i + 1) _ (by omega) (by omega)
  ·rw [lss_f (by omega), List.take_of_length_le (by omega)]
theorem clone_1 (c : Val → Option Val) (v0 v1 : Int) (v2 : Str) (v3 : List Val) (f : List Par) (hc : ∀ p ∈ f, c (valOf p) = some (valOf p)) (hf : cntF f ≤ 200) (l : List Val) (hl : ∀ v ∈ l, c v = some v) (hll : cntL l ≤ 200) (o0 o1 : Int) (o2 : Str) (o3 : List Val) (o4 : List Par) (a b : Int) (s : Str) : ∀ (m i g g' : Nat), l.length - i ≤ m → i ≤ l.length →
  p_zfh_1 c (v0, v1, v2, v3, f, l, (l.length : Int), (i : Int), o0, o1, o2, o3, o4, a, b, s, g, (l.take i), g', []) = some (.mk a b s l f)
 | m, i, g, g', hm, hi => by
  have hlen := cntL_len l
  rw [u_zfh_1]
  simp only [b_zfh_1]
  by_cases h : i < l.length
  ·have hmem : l[i] ∈ l := List.getElem_mem h
   rw [lss_t (by omega), r_idx (List.getElem?_eq_getElem h)]
   have hc' := hl _ hmem
   have ht := List.take_succ_eq_append_getElem h
   generalize l[i] = x at *
   obtain ⟨x0, x1, x2, x3, x4⟩ := x
   simp only [hc']
   rw [M.r_app (by simp [room]; omega) (by simp [room]; omega)]
   simp only
   rw [r_add (by unfold fit64; omega)]
   cases m with
   | zero => omega
   | succ m =>
    rw [← ht, show ((i : Int) + 1) = ((i + 1 : Nat) : Int) by omega]
    exact clone_1 c v0 v1 v2 v3 f hc hf l hl hll o0 o1 o2 o3 o4 a b s m (i + 1) _ _ (by omega) (by omega)
  ·rw [lss_f (by omega), List.take_of_length_le (by omega), r_len]
   have := clone_5 c f hc hf o0 o1 o2 o3 o4 a b s g l _ 0 g' (Nat.le_refl _) (by omega)
   simp only [Int.natCast_zero, List.take_zero] at this
   simp only [this]
theorem clone_k : ∀ (k : Nat) (v : Val), cnt v < k → cnt v ≤ 200 → pk_zfh k v = some v
 | 0, v, h, _ => by omega
 | k + 1, ⟨a, b, s, l, f⟩, h, hc => by
  show p_zfh_0 (pk_zfh k) (a, b, s, l, f) = _
  simp only [cnt] at h hc ⊢
  unfold p_zfh_0
  simp only [b_zfh_0]
  rw [r_len]
  have := clone_1 (pk_zfh k) a b s l f (fun p hp => clone_k k _ (by have := cntF_mem hp; omega) (by have := cntF_mem hp; omega)) (by omega) l (fun v hv => clone_k k _ (by have := cntL_mem hv; omega) (by have := cntL_mem hv; omega)) (by omega) 0 0 [] [] [] a b s _ 0 0 0 (Nat.le_refl _) (by omega)
  simp only [Int.natCast_zero, List.take_zero] at this
  exact this
theorem clone (v : Val) (hc : cnt v ≤ 200) : p_zfh v = some v := clone_k 1000000 v (by omega) hc
/-! ### What is the same -/
end Go.Abs.T
