import Derived.Test.YtncemafmkkphjaaDoorMQ1
/-! Quoted texts: what is read. -/
set_option linter.unusedVariables false
namespace Go.Abs.A
open M
def shortS (n : Nat) : Int × Bool := match n with
  | 34 => (34, true) | 92 => (92, true) | 47 => (47, true) | 98 => (8, true) | 102 => (12, true) | 110 => (10, true) | 114 => (13, true) | 116 => (9, true) | _ => (0, false)
def hexd (n : Nat) : Int := if 48 ≤ n ∧ n ≤ 57 then (n : Int) - 48 else if 97 ≤ n ∧ n ≤ 102 then (n : Int) - 87 else if 65 ≤ n ∧ n ≤ 70 then (n : Int) - 55 else -1
theorem short_tab : ∀ i : Fin 256, p_quote_short (i.val : Int) = some (shortS i.val) := by decide +kernel
theorem digit_tab : ∀ i : Fin 256, p_quote_digit (i.val : Int) = some (hexd i.val) := by decide +kernel
theorem hexd_le (n : Nat) : -1 ≤ hexd n ∧ hexd n ≤ 15 := by unfold hexd; repeat' split
                                                            all_goals omega
def four (a b c d : UInt8) : Int :=
  if hexd a.toNat < 0 then -1 else if hexd b.toNat < 0 then -1 else if hexd c.toNat < 0 then -1 else if hexd d.toNat < 0 then -1 else
    ((hexd a.toNat * 16 + hexd b.toNat) * 16 + hexd c.toNat) * 16 + hexd d.toNat
theorem four_le (a b c d : UInt8) : -1 ≤ four a b c d ∧ four a b c d ≤ 65535 := by
  have ha := hexd_le a.toNat
  have hb := hexd_le b.toNat
  have hc := hexd_le c.toNat
  have hd := hexd_le d.toNat
  unfold four
  repeat' split
  all_goals omega
def unitS : Str → Int
  | x :: y :: a :: b :: c :: d :: _ => if x = 92 ∧ y = 117 then four a b c d else -1
  | _ => -1
theorem unitS_le (l : Str) : -1 ≤ unitS l ∧ unitS l ≤ 65535 := by
  unfold unitS
  split
  · split
    · exact four_le _ _ _ _
    · omega
  · omega
theorem unitS_len {l : Str} (h : 0 ≤ unitS l) : 6 ≤ l.length := by
  unfold unitS at h
  split at h
  · simp
  · omega
theorem byte_tab {b : UInt8} : p_quote_digit (b.toNat : Int) = some (hexd b.toNat) := digit_tab ⟨_, b.toNat_lt⟩
theorem shl_or {n d : Int} (h0 : 0 ≤ n) (h1 : n ≤ 4095) (h2 : 0 ≤ d) (h3 : d < 16) : Prims.real.ar .or .i32 (n * 16) d = n * 16 + d := by
  obtain ⟨m, rfl⟩ := Int.eq_ofNat_of_zero_le h0
  obtain ⟨e, rfl⟩ := Int.eq_ofNat_of_zero_le h2
  show intAr .or .i32 _ _ = _
  unfold intAr
  simp only
  have k1 : (BitVec.ofInt IntKind.i32.bits ((m : Int) * 16)).toNat = m * 16 := by
    have : ((m : Int) * 16) = ((m * 16 : Nat) : Int) := by omega
    rw [this, BitVec.ofInt_natCast, BitVec.toNat_ofNat, Nat.mod_eq_of_lt]
    simp only [IntKind.bits]
    omega
  have k2 : (BitVec.ofInt IntKind.i32.bits (e : Int)).toNat = e := by
    rw [BitVec.ofInt_natCast, BitVec.toNat_ofNat, Nat.mod_eq_of_lt]
    simp only [IntKind.bits]
    omega
  rw [BitVec.toNat_or, k1, k2]
  have k3 : m * 16 ||| e = m * 16 + e := by
    have h := Nat.two_pow_add_eq_or_of_lt (i := 4) (b := e) (by omega) m
    rw [show m * 16 = 2 ^ 4 * m by omega, ← h]
  rw [k3, IntKind.wrap_i32]
  omega
theorem shl4 {n : Int} (h0 : 0 ≤ n) (h1 : n ≤ 4095) : Prims.real.shf .shl .i32 n 4 = some (n * 16) := by
  show Pr.shf .shl .i32 n 4 = _
  unfold Pr.shf
  rw [if_neg (by omega)]
  unfold intAr
  simp only
  rw [show (2 : Int) ^ (min (4 : Int).toNat IntKind.i32.bits) = 16 by decide, IntKind.wrap_i32]
  congr 1
  omega
theorem shl10 {n : Int} (h0 : 0 ≤ n) (h1 : n ≤ 2000) : Prims.real.shf .shl .i32 n 10 = some (n * 1024) := by
  show Pr.shf .shl .i32 n 10 = _
  unfold Pr.shf
  rw [if_neg (by omega)]
  unfold intAr
  simp only
  rw [show (2 : Int) ^ (min (10 : Int).toNat IntKind.i32.bits) = 1024 by decide, IntKind.wrap_i32]
  congr 1
  omega
theorem add32 {a b : Int} (h : -2147483648 ≤ a + b) (h2 : a + b ≤ 2147483647) : Prims.real.ar .add .i32 a b = a + b := by
  show IntKind.i32.wrap (a + b) = _
  rw [IntKind.wrap_i32]; omega
theorem sub32 {a b : Int} (h : -2147483648 ≤ a - b) (h2 : a - b ≤ 2147483647) : Prims.real.ar .sub .i32 a b = a - b := by
  show IntKind.i32.wrap (a - b) = _
  rw [IntKind.wrap_i32]; omega
theorem sub64 {a b : Int} (h : fit64 (a - b)) : Prims.real.ar .sub .i64 a b = a - b := r_sub64 h
theorem unit_step (l : Str) (n : Int) (i : Nat) (hi : i < 4) {b : UInt8} (hb : l[2 + i]? = some b) (h0 : 0 ≤ n) (h1 : n ≤ 4095) :
    p_quote_unit_2 l n (i : Int) = if hexd b.toNat < 0 then some (-1) else p_quote_unit_2 l (n * 16 + hexd b.toNat) ((i + 1 : Nat) : Int) := by
  have hh := hexd_le b.toNat
  rw [u_quote_unit_2]
  unfold b_quote_unit_2
  rw [lss_t (by omega), r_add (a := 2) (by unfold fit64; omega), show (2 : Int) + (i : Int) = ((2 + i : Nat) : Int) by omega, r_sidx hb]
  simp only [byte_tab]
  by_cases c : hexd b.toNat < 0
  · rw [if_pos c, lss_t c]
  · rw [if_neg c, lss_f (by omega), shl4 h0 h1]
    simp only
    rw [shl_or h0 h1 (by omega) (by omega), r_add (b := 1) (by unfold fit64; omega)]
    rfl
theorem unit_end (l : Str) (n : Int) : p_quote_unit_2 l n 4 = some n := by
  rw [u_quote_unit_2]
  unfold b_quote_unit_2
  rw [lss_f (by omega)]
theorem unit_six (x y a b c d : UInt8) (r : Str) : p_quote_unit (x :: y :: a :: b :: c :: d :: r) = some (unitS (x :: y :: a :: b :: c :: d :: r)) := by
  unfold p_quote_unit p_quote_unit_0 b_quote_unit_0
  simp only [unitS]
  rw [r_slen]
  have hx := x.toNat_lt
  have hy := y.toNat_lt
  rw [lss_f (by simp; omega), r_sidx' (n := 0) 0 rfl (b := x) (by simp), r_sidx' (n := 1) 1 rfl (b := y) (by simp)]
  simp only
  by_cases c1 : x = 92
  · subst c1
    rw [neq_f (by decide)]
    simp only
    by_cases c2 : y = 117
    · subst c2
      rw [neq_f (by decide)]
      simp only [and_self, if_true]
      have ha := hexd_le a.toNat
      have hb := hexd_le b.toNat
      have hc := hexd_le c.toNat
      have hd := hexd_le d.toNat
      unfold four
      have s0 := unit_step (92 :: 117 :: a :: b :: c :: d :: r) 0 0 (by omega) (b := a) (by simp) (by omega) (by omega)
      refine Eq.trans s0 ?_
      by_cases d1 : hexd a.toNat < 0
      · simp [d1]
      have s1 := unit_step (92 :: 117 :: a :: b :: c :: d :: r) (0 * 16 + hexd a.toNat) 1 (by omega) (b := b) (by simp) (by omega) (by omega)
      rw [if_neg d1, if_neg d1]
      refine Eq.trans s1 ?_
      by_cases d2 : hexd b.toNat < 0
      · simp [d2]
      have s2 := unit_step (92 :: 117 :: a :: b :: c :: d :: r) ((0 * 16 + hexd a.toNat) * 16 + hexd b.toNat) 2 (by omega) (b := c) (by simp) (by omega) (by omega)
      rw [if_neg d2, if_neg d2]
      refine Eq.trans s2 ?_
      by_cases d3 : hexd c.toNat < 0
      · simp [d3]
      have s3 := unit_step (92 :: 117 :: a :: b :: c :: d :: r) (((0 * 16 + hexd a.toNat) * 16 + hexd b.toNat) * 16 + hexd c.toNat) 3 (by omega) (b := d) (by simp) (by omega) (by omega)
      rw [if_neg d3, if_neg d3]
      refine Eq.trans s3 ?_
      by_cases d4 : hexd d.toNat < 0
      · simp [d4]
      rw [if_neg d4, if_neg d4]
      refine Eq.trans (unit_end _ _) ?_
      congr 1
      omega
    · rw [neq_t (by intro e; exact c2 (UInt8.toNat_inj.1 (by have h : y.toNat = 117 := by omega
                                                             rw [h]; rfl))), if_neg (fun h => c2 h.2)]
  · rw [neq_t (by intro e; exact c1 (UInt8.toNat_inj.1 (by have h : x.toNat = 92 := by omega
                                                           rw [h]; rfl))), if_neg (fun h => c1 h.1)]
theorem unit_few {l : Str} (h : l.length < 6) : p_quote_unit l = some (-1) := by
  unfold p_quote_unit p_quote_unit_0 b_quote_unit_0
  rw [r_slen, lss_t (by omega)]
theorem quote_unit (l : Str) : p_quote_unit l = some (unitS l) := by
  match l with
  | [] | [_] | [_, _] | [_, _, _] | [_, _, _, _] | [_, _, _, _, _] => exact unit_few (by simp)
  | x :: y :: a :: b :: c :: d :: r => exact unit_six x y a b c d r
/-- What a sign 5c stands for that is no short one. -/
def escU (l : Str) : Int × Int :=
  if unitS l < 0 ∨ (56320 ≤ unitS l ∧ unitS l ≤ 57343) then (0, 0) else if unitS l < 55296 ∨ 57343 < unitS l then (unitS l, 6)
  else if unitS (l.drop 6) < 56320 ∨ 57343 < unitS (l.drop 6) then (0, 0) else (65536 + (unitS l - 55296) * 1024 + unitS (l.drop 6) - 56320, 12)
def escS : Str → Int × Int
  | x :: y :: r => if (shortS y.toNat).2 then ((shortS y.toNat).1, 2) else escU (x :: y :: r)
  | _ => (0, 0)
theorem escaped_1 (l : Str) : p_quote_escaped_1 l = some (escU l) := by
  unfold p_quote_escaped_1 b_quote_escaped_1 escU
  have h := unitS_le l
  simp only [quote_unit]
  by_cases c1 : unitS l < 0
  · rw [lss_t c1, if_pos (.inl c1)]
  rw [lss_f (by omega)]
  simp only
  by_cases c2 : 56320 ≤ unitS l
  · rw [geq_t c2]
    simp only
    by_cases c3 : unitS l ≤ 57343
    · rw [leq_t c3, if_pos (.inr ⟨c2, c3⟩)]
    · rw [leq_f (by omega), lss_f (b := 55296) (by omega), gtr_t (by omega), if_neg (by omega), if_pos (by omega)]
  · rw [geq_f (by omega)]
    simp only
    rw [if_neg (by omega)]
    by_cases c4 : unitS l < 55296
    · rw [lss_t c4, if_pos (.inl c4)]
    · rw [lss_f (b := 55296) (by omega), gtr_f (by omega), if_neg (by omega)]
      simp only
      unfold p_quote_escaped_2 b_quote_escaped_2
      have hl := unitS_len (l := l) (by omega)
      have hm := unitS_le (l.drop 6)
      rw [show (6 : Int) = ((6 : Nat) : Int) from rfl, r_ssub_from hl]
      simp only [quote_unit]
      by_cases d1 : unitS (l.drop 6) < 56320
      · rw [lss_t d1, if_pos (.inl d1)]
      · rw [lss_f (by omega)]
        simp only
        by_cases d2 : 57343 < unitS (l.drop 6)
        · rw [gtr_t d2, if_pos (.inr d2)]
        · rw [gtr_f (by omega), if_neg (by omega)]
          simp only
          rw [sub32 (a := unitS l) (by omega) (by omega), shl10 (by omega) (by omega)]
          simp only
          rw [add32 (a := 65536) (by omega) (by omega), add32 (by omega) (by omega), sub32 (by omega) (by omega)]
theorem quote_escaped (l : Str) : p_quote_escaped l = some (escS l) := by
  unfold p_quote_escaped p_quote_escaped_0 b_quote_escaped_0
  rw [r_slen]
  match l with
  | [] =>
    rw [gtr_f (by simp)]
    exact escaped_1 []
  | [x] =>
    rw [gtr_f (by simp)]
    exact escaped_1 [x]
  | x :: y :: r =>
    rw [gtr_t (by simp; omega), r_sidx' (n := 1) 1 rfl (b := y) (by simp)]
    have := short_tab ⟨_, y.toNat_lt⟩
    simp only at this
    simp only [this, escS]
    cases (shortS y.toNat).2 with
    | true => rfl
    | false => exact escaped_1 _
theorem escU_cases (l : Str) : (escU l).2 = 0 ∨ ((escU l).2 = 6 ∧ 6 ≤ l.length ∧ vr (escU l).1 = true) ∨ ((escU l).2 = 12 ∧ 12 ≤ l.length ∧ vr (escU l).1 = true) := by
  have h := unitS_le l
  have hm := unitS_le (l.drop 6)
  unfold escU
  by_cases c1 : unitS l < 0 ∨ (56320 ≤ unitS l ∧ unitS l ≤ 57343)
  · rw [if_pos c1]; exact .inl rfl
  rw [if_neg c1]
  have hl := unitS_len (l := l) (by omega)
  by_cases c2 : unitS l < 55296 ∨ 57343 < unitS l
  · rw [if_pos c2]
    refine .inr (.inl ⟨rfl, hl, ?_⟩)
    simp only [vr, decide_eq_true_eq]
    omega
  rw [if_neg c2]
  by_cases c3 : unitS (l.drop 6) < 56320 ∨ 57343 < unitS (l.drop 6)
  · rw [if_pos c3]; exact .inl rfl
  · rw [if_neg c3]
    have hl2 := unitS_len (l := l.drop 6) (by omega)
    simp only [List.length_drop] at hl2
    refine .inr (.inr ⟨rfl, by omega, ?_⟩)
    simp only [vr, decide_eq_true_eq]
    omega
theorem shortS_vr : ∀ i : Fin 256, (shortS i.val).2 = true → vr (shortS i.val).1 = true := by decide +kernel
/-- How many bytes an escape takes, and that a rune comes of it. -/
theorem escS_cases (l : Str) : (escS l).2 = 0 ∨ (2 ≤ (escS l).2 ∧ (escS l).2 ≤ 12 ∧ (escS l).2 ≤ l.length ∧ vr (escS l).1 = true) := by
  match l with
  | [] => exact .inl rfl
  | [x] => exact .inl rfl
  | x :: y :: r =>
    simp only [escS]
    cases h : (shortS y.toNat).2 with
    | true =>
      have := shortS_vr ⟨_, y.toNat_lt⟩ h
      refine .inr ⟨by simp, by simp, by simp; omega, by simpa using this⟩
    | false =>
      simp only [Bool.false_eq_true, if_false]
      rcases escU_cases (x :: y :: r) with q | ⟨q1, q2, q3⟩ | ⟨q1, q2, q3⟩
      · exact .inl q
      · exact .inr ⟨by omega, by omega, by omega, q3⟩
      · exact .inr ⟨by omega, by omega, by omega, q3⟩
/-- What is read from a place on. -/
def U (s : Str) (acc : Str) (p : Nat) : Str × Int × Int :=
  if h : p < s.length then
    if byteAt (s.drop p) 0 = 34 then (acc, (p : Int) + 1, 0)
    else if byteAt (s.drop p) 0 < 32 then ([], p, 4)
    else if byteAt (s.drop p) 0 = 92 then
      if hz : (escS (s.drop p)).2 = 0 then ([], p, 4) else U s (acc ++ enc (escS (s.drop p)).1) (p + (escS (s.drop p)).2.toNat)
    else if dec (s.drop p) = (65533, 1) then ([], p, 2)
    else U s (acc ++ (s.drop p).take (dec (s.drop p)).2) (p + (dec (s.drop p)).2)
  else ([], s.length, 4)
termination_by s.length - p
decreasing_by
  · have := escS_cases (s.drop p)
    omega
  · have := (dec_size (l := s.drop p) (by simp; omega)).1
    omega
theorem byte_dec {l : Str} (hne : l ≠ []) (n : Nat) (hn : n < 128) : (dec l).1 = n ↔ byteAt l 0 = n := by
  by_cases h : byteAt l 0 < 128
  · rw [dec_ascii h]
  · have := dec_high (l := l) (by omega)
    omega
theorem byte_dec_lt {l : Str} (n : Nat) (hn : n ≤ 128) : (dec l).1 < n ↔ byteAt l 0 < n := by
  by_cases h : byteAt l 0 < 128
  · rw [dec_ascii h]
  · have := dec_high (l := l) (by omega)
    omega
theorem Unq_4 (s : Str) (p : Nat) (r n : Int) (u : Bool) (g : Nat) (acc : Str) (ha : acc.length + 4 ≤ 100000000) (hr : vr r = true) (hn : 0 ≤ n) (hp : p + n ≤ 100000000) :
    p_quote_Unquote_4 s (p : Int) r n u g acc = some (.inl (s, ((p + n.toNat : Nat) : Int), true, g + 1, acc ++ enc r)) := by
  unfold p_quote_Unquote_4 b_quote_Unquote_4
  simp only [vr, decide_eq_true_eq] at hr
  have hw : p_strings_Builder_WriteRune acc r = some (acc ++ enc r, ((enc r).length : Int)) := brune_some (by omega) (by omega)
  simp only [hw]
  rw [r_add (by unfold fit64; omega), show (p : Int) + n = ((p + n.toNat : Nat) : Int) by omega]
theorem Unq_loop (s : Str) (hs : s.length ≤ 1000000) : ∀ (k p : Nat) (acc : Str) (u : Bool) (g : Nat), s.length - p ≤ k → acc.length + 4 * (s.length - p) ≤ 10000000 → p ≤ s.length →
    p_quote_Unquote_2 s (p : Int) u g acc = some (U s acc p)
  | k, p, acc, u, g, hk, ha, hps => by
    rw [u_quote_Unquote_2, U]
    unfold b_quote_Unquote_2
    rw [r_slen]
    by_cases hp : p < s.length
    · have hne : s.drop p ≠ [] := by simp; omega
      obtain ⟨h1, h2⟩ := size_at hp
      rw [lss_true hp, dif_pos hp, r_ssub_from (by omega)]
      simp only [p_unicode_utf8_DecodeRuneInString, decodeGo_dec _ hne]
      by_cases c1 : byteAt (s.drop p) 0 = 34
      · have := (byte_dec hne 34 (by omega)).2 c1
        rw [if_pos c1, eql_t (by omega)]
        simp only [p_strings_Builder_String, btext]
        rw [r_add (by unfold fit64; omega)]
      have e1 : (dec (s.drop p)).1 ≠ 34 := fun h => c1 ((byte_dec hne 34 (by omega)).1 h)
      rw [if_neg c1, eql_f (by omega)]
      simp only
      by_cases c2 : byteAt (s.drop p) 0 < 32
      · have := (byte_dec_lt (l := s.drop p) 32 (by omega)).2 c2
        rw [if_pos c2, lss_t (by omega)]
      have e2 : ¬ (dec (s.drop p)).1 < 32 := fun h => c2 ((byte_dec_lt (l := s.drop p) 32 (by omega)).1 h)
      rw [if_neg c2, lss_f (by omega)]
      simp only
      cases k with
      | zero => omega
      | succ k =>
        by_cases c3 : byteAt (s.drop p) 0 = 92
        · have e3 := (byte_dec hne 92 (by omega)).2 c3
          rw [if_pos c3, eql_f (a := ((dec (s.drop p)).1 : Int)) (b := 65533) (by omega), eql_t (a := ((dec (s.drop p)).1 : Int)) (b := 92) (by omega)]
          simp only [quote_escaped]
          rcases escS_cases (s.drop p) with q | ⟨q1, q2, q3, q4⟩
          · rw [dif_pos q, eql_t q]
          · simp only [List.length_drop] at q3
            have hl := enc_len (escS (s.drop p)).1
            rw [dif_neg (by omega), eql_f (by omega), Unq_4 s p _ _ u g acc (by omega) q4 (by omega) (by omega)]
            simp only
            exact Unq_loop s hs k _ _ _ _ (by omega) (by simp only [List.length_append]; omega) (by omega)
        · have e3 : (dec (s.drop p)).1 ≠ 92 := fun h => c3 ((byte_dec hne 92 (by omega)).1 h)
          rw [if_neg c3]
          have hl := enc_len ((dec (s.drop p)).1 : Int)
          have go : dec (s.drop p) ≠ (65533, 1) → (match p_quote_Unquote_4 s (p : Int) ((dec (s.drop p)).1 : Int) ((dec (s.drop p)).2 : Int) u g acc with
              | some (.inl (v0', v6', o5_u', o5_1_g', o5_1_s')) => p_quote_Unquote_2 v0' v6' o5_u' o5_1_g' o5_1_s'
              | some (.inr r) => some r
              | none => none) = some (U s (acc ++ (s.drop p).take (dec (s.drop p)).2) (p + (dec (s.drop p)).2)) := by
            intro c4
            rw [Unq_4 s p _ _ u g acc (by omega) dec_vr (by omega) (by omega)]
            simp only [Int.toNat_natCast]
            rw [enc_dec hne c4]
            refine Unq_loop s hs k _ _ _ _ (by omega) ?_ (by omega)
            rw [enc_dec hne c4] at hl
            simp only [List.length_append]
            omega
          by_cases c5 : (dec (s.drop p)).1 = 65533
          · rw [eql_t (a := ((dec (s.drop p)).1 : Int)) (b := 65533) (by omega)]
            simp only
            by_cases c6 : (dec (s.drop p)).2 = 1
            · rw [eql_t (a := ((dec (s.drop p)).2 : Int)) (b := 1) (by omega), if_pos (Prod.ext c5 c6)]
            · have c4 : dec (s.drop p) ≠ (65533, 1) := fun h => c6 (by rw [h])
              rw [eql_f (a := ((dec (s.drop p)).2 : Int)) (b := 1) (by omega), eql_f (a := ((dec (s.drop p)).1 : Int)) (b := 92) (by omega), if_neg c4]
              exact go c4
          · have c4 : dec (s.drop p) ≠ (65533, 1) := fun h => c5 (by rw [h])
            rw [eql_f (a := ((dec (s.drop p)).1 : Int)) (b := 65533) (by omega), eql_f (a := ((dec (s.drop p)).1 : Int)) (b := 92) (by omega), if_neg c4]
            exact go c4
    · rw [lss_false (by omega), dif_neg hp]
def UQ (s : Str) : Str × Int × Int := if byteAt s 0 = 34 then U s [] 1 else ([], 0, 4)
theorem quote_Unquote (s : Str) (hs : s.length ≤ 1000000) : p_quote_Unquote s = some (UQ s) := by
  unfold p_quote_Unquote p_quote_Unquote_0 b_quote_Unquote_0 p_strings_HasPrefix p_strings_HasPrefix_0 b_strings_HasPrefix_0 p_internal_stringslite_HasPrefix p_internal_stringslite_HasPrefix_0 b_internal_stringslite_HasPrefix_0 UQ
  rw [r_slen, r_slen]
  match s with
  | [] =>
    rw [geq_f (by decide), if_neg (by decide)]
  | b :: r =>
    rw [geq_t (by simp; omega), show (([34] : Str).length : Int) = ((1 : Nat) : Int) from rfl, r_ssub_to (by simp)]
    simp only [List.take_succ_cons, List.take_zero]
    rw [byteAt0]
    by_cases c : b = 34
    · subst c
      rw [seq_t rfl, if_pos (by decide)]
      simp only
      exact Unq_loop _ hs _ 1 _ _ _ (Nat.le_refl _) (by simp at hs ⊢; omega) (by simp)
    · rw [seq_f (by simpa using c), if_neg (fun h => c (UInt8.toNat_inj.1 (by rw [h]; rfl)))]
end Go.Abs.A
