import Derived.Test.YtbfnelnbjcfliaaM0
import Derived.Lib.MapLaws
/-! More primitives in plain words; runes and their bytes. -/
set_option linter.unusedVariables false
namespace Go.Abs.M
theorem r_quo {a b : Int} (ha : 0 ≤ a) (ha2 : a ≤ 9223372036854775807) (hb : 0 < b) : Prims.real.quo .quo .i64 a b = some (a / b) := by
  show Pr.quo .quo .i64 a b = _
  unfold Pr.quo intAr
  rw [if_neg (by omega)]
  simp only
  have h1 : 0 ≤ a / b := Int.ediv_nonneg ha (by omega)
  have h2 : a / b ≤ a := Int.ediv_le_self b ha
  rw [Int.tdiv_eq_ediv_of_nonneg ha, wrap64 (by unfold fit64; omega)]
theorem r_rem {a b : Int} {k : IntKind} (ha : 0 ≤ a) (hb : 0 < b) : Prims.real.quo .rem k a b = some (a % b) := by
  show Pr.quo .rem k a b = _
  unfold Pr.quo intAr
  rw [if_neg (by omega)]
  simp only
  rw [Int.tmod_eq_emod_of_nonneg ha]
theorem r_wrap8 {a : Int} (h : 0 ≤ a) (h2 : a < 256) : Prims.real.wrap .u8 a = a := by
  show IntKind.u8.wrap a = a
  rw [IntKind.wrap_u8]; omega
theorem r_wrap32 {n : Int} (h1 : -2147483648 ≤ n) (h2 : n ≤ 2147483647) : Prims.real.wrap .i32 n = n := by
  show IntKind.i32.wrap n = n
  rw [IntKind.wrap_i32]; omega
theorem lss_t {a b : Int} (h : a < b) : Prims.real.cmp .lss a b = true := by rw [r_lss]; simp; exact h
theorem lss_f {a b : Int} (h : b ≤ a) : Prims.real.cmp .lss a b = false := by rw [r_lss]; simp; exact h
theorem gtr_t {a b : Int} (h : b < a) : Prims.real.cmp .gtr a b = true := by rw [r_gtr]; simp; exact h
theorem gtr_f {a b : Int} (h : a ≤ b) : Prims.real.cmp .gtr a b = false := by rw [r_gtr]; simp; exact h
theorem geq_t {a b : Int} (h : b ≤ a) : Prims.real.cmp .geq a b = true := by rw [r_geq]; simp; exact h
theorem geq_f {a b : Int} (h : a < b) : Prims.real.cmp .geq a b = false := by rw [r_geq]; simp; exact h
theorem leq_t {a b : Int} (h : a ≤ b) : Prims.real.cmp .leq a b = true := by rw [r_leq]; simp; exact h
theorem leq_f {a b : Int} (h : b < a) : Prims.real.cmp .leq a b = false := by rw [r_leq]; simp; exact h
theorem eql_t {a b : Int} (h : a = b) : Prims.real.cmp .eql a b = true := by rw [r_eql]; simp; exact h
theorem eql_f {a b : Int} (h : a ≠ b) : Prims.real.cmp .eql a b = false := by rw [r_eql]; simp; exact h
theorem neq_t {a b : Int} (h : a ≠ b) : Prims.real.cmp .neq a b = true := by rw [r_neq]; simp; exact h
theorem neq_f {a b : Int} (h : a = b) : Prims.real.cmp .neq a b = false := by rw [r_neq]; simp; exact h
theorem seq_t {a b : Str} (h : a = b) : Prims.real.seq a b = true := by rw [r_seq]; simp; exact h
theorem seq_f {a b : Str} (h : a ≠ b) : Prims.real.seq a b = false := by rw [r_seq]; simp; exact h
/-- A rune's number. -/
def vr (r : Int) : Bool := decide ((0 ≤ r ∧ r < 55296) ∨ (57343 < r ∧ r ≤ 1114111))
/-- A rune's bytes. -/
abbrev enc (r : Int) : Str := Lib.encodeRune r
theorem enc_len (r : Int) : 1 ≤ (enc r).length ∧ (enc r).length ≤ 4 := by
  have := Lib.encodeRuneZ_length r
  simpa [enc, Lib.encodeRune] using this
theorem dec_decodeL (l : Str) : dec l = Lib.decodeL l := by
  rw [Lib.decodeL_N]
  simp only [dec, byteAt, List.getD_eq_getElem?_getD]
theorem enc_dec {l : Str} (hne : l ≠ []) (hv : dec l ≠ (65533, 1)) : enc ((dec l).1 : Int) = l.take (dec l).2 := by
  rw [dec_decodeL] at hv ⊢
  exact Lib.encode_decode l hne (fun ⟨h1, h2⟩ => hv (Prod.ext h1 h2))
theorem dec_vr {l : Str} : vr ((dec l).1 : Int) = true := by
  have h0 := byteAt_lt l 0
  have := dec_most l
  unfold vr dec
  rcases Lib.decodeN_shape l.length (byteAt l 0) (byteAt l 1) (byteAt l 2) (byteAt l 3) with ⟨c, e⟩ | ⟨c1, c2, c3, cv, e⟩ | ⟨c1, c2, c3, c4, cv, cs, e⟩ | ⟨c1, c2, c3, c4, c5, cv, cw, e⟩ | e <;> rw [e] <;> simp <;> omega
theorem tob {z : Int} (h : 0 ≤ z) (h2 : z < 256) : (z.toNat.toUInt8).toNat = z.toNat := by
  simp
  omega
theorem dec_enc {r : Int} (t : Str) (h : vr r = true) : dec (enc r ++ t) = (r.toNat, (enc r).length) := by
  simp only [vr, decide_eq_true_eq] at h
  unfold enc Lib.encodeRune
  by_cases c1 : r ≤ 127
  · rw [Lib.encodeRuneZ_one (by omega) c1]
    have e := tob (z := r) (by omega) (by omega)
    simp only [dec, byteAt, List.map_cons, List.map_nil, List.cons_append, List.nil_append, List.getElem?_cons_zero, Option.getD_some, e, List.length_cons, List.length_nil]
    unfold Lib.decodeN
    rw [if_pos (by omega)]
  by_cases c2 : r ≤ 2047
  · rw [Lib.encodeRuneZ_two (by omega) c2]
    have e0 := tob (z := 192 + r / 64) (by omega) (by omega)
    have e1 := tob (z := 128 + r % 64) (by omega) (by omega)
    simp only [dec, byteAt, List.map_cons, List.map_nil, List.cons_append, List.nil_append, List.getElem?_cons_zero, List.getElem?_cons_succ, Option.getD_some, e0, e1, List.length_cons, List.length_nil]
    unfold Lib.decodeN
    rw [if_neg (by omega), if_pos (by omega), if_pos (by omega)]
    simp only [Prod.mk.injEq, and_true]
    omega
  by_cases c3 : r ≤ 65535
  · rw [Lib.encodeRuneZ_three (by omega)]
    have e0 := tob (z := 224 + r / 4096) (by omega) (by omega)
    have e1 := tob (z := 128 + r / 64 % 64) (by omega) (by omega)
    have e2 := tob (z := 128 + r % 64) (by omega) (by omega)
    simp only [dec, byteAt, List.map_cons, List.map_nil, List.cons_append, List.nil_append, List.getElem?_cons_zero, List.getElem?_cons_succ, Option.getD_some, e0, e1, e2, List.length_cons, List.length_nil]
    unfold Lib.decodeN
    rw [if_neg (by omega), if_neg (by omega), if_pos (by omega), if_pos (by omega)]
    simp only [Prod.mk.injEq, and_true]
    omega
  · rw [Lib.encodeRuneZ_four (by omega) (by omega)]
    have e0 := tob (z := 240 + r / 262144) (by omega) (by omega)
    have e1 := tob (z := 128 + r / 4096 % 64) (by omega) (by omega)
    have e2 := tob (z := 128 + r / 64 % 64) (by omega) (by omega)
    have e3 := tob (z := 128 + r % 64) (by omega) (by omega)
    simp only [dec, byteAt, List.map_cons, List.map_nil, List.cons_append, List.nil_append, List.getElem?_cons_zero, List.getElem?_cons_succ, Option.getD_some, e0, e1, e2, e3, List.length_cons, List.length_nil]
    unfold Lib.decodeN
    rw [if_neg (by omega), if_neg (by omega), if_neg (by omega), if_pos (by omega), if_pos (by omega)]
    simp only [Prod.mk.injEq, and_true]
    omega
theorem dec_enc_ok {r : Int} (t : Str) (h : vr r = true) : dec (enc r ++ t) ≠ (65533, 1) := by
  rw [dec_enc t h]
  intro e
  simp only [Prod.mk.injEq] at e
  obtain ⟨e1, e2⟩ := e
  simp only [vr, decide_eq_true_eq] at h
  have : r = 65533 := by omega
  subst this
  revert e2
  decide
theorem byteAt0 {b : UInt8} {t : Str} : byteAt (b :: t) 0 = b.toNat := rfl
end Go.Abs.M
