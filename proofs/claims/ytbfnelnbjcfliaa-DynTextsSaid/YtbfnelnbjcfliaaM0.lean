import Derived.Test.YtbfnelnbjcfliaaAbsL
import Derived.Lib.DecodeNEq
/-! The true primitives, in plain words. -/
set_option linter.unusedVariables false
namespace Go.Abs.M
theorem r_lss (a b : Int) : Prims.real.cmp .lss a b = decide (a < b) := rfl
theorem r_leq (a b : Int) : Prims.real.cmp .leq a b = decide (a ≤ b) := rfl
theorem r_gtr (a b : Int) : Prims.real.cmp .gtr a b = decide (a > b) := rfl
theorem r_geq (a b : Int) : Prims.real.cmp .geq a b = decide (a ≥ b) := rfl
theorem r_eql (a b : Int) : Prims.real.cmp .eql a b = (a == b) := rfl
theorem r_neq (a b : Int) : Prims.real.cmp .neq a b = (a != b) := rfl
theorem r_seq (a b : Str) : Prims.real.seq a b = (a == b) := rfl
theorem r_slt (a b : Str) : Prims.real.slt a b = Op.bytesLess a b := rfl
theorem r_slen (a : Str) : Prims.real.slen a = (a.length : Int) := rfl
theorem r_len {α : Type} (a : List α) : Prims.real.len a = (a.length : Int) := rfl
theorem r_enc (n : Int) : Prims.real.enc n = (Utf8.encode n).data.toList := rfl
theorem r_sit (s : Str) (p : Nat) : Prims.real.sit s p = Pr.sit s p := rfl
theorem r_ssub (s : Str) (a b : Option Int) : Prims.real.ssub s a b = Pr.ssub s a b := rfl
theorem r_sub {α : Type} (s : List α) (a b : Option Int) : Prims.real.sub s a b = Pr.sub s a b := rfl
theorem r_ofBytes (l : List Int) : Prims.real.ofBytes l = l.map fun n => UInt8.ofNat n.toNat := rfl
/-- Numbers that fit. -/
def fit64 (n : Int) : Prop := -9223372036854775808 ≤ n ∧ n ≤ 9223372036854775807
theorem wrap64 {n : Int} (h : fit64 n) : IntKind.i64.wrap n = n := by unfold fit64 at h; rw [IntKind.wrap_i64]; omega
theorem r_add {a b : Int} (h : fit64 (a + b)) : Prims.real.ar .add .i64 a b = a + b := wrap64 h
theorem r_sub64 {a b : Int} (h : fit64 (a - b)) : Prims.real.ar .sub .i64 a b = a - b := wrap64 h
theorem r_mul {a b : Int} (h : fit64 (a * b)) : Prims.real.ar .mul .i64 a b = a * b := wrap64 h
theorem r_wrap64 {a : Int} (h : fit64 a) : Prims.real.wrap .i64 a = a := wrap64 h
theorem r_sidx {s : Str} {i : Nat} {b : UInt8} (h : s[i]? = some b) : Prims.real.sidx s (i : Int) = some (b.toNat : Int) := by
  show Pr.sidx s i = _
  simp [Pr.sidx, h]
theorem r_sidx' {s : Str} {n : Int} (i : Nat) (hn : n = i) {b : UInt8} (h : s[i]? = some b) : Prims.real.sidx s n = some (b.toNat : Int) := by subst hn; exact r_sidx h
theorem r_idx {α : Type} {l : List α} {i : Nat} {b : α} (h : l[i]? = some b) : Prims.real.idx l (i : Int) = some b := by
  show Pr.idx l i = _
  simp [Pr.idx, h]
theorem bnd_nat (i d : Nat) : Pr.bnd (some (i : Int)) d = some i := by
  unfold Pr.bnd
  simp only
  rw [if_neg (by omega), Int.toNat_natCast]
theorem r_ssub_from {s : Str} {i : Nat} (h : i ≤ s.length) : Prims.real.ssub s (some (i : Int)) none = some (s.drop i) := by
  rw [r_ssub]
  simp [Pr.ssub, bnd_nat, Pr.bnd.eq_1, Pr.cutB, h]
theorem r_ssub_to {s : Str} {i : Nat} (h : i ≤ s.length) : Prims.real.ssub s none (some (i : Int)) = some (s.take i) := by
  rw [r_ssub]
  simp [Pr.ssub, bnd_nat, Pr.bnd.eq_1, Pr.cutB, h]
theorem r_ssub2 {s : Str} {i j : Nat} (h : i ≤ j) (h2 : j ≤ s.length) : Prims.real.ssub s (some (i : Int)) (some (j : Int)) = some ((s.take j).drop i) := by
  rw [r_ssub]
  simp [Pr.ssub, bnd_nat, Pr.cutB, h, h2]
theorem r_scat {a b : Str} (h : a.length + b.length ≤ 9223372036854775807) : Prims.real.scat a b = some (a ++ b) := by
  show Pr.scat a b = _
  simp [Pr.scat, h]
theorem r_app {α : Type} {n : Nat} {a b : List α} (h : (a.length + b.length) * n ≤ room) (h2 : a.length + b.length ≤ room) : Prims.real.app n a b = some (a ++ b) := by
  show Pr.app n a b = _
  simp [Pr.app, Pr.fit, h, h2]

/-! ## Runes -/
def byteAt (l : Str) (i : Nat) : Nat := (l[i]?.getD 0).toNat
/-- The rune at a text's beginning, and how many bytes it has. -/
def dec (l : Str) : Nat × Nat := Lib.decodeN l.length (byteAt l 0) (byteAt l 1) (byteAt l 2) (byteAt l 3)
theorem get!_list (s : Str) (i : Nat) : ((⟨⟨s⟩⟩ : ByteArray).get! i) = s[i]?.getD 0 := by
  show (⟨s⟩ : Array UInt8)[i]! = _
  rw [getElem!_def]
  simp
  cases s[i]? <;> rfl
theorem decode_dec (s : Str) (i : Nat) (h : i ≤ s.length) : Utf8.decode ⟨⟨s⟩⟩ i = dec (s.drop i) := by
  rw [Lib.decode_at]
  unfold dec byteAt
  have e : ∀ k, (s.drop i)[k]? = s[i + k]? := fun k => by rw [List.getElem?_drop]
  simp only [e, get!_list, List.length_drop, Nat.add_zero]
  rfl
theorem byteAt_lt (l : Str) (i : Nat) : byteAt l i < 256 := by unfold byteAt; exact UInt8.toNat_lt _
theorem sit_end {s : Str} {p : Nat} (h : s.length ≤ p) : Prims.real.sit s p = none := by
  show Pr.sit s p = _
  simp [Pr.sit]; omega
theorem sit_at {s : Str} {p : Nat} (h : p < s.length) : Prims.real.sit s p = some ((p : Int), ((dec (s.drop p)).1 : Int), p + (dec (s.drop p)).2) := by
  show Pr.sit s p = _
  rw [Pr.sit, if_pos (by omega), decode_dec s p (by omega)]
theorem dec_ascii {l : Str} (h : byteAt l 0 < 128) : dec l = (byteAt l 0, 1) := by unfold dec Lib.decodeN; rw [if_pos h]
theorem dec_high {l : Str} (h : 128 ≤ byteAt l 0) : 128 ≤ (dec l).1 := by
  unfold dec Lib.decodeN
  rw [if_neg (by omega)]
  repeat' split
  all_goals first | (simp; omega) | omega
theorem dec_size {l : Str} (h : l ≠ []) : 1 ≤ (dec l).2 ∧ (dec l).2 ≤ l.length := by
  have hl : 1 ≤ l.length := by cases l with | nil => exact absurd rfl h | cons _ _ => simp
  unfold dec Lib.decodeN
  repeat' split
  all_goals simp only
  all_goals omega
theorem dec_most (l : Str) : (dec l).1 ≤ 1114111 ∧ (dec l).2 ≤ 4 := by
  have h0 := byteAt_lt l 0
  unfold dec Lib.decodeN
  repeat' split
  all_goals simp only
  all_goals omega
end Go.Abs.M
