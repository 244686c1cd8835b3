import Derived.Test.YtacabmodmbcldaaDoorM0
import Derived.Lib.MapLaws
/-! More primitives in plain words; runes and their bytes. -/
set_option linter.unusedVariables false
namespace Go.Abs.M
theorem lss_t {a b : Int} (h : a < b) : Prims.real.cmp .lss a b = true := by rw [r_lss]; simp; exact h
theorem lss_f {a b : Int} (h : b ≤ a) : Prims.real.cmp .lss a b = false := by rw [r_lss]; simp; exact h
theorem gtr_t {a b : Int} (h : b < a) : Prims.real.cmp .gtr a b = true := by rw [r_gtr]; simp; exact h
theorem gtr_f {a b : Int} (h : a ≤ b) : Prims.real.cmp .gtr a b = false := by rw [r_gtr]; simp; exact h
theorem geq_t {a b : Int} (h : b ≤ a) : Prims.real.cmp .geq a b = true := by rw [r_geq]; simp; exact h
theorem geq_f {a b : Int} (h : a < b) : Prims.real.cmp .geq a b = false := by rw [r_geq]; simp; exact h
theorem leq_t {a b : Int} (h : a ≤ b) : Prims.real.cmp .leq a b = true := by rw [r_leq]; simp; exact h
theorem leq_f {a b : Int} (h : b < a) : Prims.real.cmp .leq a b = false := by rw [r_leq]; simp; exact h
theorem eql_t {a b : Int} (h : a = b) : Prims.real.cmp .eql a b = true := by rw [r_eql]; simp; exact h
theorem eql_f {a b : Int} (h : a ≠ b) : Prims.real.cmp .eql a b = false := by rw [r_eql]; simp; exact h
theorem neq_t {a b : Int} (h : a ≠ b) : Prims.real.cmp .neq a b = true := by rw [r_neq]; simp; exact h
theorem neq_f {a b : Int} (h : a = b) : Prims.real.cmp .neq a b = false := by rw [r_neq]; simp; exact h
theorem seq_t {a b : Str} (h : a = b) : Prims.real.seq a b = true := by rw [r_seq]; simp; exact h
theorem seq_f {a b : Str} (h : a ≠ b) : Prims.real.seq a b = false := by rw [r_seq]; simp; exact h
abbrev enc (r : Int) : Str := Lib.encodeRune r
end Go.Abs.M
