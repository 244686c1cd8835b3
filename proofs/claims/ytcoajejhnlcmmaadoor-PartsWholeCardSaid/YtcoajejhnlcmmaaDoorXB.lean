import Derived.Test.YtcoajejhnlcmmaaDoorAbsL
import Derived.Shelf.Strconv.Itoa3
/-! What is left to contracts: the library's decimal numbers. -/
set_option linter.unusedSimpArgs false
set_option linter.unusedVariables false
namespace Go.Abs.B
def powTab : List D := Lib.pow10Tab.map fun z => .int .u64 z
def glob : Nat → Option (List D)
  | 0 => some powTab
  | _ => none
def ext_strconv_Itoa : List V → Option D
  | [.d (.int .i64 n)] => if -9223372036854775808 ≤ n ∧ n ≤ 9223372036854775807 then some (.str (Lib.itoa n)) else none
  | _ => none
def p_strconv_Itoa (n : Int) : Option Str := if -9223372036854775808 ≤ n ∧ n ≤ 9223372036854775807 then some (Lib.itoa n) else none
theorem x_strconv_Itoa {a0 : Int} {r0 : Str} (h : p_strconv_Itoa a0 = some r0) : ext_strconv_Itoa [.d (.int .i64 a0)] = some (.str r0) := by
  unfold p_strconv_Itoa at h
  split at h <;> cases h
  rename_i hc
  simp [ext_strconv_Itoa, hc]
end Go.Abs.B
