import Derived.Test.YtcoajejhnlcmmaaDoorMB1
/-! Lengths of parts. -/
set_option linter.unusedVariables false
set_option linter.unusedSimpArgs false
set_option linter.unusedVariables false
namespace Go.Abs.B
open M
theorem awake28 : p_cascadelaw28_awake = some true := by
  unfold p_cascadelaw28_awake p_cascadelaw28_awake_0 b_cascadelaw28_awake_0 p_parts_End p_parts_End_0 b_parts_End_0 p_parts_New__0 p_parts_New__0_0 b_parts_New__0_0
  simp only
  rw [seq_t rfl]
theorem feed (v s : Str) (a : Int) (o : Bool) (b : Int) (h : s.length + v.length ≤ 1000000000) : p_parts_Reader_Feed__0 v s a o b = some (s ++ v, a, o, b) := by
  unfold p_parts_Reader_Feed__0 p_parts_Reader_Feed__0_0 b_parts_Reader_Feed__0_0
  rw [r_scat (by omega)]
theorem badR (s : Str) (a : Int) (o : Bool) (b : Nat) (h : b ≤ 4000000000) : p_parts_Reader_Bad__0 s a o (b : Int) = some ((b : Int) - 1) := by
  unfold p_parts_Reader_Bad__0 p_parts_Reader_Bad__0_0 b_parts_Reader_Bad__0_0
  rw [r_sub64 (by unfold fit64; omega)]
abbrev hd28 : Str := [45, 45, 99, 117, 116, 13, 10, 67, 111, 110, 116, 101, 110, 116, 45, 84, 121, 112, 101, 58, 32, 97, 112, 112, 108, 105, 99, 97, 116, 105, 111, 110, 47, 106, 115, 111, 110, 13, 10, 67, 111, 110, 116, 101, 110, 116, 45, 76, 101, 110, 103, 116, 104, 58, 32]
end Go.Abs.B
