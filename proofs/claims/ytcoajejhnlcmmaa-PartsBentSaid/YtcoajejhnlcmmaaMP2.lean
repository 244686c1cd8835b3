import Derived.Test.YtcoajejhnlcmmaaMP1
/-! Lengths of parts. -/
set_option linter.unusedVariables false
set_option linter.unusedSimpArgs false
set_option linter.unusedVariables false
namespace Go.Abs.P
open M
theorem awake28 : p_cascadelaw28_awake = some true := by
  unfold p_cascadelaw28_awake p_cascadelaw28_awake_0 b_cascadelaw28_awake_0 p_parts_End p_parts_End_0 b_parts_End_0 p_parts_New__0 p_parts_New__0_0 b_parts_New__0_0
  simp only
  rw [seq_t rfl]
theorem feed (v s : Str) (a : Int) (o : Bool) (b : Int) (h : s.length + v.length ≤ 1000000000) : p_parts_Reader_Feed__0 v s a o b = some (s ++ v, a, o, b) := by
  unfold p_parts_Reader_Feed__0 p_parts_Reader_Feed__0_0 b_parts_Reader_Feed__0_0
  rw [r_scat (by omega)]
theorem badR (s : Str) (a : Int) (o : Bool) (b : Nat) (h : b ≤ 4000000000) : p_parts_Reader_Bad__0 s a o (b : Int) = some ((b : Int) - 1) := by
  unfold p_parts_Reader_Bad__0 p_parts_Reader_Bad__0_0 b_parts_Reader_Bad__0_0
  rw [r_sub64 (by unfold fit64; omega)]
abbrev hd28 : Str := [45, 45, 99, 117, 116, 13, 10, 67, 111, 110, 116, 101, 110, 116, 45, 84, 121, 112, 101, 58, 32, 97, 112, 112, 108, 105, 99, 97, 116, 105, 111, 110, 47, 106, 115, 111, 110, 13, 10, 67, 111, 110, 116, 101, 110, 116, 45, 76, 101, 110, 103, 116, 104, 58, 32]
def long (c : UInt8) : Rd := ⟨hd28 ++ [49, 54, 55, 55, 55, 50, 49] ++ [c] ++ [13, 10], 0, false, 0⟩
theorem long_next (c : UInt8) : p_parts_Reader_Next__0 (hd28 ++ [49, 54, 55, 55, 55, 50, 49] ++ [c] ++ [13, 10]) 0 false 0 = some ((nextS (long c)).1, (nextS (long c)).2.1, (nextS (long c)).2.2.rest, ((nextS (long c)).2.2.at_ : Int), (nextS (long c)).2.2.over, ((nextS (long c)).2.2.bad : Int)) :=
  next (long c) ⟨by simp [long], by simp [long], by simp [long]⟩
theorem zero_next : p_parts_Reader_Next__0 (hd28 ++ [48, 48]) 0 false 0 = some ((nextS ⟨hd28 ++ [48, 48], 0, false, 0⟩).1, (nextS ⟨hd28 ++ [48, 48], 0, false, 0⟩).2.1, (nextS ⟨hd28 ++ [48, 48], 0, false, 0⟩).2.2.rest, ((nextS ⟨hd28 ++ [48, 48], 0, false, 0⟩).2.2.at_ : Int), (nextS ⟨hd28 ++ [48, 48], 0, false, 0⟩).2.2.over, ((nextS ⟨hd28 ++ [48, 48], 0, false, 0⟩).2.2.bad : Int)) :=
  next ⟨hd28 ++ [48, 48], 0, false, 0⟩ ⟨by simp, by simp, by simp⟩
theorem l53 : (nextS (long 53)).2.1 = false ∧ (nextS (long 53)).2.2.bad = 0 := by decide +kernel
theorem l54 : (nextS (long 54)).2.1 = false ∧ (nextS (long 54)).2.2.bad = 0 := by decide +kernel
theorem l55 : (nextS (long 55)).2.1 = false ∧ (nextS (long 55)).2.2.bad = 63 := by decide +kernel
theorem l00 : (nextS ⟨hd28 ++ [48, 48], 0, false, 0⟩).2.1 = false ∧ (nextS ⟨hd28 ++ [48, 48], 0, false, 0⟩).2.2.bad = 57 := by decide +kernel
theorem Long_2 : p_cascadelaw28_PartsLong_2 hd28 = some true := by
  unfold p_cascadelaw28_PartsLong_2 b_cascadelaw28_PartsLong_2 p_parts_New__0 p_parts_New__0_0 b_parts_New__0_0
  simp only
  rw [r_scat (by simp)]
  simp only
  rw [feed _ _ _ _ _ (by simp)]
  simp only [List.nil_append, zero_next, l00.1, l00.2]
  rw [badR _ _ _ _ (by omega)]
  simp only [r_slen]
  rw [r_add (by unfold fit64; simp), eql_t (by simp)]
theorem PartsLong (n : Int) (hn : 0 ≤ n ∧ n ≤ 255) : p_cascadelaw28_PartsLong n = some true := by
  unfold p_cascadelaw28_PartsLong p_cascadelaw28_PartsLong_0 b_cascadelaw28_PartsLong_0 p_parts_New__0 p_parts_New__0_0 b_parts_New__0_0
  simp only [awake28]
  rw [r_rem (by omega) (by omega)]
  simp only
  rw [r_scat (by simp), r_wrap64 (by unfold fit64; omega), r_add (a := n % 3) (by unfold fit64; omega), r_add (a := 48) (by unfold fit64; omega), r_sub64 (by unfold fit64; omega), r_wrap8 (by omega) (by omega)]
  simp only
  have hc : Prims.real.ofBytes [48 + (n % 3 + 16777215) - 16777210] = [UInt8.ofNat (53 + n % 3).toNat] := by
    rw [r_ofBytes]
    simp only [List.map_cons, List.map_nil]
    congr 2
    omega
  simp only [hc]
  rw [r_scat (by simp)]
  simp only
  rw [r_scat (by simp)]
  simp only
  rw [feed _ _ _ _ _ (by simp)]
  simp only [List.nil_append]
  have h3 : n % 3 = 0 ∨ n % 3 = 1 ∨ n % 3 = 2 := by omega
  have key := long_next (UInt8.ofNat (53 + n % 3).toNat)
  simp only [key]
  rcases h3 with e | e | e
  · rw [e, show UInt8.ofNat (53 + (0 : Int)).toNat = 53 from rfl]
    simp only [l53.1, l53.2]
    rw [badR _ _ _ _ (by omega)]
    simp only
    rw [geq_f (by omega)]
    simp only
    rw [gtr_f (by omega)]
    exact Long_2
  · rw [e, show UInt8.ofNat (53 + (1 : Int)).toNat = 54 from rfl]
    simp only [l54.1, l54.2]
    rw [badR _ _ _ _ (by omega)]
    simp only
    rw [geq_f (by omega)]
    simp only
    rw [gtr_f (by omega)]
    exact Long_2
  · rw [e, show UInt8.ofNat (53 + (2 : Int)).toNat = 55 from rfl]
    simp only [l55.1, l55.2]
    rw [badR _ _ _ _ (by omega)]
    simp only
    rw [geq_t (by omega)]
    simp only
    rw [gtr_t (by omega)]
    simp only [r_slen]
    rw [r_add (a := ((hd28.length : Nat) : Int)) (by unfold fit64; simp), neq_f (by simp)]
    exact Long_2
end Go.Abs.P
