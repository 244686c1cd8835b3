/- Each function printed is the one of the program. -/
import Derived.Test.YtcoajejhnlcmmaaAbs21
import Derived.Test.YtcoajejhnlcmmaaIrB
import Derived.Test.YtcoajejhnlcmmaaProg
import Derived.KernelRfl
namespace Go.Abs.B
open Go.Proofs
theorem ok_3 : mF Try.prog 3 r_cascadelaw17_UsageWithin = true := by kernel_rfl
theorem ok_4 : mF Try.prog 4 r_cascadelaw17_UsageThird = true := by kernel_rfl
theorem ok_7 : mF Try.prog 7 r_cascadelaw17_awake = true := by kernel_rfl
theorem ok_8 : mF Try.prog 8 r_cascadelaw17_right = true := by kernel_rfl
theorem ok_9 : mF Try.prog 9 r_usage_Within = true := by kernel_rfl
theorem ok_10 : mF Try.prog 10 r_cascaderef17_Within = true := by kernel_rfl
theorem ok_11 : mF Try.prog 11 r_cascaderef09_RightType = true := by kernel_rfl
theorem ok_23 : mF Try.prog 23 r_usage_strict = true := by kernel_rfl
theorem ok_24 : mF Try.prog 24 r_usage_inner = true := by kernel_rfl
theorem ok_25 : mF Try.prog 25 r_usage_list = true := by kernel_rfl
theorem ok_26 : mF Try.prog 26 r_cascaderef17_last = true := by kernel_rfl
theorem ok_27 : mF Try.prog 27 r_cascaderef17_less = true := by kernel_rfl
theorem ok_28 : mF Try.prog 28 r_cascaderef01_Name = true := by kernel_rfl
theorem ok_32 : mF Try.prog 32 r_strings_HasSuffix = true := by kernel_rfl
theorem ok_33 : mF Try.prog 33 r_cascaderef01_Letter = true := by kernel_rfl
theorem ok_34 : mF Try.prog 34 r_cascaderef01_Digit = true := by kernel_rfl
theorem ok_39 : mF Try.prog 39 r_internal_stringslite_HasSuffix = true := by kernel_rfl
theorem mixed : Try.prog.follows .mixedOrders = true := by kernel_rfl
theorem table_ok : ∀ f rf, table f = some rf → mF Try.prog f rf = true := by
  intro f rf h
  unfold table at h
  split at h
  · cases h; exact ok_3
  · cases h; exact ok_4
  · cases h; exact ok_7
  · cases h; exact ok_8
  · cases h; exact ok_9
  · cases h; exact ok_10
  · cases h; exact ok_11
  · cases h; exact ok_23
  · cases h; exact ok_24
  · cases h; exact ok_25
  · cases h; exact ok_26
  · cases h; exact ok_27
  · cases h; exact ok_28
  · cases h; exact ok_32
  · cases h; exact ok_33
  · cases h; exact ok_34
  · cases h; exact ok_39
  · cases h
end Go.Abs.B
