import Derived.Test.YtcoajejhnlcmmaaIrP
import Derived.Test.YtcoajejhnlcmmaaProg
import Derived.KernelRfl
namespace Go.Abs.P
open Go.Proofs
theorem ok_5 : mF Try.prog 5 (eraseF r_cascadelaw28_PartsLong) = true := by kernel_rfl
theorem ok_6 : mF Try.prog 6 (eraseF r_cascadelaw28_PartsBent) = true := by kernel_rfl
theorem ok_12 : mF Try.prog 12 (eraseF r_cascadelaw28_awake) = true := by kernel_rfl
theorem ok_13 : mF Try.prog 13 (eraseF r_parts_New) = true := by kernel_rfl
theorem ok_14 : mF Try.prog 14 (eraseF r_parts_Reader_Feed) = true := by kernel_rfl
theorem ok_15 : mF Try.prog 15 (eraseF r_parts_Reader_Next) = true := by kernel_rfl
theorem ok_16 : mF Try.prog 16 (eraseF r_parts_Reader_Bad) = true := by kernel_rfl
theorem ok_17 : mF Try.prog 17 (eraseF r_cascadelaw28_few) = true := by kernel_rfl
theorem ok_18 : mF Try.prog 18 (eraseF r_cascaderef28_Whole) = true := by kernel_rfl
theorem ok_19 : mF Try.prog 19 (eraseF r_cascaderef28_Part) = true := by kernel_rfl
theorem ok_20 : mF Try.prog 20 (eraseF r_cascadelaw28_drain) = true := by kernel_rfl
theorem ok_21 : mF Try.prog 21 (eraseF r_cascaderef12_SameNames) = true := by kernel_rfl
theorem ok_22 : mF Try.prog 22 (eraseF r_parts_Reader_Over) = true := by kernel_rfl
theorem ok_29 : mF Try.prog 29 (eraseF r_parts_End) = true := by kernel_rfl
theorem ok_30 : mF Try.prog 30 (eraseF r_parts_scan_part) = true := by kernel_rfl
theorem ok_31 : mF Try.prog 31 (eraseF r_cascaderef05_Number) = true := by kernel_rfl
theorem ok_35 : mF Try.prog 35 (eraseF r_parts_scan_text) = true := by kernel_rfl
theorem ok_36 : mF Try.prog 36 (eraseF r_parts_scan_is) = true := by kernel_rfl
theorem ok_37 : mF Try.prog 37 (eraseF r_parts_scan_number) = true := by kernel_rfl
theorem ok_38 : mF Try.prog 38 (eraseF r_parts_scan_take) = true := by kernel_rfl
theorem ok_40 : mF Try.prog 40 (eraseF r_parts_scan_number_1) = true := by kernel_rfl
theorem mixed : Try.prog.follows .mixedOrders = true := by kernel_rfl
theorem match_ok : ∀ f rf, oldT table f = some rf → mF Try.prog f rf = true := by
  intro f rf h
  unfold oldT at h
  split at h <;> try (cases h; done)
  rename_i kf hk
  cases h
  unfold table at hk
  split at hk
  · cases hk; exact ok_5
  · cases hk; exact ok_6
  · cases hk; exact ok_12
  · cases hk; exact ok_13
  · cases hk; exact ok_14
  · cases hk; exact ok_15
  · cases hk; exact ok_16
  · cases hk; exact ok_17
  · cases hk; exact ok_18
  · cases hk; exact ok_19
  · cases hk; exact ok_20
  · cases hk; exact ok_21
  · cases hk; exact ok_22
  · cases hk; exact ok_29
  · cases hk; exact ok_30
  · cases hk; exact ok_31
  · cases hk; exact ok_35
  · cases hk; exact ok_36
  · cases hk; exact ok_37
  · cases hk; exact ok_38
  · cases hk; exact ok_40
  · cases hk
end Go.Abs.P
