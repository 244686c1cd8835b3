import Derived.Test.YtcoajejhnlcmmaaDoorIrB
import Derived.Test.YtcoajejhnlcmmaaDoorProg
import Derived.KernelRfl
namespace Go.Abs.B
open Go.Proofs
theorem ok_3 : mF Tryd.prog 3 (eraseF r_cascadelaw28_PartsTwo) = true := by kernel_rfl
theorem ok_4 : mF Tryd.prog 4 (eraseF r_cascadelaw28_PartsWhole) = true := by kernel_rfl
theorem ok_5 : mF Tryd.prog 5 (eraseF r_cascadelaw28_awake) = true := by kernel_rfl
theorem ok_6 : mF Tryd.prog 6 (eraseF r_cascadelaw28_few) = true := by kernel_rfl
theorem ok_7 : mF Tryd.prog 7 (eraseF r_parts_Whole) = true := by kernel_rfl
theorem ok_8 : mF Tryd.prog 8 (eraseF r_parts_End) = true := by kernel_rfl
theorem ok_9 : mF Tryd.prog 9 (eraseF r_parts_Part) = true := by kernel_rfl
theorem ok_10 : mF Tryd.prog 10 (eraseF r_cascaderef28_Part) = true := by kernel_rfl
theorem ok_11 : mF Tryd.prog 11 (eraseF r_parts_New) = true := by kernel_rfl
theorem ok_12 : mF Tryd.prog 12 (eraseF r_parts_Reader_Feed) = true := by kernel_rfl
theorem ok_13 : mF Tryd.prog 13 (eraseF r_cascadelaw28_drain) = true := by kernel_rfl
theorem ok_14 : mF Tryd.prog 14 (eraseF r_cascaderef28_Whole) = true := by kernel_rfl
theorem ok_15 : mF Tryd.prog 15 (eraseF r_cascaderef12_SameNames) = true := by kernel_rfl
theorem ok_16 : mF Tryd.prog 16 (eraseF r_parts_Reader_Over) = true := by kernel_rfl
theorem ok_17 : mF Tryd.prog 17 (eraseF r_parts_Reader_Bad) = true := by kernel_rfl
theorem ok_18 : mF Tryd.prog 18 (eraseF ({ code := [], res := [], np := 2, ext := some (.eff (effStr 42 5)) } : KF)) = true := by kernel_rfl
theorem ok_19 : mF Tryd.prog 19 (eraseF ({ code := [], res := [], np := 1, ext := some (.eff (effText 42 5)) } : KF)) = true := by kernel_rfl
theorem ok_20 : mF Tryd.prog 20 (eraseF ({ code := [], res := [], np := 1, ext := some (.pure ext_strconv_Itoa) } : KF)) = true := by kernel_rfl
theorem ok_21 : mF Tryd.prog 21 (eraseF r_cascaderef05_Number) = true := by kernel_rfl
theorem ok_22 : mF Tryd.prog 22 (eraseF r_parts_Reader_Next) = true := by kernel_rfl
theorem ok_25 : mF Tryd.prog 25 (eraseF r_parts_scan_part) = true := by kernel_rfl
theorem ok_28 : mF Tryd.prog 28 (eraseF r_parts_scan_text) = true := by kernel_rfl
theorem ok_29 : mF Tryd.prog 29 (eraseF r_parts_scan_is) = true := by kernel_rfl
theorem ok_30 : mF Tryd.prog 30 (eraseF r_parts_scan_number) = true := by kernel_rfl
theorem ok_31 : mF Tryd.prog 31 (eraseF r_parts_scan_take) = true := by kernel_rfl
theorem ok_36 : mF Tryd.prog 36 (eraseF r_parts_scan_number_1) = true := by kernel_rfl
theorem mixed : Tryd.prog.follows .mixedOrders = true := by kernel_rfl
theorem match_ok : ∀ f rf, oldT table f = some rf → mF Tryd.prog f rf = true := by
  intro f rf h
  unfold oldT at h
  split at h <;> try (cases h; done)
  rename_i kf hk
  cases h
  unfold table at hk
  split at hk
  · cases hk; exact ok_3
  · cases hk; exact ok_4
  · cases hk; exact ok_5
  · cases hk; exact ok_6
  · cases hk; exact ok_7
  · cases hk; exact ok_8
  · cases hk; exact ok_9
  · cases hk; exact ok_10
  · cases hk; exact ok_11
  · cases hk; exact ok_12
  · cases hk; exact ok_13
  · cases hk; exact ok_14
  · cases hk; exact ok_15
  · cases hk; exact ok_16
  · cases hk; exact ok_17
  · cases hk; exact ok_18
  · cases hk; exact ok_19
  · cases hk; exact ok_20
  · cases hk; exact ok_21
  · cases hk; exact ok_22
  · cases hk; exact ok_25
  · cases hk; exact ok_28
  · cases hk; exact ok_29
  · cases hk; exact ok_30
  · cases hk; exact ok_31
  · cases hk; exact ok_36
  · cases hk
end Go.Abs.B
