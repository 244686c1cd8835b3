import Derived.Test.YtacabmodmbcldaaDoorIrT
import Derived.Test.YtacabmodmbcldaaDoorProg
import Derived.KernelRfl
namespace Go.Abs.T
open Go.Proofs
theorem ok_5 : mF Tryd.prog 5 (eraseF r_cascadelaw06_PathThird) = true := by kernel_rfl
theorem ok_15 : mF Tryd.prog 15 (eraseF r_cascadelaw06_awake) = true := by kernel_rfl
theorem ok_16 : mF Tryd.prog 16 (eraseF r_cascaderef06_Few) = true := by kernel_rfl
theorem ok_18 : mF Tryd.prog 18 (eraseF r_path_Value) = true := by kernel_rfl
theorem ok_19 : mF Tryd.prog 19 (eraseF r_path_Right) = true := by kernel_rfl
theorem ok_27 : mF Tryd.prog 27 (eraseF r_path_Less) = true := by kernel_rfl
theorem ok_28 : mF Tryd.prog 28 (eraseF r_path_Key) = true := by kernel_rfl
theorem ok_29 : mF Tryd.prog 29 (eraseF r_path_Place) = true := by kernel_rfl
theorem ok_30 : mF Tryd.prog 30 (eraseF r_path_Under) = true := by kernel_rfl
theorem ok_31 : mF Tryd.prog 31 (eraseF r_path_Same) = true := by kernel_rfl
theorem ok_50 : mF Tryd.prog 50 (eraseF r_slices_ContainsFunc__api_Step_api_Step) = true := by kernel_rfl
theorem ok_51 : mF Tryd.prog 51 (eraseF r_path_Right_1) = true := by kernel_rfl
theorem ok_52 : mF Tryd.prog 52 (eraseF r_path_right) = true := by kernel_rfl
theorem ok_55 : mF Tryd.prog 55 (eraseF r_slices_CompareFunc__api_Step__api_Step_api_Step_api_Step) = true := by kernel_rfl
theorem ok_56 : mF Tryd.prog 56 (eraseF r_path_compare) = true := by kernel_rfl
theorem ok_57 : mF Tryd.prog 57 (eraseF r_slices_EqualFunc__api_Step__api_Step_api_Step_api_Step) = true := by kernel_rfl
theorem ok_58 : mF Tryd.prog 58 (eraseF r_path_one) = true := by kernel_rfl
theorem ok_92 : mF Tryd.prog 92 (eraseF r_slices_IndexFunc__api_Step_api_Step) = true := by kernel_rfl
theorem ok_93 : mF Tryd.prog 93 (eraseF r_text_Right) = true := by kernel_rfl
theorem ok_99 : mF Tryd.prog 99 (eraseF r_cmp_Or_int) = true := by kernel_rfl
theorem ok_100 : mF Tryd.prog 100 (eraseF r_cmp_Compare_string) = true := by kernel_rfl
theorem ok_101 : mF Tryd.prog 101 (eraseF r_cmp_Compare_int) = true := by kernel_rfl
theorem ok_124 : mF Tryd.prog 124 (eraseF r_text_Bad) = true := by kernel_rfl
theorem ok_125 : mF Tryd.prog 125 (eraseF r_cmp_isNaN_string) = true := by kernel_rfl
theorem ok_126 : mF Tryd.prog 126 (eraseF r_cmp_isNaN_int) = true := by kernel_rfl
theorem ok_136 : mF Tryd.prog 136 (eraseF ({ code := [], res := [], np := 1, ext := some (.pure ext_unicode_utf8_DecodeRuneInString) } : KF)) = true := by kernel_rfl
theorem mixed : Tryd.prog.follows .mixedOrders = true := by kernel_rfl
theorem match_ok : ∀ f rf, oldT table f = some rf → mF Tryd.prog f rf = true := by
  intro f rf h
  unfold oldT at h
  split at h <;> try (cases h; done)
  rename_i kf hk
  cases h
  unfold table at hk
  split at hk
  · cases hk; exact ok_5
  · cases hk; exact ok_15
  · cases hk; exact ok_16
  · cases hk; exact ok_18
  · cases hk; exact ok_19
  · cases hk; exact ok_27
  · cases hk; exact ok_28
  · cases hk; exact ok_29
  · cases hk; exact ok_30
  · cases hk; exact ok_31
  · cases hk; exact ok_50
  · cases hk; exact ok_51
  · cases hk; exact ok_52
  · cases hk; exact ok_55
  · cases hk; exact ok_56
  · cases hk; exact ok_57
  · cases hk; exact ok_58
  · cases hk; exact ok_92
  · cases hk; exact ok_93
  · cases hk; exact ok_99
  · cases hk; exact ok_100
  · cases hk; exact ok_101
  · cases hk; exact ok_124
  · cases hk; exact ok_125
  · cases hk; exact ok_126
  · cases hk; exact ok_136
  · cases hk
end Go.Abs.T
