import Derived.Test.YtbfnelnbjcfliaaDoorIrT
import Derived.Test.YtbfnelnbjcfliaaDoorProg
import Derived.KernelRfl
namespace Go.Abs.T
open Go.Proofs
theorem ok_6 : mF Tryd.prog 6 (eraseF r_cascadelaw03_TreeSame) = true := by kernel_rfl
theorem ok_12 : mF Tryd.prog 12 (eraseF r_cascadelaw03_awake) = true := by kernel_rfl
theorem ok_13 : mF Tryd.prog 13 (eraseF r_cascaderef03_Few) = true := by kernel_rfl
theorem ok_14 : mF Tryd.prog 14 (eraseF r_cascaderef03_Right) = true := by kernel_rfl
theorem ok_17 : mF Tryd.prog 17 (eraseF r_tree_Right) = true := by kernel_rfl
theorem ok_18 : mF Tryd.prog 18 (eraseF r_tree_Count) = true := by kernel_rfl
theorem ok_19 : mF Tryd.prog 19 (eraseF r_cascaderef03_Same) = true := by kernel_rfl
theorem ok_24 : mF Tryd.prog 24 (eraseF r_cascaderef01_Right) = true := by kernel_rfl
theorem ok_26 : mF Tryd.prog 26 (eraseF r_tree_Same) = true := by kernel_rfl
theorem ok_27 : mF Tryd.prog 27 (eraseF r_tree_Alike) = true := by kernel_rfl
theorem ok_28 : mF Tryd.prog 28 (eraseF r_cascaderef03_Sorted) = true := by kernel_rfl
theorem ok_43 : mF Tryd.prog 43 (eraseF r_cascaderef03_few) = true := by kernel_rfl
theorem ok_44 : mF Tryd.prog 44 (eraseF r_cascaderef03_right) = true := by kernel_rfl
theorem ok_46 : mF Tryd.prog 46 (eraseF r_tree_Right_1) = true := by kernel_rfl
theorem ok_47 : mF Tryd.prog 47 (eraseF r_tree_unused) = true := by kernel_rfl
theorem ok_48 : mF Tryd.prog 48 (eraseF r_text_Right) = true := by kernel_rfl
theorem ok_49 : mF Tryd.prog 49 (eraseF r_slices_ContainsFunc__api_Value_api_Value) = true := by kernel_rfl
theorem ok_50 : mF Tryd.prog 50 (eraseF r_tree_Right_1_1) = true := by kernel_rfl
theorem ok_51 : mF Tryd.prog 51 (eraseF r_tree_keys) = true := by kernel_rfl
theorem ok_52 : mF Tryd.prog 52 (eraseF r_slices_ContainsFunc__api_Pair_api_Pair) = true := by kernel_rfl
theorem ok_53 : mF Tryd.prog 53 (eraseF r_tree_Right_1_2) = true := by kernel_rfl
theorem ok_54 : mF Tryd.prog 54 (eraseF r_tree_count) = true := by kernel_rfl
theorem ok_55 : mF Tryd.prog 55 (eraseF r_tree_get) = true := by kernel_rfl
theorem ok_57 : mF Tryd.prog 57 (eraseF r_slices_IndexFunc__api_Pair_api_Pair) = true := by kernel_rfl
theorem ok_59 : mF Tryd.prog 59 (eraseF r_cascaderef01_Bad) = true := by kernel_rfl
theorem ok_60 : mF Tryd.prog 60 (eraseF r_tree_same) = true := by kernel_rfl
theorem ok_61 : mF Tryd.prog 61 (eraseF r_tree_alike) = true := by kernel_rfl
theorem ok_69 : mF Tryd.prog 69 (eraseF r_text_Bad) = true := by kernel_rfl
theorem ok_70 : mF Tryd.prog 70 (eraseF r_slices_IndexFunc__api_Value_api_Value) = true := by kernel_rfl
theorem ok_71 : mF Tryd.prog 71 (eraseF r_cascaderef01_Size) = true := by kernel_rfl
theorem ok_72 : mF Tryd.prog 72 (eraseF r_tree_same_1) = true := by kernel_rfl
theorem ok_73 : mF Tryd.prog 73 (eraseF r_slices_EqualFunc__api_Value__api_Value_api_Value_api_Value) = true := by kernel_rfl
theorem ok_74 : mF Tryd.prog 74 (eraseF r_slices_EqualFunc__api_Pair__api_Pair_api_Pair_api_Pair) = true := by kernel_rfl
theorem ok_76 : mF Tryd.prog 76 (eraseF ({ code := [], res := [], np := 1, ext := some (.pure ext_unicode_utf8_DecodeRuneInString) } : KF)) = true := by kernel_rfl
theorem mixed : Tryd.prog.follows .mixedOrders = true := by kernel_rfl
theorem match_ok : ∀ f rf, oldT table f = some rf → mF Tryd.prog f rf = true := by
  intro f rf h
  unfold oldT at h
  split at h <;> try (cases h; done)
  rename_i kf hk
  cases h
  unfold table at hk
  split at hk
  · cases hk; exact ok_6
  · cases hk; exact ok_12
  · cases hk; exact ok_13
  · cases hk; exact ok_14
  · cases hk; exact ok_17
  · cases hk; exact ok_18
  · cases hk; exact ok_19
  · cases hk; exact ok_24
  · cases hk; exact ok_26
  · cases hk; exact ok_27
  · cases hk; exact ok_28
  · cases hk; exact ok_43
  · cases hk; exact ok_44
  · cases hk; exact ok_46
  · cases hk; exact ok_47
  · cases hk; exact ok_48
  · cases hk; exact ok_49
  · cases hk; exact ok_50
  · cases hk; exact ok_51
  · cases hk; exact ok_52
  · cases hk; exact ok_53
  · cases hk; exact ok_54
  · cases hk; exact ok_55
  · cases hk; exact ok_57
  · cases hk; exact ok_59
  · cases hk; exact ok_60
  · cases hk; exact ok_61
  · cases hk; exact ok_69
  · cases hk; exact ok_70
  · cases hk; exact ok_71
  · cases hk; exact ok_72
  · cases hk; exact ok_73
  · cases hk; exact ok_74
  · cases hk; exact ok_76
  · cases hk
end Go.Abs.T
