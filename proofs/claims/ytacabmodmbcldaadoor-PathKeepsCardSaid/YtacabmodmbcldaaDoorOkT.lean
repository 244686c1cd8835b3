import Derived.Test.YtacabmodmbcldaaDoorIrT
import Derived.Test.YtacabmodmbcldaaDoorProg
import Derived.KernelRfl
namespace Go.Abs.T
open Go.Proofs
theorem ok_8 : mF Tryd.prog 8 (eraseF r_cascadelaw06_PathKeeps) = true := by kernel_rfl
theorem ok_15 : mF Tryd.prog 15 (eraseF r_cascadelaw06_awake) = true := by kernel_rfl
theorem ok_16 : mF Tryd.prog 16 (eraseF r_cascaderef06_Few) = true := by kernel_rfl
theorem ok_18 : mF Tryd.prog 18 (eraseF r_path_Value) = true := by kernel_rfl
theorem ok_19 : mF Tryd.prog 19 (eraseF r_path_Right) = true := by kernel_rfl
theorem ok_20 : mF Tryd.prog 20 (eraseF r_cascadelaw06_zero) = true := by kernel_rfl
theorem ok_22 : mF Tryd.prog 22 (eraseF r_cascaderef03_Same) = true := by kernel_rfl
theorem ok_24 : mF Tryd.prog 24 (eraseF r_cascaderef06_Same) = true := by kernel_rfl
theorem ok_25 : mF Tryd.prog 25 (eraseF r_cascaderef03_Few) = true := by kernel_rfl
theorem ok_29 : mF Tryd.prog 29 (eraseF r_path_Place) = true := by kernel_rfl
theorem ok_32 : mF Tryd.prog 32 (eraseF r_path_Find) = true := by kernel_rfl
theorem ok_35 : mF Tryd.prog 35 (eraseF r_path_Put) = true := by kernel_rfl
theorem ok_37 : mF Tryd.prog 37 (eraseF r_cascaderef06_Under) = true := by kernel_rfl
theorem ok_50 : mF Tryd.prog 50 (eraseF r_slices_ContainsFunc__api_Step_api_Step) = true := by kernel_rfl
theorem ok_51 : mF Tryd.prog 51 (eraseF r_path_Right_1) = true := by kernel_rfl
theorem ok_52 : mF Tryd.prog 52 (eraseF r_path_right) = true := by kernel_rfl
theorem ok_53 : mF Tryd.prog 53 (eraseF r_tree_Right) = true := by kernel_rfl
theorem ok_54 : mF Tryd.prog 54 (eraseF r_cascaderef03_few) = true := by kernel_rfl
theorem ok_59 : mF Tryd.prog 59 (eraseF r_path_at) = true := by kernel_rfl
theorem ok_60 : mF Tryd.prog 60 (eraseF r_path_Find_1) = true := by kernel_rfl
theorem ok_61 : mF Tryd.prog 61 (eraseF r_tree_Clone) = true := by kernel_rfl
theorem ok_64 : mF Tryd.prog 64 (eraseF r_path_changed) = true := by kernel_rfl
theorem ok_65 : mF Tryd.prog 65 (eraseF r_path_Put_1) = true := by kernel_rfl
theorem ok_68 : mF Tryd.prog 68 (eraseF r_slices_ContainsFunc__api_Value_api_Value) = true := by kernel_rfl
theorem ok_73 : mF Tryd.prog 73 (eraseF r_slices_ContainsFunc__api_Pair_api_Pair) = true := by kernel_rfl
theorem ok_77 : mF Tryd.prog 77 (eraseF r_slices_IndexFunc__api_Pair_api_Pair) = true := by kernel_rfl
theorem ok_92 : mF Tryd.prog 92 (eraseF r_slices_IndexFunc__api_Step_api_Step) = true := by kernel_rfl
theorem ok_93 : mF Tryd.prog 93 (eraseF r_text_Right) = true := by kernel_rfl
theorem ok_94 : mF Tryd.prog 94 (eraseF r_tree_Right_1) = true := by kernel_rfl
theorem ok_95 : mF Tryd.prog 95 (eraseF r_tree_unused) = true := by kernel_rfl
theorem ok_96 : mF Tryd.prog 96 (eraseF r_tree_Right_1_1) = true := by kernel_rfl
theorem ok_97 : mF Tryd.prog 97 (eraseF r_tree_keys) = true := by kernel_rfl
theorem ok_98 : mF Tryd.prog 98 (eraseF r_tree_Right_1_2) = true := by kernel_rfl
theorem ok_102 : mF Tryd.prog 102 (eraseF r_slices_Clone__api_Value_api_Value) = true := by kernel_rfl
theorem ok_103 : mF Tryd.prog 103 (eraseF r_path_at_1) = true := by kernel_rfl
theorem ok_104 : mF Tryd.prog 104 (eraseF r_slices_Clone__api_Pair_api_Pair) = true := by kernel_rfl
theorem ok_105 : mF Tryd.prog 105 (eraseF r_tree_clone) = true := by kernel_rfl
theorem ok_107 : mF Tryd.prog 107 (eraseF r_slices_IndexFunc__api_Value_api_Value) = true := by kernel_rfl
theorem ok_124 : mF Tryd.prog 124 (eraseF r_text_Bad) = true := by kernel_rfl
theorem ok_136 : mF Tryd.prog 136 (eraseF ({ code := [], res := [], np := 1, ext := some (.pure ext_unicode_utf8_DecodeRuneInString) } : KF)) = true := by kernel_rfl
theorem mixed : Tryd.prog.follows .mixedOrders = true := by kernel_rfl
theorem match_ok : ∀ f rf, oldT table f = some rf → mF Tryd.prog f rf = true := by
  intro f rf h
  unfold oldT at h
  split at h <;> try (cases h; done)
  rename_i kf hk
  cases h
  unfold table at hk
  split at hk
  · cases hk; exact ok_8
  · cases hk; exact ok_15
  · cases hk; exact ok_16
  · cases hk; exact ok_18
  · cases hk; exact ok_19
  · cases hk; exact ok_20
  · cases hk; exact ok_22
  · cases hk; exact ok_24
  · cases hk; exact ok_25
  · cases hk; exact ok_29
  · cases hk; exact ok_32
  · cases hk; exact ok_35
  · cases hk; exact ok_37
  · cases hk; exact ok_50
  · cases hk; exact ok_51
  · cases hk; exact ok_52
  · cases hk; exact ok_53
  · cases hk; exact ok_54
  · cases hk; exact ok_59
  · cases hk; exact ok_60
  · cases hk; exact ok_61
  · cases hk; exact ok_64
  · cases hk; exact ok_65
  · cases hk; exact ok_68
  · cases hk; exact ok_73
  · cases hk; exact ok_77
  · cases hk; exact ok_92
  · cases hk; exact ok_93
  · cases hk; exact ok_94
  · cases hk; exact ok_95
  · cases hk; exact ok_96
  · cases hk; exact ok_97
  · cases hk; exact ok_98
  · cases hk; exact ok_102
  · cases hk; exact ok_103
  · cases hk; exact ok_104
  · cases hk; exact ok_105
  · cases hk; exact ok_107
  · cases hk; exact ok_124
  · cases hk; exact ok_136
  · cases hk
end Go.Abs.T
