import Derived.Test.YtbfnelnbjcfliaaDoorIrT
import Derived.Test.YtbfnelnbjcfliaaDoorProg
import Derived.KernelRfl
namespace Go.Abs.T
open Go.Proofs
theorem ok_7 : mF Tryd.prog 7 (eraseF r_cascadelaw04_DynFrom) = true := by kernel_rfl
theorem ok_8 : mF Tryd.prog 8 (eraseF r_cascadelaw04_DynTo) = true := by kernel_rfl
theorem ok_9 : mF Tryd.prog 9 (eraseF r_cascadelaw04_DynGoes) = true := by kernel_rfl
theorem ok_13 : mF Tryd.prog 13 (eraseF r_cascaderef03_Few) = true := by kernel_rfl
theorem ok_14 : mF Tryd.prog 14 (eraseF r_cascaderef03_Right) = true := by kernel_rfl
theorem ok_17 : mF Tryd.prog 17 (eraseF r_tree_Right) = true := by kernel_rfl
theorem ok_19 : mF Tryd.prog 19 (eraseF r_cascaderef03_Same) = true := by kernel_rfl
theorem ok_22 : mF Tryd.prog 22 (eraseF r_cascaderef03_At) = true := by kernel_rfl
theorem ok_24 : mF Tryd.prog 24 (eraseF r_cascaderef01_Right) = true := by kernel_rfl
theorem ok_29 : mF Tryd.prog 29 (eraseF r_cascadelaw04_awake) = true := by kernel_rfl
theorem ok_30 : mF Tryd.prog 30 (eraseF r_dyn_Odd) = true := by kernel_rfl
theorem ok_31 : mF Tryd.prog 31 (eraseF r_dyn_From) = true := by kernel_rfl
theorem ok_32 : mF Tryd.prog 32 (eraseF r_cascaderef04_From) = true := by kernel_rfl
theorem ok_33 : mF Tryd.prog 33 (eraseF r_dyn_Kind) = true := by kernel_rfl
theorem ok_34 : mF Tryd.prog 34 (eraseF r_cascaderef04_Kind) = true := by kernel_rfl
theorem ok_35 : mF Tryd.prog 35 (eraseF r_dyn_To) = true := by kernel_rfl
theorem ok_36 : mF Tryd.prog 36 (eraseF r_dyn_Go) = true := by kernel_rfl
theorem ok_37 : mF Tryd.prog 37 (eraseF r_cascaderef04_Go) = true := by kernel_rfl
theorem ok_43 : mF Tryd.prog 43 (eraseF r_cascaderef03_few) = true := by kernel_rfl
theorem ok_44 : mF Tryd.prog 44 (eraseF r_cascaderef03_right) = true := by kernel_rfl
theorem ok_46 : mF Tryd.prog 46 (eraseF r_tree_Right_1) = true := by kernel_rfl
theorem ok_47 : mF Tryd.prog 47 (eraseF r_tree_unused) = true := by kernel_rfl
theorem ok_48 : mF Tryd.prog 48 (eraseF r_text_Right) = true := by kernel_rfl
theorem ok_49 : mF Tryd.prog 49 (eraseF r_slices_ContainsFunc__api_Value_api_Value) = true := by kernel_rfl
theorem ok_50 : mF Tryd.prog 50 (eraseF r_tree_Right_1_1) = true := by kernel_rfl
theorem ok_51 : mF Tryd.prog 51 (eraseF r_tree_keys) = true := by kernel_rfl
theorem ok_52 : mF Tryd.prog 52 (eraseF r_slices_ContainsFunc__api_Pair_api_Pair) = true := by kernel_rfl
theorem ok_53 : mF Tryd.prog 53 (eraseF r_tree_Right_1_2) = true := by kernel_rfl
theorem ok_57 : mF Tryd.prog 57 (eraseF r_slices_IndexFunc__api_Pair_api_Pair) = true := by kernel_rfl
theorem ok_59 : mF Tryd.prog 59 (eraseF r_cascaderef01_Bad) = true := by kernel_rfl
theorem ok_62 : mF Tryd.prog 62 (eraseF r_dyn_to) = true := by kernel_rfl
theorem ok_63 : mF Tryd.prog 63 (eraseF r_dyn_from) = true := by kernel_rfl
theorem ok_64 : mF Tryd.prog 64 (eraseF r_cascaderef04_Stands) = true := by kernel_rfl
theorem ok_65 : mF Tryd.prog 65 (eraseF r_dyn_member) = true := by kernel_rfl
theorem ok_69 : mF Tryd.prog 69 (eraseF r_text_Bad) = true := by kernel_rfl
theorem ok_70 : mF Tryd.prog 70 (eraseF r_slices_IndexFunc__api_Value_api_Value) = true := by kernel_rfl
theorem ok_71 : mF Tryd.prog 71 (eraseF r_cascaderef01_Size) = true := by kernel_rfl
theorem ok_76 : mF Tryd.prog 76 (eraseF ({ code := [], res := [], np := 1, ext := some (.pure ext_unicode_utf8_DecodeRuneInString) } : KF)) = true := by kernel_rfl
theorem mixed : Tryd.prog.follows .mixedOrders = true := by kernel_rfl
theorem match_ok : ∀ f rf, oldT table f = some rf → mF Tryd.prog f rf = true := by
  intro f rf h
  unfold oldT at h
  split at h <;> try (cases h; done)
  rename_i kf hk
  cases h
  unfold table at hk
  split at hk
  · cases hk; exact ok_7
  · cases hk; exact ok_8
  · cases hk; exact ok_9
  · cases hk; exact ok_13
  · cases hk; exact ok_14
  · cases hk; exact ok_17
  · cases hk; exact ok_19
  · cases hk; exact ok_22
  · cases hk; exact ok_24
  · cases hk; exact ok_29
  · cases hk; exact ok_30
  · cases hk; exact ok_31
  · cases hk; exact ok_32
  · cases hk; exact ok_33
  · cases hk; exact ok_34
  · cases hk; exact ok_35
  · cases hk; exact ok_36
  · cases hk; exact ok_37
  · cases hk; exact ok_43
  · cases hk; exact ok_44
  · cases hk; exact ok_46
  · cases hk; exact ok_47
  · cases hk; exact ok_48
  · cases hk; exact ok_49
  · cases hk; exact ok_50
  · cases hk; exact ok_51
  · cases hk; exact ok_52
  · cases hk; exact ok_53
  · cases hk; exact ok_57
  · cases hk; exact ok_59
  · cases hk; exact ok_62
  · cases hk; exact ok_63
  · cases hk; exact ok_64
  · cases hk; exact ok_65
  · cases hk; exact ok_69
  · cases hk; exact ok_70
  · cases hk; exact ok_71
  · cases hk; exact ok_76
  · cases hk
end Go.Abs.T
