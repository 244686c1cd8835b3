import Derived.Test.YtacabmodmbcldaaDoorIrQ
import Derived.Test.YtacabmodmbcldaaDoorProg
import Derived.KernelRfl
namespace Go.Abs.Q
open Go.Proofs
theorem ok_11 : mF Tryd.prog 11 (eraseF r_cascadelaw07_BlockIndents) = true := by kernel_rfl
theorem ok_12 : mF Tryd.prog 12 (eraseF r_cascadelaw07_BlockValues) = true := by kernel_rfl
theorem ok_13 : mF Tryd.prog 13 (eraseF r_cascadelaw07_BlockClean) = true := by kernel_rfl
theorem ok_14 : mF Tryd.prog 14 (eraseF r_cascadelaw07_BlockRaws) = true := by kernel_rfl
theorem ok_42 : mF Tryd.prog 42 (eraseF r_cascadelaw07_awake) = true := by kernel_rfl
theorem ok_43 : mF Tryd.prog 43 (eraseF r_block_Indent) = true := by kernel_rfl
theorem ok_44 : mF Tryd.prog 44 (eraseF r_cascaderef07_Indent) = true := by kernel_rfl
theorem ok_45 : mF Tryd.prog 45 (eraseF r_block_Value) = true := by kernel_rfl
theorem ok_46 : mF Tryd.prog 46 (eraseF r_cascaderef07_Value) = true := by kernel_rfl
theorem ok_47 : mF Tryd.prog 47 (eraseF r_block_Raw) = true := by kernel_rfl
theorem ok_48 : mF Tryd.prog 48 (eraseF r_cascaderef07_Raw) = true := by kernel_rfl
theorem ok_82 : mF Tryd.prog 82 (eraseF r_block_lead) = true := by kernel_rfl
theorem ok_83 : mF Tryd.prog 83 (eraseF r_cascaderef07_first) = true := by kernel_rfl
theorem ok_84 : mF Tryd.prog 84 (eraseF r_text_Lines) = true := by kernel_rfl
theorem ok_85 : mF Tryd.prog 85 (eraseF ({ code := [], res := [], np := 3, ext := some (.pure ext_strings_ReplaceAll) } : KF)) = true := by kernel_rfl
theorem ok_86 : mF Tryd.prog 86 (eraseF r_block_empty) = true := by kernel_rfl
theorem ok_87 : mF Tryd.prog 87 (eraseF ({ code := [], res := [], np := 2, ext := some (.pure ext_strings_Join) } : KF)) = true := by kernel_rfl
theorem ok_88 : mF Tryd.prog 88 (eraseF r_cascaderef01_Lines) = true := by kernel_rfl
theorem ok_89 : mF Tryd.prog 89 (eraseF r_cascaderef07_turned) = true := by kernel_rfl
theorem ok_90 : mF Tryd.prog 90 (eraseF r_block_comes) = true := by kernel_rfl
theorem ok_114 : mF Tryd.prog 114 (eraseF ({ code := [], res := [], np := 2, ext := some (.pure ext_strings_TrimLeft) } : KF)) = true := by kernel_rfl
theorem ok_115 : mF Tryd.prog 115 (eraseF ({ code := [], res := [], np := 2, ext := some (.pure ext_strings_IndexByte) } : KF)) = true := by kernel_rfl
theorem ok_116 : mF Tryd.prog 116 (eraseF ({ code := [], res := [], np := 2, ext := some (.pure ext_strings_HasPrefix) } : KF)) = true := by kernel_rfl
theorem ok_121 : mF Tryd.prog 121 (eraseF ({ code := [], res := [], np := 2, ext := some (.pure ext_strings_Contains) } : KF)) = true := by kernel_rfl
theorem ok_122 : mF Tryd.prog 122 (eraseF ({ code := [], res := [], np := 2, ext := some (.pure ext_strings_HasSuffix) } : KF)) = true := by kernel_rfl
theorem mixed : Tryd.prog.follows .mixedOrders = true := by kernel_rfl
theorem match_ok : ∀ f rf, oldT table f = some rf → mF Tryd.prog f rf = true := by
  intro f rf h
  unfold oldT at h
  split at h <;> try (cases h; done)
  rename_i kf hk
  cases h
  unfold table at hk
  split at hk
  · cases hk; exact ok_11
  · cases hk; exact ok_12
  · cases hk; exact ok_13
  · cases hk; exact ok_14
  · cases hk; exact ok_42
  · cases hk; exact ok_43
  · cases hk; exact ok_44
  · cases hk; exact ok_45
  · cases hk; exact ok_46
  · cases hk; exact ok_47
  · cases hk; exact ok_48
  · cases hk; exact ok_82
  · cases hk; exact ok_83
  · cases hk; exact ok_84
  · cases hk; exact ok_85
  · cases hk; exact ok_86
  · cases hk; exact ok_87
  · cases hk; exact ok_88
  · cases hk; exact ok_89
  · cases hk; exact ok_90
  · cases hk; exact ok_114
  · cases hk; exact ok_115
  · cases hk; exact ok_116
  · cases hk; exact ok_121
  · cases hk; exact ok_122
  · cases hk
end Go.Abs.Q
