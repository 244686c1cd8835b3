import Derived.Test.YtacabmodmbcldaaDoorIrT
import Derived.Test.YtacabmodmbcldaaDoorProg
import Derived.KernelRfl
namespace Go.Abs.T
open Go.Proofs
theorem ok_9 : mF Tryd.prog 9 (eraseF r_zg) = true := by kernel_rfl
theorem ok_15 : mF Tryd.prog 15 (eraseF r_zo) = true := by kernel_rfl
theorem ok_16 : mF Tryd.prog 16 (eraseF r_z7) = true := by kernel_rfl
theorem ok_17 : mF Tryd.prog 17 (eraseF r_zbd) = true := by kernel_rfl
theorem ok_18 : mF Tryd.prog 18 (eraseF r_zcz) = true := by kernel_rfl
theorem ok_19 : mF Tryd.prog 19 (eraseF r_zcv) = true := by kernel_rfl
theorem ok_22 : mF Tryd.prog 22 (eraseF r_z3) = true := by kernel_rfl
theorem ok_25 : mF Tryd.prog 25 (eraseF r_z0) = true := by kernel_rfl
theorem ok_29 : mF Tryd.prog 29 (eraseF r_zcs) = true := by kernel_rfl
theorem ok_33 : mF Tryd.prog 33 (eraseF r_z2) = true := by kernel_rfl
theorem ok_34 : mF Tryd.prog 34 (eraseF r_z8) = true := by kernel_rfl
theorem ok_38 : mF Tryd.prog 38 (eraseF r_zcf) = true := by kernel_rfl
theorem ok_39 : mF Tryd.prog 39 (eraseF r_z6) = true := by kernel_rfl
theorem ok_49 : mF Tryd.prog 49 (eraseF r_zx) = true := by kernel_rfl
theorem ok_50 : mF Tryd.prog 50 (eraseF r_zdu) = true := by kernel_rfl
theorem ok_51 : mF Tryd.prog 51 (eraseF r_zcw) = true := by kernel_rfl
theorem ok_52 : mF Tryd.prog 52 (eraseF r_zc8) = true := by kernel_rfl
theorem ok_53 : mF Tryd.prog 53 (eraseF r_zfa) = true := by kernel_rfl
theorem ok_54 : mF Tryd.prog 54 (eraseF r_z4) = true := by kernel_rfl
theorem ok_59 : mF Tryd.prog 59 (eraseF r_zc0) = true := by kernel_rfl
theorem ok_61 : mF Tryd.prog 61 (eraseF r_ze6) = true := by kernel_rfl
theorem ok_62 : mF Tryd.prog 62 (eraseF r_z5) = true := by kernel_rfl
theorem ok_63 : mF Tryd.prog 63 (eraseF r_zbj) = true := by kernel_rfl
theorem ok_64 : mF Tryd.prog 64 (eraseF r_zc4) = true := by kernel_rfl
theorem ok_66 : mF Tryd.prog 66 (eraseF r_zbi) = true := by kernel_rfl
theorem ok_67 : mF Tryd.prog 67 (eraseF r_zbh) = true := by kernel_rfl
theorem ok_68 : mF Tryd.prog 68 (eraseF r_zdw) = true := by kernel_rfl
theorem ok_69 : mF Tryd.prog 69 (eraseF r_zcg) = true := by kernel_rfl
theorem ok_70 : mF Tryd.prog 70 (eraseF r_zch) = true := by kernel_rfl
theorem ok_71 : mF Tryd.prog 71 (eraseF ({ code := [], res := [], np := 1, ext := some (.pure ext_zdr) } : KF)) = true := by kernel_rfl
theorem ok_73 : mF Tryd.prog 73 (eraseF r_zds) = true := by kernel_rfl
theorem ok_77 : mF Tryd.prog 77 (eraseF r_zd2) = true := by kernel_rfl
theorem ok_79 : mF Tryd.prog 79 (eraseF r_zz) = true := by kernel_rfl
theorem ok_91 : mF Tryd.prog 91 (eraseF r_zv) = true := by kernel_rfl
theorem ok_92 : mF Tryd.prog 92 (eraseF r_zd5) = true := by kernel_rfl
theorem ok_93 : mF Tryd.prog 93 (eraseF r_ze5) = true := by kernel_rfl
theorem ok_94 : mF Tryd.prog 94 (eraseF r_zfb) = true := by kernel_rfl
theorem ok_95 : mF Tryd.prog 95 (eraseF r_zfk) = true := by kernel_rfl
theorem ok_96 : mF Tryd.prog 96 (eraseF r_zfc) = true := by kernel_rfl
theorem ok_97 : mF Tryd.prog 97 (eraseF r_zfi) = true := by kernel_rfl
theorem ok_98 : mF Tryd.prog 98 (eraseF r_zfe) = true := by kernel_rfl
theorem ok_102 : mF Tryd.prog 102 (eraseF r_zdn) = true := by kernel_rfl
theorem ok_103 : mF Tryd.prog 103 (eraseF r_zc1) = true := by kernel_rfl
theorem ok_104 : mF Tryd.prog 104 (eraseF r_zdl) = true := by kernel_rfl
theorem ok_105 : mF Tryd.prog 105 (eraseF r_zfh) = true := by kernel_rfl
theorem ok_106 : mF Tryd.prog 106 (eraseF r_zbb) = true := by kernel_rfl
theorem ok_107 : mF Tryd.prog 107 (eraseF r_zd7) = true := by kernel_rfl
theorem ok_123 : mF Tryd.prog 123 (eraseF r_zy) = true := by kernel_rfl
theorem ok_124 : mF Tryd.prog 124 (eraseF r_ze3) = true := by kernel_rfl
theorem ok_136 : mF Tryd.prog 136 (eraseF ({ code := [], res := [], np := 1, ext := some (.pure ext_zfl) } : KF)) = true := by kernel_rfl
theorem mixed : Tryd.prog.follows .mixedOrders = true := by kernel_rfl
theorem match_ok : ∀ f rf, oldT table f = some rf → mF Tryd.prog f rf = true := by
  intro f rf h
  unfold oldT at h
  split at h <;> try (cases h; done)
  rename_i kf hk
  cases h
  unfold table at hk
  split at hk
  · cases hk; exact ok_9
  · cases hk; exact ok_15
  · cases hk; exact ok_16
  · cases hk; exact ok_17
  · cases hk; exact ok_18
  · cases hk; exact ok_19
  · cases hk; exact ok_22
  · cases hk; exact ok_25
  · cases hk; exact ok_29
  · cases hk; exact ok_33
  · cases hk; exact ok_34
  · cases hk; exact ok_38
  · cases hk; exact ok_39
  · cases hk; exact ok_49
  · cases hk; exact ok_50
  · cases hk; exact ok_51
  · cases hk; exact ok_52
  · cases hk; exact ok_53
  · cases hk; exact ok_54
  · cases hk; exact ok_59
  · cases hk; exact ok_61
  · cases hk; exact ok_62
  · cases hk; exact ok_63
  · cases hk; exact ok_64
  · cases hk; exact ok_66
  · cases hk; exact ok_67
  · cases hk; exact ok_68
  · cases hk; exact ok_69
  · cases hk; exact ok_70
  · cases hk; exact ok_71
  · cases hk; exact ok_73
  · cases hk; exact ok_77
  · cases hk; exact ok_79
  · cases hk; exact ok_91
  · cases hk; exact ok_92
  · cases hk; exact ok_93
  · cases hk; exact ok_94
  · cases hk; exact ok_95
  · cases hk; exact ok_96
  · cases hk; exact ok_97
  · cases hk; exact ok_98
  · cases hk; exact ok_102
  · cases hk; exact ok_103
  · cases hk; exact ok_104
  · cases hk; exact ok_105
  · cases hk; exact ok_106
  · cases hk; exact ok_107
  · cases hk; exact ok_123
  · cases hk; exact ok_124
  · cases hk; exact ok_136
  · cases hk
end Go.Abs.T
