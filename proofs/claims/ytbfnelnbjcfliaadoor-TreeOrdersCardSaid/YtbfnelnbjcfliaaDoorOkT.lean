import Derived.Test.YtbfnelnbjcfliaaDoorIrT
import Derived.Test.YtbfnelnbjcfliaaDoorProg
import Derived.KernelRfl
namespace Go.Abs.T
open Go.Proofs
theorem ok_11 : mF Tryd.prog 11 (eraseF r_zb) = true := by kernel_rfl
theorem ok_12 : mF Tryd.prog 12 (eraseF r_zg) = true := by kernel_rfl
theorem ok_13 : mF Tryd.prog 13 (eraseF r_zv) = true := by kernel_rfl
theorem ok_14 : mF Tryd.prog 14 (eraseF r_zx) = true := by kernel_rfl
theorem ok_17 : mF Tryd.prog 17 (eraseF r_zcz) = true := by kernel_rfl
theorem ok_18 : mF Tryd.prog 18 (eraseF r_zcs) = true := by kernel_rfl
theorem ok_19 : mF Tryd.prog 19 (eraseF r_zy) = true := by kernel_rfl
theorem ok_20 : mF Tryd.prog 20 (eraseF r_zk) = true := by kernel_rfl
theorem ok_22 : mF Tryd.prog 22 (eraseF r_zs) = true := by kernel_rfl
theorem ok_24 : mF Tryd.prog 24 (eraseF r_zq) = true := by kernel_rfl
theorem ok_26 : mF Tryd.prog 26 (eraseF r_zc6) = true := by kernel_rfl
theorem ok_27 : mF Tryd.prog 27 (eraseF r_zcq) = true := by kernel_rfl
theorem ok_38 : mF Tryd.prog 38 (eraseF r_zcu) = true := by kernel_rfl
theorem ok_40 : mF Tryd.prog 40 (eraseF r_zh) = true := by kernel_rfl
theorem ok_41 : mF Tryd.prog 41 (eraseF r_zj) = true := by kernel_rfl
theorem ok_42 : mF Tryd.prog 42 (eraseF r_zw) = true := by kernel_rfl
theorem ok_43 : mF Tryd.prog 43 (eraseF r_z1) = true := by kernel_rfl
theorem ok_44 : mF Tryd.prog 44 (eraseF r_z2) = true := by kernel_rfl
theorem ok_45 : mF Tryd.prog 45 (eraseF r_zda) = true := by kernel_rfl
theorem ok_46 : mF Tryd.prog 46 (eraseF r_zc0) = true := by kernel_rfl
theorem ok_47 : mF Tryd.prog 47 (eraseF r_zdi) = true := by kernel_rfl
theorem ok_48 : mF Tryd.prog 48 (eraseF r_zcp) = true := by kernel_rfl
theorem ok_49 : mF Tryd.prog 49 (eraseF r_zb1) = true := by kernel_rfl
theorem ok_50 : mF Tryd.prog 50 (eraseF r_zc1) = true := by kernel_rfl
theorem ok_51 : mF Tryd.prog 51 (eraseF r_zde) = true := by kernel_rfl
theorem ok_52 : mF Tryd.prog 52 (eraseF r_zbz) = true := by kernel_rfl
theorem ok_53 : mF Tryd.prog 53 (eraseF r_zc3) = true := by kernel_rfl
theorem ok_54 : mF Tryd.prog 54 (eraseF r_zdc) = true := by kernel_rfl
theorem ok_55 : mF Tryd.prog 55 (eraseF r_zdd) = true := by kernel_rfl
theorem ok_56 : mF Tryd.prog 56 (eraseF r_zdf) = true := by kernel_rfl
theorem ok_57 : mF Tryd.prog 57 (eraseF r_zb8) = true := by kernel_rfl
theorem ok_59 : mF Tryd.prog 59 (eraseF r_zp) = true := by kernel_rfl
theorem ok_60 : mF Tryd.prog 60 (eraseF r_zdg) = true := by kernel_rfl
theorem ok_61 : mF Tryd.prog 61 (eraseF r_zc9) = true := by kernel_rfl
theorem ok_66 : mF Tryd.prog 66 (eraseF r_zcv) = true := by kernel_rfl
theorem ok_67 : mF Tryd.prog 67 (eraseF r_zcc) = true := by kernel_rfl
theorem ok_68 : mF Tryd.prog 68 (eraseF r_zcx) = true := by kernel_rfl
theorem ok_69 : mF Tryd.prog 69 (eraseF r_zco) = true := by kernel_rfl
theorem ok_70 : mF Tryd.prog 70 (eraseF r_zca) = true := by kernel_rfl
theorem ok_71 : mF Tryd.prog 71 (eraseF r_zr) = true := by kernel_rfl
theorem ok_72 : mF Tryd.prog 72 (eraseF r_zdh) = true := by kernel_rfl
theorem ok_73 : mF Tryd.prog 73 (eraseF r_zb5) = true := by kernel_rfl
theorem ok_74 : mF Tryd.prog 74 (eraseF r_zb3) = true := by kernel_rfl
theorem ok_75 : mF Tryd.prog 75 (eraseF r_zci) = true := by kernel_rfl
theorem ok_76 : mF Tryd.prog 76 (eraseF ({ code := [], res := [], np := 1, ext := some (.pure ext_zdj) } : KF)) = true := by kernel_rfl
theorem ok_77 : mF Tryd.prog 77 (eraseF r_zce) = true := by kernel_rfl
theorem ok_78 : mF Tryd.prog 78 (eraseF r_zcm) = true := by kernel_rfl
theorem ok_80 : mF Tryd.prog 80 (eraseF r_zcg) = true := by kernel_rfl
theorem ok_81 : mF Tryd.prog 81 (eraseF r_zck) = true := by kernel_rfl
theorem mixed : Tryd.prog.follows .mixedOrders = true := by kernel_rfl
theorem match_ok : ∀ f rf, oldT table f = some rf → mF Tryd.prog f rf = true := by
  intro f rf h
  unfold oldT at h
  split at h <;> try (cases h; done)
  rename_i kf hk
  cases h
  unfold table at hk
  split at hk
  · cases hk; exact ok_11
  · cases hk; exact ok_12
  · cases hk; exact ok_13
  · cases hk; exact ok_14
  · cases hk; exact ok_17
  · cases hk; exact ok_18
  · cases hk; exact ok_19
  · cases hk; exact ok_20
  · cases hk; exact ok_22
  · cases hk; exact ok_24
  · cases hk; exact ok_26
  · cases hk; exact ok_27
  · cases hk; exact ok_38
  · cases hk; exact ok_40
  · cases hk; exact ok_41
  · cases hk; exact ok_42
  · cases hk; exact ok_43
  · cases hk; exact ok_44
  · cases hk; exact ok_45
  · cases hk; exact ok_46
  · cases hk; exact ok_47
  · cases hk; exact ok_48
  · cases hk; exact ok_49
  · cases hk; exact ok_50
  · cases hk; exact ok_51
  · cases hk; exact ok_52
  · cases hk; exact ok_53
  · cases hk; exact ok_54
  · cases hk; exact ok_55
  · cases hk; exact ok_56
  · cases hk; exact ok_57
  · cases hk; exact ok_59
  · cases hk; exact ok_60
  · cases hk; exact ok_61
  · cases hk; exact ok_66
  · cases hk; exact ok_67
  · cases hk; exact ok_68
  · cases hk; exact ok_69
  · cases hk; exact ok_70
  · cases hk; exact ok_71
  · cases hk; exact ok_72
  · cases hk; exact ok_73
  · cases hk; exact ok_74
  · cases hk; exact ok_75
  · cases hk; exact ok_76
  · cases hk; exact ok_77
  · cases hk; exact ok_78
  · cases hk; exact ok_80
  · cases hk; exact ok_81
  · cases hk
end Go.Abs.T
