import Derived.Test.YtbfnelnbjcfliaaIrT
import Derived.Test.YtbfnelnbjcfliaaProg
import Derived.KernelRfl
namespace Go.Abs.T
open Go.Proofs
theorem ok_4 : mF Try.prog 4 (eraseF r_cascadelaw04_DynSums) = true := by kernel_rfl
theorem ok_5 : mF Try.prog 5 (eraseF r_cascadelaw04_awake) = true := by kernel_rfl
theorem ok_6 : mF Try.prog 6 (eraseF r_cascaderef03_Few) = true := by kernel_rfl
theorem ok_8 : mF Try.prog 8 (eraseF r_dyn_Odd) = true := by kernel_rfl
theorem ok_10 : mF Try.prog 10 (eraseF r_dyn_Sum) = true := by kernel_rfl
theorem ok_11 : mF Try.prog 11 (eraseF r_cascaderef04_Sum) = true := by kernel_rfl
theorem ok_12 : mF Try.prog 12 (eraseF r_dyn_Kind) = true := by kernel_rfl
theorem ok_13 : mF Try.prog 13 (eraseF r_cascaderef03_few) = true := by kernel_rfl
theorem ok_15 : mF Try.prog 15 (eraseF r_dyn_caught) = true := by kernel_rfl
theorem ok_16 : mF Try.prog 16 (eraseF r_dyn_to) = true := by kernel_rfl
theorem ok_18 : mF Try.prog 18 (eraseF r_dyn_sum) = true := by kernel_rfl
theorem ok_19 : mF Try.prog 19 (eraseF r_dyn_within) = true := by kernel_rfl
theorem ok_1000017 : mF Try.prog 1000017 (eraseF r_dyn_Sum_1_h) = true := by kernel_rfl
theorem mixed : Try.prog.follows .mixedOrders = true := by kernel_rfl
theorem match_ok : ∀ f rf, oldT table f = some rf → mF Try.prog f rf = true := by
  intro f rf h
  unfold oldT at h
  split at h <;> try (cases h; done)
  rename_i kf hk
  cases h
  unfold table at hk
  split at hk
  · cases hk; exact ok_4
  · cases hk; exact ok_5
  · cases hk; exact ok_6
  · cases hk; exact ok_8
  · cases hk; exact ok_10
  · cases hk; exact ok_11
  · cases hk; exact ok_12
  · cases hk; exact ok_13
  · cases hk; exact ok_15
  · cases hk; exact ok_16
  · cases hk; exact ok_18
  · cases hk; exact ok_19
  · cases hk; exact ok_1000017
  · cases hk
end Go.Abs.T
