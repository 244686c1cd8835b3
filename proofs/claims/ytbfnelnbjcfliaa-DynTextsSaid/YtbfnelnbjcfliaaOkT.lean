import Derived.Test.YtbfnelnbjcfliaaIrT
import Derived.Test.YtbfnelnbjcfliaaProg
import Derived.KernelRfl
namespace Go.Abs.T
open Go.Proofs
theorem ok_3 : mF Try.prog 3 (eraseF r_cascadelaw04_DynTexts) = true := by kernel_rfl
theorem ok_5 : mF Try.prog 5 (eraseF r_cascadelaw04_awake) = true := by kernel_rfl
theorem ok_6 : mF Try.prog 6 (eraseF r_cascaderef03_Few) = true := by kernel_rfl
theorem ok_7 : mF Try.prog 7 (eraseF r_dyn_Texts) = true := by kernel_rfl
theorem ok_8 : mF Try.prog 8 (eraseF r_dyn_Odd) = true := by kernel_rfl
theorem ok_9 : mF Try.prog 9 (eraseF r_cascaderef04_Texts) = true := by kernel_rfl
theorem ok_12 : mF Try.prog 12 (eraseF r_dyn_Kind) = true := by kernel_rfl
theorem ok_13 : mF Try.prog 13 (eraseF r_cascaderef03_few) = true := by kernel_rfl
theorem ok_15 : mF Try.prog 15 (eraseF r_dyn_caught) = true := by kernel_rfl
theorem ok_16 : mF Try.prog 16 (eraseF r_dyn_to) = true := by kernel_rfl
theorem ok_1000014 : mF Try.prog 1000014 (eraseF r_dyn_Texts_1_h) = true := by kernel_rfl
theorem mixed : Try.prog.follows .mixedOrders = true := by kernel_rfl
theorem match_ok : ∀ f rf, oldT table f = some rf → mF Try.prog f rf = true := by
  intro f rf h
  unfold oldT at h
  split at h <;> try (cases h; done)
  rename_i kf hk
  cases h
  unfold table at hk
  split at hk
  · cases hk; exact ok_3
  · cases hk; exact ok_5
  · cases hk; exact ok_6
  · cases hk; exact ok_7
  · cases hk; exact ok_8
  · cases hk; exact ok_9
  · cases hk; exact ok_12
  · cases hk; exact ok_13
  · cases hk; exact ok_15
  · cases hk; exact ok_16
  · cases hk; exact ok_1000014
  · cases hk
end Go.Abs.T
