import Derived.Test.YtbfnelnbjcfliaaAbs22
import Derived.Test.YtbfnelnbjcfliaaRT
import Derived.Test.YtbfnelnbjcfliaaProg
/-! No function is left to a contract. -/
namespace Go.Abs.T
open Go.Proofs
theorem ext_ok : ∀ f rf e, oldT table f = some rf → rf.ext = some e → XOK Try.prog glob f e := by
  intro f rf e h hx
  unfold oldT at h
  split at h <;> try (cases h; done)
  rename_i kf hk
  cases h
  have hx' : kf.ext = some e := hx
  unfold table at hk
  split at hk <;> first
    | (cases hk; done)
    | (cases hk; cases hx'; done)
end Go.Abs.T
