import Derived.Test.YtcoajejhnlcmmaaOkP
import Derived.Test.YtcoajejhnlcmmaaRP
import Derived.Test.YtcoajejhnlcmmaaAbs22
namespace Go.Abs.P
open Go.Proofs
theorem ext_ok : ∀ f rf e, oldT table f = some rf → rf.ext = some e → XOK Try.prog glob f e := by
  intro f rf e h hx
  unfold oldT at h
  split at h <;> try (cases h; done)
  rename_i kf hk
  cases h
  have hx' : kf.ext = some e := hx
  unfold table at hk
  split at hk <;> first
    | (cases hk; done)
    | (cases hk; cases hx'; done)
end Go.Abs.P
