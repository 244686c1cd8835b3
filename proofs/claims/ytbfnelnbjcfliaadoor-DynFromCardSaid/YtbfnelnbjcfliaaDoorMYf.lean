import Derived.Test.YtbfnelnbjcfliaaDoorMY2
/-! The law DynFrom. -/
set_option linter.unusedVariables false
set_option linter.unusedSimpArgs false
namespace Go.Abs.T
open M
theorem DynFrom (v : Val) : p_cascadelaw04_DynFrom v = some true := by
  rcases Few v 60 (by omega) with h | ⟨h, hc, hs⟩
  · obtain ⟨a, b, s, l, f⟩ := v
    show p_cascadelaw04_DynFrom_0 a b s l f = _
    unfold p_cascadelaw04_DynFrom_0 b_cascadelaw04_DynFrom_0
    rw [show ((60 : Nat) : Int) = 60 from rfl] at h
    simp only [awake04, h]
  have h1 := dyn_Odd v (by omega)
  have h2 := From_odd v (by omega) hs
  have h3 := refFrom v (by omega) hs
  have h4 := refKind v (by omega)
  have h5 := cnt_from v
  generalize hx : fromV v = x at h2 h3 h5
  obtain ⟨⟨x0, x1, x2, x3, x4⟩, e⟩ := x
  have h6 := Same_self (.mk x0 x1 x2 x3 x4) (Nat.le_trans h5 (by omega))
  obtain ⟨a, b, s, l, f⟩ := v
  show p_cascadelaw04_DynFrom_0 a b s l f = _
  unfold p_cascadelaw04_DynFrom_0 b_cascadelaw04_DynFrom_0
  rw [show ((60 : Nat) : Int) = 60 from rfl] at h
  simp only [awake04, h, h1, h2, h3, h4, h6, dyn_Kind]
  rw [eql_t rfl, eql_t rfl]
end Go.Abs.T
