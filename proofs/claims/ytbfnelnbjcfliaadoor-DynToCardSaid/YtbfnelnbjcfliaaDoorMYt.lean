import Derived.Test.YtbfnelnbjcfliaaDoorMY2
/-! The law DynTo. -/
set_option linter.unusedVariables false
set_option linter.unusedSimpArgs false
namespace Go.Abs.T
open M
theorem dyn_To (v : Val) (hc : cnt v ≤ 200) (hs : strs v = true) : p_dyn_To v = some (if rR 12 v = true then (tos v, 0) else (.n, 1)) := by
  have h1 := tree_Right v hc hs
  have h2 := dyn_to v hc
  obtain ⟨a, b, s, l, f⟩ := v
  show p_dyn_To_0 a b s l f = _
  unfold p_dyn_To_0 b_dyn_To_0
  simp only [h1, h2]
  cases rR 12 (.mk a b s l f) <;> simp
theorem DynTo (v : Val) : p_cascadelaw04_DynTo v = some true := by
  rcases Few v 60 (by omega) with h | ⟨h, hc, hs⟩
  · obtain ⟨a, b, s, l, f⟩ := v
    show p_cascadelaw04_DynTo_0 a b s l f = _
    unfold p_cascadelaw04_DynTo_0 b_cascadelaw04_DynTo_0
    rw [show ((60 : Nat) : Int) = 60 from rfl] at h
    simp only [awake04, h]
  have h1 := dyn_Odd v (by omega)
  have h2 := From_odd v (by omega) hs
  have h3 := dyn_To v (by omega) hs
  have h4 := refRight v (by omega) hs
  have h6 := Same_self v (by omega)
  cases hr : rR 12 v with
  | false =>
    rw [hr] at h3 h4
    rw [if_neg (by simp)] at h3
    obtain ⟨a, b, s, l, f⟩ := v
    show p_cascadelaw04_DynTo_0 a b s l f = _
    unfold p_cascadelaw04_DynTo_0 b_cascadelaw04_DynTo_0
    rw [show ((60 : Nat) : Int) = 60 from rfl] at h
    simp only [awake04, h, h3, h4]
    rw [eql_t rfl]
  | true =>
    rw [hr] at h3 h4
    rw [if_pos rfl] at h3
    obtain ⟨e1, e2⟩ := right_stn 12 v hr
    have hf : fromV v = (v, 0) := by unfold fromV; rw [e1, if_pos ⟨rfl, hr⟩]
    rw [hf] at h2
    rw [e2] at h3
    have hk : knd (odds v) = v.1 := by
      rw [← e2]
      obtain ⟨k, n, s, l, f⟩ := v
      simp only [rR, headOk, Bool.and_eq_true, decide_eq_true_eq] at hr
      obtain ⟨⟨⟨⟨⟨⟨k1, k2⟩, _⟩, _⟩, _⟩, _⟩, _⟩ := hr
      have : k = 0 ∨ k = 1 ∨ k = 2 ∨ k = 3 ∨ k = 4 ∨ k = 5 := by omega
      rcases this with rfl | rfl | rfl | rfl | rfl | rfl <;> simp [tos, knd]
    obtain ⟨a, b, s, l, f⟩ := v
    replace hk : knd (odds (.mk a b s l f)) = a := hk
    show p_cascadelaw04_DynTo_0 a b s l f = _
    unfold p_cascadelaw04_DynTo_0 b_cascadelaw04_DynTo_0
    rw [show ((60 : Nat) : Int) = 60 from rfl] at h
    simp only [awake04, h, h1, h2, h3, h4, h6, dyn_Kind, hk]
    rw [eql_t rfl, eql_t rfl]
end Go.Abs.T
