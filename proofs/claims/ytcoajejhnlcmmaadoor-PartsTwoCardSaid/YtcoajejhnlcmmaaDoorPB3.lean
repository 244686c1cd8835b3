import Derived.Test.YtcoajejhnlcmmaaDoorPB2
/-! A builder's String, at seat A's program. -/
set_option linter.unusedVariables false
namespace Go.Proofs
open Go.RowKit
open Go.Abs (RowOf rowBlk EndTo EndSpec putB)
set_option maxHeartbeats 2000000 in
set_option maxRecDepth 100000 in
theorem Tryd.text : EndSpec Tryd.prog 19 42 5 := by
  intro b p v s w hb hrow hne
  have c1 : w.drew.cell? ⟨b, 1, none⟩ = some v := by
    have : w.drew.heap[b]? = some (.cells #[p, v] 42 (0, 0)) := hb
    simp [World.cell?, this]
  have mixed : Tryd.prog.follows .mixedOrders = true := by kernel_rfl
  by_cases hs : s = []
  · subst hs
    rcases hrow with ⟨rfl, _⟩ | ⟨g, cap, c, q0, rfl, q1, q2, q3, q4, q5⟩
    · have hSD : (Builtin.unsafeSliceData_ #[40] 53 #[.slice none 0 0]).run Tryd.prog w.drew = .ok (.pointer none) w.drew := Lib.run_unsafeSliceData_nil _ _ _ _ _
      have hUS : (Builtin.unsafeString_ #[53, 3] 9 #[.pointer none, .int .i64 0]).run Tryd.prog w.drew = .ok (.string .empty) w.drew := Lib.run_unsafeString_none _ _ _ _ _
      go_enter Tryd.func19, (show Tryd.f19.ntmps = 14 by kernel_rfl)
      go_wp2
      go_region_o
      all_goals (go_wp2; go_ret; exact ⟨rfl, rfl, rfl, rfl, Nat.le_refl _, fun _ _ _ => rfl⟩)
    · have hSD : (Builtin.unsafeSliceData_ #[40] 53 #[.slice (some ⟨g, 0, none⟩) 0 cap]).run Tryd.prog w.drew = .ok (.pointer (some ⟨g, 0, none⟩)) w.drew := Lib.run_unsafeSliceData_row _ _ _ _ _ _ q0
      have hUS : (Builtin.unsafeString_ #[53, 3] 9 #[.pointer (some ⟨g, 0, none⟩), .int .i64 0]).run Tryd.prog w.drew = .ok (.string .empty) w.drew := Lib.run_unsafeString_none _ _ _ _ _
      have c1' : w.drew.cell? ⟨b, 1, none⟩ = some (.slice (some ⟨g, 0, none⟩) 0 cap) := c1
      clear c1
      go_enter Tryd.func19, (show Tryd.f19.ntmps = 14 by kernel_rfl)
      go_wp2
      go_region_o
      all_goals (go_wp2; go_ret; exact ⟨rfl, rfl, rfl, rfl, Nat.le_refl _, fun _ _ _ => rfl⟩)
  rcases hrow with ⟨_, h0⟩ | ⟨g, cap, c, q0, rfl, q1, q2, q3, q4, q5⟩
  · exact absurd h0 hs
  have hl0 : s.length ≠ 0 := fun h => hs (List.eq_nil_of_length_eq_zero h)
  have hSD : (Builtin.unsafeSliceData_ #[40] 53 #[.slice (some ⟨g, 0, none⟩) s.length cap]).run Tryd.prog w.drew = .ok (.pointer (some ⟨g, 0, none⟩)) w.drew :=
    Lib.run_unsafeSliceData_row _ _ _ _ _ _ (by omega)
  have hUS : (Builtin.unsafeString_ #[53, 3] 9 #[.pointer (some ⟨g, 0, none⟩), .int .i64 s.length]).run Tryd.prog w.drew = .ok (.string ⟨s.toArray⟩) (w.drew.freeze ⟨g, 0, none⟩ s.length) := by
    refine Lib.run_unsafeString_row w.drew 53 3 9 5 Tryd.underlying53 (by kernel_rfl) g c.size (by have : w.drew.heap[g]? = some (.cells c 5 (0, 0)) := q1; simp [World.shape?, this]) s hs (by omega) (by unfold maxLen at q5; omega) ?_
    intro j x hx
    have hg : w.drew.heap[g]? = some (.cells c 5 (0, 0)) := q1
    have h1 : c[j]? = some (.int .u8 x.toNat) := by
      have := congrArg (fun l => l[j]?) q3
      simp only [List.getElem?_take, List.getElem?_map, hx, Option.map_some] at this
      have hj := (List.getElem?_eq_some_iff.1 hx).1
      rw [if_pos hj] at this
      simpa using this
    rw [Go.Abs.Addr.add_off]
    simp [World.cell?, hg, h1]
  go_enter Tryd.func19, (show Tryd.f19.ntmps = 14 by kernel_rfl)
  go_wp2
  go_region_o
  all_goals (go_wp2; go_ret; refine ⟨rfl, ?_⟩)
  all_goals
    refine { os := ?_, tape := ?_, output := ?_, size := ?_, block := ?_ }
    · unfold World.freeze; rw [if_neg hl0]; rfl
    · unfold World.freeze; rw [if_neg hl0]; rfl
    · unfold World.freeze; rw [if_neg hl0]; rfl
    · unfold World.freeze; rw [if_neg hl0]; simp
    · intro k hk hkv
      have hkg : g ≠ k := fun e => hkv (by simp [rowBlk, e])
      unfold World.freeze
      rw [if_neg hl0]
      simp only [Array.getElem?_modify, hkg, if_false]
      rfl
end Go.Proofs
