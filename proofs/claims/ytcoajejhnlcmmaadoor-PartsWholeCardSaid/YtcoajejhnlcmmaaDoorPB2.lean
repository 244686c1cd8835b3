import Derived.Test.YtcoajejhnlcmmaaDoorPB
/-! A builder's WriteString, at seat A's program. -/
set_option linter.unusedVariables false
namespace Go.Proofs
open Go.RowKit
open Go.Abs (RowOf rowBlk PutTo PutSpec putB)
theorem append_string_at {P : Program} (w : World) (t u ty e : TypeId) (i : TypeInfo) (ht : P.underlying t = some (.slice e)) (hu : P.underlying u = some .string) (hi : P.info? e = some i) (hz : i.zero = some (.int .u8 0))
    (hsize : i.size = 1) (hby : i.bytes = 1) (v : Value) (n : Nat) (xs : List Value) (hown : w.ownsRow 0 e 1 v n xs) (s : ByteArray) (hbytes : n + s.size ≤ 140737488355328) :
    ∃ v' w', (Builtin.append_ #[t, u] ty #[v, .string s]).run P w = .ok v' w' ∧ w'.ownsRow 0 e 1 v' (n + s.size) (xs ++ Lib.strCells s) ∧ w.grownBy w' v.ownBlock ∧
      (s.size = 0 → v' = v) ∧ (v'.ownBlock = v.ownBlock ∨ ∃ g, v'.ownBlock = some g ∧ w.heap.size ≤ g) := by
  have h63 : n + s.size ≤ maxLen := by unfold maxLen; omega
  obtain ⟨v', w', hr, h2, h3, h4⟩ := Lib.run_append_own_string (P := P) w 0 t u ty e i ht hu hi hz hsize hby v n xs hown s h63 hbytes (Nat.zero_le _)
  refine ⟨v', w', hr, h2, h3, ?_⟩
  rcases hown.2 with ⟨rfl, rfl⟩ | ⟨g, cap, cur, rfl, _, hg, hnc, hcm, hcs, htake⟩
  · have hxl : xs = [] := List.eq_nil_of_length_eq_zero (by simpa using hown.1)
    subst hxl
    obtain ⟨v2, w2, hr2, k2, k3, k4⟩ := Lib.run_append_own_string (P := P) w w.heap.size t u ty e i ht hu hi hz hsize hby (.slice none 0 0) 0 [] ⟨rfl, .inl ⟨rfl, rfl⟩⟩ s h63 hbytes (Nat.le_refl _)
    rw [hr] at hr2
    cases hr2
    rcases k2.2 with ⟨rfl, _⟩ | ⟨g, cap, cur, rfl, hb, _⟩
    · exact ⟨fun _ => rfl, .inl rfl⟩
    · exact ⟨fun h => h4.2 ⟨rfl, h⟩, .inr ⟨g, rfl, hb⟩⟩
  · by_cases hroom : n + s.size ≤ cap
    · have := Lib.run_append_room_string (P := P) w t u ty e i ht hu hi hsize g n cap cur hg s hroom (by omega)
      rw [hr] at this
      cases this
      exact ⟨fun h => by rw [h, Nat.add_zero], .inl rfl⟩
    · have := Lib.run_append_grow_string (P := P) w t u ty e i (.int .u8 0) ht hu hi hz ⟨g, 0, none⟩ n cap xs (by rw [hsize]; exact hown.1) (hown.cells (g := g) rfl) s (by omega) (by omega) (by rw [hby]; exact growslice_fits (by omega) (by omega))
      rw [hr] at this
      cases this
      exact ⟨fun h => by omega, .inr ⟨_, rfl, Nat.le_refl _⟩⟩
theorem wpList_append_string_at {P : Program} (w : World) {ops : Array Oper} {rest : List Oper} {o : Oper} {a : Act} {Q : Exit → Act → World → Prop} (hgd : o.guard = none) (sl x : Operand) (t u : TypeId)
    (ho : o.op = .call { callee := .builtin .append, args := #[sl, x], argTypes := #[t, u] }) (e : TypeId) (i : TypeInfo) (ht : P.underlying t = some (.slice e)) (hu : P.underlying u = some .string) (hi : P.info? e = some i) (hz : i.zero = some (.int .u8 0))
    (hsize : i.size = 1) (hby : i.bytes = 1) (v : Value) (n : Nat) (xs : List Value) (hs : a.eval sl = v) (hown : w.ownsRow 0 e 1 v n xs) (s : ByteArray) (hx : a.eval x = .string s) (hbytes : n + s.size ≤ 140737488355328)
    (h : ∀ v' w', w'.ownsRow 0 e 1 v' (n + s.size) (xs ++ Lib.strCells s) → w.grownBy w' v.ownBlock → (s.size = 0 → v' = v) → (v'.ownBlock = v.ownBlock ∨ ∃ g, v'.ownBlock = some g ∧ w.heap.size ≤ g) → wpList P ops Q rest (a.put o.dst v') w') : wpList P ops Q (o :: rest) a w := by
  refine wpList_plain hgd fun K hK => ?_
  obtain ⟨v', w', hr, h2, h3, h4, h5⟩ := append_string_at (P := P) w t u o.type e i ht hu hi hz hsize hby v n xs hown s hbytes
  unfold Oper.wp execOp
  simp only [ho, resolve, invoke, builtin, Sem.run_bind, Sem.run_pure, Result.andThen_ok, List.map_toArray, List.map_cons, List.map_nil, hs, hx, hr]
  exact hK _ _ (h v' w' h2 h3 h4 h5)
theorem own_row2 {E : Nat} {w w1 : World} {v v' : Value} {s t : List UInt8} (h1 : RowOf E w1 v s) (h : w.ownsRow 0 E 1 v' (s ++ t).length (bytesV (s ++ t))) (ht : t = [] → v' = v) : RowOf E w v' (s ++ t) := by
  by_cases e : s ++ t = []
  · obtain ⟨rfl, rfl⟩ := List.append_eq_nil_iff.1 e
    have := ht rfl
    subst this
    rcases h1 with ⟨rfl, _⟩ | ⟨g, cap, c, q0, rfl, _⟩
    · exact .inl ⟨rfl, rfl⟩
    · rcases h.2 with ⟨h0, _⟩ | ⟨g2, cap2, c2, h0, _, k1, k2, k3, k4, k5⟩
      · cases h0
      · cases h0
        exact .inr ⟨_, _, c2, q0, rfl, k1, by omega, by rw [Nat.mul_one] at k5; exact k5, k2, k3⟩
  · exact own_row h e
set_option maxHeartbeats 2000000 in
set_option maxRecDepth 100000 in
theorem Tryd.writeString (t : List UInt8) : PutSpec Tryd.prog 18 42 5 (.string ⟨⟨t⟩⟩) t t.length (.tuple #[.int .i64 t.length, .nilIface]) := by
  intro b p v s w hb hp hrow hne hlen
  obtain ⟨i0, hi, hz⟩ := Option.map_eq_some_iff.1 (show (Tryd.prog.info? 5).map (fun i => (i.zero, i.size, i.bytes)) = some (some (.int .u8 0), 1, 1) by kernel_rfl)
  simp only [Prod.mk.injEq] at hz
  obtain ⟨hz0, hz1, hz2⟩ := hz
  have hlen' : s.length + t.length ≤ 140737488355328 := hlen
  have hts : (⟨⟨t⟩⟩ : ByteArray).size = t.length := rfl
  have e55 : ∀ args w, (callFunc 23 args).run Tryd.prog w = .ok (.enter 23 args) w := enters_of Tryd.func23 (by kernel_rfl) rfl
  go_enter Tryd.func18, (show Tryd.f18.ntmps = 19 by kernel_rfl)
  go_wp2_with (go_at_fn 23; refine (Tryd.copy_any hb hp).mono ?_)
  rintro e w1 ⟨rfl, hw1⟩
  have hb1 : w1.heap[b]? = some (.cells #[.pointer (some ⟨b, 0, none⟩), v] 42 (0, 0)) := by rw [hw1]; exact Go.Abs.putB_same hb
  have hs1 : w.heap.size = w1.heap.size := by rw [hw1]; exact Go.Abs.putB_size.symm
  have ho1 : ∀ k, k ≠ b → w1.heap[k]? = w.heap[k]? := fun k hk => by rw [hw1]; exact Go.Abs.putB_ne hk
  have hos1 : w1.os = w.os ∧ w1.tape = w.tape ∧ w1.output = w.output := by rw [hw1]; exact ⟨rfl, rfl, rfl⟩
  clear hw1
  have hlt : b < w1.heap.size := (Array.getElem?_eq_some_iff.1 hb1).1
  have hrow1 : RowOf 5 w1 v s := by
    rcases hrow with ⟨rfl, rfl⟩ | ⟨g, cap, cc, q0, rfl, q1, q2⟩
    · exact .inl ⟨rfl, rfl⟩
    · exact .inr ⟨g, cap, cc, q0, rfl, by rw [ho1 g (fun e => hne (by simp [rowBlk, e]))]; exact q1, q2⟩
  have c0 : w1.cell? ⟨b, 0, none⟩ = some (.pointer (some ⟨b, 0, none⟩)) := by simp [World.cell?, hb1]
  have c1 : w1.cell? ⟨b, 1, none⟩ = some v := by simp [World.cell?, hb1]
  have hown := row_own hrow1
  go_wp2_with (at_builtin; refine wpList_append_string_at _ rfl _ _ 40 9 rfl 5 i0 Tryd.underlying40 Tryd.underlying9 hi hz0 hz1 hz2 _ _ _ rfl hown ⟨⟨t⟩⟩ rfl ?c4 ?_)
  case c4 => exact hlen'
  intro v' w2 hown' hgrow hsame hat
  have hb2 : w2.heap[b]? = some (.cells #[.pointer (some ⟨b, 0, none⟩), v] 42 (0, 0)) := by
    rw [hgrow.block b hlt (fun e => hne (by rw [e]; cases v <;> rfl))]
    exact hb1
  have d0 : w2.cell? ⟨b, 0, none⟩ = some (.pointer (some ⟨b, 0, none⟩)) := by simp [World.cell?, hb2]
  have d1 : w2.cell? ⟨b, 1, none⟩ = some v := by simp [World.cell?, hb2]
  have f1 : w2.frozen? ⟨b, 1, none⟩ = false := by simp [World.frozen?, hb2]
  have hrow2 : RowOf 5 w2 v' (s ++ t) := by
    refine own_row2 hrow1 ?_ (fun h => hsame (by first | exact h | (rw [h]; rfl) | simp [h]))
    have e : bytesV (s ++ t) = bytesV s ++ Lib.strCells ⟨⟨t⟩⟩ := by
      simp [bytesV, Lib.strCells]
    rw [e, List.length_append]
    exact hown'
  obtain ⟨ao, n2, cap, rfl⟩ : ∃ ao n2 cap, v' = .slice ao n2 cap := by
    rcases hown'.2 with ⟨h0, _⟩ | ⟨g, cap, cur, hv, _⟩
    · exact ⟨_, _, _, h0⟩
    · exact ⟨_, _, _, hv⟩
  go_wp2
  go_ret2
  refine ⟨rfl, ?_⟩
  exact putTo_of (wa := w1) hne hos1 hs1 ho1 ⟨rfl, rfl, rfl, Nat.le_refl _, fun _ _ => rfl⟩ hgrow hlt hb2 hrow2 hat
end Go.Proofs
