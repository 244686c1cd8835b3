import Derived.Test.YtbfnelnbjcfliaaAbs13
/-! Slices that grow. -/
set_option linter.unusedVariables false
set_option linter.unusedSimpArgs false
namespace Go.Abs
section
variable {P : Program} {T : FuncId → Option RF} {G : Nat → Option (List D)} {call : CallF} {iter : (St → Rs) → St → Rs} {ρ : Rho} {F : Blks} {stk : Stk} {w : World} {fr : Fr} {a : Act}

theorem mR_app {op : Op} {esz bytes : Nat} {s x : Opd} (h : mR P op (.app esz bytes s x) = true) : ∃ s' x' argTypes t u e ie zv, op = .call ⟨.builtin .append, #[s', x'], argTypes⟩ ∧ argTypes[0]? = some t ∧ argTypes[1]? = some u ∧ P.underlying t = some (.slice e) ∧
    ((∃ e', P.underlying u = some (.slice e')) ∨ P.underlying u = some .string) ∧ P.info? e = some ie ∧ ie.size = esz ∧ ie.bytes = bytes ∧ 0 < esz ∧ ie.zero = some zv ∧ zv.cells.size = esz ∧ mO s' s = true ∧ mO x' x = true := by
  cases op <;> try (simp only [mR, Bool.false_eq_true] at h; done)
  rename_i c
  obtain ⟨callee, args, argTypes⟩ := c
  cases callee with
  | value f => cases f <;> simp only [mR, Bool.false_eq_true] at h
  | invoke r n => simp only [mR, Bool.false_eq_true] at h
  | builtin b =>
    cases b <;> try (simp only [mR, Bool.false_eq_true] at h; done)
    simp only [mR, Bool.and_eq_true] at h
    obtain ⟨h1, h2⟩ := h
    obtain ⟨s', x', rfl, h3, h4⟩ := map_eval2 h2
    cases ha : argTypes[0]? with
    | none => simp [ha] at h1
    | some t =>
      cases hb : argTypes[1]? with
      | none => simp [ha, hb] at h1
      | some u =>
        simp only [ha, hb] at h1
        cases hu : P.underlying t with
        | none => simp [hu] at h1
        | some d =>
          cases d <;> try (simp [hu] at h1; done)
          rename_i e
          have key : ∀ hyp : (tSz P e esz && tBy P e bytes && decide (0 < esz) && (match P.info? e with | some i => (match i.zero with | some z => z.cells.size == esz | none => false) | none => false)) = true,
              ∃ ie zv, P.info? e = some ie ∧ ie.size = esz ∧ ie.bytes = bytes ∧ 0 < esz ∧ ie.zero = some zv ∧ zv.cells.size = esz := by
            intro hyp
            simp only [Bool.and_eq_true, decide_eq_true_eq] at hyp
            obtain ⟨⟨⟨k1, k2⟩, k3⟩, k4⟩ := hyp
            obtain ⟨ie, g1, g2⟩ := tSz_info k1
            simp only [g1] at k4
            cases hz : ie.zero with
            | none => simp [hz] at k4
            | some zv =>
              simp only [hz, beq_iff_eq] at k4
              unfold tBy at k2
              simp only [g1, beq_iff_eq] at k2
              exact ⟨ie, zv, g1, g2, k2, k3, hz, k4⟩
          cases hv : P.underlying u with
          | none => simp [hu, hv] at h1
          | some d2 =>
            cases d2 <;> simp only [hu, hv, Bool.false_eq_true] at h1
            · obtain ⟨ie, zv, g⟩ := key h1
              exact ⟨s', x', argTypes, t, u, e, ie, zv, rfl, ha, hb, hu, .inr hv, g.1, g.2.1, g.2.2.1, g.2.2.2.1, g.2.2.2.2.1, g.2.2.2.2.2, h3, h4⟩
            · obtain ⟨ie, zv, g⟩ := key h1
              exact ⟨s', x', argTypes, t, u, e, ie, zv, rfl, ha, hb, hu, .inl ⟨_, hv⟩, g.1, g.2.1, g.2.2.1, g.2.2.2.1, g.2.2.2.2.1, g.2.2.2.2.2, h3, h4⟩

/-- What is appended. -/
theorem first_run {x : V} {val : Value} {ys : List D} {esz : Nat} (hok : Ok ρ F stk w) (h0 : 0 < esz) (hv : RV ρ F stk w x val) (h : dataOf (Sys.real T G call iter) stk x = some ys) (hs : allSz esz ys = true) :
    ∃ ws, Re F w esz ys ws ∧ (∀ w1, (Builtin.lenOf val).run P w1 = .ok ys.length w1) ∧ ∀ w1 : World, w1.heap = w.heap → (Builtin.firstCells esz ys.length val).run P w1 = .ok ws.toArray w1 := by
  rcases Re_of_data hok hv h with ⟨s, rfl, rfl⟩ | ⟨a0, c, rfl, hle, hq⟩
  · have hre := row_of_str (F := F) (w := w) s
    have hsz : (⟨⟨s⟩⟩ : ByteArray).size = s.length := rfl
    refine ⟨s.map fun b => Value.int .u8 b.toNat, ?_, fun w1 => ?_, fun w1 _ => ?_⟩
    · cases s with
      | nil => simp [Re]
      | cons b r =>
        have := (allSz_cons hs).2.1
        simp [D.cells] at this
        subst this
        exact hre
    · simp [Builtin.lenOf, hsz]
    · simp only [Builtin.firstCells, Sem.run_pure]
      congr 1
      apply Array.ext'
      simp only [Array.toList_map, List.length_map]
      have : (ByteArray.extract ⟨⟨s⟩⟩ 0 s.length).data.toList = s := by
        simp [List.extract_eq_take_drop]
      rw [this]
  · refine hq.elim (fun hnil => ?_) ?_
    · subst hnil
      refine ⟨[], by simp [Re], fun w1 => by simp [Builtin.lenOf], fun w1 _ => ?_⟩
      cases a0 with
      | none => rfl
      | some ad => simp [Builtin.firstCells, loadCells, loadCellsFrom]
    · rintro ⟨b, o, esz', ws, rfl, hz, hre, hc⟩
      have hre' : Re F w esz ys ws := by
        cases ys with
        | nil => simp only [Re] at hre ⊢; exact hre
        | cons y r =>
          have h1 := (allSz_cons hs)
          simp only [Re] at hre
          obtain ⟨u, ws', hh, g1, g2, g3, g4⟩ := hre
          have := esz_eq g3 (List.all_eq_true.1 g2) g1 h1.2.1
          subst this
          simp only [Re]
          exact ⟨u, ws', hh, g1, g2, g3, g4⟩
      have hlen := Re_len hre'
      refine ⟨ws, hre', fun w1 => by simp [Builtin.lenOf], fun w1 hw1 => ?_⟩
      refine run_firstCells_some (P := P) w1 esz ys.length ⟨b, o, none⟩ ys.length c ws hlen fun j v hj => ?_
      rw [Addr.add_off]
      have := hc j v hj
      rwa [World.cell?_of_block (w := w) (w' := w1) (a := ⟨b, o + j, none⟩) (by rw [hw1])]

section
variable {argTypes : Array TypeId} {t u e ty : TypeId} {ie : TypeInfo} {zv : Value}
/-- append grows. -/
theorem run_app_grow (ht : argTypes[0]? = some t) (hu : argTypes[1]? = some u) (h1 : P.underlying t = some (.slice e)) (h2 : (∃ e', P.underlying u = some (.slice e')) ∨ P.underlying u = some .string) (hi : P.info? e = some ie) (hz : ie.zero = some zv)
    {base : Option Addr} {sLen sCap n : Nat} {x : Value} {olds news : Array Value}
    (hl : ∀ w1, (Builtin.lenOf x).run P w1 = .ok n w1) (ho : (Builtin.firstCells ie.size sLen (.slice base sLen sCap)).run P w.drew = .ok olds w.drew) (hn : (Builtin.firstCells ie.size n x).run P w.drew = .ok news w.drew)
    (hg : sCap < sLen + n) (hroom : (sLen + n) * ie.bytes ≤ room ∧ sLen + n ≤ room) :
    (Builtin.append_ argTypes ty #[.slice base sLen sCap, x]).run P w = .ok (.slice (some ⟨w.heap.size, 0, none⟩) (sLen + n) (grownCap w (sLen + n) sCap e))
      (w.drew.alloc (.cells (olds ++ news ++ Builtin.zeroCells zv.cells (grownCap w (sLen + n) sCap e - (sLen + n))) e)) := by
  have hn' : ¬ (sLen + n ≤ sCap) := by omega
  have h63 : ¬ (9223372036854775807 < ((sLen : Int) + (n : Int))) := by have := hroom.2; simp only [room] at this; omega
  have h48 : ¬ (281474976710656 < Builtin.nextslicecap (sLen + n) sCap * ie.bytes) := by
    have := growslice_fits (bytes := ie.bytes) hg (by simpa [room] using hroom.1)
    omega
  rcases h2 with ⟨e', h2⟩ | h2
  · simp [Builtin.append_, ht, hu, run_underlying h1, run_underlying h2, sizeOf, typeInfo, zeroValue, hi, hz, hl, hn', h63, h48, Question.forced, ho, hn, newRow, grownCap]
  · simp [Builtin.append_, ht, hu, run_underlying h1, run_underlying h2, sizeOf, typeInfo, zeroValue, hi, hz, hl, hn', h63, h48, Question.forced, ho, hn, newRow, grownCap]
theorem run_app_room (ht : argTypes[0]? = some t) (hu : argTypes[1]? = some u) (h1 : P.underlying t = some (.slice e)) (h2 : (∃ e', P.underlying u = some (.slice e')) ∨ P.underlying u = some .string) (hi : P.info? e = some ie)
    {base : Option Addr} {sLen sCap n : Nat} {x : Value} {news : Array Value} {w' : World}
    (hl : ∀ w1, (Builtin.lenOf x).run P w1 = .ok n w1) (hn : (Builtin.firstCells ie.size n x).run P w = .ok news w)
    (hg : sLen + n ≤ sCap) (hst : match base with | some b => (storeCells (b.add (sLen * ie.size)) news.toList).run P w = .ok () w' | none => w' = w) :
    (Builtin.append_ argTypes ty #[.slice base sLen sCap, x]).run P w = .ok (.slice base (sLen + n) sCap) w' := by
  cases base with
  | none =>
    simp only at hst
    subst hst
    rcases h2 with ⟨e', h2⟩ | h2
    · simp [Builtin.append_, ht, hu, run_underlying h1, run_underlying h2, sizeOf, typeInfo, hi, hl, hg, hn]
    · simp [Builtin.append_, ht, hu, run_underlying h1, run_underlying h2, sizeOf, typeInfo, hi, hl, hg, hn]
  | some b =>
    simp only at hst
    rcases h2 with ⟨e', h2⟩ | h2
    · simp [Builtin.append_, ht, hu, run_underlying h1, run_underlying h2, sizeOf, typeInfo, hi, hl, hg, hn, hst]
    · simp [Builtin.append_, ht, hu, run_underlying h1, run_underlying h2, sizeOf, typeInfo, hi, hl, hg, hn, hst]
end

theorem r_app (hok : Ok ρ F stk w) (hG : Glob G F w) (hfr : RFr ρ F stk w fr a.tmps) {o : Oper} {esz bytes : Nat} {sx x : Opd} (hm : mR P o.op (.app esz bytes sx x) = true) {r : Res}
    (he : evR (Sys.real T G call iter) o.dst fr stk (.app esz bytes sx x) = some r) : ORes P ρ F stk w a o r := by
  simp only [evR] at he
  obtain ⟨s', x', argTypes, t, u, e, ie, zv, hop, ht, hu, h1, h2, hi, rfl, rfl, h0, hz, hzs, m1, m2⟩ := mR_app hm
  have hs := ev_sound (T := T) (call := call) (iter := iter) hG hfr m1
  have hx := ev_sound (T := T) (call := call) (iter := iter) hG hfr m2
  split at he <;> try (cases he; done)
  rename_i ys hys
  split at he <;> try (cases he; done)
  rename_i hall
  obtain ⟨ws, k1, k2, k3⟩ := first_run (P := P) hok h0 hx hys hall
  have hwl := Re_len k1
  obtain ⟨dst, op, type, pos, after, guard⟩ := o
  simp only at hop
  subst hop
  have run : ∀ val w', (Builtin.append_ argTypes type #[a.eval s', a.eval x']).run P w = .ok val w' → (execOp a.eval ⟨dst, .call ⟨.builtin .append, #[s', x'], argTypes⟩, type, pos, after, guard⟩).run P w = .ok (.value val) w' := by
    intro val w' h
    obtain ⟨cs, e⟩ := run_builtin (a := a) (b := .append) (args := #[s', x']) (argTypes := argTypes) (dst := dst) (type := type) (pos := pos) (after := after) (guard := guard)
    rw [e]
    simp [builtin, h]
  have zsz : ∀ k, (Builtin.zeroCells zv.cells k).size = k * ie.size := fun k => by rw [size_zeroCells, hzs]
  split at he <;> try (cases he; done)
  · -- none yet
    rename_i hv
    rw [hv] at hs
    simp only [RV, Rv] at hs
    split at he
    · cases he
      refine OV.of_run (v' := .slice none 0 0) (w' := w) (run _ _ ?_) (.inl rfl) rfl (Goes.refl _ _ _ _ _) hok (by simp [RV, Rv])
      rw [hs]
      exact run_app_room (P := P) (n := 0) (news := ws.toArray) ht hu h1 h2 hi k2 (by simpa using k3 w rfl) (Nat.le_refl _) rfl
    · rename_i y yr
      split at he <;> try (cases he; done)
      rename_i hfit
      have hfit' : (yr.length + 1) * ie.bytes ≤ room ∧ yr.length + 1 ≤ room := by simpa [Sys.real] using hfit
      have hg := run_app_grow (P := P) (w := w) (ty := type) (base := none) (sLen := 0) (sCap := 0) (olds := #[]) (news := ws.toArray) ht hu h1 h2 hi hz k2 rfl (k3 w.drew rfl) (by simp) (by simpa using hfit')
      rw [Nat.zero_add] at hg
      have hcap := grownCap_ge w (y :: yr).length 0 e
      refine new_res (cap := grownCap w (y :: yr).length 0 e) (w0 := w.drew) (w' := w.drew.alloc (.cells (#[] ++ ws.toArray ++ Builtin.zeroCells zv.cells (grownCap w (y :: yr).length 0 e - (y :: yr).length)) e)) (val := .slice (some ⟨w.heap.size, 0, none⟩) (y :: yr).length (grownCap w (y :: yr).length 0 e)) hok he (run _ _ (by rw [hs]; exact hg)) rfl rfl rfl rfl rfl rfl rfl (by simp) (fun i hi => heap_alloc_old w.drew _ i hi) (by intro v hv; cases hv) ?_ ?_
      · intro l stk' ρ' hmv hρ
        simp only [RO, hρ]
        refine .inr ⟨_, e, (0, 0), ws, (Builtin.zeroCells zv.cells (grownCap w (y :: yr).length 0 e - (y :: yr).length)).toList, alloc_at w.drew _, noFz_zero, h0, Re.keep (hmv 0).keep _ _ _ k1, by simp, ?_, hcap⟩
        simp only [Array.size_append, zsz, List.size_toArray, hwl]
        simp only [List.size_toArray, List.length_nil, Nat.zero_add]
        rw [← Nat.add_mul]; congr 1; omega
      · intro l stk' ρ' hρ hg
        simp only [RV, hρ]
        exact ⟨0, _, _, hg, ⟨_, _, rfl⟩, Nat.le_refl _, fun _ => ⟨_, _, rfl, hcap, by simp, fun _ => by simp⟩⟩
  · -- one that is ours
    rename_i l g n hv
    rw [hv] at hs
    simp only [RV] at hs
    split at he <;> try (cases he; done)
    rename_i g' esz' xs hgo
    split at he <;> try (cases he; done)
    rename_i hgg
    subst hgg
    split at he <;> try (cases he; done)
    rename_i hn
    split at he <;> try (cases he; done)
    rename_i hes
    subst hes
    split at he <;> try (cases he; done)
    rename_i hfit
    cases he
    have hn' : n = xs.length := hn
    have hfit' : (n + ys.length) * ie.bytes ≤ room ∧ n + ys.length ≤ room := by simpa [Sys.real] using hfit
    obtain ⟨g', esz', xs', hg', _, _, hp⟩ := hs
    rw [hgo] at hg'
    simp only [Option.some.injEq, O.arr.injEq] at hg'
    obtain ⟨rfl, rfl, rfl⟩ := hg'
    obtain ⟨a0, c, hsv, q1, q2, q3⟩ := hp rfl
    rw [Nat.zero_add] at q2
    show OV P ρ F stk w a _ (.msl l (g + 1) 0 (n + ys.length)) (setO stk l (.arr (g + 1) ie.size (xs ++ ys)))
    by_cases hroom : n + ys.length ≤ c
    · -- in place
      by_cases hc0 : c = 0
      · -- nothing is there, nothing is written
        have hy0 : ys = [] := List.eq_nil_of_length_eq_zero (by omega)
        subst hy0
        simp only [Re] at k1
        subst k1
        have hr := run_app_room (P := P) (w := w) (w' := w) (ty := type) (base := a0) (sLen := n) (sCap := c) (n := 0) (news := #[]) ht hu h1 h2 hi (by simpa using k2) (by simpa using k3 w rfl) (by omega) (by clear q3 hsv; cases a0 <;> rfl)
        obtain ⟨g1, g2⟩ := set_sound (o' := .arr (g + 1) ie.size (xs ++ [])) (w' := w) (ρ' := ρ) hok hgo rfl rfl rfl (Nat.le_refl _) (fun b _ hb => rfl) (fun _ _ => rfl) (fun hr => by
          rcases hr with hr | hr
          · cases hr
          · exact absurd (by omega) hr) (by simp [Turned]) (fun v hv => by cases hv) (fun hmv => by
          simp only [RO]
          exact .inl ⟨by omega, by rw [List.append_nil]; exact List.eq_nil_of_length_eq_zero (by omega), h0⟩)
        refine OV.of_run (run _ _ (by rw [hsv]; exact hr)) (.inl rfl) nums_set (g1 _) g2 ?_
        simp only [RV]
        refine ⟨g + 1, ie.size, xs ++ [], getO_set_same hgo, ⟨_, _, rfl⟩, Nat.le_refl _, fun _ => ⟨_, _, rfl, by simp; omega, by simp; omega, fun h => by omega⟩⟩
      · have ha := q3 (by omega)
        rw [Nat.zero_mul] at ha
        subst ha
        have hk0 : (ρ l).cap ≠ 0 := by omega
        obtain ⟨cs, e0, fz, ws0, rest, j1, j2, j3, j4, j5, j6, j7⟩ := (hok.objs l _ hgo).resolve_left fun e => hk0 e.1
        have hw0 := Re_len j4
        have hcs : cs.toList.length = c * ie.size := by simp [j6, q2]
        have hmul : (n + ys.length) * ie.size ≤ c * ie.size := Nat.mul_le_mul_right _ hroom
        rw [Nat.add_mul] at hmul
        have hone : ∀ v ∈ ws, v.oneCell' = true := by
          have : ∀ {ys : List D} {ws : List Value}, Re F w ie.size ys ws → ∀ v ∈ ws, v.oneCell' = true := by
            intro ys
            induction ys with
            | nil => intro ws h; simp only [Re] at h; subst h; intro v hv; cases hv
            | cons y r ih =>
              intro ws h
              simp only [Re] at h
              obtain ⟨u, ws', rfl, _, g2, _, g4⟩ := h
              intro v hv
              rcases List.mem_append.1 hv with hv | hv
              · exact List.all_eq_true.1 g2 v hv
              · exact ih g4 v hv
          exact this k1
        obtain ⟨new, n1, n2⟩ := run_storeAt (P := P) (ρ l).blk (n * ie.size) e0 fz ws 0 cs w j1 j2 (by simp at hcs; omega) hone
        have hr := run_app_room (P := P) (w := w) (ty := type) (base := some ⟨(ρ l).blk, 0, none⟩) (sLen := n) (sCap := c) (n := ys.length) (news := ws.toArray) (w' := putB w (ρ l).blk (.cells new e0 fz)) ht hu h1 h2 hi k2 (k3 w rfl) hroom (by
          simp only [Addr.add_off, Nat.zero_add]
          simpa using n1)
        have hnl : new.size = cs.size := by
          have := congrArg List.length n2
          rw [splice_length (by simp at hcs ⊢; omega)] at this
          simpa using this
        obtain ⟨g1, g2⟩ := set_sound (o' := .arr (g + 1) ie.size (xs ++ ys)) (w' := putB w (ρ l).blk (.cells new e0 fz)) (ρ' := ρ) hok hgo rfl rfl rfl (by rw [putB_size]; exact Nat.le_refl _) (fun b _ hb => putB_ne (hb (.inr hk0))) (fun _ _ => rfl) (fun _ => .inl ⟨rfl, .inr hk0⟩) (by simp [Turned]) (fun v hv => by cases hv) (fun hmv => by
          simp only [RO]
          refine .inr ⟨new, e0, fz, ws0 ++ ws, rest.drop ws.length, putB_same j1, fun j hj => j2 j (by omega), j3, Re_append (Re.keep (hmv 0).keep _ _ _ j4) (Re.keep (hmv 0).keep _ _ _ k1), ?_, by rw [hnl]; exact j6, by simp; omega⟩
          rw [n2, j5]
          have hn0 : n * ie.size = ws0.length := by rw [hw0, hn']
          unfold splice
          rw [Nat.add_zero, hn0, List.take_left, List.drop_append, List.drop_eq_nil_of_le (by omega)]
          simp)
        refine OV.of_run (run _ _ (by rw [hsv]; exact hr)) (.inl rfl) nums_set (g1 _) g2 ?_
        simp only [RV]
        refine ⟨g + 1, ie.size, xs ++ ys, getO_set_same hgo, ⟨_, _, rfl⟩, Nat.le_refl _, fun _ => ⟨_, _, rfl, hroom, by omega, fun _ => by simp⟩⟩
    · -- a new array
      obtain ⟨ws0, j4, jc⟩ : ∃ ws0, Re F w ie.size xs ws0 ∧ (c ≠ 0 → ∃ cs e0 fz rest, w.heap[(ρ l).blk]? = some (.cells cs e0 fz) ∧ cs.toList = ws0 ++ rest) := by
        rcases hok.objs l _ hgo with ⟨e1, e2, _⟩ | ⟨cs, e0, fz, ws0, rest, j1, j2, j3, j4, j5, j6, j7⟩
        · subst e2
          exact ⟨[], by simp [Re], fun hc => absurd (by omega) hc⟩
        · exact ⟨ws0, j4, fun _ => ⟨cs, e0, fz, rest, j1, j5⟩⟩
      have hw0 := Re_len j4
      have hold : ∀ w1 : World, w1.heap = w.heap → (Builtin.firstCells ie.size n (.slice a0 n c)).run P w1 = .ok ws0.toArray w1 := by
        intro w1 hw1
        by_cases hc0 : c = 0
        · have : n = 0 := by omega
          subst this
          have : ws0 = [] := List.eq_nil_of_length_eq_zero (by rw [hw0, ← hn']; simp)
          subst this
          cases a0 with
          | none => rfl
          | some ad => simp [Builtin.firstCells, loadCells, loadCellsFrom]
        · have ha := q3 (by omega)
          rw [Nat.zero_mul] at ha
          subst ha
          obtain ⟨cs, e0, fz, rest, j1, j5⟩ := jc hc0
          refine run_firstCells_some (P := P) w1 ie.size n ⟨(ρ l).blk, 0, none⟩ n c ws0 (by rw [hw0, hn']) fun j v hj => ?_
          rw [Addr.add_off, World.cell?_of_block (w := w) (w' := w1) (a := ⟨(ρ l).blk, 0 + j, none⟩) (by rw [hw1]), cell_of_row w _ _ cs e0 fz j1]
          rw [Nat.zero_add, ← Array.getElem?_toList, j5, List.getElem?_append_left (List.getElem?_eq_some_iff.1 hj).1]
          exact hj
      have hg := run_app_grow (P := P) (w := w) (ty := type) (base := a0) (sLen := n) (sCap := c) (olds := ws0.toArray) (news := ws.toArray) ht hu h1 h2 hi hz k2 (hold w.drew rfl) (k3 w.drew rfl) (by omega) hfit'
      have hcap := grownCap_ge w (n + ys.length) c e
      have hne : ∀ l', upd ρ l ⟨w.heap.size, grownCap w (n + ys.length) c e⟩ l' = if l' = l then ⟨w.heap.size, grownCap w (n + ys.length) c e⟩ else ρ l' := fun _ => rfl
      have hself : upd ρ l ⟨w.heap.size, grownCap w (n + ys.length) c e⟩ l = ⟨w.heap.size, grownCap w (n + ys.length) c e⟩ := by simp [upd]
      obtain ⟨g1, g2⟩ := set_sound (o' := .arr (g + 1) ie.size (xs ++ ys)) (ρ' := upd ρ l ⟨w.heap.size, grownCap w (n + ys.length) c e⟩) (w' := w.drew.alloc (.cells (ws0.toArray ++ ws.toArray ++ Builtin.zeroCells zv.cells (grownCap w (n + ys.length) c e - (n + ys.length))) e)) hok hgo rfl rfl rfl (by simp) (fun b hb _ => heap_alloc_old w.drew _ b hb) (fun l' hl' => by simp [upd, hl']) (fun _ => .inr (by rw [hself]; exact Nat.le_refl _)) (by simp [Turned]) (fun v hv => by cases hv) (fun hmv => by
        simp only [RO, hself]
        refine .inr ⟨_, e, (0, 0), ws0 ++ ws, (Builtin.zeroCells zv.cells (grownCap w (n + ys.length) c e - (n + ys.length))).toList, alloc_at w.drew _, noFz_zero, h0, Re_append (Re.keep (hmv 0).keep _ _ _ j4) (Re.keep (hmv 0).keep _ _ _ k1), by simp, ?_, by simp; omega⟩
        simp only [Array.size_append, zsz, List.size_toArray, hwl, hw0]
        rw [← Nat.add_mul, ← Nat.add_mul]; congr 1; omega)
      refine OV.of_run (run _ _ (by rw [hsv]; exact hg)) (.inl rfl) nums_set (g1 _) g2 ?_
      simp only [RV, hself]
      exact ⟨g + 1, ie.size, xs ++ ys, getO_set_same hgo, ⟨_, _, rfl⟩, Nat.le_refl _, fun _ => ⟨_, _, rfl, hcap, by simp, fun _ => by simp⟩⟩
end
end Go.Abs
