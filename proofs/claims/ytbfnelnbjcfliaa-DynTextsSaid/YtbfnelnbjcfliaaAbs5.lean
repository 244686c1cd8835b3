import Derived.Test.YtbfnelnbjcfliaaAbs4
/-! The quiet operations are the model's. -/
set_option linter.unusedVariables false
set_option linter.unusedSimpArgs false
namespace Go.Abs
section
variable {P : Program} {w : World}
theorem run_size {t : TypeId} {n : Nat} (h : tSz P t n = true) : (sizeOf t).run P w = .ok n w := by
  unfold tSz at h
  split at h
  · rename_i i hi
    simp only [beq_iff_eq] at h
    simp [sizeOf, typeInfo, hi, h]
  · cases h
theorem tSz_info {t : TypeId} {n : Nat} (h : tSz P t n = true) : ∃ i, P.info? t = some i ∧ i.size = n := by
  unfold tSz at h
  split at h
  · rename_i i hi; exact ⟨i, hi, by simpa using h⟩
  · cases h
theorem run_isAgg {t : TypeId} {b : Bool} (h : tAgg P t = b) (hk : tKnown P t = true) : (isAgg t).run P w = .ok b w := by
  unfold tKnown at hk
  obtain ⟨d, hd⟩ := Option.isSome_iff_exists.1 hk
  unfold tAgg at h
  rw [hd] at h
  unfold isAgg
  rw [Sem.run_bind, run_underlying hd w]
  subst h
  cases d <;> simp
theorem Addr.add_off (b o j : Nat) : (⟨b, o, none⟩ : Addr).add j = ⟨b, o + j, none⟩ := by unfold Addr.add; split <;> simp_all
theorem run_loadC {b o : Nat} {ws : List Value} (h : Cells w b o ws) : (loadCells ⟨b, o, none⟩ ws.length).run P w = .ok ws.toArray w :=
  run_loadCells_list (P := P) w ⟨b, o, none⟩ ws (fun j v hv => by rw [Addr.add_off]; exact h j v hv)
def varOf (agg : Bool) (ws : List Value) : Value := match agg, ws with | true, ws => .agg ws.toArray | false, v :: _ => v | false, [] => undef
/-- A variable that is read. -/
theorem run_loadV {t : TypeId} {agg : Bool} {b o : Nat} {ws : List Value} (ha : tAgg P t = agg) (hk : tKnown P t = true) (hs : tSz P t ws.length = true) (h1 : (agg || ws.length == 1) = true) (h : Cells w b o ws) :
    (loadVar t ⟨b, o, none⟩).run P w = .ok (varOf agg ws) w := by
  unfold loadVar
  rw [Sem.run_bind, run_isAgg ha hk]
  cases agg with
  | true =>
    simp only [Result.andThen_ok, if_true, Sem.run_bind, run_size hs, run_loadC h]
    rfl
  | false =>
    simp only [Bool.false_or, beq_iff_eq] at h1
    match ws, h1 with
    | [v], _ =>
      have := h 0 v rfl
      simp only [Nat.add_zero] at this
      simp [this, varOf]
theorem run_zero {t : TypeId} {z : D} (F : Blks) (h : tZero P t z = true) : ∃ v, (zeroValue t).run P w = .ok v w ∧ Rv F w z v := by
  unfold tZero at h
  split at h
  · rename_i i hi
    split at h
    · rename_i v hv
      exact ⟨v, by simp [zeroValue, typeInfo, hi, hv], isDv_sound F w v z h⟩
    · cases h
  · cases h
theorem run_zeros {t : TypeId} {z : List D} (F : Blks) (h : tZeros P t z = true) : ∃ v, (zeroValue t).run P w = .ok v w ∧ Rl F w z v.cells.toList := by
  unfold tZeros at h
  split at h
  · rename_i i hi
    split at h
    · rename_i v hv
      simp only [Bool.and_eq_true] at h
      exact ⟨v, by simp [zeroValue, typeInfo, hi, hv], isDl_sound F w _ z h.1 h.2⟩
    · cases h
  · cases h
end

section
variable {P : Program} {T : FuncId → Option RF} {G : Nat → Option (List D)} {call : CallF} {iter : (St → Rs) → St → Rs} {ρ : Rho} {F : Blks} {stk : Stk} {w : World} {fr : Fr} {a : Act}

/-- An element of a row. -/
theorem Re_at {esz : Nat} : ∀ {xs : List D} {ws : List Value} {i : Nat} {x : D}, Re F w esz xs ws → xs[i]? = some x →
    ∃ u, u.cells.size = esz ∧ (∀ c ∈ u.cells.toList, c.oneCell' = true) ∧ Rv F w x u ∧ (ws.drop (i * esz)).take esz = u.cells.toList
  | [], ws, i, x, h, hx => by simp at hx
  | y :: r, ws, 0, x, h, hx => by
    simp only [Re] at h
    obtain ⟨u, ws', rfl, h1, h2, h3, _⟩ := h
    simp only [List.getElem?_cons_zero, Option.some.injEq] at hx
    subst hx
    refine ⟨u, h1, List.all_eq_true.1 h2, h3, ?_⟩
    have : u.cells.toList.length = esz := by simpa using h1
    simp [← this]
  | y :: r, ws, i + 1, x, h, hx => by
    simp only [Re] at h
    obtain ⟨u, ws', rfl, h1, h2, h3, h4⟩ := h
    simp only [List.getElem?_cons_succ] at hx
    obtain ⟨u', g1, g2, g3, g4⟩ := Re_at h4 hx
    refine ⟨u', g1, g2, g3, ?_⟩
    have hl : u.cells.toList.length = esz := by simpa using h1
    rw [← g4]
    congr 1
    rw [List.drop_append, hl]
    have : (i + 1) * esz = esz + i * esz := by rw [Nat.add_mul]; omega
    rw [List.drop_eq_nil_of_le (by omega), this]
    simp
theorem Re_len {esz : Nat} : ∀ {xs : List D} {ws : List Value}, Re F w esz xs ws → ws.length = xs.length * esz
  | [], ws, h => by simp only [Re] at h; simp [h]
  | y :: r, ws, h => by
    simp only [Re] at h
    obtain ⟨u, ws', rfl, h1, h2, h3, h4⟩ := h
    have hl : u.cells.toList.length = esz := by simpa using h1
    simp only [List.length_append, hl, Re_len h4, List.length_cons, Nat.add_mul]
    omega
theorem Rv_cells {x : D} {u : Value} (h : Rv F w x u) (h1 : ∀ c ∈ u.cells.toList, c.oneCell' = true) : Rl F w x.cells u.cells.toList := by
  have one : u.oneCell' = true → u.cells.toList = [u] := by cases u <;> simp [Value.oneCell', Value.cells]
  cases x
  case agg cs =>
    simp only [Rv] at h
    obtain ⟨us, rfl, hl⟩ := h
    simpa [D.cells, Value.cells] using hl
  case tup cs =>
    simp only [Rv] at h
    obtain ⟨us, rfl, hl⟩ := h
    have := h1 (.tuple us) (by simp [Value.cells])
    simp [Value.oneCell'] at this
  all_goals
    have hone := Rv_one h (by simp) (by simp)
    simp only [D.cells, one hone, Rl]
    exact ⟨u, [], rfl, hone, h, rfl⟩

theorem Cells_of_row {b : Nat} {c : Array Value} {e : TypeId} {fz : Nat × Nat} {o sz : Nat} (hg : w.heap[b]? = some (.cells c e fz)) : Cells w b o ((c.toList.drop o).take sz) := by
  intro j u hj
  rw [cell_of_row w b (o + j) c e fz hg]
  rw [List.getElem?_take] at hj
  split at hj
  · rw [List.getElem?_drop] at hj; simpa using hj
  · cases hj
theorem Cells.seg {b o : Nat} {ws : List Value} (h : Cells w b o ws) (k sz : Nat) : Cells w b (o + k) ((ws.drop k).take sz) := by
  intro j u hj
  rw [List.getElem?_take] at hj
  split at hj
  · rw [List.getElem?_drop] at hj
    have := h (k + j) u hj
    rw [Nat.add_assoc]; exact this
  · cases hj

/-- What a pointer leads to. -/
theorem cellsAt_sound (hok : Ok ρ F stk w) {sz : Nat} {v : V} {val : Value} {cs : List V} (hv : RV ρ F stk w v val) (h : cellsAt (Sys.real T G call iter) stk sz v = some cs) :
    ∃ b o ws, val = .pointer (some ⟨b, o, none⟩) ∧ Cells w b o ws ∧ ws.length = sz ∧ RVl ρ F stk w cs ws := by
  cases v <;> simp only [cellsAt] at h <;> try (cases h; done)
  case d x =>
    cases x <;> simp only at h <;> try (cases h; done)
    rename_i ds
    split at h <;> try (cases h; done)
    rename_i hle
    cases h
    simp only [RV, Rv] at hv
    obtain ⟨b, o, ws, rfl, hb, hl, hc⟩ := hv
    refine ⟨b, o, ws.take sz, rfl, ?_, ?_, ?_⟩
    · have := hc.seg 0 sz
      simpa using this
    · simp only [List.length_take, Rl_len hl]; omega
    · exact RVl_of_Rl (Rl_take sz hl)
  case ref l o =>
    split at h <;> try (cases h; done)
    rename_i cs0 hg
    split at h <;> try (cases h; done)
    rename_i hle
    cases h
    simp only [RV] at hv
    obtain ⟨rfl, _⟩ := hv
    obtain ⟨c, e, h1, h2⟩ := hok.objs l _ hg
    refine ⟨(ρ l).blk, o, (c.toList.drop o).take sz, rfl, Cells_of_row h1, ?_, RVl_take sz (RVl_drop o h2)⟩
    have := RVl_len h2
    simp only [List.length_take, List.length_drop]; omega
  case eref l g i o =>
    split at h <;> try (cases h; done)
    rename_i g' esz xs hg
    split at h <;> try (cases h; done)
    rename_i heq
    subst heq
    split at h <;> try (cases h; done)
    rename_i x hx
    split at h <;> try (cases h; done)
    rename_i hle
    cases h
    simp only [RV] at hv
    obtain ⟨g', esz', xs', hg', _, _, hp⟩ := hv
    rw [hg] at hg'
    simp only [Option.some.injEq, O.arr.injEq] at hg'
    obtain ⟨rfl, rfl, rfl⟩ := hg'
    obtain ⟨_, c, e, fz, ws, rest, h1, h2, h3, h4, h5, h6, h7⟩ := RO_arr (hok.objs l _ hg) (ne_get (show xs[i]? = some x from hx))
    obtain ⟨u, g1, g2, g3, g4⟩ := Re_at h4 (show xs[i]? = some x from hx)
    have hcl : Rl F w x.cells u.cells.toList := Rv_cells g3 g2
    have hul : u.cells.toList.length = esz := by simpa using g1
    have hxl := Rl_len hcl
    have hws := Re_len h4
    have hi : i < xs.length := by
      have hx' : xs[i]? = some x := hx
      exact (List.getElem?_eq_some_iff.1 hx').1
    have hseg : (c.toList.drop (i * esz)).take esz = u.cells.toList := by
      rw [h5, ← g4]
      have hmul : (i + 1) * esz ≤ xs.length * esz := Nat.mul_le_mul_right _ hi
      rw [Nat.add_mul, Nat.one_mul] at hmul
      rw [List.drop_append_of_le_length (by omega), List.take_append_of_le_length (by simp; omega)]
    refine ⟨(ρ l).blk, i * esz + o, (u.cells.toList.drop o).take sz, hp rfl, ?_, ?_, RVl_of_Rl (Rl_take sz (Rl_drop o hcl))⟩
    · have := (Cells_of_row (o := i * esz) (sz := esz) h1).seg o sz
      rw [hseg] at this
      exact this
    · simp only [List.length_take, List.length_drop]; omega

/-- What a quiet operation gives. -/
def QR (P : Program) (ρ : Rho) (F : Blks) (stk : Stk) (w : World) (v : V) (s : Sem Next) : Prop :=
  ∃ F' w' v', s.run P w = .ok (.value v') w' ∧ (∀ m, Goes m ρ F stk w ρ F' stk w') ∧ Ok ρ F' stk w' ∧ RV ρ F' stk w' v v'
theorem QR.same (hok : Ok ρ F stk w) {v : V} {v' : Value} {s : Sem Next} (hs : s.run P w = .ok (.value v') w) (hv : RV ρ F stk w v v') : QR P ρ F stk w v s :=
  ⟨F, w, v', hs, fun m => Goes.refl m ρ F stk w, hok, hv⟩

theorem q_load (hok : Ok ρ F stk w) (hG : Glob G F w) (hfr : RFr ρ F stk w fr a.tmps) {o : Oper} {agg : Bool} {sz : Nat} {y : Opd} (hm : mR P o.op (.load agg sz y) = true) {v : V}
    (he : evQ (Sys.real T G call iter) stk fr (.load agg sz y) = some v) : QR P ρ F stk w v (execOp a.eval o) := by
  obtain ⟨dst, op, type, pos, after, guard⟩ := o
  cases op <;> simp only [mR, Bool.false_eq_true] at hm
  rename_i t x
  simp only [Bool.and_eq_true, beq_iff_eq] at hm
  obtain ⟨⟨⟨⟨h1, h2⟩, h3⟩, h4⟩, h5⟩ := hm
  simp only [evQ] at he
  split at he <;> try (cases he; done)
  rename_i cs hcs
  obtain ⟨b, o, ws, hp, hc, hl, hr⟩ := cellsAt_sound hok (ev_sound hG hfr h5) hcs
  subst hl
  have hrun := run_loadV (P := P) h1 h2 h3 h4 hc
  refine QR.same hok (v' := varOf agg ws) ?_ ?_
  · simp only [execOp, Instr.loadAt, hp, Instr.sureAddr, Sem.run_bind, Sem.run_pure, Result.andThen_ok, hrun]
  · cases agg with
    | true =>
      simp only [oneOf, Option.some.injEq] at he
      subst he
      exact mkAgg_sound hr
    | false =>
      simp only [oneOf] at he
      split at he <;> try (cases he; done)
      cases he
      simp only [RVl] at hr
      obtain ⟨u, us', rfl, _, hu, rfl⟩ := hr
      exact hu

/-! ### What stays, and new memory that nobody writes -/
theorem has_lv (hf : Falls stk) {l : Lab} (h : has ρ stk l) : l.lv ≤ topN stk := by
  obtain ⟨o, ho, _⟩ := h
  exact getO_lv hf ho
theorem Ok.stays (hok : Ok ρ F stk w) {F' : Blks} {w' : World} (hk : Keep F F' w w') (hown : ∀ l, has ρ stk l → w'.heap[(ρ l).blk]? = w.heap[(ρ l).blk]?)
    (hsep : ∀ l, has ρ stk l → ¬ F' (ρ l).blk) (hlt : ∀ b, F' b → b < w'.heap.size) : Ok ρ F' stk w' where
  objs l o hl := by
    have hm : Moves (topN stk + 1) ρ F stk w ρ F' stk w' := ⟨hk, fun l o _ h => ⟨o, h, Turned.refl ρ l o⟩⟩
    refine RO.moves hm (fun v hv => ?_) rfl (fun hr => hown l (has_of hl hr)) (hok.objs l o hl)
    exact (upto_mono (getO_lv hok.falls hl)).1 v (hok.scope l o hl v hv)
  inj := hok.inj
  sep := hsep
  lt := hlt
  falls := hok.falls
  scope := hok.scope
theorem RO_lt {l : Lab} {o : O} (h : RO ρ F stk w l o) (hr : o.real ρ l) : (ρ l).blk < w.heap.size := by
  cases o <;> simp only [RO] at h
  · obtain ⟨c, e, h1, _⟩ := h; exact (Array.getElem?_eq_some_iff.1 h1).1
  · rcases h with h | h
    · rcases hr with hr | hr
      · cases hr
      · exact absurd h.1 hr
    obtain ⟨c, e, fz, ws, rest, h1, _⟩ := h; exact (Array.getElem?_eq_some_iff.1 h1).1
  · obtain ⟨ents, h1, _⟩ := h; exact (Array.getElem?_eq_some_iff.1 h1).1
  · exact (Array.getElem?_eq_some_iff.1 h).1
  · obtain ⟨u, h1, _⟩ := h; exact (Array.getElem?_eq_some_iff.1 h1).1
  · rcases h with h | ⟨c, h1, _⟩
    · rcases hr with hr | hr
      · cases hr
      · exact absurd h.1 hr
    exact (Array.getElem?_eq_some_iff.1 h1).1
theorem Ok.blk_lt (hok : Ok ρ F stk w) {l : Lab} (h : has ρ stk l) : (ρ l).blk < w.heap.size := by
  obtain ⟨o, ho, hr⟩ := h
  exact RO_lt (hok.objs l o ho) hr
def plus (F : Blks) (n : Nat) : Blks := fun b => F b ∨ b = n
theorem alloc_imm (hok : Ok ρ F stk w) (w0 : World) (h0 : w0.heap = w.heap) (h1 : w0.os = w.os) (h2 : w0.tape = w.tape) (h3 : w0.output = w.output) (ob : Obj) :
    (∀ m, Goes m ρ F stk w ρ (plus F w.heap.size) stk (w0.alloc ob)) ∧ Ok ρ (plus F w.heap.size) stk (w0.alloc ob) := by
  have hold : ∀ i, i < w.heap.size → (w0.alloc ob).heap[i]? = w.heap[i]? := fun i hi => by rw [heap_alloc_old w0 ob i (by rw [h0]; exact hi), h0]
  have hsz : (w0.alloc ob).heap.size = w.heap.size + 1 := by rw [World.size_alloc, h0]
  refine ⟨fun m => ?_, ?_⟩
  · exact { os := h1, tape := h2, output := h3, size := by omega, frame := fun b hb _ => hold b hb, sub := fun b hb => .inl hb,
            new := fun b hb => hb.imp id fun e => .inl (by omega), own := fun l hl => .inr ⟨l, hl, rfl⟩, evol := fun l o _ hl => ⟨o, hl, Turned.refl ρ l o⟩ }
  · refine hok.stays ⟨fun b hb => .inl hb, fun b hb => hold b (hok.lt b hb)⟩ (fun l hl => hold _ (hok.blk_lt hl)) (fun l hl h => ?_) (fun b hb => ?_)
    · rcases h with h | h
      · exact hok.sep l hl h
      · have := hok.blk_lt hl; omega
    · rcases hb with hb | hb
      · have := hok.lt b hb; omega
      · omega

theorem flat_cells {x : V} {v : Value} (hf : V.flat x = true) (h : RV ρ F stk w x v) : RVl ρ F stk w x.cells v.cells.toList := by
  have one : v.oneCell' = true → v.cells.toList = [v] := by cases v <;> simp [Value.oneCell', Value.cells]
  cases x
  case dead => simp [V.flat] at hf
  case tup cs => simp [V.flat] at hf
  case d x =>
    simp only [RV] at h
    simp only [V.cells]
    apply RVl_of_Rl
    cases x
    case agg cs =>
      simp only [Rv] at h
      obtain ⟨us, rfl, hl⟩ := h
      simpa [D.cells, Value.cells] using hl
    case tup cs => simp [V.flat, D.flat] at hf
    all_goals
      have hone := Rv_one h (by simp) (by simp)
      simp only [D.cells, one hone, Rl]
      exact ⟨v, [], rfl, hone, h, rfl⟩
  case agg cs =>
    simp only [RV] at h
    obtain ⟨us, rfl, hl⟩ := h
    simpa [V.cells, Value.cells] using hl
  all_goals
    have hone : v.oneCell' = true := by
      simp only [RV] at h
      first
        | (obtain ⟨rfl, _⟩ := h; rfl)
        | (obtain ⟨_, rfl, _⟩ := h; rfl)
        | (obtain ⟨_, _, rfl, _⟩ := h; rfl)
        | (obtain ⟨_, _, _, _, ⟨_, _, rfl⟩, _⟩ := h; rfl)
    simp only [V.cells, one hone, RVl]
    exact ⟨v, [], rfl, hone, h, rfl⟩
theorem dflat_cells {x : D} {v : Value} (hf : D.flat x = true) (h : Rv F w x v) : Rl F w x.cells v.cells.toList := by
  have one : v.oneCell' = true → v.cells.toList = [v] := by cases v <;> simp [Value.oneCell', Value.cells]
  cases x
  case agg cs =>
    simp only [Rv] at h
    obtain ⟨us, rfl, hl⟩ := h
    simpa [D.cells, Value.cells] using hl
  case tup cs => simp [D.flat] at hf
  all_goals
    have hone := Rv_one h (by simp) (by simp)
    simp only [D.cells, one hone, Rl]
    exact ⟨v, [], rfl, hone, h, rfl⟩

/-! ### The operations -/
theorem q_move (hok : Ok ρ F stk w) (hG : Glob G F w) (hfr : RFr ρ F stk w fr a.tmps) {o : Oper} {y : Opd} (hm : mR P o.op (.move y) = true) {v : V}
    (he : evQ (Sys.real T G call iter) stk fr (.move y) = some v) : QR P ρ F stk w v (execOp a.eval o) := by
  obtain ⟨dst, op, type, pos, after, guard⟩ := o
  simp only [evQ, Option.some.injEq] at he
  subst he
  cases op <;> simp only [mR, Bool.false_eq_true] at hm
  · exact QR.same hok rfl (ev_sound hG hfr hm)
  · exact QR.same hok rfl (ev_sound hG hfr hm)
theorem q_pick (hok : Ok ρ F stk w) (hG : Glob G F w) (hfr : RFr ρ F stk w fr a.tmps) {o : Oper} {c x y : Opd} (hm : mR P o.op (.pick c x y) = true) {v : V}
    (he : evQ (Sys.real T G call iter) stk fr (.pick c x y) = some v) : QR P ρ F stk w v (execOp a.eval o) := by
  obtain ⟨dst, op, type, pos, after, guard⟩ := o
  cases op <;> simp only [mR, Bool.false_eq_true] at hm
  rename_i c' x' y'
  simp only [Bool.and_eq_true] at hm
  have hc := ev_sound (T := T) (call := call) (iter := iter) hG hfr hm.1.1
  simp only [evQ] at he
  split at he <;> try (cases he; done)
  all_goals
    rename_i hp
    cases he
    rw [hp] at hc
    simp only [RV, Rv] at hc
  · exact QR.same hok (v' := a.eval x') (by simp [execOp, hc, asBool]) (ev_sound hG hfr hm.1.2)
  · exact QR.same hok (v' := a.eval y') (by simp [execOp, hc, asBool]) (ev_sound hG hfr hm.2)
theorem q_ibox (hok : Ok ρ F stk w) (hG : Glob G F w) (hfr : RFr ρ F stk w fr a.tmps) {o : Oper} {y : Opd} (hm : mR P o.op (.ibox y) = true) {v : V}
    (he : evQ (Sys.real T G call iter) stk fr (.ibox y) = some v) : QR P ρ F stk w v (execOp a.eval o) := by
  obtain ⟨dst, op, type, pos, after, guard⟩ := o
  cases op <;> simp only [mR, Bool.false_eq_true] at hm
  rename_i t x
  have hx := ev_sound (T := T) (call := call) (iter := iter) hG hfr hm
  simp only [evQ] at he
  split at he <;> try (cases he; done)
  rename_i l hf hl
  cases he
  have hl' := Rl_of_allD hl (flat_cells hf hx)
  obtain ⟨hgo, hok'⟩ := alloc_imm hok w rfl rfl rfl rfl (.cells (a.eval x).cells t)
  refine ⟨_, _, .pointer (some ⟨w.heap.size, 0, none⟩), ?_, hgo, hok', ?_⟩
  · simp [execOp, Instr.box, newVar, newRow]
  · simp only [RV, Rv]
    refine ⟨w.heap.size, 0, (a.eval x).cells.toList, rfl, .inr rfl, Rl.keep ((hgo 0).keep hok) l _ hl', ?_⟩
    intro j u hj
    simpa using hj
theorem q_mkI (hok : Ok ρ F stk w) (hG : Glob G F w) (hfr : RFr ρ F stk w fr a.tmps) {o : Oper} {t : TypeId} {y : Opd} (hm : mR P o.op (.mkI t y) = true) {v : V}
    (he : evQ (Sys.real T G call iter) stk fr (.mkI t y) = some v) : QR P ρ F stk w v (execOp a.eval o) := by
  obtain ⟨dst, op, type, pos, after, guard⟩ := o
  cases op <;> simp only [mR, Bool.false_eq_true] at hm
  rename_i t' x
  simp only [Bool.and_eq_true, beq_iff_eq] at hm
  obtain ⟨⟨rfl, h2⟩, h3⟩ := hm
  simp only [evQ, Option.some.injEq] at he
  subst he
  have hx := ev_sound (T := T) (call := call) (iter := iter) hG hfr h3
  refine QR.same hok (v' := .iface t' (a.eval x)) ?_ ?_
  · cases hu : P.underlying t' with
    | none => simp [hu] at h2
    | some d =>
      simp only [execOp, Instr.makeInterface, Sem.run_bind, run_underlying hu, Result.andThen_ok]
      cases d <;> first | rfl | (simp [hu] at h2)
  · generalize y.ev (Sys.real T G call iter) fr = z at hx ⊢
    cases z <;> simp only [mkIface, RV, Rv] at hx ⊢ <;> exact ⟨_, rfl, hx⟩
theorem q_mkF (hok : Ok ρ F stk w) (hG : Glob G F w) (hfr : RFr ρ F stk w fr a.tmps) {o : Oper} {fn : Fn} {xs ys : List Opd} (hm : mR P o.op (.mkF fn xs ys) = true) {v : V}
    (he : evQ (Sys.real T G call iter) stk fr (.mkF fn xs ys) = some v) : QR P ρ F stk w v (execOp a.eval o) := by
  obtain ⟨dst, op, type, pos, after, guard⟩ := o
  cases op <;> cases fn <;> (try (simp only [mR, Bool.false_eq_true] at hm; done))
  rename_i fn' f c g
  cases fn' <;> simp only [mR, Bool.false_eq_true] at hm
  simp only [Bool.and_eq_true, beq_iff_eq] at hm
  obtain ⟨⟨rfl, h2⟩, h3⟩ := hm
  simp only [evQ, Option.some.injEq] at he
  subst he
  have h1 := evL_sound (T := T) (call := call) (iter := iter) hG hfr h2
  have h2 := evL_sound (T := T) (call := call) (iter := iter) hG hfr h3
  refine QR.same hok (v' := .func (.func _) (f.map a.eval) (c.map a.eval)) (by simp [execOp, Instr.makeFunc]; rfl) ?_
  unfold mkFunc
  split
  · rename_i x y hx hy
    simp only [RV, Rv]
    exact ⟨_, _, rfl, by simpa using Rt_of_allD hx h1, by simpa using Rt_of_allD hy h2⟩
  · simp only [RV]
    exact ⟨_, _, rfl, by simpa using h1, by simpa using h2⟩
theorem RVt_at : ∀ {xs : List V} {us : List Value} {i : Nat} {x : V}, RVt ρ F stk w xs us → xs[i]? = some x → ∃ u, us[i]? = some u ∧ RV ρ F stk w x u
  | [], us, i, x, h, hx => by simp at hx
  | y :: r, us, i, x, h, hx => by
    simp only [RVt] at h
    obtain ⟨u, us', rfl, h1, h2⟩ := h
    cases i with
    | zero => simp only [List.getElem?_cons_zero, Option.some.injEq] at hx ⊢; subst hx; exact ⟨u, rfl, h1⟩
    | succ i => simp only [List.getElem?_cons_succ] at hx ⊢; exact RVt_at h2 hx
theorem Rt_at : ∀ {xs : List D} {us : List Value} {i : Nat} {x : D}, Rt F w xs us → xs[i]? = some x → ∃ u, us[i]? = some u ∧ Rv F w x u
  | [], us, i, x, h, hx => by simp at hx
  | y :: r, us, i, x, h, hx => by
    simp only [Rt] at h
    obtain ⟨u, us', rfl, h1, h2⟩ := h
    cases i with
    | zero => simp only [List.getElem?_cons_zero, Option.some.injEq] at hx ⊢; subst hx; exact ⟨u, rfl, h1⟩
    | succ i => simp only [List.getElem?_cons_succ] at hx ⊢; exact Rt_at h2 hx
theorem q_extract (hok : Ok ρ F stk w) (hG : Glob G F w) (hfr : RFr ρ F stk w fr a.tmps) {o : Oper} {y : Opd} {i : Nat} (hm : mR P o.op (.extract y i) = true) {v : V}
    (he : evQ (Sys.real T G call iter) stk fr (.extract y i) = some v) : QR P ρ F stk w v (execOp a.eval o) := by
  obtain ⟨dst, op, type, pos, after, guard⟩ := o
  cases op <;> simp only [mR, Bool.false_eq_true] at hm
  rename_i x i'
  simp only [Bool.and_eq_true, beq_iff_eq] at hm
  obtain ⟨rfl, h2⟩ := hm
  have hx := ev_sound (T := T) (call := call) (iter := iter) hG hfr h2
  simp only [evQ] at he
  split at he <;> try (cases he; done)
  · rename_i vs hvs
    split at he <;> try (cases he; done)
    rename_i u hu
    cases he
    rw [hvs] at hx
    simp only [RV, Rv] at hx
    obtain ⟨us, hus, ht⟩ := hx
    obtain ⟨v', h3, h4⟩ := Rt_at ht hu
    refine QR.same hok (v' := v') ?_ (by simpa [RV] using h4)
    have h3' : us[i']? = some v' := by simpa using h3
    simp [execOp, hus, Instr.extract, h3']
  · rename_i vs hvs
    rw [hvs] at hx
    simp only [RV] at hx
    obtain ⟨us, hus, ht⟩ := hx
    obtain ⟨v', h3, h4⟩ := RVt_at ht he
    refine QR.same hok (v' := v') ?_ h4
    have h3' : us[i']? = some v' := by simpa using h3
    simp [execOp, hus, Instr.extract, h3']
theorem q_faddr (hok : Ok ρ F stk w) (hG : Glob G F w) (hfr : RFr ρ F stk w fr a.tmps) {o : Oper} {off : Nat} {y : Opd} (hm : mR P o.op (.faddr off y) = true) {v : V}
    (he : evQ (Sys.real T G call iter) stk fr (.faddr off y) = some v) : QR P ρ F stk w v (execOp a.eval o) := by
  obtain ⟨dst, op, type, pos, after, guard⟩ := o
  cases op <;> simp only [mR, Bool.false_eq_true] at hm
  rename_i s x f
  simp only [Bool.and_eq_true] at hm
  obtain ⟨h1, h2⟩ := hm
  have hx := ev_sound (T := T) (call := call) (iter := iter) hG hfr h2
  cases hu : P.underlying s with
  | none => simp [hu] at h1
  | some d =>
    cases d <;> simp only [hu, Bool.false_eq_true] at h1
    rename_i fields
    cases hf : fields[f]? with
    | none => simp [hf] at h1
    | some fd =>
      simp only [hf, Bool.and_eq_true, beq_iff_eq] at h1
      obtain ⟨rfl, h4⟩ := h1
      cases hi : P.info? fd.type with
      | none => simp [hi] at h4
      | some i =>
        simp only [hi, bne_iff_ne, ne_eq] at h4
        have run : ∀ b o, (a.eval x) = .pointer (some ⟨b, o, none⟩) → (execOp a.eval ⟨dst, .fieldAddr s x f, type, pos, after, guard⟩).run P w = .ok (.value (.pointer (some ⟨b, o + fd.offset, none⟩))) w := by
          intro b o hp
          simp [execOp, Instr.fieldAt, run_underlying hu, hf, hp, Instr.sureAddr, fieldPlace, sizeOf, typeInfo, hi, h4, Addr.add_off]
        simp only [evQ] at he
        split at he <;> try (cases he; done)
        · rename_i l o hv
          cases he
          rw [hv] at hx
          simp only [RV] at hx
          obtain ⟨hp, ob⟩ := hx
          refine QR.same hok (run _ _ hp) ?_
          simp only [RV, true_and]
          exact ob
        · rename_i l g i o hv
          cases he
          rw [hv] at hx
          simp only [RV] at hx
          obtain ⟨g', esz, xs, hg, h1c, hle, hp⟩ := hx
          obtain ⟨b, o', rfl'⟩ := h1c
          refine QR.same hok (run _ _ rfl') ?_
          simp only [RV]
          refine ⟨g', esz, xs, hg, ⟨_, _, rfl⟩, hle, fun e => ?_⟩
          have := hp e
          rw [rfl'] at this
          simp only [Value.pointer.injEq, Option.some.injEq, Addr.mk.injEq, and_true] at this
          obtain ⟨rfl, rfl⟩ := this
          rw [Nat.add_assoc]
        · rename_i cs hv
          split at he <;> try (cases he; done)
          rename_i hle
          cases he
          rw [hv] at hx
          simp only [RV, Rv] at hx
          obtain ⟨b, o, ws, hp, hb, hl, hc⟩ := hx
          refine QR.same hok (run _ _ hp) ?_
          simp only [RV, Rv]
          refine ⟨b, o + fd.offset, ws.drop fd.offset, rfl, hb, Rl_drop _ hl, ?_⟩
          intro j u hj
          rw [List.getElem?_drop] at hj
          rw [Nat.add_assoc]
          exact hc _ u hj
end
end Go.Abs
