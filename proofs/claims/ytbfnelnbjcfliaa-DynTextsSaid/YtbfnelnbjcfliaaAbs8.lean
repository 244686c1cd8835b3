import Derived.Test.YtbfnelnbjcfliaaAbs7
import Derived.Great.BuildSlice
/-! The quiet operations, fourth part. -/
set_option linter.unusedVariables false
set_option linter.unusedSimpArgs false
namespace Go.Abs
section
variable {P : Program} {T : FuncId → Option RF} {G : Nat → Option (List D)} {call : CallF} {iter : (St → Rs) → St → Rs} {ρ : Rho} {F : Blks} {stk : Stk} {w : World} {fr : Fr} {a : Act}

theorem q_nilCheck (hok : Ok ρ F stk w) (hG : Glob G F w) (hfr : RFr ρ F stk w fr a.tmps) {o : Oper} {y : Opd} (hm : mR P o.op (.nilCheck y) = true) {v : V}
    (he : evQ (Sys.real T G call iter) stk fr (.nilCheck y) = some v) : QR P ρ F stk w v (execOp a.eval o) := by
  obtain ⟨dst, op', type, pos, after, guard⟩ := o
  cases op' <;> simp only [mR, Bool.false_eq_true] at hm
  rename_i x
  have hx := ev_sound (T := T) (call := call) (iter := iter) hG hfr hm
  simp only [evQ] at he
  split at he <;> (try (cases he; done)) <;> rename_i hv <;> rw [hv] at hx <;> cases he
  · have hx' := hx
    simp only [RV] at hx
    exact QR.same hok (by simp only [execOp, hx.1]; rfl) (hx.1 ▸ hx')
  · have hx' := hx
    simp only [RV] at hx
    obtain ⟨_, _, _, _, ⟨b, o, hp⟩, _⟩ := hx
    exact QR.same hok (by simp only [execOp, hp]; rfl) (hp ▸ hx')
  · have hx' := hx
    simp only [RV, Rv] at hx
    obtain ⟨_, _, _, hp, _⟩ := hx
    exact QR.same hok (by simp only [execOp, hp]; rfl) (hp ▸ hx')
  · have hx' := hx
    simp only [RV] at hx
    obtain ⟨_, _, hp, _⟩ := hx
    exact QR.same hok (by simp only [execOp, hp]; rfl) (hp ▸ hx')
  · have hx' := hx
    simp only [RV, Rv] at hx
    obtain ⟨_, _, hp, _⟩ := hx
    exact QR.same hok (by simp only [execOp, hp]; rfl) (hp ▸ hx')

theorem byte_at (s : Str) (i : Nat) : (⟨⟨s⟩⟩ : ByteArray)[i]? = s[i]? := by
  by_cases h : i < s.length
  · rw [List.getElem?_eq_getElem h]
    have h' : i < (⟨⟨s⟩⟩ : ByteArray).size := h
    rw [getElem?_pos (⟨⟨s⟩⟩ : ByteArray) i h']
    rfl
  · rw [List.getElem?_eq_none (by omega)]
    have h' : ¬ i < (⟨⟨s⟩⟩ : ByteArray).size := h
    rw [getElem?_neg (⟨⟨s⟩⟩ : ByteArray) i h']

theorem q_idx (hok : Ok ρ F stk w) (hG : Glob G F w) (hfr : RFr ρ F stk w fr a.tmps) {o : Oper} {y z : Opd} (hm : mR P o.op (.idx y z) = true) {v : V}
    (he : evQ (Sys.real T G call iter) stk fr (.idx y z) = some v) : QR P ρ F stk w v (execOp a.eval o) := by
  obtain ⟨dst, op', type, pos, after, guard⟩ := o
  cases op' <;> simp only [mR, Bool.false_eq_true] at hm
  rename_i t x i
  simp only [Bool.and_eq_true] at hm
  obtain ⟨⟨h1, h2⟩, h3⟩ := hm
  have hx := ev_sound (T := T) (call := call) (iter := iter) hG hfr h2
  have hi := ev_sound (T := T) (call := call) (iter := iter) hG hfr h3
  cases hu : P.underlying t with
  | none => simp [hu] at h1
  | some d =>
    cases d <;> simp only [hu, Bool.false_eq_true] at h1
    simp only [evQ] at he
    split at he <;> try (cases he; done)
    rename_i s k n hs hn
    rw [hs] at hx
    rw [hn] at hi
    split at he <;> try (cases he; done)
    rename_i hneg
    split at he <;> try (cases he; done)
    rename_i b hb
    cases he
    simp only [RV, Rv] at hx hi
    have hneg' : ¬ n < 0 := by simpa [Sys.real] using hneg
    have hb' : s[n.toNat]? = some b := hb
    refine QR.same hok (v' := .int .u8 b.toNat) ?_ (by simp [RV, Rv, Sys.real])
    simp only [execOp, hx, hi, Instr.index, asIntOf, Sem.run_bind, Sem.run_pure, Result.andThen_ok, run_underlying hu]
    rw [if_pos (by omega), byte_at, hb']
    rfl

theorem map_eval1 {args : Array Operand} {y : Opd} (h : mL args.toList [y] = true) : ∃ x, args = #[x] ∧ mO x y = true := by
  obtain ⟨l⟩ := args
  match l, h with
  | [x], h => exact ⟨x, rfl, by simpa [mL] using h⟩
  | [], h => simp [mL] at h
  | _ :: _ :: _, h => simp [mL] at h
theorem map_eval2 {args : Array Operand} {y z : Opd} (h : mL args.toList [y, z] = true) : ∃ x u, args = #[x, u] ∧ mO x y = true ∧ mO u z = true := by
  obtain ⟨l⟩ := args
  match l, h with
  | [x, u], h => exact ⟨x, u, rfl, by simpa [mL] using h⟩
  | [], h => simp [mL] at h
  | [_], h => simp [mL] at h
  | _ :: _ :: _ :: _, h => simp [mL] at h

theorem RE_len : ∀ {es : List (D × Nat × V)} {us : List MapEntry}, RE ρ F stk w es us → us.length = es.length
  | [], us, h => by simp only [RE] at h; simp [h]
  | x :: r, us, h => by
    simp only [RE] at h
    obtain ⟨u, us', rfl, _, _, hr⟩ := h
    simp [RE_len hr]
theorem Rk_len : ∀ {es : List D} {us : List MapEntry}, Rk F w es us → us.length = es.length
  | [], us, h => by simp only [Rk] at h; simp [h]
  | x :: r, us, h => by
    simp only [Rk] at h
    obtain ⟨u, us', rfl, _, hr⟩ := h
    simp [Rk_len hr]

theorem run_getM {r : Nat} {es : Array MapEntry} {c : Nat} (h : w.heap[r]? = some (.map es c)) : (getObj r).run P w = .ok (.map es c) w := by simp [getObj, Sem.run, h]
theorem run_getS {r : Nat} {s : ByteArray} {c : Nat} (h : w.heap[r]? = some (.stringIter s c)) : (getObj r).run P w = .ok (.stringIter s c) w := by simp [getObj, Sem.run, h]
def lkOk (P : Program) (t : TypeId) : LK → Prop
  | .str => P.underlying t = some .string
  | .sl => ∃ e, P.underlying t = some (.slice e)
  | .map => ∃ k e, P.underlying t = some (.map k e)
theorem mR_len {op : Op} {k : LK} {y : Opd} (h : mR P op (.len k y) = true) : ∃ x argTypes t, op = .call ⟨.builtin .len, #[x], argTypes⟩ ∧ argTypes[0]? = some t ∧ mO x y = true ∧ lkOk P t k := by
  cases op <;> try (simp only [mR, Bool.false_eq_true] at h; done)
  rename_i c
  obtain ⟨callee, args, argTypes⟩ := c
  cases callee with
  | value f => cases f <;> simp only [mR, Bool.false_eq_true] at h
  | invoke r n => simp only [mR, Bool.false_eq_true] at h
  | builtin b =>
    cases b <;> try (simp only [mR, Bool.false_eq_true] at h; done)
    simp only [mR, Bool.and_eq_true] at h
    obtain ⟨h1, h2⟩ := h
    obtain ⟨x, rfl, h3⟩ := map_eval1 h2
    cases ha : argTypes[0]? with
    | none => simp [ha] at h1
    | some t =>
      simp only [ha] at h1
      refine ⟨x, argTypes, t, rfl, ha, h3, ?_⟩
      cases hu : P.underlying t with
      | none => simp [hu] at h1
      | some d => cases d <;> cases k <;> simp [hu] at h1 <;> simp [lkOk, hu]
theorem run_builtin {b : Builtin} {args : Array Operand} {argTypes : Array TypeId} {dst : Option Tmp} {type : TypeId} {pos : String} {after : Array Edge} {guard : Option (Nat × Bool)} :
    ∃ cs, execOp a.eval ⟨dst, .call ⟨.builtin b, args, argTypes⟩, type, pos, after, guard⟩ = builtin b argTypes type cs (args.map a.eval) := ⟨_, rfl⟩
theorem run_len {x : Operand} {argTypes : Array TypeId} {dst : Option Tmp} {type : TypeId} {pos : String} {after : Array Edge} {guard : Option (Nat × Bool)} {n : Int}
    (h : (Builtin.len_ argTypes type #[a.eval x]).run P w = .ok (.int .i64 n) w) : (execOp a.eval ⟨dst, .call ⟨.builtin .len, #[x], argTypes⟩, type, pos, after, guard⟩).run P w = .ok (.value (.int .i64 n)) w := by
  obtain ⟨cs, e⟩ := run_builtin (a := a) (b := .len) (args := #[x]) (argTypes := argTypes) (dst := dst) (type := type) (pos := pos) (after := after) (guard := guard)
  rw [e]
  simp [builtin, h]
theorem q_len (hok : Ok ρ F stk w) (hG : Glob G F w) (hfr : RFr ρ F stk w fr a.tmps) {o : Oper} {k : LK} {y : Opd} (hm : mR P o.op (.len k y) = true) {v : V}
    (he : evQ (Sys.real T G call iter) stk fr (.len k y) = some v) : QR P ρ F stk w v (execOp a.eval o) := by
  obtain ⟨dst, op', type, pos, after, guard⟩ := o
  obtain ⟨x, argTypes, t, rfl, ha, h3, hu⟩ := mR_len hm
  have hx := ev_sound (T := T) (call := call) (iter := iter) hG hfr h3
  simp only [evQ] at he
  split at he <;> try (cases he; done)
  · rename_i s hv
    rw [hv] at hx; cases he
    simp only [RV, Rv] at hx
    simp only [lkOk] at hu
    exact QR.same hok (run_len (n := s.length) (by simp [Builtin.len_, ha, run_underlying hu, hx, goInt]; rfl)) (by simp [RV, Rv, Sys.real])
  · rename_i xs hv
    rw [hv] at hx; cases he
    simp only [RV, Rv] at hx
    obtain ⟨e, hu⟩ := hu
    obtain ⟨_, _, hx, _⟩ := hx
    exact QR.same hok (run_len (n := xs.length) (by simp [Builtin.len_, ha, run_underlying hu, hx, goInt])) (by simp [RV, Rv, Sys.real])
  · rename_i hv
    rw [hv] at hx; cases he
    simp only [RV, Rv] at hx
    obtain ⟨e, hu⟩ := hu
    exact QR.same hok (run_len (n := 0) (by simp [Builtin.len_, ha, run_underlying hu, hx, goInt])) (by simp [RV, Rv, Sys.real])
  · rename_i l g o n hv
    rw [hv] at hx; cases he
    simp only [RV] at hx
    obtain ⟨_, _, _, _, ⟨_, _, hx⟩, _⟩ := hx
    obtain ⟨e, hu⟩ := hu
    exact QR.same hok (run_len (n := n) (by simp [Builtin.len_, ha, run_underlying hu, hx, goInt])) (by simp [RV, Rv, Sys.real])
  · rename_i hv
    rw [hv] at hx; cases he
    simp only [RV, Rv] at hx
    obtain ⟨k, e, hu⟩ := hu
    exact QR.same hok (run_len (n := 0) (by simp [Builtin.len_, ha, run_underlying hu, hx, goInt])) (by simp [RV, Rv, Sys.real])
  · rename_i l hv
    split at he <;> try (cases he; done)
    rename_i c es hg
    rw [hv] at hx; cases he
    simp only [RV] at hx
    obtain ⟨k, e, hu⟩ := hu
    obtain ⟨ents, h4, h5⟩ := hok.objs l _ hg
    have := RE_len h5
    refine QR.same hok (run_len (n := es.length) ?_) (by simp [RV, Rv, Sys.real])
    rw [← this]
    simp [Builtin.len_, ha, run_underlying hu, hx.1, goInt, run_getM h4]
  · rename_i ks vs hv
    rw [hv] at hx; cases he
    simp only [RV, Rv] at hx
    obtain ⟨r, es, clock, hx, _, hh, hk, _⟩ := hx
    obtain ⟨k, e, hu⟩ := hu
    have := Rk_len hk
    refine QR.same hok (run_len (n := ks.length) ?_) (by simp [RV, Rv, Sys.real])
    rw [← this]
    simp [Builtin.len_, ha, run_underlying hu, hx, goInt, run_getM hh]

theorem mR_mm {op : Op} {m : Bool} {ys : List Opd} (h : mR P op (.mm m ys) = true) : ∃ args argTypes, op = .call ⟨.builtin (if m then .max else .min), args, argTypes⟩ ∧ mL args.toList ys = true := by
  cases op <;> try (simp only [mR, Bool.false_eq_true] at h; done)
  rename_i c
  obtain ⟨callee, args, argTypes⟩ := c
  cases callee with
  | value f => cases f <;> cases m <;> simp only [mR, Bool.false_eq_true] at h
  | invoke r n => cases m <;> simp only [mR, Bool.false_eq_true] at h
  | builtin b =>
    cases b <;> cases m <;> try (simp only [mR, Bool.false_eq_true] at h; done)
    · simp only [mR] at h; exact ⟨args, argTypes, rfl, h⟩
    · simp only [mR] at h; exact ⟨args, argTypes, rfl, h⟩
theorem q_mm (hok : Ok ρ F stk w) (hG : Glob G F w) (hfr : RFr ρ F stk w fr a.tmps) {o : Oper} {m : Bool} {ys : List Opd} (hm : mR P o.op (.mm m ys) = true) {v : V}
    (he : evQ (Sys.real T G call iter) stk fr (.mm m ys) = some v) : QR P ρ F stk w v (execOp a.eval o) := by
  obtain ⟨dst, op', type, pos, after, guard⟩ := o
  obtain ⟨args, argTypes, rfl, h3⟩ := mR_mm hm
  match ys, h3, he with
  | [], _, he => simp [evQ] at he
  | [_], _, he => simp [evQ] at he
  | _ :: _ :: _ :: _, _, he => simp [evQ] at he
  | [y, z], h3, he =>
    obtain ⟨x, u, rfl, h4, h5⟩ := map_eval2 h3
    have hx := ev_sound (T := T) (call := call) (iter := iter) hG hfr h4
    have hy := ev_sound (T := T) (call := call) (iter := iter) hG hfr h5
    simp only [evQ] at he
    split at he <;> try (cases he; done)
    rename_i k p k' q hp hq
    rw [hp] at hx
    rw [hq] at hy
    simp only [RV, Rv] at hx hy
    split at he <;> try (cases he; done)
    rename_i hk
    subst hk
    cases he
    obtain ⟨cs, e⟩ := run_builtin (a := a) (b := if m then .max else .min) (args := #[x, u]) (argTypes := argTypes) (dst := dst) (type := type) (pos := pos) (after := after) (guard := guard)
    cases m with
    | true =>
      refine QR.same hok (v' := .int k (if q > p then q else p)) ?_ ?_
      · rw [e]
        simp [builtin, Builtin.max_, hx, hy, Builtin.max2]
      · simp only [RV, Rv, Sys.real, intCmp, Value.int.injEq, true_and]
        by_cases h : q > p <;> simp [h]
    | false =>
      refine QR.same hok (v' := .int k (if q < p then q else p)) ?_ ?_
      · rw [e]
        simp [builtin, Builtin.min_, hx, hy, Builtin.min2]
      · simp only [RV, Rv, Sys.real, intCmp, Value.int.injEq, true_and]
        by_cases h : q < p <;> simp [h]

theorem q_tasp (hok : Ok ρ F stk w) (hG : Glob G F w) (hfr : RFr ρ F stk w fr a.tmps) {o : Oper} {ta t : TypeId} {y : Opd} (hm : mR P o.op (.tasp ta t y) = true) {v : V}
    (he : evQ (Sys.real T G call iter) stk fr (.tasp ta t y) = some v) : QR P ρ F stk w v (execOp a.eval o) := by
  obtain ⟨dst, op', type, pos, after, guard⟩ := o
  cases op' <;> try (simp only [mR, Bool.false_eq_true] at hm; done)
  rename_i x xt t' ok'
  cases ok' <;> simp only [mR, Bool.false_eq_true] at hm
  simp only [Bool.and_eq_true, beq_iff_eq] at hm
  obtain ⟨⟨⟨⟨rfl, h1⟩, h2⟩, h3⟩, h4⟩ := hm
  have hx := ev_sound (T := T) (call := call) (iter := iter) hG hfr h4
  cases hu : P.underlying t' with
  | none => simp [hu] at h1
  | some d =>
    have hni : ∀ ms, d ≠ .interface ms := by rintro ms rfl; simp [hu] at h1
    have hold : ∀ u, a.eval x = .iface t' u → (execOp a.eval ⟨dst, .typeAssert x xt t' false, type, pos, after, guard⟩).run P w = .ok (.value u) w := by
      intro u hu'
      simp only [execOp, Instr.typeAssert, Sem.run_bind, run_underlying hu, Result.andThen_ok, hu']
      cases d <;> first | exact absurd rfl (hni _) | simp
    simp only [evQ] at he
    split at he <;> try (cases he; done)
    rename_i t0 u hv
    rw [hv] at hx
    simp only [RV, Rv] at hx
    obtain ⟨u', hx, hu'⟩ := hx
    split at he <;> try (cases he; done)
    rename_i heq
    subst heq
    cases he
    exact QR.same hok (hold _ hx) (by simpa [RV] using hu')
theorem q_tassert (hok : Ok ρ F stk w) (hG : Glob G F w) (hfr : RFr ρ F stk w fr a.tmps) {o : Oper} {z : D} {t : TypeId} {ok : Bool} {y : Opd} (hm : mR P o.op (.tassert z t ok y) = true) {v : V}
    (he : evQ (Sys.real T G call iter) stk fr (.tassert z t ok y) = some v) : QR P ρ F stk w v (execOp a.eval o) := by
  obtain ⟨dst, op', type, pos, after, guard⟩ := o
  cases op' <;> simp only [mR, Bool.false_eq_true] at hm
  rename_i x xt t' ok'
  simp only [Bool.and_eq_true, beq_iff_eq] at hm
  obtain ⟨⟨⟨⟨rfl, rfl⟩, h1⟩, h2⟩, h3⟩ := hm
  have hx := ev_sound (T := T) (call := call) (iter := iter) hG hfr h3
  obtain ⟨zv, hz1, hz2⟩ := run_zero (w := w) F h2
  cases hu : P.underlying t' with
  | none => simp [hu] at h1
  | some d =>
    have hni : ∀ ms, d ≠ .interface ms := by rintro ms rfl; simp [hu] at h1
    have hold : ∀ u, a.eval x = .iface t' u → (execOp a.eval ⟨dst, .typeAssert x xt t' ok', type, pos, after, guard⟩).run P w = .ok (.value (if ok' then .tuple #[u, .bool true] else u)) w := by
      intro u hu'
      simp only [execOp, Instr.typeAssert, Sem.run_bind, run_underlying hu, Result.andThen_ok, hu']
      cases d <;> first | exact absurd rfl (hni _) | simp
    have hnot : ok' = true → (∃ t u, a.eval x = .iface t u ∧ t ≠ t') ∨ a.eval x = .nilIface → (execOp a.eval ⟨dst, .typeAssert x xt t' ok', type, pos, after, guard⟩).run P w = .ok (.value (.tuple #[zv, .bool false])) w := by
      rintro rfl (⟨t0, u, hu', hne⟩ | hu')
      · simp only [execOp, Instr.typeAssert, Sem.run_bind, run_underlying hu, Result.andThen_ok, hu']
        cases d <;> first | exact absurd rfl (hni _) | simp [hne, hz1]
      · simp only [execOp, Instr.typeAssert, Sem.run_bind, run_underlying hu, Result.andThen_ok, hu']
        cases d <;> first | exact absurd rfl (hni _) | simp [hz1]
    have hbad : ok' = true → (∃ t u, a.eval x = .iface t u ∧ t ≠ t') ∨ a.eval x = .nilIface → QR P ρ F stk w (.d (.tup [z, .bool false])) (execOp a.eval ⟨dst, .typeAssert x xt t' ok', type, pos, after, guard⟩) := by
      intro h4 h5
      refine QR.same hok (hnot h4 h5) ?_
      simp only [RV, Rv]
      exact ⟨_, rfl, by simp [Rt, Rv, hz2]⟩
    simp only [evQ] at he
    split at he <;> try (cases he; done)
    · rename_i t0 u hv
      rw [hv] at hx
      simp only [RV, Rv] at hx
      obtain ⟨u', hx, hu'⟩ := hx
      split at he
      · rename_i heq
        subst heq
        refine QR.same hok (hold _ hx) ?_
        cases ok' <;> cases he
        · simpa [RV] using hu'
        · simp only [RV, Rv, if_true]
          exact ⟨_, rfl, by simp [Rt, Rv, hu']⟩
      · rename_i hne
        cases ok' <;> simp only [Option.some.injEq] at he
        · cases he
        · subst he
          exact hbad rfl (.inl ⟨_, _, hx, hne⟩)
    · rename_i t0 u hv
      rw [hv] at hx
      simp only [RV] at hx
      obtain ⟨u', hx, hu'⟩ := hx
      split at he
      · rename_i heq
        subst heq
        refine QR.same hok (hold _ hx) ?_
        cases ok' <;> cases he
        · simpa using hu'
        · have : RVt ρ F stk w [u, .d (.bool true)] [u', .bool true] := by simp [RVt, RV, Rv, hu']
          exact mkTup_sound this
      · rename_i hne
        cases ok' <;> simp only [Option.some.injEq] at he
        · cases he
        · subst he
          exact hbad rfl (.inl ⟨_, _, hx, hne⟩)
    · rename_i hv
      rw [hv] at hx
      simp only [RV, Rv] at hx
      cases ok' <;> simp only [Option.some.injEq] at he
      · cases he
      · subst he
        exact hbad rfl (.inr hx)

theorem aggOf_sound {x : V} {u : Value} {cs : List V} (hv : RV ρ F stk w x u) (h : aggOf x = some cs) : ∃ us, u = .agg us ∧ RVl ρ F stk w cs us.toList := by
  cases x <;> simp only [aggOf] at h <;> try (cases h; done)
  · rename_i d
    cases d <;> simp only [aggOf] at h <;> try (cases h; done)
    cases h
    simp only [RV, Rv] at hv
    obtain ⟨us, e, hl⟩ := hv
    exact ⟨us, e, RVl_of_Rl hl⟩
  · cases h
    simpa only [RV] using hv
theorem oneOf_sound {agg : Bool} {cs : List V} {v : V} {ws : List Value} (h : oneOf agg cs = some v) (hr : RVl ρ F stk w cs ws) : RV ρ F stk w v (varOf agg ws) := by
  cases agg with
  | true =>
    simp only [oneOf, Option.some.injEq] at h
    subst h
    exact mkAgg_sound hr
  | false =>
    simp only [oneOf] at h
    split at h <;> try (cases h; done)
    cases h
    simp only [RVl] at hr
    obtain ⟨u, us', rfl, _, hu, rfl⟩ := hr
    exact hu
theorem run_part {t : TypeId} {agg : Bool} {us : Array Value} {off sz : Nat} (ha : tAgg P t = agg) (hk : tKnown P t = true) (hs : tSz P t sz = true) (h1 : (agg || sz == 1) = true) (hle : off + sz ≤ us.size) :
    (part t us off).run P w = .ok (varOf agg ((us.toList.drop off).take sz)) w := by
  unfold part
  rw [Sem.run_bind, run_isAgg ha hk]
  cases agg with
  | true =>
    simp only [Result.andThen_ok, if_true, Sem.run_bind, run_size hs, Sem.run_pure, varOf]
    congr 2
    apply Array.ext'
    simp [Array.toList_extract, List.extract_eq_take_drop]
  | false =>
    simp only [Bool.false_or, beq_iff_eq] at h1
    subst h1
    have hlt : off < us.size := by omega
    have e : (us.toList.drop off).take 1 = [us[off]] := by
      rw [List.drop_eq_getElem_cons (by simpa using hlt)]
      simp
    rw [e]
    simp [hlt, varOf]
theorem q_fld (hok : Ok ρ F stk w) (hG : Glob G F w) (hfr : RFr ρ F stk w fr a.tmps) {o : Oper} {agg : Bool} {off sz : Nat} {y : Opd} (hm : mR P o.op (.fld agg off sz y) = true) {v : V}
    (he : evQ (Sys.real T G call iter) stk fr (.fld agg off sz y) = some v) : QR P ρ F stk w v (execOp a.eval o) := by
  obtain ⟨dst, op', type, pos, after, guard⟩ := o
  cases op' <;> simp only [mR, Bool.false_eq_true] at hm
  rename_i s x f
  simp only [Bool.and_eq_true] at hm
  obtain ⟨h1, h2⟩ := hm
  have hx := ev_sound (T := T) (call := call) (iter := iter) hG hfr h2
  cases hu : P.underlying s with
  | none => simp [hu] at h1
  | some d =>
    cases d <;> simp only [hu, Bool.false_eq_true] at h1
    rename_i fields
    cases hf : fields[f]? with
    | none => simp [hf] at h1
    | some fd =>
      simp only [hf, Bool.and_eq_true, beq_iff_eq] at h1
      obtain ⟨⟨⟨⟨rfl, h4⟩, h5⟩, h6⟩, h7⟩ := h1
      simp only [evQ] at he
      split at he <;> try (cases he; done)
      rename_i cs hcs
      split at he <;> try (cases he; done)
      rename_i hle
      obtain ⟨us, hus, hl⟩ := aggOf_sound hx hcs
      have hlen := RVl_len hl
      refine QR.same hok (v' := varOf agg ((us.toList.drop fd.offset).take sz)) ?_ (oneOf_sound he (RVl_take _ (RVl_drop _ hl)))
      simp only [execOp, hus, Instr.field, Sem.run_bind, run_underlying hu, Result.andThen_ok, hf, asAgg, Sem.run_pure]
      rw [run_part h4 h5 h6 (by simpa using h7) (by simp at hlen; omega)]
      rfl
end
end Go.Abs
