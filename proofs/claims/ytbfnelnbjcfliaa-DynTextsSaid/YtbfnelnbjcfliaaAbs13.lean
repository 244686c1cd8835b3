import Derived.Test.YtbfnelnbjcfliaaAbs12
import Derived.Laws.IdiomStrings
/-! Maps, iterators, panics. -/
set_option linter.unusedVariables false
set_option linter.unusedSimpArgs false
namespace Go.Abs
section
variable {P : Program} {T : FuncId → Option RF} {G : Nat → Option (List D)} {call : CallF} {iter : (St → Rs) → St → Rs} {ρ : Rho} {F : Blks} {stk : Stk} {w : World} {fr : Fr} {a : Act}

theorem run_setM {r : Nat} {ob o : Obj} (h : w.heap[r]? = some ob) (hc : ∀ c e f, ob ≠ .cells c e f) : (setObj r o).run P w = .ok () (putB w r o) := by
  simp only [setObj, Sem.run, h]
  cases ob <;> first | exact absurd rfl (hc _ _ _) | rfl

theorem r_next (hok : Ok ρ F stk w) (hG : Glob G F w) (hfr : RFr ρ F stk w fr a.tmps) {o : Oper} {y : Opd} (hm : mR P o.op (.next y) = true) {r : Res}
    (he : evR (Sys.real T G call iter) o.dst fr stk (.next y) = some r) : ORes P ρ F stk w a o r := by
  simp only [evR] at he
  cases hop : o.op <;> rw [hop] at hm <;> (try (simp only [mR, Bool.false_eq_true] at hm; done))
  rename_i it b
  cases b <;> simp only [mR, Bool.false_eq_true] at hm
  have hx := ev_sound (T := T) (call := call) (iter := iter) hG hfr hm
  split at he <;> try (cases he; done)
  rename_i l hv
  rw [hv] at hx
  simp only [RV] at hx
  split at he <;> try (cases he; done)
  rename_i s pos hg
  have hob := hok.objs l _ hg
  simp only [RO] at hob
  have hsz : (⟨⟨s⟩⟩ : ByteArray).size = s.length := rfl
  split at he
  · rename_i hlt
    have hlt' : pos + 1 ≤ s.length := by simpa [Sys.real] using hlt
    cases he
    obtain ⟨g1, g2⟩ := set_sound (o' := .siter s (pos + (Utf8.decode ⟨⟨s⟩⟩ pos).2)) (w' := putB w (ρ l).blk (.stringIter ⟨⟨s⟩⟩ (pos + (Utf8.decode ⟨⟨s⟩⟩ pos).2))) (ρ' := ρ) hok hg rfl rfl rfl (by rw [putB_size]; exact Nat.le_refl _) (fun b _ hb => putB_ne (hb (.inl rfl))) (fun _ _ => rfl) (fun _ => .inl ⟨rfl, .inl rfl⟩) (by simp [Turned]) (fun v hv => by cases hv) (fun hmv => by
        simp only [RO]
        exact putB_same hob)
    refine OV.of_run (v' := .tuple #[.bool true, .int .i64 pos, .int .i32 (Utf8.decode ⟨⟨s⟩⟩ pos).1]) (w' := putB w (ρ l).blk (.stringIter ⟨⟨s⟩⟩ (pos + (Utf8.decode ⟨⟨s⟩⟩ pos).2))) ?_ (.inl rfl) nums_set (g1 _) g2 ?_
    · simp only [execOp, hop, hx.1, Instr.next, Sem.run_bind, run_getS hob, Result.andThen_ok, hsz]
      rw [if_pos (by omega)]
      simp only [Sem.run_bind, run_setM hob (fun _ _ _ h => by cases h), Result.andThen_ok, Sem.run_pure, goInt]
    · simp only [RV, Rv]
      refine ⟨_, rfl, ?_⟩
      simp [Rt, Rv, Sys.real]
  · rename_i hlt
    have hlt' : ¬ pos + 1 ≤ s.length := by simpa [Sys.real] using hlt
    cases he
    refine OV.of_run (v' := .tuple #[.bool false]) (w' := w) ?_ (.inl rfl) rfl (Goes.refl _ _ _ _ _) hok ?_
    · simp only [execOp, hop, hx.1, Instr.next, Sem.run_bind, run_getS hob, Result.andThen_ok, hsz]
      rw [if_neg (by omega)]
      rfl
    · simp only [RV, Rv]
      refine ⟨_, rfl, ?_⟩
      simp [Rt, Rv]

theorem mR_panic {op : Op} {y : Opd} (h : mR P op (.panic y) = true) : ∃ x, mO x y = true ∧ (op = .panic x ∨ ∃ argTypes, op = .call ⟨.builtin .panic, #[x], argTypes⟩) := by
  cases op <;> try (simp only [mR, Bool.false_eq_true] at h; done)
  · rename_i c
    obtain ⟨callee, args, argTypes⟩ := c
    cases callee with
    | value f => cases f <;> simp only [mR, Bool.false_eq_true] at h
    | invoke r n => simp only [mR, Bool.false_eq_true] at h
    | builtin b =>
      cases b <;> try (simp only [mR, Bool.false_eq_true] at h; done)
      simp only [mR] at h
      obtain ⟨x, rfl, h3⟩ := map_eval1 h
      exact ⟨x, h3, .inr ⟨_, rfl⟩⟩
  · rename_i x
    simp only [mR] at h
    exact ⟨x, h, .inl rfl⟩
theorem r_panic (hok : Ok ρ F stk w) (hG : Glob G F w) (hfr : RFr ρ F stk w fr a.tmps) {o : Oper} {y : Opd} (hm : mR P o.op (.panic y) = true) {r : Res}
    (he : evR (Sys.real T G call iter) o.dst fr stk (.panic y) = some r) : ORes P ρ F stk w a o r := by
  simp only [evR] at he
  obtain ⟨x, h1, h2⟩ := mR_panic hm
  have hx := ev_sound (T := T) (call := call) (iter := iter) hG hfr h1
  split at he <;> try (cases he; done)
  rename_i t v hv
  cases he
  rw [hv] at hx
  simp only [RV] at hx
  have hx' := hx
  simp only [Rv] at hx
  obtain ⟨u, hx, hu⟩ := hx
  have run : (execOp a.eval o).run P w = .halt (.panic (.iface t u)) w := by
    obtain ⟨dst, op, type, pos, after, guard⟩ := o
    rcases h2 with h2 | ⟨argTypes, h2⟩
    · simp only at h2
      subst h2
      simp only [execOp, hx, Instr.panic, goPanic, Sem.run_bind, Sem.run]
      rfl
    · simp only at h2
      subst h2
      obtain ⟨cs, e⟩ := run_builtin (a := a) (b := .panic) (args := #[x]) (argTypes := argTypes) (dst := dst) (type := type) (pos := pos) (after := after) (guard := guard)
      rw [e]
      simp only [builtin, hx, Instr.panic, goPanic, Sem.run_bind, List.map_toArray, List.map_cons, List.map_nil, Array.getD_eq_getD_getElem?, List.getElem?_toArray, List.getElem?_cons_zero, Option.getD_some, Sem.run]
      rfl
  refine ⟨rfl, fun K Q h => ?_⟩
  unfold Oper.wp
  rw [run]
  exact h ρ F w (Goes.refl _ _ _ _ _) hok _ (hx ▸ hx')

theorem r_tasp (hok : Ok ρ F stk w) (hG : Glob G F w) (hfr : RFr ρ F stk w fr a.tmps) {o : Oper} {ta t : TypeId} {y : Opd} (hm : mR P o.op (.tasp ta t y) = true) {r : Res}
    (he : evR (Sys.real T G call iter) o.dst fr stk (.tasp ta t y) = some r) : ORes P ρ F stk w a o r := by
  simp only [evR] at he
  obtain ⟨dst, op', type, pos, after, guard⟩ := o
  cases op' <;> try (simp only [mR, Bool.false_eq_true] at hm; done)
  rename_i x xt t' ok'
  cases ok' <;> simp only [mR, Bool.false_eq_true] at hm
  simp only [Bool.and_eq_true, beq_iff_eq] at hm
  obtain ⟨⟨⟨⟨rfl, h1⟩, h2⟩, h3⟩, h4⟩ := hm
  subst h2
  have hx := ev_sound (T := T) (call := call) (iter := iter) hG hfr h4
  cases hp : P.underlying P.rt.typeAssertionError with
  | none => simp [hp] at h3
  | some d0 =>
  cases d0 <;> simp only [hp, Bool.false_eq_true] at h3
  rename_i te
  cases hu : P.underlying t' with
  | none => simp [hu] at h1
  | some d =>
    have hni : ∀ ms, d ≠ .interface ms := by rintro ms rfl; simp [hu] at h1
    have hold : ∀ u, a.eval x = .iface t' u → (execOp a.eval ⟨dst, .typeAssert x xt t' false, type, pos, after, guard⟩).run P w = .ok (.value u) w := by
      intro u hu'
      simp only [execOp, Instr.typeAssert, Sem.run_bind, run_underlying hu, Result.andThen_ok, hu']
      cases d <;> first | exact absurd rfl (hni _) | simp
    have hfail : (∃ t u, a.eval x = .iface t u ∧ t ≠ t') ∨ a.eval x = .nilIface → ∃ (cs : Array Value), (execOp a.eval ⟨dst, .typeAssert x xt t' false, type, pos, after, guard⟩).run P w = .halt (.panic (.iface P.rt.typeAssertionError (.pointer (some ⟨w.heap.size, 0, none⟩)))) (w.alloc (.cells cs te)) := by
      rintro (⟨t0, u, hu', hne⟩ | hu')
      · simp only [execOp, Instr.typeAssert, Sem.run_bind, run_underlying hu, Result.andThen_ok, hu']
        cases d <;> first | exact absurd rfl (hni _) | exact ⟨_, by simp [hne, runtimePanic, elemOf, run_underlying hp, newVar, newRow, goPanic]; rfl⟩
      · simp only [execOp, Instr.typeAssert, Sem.run_bind, run_underlying hu, Result.andThen_ok, hu']
        cases d <;> first | exact absurd rfl (hni _) | exact ⟨_, by simp [runtimePanic, elemOf, run_underlying hp, newVar, newRow, goPanic]; rfl⟩
    have hpan : (∃ t u, a.eval x = .iface t u ∧ t ≠ t') ∨ a.eval x = .nilIface → ORes P ρ F stk w a ⟨dst, .typeAssert x xt t' false, type, pos, after, guard⟩ (.pan (.iface P.rt.typeAssertionError .any) stk) := by
      intro hh
      obtain ⟨cs, hrun⟩ := hfail hh
      refine ⟨rfl, fun K Q h => ?_⟩
      unfold Oper.wp
      rw [hrun]
      have hold : ∀ b, b < w.heap.size → (w.alloc (.cells cs te)).heap[b]? = w.heap[b]? := fun b hb => heap_alloc_old w (.cells cs te) b hb
      refine h ρ F (w.alloc (.cells cs te)) { os := rfl, tape := rfl, output := rfl, size := by simp, frame := fun b hlt _ => hold b hlt, sub := fun _ h => h, new := fun b h => .inl h, own := fun l hl => .inr ⟨l, hl, rfl⟩, evol := fun l o _ h => ⟨o, h, Turned.refl ρ l o⟩ } ?_ _ ?_
      · exact hok.stays ⟨fun _ h => h, fun b hF => hold b (hok.lt b hF)⟩ (fun l hl => hold _ (hok.blk_lt hl)) hok.sep (fun b hF => Nat.lt_of_lt_of_le (hok.lt b hF) (by simp))
      · simp only [Rv]; exact ⟨_, rfl, rfl⟩
    split at he <;> try (cases he; done)
    · rename_i t0 v hv
      rw [hv] at hx
      simp only [RV, Rv] at hx
      obtain ⟨u, hx, hu2⟩ := hx
      split at he
      · rename_i e
        subst e
        cases he
        refine ⟨rfl, fun K Q h => ?_⟩
        unfold Oper.wp
        rw [hold u hx]
        exact h ρ F w (Goes.refl _ _ _ _ _) hok u (by simpa only [RV] using hu2)
      · rename_i e
        cases he
        exact hpan (.inl ⟨_, _, hx, e⟩)
    · rename_i hv
      rw [hv] at hx
      simp only [RV, Rv] at hx
      cases he
      exact hpan (.inr hx)

/-! ### Maps -/
theorem sameBits_key {sk : SK} {k x : D} {kv u : Value} (hi : isKey sk k = true) (hk : Rv F w k kv) (hx : Rv F w x u) (h : keyEq k x = some true) : Instr.sameBits 10000 u kv = true ∧ kv = u := by
  cases sk <;> cases k <;> simp only [isKey, Bool.false_eq_true] at hi <;> cases x <;> simp only [keyEq] at h <;> try (cases h; done)
  all_goals simp only [Rv] at hk hx
  all_goals subst hk; subst hx
  · split at h <;> try (cases h; done)
    rename_i hk
    subst hk
    simp only [Option.some.injEq, beq_iff_eq] at h
    subst h
    exact ⟨by unfold Instr.sameBits; simp, rfl⟩
  · simp only [Option.some.injEq, beq_iff_eq] at h
    subst h
    exact ⟨by unfold Instr.sameBits; rw [bytes_beq]; simp, rfl⟩
  · simp only [Option.some.injEq, beq_iff_eq] at h
    subst h
    exact ⟨by unfold Instr.sameBits; simp, rfl⟩
theorem RE_put {k : D} {kv vv : Value} {v : V} {clock : Nat} (hk : Rv F w k kv) (hv : RV ρ F stk w v vv) : ∀ {es : List (D × Nat × V)} {us : List MapEntry} {es' : List (D × Nat × V)}, RE ρ F stk w es us → putE k clock v es = some es' →
    (findE k es = some none → RE ρ F stk w es' (us ++ [⟨kv, vv, clock⟩])) ∧
    (∀ j, (∃ e, es[j]? = some e ∧ keyEq k e.1 = some true) → (∀ i, i < j → ∀ e, es[i]? = some e → keyEq k e.1 = some false) → RE ρ F stk w es' (us.modify j fun e => { e with val := vv }))
  | [], us, es', h, he => by
    simp only [putE, Option.some.injEq] at he
    subst he
    simp only [RE] at h
    subst h
    refine ⟨fun _ => ?_, fun j ⟨e, h1, _⟩ => by simp at h1⟩
    simp only [List.nil_append, RE]
    exact ⟨_, [], rfl, hk, hv, rfl⟩
  | x :: r, us, es', h, he => by
    simp only [RE] at h
    obtain ⟨u, us', rfl, h1, h2, h3⟩ := h
    simp only [putE] at he
    split at he
    · rename_i hq
      cases he
      refine ⟨fun hf => by simp [findE, hq] at hf, fun j hj hmin => ?_⟩
      have : j = 0 := by
        rcases Nat.eq_zero_or_pos j with h | h
        · exact h
        · have := hmin 0 h x rfl
          rw [hq] at this; cases this
      subst this
      simp only [List.modify_zero_cons, RE]
      exact ⟨_, us', rfl, h1, hv, h3⟩
    · rename_i hq
      split at he <;> try (cases he; done)
      rename_i l hl
      cases he
      obtain ⟨i1, i2⟩ := RE_put (clock := clock) hk hv h3 hl
      refine ⟨fun hf => ?_, fun j hj hmin => ?_⟩
      · simp only [findE, hq] at hf
        simp only [List.cons_append, RE]
        exact ⟨u, _, rfl, h1, h2, i1 hf⟩
      · cases j with
        | zero =>
          obtain ⟨e, g1, g2⟩ := hj
          simp only [List.getElem?_cons_zero, Option.some.injEq] at g1
          subst g1
          rw [hq] at g2; cases g2
        | succ j =>
          simp only [List.modify_succ_cons, RE]
          refine ⟨u, _, rfl, h1, h2, i2 j (by simpa using hj) fun i hi e he => hmin (i + 1) (by omega) e (by simpa using he)⟩
    · cases he
theorem RE_at : ∀ {es : List (D × Nat × V)} {us : List MapEntry} {j : Nat} {x : D × Nat × V} {e : MapEntry}, RE ρ F stk w es us → es[j]? = some x → us[j]? = some e → Rv F w x.1 e.key
  | [], us, j, x, e, h, hx, he => by simp at hx
  | y :: r, us, j, x, e, h, hx, he => by
    simp only [RE] at h
    obtain ⟨u, us', rfl, h1, h2, h3⟩ := h
    cases j with
    | zero => simp only [List.getElem?_cons_zero, Option.some.injEq] at hx he; subst hx; subst he; exact h1
    | succ j => simp only [List.getElem?_cons_succ] at hx he; exact RE_at h3 hx he
theorem mapVals_put {k : D} {v : V} {clock : Nat} : ∀ {es es' : List (D × Nat × V)}, putE k clock v es = some es' → ∀ x ∈ mapVals es', x = v ∨ x ∈ mapVals es
  | [], es', h => by
    simp only [putE, Option.some.injEq] at h
    subst h
    intro x hx
    simp [mapVals] at hx
    exact .inl hx
  | e :: r, es', h => by
    simp only [putE] at h
    split at h
    · cases h
      intro x hx
      simp only [mapVals, List.map_cons, List.mem_cons] at hx ⊢
      rcases hx with hx | hx
      · exact .inl hx
      · exact .inr (.inr hx)
    · split at h <;> try (cases h; done)
      rename_i l hl
      cases h
      intro x hx
      simp only [mapVals, List.map_cons, List.mem_cons] at hx ⊢
      rcases hx with hx | hx
      · exact .inr (.inl hx)
      · rcases mapVals_put hl x hx with h | h
        · exact .inl h
        · exact .inr (.inr h)
    · cases h
theorem mR_mapUpd {op : Op} {sk : SK} {m k x : Opd} (h : mR P op (.mapUpd sk m k x) = true) : ∃ t kt e m' k' x', (op = .mapUpdate t m' k' x' ∨ op = .insert t m' k' x') ∧ P.underlying t = some (.map kt e) ∧ skOk P kt sk = true ∧ mO m' m = true ∧ mO k' k = true ∧ mO x' x = true := by
  cases op <;> try (simp only [mR, Bool.false_eq_true] at h; done)
  all_goals
    rename_i t m' k' x'
    simp only [mR, Bool.and_eq_true] at h
    obtain ⟨⟨⟨h1, h2⟩, h3⟩, h4⟩ := h
    cases hu : P.underlying t with
    | none => simp [hu] at h1
    | some d =>
      cases d <;> simp only [hu, Bool.false_eq_true] at h1
      first
        | exact ⟨_, _, _, _, _, _, .inl rfl, hu, h1, h2, h3, h4⟩
        | exact ⟨_, _, _, _, _, _, .inr rfl, hu, h1, h2, h3, h4⟩
theorem run_mapUpd {t kt et : TypeId} {kd : TypeDesc} {sk : SK} {b clock : Nat} {ents : Array MapEntry} {kv vv : Value} (hu : P.underlying t = some (.map kt et)) (hkd : P.underlying kt = some kd) (hs : skOk P kt sk = true)
    (hb : w.heap[b]? = some (.map ents clock)) :
    (Instr.findNow kd kv ents.toList 0 = some none → (Instr.mapUpdate t (.map (some b)) kv vv).run P w = .ok () (putB w b (.map (ents.push ⟨kv, vv, clock⟩) (clock + 1)))) ∧
    (∀ j u e, Instr.findNow kd kv ents.toList 0 = some (some (j, u)) → ents[j]? = some e → Instr.sameBits 10000 e.key kv = true → kv = e.key →
      ∃ ents', (Instr.mapUpdate t (.map (some b)) kv vv).run P w = .ok () (putB w b (.map ents' clock)) ∧ ents'.toList = ents.toList.modify j fun e => { e with val := vv }) := by
  refine ⟨fun h => ?_, fun j u e h he hsb hkv => ?_⟩
  · have g := run_findKey (P := P) (w := w) hkd h
    simp only [Instr.mapUpdate, Sem.run_bind, run_underlying hu, Result.andThen_ok, run_getM hb, run_checkKey hkd hs, g]
    exact run_setM hb (fun _ _ _ h => by cases h)
  · have g := run_findKey (P := P) (w := w) hkd h
    refine ⟨ents.modify j fun e => { e with key := kv, val := vv }, ?_, ?_⟩
    · simp only [Instr.mapUpdate, Sem.run_bind, run_underlying hu, Result.andThen_ok, run_getM hb, run_checkKey hkd hs, g, he, Option.map_some, Option.getD_some, Instr.keyThatStays, hsb, if_true, Sem.run_pure]
      exact run_setM hb (fun _ _ _ h => by cases h)
    · apply List.ext_getElem?
      intro i
      simp only [Array.getElem?_toList, Array.getElem?_modify, List.getElem?_modify]
      by_cases hij : j = i
      · subst hij
        simp [he, hkv]
      · simp [hij]
theorem r_mapUpd (hok : Ok ρ F stk w) (hG : Glob G F w) (hfr : RFr ρ F stk w fr a.tmps) {o : Oper} {sk : SK} {m k x : Opd} (hm : mR P o.op (.mapUpd sk m k x) = true) {r : Res}
    (he : evR (Sys.real T G call iter) o.dst fr stk (.mapUpd sk m k x) = some r) : ORes P ρ F stk w a o r := by
  simp only [evR] at he
  obtain ⟨t, kt, et, m', k', x', hop, hu, hs, h2, h3, h4⟩ := mR_mapUpd hm
  obtain ⟨kd, hkd⟩ : ∃ kd, P.underlying kt = some kd := by
    cases h : P.underlying kt with
    | none => cases sk <;> simp [skOk, h] at hs
    | some kd => exact ⟨kd, rfl⟩
  have hmv := ev_sound (T := T) (call := call) (iter := iter) hG hfr h2
  have hkv := ev_sound (T := T) (call := call) (iter := iter) hG hfr h3
  have hxv := ev_sound (T := T) (call := call) (iter := iter) hG hfr h4
  have run : ∀ w', (Instr.mapUpdate t (a.eval m') (a.eval k') (a.eval x')).run P w = .ok () w' → (execOp a.eval o).run P w = .ok .skip w' := by
    intro w' h
    rcases hop with hop | hop <;> simp only [execOp, hop, Sem.run_bind, h, Result.andThen_ok] <;> rfl
  split at he <;> try (cases he; done)
  rename_i l kk hl hkk
  rw [hl] at hmv
  rw [hkk] at hkv
  simp only [RV] at hmv hkv
  split at he <;> try (cases he; done)
  rename_i hik
  generalize x.ev (Sys.real T G call iter) fr = xv at he hxv
  split at he <;> try (cases he; done)
  rename_i hup
  split at he <;> try (cases he; done)
  rename_i clock es hg
  obtain ⟨ents, h5, h6⟩ := hok.objs l _ hg
  have hrun := run_mapUpd (P := P) (w := w) (kv := a.eval k') (vv := a.eval x') hu hkd hs h5
  have hlv := getO_lv hok.falls hg
  rw [hmv.1] at run
  split at he <;> try (cases he; done)
  · rename_i v0 es' hf hp
    cases he
    have hf' : findE kk es = some (some v0) := hf
    have hp' : putE kk clock xv es = some es' := hp
    obtain ⟨j, u, g1, g2, e, g3, g4, y, g5, g6, g7⟩ := findNow_E hkd hs hik hkv 0 h6 hf'
    rw [Nat.zero_add] at g1
    have hke := RE_at h6 g5 g3
    obtain ⟨s1, s2⟩ := sameBits_key hik hkv hke g6
    obtain ⟨ents', r1, r2⟩ := hrun.2 j u e g1 (by simpa using g3) s1 s2
    obtain ⟨q1, q2⟩ := set_sound (o' := .map clock es') (w' := putB w (ρ l).blk (.map ents' clock)) (ρ' := ρ) hok hg rfl rfl rfl (by rw [putB_size]; exact Nat.le_refl _) (fun b _ hb => putB_ne (hb (.inl rfl))) (fun _ _ => rfl) (fun _ => .inl ⟨rfl, .inl rfl⟩) (by simp [Turned]) (fun v hv => by
        rcases mapVals_put hp' v hv with h | h
        · subst h; exact hup
        · exact hok.scope l _ hg v h) (fun hm => by
        simp only [RO]
        refine ⟨ents', putB_same h5, ?_⟩
        rw [r2]
        have hx' := RV.moves (hm (topN stk + 1)) _ _ ((upto_mono hlv).1 _ hup) hxv
        have hes := RE.moves (hm (topN stk + 1)) es _ (fun v hv => (upto_mono hlv).1 v (hok.scope l _ hg v hv)) h6
        have hk' := Rv.keep (hm 0).keep _ _ hkv
        exact (RE_put (kv := a.eval k') (clock := clock) hk' hx' hes hp').2 j ⟨y, g5, g6⟩ g7)
    exact OV.of_run (run _ r1) (.inr ⟨rfl, rfl⟩) nums_set (q1 _) q2 trivial
  · rename_i es' hf hp
    cases he
    have hf' : findE kk es = some none := hf
    have hp' : putE kk clock xv es = some es' := hp
    have g1 := findNow_E hkd hs hik hkv 0 h6 hf'
    have r1 := hrun.1 g1
    obtain ⟨q1, q2⟩ := set_sound (o' := .map (clock + 1) es') (w' := putB w (ρ l).blk (.map (ents.push ⟨a.eval k', a.eval x', clock⟩) (clock + 1))) (ρ' := ρ) hok hg rfl rfl rfl (by rw [putB_size]; exact Nat.le_refl _) (fun b _ hb => putB_ne (hb (.inl rfl))) (fun _ _ => rfl) (fun _ => .inl ⟨rfl, .inl rfl⟩) (by simp [Turned]) (fun v hv => by
        rcases mapVals_put hp' v hv with h | h
        · subst h; exact hup
        · exact hok.scope l _ hg v h) (fun hm => by
        simp only [RO]
        refine ⟨_, putB_same h5, ?_⟩
        have hx' := RV.moves (hm (topN stk + 1)) _ _ ((upto_mono hlv).1 _ hup) hxv
        have hes := RE.moves (hm (topN stk + 1)) es _ (fun v hv => (upto_mono hlv).1 v (hok.scope l _ hg v hv)) h6
        have hk' := Rv.keep (hm 0).keep _ _ hkv
        have := (RE_put (kv := a.eval k') (clock := clock) hk' hx' hes hp').1 hf'
        simpa using this)
    exact OV.of_run (run _ r1) (.inr ⟨rfl, rfl⟩) nums_set (q1 _) q2 trivial

/-! ### A text's bytes -/
theorem row_of_str (s : Str) : Re F w 1 (s.map fun b => D.int .u8 b.toNat) (s.map fun b => Value.int .u8 b.toNat) := by
  induction s with
  | nil => simp [Re]
  | cons b r ih =>
    simp only [List.map_cons, Re]
    exact ⟨.int .u8 b.toNat, _, rfl, rfl, rfl, by simp [Rv], ih⟩
theorem r_bytes (hok : Ok ρ F stk w) (hG : Glob G F w) (hfr : RFr ρ F stk w fr a.tmps) {o : Oper} {y : Opd} (hm : mR P o.op (.conv .bytes y) = true) {r : Res}
    (he : evR (Sys.real T G call iter) o.dst fr stk (.conv .bytes y) = some r) : ORes P ρ F stk w a o r := by
  simp only [evR] at he
  cases hop : o.op <;> rw [hop] at hm <;> simp only [mR, Bool.false_eq_true] at hm
  rename_i s d x
  simp only [Bool.and_eq_true] at hm
  obtain ⟨⟨h1, h2⟩, h3⟩ := hm
  have hx := ev_sound (T := T) (call := call) (iter := iter) hG hfr h1
  cases hs : P.underlying s with
  | none => simp [hs] at h3
  | some ds =>
    cases ds <;> simp only [hs, Bool.false_eq_true] at h3
    cases hd : P.underlying d with
    | none => simp [hd] at h3
    | some dd =>
      cases dd <;> simp only [hd, Bool.false_eq_true] at h3
      rename_i e
      cases hee : P.underlying e with
      | none => simp [hee] at h3
      | some de =>
        cases de <;> simp only [hee, Bool.false_eq_true] at h3
        rename_i k
        cases k <;> simp only [Bool.false_eq_true] at h3
        split at he <;> try (cases he; done)
        rename_i b hv
        split at he <;> try (cases he; done)
        rename_i hfit
        rw [hv] at hx
        simp only [RV, Rv] at hx
        have hsz : (⟨⟨b⟩⟩ : ByteArray).size = b.length := rfl
        have hrun := run_bytes_of_string (P := P) w s d e ⟨⟨b⟩⟩ hs hd hee
        have hcap := grownCap_ge w b.length 0 e
        rw [hsz] at hrun
        have hbs : (bytesRow ⟨⟨b⟩⟩ (grownCap w b.length 0 e)).size = grownCap w b.length 0 e := by
          simp [bytesRow, hsz]; omega
        refine new_res (cap := grownCap w b.length 0 e) (w0 := w.drew) hok he ?_ rfl rfl rfl rfl rfl rfl rfl (by simp) (fun i hi => heap_alloc_old w.drew _ i hi) (by intro v hv; cases hv) ?_ ?_ (w' := w.drew.alloc (.cells (bytesRow ⟨⟨b⟩⟩ (grownCap w b.length 0 e)) e ((bytesRow ⟨⟨b⟩⟩ (grownCap w b.length 0 e)).size, (bytesRow ⟨⟨b⟩⟩ (grownCap w b.length 0 e)).size + 1))) (val := .slice (some ⟨w.heap.size, 0, none⟩) b.length (grownCap w b.length 0 e))
        · simp only [execOp, hop, hx, Sem.run_bind, hrun, Result.andThen_ok]; rfl
        · intro l stk' ρ' hmv hρ
          simp only [RO, hρ]
          refine .inr ⟨_, e, _, b.map (fun b => Value.int .u8 b.toNat), (Array.replicate (grownCap w b.length 0 e - b.length) (.int .u8 0)).toList, alloc_at w.drew _, ?_, Nat.one_pos, ?_, ?_, by rw [hbs]; simp, by show (b.map _).length ≤ _; simpa using hcap⟩
          · intro j hj
            simp; omega
          · exact row_of_str b
          · simp [bytesRow, hsz]
        · intro l stk' ρ' hρ hg
          simp only [RV, hρ]
          refine ⟨0, _, _, hg, ⟨_, _, rfl⟩, Nat.le_refl _, fun _ => ⟨_, _, rfl, hcap, by simp, fun _ => by simp⟩⟩
end
end Go.Abs
