import Derived.Test.YtbfnelnbjcfliaaAbs9
/-! The quiet operations, last part. -/
set_option linter.unusedVariables false
set_option linter.unusedSimpArgs false
namespace Go.Abs
section
variable {P : Program} {T : FuncId → Option RF} {G : Nat → Option (List D)} {call : CallF} {iter : (St → Rs) → St → Rs} {ρ : Rho} {F : Blks} {stk : Stk} {w : World} {fr : Fr} {a : Act}

/-! ### Maps -/
theorem bytes_beq (s t : Str) : ((⟨⟨s⟩⟩ : ByteArray) == ⟨⟨t⟩⟩) = (s == t) := by
  rw [beq_toListBytes, toL, toL]
theorem sameNow_sound {t : TypeId} {d : TypeDesc} {sk : SK} {k x : D} {kv u : Value} {b : Bool} (hu : P.underlying t = some d) (hs : skOk P t sk = true) (hi : isKey sk k = true) (hk : Rv F w k kv) (hx : Rv F w x u) (h : keyEq k x = some b) :
    Instr.sameNow d kv u = some b := by
  cases sk <;> simp only [skOk, hu] at hs <;> cases d <;> simp only [Bool.false_eq_true] at hs <;> cases k <;> simp only [isKey, Bool.false_eq_true] at hi <;> cases x <;> simp only [keyEq] at h <;> try (cases h; done)
  · split at h <;> try (cases h; done)
    rename_i hk'
    cases h
    subst hk'
    simp only [Rv] at hk hx
    subst hk; subst hx
    simp [Instr.sameNow]
  · cases h
    simp only [Rv] at hk hx
    subst hk; subst hx
    simp only [Instr.sameNow, Option.some.injEq]
    exact bytes_beq _ _
  · cases h
    simp only [Rv] at hk hx
    subst hk; subst hx
    simp [Instr.sameNow]
theorem findNow_E {t : TypeId} {d : TypeDesc} {sk : SK} {k : D} {kv : Value} (hu : P.underlying t = some d) (hs : skOk P t sk = true) (hi : isKey sk k = true) (hk : Rv F w k kv) :
    ∀ {es : List (D × Nat × V)} {us : List MapEntry} {r : Option V} (i : Nat), RE ρ F stk w es us → findE k es = some r →
      match r with
      | none => Instr.findNow d kv us i = some none
      | some v => ∃ j u, Instr.findNow d kv us i = some (some (i + j, u)) ∧ RV ρ F stk w v u ∧ ∃ e, us[j]? = some e ∧ e.val = u ∧ ∃ x, es[j]? = some x ∧ keyEq k x.1 = some true ∧ ∀ i', i' < j → ∀ y, es[i']? = some y → keyEq k y.1 = some false
  | [], us, r, i, he, h => by
    simp only [findE, Option.some.injEq] at h
    subst h
    simp only [RE] at he
    subst he
    rfl
  | x :: es, us, r, i, he, h => by
    simp only [RE] at he
    obtain ⟨e, us', rfl, h1, h2, h3⟩ := he
    simp only [findE] at h
    split at h
    · rename_i hq
      cases h
      have := sameNow_sound hu hs hi hk h1 hq
      simp only [Instr.findNow, this]
      exact ⟨0, e.val, rfl, h2, e, rfl, rfl, x, rfl, hq, fun i' hi' => by omega⟩
    · rename_i hq
      have := sameNow_sound hu hs hi hk h1 hq
      have ih := findNow_E hu hs hi hk (i + 1) h3 h
      simp only [Instr.findNow, this]
      cases r with
      | none => exact ih
      | some v =>
        obtain ⟨j, u, g1, g2, e', g3, g4, x', g5, g6, g7⟩ := ih
        refine ⟨j + 1, u, by rw [g1]; congr 3; omega, g2, e', by simpa using g3, g4, x', by simpa using g5, g6, fun i' hi' y hy => ?_⟩
        cases i' with
        | zero => simp only [List.getElem?_cons_zero, Option.some.injEq] at hy; subst hy; exact hq
        | succ i' => exact g7 i' (by omega) y (by simpa using hy)
    · cases h
theorem findNow_K {t : TypeId} {d : TypeDesc} {sk : SK} {k : D} {kv : Value} (hu : P.underlying t = some d) (hs : skOk P t sk = true) (hi : isKey sk k = true) (hk : Rv F w k kv) :
    ∀ {ks vs : List D} {us : List MapEntry} {r : Option D} (i : Nat), Rk F w ks us → Rm F w vs us → findK k ks vs = some r →
      match r with
      | none => Instr.findNow d kv us i = some none
      | some v => ∃ j u, Instr.findNow d kv us i = some (some (j, u)) ∧ Rv F w v u
  | [], vs, us, r, i, he, hv, h => by
    simp only [findK, Option.some.injEq] at h
    subst h
    simp only [Rk] at he
    subst he
    rfl
  | x :: ks, [], us, r, i, he, hv, h => by simp [findK] at h
  | x :: ks, y :: vs, us, r, i, he, hv, h => by
    simp only [Rk] at he
    obtain ⟨e, us', rfl, h1, h3⟩ := he
    simp only [Rm] at hv
    obtain ⟨e', us'', heq, h2, h4⟩ := hv
    cases heq
    simp only [findK] at h
    split at h
    · rename_i hq
      cases h
      have := sameNow_sound hu hs hi hk h1 hq
      simp only [Instr.findNow, this]
      exact ⟨i, e.val, rfl, h2⟩
    · rename_i hq
      have := sameNow_sound hu hs hi hk h1 hq
      have ih := findNow_K hu hs hi hk (i + 1) h3 h4 h
      simp only [Instr.findNow, this]
      exact ih
    · cases h
theorem run_checkKey {t : TypeId} {d : TypeDesc} {sk : SK} {kv : Value} {b : Bool} (hu : P.underlying t = some d) (hs : skOk P t sk = true) : (Instr.checkKey b 10000 t kv).run P w = .ok () w := by
  exact go 9999
where
  go (n : Nat) : (Instr.checkKey b (n + 1) t kv).run P w = .ok () w := by
    simp only [Instr.checkKey, Sem.run_bind, run_underlying hu, Result.andThen_ok]
    cases sk <;> simp only [skOk, hu] at hs <;> cases d <;> simp only [Bool.false_eq_true] at hs <;> rfl
theorem run_findKey {t : TypeId} {d : TypeDesc} {kv : Value} {es : List MapEntry} {r : Option (Nat × Value)} (hu : P.underlying t = some d) (h : Instr.findNow d kv es 0 = some r) : (Instr.findKey t kv es).run P w = .ok r w := by
  simp [Instr.findKey, Sem.run_bind, run_underlying hu, h]
theorem isKey_Rv {sk : SK} {k : D} (h : isKey sk k = true) : True := trivial

def zr (z : D) (ok : Bool) : V := match ok with | true => .d (.tup [z, .bool false]) | false => .d z
theorem q_lookup (hok : Ok ρ F stk w) (hG : Glob G F w) (hfr : RFr ρ F stk w fr a.tmps) {o : Oper} {sk : SK} {z : D} {ok : Bool} {m k : Opd} (hm : mR P o.op (.lookup sk z ok m k) = true) {v : V}
    (he : evQ (Sys.real T G call iter) stk fr (.lookup sk z ok m k) = some v) : QR P ρ F stk w v (execOp a.eval o) := by
  obtain ⟨dst, op', type, pos, after, guard⟩ := o
  cases op' <;> simp only [mR, Bool.false_eq_true] at hm
  rename_i t x i ok'
  simp only [Bool.and_eq_true, beq_iff_eq] at hm
  obtain ⟨⟨⟨rfl, h1⟩, h2⟩, h3⟩ := hm
  have hx := ev_sound (T := T) (call := call) (iter := iter) hG hfr h2
  have hk := ev_sound (T := T) (call := call) (iter := iter) hG hfr h3
  cases hu : P.underlying t with
  | none => simp [hu] at h1
  | some d =>
    cases d <;> simp only [hu, Bool.false_eq_true] at h1
    rename_i kt et
    simp only [Bool.and_eq_true] at h1
    obtain ⟨hs, hz⟩ := h1
    obtain ⟨zv, hz1, hz2⟩ := run_zero (w := w) F hz
    obtain ⟨kd, hkd⟩ : ∃ kd, P.underlying kt = some kd := by
      cases h : P.underlying kt with
      | none => cases sk <;> simp [skOk, h] at hs
      | some kd => exact ⟨kd, rfl⟩
    -- what is handed back
    have fin : ∀ (es : Array MapEntry) (r : Option (Nat × Value)), ((∃ b, a.eval x = .map (some b) ∧ ∃ c, w.heap[b]? = some (.map es c)) ∨ (a.eval x = .map none ∧ es = #[])) → Instr.findNow kd (a.eval i) es.toList 0 = some r →
        (execOp a.eval ⟨dst, .lookup t x i ok', type, pos, after, guard⟩).run P w = .ok (.value (match r with | some (_, u) => if ok' then .tuple #[u, .bool true] else u | none => if ok' then .tuple #[zv, .bool false] else zv)) w := by
      intro es r h4 h5
      have g := run_findKey (P := P) (w := w) hkd h5
      rcases h4 with ⟨b, hb, c, hh⟩ | ⟨hb, rfl⟩
      · simp only [execOp, Instr.lookup, hb, Sem.run_bind, run_underlying hu, Result.andThen_ok, run_getM hh, Sem.run_pure, run_checkKey hkd hs, g]
        cases r with
        | none => simp [hz1]
        | some p => obtain ⟨_, u⟩ := p; simp
      · simp only [execOp, Instr.lookup, hb, Sem.run_bind, run_underlying hu, Result.andThen_ok, Sem.run_pure, run_checkKey hkd hs, g]
        cases r with
        | none => simp [hz1]
        | some p => obtain ⟨_, u⟩ := p; simp
    have rz : RV ρ F stk w (zr z ok') (if ok' then .tuple #[zv, .bool false] else zv) := by
      cases ok' with
      | true => simp only [zr, if_true, RV, Rv]; exact ⟨_, rfl, by simp [Rt, Rv, hz2]⟩
      | false => simpa [zr, RV] using hz2
    simp only [evQ] at he
    split at he <;> try (cases he; done)
    rename_i kd' hk'
    rw [hk'] at hk
    simp only [RV] at hk
    split at he <;> try (cases he; done)
    rename_i hik
    split at he <;> try (cases he; done)
    · rename_i l hv
      rw [hv] at hx
      simp only [RV] at hx
      split at he <;> try (cases he; done)
      rename_i c es hg
      obtain ⟨ents, h4, h5⟩ := hok.objs l _ hg
      split at he <;> try (cases he; done)
      · rename_i v0 hf
        have hf' : findE kd' es = some (some v0) := hf
        obtain ⟨j, u, g1, g2, _⟩ := findNow_E hkd hs hik hk 0 h5 hf'
        cases he
        refine QR.same hok (fin ents _ (.inl ⟨_, hx.1, c, h4⟩) g1) ?_
        cases ok' with
        | true =>
          have : RVt ρ F stk w [v0, .d (.bool true)] [u, .bool true] := by simp [RVt, RV, Rv, g2]
          exact mkTup_sound this
        | false => exact g2
      · rename_i hf
        have hf' : findE kd' es = some none := hf
        have g1 := findNow_E hkd hs hik hk 0 h5 hf'
        cases he
        exact QR.same hok (fin ents none (.inl ⟨_, hx.1, c, h4⟩) g1) rz
    · rename_i ks vs hv
      rw [hv] at hx
      simp only [RV, Rv] at hx
      obtain ⟨r, es, clock, hx, _, hh, h5, h6⟩ := hx
      split at he <;> try (cases he; done)
      · rename_i v0 hf
        have hf' : findK kd' ks vs = some (some v0) := hf
        obtain ⟨j, u, g1, g2⟩ := findNow_K hkd hs hik hk 0 h5 h6 hf'
        cases he
        refine QR.same hok (fin es _ (.inl ⟨_, hx, _, hh⟩) g1) ?_
        cases ok' with
        | true => simp only [if_true, RV, Rv]; exact ⟨_, rfl, by simp [Rt, Rv, g2]⟩
        | false => simpa [RV] using g2
      · rename_i hf
        have hf' : findK kd' ks vs = some none := hf
        have g1 := findNow_K hkd hs hik hk 0 h5 h6 hf'
        cases he
        exact QR.same hok (fin es none (.inl ⟨_, hx, _, hh⟩) g1) rz
    · rename_i hv
      rw [hv] at hx
      simp only [RV, Rv] at hx
      cases he
      exact QR.same hok (fin #[] none (.inr ⟨hx, rfl⟩) rfl) rz

/-! ### Literals -/
def relP (place : Nat → Option (Nat × Nat)) : List (Nat × Operand) → List (Nat × Nat × Opd) → Prop
  | [], [] => True
  | (i, x) :: r, (off, sz, y) :: s => place i = some (off, sz) ∧ mO x y = true ∧ relP place r s
  | _, _ => False
theorem RVl_splice {cs xs : List V} {us vs : List Value} (h : RVl ρ F stk w cs us) (k : RVl ρ F stk w xs vs) (off : Nat) : RVl ρ F stk w (splice cs off xs) (splice us off vs) := by
  unfold splice
  rw [RVl_len k]
  exact RVl_append (RVl_append (RVl_take off h) k) (RVl_drop _ h)
theorem foldl_splice (off : Nat) (vs : Array Value) (cs : Array Value) (hle : off + vs.size ≤ cs.size) :
    (vs.zipIdx.foldl (fun cs (x : Value × Nat) => cs.setIfInBounds (off + x.2) x.1) cs).toList = splice cs.toList off vs.toList := by
  obtain ⟨h1, h2⟩ := Great.foldl_set off vs.toList 0 cs
  rw [← Array.foldl_toList, Array.toList_zipIdx]
  apply List.ext_getElem?
  intro k
  have e := h2 k
  rw [Array.getElem?_toList, e]
  unfold splice
  simp only [Nat.add_zero, Array.length_toList]
  by_cases hk : off ≤ k ∧ k < off + vs.size ∧ k < cs.size
  · rw [if_pos hk, List.append_assoc, List.getElem?_append_right (by simp; omega), List.getElem?_append_left (by simp; omega)]
    congr 1
    simp; omega
  · rw [if_neg hk]
    by_cases hlt : k < off
    · rw [List.append_assoc, List.getElem?_append_left (by simp; omega), List.getElem?_take, if_pos hlt]; simp
    · rw [List.getElem?_append_right (by simp; omega), List.getElem?_drop]
      simp only [Array.getElem?_toList]
      congr 1
      simp; omega
theorem fill_sound (hG : Glob G F w) (hfr : RFr ρ F stk w fr a.tmps) {place : Nat → Option (Nat × Nat)} : ∀ {ps : List (Nat × Operand)} {qs : List (Nat × Nat × Opd)} {cs cs' : List V} {ws : Array Value},
    relP place ps qs → RVl ρ F stk w cs ws.toList → fill cs (evP (Sys.real T G call iter) fr qs) = some cs' →
    ∃ ws', Instr.fill place ws (ps.map fun (i, x) => (i, a.eval x)) = some ws' ∧ RVl ρ F stk w cs' ws'.toList
  | [], [], cs, cs', ws, _, h, he => by
    simp only [evP, fill, Option.some.injEq] at he
    subst he
    exact ⟨ws, rfl, h⟩
  | [], _ :: _, cs, cs', ws, hp, h, he => by simp [relP] at hp
  | _ :: _, [], cs, cs', ws, hp, h, he => by simp [relP] at hp
  | (i, x) :: ps, (off, sz, y) :: qs, cs, cs', ws, hp, h, he => by
    obtain ⟨h1, h2, h3⟩ := hp
    simp only [evP, fill] at he
    split at he <;> try (cases he; done)
    rename_i hf
    split at he <;> try (cases he; done)
    rename_i hsz
    split at he <;> try (cases he; done)
    rename_i hle
    have hc := flat_cells hf (ev_sound (T := T) (call := call) (iter := iter) hG hfr h2)
    have hl1 := RVl_len hc
    have hl2 := RVl_len h
    simp only [Array.length_toList] at hl1 hl2
    simp only [List.map_cons, Instr.fill, h1]
    rw [if_neg (by simp; omega)]
    refine fill_sound hG hfr h3 ?_ he
    rw [foldl_splice off _ ws (by omega)]
    exact RVl_splice h hc off
theorem relP_field {fields : Array Field} {places : List (Nat × Nat)} (hp : fields.toList.mapM (fun f => (P.info? f.type).map fun i => (f.offset, i.size)) = some places) :
    ∀ {ps : List (Nat × Operand)} {qs : List (Nat × Nat × Opd)}, mField P fields ps qs = true → relP (places.toArray[·]?) ps qs
  | [], [], _ => trivial
  | [], _ :: _, h => by simp [mField] at h
  | _ :: _, [], h => by simp [mField] at h
  | (i, x) :: ps, (off, sz, y) :: qs, h => by
    simp only [mField, Bool.and_eq_true] at h
    obtain ⟨⟨h1, h2⟩, h3⟩ := h
    refine ⟨?_, h2, relP_field hp h3⟩
    cases hf : fields[i]? with
    | none => simp [hf] at h1
    | some f =>
      simp only [hf, Bool.and_eq_true, beq_iff_eq] at h1
      obtain ⟨rfl, h5⟩ := h1
      obtain ⟨inf, g1, g2⟩ := tSz_info h5
      have key : ∀ (fs : List Field) (pl : List (Nat × Nat)) (i : Nat), fs.mapM (fun f => (P.info? f.type).map fun i => (f.offset, i.size)) = some pl → fs[i]? = some f → pl[i]? = some (f.offset, sz) := by
        intro fs
        induction fs with
        | nil => intro pl i _ h; simp at h
        | cons f0 fs ih =>
          intro pl i h k
          simp only [List.mapM_cons, Option.bind_eq_bind, Option.pure_def] at h
          cases hi : P.info? f0.type with
          | none => simp [hi] at h
          | some i0 =>
            cases hr : fs.mapM (fun f => (P.info? f.type).map fun i => (f.offset, i.size)) with
            | none => simp [hi, hr] at h
            | some rest =>
              simp [hi, hr] at h
              subst h
              cases i with
              | zero =>
                simp only [List.getElem?_cons_zero, Option.some.injEq] at k ⊢
                subst k
                rw [g1] at hi
                cases hi
                rw [g2]
              | succ i => simp only [List.getElem?_cons_succ] at k ⊢; exact ih rest i hr k
      have := key fields.toList places i hp (by simpa using hf)
      simpa using this
theorem relP_elem {size : Nat} : ∀ {ps : List (Nat × Operand)} {qs : List (Nat × Nat × Opd)}, mElem size ps qs = true → relP (fun i => some (i * size, size)) ps qs
  | [], [], _ => trivial
  | [], _ :: _, h => by simp [mElem] at h
  | _ :: _, [], h => by simp [mElem] at h
  | (i, x) :: ps, (off, sz, y) :: qs, h => by
    simp only [mElem, Bool.and_eq_true, beq_iff_eq] at h
    obtain ⟨⟨⟨h1, h2⟩, h3⟩, h4⟩ := h
    exact ⟨by simp only [h1, h2], h3, relP_elem h4⟩

theorem q_build (hok : Ok ρ F stk w) (hG : Glob G F w) (hfr : RFr ρ F stk w fr a.tmps) {o : Oper} {z : List D} {qs : List (Nat × Nat × Opd)} (hm : mR P o.op (.build z qs) = true) {v : V}
    (he : evQ (Sys.real T G call iter) stk fr (.build z qs) = some v) : QR P ρ F stk w v (execOp a.eval o) := by
  obtain ⟨dst, op', type, pos, after, guard⟩ := o
  cases op' <;> simp only [mR, Bool.false_eq_true] at hm
  rename_i t ps
  simp only [Bool.and_eq_true] at hm
  obtain ⟨h1, h2⟩ := hm
  simp only [evQ] at he
  split at he <;> try (cases he; done)
  rename_i cs hcs
  cases he
  unfold tZeros at h1
  split at h1 <;> try (cases h1; done)
  rename_i it hit
  split at h1 <;> try (cases h1; done)
  rename_i zv hzv
  simp only [Bool.and_eq_true] at h1
  have hz : RVl ρ F stk w (z.map .d) zv.cells.toList := RVl_of_Rl (isDl_sound F w _ z h1.1 h1.2)
  have fin : ∀ ws : Array Value, RVl ρ F stk w cs ws.toList → P.built t (ps.map fun (i, x) => (i, a.eval x)).toList = some ws → QR P ρ F stk w (mkAgg cs) (execOp a.eval ⟨dst, .build t ps, type, pos, after, guard⟩) := by
    intro ws h4 h5
    refine QR.same hok (v' := .agg ws) ?_ ?_
    · simp only [execOp, Sem.run_bind, run_build w t _ ws h5, Result.andThen_ok]
      rfl
    · have := mkAgg_sound h4
      simpa using this
  cases hu : P.underlying t with
  | none => simp [hu] at h2
  | some d =>
    cases d <;> simp only [hu, Bool.false_eq_true] at h2
    · -- an array
      rename_i n e
      cases hi : P.info? e with
      | none => simp [hi] at h2
      | some ie =>
        simp only [hi] at h2
        obtain ⟨ws, g1, g2⟩ := fill_sound hG hfr (relP_elem h2) hz hcs
        refine fin ws g2 ?_
        unfold Program.built
        simp only [hit, hu, hzv, hi, Array.toList_map]
        exact g1
    · -- a struct
      rename_i fields
      simp only [Bool.and_eq_true] at h2
      have hpl : ∃ places, fields.toList.mapM (fun f => (P.info? f.type).map fun i => (f.offset, i.size)) = some places := by
        have hall : ∀ f ∈ fields.toList, (P.info? f.type).isSome = true := by
          have := h2.1
          rw [Array.all_eq_true'] at this
          intro f hf
          exact this f (by simpa using hf)
        generalize fields.toList = l at hall
        induction l with
        | nil => exact ⟨[], rfl⟩
        | cons f r ih =>
          obtain ⟨pl, hpl⟩ := ih fun g hg => hall g (List.mem_cons_of_mem _ hg)
          obtain ⟨i, hi⟩ := Option.isSome_iff_exists.1 (hall f List.mem_cons_self)
          exact ⟨(f.offset, i.size) :: pl, by simp [List.mapM_cons, hi, hpl]⟩
      obtain ⟨places, hp⟩ := hpl
      obtain ⟨ws, g1, g2⟩ := fill_sound hG hfr (relP_field hp h2.2) hz hcs
      refine fin ws g2 ?_
      unfold Program.built
      simp only [hit, hu, hzv, hp, Array.toList_map]
      exact g1

/-! ### Slice literals -/
theorem allSz_cons {esz : Nat} {x : D} {r : List D} (h : allSz esz (x :: r) = true) : D.flat x = true ∧ x.cells.length = esz ∧ allSz esz r = true := by
  simp only [allSz, List.all_cons, Bool.and_eq_true, decide_eq_true_eq] at h ⊢
  exact ⟨h.1.1, h.1.2, h.2⟩
theorem row_sound {esz : Nat} : ∀ {ds : List D} {us : List Value}, allSz esz ds = true → Rt F w ds us → (∀ u ∈ us, u.cells.size = esz) ∧ Re F w esz ds (us.flatMap fun v => v.cells.toList)
  | [], us, _, h => by simp only [Rt] at h; subst h; simp [Re]
  | x :: ds, us, ha, h => by
    simp only [Rt] at h
    obtain ⟨u, us', rfl, h1, h2⟩ := h
    obtain ⟨a1, a2, a3⟩ := allSz_cons ha
    obtain ⟨i1, i2⟩ := row_sound a3 h2
    have hc := dflat_cells a1 h1
    have hl := Rl_len hc
    simp only [Array.length_toList] at hl
    refine ⟨fun v hv => ?_, ?_⟩
    · rcases List.mem_cons.1 hv with rfl | hv
      · omega
      · exact i1 v hv
    · simp only [Re, List.flatMap_cons]
      exact ⟨u, _, rfl, by omega, List.all_eq_true.2 (Rl_one hc), h1, i2⟩
theorem mRow_parts : ∀ {n : Nat} {ps : List (Nat × Operand)} {ys : List Opd}, mRow n ps ys = true → ∃ xs : List Operand, ps = (xs.zipIdx n).map (fun x => (x.2, x.1)) ∧ mL xs ys = true
  | n, [], [], _ => ⟨[], rfl, rfl⟩
  | n, [], _ :: _, h => by simp [mRow] at h
  | n, _ :: _, [], h => by simp [mRow] at h
  | n, (i, x) :: r, y :: s, h => by
    simp only [mRow, Bool.and_eq_true, beq_iff_eq] at h
    obtain ⟨⟨rfl, h2⟩, h3⟩ := h
    obtain ⟨xs, rfl, h4⟩ := mRow_parts h3
    exact ⟨x :: xs, rfl, by simp [mL, h2, h4]⟩
/-- What a slice literal lays. -/
theorem lit_run (hG : Glob G F w) (hfr : RFr ρ F stk w fr a.tmps) {o : Oper} {esz : Nat} {ys : List Opd} (hm : mR P o.op (.ilit esz ys) = true) {ds : List D} (hd : allD (evL (Sys.real T G call iter) fr ys) = some ds) (hs : allSz esz ds = true) :
    ∃ ws e, (execOp a.eval o).run P w = .ok (.value (.slice (some ⟨w.heap.size, 0, none⟩) ds.length ds.length)) (w.alloc (.cells ws e)) ∧ 0 < esz ∧ Re F w esz ds ws.toList := by
  obtain ⟨dst, op', type, pos, after, guard⟩ := o
  cases op' <;> simp only [mR, Bool.false_eq_true] at hm
  rename_i t n ps
  simp only [Bool.and_eq_true, beq_iff_eq] at hm
  obtain ⟨⟨h1, h2⟩, h3⟩ := hm
  cases hu : P.underlying t with
  | none => simp [hu] at h1
  | some d =>
    cases d <;> simp only [hu, Bool.false_eq_true] at h1
    rename_i e
    simp only [Bool.and_eq_true, decide_eq_true_eq] at h1
    obtain ⟨⟨⟨h4, h5⟩, h6⟩, h7⟩ := h1
    obtain ⟨ie, g1, g2⟩ := tSz_info h4
    simp only [g1] at h7
    cases hz : ie.zero with
    | none => simp [hz] at h7
    | some zv =>
      simp only [hz, beq_iff_eq] at h7
      obtain ⟨xs, hps, hml⟩ := mRow_parts h2
      have hrt : Rt F w ds (xs.map a.eval) := Rt_of_allD hd (evL_sound hG hfr hml)
      obtain ⟨r1, r2⟩ := row_sound hs hrt
      have hlen : (xs.map a.eval).length = n := by
        rw [← h3, ← Array.length_toList, hps]; simp
      have hdl : ds.length = n := by
        have : ∀ {ds : List D} {us : List Value}, Rt F w ds us → us.length = ds.length := by
          intro ds
          induction ds with
          | nil => intro us h; simp only [Rt] at h; simp [h]
          | cons x r ih => intro us h; simp only [Rt] at h; obtain ⟨u, us', rfl, _, h2⟩ := h; simp [ih h2]
        rw [← this hrt, hlen]
      subst g2
      have hparts : (ps.map fun (i, x) => (i, a.eval x)).toList = ((xs.map a.eval).zipIdx 0).map fun x => (x.2, x.1) := by
        rw [Array.toList_map, hps, List.zipIdx_map, List.map_map, List.map_map]
        rfl
      by_cases hn : n = 0
      · subst hn
        have hx : xs = [] := by simpa using hlen
        subst hx
        have hd0 : ds = [] := List.eq_nil_of_length_eq_zero hdl
        subst hd0
        have hp0 : ps = #[] := by simpa using hps
        subst hp0
        refine ⟨#[], e, ?_, h5, by simp [Re]⟩
        simp [execOp, Instr.buildSlice, Sem.run_bind, run_underlying hu, sizeOf, typeInfo, g1, Instr.fill, newRow]
        congr 2
        exact Array.ext (by simp) (by simp)
      · have hpos : ¬ n * ie.size = 0 := by
          intro h
          rcases Nat.mul_eq_zero.1 h with h | h
          · exact hn h
          · omega
        refine ⟨((xs.map a.eval).flatMap fun v => v.cells.toList).toArray, e, ?_, h5, by simpa using r2⟩
        have hf := Great.fill_whole h5 (xs.map a.eval) ((Array.range (n * ie.size)).map (zv.cells[· % zv.cells.size]!)) r1 (by simp only [Array.size_map, Array.size_range, hlen])
        rw [← hparts] at hf
        have := run_buildSlice (P := P) w t e n _ _ ie zv hu g1 hz (by omega) hpos hf
        simp only [execOp, Sem.run_bind, this, Result.andThen_ok, hdl]
        rfl
theorem q_ilit (hok : Ok ρ F stk w) (hG : Glob G F w) (hfr : RFr ρ F stk w fr a.tmps) {o : Oper} {esz : Nat} {ys : List Opd} (hm : mR P o.op (.ilit esz ys) = true) {v : V}
    (he : evQ (Sys.real T G call iter) stk fr (.ilit esz ys) = some v) : QR P ρ F stk w v (execOp a.eval o) := by
  simp only [evQ] at he
  split at he <;> try (cases he; done)
  rename_i ds hd
  split at he <;> try (cases he; done)
  rename_i hs
  cases he
  obtain ⟨ws, e, h1, h2, h3⟩ := lit_run (P := P) hG hfr hm hd hs
  obtain ⟨hgo, hok'⟩ := alloc_imm hok w rfl rfl rfl rfl (.cells ws e)
  refine ⟨_, _, _, h1, hgo, hok', ?_⟩
  simp only [RV, Rv]
  refine ⟨_, _, rfl, Nat.le_refl _, .inr ⟨w.heap.size, 0, esz, ws.toList, rfl, .inr rfl, h2, Re.keep ((hgo 0).keep hok) esz ds _ h3, ?_⟩⟩
  intro j u hj
  simpa using hj

/-- The quiet operations, all of them. -/
theorem evQ_sound (hok : Ok ρ F stk w) (hG : Glob G F w) (hfr : RFr ρ F stk w fr a.tmps) {o : Oper} {r : R} (hm : mR P o.op r = true) {v : V} (he : evQ (Sys.real T G call iter) stk fr r = some v) : QR P ρ F stk w v (execOp a.eval o) := by
  cases r
  case move => exact q_move hok hG hfr hm he
  case pick => exact q_pick hok hG hfr hm he
  case ibox => exact q_ibox hok hG hfr hm he
  case build => exact q_build hok hG hfr hm he
  case ilit => exact q_ilit hok hG hfr hm he
  case load => exact q_load hok hG hfr hm he
  case nilCheck => exact q_nilCheck hok hG hfr hm he
  case bin => exact q_bin hok hG hfr hm he
  case eq => exact q_eq hok hG hfr hm he
  case un => exact q_un hok hG hfr hm he
  case conv => exact q_conv hok hG hfr hm he
  case mkI => exact q_mkI hok hG hfr hm he
  case mkF => exact q_mkF hok hG hfr hm he
  case slice => exact q_slice hok hG hfr hm he
  case faddr => exact q_faddr hok hG hfr hm he
  case fld => exact q_fld hok hG hfr hm he
  case iaddr => exact q_iaddr hok hG hfr hm he
  case aaddr => exact q_aaddr hok hG hfr hm he
  case idx => exact q_idx hok hG hfr hm he
  case lookup => exact q_lookup hok hG hfr hm he
  case tassert => exact q_tassert hok hG hfr hm he
  case tasp => exact q_tasp hok hG hfr hm he
  case extract => exact q_extract hok hG hfr hm he
  case len => exact q_len hok hG hfr hm he
  case mm => exact q_mm hok hG hfr hm he
  all_goals (simp [evQ] at he)
end
end Go.Abs
