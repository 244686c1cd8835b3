import Derived.Test.YtbfnelnbjcfliaaAbs14v
import Derived.Recover
/-! Behind a call: the callee's level is taken off. -/
set_option linter.unusedVariables false
set_option linter.unusedSimpArgs false
namespace Go.Abs
section
variable {P : Program} {T : FuncId → Option RF} {G : Nat → Option (List D)} {call : CallF} {iter : (St → Rs) → St → Rs} {ρ : Rho} {F : Blks} {stk : Stk} {w : World} {fr : Fr} {a : Act} {c : Level} {s : Stk}

theorem topN_lt (h : Falls (c :: s)) (hs : s ≠ []) : topN s < c.n := by
  cases s with
  | nil => exact absurd rfl hs
  | cons c' s' => exact h.1 c' (by simp)
theorem getO_tail (h : Falls (c :: s)) {l : Lab} {o : O} (hg : getO s l = some o) : getO (c :: s) l = some o := by
  have h1 := getO_lv h.2 hg
  have h2 := topN_lt h (by rintro rfl; simp [getO] at hg)
  simp only [getO]
  rw [if_neg (by omega)]
  exact hg
theorem getO_below {l : Lab} (h : l.lv < c.n) : getO (c :: s) l = getO s l := by
  simp only [getO]
  rw [if_neg (by omega)]
/-- The top level's blocks. -/
def topB (ρ : Rho) (c : Level) : Blks := fun b => ∃ k o, getK k c.os = some o ∧ o.real ρ ⟨c.n, k⟩ ∧ (ρ ⟨c.n, k⟩).blk = b
def withTop (F : Blks) (ρ : Rho) (c : Level) : Blks := fun b => F b ∨ topB ρ c b
theorem has_top {k : List Nat} {o : O} (h : getK k c.os = some o) (hr : o.real ρ ⟨c.n, k⟩) : has ρ (c :: s) ⟨c.n, k⟩ := has_of (by simp [getO, h]) hr
theorem has_tail (h : Falls (c :: s)) {l : Lab} (hl : has ρ s l) : has ρ (c :: s) l := by
  obtain ⟨o, ho, hr⟩ := hl
  exact has_of (getO_tail h ho) hr
theorem drop_moves (hok : Ok ρ F (c :: s) w) {F' : Blks} (hF : ∀ b, F b → F' b) : Moves c.n ρ F (c :: s) w ρ F' s w :=
  ⟨⟨hF, fun _ _ => rfl⟩, fun l o hlv hg => ⟨o, by rw [← getO_below hlv]; exact hg, Turned.refl ρ l o⟩⟩
/-- The level is taken off; what lay on it is written no more. -/
theorem drop_sound (hok : Ok ρ F (c :: s) w) {F' : Blks} (hF : ∀ b, F b → F' b) (hF' : ∀ b, F' b → F b ∨ topB ρ c b) : Ok ρ F' s w ∧ Goes c.n ρ F (c :: s) w ρ F' s w := by
  have hmv := drop_moves hok hF
  refine ⟨{ objs := ?_, inj := ?_, sep := ?_, lt := ?_, falls := hok.falls.2, scope := ?_ }, ?_⟩
  · intro l o hg
    have h1 := getO_tail hok.falls hg
    have h2 := getO_lv hok.falls.2 hg
    have h3 := topN_lt hok.falls (by rintro rfl; simp [getO] at hg)
    have h4 : c.n = (c.n - 1) + 1 := by omega
    rw [h4] at hmv
    refine RO.moves hmv (fun v hv => ?_) rfl (fun _ => rfl) (hok.objs l o h1)
    exact (upto_mono (by omega)).1 v (hok.scope l o h1 v hv)
  · intro l l' h1 h2 hb
    exact hok.inj l l' (has_tail hok.falls h1) (has_tail hok.falls h2) hb
  · intro l hl hb
    have hl' := has_tail hok.falls hl
    rcases hF' _ hb with h | ⟨k, o, h1, hr, h2⟩
    · exact hok.sep l hl' h
    · have := hok.inj _ _ (has_top (s := s) h1 hr) hl' h2
      subst this
      have h3 := has_lv hok.falls.2 hl
      have h4 := topN_lt hok.falls (by rintro rfl; simp [has, getO] at hl)
      simp at h3; omega
  · intro b hb
    rcases hF' b hb with h | ⟨k, o, h1, hr, h2⟩
    · exact hok.lt b h
    · rw [← h2]; exact hok.blk_lt (has_top (s := s) h1 hr)
  · intro l o hg; exact hok.scope l o (getO_tail hok.falls hg)
  · exact
      { os := rfl, tape := rfl, output := rfl, size := Nat.le_refl _, frame := fun _ _ _ => rfl, sub := hF
        new := fun b hb => by
          rcases hF' b hb with h | ⟨k, o, h1, hr, h2⟩
          · exact .inl h
          · exact .inr (.inr ⟨_, has_top (s := s) h1 hr, h2⟩)
        own := fun l hl => .inr ⟨l, has_tail hok.falls hl, rfl⟩
        evol := fun l o hlv hg => ⟨o, by rw [← getO_below hlv]; exact hg, Turned.refl ρ l o⟩ }

/-! ### Freezing -/
theorem frzMap_sound {F' : Blks} (hF : ∀ b, F b → F' b) : ∀ {es : List (D × Nat × V)} {us : List MapEntry} {ks vs : List D}, RE ρ F stk w es us → frzMap es = some (ks, vs) → Rk F' w ks us ∧ Rm F' w vs us
  | [], us, ks, vs, h, hf => by
    simp only [frzMap, Option.some.injEq, Prod.mk.injEq] at hf
    obtain ⟨rfl, rfl⟩ := hf
    simp only [RE] at h
    subst h
    simp [Rk, Rm]
  | (k, n, v) :: r, us, ks, vs, h, hf => by
    simp only [RE] at h
    obtain ⟨u, us', rfl, h1, h2, h3⟩ := h
    cases v <;> simp only [frzMap] at hf <;> try (cases hf; done)
    split at hf <;> try (cases hf; done)
    rename_i ks' vs' hl
    cases hf
    obtain ⟨i1, i2⟩ := frzMap_sound hF h3 hl
    simp only [RV] at h2
    have hk : Keep F F' w w := ⟨hF, fun _ _ => rfl⟩
    simp only [Rk, Rm]
    exact ⟨⟨u, us', rfl, Rv.keep hk _ _ h1, i1⟩, ⟨u, us', rfl, Rv.keep hk _ _ h2, i2⟩⟩
theorem freeze_sound (hok : Ok ρ F (c :: s) w) : ∀ (k : Nat),
    (∀ (v : V) (u : Value) (x : D), RV ρ F (c :: s) w v u → freeze (Sys.real T G call iter) c k v = some x → Rv (withTop F ρ c) w x u) ∧
    (∀ (vs : List V) (us : List Value) (xs : List D), RVl ρ F (c :: s) w vs us → freezeL (Sys.real T G call iter) c k vs = some xs → Rl (withTop F ρ c) w xs us) ∧
    (∀ (vs : List V) (us : List Value) (xs : List D), RVt ρ F (c :: s) w vs us → freezeL (Sys.real T G call iter) c k vs = some xs → Rt (withTop F ρ c) w xs us)
  | 0 => ⟨fun v u x _ h => by simp [freeze] at h, fun vs us xs _ h => by simp [freezeL] at h, fun vs us xs _ h => by simp [freezeL] at h⟩
  | k + 1 => by
    obtain ⟨ih1, ih2, ih3⟩ := freeze_sound hok k
    have hsub : ∀ b, F b → withTop F ρ c b := fun b hb => .inl hb
    have hkeep : Keep F (withTop F ρ c) w w := ⟨hsub, fun _ _ => rfl⟩
    have hobj : ∀ {l : Lab} {o : O}, l.lv = c.n → getK l.key c.os = some o → getO (c :: s) l = some o ∧ (o.real ρ l → withTop F ρ c (ρ l).blk) := by
      intro l o h1 h2
      have : (⟨c.n, l.key⟩ : Lab) = l := by cases l; simp at h1; simp [h1]
      refine ⟨by simp [getO, h1, h2], fun hr => .inr ⟨l.key, o, h2, by rw [this]; exact hr, by rw [this]⟩⟩
    refine ⟨?_, ?_, ?_⟩
    · intro v u x hv hf
      cases v with
      | dead => simp [freeze] at hf
      | d x0 =>
        simp only [freeze, Option.some.injEq] at hf
        subst hf
        simp only [RV] at hv
        exact Rv.keep hkeep _ _ hv
      | agg cs =>
        simp only [freeze] at hf
        split at hf <;> try (cases hf; done)
        rename_i l hl
        cases hf
        simp only [RV] at hv
        obtain ⟨us, rfl, h⟩ := hv
        simp only [Rv]
        exact ⟨us, rfl, ih2 _ _ _ h hl⟩
      | tup cs =>
        simp only [freeze] at hf
        split at hf <;> try (cases hf; done)
        rename_i l hl
        cases hf
        simp only [RV] at hv
        obtain ⟨us, rfl, h⟩ := hv
        simp only [Rv]
        exact ⟨us, rfl, ih3 _ _ _ h hl⟩
      | ref l o =>
        simp only [freeze] at hf
        split at hf <;> try (cases hf; done)
        rename_i hlv
        split at hf <;> try (cases hf; done)
        rename_i cs hg
        split at hf <;> try (cases hf; done)
        rename_i hle
        split at hf <;> try (cases hf; done)
        rename_i xs hxs
        cases hf
        obtain ⟨h1, h2⟩ := hobj hlv hg
        obtain ⟨cc, e, h3, h4⟩ := hok.objs l _ h1
        simp only [RV] at hv
        simp only [Rv]
        refine ⟨(ρ l).blk, o, cc.toList.drop o, hv.1, h2 (.inl rfl), ih2 _ _ _ (RVl_drop o h4) hxs, ?_⟩
        intro j u hj
        rw [cell_of_row w _ _ cc e _ h3]
        rw [List.getElem?_drop] at hj; simpa using hj
      | eref l g i o =>
        simp only [freeze] at hf
        split at hf <;> try (cases hf; done)
        rename_i hlv
        split at hf <;> try (cases hf; done)
        rename_i g' esz xs hg
        split at hf <;> try (cases hf; done)
        rename_i hgg
        subst hgg
        split at hf <;> try (cases hf; done)
        rename_i y hy
        split at hf <;> try (cases hf; done)
        rename_i hle
        cases hf
        obtain ⟨h1, h2⟩ := hobj hlv hg
        obtain ⟨k0, cc, e, fz, ws, rest, k1, k2, k3, k4, k5, k6, k7⟩ := RO_arr (hok.objs l _ h1) (ne_get (show xs[i]? = some y from hy))
        simp only [RV] at hv
        obtain ⟨g', esz', xs', hg', _, _, hp⟩ := hv
        rw [h1] at hg'
        simp only [Option.some.injEq, O.arr.injEq] at hg'
        obtain ⟨rfl, rfl, rfl⟩ := hg'
        have hy' : xs[i]? = some y := hy
        obtain ⟨u0, g1, g2, g3, g4⟩ := Re_at k4 hy'
        have hcl := Rv_cells g3 g2
        have hul : u0.cells.toList.length = esz := by simpa using g1
        have hxl := Rl_len hcl
        have hws := Re_len k4
        have hi := (List.getElem?_eq_some_iff.1 hy').1
        have hseg : (cc.toList.drop (i * esz)).take esz = u0.cells.toList := by
          rw [k5, ← g4]
          have hmul : (i + 1) * esz ≤ xs.length * esz := Nat.mul_le_mul_right _ hi
          rw [Nat.add_mul, Nat.one_mul] at hmul
          rw [List.drop_append_of_le_length (by omega), List.take_append_of_le_length (by simp; omega)]
        simp only [Rv]
        refine ⟨(ρ l).blk, i * esz + o, u0.cells.toList.drop o, hp rfl, h2 (.inr k0), Rl.keep hkeep _ _ (Rl_drop o hcl), ?_⟩
        have hc := Cells_of_row (o := i * esz) (sz := esz) k1
        rw [hseg] at hc
        intro j u hj
        rw [List.getElem?_drop] at hj
        rw [Nat.add_assoc]
        exact hc _ u hj
      | msl l g o n =>
        simp only [freeze] at hf
        split at hf <;> try (cases hf; done)
        rename_i hlv
        split at hf <;> try (cases hf; done)
        rename_i g' esz xs hg
        split at hf <;> try (cases hf; done)
        rename_i hgg
        split at hf <;> try (cases hf; done)
        rename_i hle
        cases hf
        obtain ⟨h1, h2⟩ := hobj hlv hg
        simp only [RV] at hv
        obtain ⟨g2, esz', xs', hg', _, _, hp⟩ := hv
        rw [h1] at hg'
        simp only [Option.some.injEq, O.arr.injEq] at hg'
        obtain ⟨rfl, rfl, rfl⟩ := hg'
        obtain ⟨a0, c0, rfl, q1, q2, q3⟩ := hp hgg
        have hle' : o + n ≤ xs.length := by simpa [Sys.real] using hle
        have hcut : (Sys.real T G call iter).cut xs o ((Sys.real T G call iter).nadd o n) = (xs.drop o).take n := cut_eq xs o n
        rw [hcut]
        have hlen : ((xs.drop o).take n).length = n := by simp; omega
        simp only [Rv]
        refine ⟨a0, c0, by rw [hlen], by rw [hlen]; exact q1, ?_⟩
        by_cases hn : n = 0
        · subst hn; simp
        · right
          obtain ⟨k0, cc, e, fz, ws, rest, k1, k2, k3, k4, k5, k6, k7⟩ := RO_arr (hok.objs l _ h1) (by rintro rfl; simp at hle'; omega)
          have hws := Re_len k4
          refine ⟨(ρ l).blk, o * esz, esz, (ws.drop (o * esz)).take (n * esz), q3 (by omega), h2 (.inr k0), k3, Re.keep hkeep _ _ _ (Re_take n (Re_drop o k4)), ?_⟩
          have hc := Cells_of_row (o := o * esz) (sz := n * esz) k1
          rw [k5] at hc
          have hmul : (o + n) * esz ≤ xs.length * esz := Nat.mul_le_mul_right _ hle'
          rw [Nat.add_mul] at hmul
          rwa [List.drop_append_of_le_length (by omega), List.take_append_of_le_length (by simp; omega)] at hc
      | map l =>
        simp only [freeze] at hf
        split at hf <;> try (cases hf; done)
        rename_i hlv
        split at hf <;> try (cases hf; done)
        rename_i clock es hg
        split at hf <;> try (cases hf; done)
        rename_i ks vs hm
        cases hf
        obtain ⟨h1, h2⟩ := hobj hlv hg
        obtain ⟨ents, h3, h4⟩ := hok.objs l _ h1
        simp only [RV] at hv
        have hm' : frzMap es = some (ks, vs) := hm
        obtain ⟨i1, i2⟩ := frzMap_sound hsub h4 hm'
        simp only [Rv]
        exact ⟨(ρ l).blk, ents, clock, hv.1, h2 (.inl rfl), h3, i1, i2⟩
      | clos f a b =>
        simp only [freeze] at hf
        split at hf <;> try (cases hf; done)
        rename_i x y hx hy
        cases hf
        simp only [RV] at hv
        obtain ⟨fs, cs, rfl, h1, h2⟩ := hv
        simp only [Rv]
        exact ⟨fs, cs, rfl, ih3 _ _ _ h1 hx, ih3 _ _ _ h2 hy⟩
      | iface t v =>
        simp only [freeze] at hf
        split at hf <;> try (cases hf; done)
        rename_i x hx
        cases hf
        simp only [RV] at hv
        obtain ⟨u, rfl, h1⟩ := hv
        simp only [Rv]
        exact ⟨u, rfl, ih1 _ _ _ h1 hx⟩
    · intro vs us xs hv hf
      cases vs with
      | nil =>
        simp only [freezeL, Option.some.injEq] at hf
        subst hf
        simpa only [RVl, Rl] using hv
      | cons v r =>
        simp only [freezeL] at hf
        split at hf <;> try (cases hf; done)
        rename_i x l hx hl
        cases hf
        simp only [RVl] at hv
        obtain ⟨u, us', rfl, h1, h2, h3⟩ := hv
        simp only [Rl]
        exact ⟨u, us', rfl, h1, ih1 _ _ _ h2 hx, ih2 _ _ _ h3 hl⟩
    · intro vs us xs hv hf
      cases vs with
      | nil =>
        simp only [freezeL, Option.some.injEq] at hf
        subst hf
        simpa only [RVt, Rt] using hv
      | cons v r =>
        simp only [freezeL] at hf
        split at hf <;> try (cases hf; done)
        rename_i x l hx hl
        cases hf
        simp only [RVt] at hv
        obtain ⟨u, us', rfl, h2, h3⟩ := hv
        simp only [Rt]
        exact ⟨u, us', rfl, ih1 _ _ _ h2 hx, ih3 _ _ _ h3 hl⟩

/-! ### What a call gives -/
def OutE (ρ : Rho) (F : Blks) (stk : Stk) (w : World) : Out → Ending → Prop
  | .ret v, .returned u => RV ρ F stk w v u
  | .pan x, .panicked ch => ∃ xv, ch = [{ v := xv, recovered := false }] ∧ Rv F w x xv
  | _, _ => False
def Ends (ρ : Rho) (F : Blks) (stk : Stk) (w : World) (out : Out) (stk' : Stk) (e : Ending) (w' : World) : Prop :=
  ∃ ρ' F', Goes (topN stk + 1) ρ F stk w ρ' F' stk' w' ∧ Ok ρ' F' stk' w' ∧ nums stk' = (topN stk + 1) :: nums stk ∧
    OutE ρ' F' stk' w' out e
/-- What is recovered, by whom. -/
def Recs (u : FrameMode) (xv : Value) (u' : FrameMode) : Prop :=
  (u = .returning ∧ xv = .nilIface ∧ u' = .returning) ∨ (u = .panicking [{ v := xv, recovered := false }] ∧ u' = .panicking [{ v := xv, recovered := true }])
def CallOK (P : Program) (G : Nat → Option (List D)) (call : CallF) : Prop :=
  ∀ f vs stk out stk', call f vs stk = some (out, stk') →
    (f < hB → fnOk P f = true ∧ ∀ ρ F w args, Ok ρ F stk w → Glob G F w → RVt ρ F stk w vs args → Calls P f args.toArray w (Ends ρ F stk w out stk')) ∧
    (hB ≤ f → ∀ v, out = .ret v → ∃ x cs, vs = .d x :: cs ∧ ∃ fn, P.funcs[f - hB]? = some fn ∧ fn.body.isSome = true ∧ fn.name ≠ "runtime.NumGoroutine" ∧ ∀ ρ F w args, Ok ρ F stk w → Glob G F w → RVt ρ F stk w cs args → ∀ u xv u', Recs u xv u' → Rv F w x xv → CallsD P (f - hB) args.toArray u w fun e u2 w2 => u2 = u' ∧ Ends ρ F stk w out stk' e w2)
end
end Go.Abs
