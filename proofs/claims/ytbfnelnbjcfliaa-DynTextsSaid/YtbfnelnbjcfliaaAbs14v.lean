import Derived.Test.YtbfnelnbjcfliaaAbs14
/-! Slices that are nil yet, as arrays without room. -/
set_option linter.unusedVariables false
set_option linter.unusedSimpArgs false
namespace Go.Abs
section
variable {P : Program} {T : FuncId → Option RF} {G : Nat → Option (List D)} {call : CallF} {iter : (St → Rs) → St → Rs} {ρ : Rho} {F : Blks} {stk : Stk} {w : World} {fr : Fr} {a : Act}

theorem virtX_sound {n : Nat} {os : List (List Nat × O)} {s : Stk} (hok : Ok ρ F (⟨n, os⟩ :: s) w) {k : List Nat} {ob : O} (hk : getK k os = none) (hfx : ob.fixed = false) (hvs : ob.vals = []) (hro : ∀ (ρ' : Rho) (stk' : Stk), ρ' ⟨n, k⟩ = ⟨0, 0⟩ → RO ρ' F stk' w ⟨n, k⟩ ob) :
    (∀ m, Goes m ρ F (⟨n, os⟩ :: s) w (upd ρ ⟨n, k⟩ ⟨0, 0⟩) F (⟨n, os ++ [(k, ob)]⟩ :: s) w) ∧ Ok (upd ρ ⟨n, k⟩ ⟨0, 0⟩) F (⟨n, os ++ [(k, ob)]⟩ :: s) w ∧
      getO (⟨n, os ++ [(k, ob)]⟩ :: s) ⟨n, k⟩ = some ob := by
  have hnew : getO (⟨n, os ++ [(k, ob)]⟩ :: s) ⟨n, k⟩ = some ob := by
    simp [getO, getK_append, hk, getK]
  have hold0 : getO (⟨n, os⟩ :: s) ⟨n, k⟩ = none := by simp [getO, hk]
  have hold : ∀ l, l ≠ ⟨n, k⟩ → getO (⟨n, os ++ [(k, ob)]⟩ :: s) l = getO (⟨n, os⟩ :: s) l := by
    intro l hl
    simp only [getO]
    split
    · rename_i e
      rw [getK_append]
      cases h : getK l.key os with
      | some _ => rfl
      | none =>
        simp only [getK]
        rw [if_neg]
        intro hkk
        apply hl
        cases l
        simp only [Lab.mk.injEq]
        exact ⟨e, hkk⟩
    · rfl
  have hρ : ∀ l, l ≠ ⟨n, k⟩ → upd ρ ⟨n, k⟩ ⟨0, 0⟩ l = ρ l := fun l hl => by simp [upd, hl]
  have hρn : upd ρ ⟨n, k⟩ ⟨0, 0⟩ ⟨n, k⟩ = ⟨0, 0⟩ := by simp [upd]
  have hhas : ∀ l, has (upd ρ ⟨n, k⟩ ⟨0, 0⟩) (⟨n, os ++ [(k, ob)]⟩ :: s) l → l ≠ ⟨n, k⟩ ∧ has ρ (⟨n, os⟩ :: s) l := by
    intro l hl
    obtain ⟨o, ho, hr⟩ := hl
    have hne : l ≠ ⟨n, k⟩ := by
      rintro rfl
      rw [hnew] at ho; cases ho
      rcases hr with hr | hr
      · rw [hfx] at hr; cases hr
      · rw [hρn] at hr; exact hr rfl
    rw [hold l hne] at ho
    exact ⟨hne, o, ho, (O.real_eq (hρ l hne)).1 hr⟩
  have hne : ∀ l o1, getO (⟨n, os⟩ :: s) l = some o1 → l ≠ ⟨n, k⟩ := fun l o1 h e => by rw [e, hold0] at h; cases h
  have hgo : ∀ m, Goes m ρ F (⟨n, os⟩ :: s) w (upd ρ ⟨n, k⟩ ⟨0, 0⟩) F (⟨n, os ++ [(k, ob)]⟩ :: s) w := fun m =>
    { os := rfl, tape := rfl, output := rfl, size := Nat.le_refl _
      frame := fun b hb _ => rfl
      sub := fun b hb => hb
      new := fun b hb => .inl hb
      own := fun l hl => by
        obtain ⟨h1, h2⟩ := hhas l hl
        right; rw [hρ l h1]; exact ⟨l, h2, rfl⟩
      evol := fun l o1 _ h => by
        have e := hne l o1 h
        refine ⟨o1, by rw [hold l e]; exact h, ?_⟩
        cases o1 <;> simp [Turned, hρ l e] }
  have hmv := fun m => (hgo m).moves hok
  refine ⟨hgo, ?_, hnew⟩
  refine { objs := ?_, inj := ?_, sep := ?_, lt := hok.lt, falls := falls_nums (by simp [nums]) hok.falls, scope := ?_ }
  · intro l o1 h
    by_cases e : l = ⟨n, k⟩
    · subst e; rw [hnew] at h; cases h
      exact hro _ _ hρn
    · rw [hold l e] at h
      refine RO.moves (hmv (topN (⟨n, os⟩ :: s) + 1)) (fun v hv => ?_) (hρ l e) (fun _ => rfl) (hok.objs l _ h)
      exact (upto_mono (getO_lv hok.falls h)).1 v (hok.scope l _ h v hv)
  · intro l1 l2 k1 k2 hb
    obtain ⟨e1, k1⟩ := hhas l1 k1
    obtain ⟨e2, k2⟩ := hhas l2 k2
    rw [hρ l1 e1, hρ l2 e2] at hb
    exact hok.inj _ _ k1 k2 hb
  · intro l h hF
    obtain ⟨e, h⟩ := hhas l h
    rw [hρ l e] at hF
    exact hok.sep l h hF
  · intro l o1 h
    by_cases e : l = ⟨n, k⟩
    · subst e; rw [hnew] at h; cases h; intro v hv; rw [hvs] at hv; cases hv
    · rw [hold l e] at h; exact hok.scope l o1 h
theorem virt_sound {n : Nat} {os : List (List Nat × O)} {s : Stk} (hok : Ok ρ F (⟨n, os⟩ :: s) w) {k : List Nat} {esz : Nat} (hk : getK k os = none) (h0 : 0 < esz) :
    (∀ m, Goes m ρ F (⟨n, os⟩ :: s) w (upd ρ ⟨n, k⟩ ⟨0, 0⟩) F (⟨n, os ++ [(k, .arr 0 esz [])]⟩ :: s) w) ∧ Ok (upd ρ ⟨n, k⟩ ⟨0, 0⟩) F (⟨n, os ++ [(k, .arr 0 esz [])]⟩ :: s) w ∧
      getO (⟨n, os ++ [(k, .arr 0 esz [])]⟩ :: s) ⟨n, k⟩ = some (.arr 0 esz []) :=
  virtX_sound hok hk rfl rfl (fun ρ' stk' h => by simp only [RO, h]; simp [h0])
theorem RV_nil {ρ' : Rho} {stk' : Stk} {l : Lab} {esz : Nat} (hρ : ρ' l = ⟨0, 0⟩) (hg : getO stk' l = some (.arr 0 esz [])) : RV ρ' F stk' w (.msl l 0 0 0) (.slice none 0 0) := by
  simp only [RV]
  exact ⟨0, esz, [], hg, ⟨_, _, rfl⟩, Nat.le_refl _, fun _ => ⟨none, 0, rfl, Nat.le_refl _, by simp [hρ], fun h => by omega⟩⟩

theorem isNils_eval {x : Operand} (h : isNils x = true) : a.eval x = .slice none 0 0 := by
  cases x <;> simp only [isNils, Bool.false_eq_true] at h
  rename_i v
  cases v <;> try (simp only [isNils, Bool.false_eq_true] at h; done)
  rename_i b n c
  cases b <;> simp only [isNils, Bool.false_eq_true, Bool.and_eq_true, decide_eq_true_eq] at h
  obtain ⟨rfl, rfl⟩ := h
  rfl
theorem RV_nil0 {ρ' : Rho} {stk' : Stk} {l : Lab} {esz : Nat} {a0 : Option Addr} (hρ : ρ' l = ⟨0, 0⟩) (hg : getO stk' l = some (.arr 0 esz [])) : RV ρ' F stk' w (.msl l 0 0 0) (.slice a0 0 0) := by
  simp only [RV]
  exact ⟨0, esz, [], hg, ⟨_, _, rfl⟩, Nat.le_refl _, fun _ => ⟨a0, 0, rfl, Nat.le_refl _, by simp [hρ], fun h => by omega⟩⟩
theorem isZ_eval {x : Option Operand} (h : isZ x = true) : ∃ k y, x = some y ∧ a.eval y = .int k 0 := by
  cases x <;> simp only [isZ, Bool.false_eq_true] at h
  rename_i x
  cases x <;> try (simp only [isZ, Bool.false_eq_true] at h; done)
  rename_i v
  cases v <;> simp only [isZ, Bool.false_eq_true, decide_eq_true_eq] at h
  subst h
  exact ⟨_, _, rfl, rfl⟩
theorem bound_z {k : IntKind} {y : Nat} {code : BoundsCode} : (Instr.sliceBound (.int k 0) y code).run P w = .ok 0 w := by
  simp only [Instr.sliceBound, asIntOf, Sem.run_bind, Sem.run_pure, Result.andThen_ok]
  rw [if_pos ⟨by omega, by omega⟩]
  rfl
theorem bounds_z {lo hi mx : Option Operand} (h1 : (lo.isNone || isZ lo) = true) (h2 : isZ hi = true) (h3 : isZ mx = true) (n c : Nat) :
    (Instr.sliceBounds true n c (lo.map a.eval) (hi.map a.eval) (mx.map a.eval)).run P w = .ok (0, 0, 0) w := by
  obtain ⟨k2, y2, rfl, e2⟩ := isZ_eval (a := a) h2
  obtain ⟨k3, y3, rfl, e3⟩ := isZ_eval (a := a) h3
  unfold Instr.sliceBounds
  cases lo with
  | none => simp [e2, e3, bound_z]
  | some y =>
    obtain ⟨k1, y1, h, e1⟩ := isZ_eval (a := a) (show isZ (some y) = true by simpa using h1)
    cases h
    simp [e1, e2, e3, bound_z]
theorem r_vcut (hok : Ok ρ F stk w) (hG : Glob G F w) (hfr : RFr ρ F stk w fr a.tmps) {o : Oper} {esz : Nat} {y : Opd} (hm : mR P o.op (.vcut esz y) = true) {r : Res}
    (he : evR (Sys.real T G call iter) o.dst fr stk (.vcut esz y) = some r) : ORes P ρ F stk w a o r := by
  simp only [evR] at he
  split at he <;> try (cases he; done)
  rename_i xs hv
  obtain ⟨t, c, s, e1, e2, e3, rfl⟩ := newO_inv he
  subst e2
  obtain ⟨dst, op', type, pos, after, guard⟩ := o
  cases op' <;> try (simp only [mR, Bool.false_eq_true] at hm; done)
  rename_i ty x lo hi mx
  simp only [mR, Bool.and_eq_true, decide_eq_true_eq] at hm
  obtain ⟨⟨⟨⟨⟨h1, h2⟩, h3⟩, h4⟩, h0⟩, h5⟩ := hm
  have hx := ev_sound (T := T) (call := call) (iter := iter) hG hfr h4
  rw [hv] at hx
  simp only [RV, Rv] at hx
  obtain ⟨a0, cc, hp, hlc, hq⟩ := hx
  obtain ⟨g1, g2, g3⟩ := virt_sound (n := c.n) (os := c.os) (s := s) (k := [t]) hok e3 h0
  cases hu : P.underlying ty with
  | none => simp [hu] at h5
  | some d =>
    cases d <;> simp only [hu, Bool.false_eq_true] at h5
    refine OV.of_run (v' := .slice a0 0 0) (w' := w) ?_ (.inl rfl) (by simp [nums]) (g1 _) g2 (RV_nil0 (by simp [upd]) g3)
    have hb := bounds_z (P := P) (w := w) (a := a) h1 h2 h3 xs.length cc
    simp only [execOp, Instr.sliceAt, Instr.slice, hp, Sem.run_bind, Sem.run_pure, Result.andThen_ok, run_underlying hu, hb, run_size h5]
    simp
theorem r_vnil (hok : Ok ρ F stk w) (hG : Glob G F w) (hfr : RFr ρ F stk w fr a.tmps) {o : Oper} {esz : Nat} (hm : mR P o.op (.vnil esz) = true) {r : Res}
    (he : evR (Sys.real T G call iter) o.dst fr stk (.vnil esz) = some r) : ORes P ρ F stk w a o r := by
  simp only [evR] at he
  obtain ⟨t, c, s, e1, e2, e3, rfl⟩ := newO_inv he
  subst e2
  have hx : ∃ x, (o.op = .move x ∨ o.op = .assign x) ∧ isNils x = true ∧ 0 < esz := by
    cases hop : o.op <;> rw [hop] at hm <;> simp only [mR, Bool.false_eq_true, Bool.and_eq_true, decide_eq_true_eq] at hm
    · exact ⟨_, .inl rfl, hm⟩
    · exact ⟨_, .inr rfl, hm⟩
  obtain ⟨x, hop, hn, h0⟩ := hx
  obtain ⟨g1, g2, g3⟩ := virt_sound (n := c.n) (os := c.os) (s := s) (k := [t]) hok e3 h0
  refine OV.of_run (v' := .slice none 0 0) (w' := w) ?_ (.inl rfl) (by simp [nums]) (g1 _) g2 (RV_nil (by simp [upd]) g3)
  rcases hop with hop | hop
  · simp [execOp, hop, isNils_eval hn]
  · simp [execOp, hop, isNils_eval hn]
theorem RVl_set {x : V} {v : Value} (hx : RV ρ F stk w x v) : ∀ {cs : List V} {us : List Value} {p : Nat}, RVl ρ F stk w cs us → us[p]? = some v → RVl ρ F stk w (cs.set p x) us
  | [], us, p, h, hp => by simp only [RVl] at h; subst h; simp at hp
  | y :: r, us, 0, h, hp => by
    simp only [RVl] at h
    obtain ⟨u, us', rfl, h1, h2, h3⟩ := h
    simp at hp; subst hp
    simp only [List.set_cons_zero, RVl]
    exact ⟨u, us', rfl, h1, hx, h3⟩
  | y :: r, us, p + 1, h, hp => by
    simp only [RVl] at h
    obtain ⟨u, us', rfl, h1, h2, h3⟩ := h
    simp only [List.set_cons_succ, RVl]
    exact ⟨u, us', rfl, h1, h2, RVl_set hx h3 (by simpa using hp)⟩
theorem virt_all (t : Nat) : ∀ (vs : List (Nat × Nat)) {ρ : Rho} {n : Nat} {os os' : List (List Nat × O)} {s : Stk}, Ok ρ F (⟨n, os⟩ :: s) w → virtO t vs os = some os' → (∀ q ∈ vs, 0 < q.2) →
    ∃ ρ', (∀ m, Goes m ρ F (⟨n, os⟩ :: s) w ρ' F (⟨n, os'⟩ :: s) w) ∧ Ok ρ' F (⟨n, os'⟩ :: s) w ∧
      ∀ cs us, RVl ρ F (⟨n, os⟩ :: s) w cs us → (∀ q ∈ vs, us[q.1]? = some (.slice none 0 0)) → RVl ρ' F (⟨n, os'⟩ :: s) w (virtC n t vs cs) us
  | [], ρ, n, os, os', s, hok, h, _ => by
    simp only [virtO, Option.some.injEq] at h
    subst h
    exact ⟨ρ, fun m => Goes.refl _ _ _ _ _, hok, fun cs us h _ => h⟩
  | (p, esz) :: r, ρ, n, os, os', s, hok, h, hz => by
    simp only [virtO] at h
    split at h <;> try (cases h; done)
    rename_i hk
    obtain ⟨g1, g2, g3⟩ := virt_sound hok hk (hz (p, esz) (by simp))
    obtain ⟨ρ', k1, k2, k3⟩ := virt_all t r g2 h (fun q hq => hz q (List.mem_cons_of_mem _ hq))
    refine ⟨ρ', fun m => (g1 m).trans (k1 m), k2, fun cs us hr hu => ?_⟩
    simp only [virtC]
    refine k3 _ us (RVl_set (RV_nil (by simp [upd]) g3) ?_ (hu (p, esz) (by simp))) (fun q hq => hu q (List.mem_cons_of_mem _ hq))
    have hup := RVl.upto hok.falls cs us hr
    exact RVl.moves ((g1 (n + 1)).moves hok) cs us hup hr
theorem nils_of {z : List D} {us : List Value} {p : Nat} (h : Rl F w z us) (hz : nilsAt z p = true) : us[p]? = some (.slice none 0 0) := by
  unfold nilsAt at hz
  split at hz <;> try (cases hz; done)
  rename_i hp
  induction z generalizing us p with
  | nil => simp at hp
  | cons x r ih =>
    simp only [Rl] at h
    obtain ⟨u, us', rfl, _, hx, hr⟩ := h
    cases p with
    | zero => simp at hp; subst hp; simp only [Rv] at hx; simp [hx]
    | succ p => simpa using ih hr (by simpa using hp)
theorem r_allocv (hok : Ok ρ F stk w) (hG : Glob G F w) (hfr : RFr ρ F stk w fr a.tmps) {o : Oper} {z : List D} {vs : List (Nat × Nat)} (hm : mR P o.op (.allocv z vs) = true) {r : Res}
    (he : evR (Sys.real T G call iter) o.dst fr stk (.allocv z vs) = some r) : ORes P ρ F stk w a o r := by
  simp only [evR] at he
  split at he <;> try (cases he; done)
  rename_i t c s hd
  split at he <;> try (cases he; done)
  rename_i os hos
  cases hop : o.op <;> rw [hop] at hm <;> simp only [mR, Bool.false_eq_true, Bool.and_eq_true, List.all_eq_true, decide_eq_true_eq] at hm
  rename_i e
  obtain ⟨v, hz, hl⟩ := run_zeros (w := w) F hm.1
  obtain ⟨ρ1, k1, k2, k3⟩ := virt_all (w := w) (F := F) t vs (n := c.n) (os := c.os) (s := s) hok hos (fun q hq => (hm.2 q hq).1)
  have hcs := k3 _ _ (RVl_of_Rl hl) (fun q hq => nils_of hl (hm.2 q hq).2)
  obtain ⟨t', c', s', e1, e2, e3, rfl⟩ := newO_inv he
  cases e1
  cases e2
  have hupt := RVl.upto k2.falls _ _ hcs
  obtain ⟨g1, g2, g3⟩ := new_sound (o := .cells (virtC c.n t vs (z.map .d))) (cap := 0) (w0 := w) (w' := w.alloc (.cells v.cells e)) (ob := .cells #[] 0 (0, 0)) k2 rfl e3 rfl rfl rfl rfl rfl rfl rfl (by simp) (fun b hb => heap_alloc_old w _ b hb)
    (fun x hx => by
      have : ∀ {l : List V} {n : Nat}, uptoL n l = true → ∀ x ∈ l, V.upto n x = true := by
        intro l n
        induction l with
        | nil => intro _ x hx; cases hx
        | cons y r ih =>
          intro h x hx
          simp only [uptoL, Bool.and_eq_true] at h
          rcases List.mem_cons.1 hx with rfl | hx
          · exact h.1
          · exact ih h.2 x hx
      exact this hupt x hx)
    (fun hmv => by
      simp only [RO]
      have hrho : (upd ρ1 ⟨c.n, [t]⟩ ⟨w.heap.size, 0⟩ ⟨c.n, [t]⟩) = ⟨w.heap.size, 0⟩ := by simp [upd]
      rw [hrho]
      exact ⟨v.cells, e, alloc_at w _, RVl.moves (hmv (c.n + 1)) _ _ hupt hcs⟩)
  refine OV.of_run (v' := .pointer (some ⟨w.heap.size, 0, none⟩)) (w' := w.alloc (.cells v.cells e)) ?_ (.inl rfl) (by simp [nums]) ((k1 _).trans (g1 _)) g2 ?_
  · simp [execOp, hop, Instr.alloc, hz, newVar, newRow]
  · simp only [RV]
    exact ⟨by simp [upd], _, g3, rfl⟩
theorem r_bnew (hok : Ok ρ F stk w) (hG : Glob G F w) (hfr : RFr ρ F stk w fr a.tmps) {o : Oper} {ty te : Nat} (hm : mR P o.op (.bnew ty te) = true) {r : Res}
    (he : evR (Sys.real T G call iter) o.dst fr stk (.bnew ty te) = some r) : ORes P ρ F stk w a o r := by
  simp only [evR] at he
  split at he <;> try (cases he; done)
  rename_i t c s hd
  split at he <;> try (cases he; done)
  rename_i hk
  cases hop : o.op <;> rw [hop] at hm <;> simp only [mR, Bool.false_eq_true, Bool.and_eq_true, decide_eq_true_eq] at hm
  rename_i e
  obtain ⟨rfl, hm⟩ := hm
  obtain ⟨v, hz, hl⟩ := run_zeros (w := w) F hm
  obtain ⟨k1, k2, k3⟩ := virtX_sound (n := c.n) (os := c.os) (s := s) (k := [t, 1]) (ob := .hid te 0 []) hok hk rfl rfl (fun ρ' stk' h => by simp only [RO, h]; simp)
  have hcs : v.cells = #[.pointer none, .slice none 0 0] := by
    simp only [Rl, Rv] at hl
    obtain ⟨u, us, h1, _, h2, u', us', h3, _, h4, h5⟩ := hl
    apply Array.toList_inj.1
    rw [h1, h3, h2, h4, h5]
  obtain ⟨t', c', s', e1, e2, e3, rfl⟩ := newO_inv he
  cases e1
  cases e2
  have hnil : RB (upd ρ ⟨c.n, [t, 1]⟩ ⟨0, 0⟩) (⟨c.n, c.os ++ [([t, 1], .hid te 0 [])]⟩ :: s) (.msl ⟨c.n, [t, 1]⟩ 0 0 0) (.slice none 0 0) := by
    simp only [RB]
    exact ⟨te, 0, [], k3, Nat.le_refl _, fun _ => .inl ⟨by simp [upd], trivial⟩⟩
  have hupt : V.upto (topN (⟨c.n, c.os ++ [([t, 1], .hid te 0 [])]⟩ :: s)) (.msl ⟨c.n, [t, 1]⟩ 0 0 0) = true := by
    simp [V.upto, topN, leN_iff]
  obtain ⟨g1, g2, g3⟩ := new_sound (o := .bld e false (.msl ⟨c.n, [t, 1]⟩ 0 0 0)) (cap := 0) (w0 := w) (w' := w.alloc (.cells v.cells e)) (ob := .cells #[] 0 (0, 0)) k2 rfl e3 rfl rfl rfl rfl rfl rfl rfl (by simp) (fun b hb => heap_alloc_old w _ b hb)
    (fun x hx => by
      simp only [O.vals, List.mem_singleton] at hx
      subst hx
      exact hupt)
    (fun hmv => by
      simp only [RO]
      generalize hr : (upd (upd ρ ⟨c.n, [t, 1]⟩ ⟨0, 0⟩) ⟨c.n, [t]⟩ ⟨w.heap.size, 0⟩) = ρ2 at hmv ⊢
      have hrho : ρ2 ⟨c.n, [t]⟩ = ⟨w.heap.size, 0⟩ := by subst hr; simp [upd]
      rw [hrho]
      refine ⟨.slice none 0 0, ?_, RB.moves (hmv (c.n + 1)) _ _ hupt hnil⟩
      have hat := alloc_at w (.cells v.cells e)
      rw [hcs] at hat ⊢
      exact hat)
  refine OV.of_run (v' := .pointer (some ⟨w.heap.size, 0, none⟩)) (w' := w.alloc (.cells v.cells e)) ?_ (.inl rfl) (by simp [nums]) ((k1 _).trans (g1 _)) g2 ?_
  · simp [execOp, hop, Instr.alloc, hz, newVar, newRow]
  · simp only [RV]
    exact ⟨by simp [upd], _, g3, rfl⟩
end
end Go.Abs
