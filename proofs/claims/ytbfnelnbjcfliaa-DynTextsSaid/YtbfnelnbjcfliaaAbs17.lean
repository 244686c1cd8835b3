import Derived.Test.YtbfnelnbjcfliaaAbs16
/-! All the operations. -/
set_option linter.unusedVariables false
set_option linter.unusedSimpArgs false
namespace Go.Abs
section
variable {P : Program} {T : FuncId → Option RF} {G : Nat → Option (List D)} {call : CallF} {iter : (St → Rs) → St → Rs} {ρ : Rho} {F : Blks} {stk : Stk} {w : World} {fr : Fr} {a : Act}

theorem fnOk_run {f : FuncId} (h : fnOk P f = true) (args : Array Value) : (callFunc f args).run P w = .ok (.enter f args) w := by
  unfold fnOk at h
  cases hf : P.funcs[f]? with
  | none => simp [hf] at h
  | some fn =>
    simp only [hf, Bool.and_eq_true, bne_iff_ne, ne_eq] at h
    obtain ⟨c, hc⟩ := Option.isSome_iff_exists.1 h.1
    simp [callFunc, hf, h.2, hc]

theorem RVt_len : ∀ {xs : List V} {us : List Value}, RVt ρ F stk w xs us → us.length = xs.length
  | [], us, h => by simp only [RVt] at h; simp [h]
  | x :: r, us, h => by
    simp only [RVt] at h
    obtain ⟨u, us', rfl, _, hr⟩ := h
    simp [RVt_len hr]
theorem RVt_append : ∀ {xs ys : List V} {us vs : List Value}, RVt ρ F stk w xs us → RVt ρ F stk w ys vs → RVt ρ F stk w (xs ++ ys) (us ++ vs)
  | [], ys, us, vs, h, k => by simp only [RVt] at h; subst h; simpa using k
  | x :: r, ys, us, vs, h, k => by
    simp only [RVt] at h
    obtain ⟨u, us', rfl, h2, hr⟩ := h
    simp only [List.cons_append, RVt]
    exact ⟨u, _, rfl, h2, RVt_append hr k⟩
theorem RVt_of_Rt : ∀ {xs : List D} {us : List Value}, Rt F w xs us → RVt ρ F stk w (xs.map .d) us
  | [], us, h => by simp only [Rt] at h; simp [RVt, h]
  | x :: r, us, h => by
    simp only [Rt] at h
    obtain ⟨u, us', rfl, h2, hr⟩ := h
    simp only [List.map_cons, RVt, RV]
    exact ⟨u, us', rfl, h2, RVt_of_Rt hr⟩

/-- A call of a function that the interpreter has gone through. -/
theorem evCall_eq {X : Sys} {m : Mode} (hm : m ≠ .pur) (hm' : m ≠ .eff) (hm'' : ∀ ks, m ≠ .own ks) (dst : Option Nat) (f : FuncId) (vs : List V) (stk : Stk) : evCall X m dst f vs stk = match X.call f vs stk with
      | some (.ret v, c :: s) => match leave X m dst v c s with
        | some (v', s') => some (.val v' s')
        | none => none
      | some (.pan x, _ :: s) => some (.pan x s)
      | _ => none := by cases m <;> first | rfl | exact absurd rfl hm | exact absurd rfl hm' | exact absurd rfl (hm'' _)
theorem evCall_pur {dst : Option Nat} {f : FuncId} {vs : List V} {stk : Stk} {r : Res} (h : evCall (Sys.real T G call iter) .pur dst f vs stk = some r) : evCall (Sys.real T G call iter) .frz dst f vs stk = some r := by
  simp only [evCall] at h
  split at h <;> try (cases h; done)
  rename_i v hv
  cases h
  have hv' : pcallOf (Sys.real0 T G call iter) call f vs stk = some v := hv
  unfold pcallOf at hv'
  rw [evCall_eq (by simp) (by simp) (by simp)]
  split at hv' <;> try (cases hv'; done)
  rename_i v0 c s hc
  have hc' : (Sys.real T G call iter).call f vs stk = some (.ret v0, c :: s) := hc
  rw [hc']
  split at hv' <;> try (cases hv'; done)
  rename_i hs
  have hs' : s = stk := by
    unfold sameStk at hs
    split at hs
    · rename_i e; exact e
    · cases hs
  subst hs'
  split at hv' <;> try (cases hv'; done)
  rename_i d hd
  cases hv'
  rw [freeze_prim (b := call) (j := iter)] at hd
  have hl : leave (Sys.real T G call iter) .frz dst v0 c s = some (.d d, s) := by
    cases v0 <;> simp only [leave] <;> first
      | (simp only [freeze, Option.some.injEq] at hd; subst hd; rfl)
      | (rw [hd])
  simp only [hl]

theorem evCall_eff {dst : Option Nat} {f : FuncId} {vs : List V} {stk : Stk} {r : Res} (h : evCall (Sys.real T G call iter) .eff dst f vs stk = some r) : evCall (Sys.real T G call iter) .frz dst f vs stk = some r := by
  simp only [evCall] at h
  cases hv : (Sys.real T G call iter).fcall f vs stk with
  | none => rw [hv] at h; cases h
  | some y =>
  obtain ⟨v, s1⟩ := y
  rw [hv] at h
  have hv' : fcallOf (Sys.real0 T G call iter) call f vs stk = some (v, s1) := hv
  unfold fcallOf at hv'
  rw [evCall_eq (by simp) (by simp) (by simp)]
  split at hv' <;> try (cases hv'; done)
  rotate_left
  · rename_i x c s hc
    have hc' : (Sys.real T G call iter).call f vs stk = some (.pan x, c :: s) := hc
    rw [hc']
    cases hv'
    exact h
  rename_i v0 c s hc
  have hc' : (Sys.real T G call iter).call f vs stk = some (.ret v0, c :: s) := hc
  rw [hc']
  split at hv' <;> try (cases hv'; done)
  rename_i d hd
  cases hv'
  cases h
  rw [freeze_prim (b := call) (j := iter)] at hd
  have hl : leave (Sys.real T G call iter) .frz dst v0 c s1 = some (.d d, s1) := by
    cases v0 <;> simp only [leave] <;> first
      | (simp only [freeze, Option.some.injEq] at hd; subst hd; rfl)
      | (rw [hd])
  simp only [hl]

theorem keepO_tidy {m n t : Nat} {K : List (List Nat)} {os : List (List Nat × O)} : ∀ {ks : List (List Nat)}, keptOk m K os ks = true → keepO m n t os ks = some (adoptOs m n t (tidyL os ks))
  | [], _ => rfl
  | k :: r, h => by
    simp only [keptOk] at h
    simp only [keepO, tidyL]
    cases hk : getK k os with
    | none => rw [hk] at h; cases h
    | some o =>
      rw [hk] at h
      simp only [Bool.and_eq_true] at h
      simp only [keepO_tidy h.2, adoptOs]
theorem evCall_own {ks : List (List Nat)} {dst : Option Nat} {f : FuncId} {vs : List V} {stk : Stk} {r : Res} (h : evCall (Sys.real T G call iter) (.own ks) dst f vs stk = some r) : evCall (Sys.real T G call iter) (.keep ks) dst f vs stk = some r := by
  simp only [evCall] at h
  split at h <;> try (cases h; done)
  rename_i t v c c0 s0 hv
  have hv' : kcallOf call f ks vs stk = some (v, c, c0 :: s0) := hv
  unfold kcallOf at hv'
  rw [evCall_eq (by simp) (by simp) (by simp)]
  split at hv' <;> try (cases hv'; done)
  rename_i v0 c1 s hc
  have hc' : (Sys.real T G call iter).call f vs stk = some (.ret v0, c1 :: s) := hc
  rw [hc']
  unfold keepR at hv'
  split at hv' <;> try (cases hv'; done)
  rename_i hb
  cases hv'
  split at h <;> try (cases h; done)
  rename_i hf
  cases h
  simp only [Bool.and_eq_true] at hb
  obtain ⟨⟨⟨h1, h2⟩, h3⟩, h4⟩ := hb
  simp only [leave, keepO_tidy h3, h1, h2, h3, hf, h4, Bool.and_self, if_true]
theorem call_res0 {f : FuncId} (hlt : f < hB) (hC : CallOK P G call) (hok : Ok ρ F stk w) (hG : Glob G F w) {o : Oper} {m : Mode} {vs : List V} {args : List Value} (hargs : RVt ρ F stk w vs args)
    (hrun : fnOk P f = true → (execOp a.eval o).run P w = .ok (.enter f args.toArray) w) {r : Res} (hm : m ≠ .pur) (hm' : m ≠ .eff) (hm'' : ∀ ks, m ≠ .own ks) (he : evCall (Sys.real T G call iter) m o.dst f vs stk = some r) : ORes P ρ F stk w a o r := by
  rw [evCall_eq hm hm' hm''] at he
  split at he <;> try (cases he; done)
  · rename_i v c s hc
    have hc' : call f vs stk = some (.ret v, c :: s) := hc
    obtain ⟨h1, h2⟩ := (hC _ _ _ _ _ hc').1 hlt
    split at he <;> try (cases he; done)
    rename_i v' s' hl
    cases he
    have hcalls := h2 ρ F w args hok hG hargs
    refine ⟨?_, fun K Q hK => ?_⟩
    · -- the numbers: they are the same in any outcome
      obtain ⟨e, w', fr', ⟨ρ', F', g1, g2, g3, g4⟩, _⟩ := hcalls []
      unfold leave at hl
      have h3 : nums s = nums stk := by simp [nums] at g3 ⊢; exact g3.2
      cases m with
      | pur => exact absurd rfl hm
      | eff => exact absurd rfl hm'
      | own ks => exact absurd rfl (hm'' ks)
      | frz =>
        simp only at hl
        split at hl
        · cases hl; exact h3
        · split at hl <;> try (cases hl; done)
          cases hl; exact h3
      | keep ks =>
        simp only at hl
        split at hl <;> try (cases hl; done)
        split at hl <;> try (cases hl; done)
        split at hl <;> try (cases hl; done)
        cases hl
        simpa [nums] using h3
    · unfold Oper.wp
      rw [hrun h1, Oper.upon_enter]
      refine hcalls.mono fun e w' hh => ?_
      obtain ⟨ρ', F', g1, g2, g3, g4⟩ := hh
      cases e with
      | returned u =>
        simp only [OutE] at g4 ⊢
        obtain ⟨ρ2, F2, k1, k2, k3, k4⟩ := leave_sound g2 g4 hl
        have hn : c.n = topN stk + 1 := by simp [nums] at g3; exact g3.1
        rw [hn] at k1
        exact hK ρ2 F2 w' (g1.trans k1) k2 u k3
      | panicked ch => exact g4.elim
      | outgrown => exact g4.elim
  · rename_i x c s hc
    cases he
    have hc' : call f vs stk = some (.pan x, c :: s) := hc
    obtain ⟨h1, h2⟩ := (hC _ _ _ _ _ hc').1 hlt
    have hcalls := h2 ρ F w args hok hG hargs
    refine ⟨?_, fun K Q hK => ?_⟩
    · obtain ⟨e, w', fr', ⟨ρ', F', g1, g2, g3, g4⟩, _⟩ := hcalls []
      simp [nums] at g3 ⊢; exact g3.2
    · unfold Oper.wp
      rw [hrun h1, Oper.upon_enter]
      refine hcalls.mono fun e w' hh => ?_
      obtain ⟨ρ', F', g1, g2, g3, g4⟩ := hh
      cases e with
      | returned u => exact g4.elim
      | panicked ch =>
        simp only [OutE] at g4 ⊢
        obtain ⟨xv, rfl, hx⟩ := g4
        obtain ⟨k1, k2⟩ := drop_sound g2 (F' := F') (fun _ h => h) (fun _ h => .inl h)
        have hn : c.n = topN stk + 1 := by simp [nums] at g3; exact g3.1
        rw [hn] at k2
        exact hK ρ' F' w' (g1.trans k2) k1 xv hx
      | outgrown => exact g4.elim

theorem call_res {f : FuncId} (hlt : f < hB) (hC : CallOK P G call) (hok : Ok ρ F stk w) (hG : Glob G F w) {o : Oper} {m : Mode} {vs : List V} {args : List Value} (hargs : RVt ρ F stk w vs args)
    (hrun : fnOk P f = true → (execOp a.eval o).run P w = .ok (.enter f args.toArray) w) {r : Res} (he : evCall (Sys.real T G call iter) m o.dst f vs stk = some r) : ORes P ρ F stk w a o r := by
  by_cases hm : m = .pur
  · subst hm
    exact call_res0 hlt hC hok hG hargs hrun (m := .frz) (by simp) (by simp) (by simp) (evCall_pur he)
  by_cases hm' : m = .eff
  · subst hm'
    exact call_res0 hlt hC hok hG hargs hrun (m := .frz) (by simp) (by simp) (by simp) (evCall_eff he)
  by_cases hm'' : ∃ ks, m = .own ks
  · obtain ⟨ks, rfl⟩ := hm''
    exact call_res0 hlt hC hok hG hargs hrun (m := .keep ks) (by simp) (by simp) (by simp) (evCall_own he)
  · exact call_res0 hlt hC hok hG hargs hrun hm hm' (fun ks e => hm'' ⟨ks, e⟩) he

theorem r_call (hC : CallOK P G call) (hok : Ok ρ F stk w) (hG : Glob G F w) (hfr : RFr ρ F stk w fr a.tmps) {o : Oper} {m : Mode} {f : FuncId} {as : List Opd} (hm : mR P o.op (.call m f as) = true) {r : Res}
    (he : evR (Sys.real T G call iter) o.dst fr stk (.call m f as) = some r) : ORes P ρ F stk w a o r := by
  simp only [evR] at he
  obtain ⟨dst, op, type, pos, after, guard⟩ := o
  cases op <;> try (simp only [mR, Bool.false_eq_true] at hm; done)
  rename_i c
  obtain ⟨callee, args, argTypes⟩ := c
  cases callee with
  | builtin b => cases b <;> simp only [mR, Bool.false_eq_true] at hm
  | invoke r n => simp only [mR, Bool.false_eq_true] at hm
  | value x =>
    cases x <;> simp only [mR, Bool.false_eq_true] at hm
    rename_i f'
    simp only [Bool.and_eq_true, beq_iff_eq] at hm
    obtain ⟨⟨rfl, h2, hlt⟩, h3⟩ := hm
    have hargs := evL_sound (T := T) (call := call) (iter := iter) hG hfr h3
    refine call_res (of_decide_eq_true hlt) hC hok hG hargs (fun h => ?_) he
    simp only [execOp, resolve, Act.eval, Deferred.ofValue, Sem.run_bind, Sem.run_pure, Result.andThen_ok, invoke]
    have e : (#[] ++ args.map a.eval : Array Value) ++ #[] = (args.toList.map a.eval).toArray := by
      apply Array.ext'; simp
    rw [← e]
    exact fnOk_run h _
theorem r_callv (hC : CallOK P G call) (hok : Ok ρ F stk w) (hG : Glob G F w) (hfr : RFr ρ F stk w fr a.tmps) {o : Oper} {m : Mode} {x : Opd} {as : List Opd} (hm : mR P o.op (.callv m x as) = true) {r : Res}
    (he : evR (Sys.real T G call iter) o.dst fr stk (.callv m x as) = some r) : ORes P ρ F stk w a o r := by
  simp only [evR] at he
  obtain ⟨dst, op, type, pos, after, guard⟩ := o
  cases op <;> try (simp only [mR, Bool.false_eq_true] at hm; done)
  rename_i c
  obtain ⟨callee, args, argTypes⟩ := c
  cases callee with
  | builtin b => cases b <;> simp only [mR, Bool.false_eq_true] at hm
  | invoke r n => simp only [mR, Bool.false_eq_true] at hm
  | value y =>
    have hm' : mO y x = true ∧ mL args.toList as = true := by
      cases y <;> simpa only [mR, Bool.and_eq_true] using hm
    obtain ⟨h2, h3⟩ := hm'
    have hx := ev_sound (T := T) (call := call) (iter := iter) hG hfr h2
    have hargs := evL_sound (T := T) (call := call) (iter := iter) hG hfr h3
    split at he <;> try (cases he; done)
    rename_i f vs hcal
    have key : f < hB ∧ ∃ first cap, a.eval y = .func (.func f) first cap ∧ RVt ρ F stk w vs (first.toList ++ args.toList.map a.eval ++ cap.toList) := by
      unfold callees at hcal
      split at hcal <;> try (cases hcal; done)
      · rename_i f' u v hv
        split at hcal <;> try (cases hcal; done)
        rename_i hd
        cases hcal
        rw [hv] at hx
        simp only [RV, Rv] at hx
        obtain ⟨fs, cs, e1, e2, e3⟩ := hx
        exact ⟨of_decide_eq_true hd, fs, cs, e1, RVt_append (RVt_append (RVt_of_Rt e2) hargs) (RVt_of_Rt e3)⟩
      · rename_i f' u v hv
        split at hcal <;> try (cases hcal; done)
        rename_i hd
        cases hcal
        rw [hv] at hx
        simp only [RV] at hx
        obtain ⟨fs, cs, e1, e2, e3⟩ := hx
        exact ⟨of_decide_eq_true hd, fs, cs, e1, RVt_append (RVt_append e2 hargs) e3⟩
    obtain ⟨hlt, first, cap, k1, k2⟩ := key
    refine call_res hlt hC hok hG k2 (fun h => ?_) he
    simp only [execOp, resolve, k1, Deferred.ofValue, Sem.run_bind, Sem.run_pure, Result.andThen_ok, invoke]
    have e : (first ++ args.map a.eval : Array Value) ++ cap = (first.toList ++ args.toList.map a.eval ++ cap.toList).toArray := by
      apply Array.ext'; simp
    rw [← e]
    exact fnOk_run h _

/-- The operations, all of them. -/
theorem evR_sound (hC : CallOK P G call) (hok : Ok ρ F stk w) (hG : Glob G F w) (hfr : RFr ρ F stk w fr a.tmps) {o : Oper} {r : R} (hm : mR P o.op r = true) {res : Res}
    (he : evR (Sys.real T G call iter) o.dst fr stk r = some res) : ORes P ρ F stk w a o res := by
  cases r
  case alloc => exact r_alloc hok hG hfr hm he
  case allocv => exact r_allocv hok hG hfr hm he
  case vnil => exact r_vnil hok hG hfr hm he
  case vcut => exact r_vcut hok hG hfr hm he
  case bnew => exact r_bnew hok hG hfr hm he
  case box => exact r_box hok hG hfr hm he
  case lit => exact r_lit hok hG hfr hm he
  case store => exact r_store hok hG hfr hm he
  case mkMap => exact r_mkMap hok hG hfr hm he
  case mkSl => exact r_mkSl hok hG hfr hm he
  case mapUpd => exact r_mapUpd hok hG hfr hm he
  case range => exact r_range hok hG hfr hm he
  case next => exact r_next hok hG hfr hm he
  case app => exact r_app hok hG hfr hm he
  case panic => exact r_panic hok hG hfr hm he
  case tasp => exact r_tasp hok hG hfr hm he
  case call => exact r_call hC hok hG hfr hm he
  case callv => exact r_callv hC hok hG hfr hm he
  case conv k x =>
    cases k
    case bytes => exact r_bytes hok hG hfr hm he
    all_goals
      simp only [evR] at he
      split at he <;> try (cases he; done)
      rename_i v hv
      cases he
      exact OV.of_QR (evQ_sound hok hG hfr hm hv)
  all_goals
    simp only [evR] at he
    split at he <;> try (cases he; done)
    rename_i v hv
    cases he
    exact OV.of_QR (evQ_sound hok hG hfr hm hv)
end
end Go.Abs
