import Derived.Test.YtbfnelnbjcfliaaAbs20p
import Derived.LoopN
import Derived.Below
/-! The code of a function. -/
set_option linter.unusedVariables false
set_option linter.unusedSimpArgs false
namespace Go.Abs
/-! ## Which code is which -/
def mC (P : Program) (nt : Nat) : Code → C → Bool
  | c, .tidy _ _ c' => mC P nt c c'
  | c, .adj _ c' => mC P nt c c'
  | .skip, .skip => true
  | .region _ ops false, .reg l => mOps P nt ops ops.toList l
  | .region _ ops true, .dreg f t => mDraw P nt ops f t
  | .region _ ops true, .dpan f k t => mDraw P nt ops f t && mPan P nt ops f k t
  | .seq a b, .seq x y => mC P nt a x && mC P nt b y
  | .cond c a b, .cond c' x y => mO c c' && mC P nt a x && mC P nt b y
  | .block i c, .block j x => i == j && mC P nt c x
  | .loop c, .loop x => mC P nt c x
  | .exit i, .exit j => i == j
  | .ret, .ret => true
  | _, .bad => true
  | _, _ => false
def mRes (P : Program) : List ResultVar → List RRes → Bool
  | [], [] => true
  | .tmp t :: r, .tmp u :: s => t == u && mRes P r s
  | .tmp t :: r, .tmps u :: s => t == u && mRes P r s
  | .cell a t :: r, .cell b agg sz :: s => a == b && tAgg P t == agg && tKnown P t && tSz P t sz && (agg || sz == 1) && mRes P r s
  | _, _ => false
/-- No operation yields into these slots. -/
def dstsOut (ts : List Nat) : Code → Bool
  | .region _ ops _ => ops.toList.all fun o => match o.dst with | some d => !ts.contains d | none => true
  | .seq a b => dstsOut ts a && dstsOut ts b
  | .cond _ a b => dstsOut ts a && dstsOut ts b
  | .block _ c => dstsOut ts c
  | .loop c => dstsOut ts c
  | .skip | .exit _ | .ret => true
  | _ => false
def isNew (r : ROp) : Bool := match r.r, r.g with
  | .alloc _, none | .allocv _ _, none => true
  | _, _ => false
def tmpsAre : List Operand → List Nat → Bool
  | [], [] => true
  | .tmp t :: r, u :: s => t == u && tmpsAre r s
  | _, _ => false
/-- The deferred closure is made, and deferred. -/
def mDefer (nt : Nat) (g : FuncId) (cs : List Nat) : List Oper → List ROp → Bool
  | [o1, o2], [r1] => (match o1.op, o1.dst, o1.guard, o2.op, o2.dst, o2.guard, r1.dst, r1.g, r1.r with
    | .makeFunc (.func g') first caps, some d, none, .defer c, none, none, some d2, none, .move (.c .any) =>
      g' == g && first.size == 0 && tmpsAre caps.toList cs && d2 == d && decide (d < nt) && c.args.size == 0 && (match c.callee with | .value (.tmp d') => d' == d | _ => false) && !cs.contains d
    | _, _, _, _, _, _, _, _, _ => false)
  | _, _ => false
def cellsOnly (res : List RRes) : Bool := res.all fun r => match r with | .cell .. => true | _ => false
/-- A function that defers a closure. -/
def mGrd (P : Program) (fn : Func) (cd : Code) (rf : RF) : Bool :=
  match rf.res, cd, rf.body with
  | .grd h cs as :: res, .seq (.region i0 ops0 false) (.seq (.region _ ops1 false) c2), .seq (.reg l0) (.seq (.reg l1) y) =>
    mC P fn.ntmps (.region i0 ops0 false) (.reg l0) && l0.all isNew && mDefer fn.ntmps (h - hB) cs ops1.toList l1 && mC P fn.ntmps c2 y && dstsOut (cs ++ cellTs res) c2 && mRes P fn.results.toList res && cellsOnly res && decide (hB ≤ h)
      && (match P.funcs[h - hB]? with | some fh => fh.body.isSome && fh.name != "runtime.NumGoroutine" | none => false)
  | _, _, _ => false
/-- A deferred closure: what is recovered comes first. -/
def mHnd (P : Program) (fn : Func) (cd : Code) (rf : RF) : Bool :=
  match rf.hnd, cd, rf.body with
  | some tr, .seq (.region _ ops false) c2, .seq (.reg l) y =>
    (match ops.toList with
      | o :: os => (match o.op, o.dst, o.guard with
        | .call { callee := .builtin .recover, args, .. }, some d, none => args.size == 0 && d == tr && decide (d < fn.ntmps)
        | _, _, _ => false) && mOps P fn.ntmps ops os l
      | [] => false) && mC P fn.ntmps c2 y && mRes P fn.results.toList rf.res && rf.ext.isNone
  | _, _, _ => false
/-- A function, and what was printed of it. -/
def mF (P : Program) (f : FuncId) (rf : RF) : Bool :=
  if f < hB then match P.funcs[f]? with
    | some fn => fn.name != "runtime.NumGoroutine" && (match fn.body with | some c => rf.ext.isSome || (rf.hnd.isNone && (mGrd P fn c rf || (!isG rf.res && mC P fn.ntmps c rf.body && mRes P fn.results.toList rf.res))) | none => false)
    | none => false
  else match P.funcs[f - hB]? with
    | some fn => fn.name != "runtime.NumGoroutine" && (match fn.body with | some c => mHnd P fn c rf | none => false)
    | none => false

section
variable {P : Program} {T : FuncId → Option RF} {G : Nat → Option (List D)} {call : CallF} {iter : (St → Rs) → St → Rs} {ρ : Rho} {F : Blks} {stk : Stk} {w : World} {fr : Fr} {a : Act} {nt : Nat} {Q : Exit → Act → World → Prop} {c : Level} {s : Stk} {J : Hold}

/-! ## Forgetting -/
theorem tidyL_get : ∀ {ks : List (List Nat)} {os : List (List Nat × O)} {k : List Nat}, getK k (tidyL os ks) = if hasKey k ks = true then getK k os else none
  | [], os, k => by simp [tidyL, getK, hasKey]
  | k0 :: r, os, k => by
    simp only [tidyL]
    by_cases e : k = k0
    · subst e
      have hk : hasKey k (k :: r) = true := by simp [hasKey]
      rw [if_pos hk]
      cases ho : getK k os with
      | some o => simp [getK]
      | none =>
        simp only
        rw [tidyL_get]
        split
        · exact ho
        · rfl
    · have hk : hasKey k (k0 :: r) = hasKey k r := by simp [hasKey, e]
      rw [hk]
      cases ho : getK k0 os with
      | some o => simp only [getK]; rw [if_neg e]; exact tidyL_get
      | none => exact tidyL_get
theorem tidy_getO {ks : List (List Nat)} {l : Lab} {o : O} (hg : getO (c :: s) l = some o) (hw : (if l.lv = c.n then hasKey l.key ks else true) = true) : getO (⟨c.n, tidyL c.os ks⟩ :: s) l = some o := by
  simp only [getO] at hg ⊢
  split
  · rename_i e
    rw [if_pos e] at hg hw
    rw [tidyL_get, if_pos hw]; exact hg
  · rename_i e
    rw [if_neg e] at hg; exact hg
theorem tidy_getO' {ks : List (List Nat)} {l : Lab} {o : O} (hg : getO (⟨c.n, tidyL c.os ks⟩ :: s) l = some o) : getO (c :: s) l = some o ∧ (l.lv = c.n → hasKey l.key ks = true) := by
  simp only [getO] at hg ⊢
  split
  · rename_i e
    rw [if_pos e, tidyL_get] at hg
    split at hg
    · rename_i h; exact ⟨hg, fun _ => h⟩
    · cases hg
  · rename_i e
    rw [if_neg e] at hg; exact ⟨hg, fun h => absurd h e⟩
theorem RB.tidy {ks : List (List Nat)} : ∀ (x : V) (u : Value), V.within c.n ks x = true → RB ρ (c :: s) x u → RB ρ (⟨c.n, tidyL c.os ks⟩ :: s) x u := by
  intro x u hw hv
  cases x <;> simp only [RB] at hv ⊢
  case msl lb g o n =>
    simp only [V.within] at hw
    obtain ⟨te, g', s, ho, rest⟩ := hv
    exact ⟨te, g', s, tidy_getO ho hw, rest⟩
mutual
theorem RV.tidy {ks : List (List Nat)} : ∀ (x : V) (v : Value), V.within c.n ks x = true → RV ρ F (c :: s) w x v → RV ρ F (⟨c.n, tidyL c.os ks⟩ :: s) w x v
  | .dead, v, _, _ => by simp [RV]
  | .d x, v, _, hv => by simp only [RV] at hv ⊢; exact hv
  | .agg cs, v, hw, hv => by
    simp only [RV] at hv ⊢
    simp only [V.within] at hw
    obtain ⟨us, e, hl⟩ := hv
    exact ⟨us, e, RVl.tidy cs _ hw hl⟩
  | .tup cs, v, hw, hv => by
    simp only [RV] at hv ⊢
    simp only [V.within] at hw
    obtain ⟨us, e, hl⟩ := hv
    exact ⟨us, e, RVt.tidy cs _ hw hl⟩
  | .ref lb o, v, hw, hv => by
    simp only [RV] at hv ⊢
    simp only [V.within] at hw
    obtain ⟨e, ob, h1, h2⟩ := hv
    exact ⟨e, ob, tidy_getO h1 hw, h2⟩
  | .eref lb g i o, v, hw, hv => by
    simp only [RV] at hv ⊢
    simp only [V.within] at hw
    obtain ⟨g', esz, xs, ho, rest⟩ := hv
    exact ⟨g', esz, xs, tidy_getO ho hw, rest⟩
  | .msl lb g o n, v, hw, hv => by
    simp only [RV] at hv ⊢
    simp only [V.within] at hw
    obtain ⟨g', esz, xs, ho, rest⟩ := hv
    exact ⟨g', esz, xs, tidy_getO ho hw, rest⟩
  | .map lb, v, hw, hv => by
    simp only [RV] at hv ⊢
    simp only [V.within] at hw
    obtain ⟨e, ob, h1, h2⟩ := hv
    exact ⟨e, ob, tidy_getO h1 hw, h2⟩
  | .clos fn a b, v, hw, hv => by
    simp only [RV] at hv ⊢
    simp only [V.within, Bool.and_eq_true] at hw
    obtain ⟨fs, cs, e, h1, h2⟩ := hv
    exact ⟨fs, cs, e, RVt.tidy a _ hw.1 h1, RVt.tidy b _ hw.2 h2⟩
  | .iface ty x, v, hw, hv => by
    simp only [RV] at hv ⊢
    simp only [V.within] at hw
    obtain ⟨u, e, hx⟩ := hv
    exact ⟨u, e, RV.tidy x u hw hx⟩
theorem RVl.tidy {ks : List (List Nat)} : ∀ (xs : List V) (us : List Value), withinL c.n ks xs = true → RVl ρ F (c :: s) w xs us → RVl ρ F (⟨c.n, tidyL c.os ks⟩ :: s) w xs us
  | [], us, _, hu => by simp only [RVl] at hu ⊢; exact hu
  | x :: r, us, hw, hu => by
    simp only [RVl] at hu ⊢
    simp only [withinL, Bool.and_eq_true] at hw
    obtain ⟨u, us', e, h1, hx, hr⟩ := hu
    exact ⟨u, us', e, h1, RV.tidy x u hw.1 hx, RVl.tidy r us' hw.2 hr⟩
theorem RVt.tidy {ks : List (List Nat)} : ∀ (xs : List V) (us : List Value), withinL c.n ks xs = true → RVt ρ F (c :: s) w xs us → RVt ρ F (⟨c.n, tidyL c.os ks⟩ :: s) w xs us
  | [], us, _, hu => by simp only [RVt] at hu ⊢; exact hu
  | x :: r, us, hw, hu => by
    simp only [RVt] at hu ⊢
    simp only [withinL, Bool.and_eq_true] at hw
    obtain ⟨u, us', e, hx, hr⟩ := hu
    exact ⟨u, us', e, RV.tidy x u hw.1 hx, RVt.tidy r us' hw.2 hr⟩
end
theorem RE.tidy {ks : List (List Nat)} : ∀ (xs : List (D × Nat × V)) (us : List MapEntry), withinL c.n ks (mapVals xs) = true → RE ρ F (c :: s) w xs us → RE ρ F (⟨c.n, tidyL c.os ks⟩ :: s) w xs us
  | [], us, _, hu => by simp only [RE] at hu ⊢; exact hu
  | x :: r, us, hw, hu => by
    simp only [RE] at hu ⊢
    simp only [mapVals, List.map_cons, withinL, Bool.and_eq_true] at hw
    obtain ⟨u, us', e, hk, hx, hr⟩ := hu
    exact ⟨u, us', e, hk, RV.tidy _ _ hw.1 hx, RE.tidy r us' hw.2 hr⟩
theorem frzMap_within {n : Nat} {ks : List (List Nat)} : ∀ {es : List (D × Nat × V)} {r : List D × List D}, frzMap es = some r → withinL n ks (mapVals es) = true
  | [], _, _ => rfl
  | (k, c, v) :: es, r, h => by
    cases v <;> simp only [frzMap] at h <;> try (cases h; done)
    split at h <;> try (cases h; done)
    rename_i h1
    simp only [mapVals, List.map_cons, withinL, V.within, Bool.true_and]
    exact frzMap_within h1
theorem tidyOkO_vals {n : Nat} {ks : List (List Nat)} {o : O} (h : tidyOkO (Sys.real T G call iter) n ks o = true) : withinL n ks o.vals = true := by
  cases o with
  | map c es =>
    simp only [tidyOkO] at h
    split at h
    · rename_i hf; exact frzMap_within hf
    · exact h
  | _ => exact h
theorem tidyOkL_at {n : Nat} {ks : List (List Nat)} : ∀ {l : List (List Nat × O)} {k : List Nat} {o : O}, tidyOkL (Sys.real T G call iter) n ks l = true → getK k l = some o → withinL n ks o.vals = true
  | [], k, o, _, h => by simp [getK] at h
  | (k0, o0) :: r, k, o, h, hg => by
    simp only [tidyOkL, Bool.and_eq_true] at h
    simp only [getK] at hg
    split at hg
    · cases hg; exact tidyOkO_vals h.1
    · exact tidyOkL_at h.2 hg
theorem tidyOk_at {n : Nat} {ks : List (List Nat)} : ∀ {l : Fr} {t : Nat}, tidyOk n ks l = true → V.within n ks (l.get t) = true
  | [], t, _ => by simp [Fr.get, V.within]
  | (m, v) :: r, t, h => by
    simp only [tidyOk, Bool.and_eq_true] at h
    simp only [Fr.get]
    split
    · exact h.1
    · exact tidyOk_at h.2
theorem tidy_sound (hs : SR G J nt ρ F stk w fr a) {slots : List Nat} {keys : List (List Nat)} {st' : St} (h : tidy (Sys.real T G call iter) slots keys ⟨fr, stk⟩ = some st') :
    SR G J nt ρ F st'.stk w st'.fr a ∧ Goes (topN stk) ρ F stk w ρ F st'.stk w ∧ nums st'.stk = nums stk := by
  cases stk with
  | nil => simp [tidy] at h
  | cons c s =>
  have htd : tidy (Sys.real T G call iter) slots keys ⟨fr, c :: s⟩ = if tidyOk c.n keys (tidyF fr slots) && tidyOkL (Sys.real T G call iter) c.n keys (tidyL c.os keys) && distinct keys then some ⟨tidyF fr slots, ⟨c.n, tidyL c.os keys⟩ :: s⟩ else none := rfl
  rw [htd] at h
  split at h <;> try (cases h; done)
  rename_i hc
  cases h
  simp only [Bool.and_eq_true] at hc
  obtain ⟨⟨h1, h2⟩, h3⟩ := hc
  have hgo : Goes c.n ρ F (c :: s) w ρ F (⟨c.n, tidyL c.os keys⟩ :: s) w :=
    { os := rfl, tape := rfl, output := rfl, size := Nat.le_refl _, frame := fun _ _ _ => rfl, sub := fun _ h => h, new := fun b h => .inl h
      own := fun l hl => by
        obtain ⟨o, ho, hr⟩ := hl
        exact .inr ⟨l, has_of (tidy_getO' ho).1 hr, rfl⟩
      evol := fun l o hlv hg => ⟨o, tidy_getO hg (by rw [if_neg (by omega)]), Turned.refl ρ l o⟩ }
  have hmv := hgo.moves hs.ok
  refine ⟨⟨{ objs := ?_, inj := ?_, sep := ?_, lt := hs.ok.lt, falls := falls_nums (by simp [nums]) hs.ok.falls, scope := ?_ }, hs.glob, ?_, hs.size, hs.j⟩, hgo, by simp [nums]⟩
  · intro l o hg
    obtain ⟨g1, g2⟩ := tidy_getO' hg
    by_cases e : l.lv = c.n
    · have hro := hs.ok.objs l o g1
      have hw : withinL c.n keys o.vals = true := by
        simp only [getO, if_pos e] at hg
        exact tidyOkL_at h2 hg
      cases o with
      | cells cs =>
        simp only [RO] at hro ⊢
        obtain ⟨cc, e, k1, k2⟩ := hro
        exact ⟨cc, e, k1, RVl.tidy cs _ hw k2⟩
      | arr g esz xs => simp only [RO] at hro ⊢; exact hro
      | map clock es =>
        simp only [RO] at hro ⊢
        obtain ⟨ents, k1, k2⟩ := hro
        exact ⟨ents, k1, RE.tidy es _ hw k2⟩
      | siter st pos => simp only [RO] at hro ⊢; exact hro
      | bld ty used v =>
        simp only [RO] at hro ⊢
        obtain ⟨u, k1, k3⟩ := hro
        exact ⟨u, k1, RB.tidy v _ (by simpa [O.vals, withinL] using hw) k3⟩
      | hid te g s => simp only [RO] at hro ⊢; exact hro
    · have h4 := getO_lv hs.ok.falls g1
      simp only [topN] at h4
      have hlt : l.lv < c.n := by omega
      have hmv' : Moves (c.n - 1 + 1) ρ F (c :: s) w ρ F (⟨c.n, tidyL c.os keys⟩ :: s) w := ⟨hmv.keep, fun lb o hlv hg => hmv.evol lb o (by omega) hg⟩
      refine RO.moves hmv' (fun v hv => ?_) rfl (fun _ => rfl) (hs.ok.objs l o g1)
      exact (upto_mono (by omega)).1 v (hs.ok.scope l o g1 v hv)
  · intro l l' g1 g2 hb
    obtain ⟨o1, ho1, r1⟩ := g1
    obtain ⟨o2, ho2, r2⟩ := g2
    exact hs.ok.inj _ _ (has_of (tidy_getO' ho1).1 r1) (has_of (tidy_getO' ho2).1 r2) hb
  · intro l g1
    obtain ⟨o1, ho1, r1⟩ := g1
    exact hs.ok.sep l (has_of (tidy_getO' ho1).1 r1)
  · intro l o hg; exact hs.ok.scope l o (tidy_getO' hg).1
  · intro t
    by_cases ht : t ∈ slots
    · have hw := tidyOk_at (t := t) h1
      rw [tidyF_get ht] at hw ⊢
      exact RV.tidy _ _ hw (hs.fr t)
    · simp only
      rw [tidyF_not ht]; trivial

theorem nthV_eq : ∀ {cs : List V} {i : Nat}, nthV cs i = cs[i]?
  | [], i => by simp [nthV]
  | x :: r, 0 => by simp [nthV]
  | x :: r, i + 1 => by simp [nthV, nthV_eq (cs := r) (i := i)]
theorem putK_append {k : List Nat} {o : O} {e : List (List Nat × O)} : ∀ {os : List (List Nat × O)} {o1 : O}, getK k os = some o1 → putK k o (os ++ e) = putK k o os ++ e
  | [], _, h => by simp [getK] at h
  | (k', o') :: r, o1, h => by
    simp only [getK] at h
    simp only [List.cons_append, putK]
    split
    · rfl
    · rename_i hne
      rw [if_neg hne] at h
      rw [putK_append h, List.cons_append]
theorem RVl_at : ∀ {cs : List V} {us : List Value} {i : Nat} {x : V}, RVl ρ F stk w cs us → cs[i]? = some x → ∃ u, us[i]? = some u ∧ RV ρ F stk w x u
  | [], us, i, x, _, h => by simp at h
  | y :: r, us, 0, x, h, hi => by
    simp only [RVl] at h
    obtain ⟨u, us', rfl, _, h2, _⟩ := h
    simp at hi; subst hi
    exact ⟨u, rfl, h2⟩
  | y :: r, us, i + 1, x, h, hi => by
    simp only [RVl] at h
    obtain ⟨u, us', rfl, _, _, h3⟩ := h
    obtain ⟨q, g1, g2⟩ := RVl_at h3 (i := i) (x := x) (by simpa using hi)
    exact ⟨q, by simpa using g1, g2⟩
theorem mem_set_V {l : List V} {i : Nat} {x y : V} (h : y ∈ l.set i x) : y ∈ l ∨ y = x := by
  rcases List.mem_or_eq_of_mem_set h with h | h
  · exact .inl h
  · exact .inr h
theorem SR.nilfr (hs : SR G J nt ρ F stk w fr a) : SR G J nt ρ F stk w [] a := ⟨hs.ok, hs.glob, fun t => by simp [Fr.get, RV], hs.size, hs.j⟩
theorem ok_grow {F' : Blks} (hok : Ok ρ F stk w) (hF : ∀ b, F b → F' b) (hsep : ∀ l, has ρ stk l → ¬ F' (ρ l).blk) (hlt : ∀ b, F' b → b < w.heap.size) : Ok ρ F' stk w := by
  have hmv : ∀ m, Moves m ρ F stk w ρ F' stk w := fun m => ⟨⟨hF, fun _ _ => rfl⟩, fun l o _ hg => ⟨o, hg, Turned.refl ρ l o⟩⟩
  refine { objs := fun l o hg => ?_, inj := hok.inj, sep := hsep, lt := hlt, falls := hok.falls, scope := hok.scope }
  exact RO.moves (hmv (l.lv + 1)) (fun v hv => hok.scope l o hg v hv) rfl (fun _ => rfl) (hok.objs l o hg)
/-- What one cell leads to is data from now on. -/
theorem frz_sound (hs : SR G J nt ρ F (c :: s) w fr a) {key : List Nat} {off : Nat} {K : List Nat} {slots : List Nat} {keys : List (List Nat)} {cs : List V} {l : Lab} {g o n : Nat} {d : D} {st1 : St} {c' : Level} {s' : Stk} {cs' : List V}
    (hk : getK key c.os = some (.cells cs)) (hn : cs[off]? = some (.msl l g o n)) (hd : freeze (Sys.real T G call iter) ⟨c.n, tidyL c.os [K]⟩ 100 (.msl l g o n) = some d)
    (ht : tidy (Sys.real T G call iter) slots keys ⟨fr, ⟨c.n, putK key (.cells (cs.set off .dead)) c.os⟩ :: s⟩ = some st1) (hK : hasKey K keys = false) (hst : st1.stk = c' :: s') (hk' : getK key c'.os = some (.cells cs')) :
    ∃ F', SR G J nt ρ F' (⟨c'.n, putK key (.cells (cs.set off (.d d))) c'.os⟩ :: s') w st1.fr a ∧ Goes (topN (c :: s)) ρ F (c :: s) w ρ F' (⟨c'.n, putK key (.cells (cs.set off (.d d))) c'.os⟩ :: s') w ∧ nums (⟨c'.n, putK key (.cells (cs.set off (.d d))) c'.os⟩ :: s') = nums (c :: s) := by
  -- the row alone
  have hl : l.lv = c.n ∧ l.key = K ∧ ∃ g' esz xs, getK K c.os = some (.arr g' esz xs) := by
    simp only [freeze] at hd
    split at hd <;> try (cases hd; done)
    rename_i hlv
    split at hd <;> try (cases hd; done)
    rename_i g' esz xs hg
    rw [tidyL_get] at hg
    split at hg <;> try (cases hg; done)
    rename_i hh
    have e : l.key = K := by
      simp only [hasKey] at hh
      split at hh
      · assumption
      · cases hh
    exact ⟨hlv, e, g', esz, xs, by rw [← e]; exact hg⟩
  obtain ⟨hlv, hlk, g', esz, xs, hgK⟩ := hl
  have ht0 : tidy (Sys.real T G call iter) [] [K] ⟨[], c :: s⟩ = some ⟨[], ⟨c.n, tidyL c.os [K]⟩ :: s⟩ := by
    simp [tidy, tidyF, tidyOk, tidyL, hgK, tidyOkL, tidyOkO, O.vals, withinL, distinct, hasKey]
  obtain ⟨h0, _, _⟩ := tidy_sound hs.nilfr ht0
  have hg : getO (c :: s) ⟨c.n, key⟩ = some (.cells cs) := by simp [getO, hk]
  have hro := hs.ok.objs _ _ hg
  simp only [RO] at hro
  obtain ⟨cc, e, k1, k2⟩ := hro
  obtain ⟨u, hu1, hu2⟩ := RVl_at k2 hn
  have hwi : V.within c.n [K] (.msl l g o n) = true := by
    simp [V.within, hlv, hlk, hasKey]
  have hv0 := RV.tidy (ks := [K]) _ _ hwi hu2
  have hfz := (freeze_sound h0.ok 100).1 _ _ _ hv0 hd
  -- the cell forgotten
  have hsc1 : ∀ v ∈ (O.cells (cs.set off .dead)).vals, V.upto c.n v = true := by
    intro v hv
    rcases mem_set_V (by simpa [O.vals] using hv) with h | h
    · exact hs.ok.scope _ _ hg v (by simpa [O.vals] using h)
    · subst h; rfl
  obtain ⟨q1, q2⟩ := set_sound (l := ⟨c.n, key⟩) (o' := .cells (cs.set off .dead)) (w' := w) (ρ' := ρ) hs.ok hg rfl rfl rfl (Nat.le_refl _) (fun _ _ _ => rfl) (fun _ _ => rfl)
    (fun _ => .inl ⟨rfl, by simp [O.real, O.fixed]⟩) (by simp [Turned]) hsc1 (fun hmv => by
      simp only [RO]
      refine ⟨cc, e, k1, ?_⟩
      have hset := RVl_set (ρ := ρ) (F := F) (stk := c :: s) (w := w) (x := .dead) (v := u) (by simp [RV]) (p := off) k2 hu1
      exact RVl.moves (hmv (c.n + 1)) _ _ (RVl.upto hs.ok.falls _ _ hset) hset)
  have hst1 : setO (c :: s) ⟨c.n, key⟩ (.cells (cs.set off .dead)) = ⟨c.n, putK key (.cells (cs.set off .dead)) c.os⟩ :: s := by simp [setO]
  rw [hst1] at q2
  have q1' := fun m => (by have := q1 m; rwa [hst1] at this : Goes m ρ F (c :: s) w ρ F (⟨c.n, putK key (.cells (cs.set off .dead)) c.os⟩ :: s) w)
  have hs1 : SR G J nt ρ F (⟨c.n, putK key (.cells (cs.set off .dead)) c.os⟩ :: s) w fr a := ⟨q2, hs.glob, fun t => by
    have hf := hs.fr t
    exact RV.moves ((q1' (topN (c :: s) + 1)).moves hs.ok) _ _ (RV.upto hs.ok.falls _ _ hf) hf, hs.size, hs.j⟩
  -- all that leads to the row forgotten
  obtain ⟨t1, t2, t3⟩ := tidy_sound hs1 ht
  have hAB : Goes (topN (c :: s)) ρ F (c :: s) w ρ F st1.stk w := (q1' _).trans t2
  have hst1' : st1.stk = ⟨c.n, tidyL (putK key (.cells (cs.set off .dead)) c.os) keys⟩ :: s := by
    have := ht
    simp only [tidy] at this
    split at this <;> try (cases this; done)
    cases this
    rfl
  rw [hst1'] at hst
  cases hst
  rw [hst1'] at t1 hAB t3
  have hKn : getO (⟨c.n, tidyL (putK key (.cells (cs.set off .dead)) c.os) keys⟩ :: s) ⟨c.n, K⟩ = none := by
    simp [getO, tidyL_get, hK]
  have hhas : ∀ l', has ρ (⟨c.n, tidyL (putK key (.cells (cs.set off .dead)) c.os) keys⟩ :: s) l' → l' ≠ ⟨c.n, K⟩ ∧ has ρ (c :: s) l' := by
    intro l' hl'
    obtain ⟨o1, ho1, hr1⟩ := hl'
    refine ⟨fun e => (by rw [e, hKn] at ho1; cases ho1), ?_⟩
    obtain ⟨p1, _⟩ := tidy_getO' (c := ⟨c.n, putK key (.cells (cs.set off .dead)) c.os⟩) ho1
    rw [← hst1] at p1
    by_cases e : l' = ⟨c.n, key⟩
    · subst e
      rw [getO_set_same hg] at p1
      cases p1
      exact ⟨_, hg, by simp [O.real, O.fixed]⟩
    · rw [getO_set_ne e] at p1
      exact ⟨o1, p1, hr1⟩
  -- the frozen row
  have hcase : ∀ b, withTop F ρ ⟨c.n, tidyL c.os [K]⟩ b → F b ∨ (has ρ (c :: s) ⟨c.n, K⟩ ∧ (ρ ⟨c.n, K⟩).blk = b) := by
    rintro b (h | ⟨k, o1, h1, h2, h3⟩)
    · exact .inl h
    · have hkk : k = K ∧ getK K c.os = some o1 := by
        simp only at h1
        rw [tidyL_get] at h1
        split at h1 <;> try (cases h1; done)
        rename_i hh
        have : k = K := by
          simp only [hasKey] at hh
          split at hh
          · assumption
          · cases hh
        exact ⟨this, by rw [← this]; exact h1⟩
      obtain ⟨rfl, h4⟩ := hkk
      exact .inr ⟨⟨o1, by simp [getO, h4], h2⟩, h3⟩
  have hrow : has ρ (c :: s) ⟨c.n, K⟩ → (ρ ⟨c.n, K⟩).blk < w.heap.size := by
    intro hh
    obtain ⟨o1, ho1, hr1⟩ := hh
    have := h0.ok
    exact hs.ok.blk_lt ⟨o1, ho1, hr1⟩
  have okF : Ok ρ (withTop F ρ ⟨c.n, tidyL c.os [K]⟩) (⟨c.n, tidyL (putK key (.cells (cs.set off .dead)) c.os) keys⟩ :: s) w := by
    refine ok_grow t1.ok (fun b hb => .inl hb) (fun l' hl' hb => ?_) (fun b hb => ?_)
    · obtain ⟨e1, e2⟩ := hhas l' hl'
      rcases hcase _ hb with h | ⟨h1, h2⟩
      · exact t1.ok.sep l' hl' h
      · exact e1 (hs.ok.inj _ _ e2 h1 h2.symm)
    · rcases hcase _ hb with h | ⟨h1, h2⟩
      · exact t1.ok.lt b h
      · rw [← h2]; exact hrow h1
  have hmvF : ∀ m, Moves m ρ F (⟨c.n, tidyL (putK key (.cells (cs.set off .dead)) c.os) keys⟩ :: s) w ρ (withTop F ρ ⟨c.n, tidyL c.os [K]⟩) (⟨c.n, tidyL (putK key (.cells (cs.set off .dead)) c.os) keys⟩ :: s) w :=
    fun m => ⟨⟨fun b hb => .inl hb, fun _ _ => rfl⟩, fun l o _ hg => ⟨o, hg, Turned.refl ρ l o⟩⟩
  -- the cell as data
  have hgd : getO (⟨c.n, tidyL (putK key (.cells (cs.set off .dead)) c.os) keys⟩ :: s) ⟨c.n, key⟩ = some (.cells (cs.set off .dead)) := by
    have h1 : getO (⟨c.n, tidyL (putK key (.cells (cs.set off .dead)) c.os) keys⟩ :: s) ⟨c.n, key⟩ = some (.cells cs') := by simp [getO, hk']
    obtain ⟨p1, _⟩ := tidy_getO' (c := ⟨c.n, putK key (.cells (cs.set off .dead)) c.os⟩) h1
    rw [← hst1, getO_set_same hg] at p1
    rw [h1, p1]
  have hro2 := okF.objs _ _ hgd
  simp only [RO] at hro2
  obtain ⟨cc2, e2, j1, j2⟩ := hro2
  have hcc : cc2 = cc := by
    rw [k1] at j1
    simp only [Option.some.injEq] at j1
    injection j1 with j3 j4 j5
    exact j3.symm
  subst hcc
  have hxd : RV ρ (withTop F ρ ⟨c.n, tidyL c.os [K]⟩) (⟨c.n, tidyL (putK key (.cells (cs.set off .dead)) c.os) keys⟩ :: s) w (.d d) u := by simpa only [RV] using hfz
  have hset := RVl_set hxd (p := off) j2 hu1
  rw [List.set_set] at hset
  have hsc2 : ∀ v ∈ (O.cells (cs.set off (.d d))).vals, V.upto c.n v = true := by
    intro v hv
    rcases mem_set_V (by simpa [O.vals] using hv) with h | h
    · exact hs.ok.scope _ _ hg v (by simpa [O.vals] using h)
    · subst h; rfl
  obtain ⟨r1, r2⟩ := set_sound (l := ⟨c.n, key⟩) (o' := .cells (cs.set off (.d d))) (w' := w) (ρ' := ρ) okF hgd rfl rfl rfl (Nat.le_refl _) (fun _ _ _ => rfl) (fun _ _ => rfl)
    (fun _ => .inl ⟨rfl, by simp [O.real, O.fixed]⟩) (by simp [Turned]) hsc2 (fun hmv => by
      simp only [RO]
      refine ⟨cc2, e2, j1, ?_⟩
      exact RVl.moves (hmv (c.n + 1)) _ _ (RVl.upto okF.falls _ _ hset) hset)
  have hst2 : setO (⟨c.n, tidyL (putK key (.cells (cs.set off .dead)) c.os) keys⟩ :: s) ⟨c.n, key⟩ (.cells (cs.set off (.d d))) = ⟨c.n, putK key (.cells (cs.set off (.d d))) (tidyL (putK key (.cells (cs.set off .dead)) c.os) keys)⟩ :: s := by simp [setO]
  refine ⟨withTop F ρ ⟨c.n, tidyL c.os [K]⟩, ⟨by rw [← hst2]; exact r2, hs.glob.keep ⟨fun b hb => .inl hb, fun _ _ => rfl⟩, fun t => ?_, hs.size, hs.j⟩, ?_, by simp [nums]⟩
  · have hf := t1.fr t
    have hf2 := RV.moves (hmvF (topN (⟨c.n, tidyL (putK key (.cells (cs.set off .dead)) c.os) keys⟩ :: s) + 1)) _ _ (RV.upto t1.ok.falls _ _ hf) hf
    have hf3 := RV.moves ((r1 (topN (⟨c.n, tidyL (putK key (.cells (cs.set off .dead)) c.os) keys⟩ :: s) + 1)).moves okF) _ _ (RV.upto okF.falls _ _ hf2) hf2
    rw [hst2] at hf3
    exact hf3
  · exact
    { os := rfl, tape := rfl, output := rfl, size := Nat.le_refl _, frame := fun _ _ _ => rfl, sub := fun b hb => .inl hb
      new := fun b hb => by
        rcases hcase b hb with h | ⟨h1, h2⟩
        · exact .inl h
        · exact .inr (.inr ⟨_, h1, h2⟩)
      own := fun l' hl' => by
        rw [← hst2] at hl'
        have : has ρ (⟨c.n, tidyL (putK key (.cells (cs.set off .dead)) c.os) keys⟩ :: s) l' := by
          by_cases e : l' = ⟨c.n, key⟩
          · subst e; exact ⟨_, hgd, by simp [O.real, O.fixed]⟩
          · exact (has_set_ne e rfl).1 hl'
        exact .inr ⟨l', (hhas l' this).2, rfl⟩
      evol := fun l' o1 hlv' hg1 => by
        refine ⟨o1, ?_, Turned.refl ρ l' o1⟩
        have hne : l'.lv ≠ c.n := fun h => by simp only [topN] at hlv'; omega
        simp only [getO, if_neg hne] at hg1 ⊢
        exact hg1 }
theorem frzs_sound (hs : SR G J nt ρ F (c :: s) w fr a) {slot : Nat} {K : List Nat} {slots : List Nat} {keys : List (List Nat)} {l : Lab} {g o n : Nat} {d : D} {st1 : St}
    (hv : fr.get slot = .msl l g o n) (hd : freeze (Sys.real T G call iter) ⟨c.n, tidyL c.os [K]⟩ 100 (.msl l g o n) = some d)
    (ht : tidy (Sys.real T G call iter) slots keys ⟨fr, c :: s⟩ = some st1) (hK : hasKey K keys = false) :
    ∃ F', SR G J nt ρ F' st1.stk w (st1.fr.put (some slot) (.d d)) a ∧ Goes (topN (c :: s)) ρ F (c :: s) w ρ F' st1.stk w ∧ nums st1.stk = nums (c :: s) := by
  have hl : l.lv = c.n ∧ l.key = K ∧ ∃ g' esz xs, getK K c.os = some (.arr g' esz xs) := by
    simp only [freeze] at hd
    split at hd <;> try (cases hd; done)
    rename_i hlv
    split at hd <;> try (cases hd; done)
    rename_i g' esz xs hg
    rw [tidyL_get] at hg
    split at hg <;> try (cases hg; done)
    rename_i hh
    have e : l.key = K := by
      simp only [hasKey] at hh
      split at hh
      · assumption
      · cases hh
    exact ⟨hlv, e, g', esz, xs, by rw [← e]; exact hg⟩
  obtain ⟨hlv, hlk, g', esz, xs, hgK⟩ := hl
  have ht0 : tidy (Sys.real T G call iter) [] [K] ⟨[], c :: s⟩ = some ⟨[], ⟨c.n, tidyL c.os [K]⟩ :: s⟩ := by
    simp [tidy, tidyF, tidyOk, tidyL, hgK, tidyOkL, tidyOkO, O.vals, withinL, distinct, hasKey]
  obtain ⟨h0, _, _⟩ := tidy_sound hs.nilfr ht0
  have hu2 : RV ρ F (c :: s) w (.msl l g o n) (a.tmps.getD slot undef) := by rw [← hv]; exact hs.fr slot
  have hwi : V.within c.n [K] (.msl l g o n) = true := by
    simp [V.within, hlv, hlk, hasKey]
  have hv0 := RV.tidy (ks := [K]) _ _ hwi hu2
  have hfz := (freeze_sound h0.ok 100).1 _ _ _ hv0 hd
  obtain ⟨t1, t2, t3⟩ := tidy_sound hs ht
  have hst1' : st1.stk = ⟨c.n, tidyL c.os keys⟩ :: s := by
    have := ht
    simp only [tidy] at this
    split at this <;> try (cases this; done)
    cases this
    rfl
  rw [hst1'] at t1 t2 t3 ⊢
  have hKn : getO (⟨c.n, tidyL c.os keys⟩ :: s) ⟨c.n, K⟩ = none := by
    simp [getO, tidyL_get, hK]
  have hhas : ∀ l', has ρ (⟨c.n, tidyL c.os keys⟩ :: s) l' → l' ≠ ⟨c.n, K⟩ ∧ has ρ (c :: s) l' := by
    intro l' hl'
    obtain ⟨o1, ho1, hr1⟩ := hl'
    refine ⟨fun e => (by rw [e, hKn] at ho1; cases ho1), ?_⟩
    obtain ⟨p1, _⟩ := tidy_getO' (c := c) ho1
    exact ⟨o1, p1, hr1⟩
  have hcase : ∀ b, withTop F ρ ⟨c.n, tidyL c.os [K]⟩ b → F b ∨ (has ρ (c :: s) ⟨c.n, K⟩ ∧ (ρ ⟨c.n, K⟩).blk = b) := by
    rintro b (h | ⟨k, o1, h1, h2, h3⟩)
    · exact .inl h
    · have hkk : k = K ∧ getK K c.os = some o1 := by
        simp only at h1
        rw [tidyL_get] at h1
        split at h1 <;> try (cases h1; done)
        rename_i hh
        have : k = K := by
          simp only [hasKey] at hh
          split at hh
          · assumption
          · cases hh
        exact ⟨this, by rw [← this]; exact h1⟩
      obtain ⟨rfl, h4⟩ := hkk
      exact .inr ⟨⟨o1, by simp [getO, h4], h2⟩, h3⟩
  have hrow : has ρ (c :: s) ⟨c.n, K⟩ → (ρ ⟨c.n, K⟩).blk < w.heap.size := by
    intro hh
    obtain ⟨o1, ho1, hr1⟩ := hh
    exact hs.ok.blk_lt ⟨o1, ho1, hr1⟩
  have okF : Ok ρ (withTop F ρ ⟨c.n, tidyL c.os [K]⟩) (⟨c.n, tidyL c.os keys⟩ :: s) w := by
    refine ok_grow t1.ok (fun b hb => .inl hb) (fun l' hl' hb => ?_) (fun b hb => ?_)
    · obtain ⟨e1, e2⟩ := hhas l' hl'
      rcases hcase _ hb with h | ⟨h1, h2⟩
      · exact t1.ok.sep l' hl' h
      · exact e1 (hs.ok.inj _ _ e2 h1 h2.symm)
    · rcases hcase _ hb with h | ⟨h1, h2⟩
      · exact t1.ok.lt b h
      · rw [← h2]; exact hrow h1
  have hmvF : ∀ m, Moves m ρ F (⟨c.n, tidyL c.os keys⟩ :: s) w ρ (withTop F ρ ⟨c.n, tidyL c.os [K]⟩) (⟨c.n, tidyL c.os keys⟩ :: s) w :=
    fun m => ⟨⟨fun b hb => .inl hb, fun _ _ => rfl⟩, fun l o _ hg => ⟨o, hg, Turned.refl ρ l o⟩⟩
  refine ⟨withTop F ρ ⟨c.n, tidyL c.os [K]⟩, ⟨okF, hs.glob.keep ⟨fun b hb => .inl hb, fun _ _ => rfl⟩, fun t => ?_, hs.size, hs.j⟩, ?_, by simp [nums]⟩
  · rw [put_get]
    by_cases e : some slot = some t
    · rw [if_pos e]
      cases e
      simpa only [RV] using hfz
    · rw [if_neg e]
      have hf := t1.fr t
      exact RV.moves (hmvF (topN (⟨c.n, tidyL c.os keys⟩ :: s) + 1)) _ _ (RV.upto t1.ok.falls _ _ hf) hf
  · exact
    { os := rfl, tape := rfl, output := rfl, size := Nat.le_refl _, frame := fun _ _ _ => rfl, sub := fun b hb => .inl hb
      new := fun b hb => by
        rcases hcase b hb with h | ⟨h1, h2⟩
        · exact .inl h
        · exact .inr (.inr ⟨_, h1, h2⟩)
      own := fun l' hl' => .inr ⟨l', (hhas l' hl').2, rfl⟩
      evol := fun l' o1 hlv' hg1 => by
        refine ⟨o1, ?_, Turned.refl ρ l' o1⟩
        have hne : l'.lv ≠ c.n := fun h => by simp only [topN] at hlv'; omega
        simp only [getO, if_neg hne] at hg1 ⊢
        exact hg1 }
/-- What is taken otherwise stands as it stood. -/
theorem adjust_sound (hs : SR G J nt ρ F stk w fr a) {ad : Adj} {st' : St} (h : adjust (Sys.real T G call iter) ad ⟨fr, stk⟩ = some st') :
    ∃ ρ' F', SR G J nt ρ' F' st'.stk w st'.fr a ∧ Goes (topN stk) ρ F stk w ρ' F' st'.stk w ∧ nums st'.stk = nums stk := by
  cases ad with
  | frz key off K slots keys =>
    unfold adjust at h
    simp only at h
    split at h <;> try (cases h; done)
    rename_i c s
    split at h
    case h_2 => cases h; exact ⟨ρ, F, hs, Goes.refl _ _ _ _ _, rfl⟩
    rename_i cs hk
    split at h
    case h_2 => cases h; exact ⟨ρ, F, hs, Goes.refl _ _ _ _ _, rfl⟩
    rename_i l g o n hn
    split at h <;> try (cases h; done)
    rename_i d hd
    split at h <;> try (cases h; done)
    rename_i st1 ht
    split at h <;> try (cases h; done)
    rename_i c' s' hK hst
    split at h <;> try (cases h; done)
    rename_i cs' hk'
    cases h
    rw [nthV_eq] at hn
    obtain ⟨F', g1, g2, g3⟩ := frz_sound hs hk hn hd ht hK hst hk'
    exact ⟨ρ, F', g1, g2, g3⟩
  | frzs slot K slots keys =>
    unfold adjust at h
    simp only at h
    split at h <;> try (cases h; done)
    rename_i c s
    split at h
    case h_2 => cases h; exact ⟨ρ, F, hs, Goes.refl _ _ _ _ _, rfl⟩
    rename_i l g o n hv
    split at h <;> try (cases h; done)
    rename_i d hd
    split at h <;> try (cases h; done)
    rename_i st1 ht
    split at h <;> try (cases h; done)
    rename_i hK
    cases h
    obtain ⟨F', g1, g2, g3⟩ := frzs_sound hs hv hd ht hK
    exact ⟨ρ, F', g1, g2, g3⟩
  | virt key off esz new =>
  unfold adjust at h
  simp only at h
  split at h <;> try (cases h; done)
  rename_i c s
  split at h
  case h_2 => cases h; exact ⟨ρ, F, hs, Goes.refl _ _ _ _ _, rfl⟩
  rename_i cs hk
  split at h
  case h_2 => cases h; exact ⟨ρ, F, hs, Goes.refl _ _ _ _ _, rfl⟩
  rename_i hn
  split at h <;> try (cases h; done)
  rename_i hnew
  split at h <;> try (cases h; done)
  rename_i esz
  cases h
  obtain ⟨g1, g2, g3⟩ := virt_sound (n := c.n) (os := c.os) (s := s) (k := new) (esz := esz + 1) hs.ok hnew (by omega)
  rw [nthV_eq] at hn
  have hg0 : getO (⟨c.n, c.os⟩ :: s) ⟨c.n, key⟩ = some (.cells cs) := by simp [getO, hk]
  have hg : getO (⟨c.n, c.os ++ [(new, O.arr 0 (esz + 1) [])]⟩ :: s) ⟨c.n, key⟩ = some (.cells cs) := by
    simp [getO, getK_append, hk]
  have hro := g2.objs _ _ hg
  simp only [RO] at hro
  obtain ⟨cc, e, k1, k2⟩ := hro
  obtain ⟨u, hu1, hu2⟩ := RVl_at k2 hn
  simp only [RV, Rv] at hu2
  subst hu2
  have hnil : RV (upd ρ ⟨c.n, new⟩ ⟨0, 0⟩) F (⟨c.n, c.os ++ [(new, O.arr 0 (esz + 1) [])]⟩ :: s) w (.msl ⟨c.n, new⟩ 0 0 0) (.slice none 0 0) := RV_nil (by simp [upd]) g3
  have hcs := RVl_set hnil (p := off) k2 hu1
  have hsc : ∀ v ∈ (O.cells (cs.set off (.msl ⟨c.n, new⟩ 0 0 0))).vals, V.upto c.n v = true := by
    intro v hv
    rcases mem_set_V (by simpa [O.vals] using hv) with h | h
    · exact g2.scope _ _ hg v (by simpa [O.vals] using h)
    · subst h; simp [V.upto, leN_iff]
  obtain ⟨q1, q2⟩ := set_sound (l := ⟨c.n, key⟩) (o' := .cells (cs.set off (.msl ⟨c.n, new⟩ 0 0 0))) (w' := w) (ρ' := upd ρ ⟨c.n, new⟩ ⟨0, 0⟩) g2 hg rfl rfl rfl (Nat.le_refl _) (fun _ _ _ => rfl) (fun _ _ => rfl)
    (fun _ => .inl ⟨rfl, by simp [O.real, O.fixed]⟩) (by simp [Turned]) hsc (fun hmv => by
      simp only [RO]
      refine ⟨cc, e, k1, ?_⟩
      exact RVl.moves (hmv (c.n + 1)) _ _ (RVl.upto g2.falls _ _ hcs) hcs)
  have hst : setO (⟨c.n, c.os ++ [(new, O.arr 0 (esz + 1) [])]⟩ :: s) ⟨c.n, key⟩ (.cells (cs.set off (.msl ⟨c.n, new⟩ 0 0 0))) = ⟨c.n, putK key (.cells (cs.set off (.msl ⟨c.n, new⟩ 0 0 0))) c.os ++ [(new, O.arr 0 (esz + 1) [])]⟩ :: s := by
    simp only [setO, if_true, putK_append hk]
  have hgo : Goes (topN (c :: s)) ρ F (c :: s) w (upd ρ ⟨c.n, new⟩ ⟨0, 0⟩) F (⟨c.n, putK key (.cells (cs.set off (.msl ⟨c.n, new⟩ 0 0 0))) c.os ++ [(new, O.arr 0 (esz + 1) [])]⟩ :: s) w := by
    rw [← hst]
    exact (g1 _).trans (q1 _)
  rw [hst] at q2
  refine ⟨upd ρ ⟨c.n, new⟩ ⟨0, 0⟩, F, ⟨q2, hs.glob, fun t => ?_, hs.size, hs.j⟩, hgo, by simp [nums]⟩
  have hf := hs.fr t
  have hgo2 : Goes (topN (c :: s) + 1) ρ F (c :: s) w (upd ρ ⟨c.n, new⟩ ⟨0, 0⟩) F (⟨c.n, putK key (.cells (cs.set off (.msl ⟨c.n, new⟩ 0 0 0))) c.os ++ [(new, O.arr 0 (esz + 1) [])]⟩ :: s) w := by
    rw [← hst]
    exact (g1 _).trans (q1 _)
  exact RV.moves (hgo2.moves hs.ok) _ _ (RV.upto hs.ok.falls _ _ hf) hf

/-! ## Code -/
/-- All operations of a code. -/
def regsOk (J : Hold) : Code → Prop
  | .region _ ops _ => Jok ops J
  | .seq a b => regsOk J a ∧ regsOk J b
  | .cond _ a b => regsOk J a ∧ regsOk J b
  | .block _ c => regsOk J c
  | .loop c => regsOk J c
  | _ => True
theorem regsOk_nil : ∀ cd : Code, regsOk Hold.nil cd
  | .region _ ops _ => fun i o _ => ⟨fun a v => (by show (a.put o.dst v).defers = [] ↔ _; rw [put_defers]; rfl), fun _ _ h => h⟩
  | .seq a b => ⟨regsOk_nil a, regsOk_nil b⟩
  | .cond _ a b => ⟨regsOk_nil a, regsOk_nil b⟩
  | .block _ c => regsOk_nil c
  | .loop c => regsOk_nil c
  | .skip | .rangeFunc .. | .exit _ | .ret | .goto _ | .scope .. | .label _ | .refuse _ => by simp [regsOk]
theorem code_sound (hC : CallOK P G call) (hmix : P.follows .mixedOrders = true) (n : Nat) : ∀ (x : C) (cd : Code) {ρ : Rho} {F : Blks} {stk : Stk} {w : World} {fr : Fr} {a : Act} {Q : Exit → Act → World → Prop}, mC P nt cd x = true → regsOk J cd → SR G J nt ρ F stk w fr a →
    ∀ {ex : Ex} {st' : St}, evC (Sys.real T G call (iterN n)) x ⟨fr, stk⟩ = some (ex, st') → CR G J nt (topN stk) ρ F stk w Q ex st' → cd.wp P Q a w
  | .tidy slots keys x, cd, ρ, F, stk, w, fr, a, Q, hm, hR, hs, ex, st', he, hQ => by
    simp only [mC] at hm
    simp only [evC] at he
    split at he <;> try (cases he; done)
    rename_i st1 ht
    obtain ⟨h1, h2, h3⟩ := tidy_sound hs ht
    refine code_sound hC hmix n x cd hm hR h1 he ?_
    rw [topN_nums h3]
    exact hQ.trans h2 h3
  | .adj ad x, cd, ρ, F, stk, w, fr, a, Q, hm, hR, hs, ex, st', he, hQ => by
    simp only [mC] at hm
    simp only [evC] at he
    split at he <;> try (cases he; done)
    rename_i st1 ht
    obtain ⟨ρ', F', h1, h2, h3⟩ := adjust_sound hs ht
    refine code_sound hC hmix n x cd hm hR h1 he ?_
    rw [topN_nums h3]
    exact hQ.trans h2 h3
  | .skip, cd, ρ, F, stk, w, fr, a, Q, hm, hR, hs, ex, st', he, hQ => by
    cases cd <;> simp only [mC, Bool.false_eq_true] at hm
    simp only [evC, Option.some.injEq, Prod.mk.injEq] at he
    obtain ⟨rfl, rfl⟩ := he
    exact wp_skip (hQ ρ F a w (Goes.refl _ _ _ _ _) rfl hs)
  | .exit i, cd, ρ, F, stk, w, fr, a, Q, hm, hR, hs, ex, st', he, hQ => by
    cases cd <;> simp only [mC, Bool.false_eq_true, beq_iff_eq] at hm
    subst hm
    simp only [evC, Option.some.injEq, Prod.mk.injEq] at he
    obtain ⟨rfl, rfl⟩ := he
    exact wp_exit (hQ ρ F a w (Goes.refl _ _ _ _ _) rfl hs)
  | .ret, cd, ρ, F, stk, w, fr, a, Q, hm, hR, hs, ex, st', he, hQ => by
    cases cd <;> simp only [mC, Bool.false_eq_true] at hm
    simp only [evC, Option.some.injEq, Prod.mk.injEq] at he
    obtain ⟨rfl, rfl⟩ := he
    exact wp_ret (hQ ρ F a w (Goes.refl _ _ _ _ _) rfl hs)
  | .bad, cd, ρ, F, stk, w, fr, a, Q, hm, hR, hs, ex, st', he, hQ => by simp [evC] at he
  | .reg l, cd, ρ, F, stk, w, fr, a, Q, hm, hR, hs, ex, st', he, hQ => by
    cases cd <;> try (simp only [mC, Bool.false_eq_true] at hm; done)
    rename_i id ops draw
    cases draw <;> simp only [mC, Bool.false_eq_true] at hm
    simp only [evC] at he
    refine wp_region ?_
    have := ops_sound (ops := ops) (m := topN stk) hR hC (allLt_of hm) 0 hm (fun j o ho => by rw [Nat.zero_add]; simpa using ho) (Nat.le_succ _) hs he hQ
    rw [List.range_eq_range']
    simpa using this
  | .dreg f t, cd, ρ, F, stk, w, fr, a, Q, hm, hR, hs, ex, st', he, hQ => by
    cases cd <;> try (simp only [mC, Bool.false_eq_true] at hm; done)
    rename_i id ops draw
    cases draw <;> simp only [mC, Bool.false_eq_true] at hm
    simp only [evC] at he
    split at he <;> try (cases he; done)
    rename_i fr' stk1 hf
    exact draw_sound (J := J) hR hC hmix hm (Nat.le_succ _) hs hf he hQ
  | .dpan f k t, cd, ρ, F, stk, w, fr, a, Q, hm, hR, hs, ex, st', he, hQ => by
    cases cd <;> try (simp only [mC, Bool.false_eq_true] at hm; done)
    rename_i id ops draw
    cases draw <;> simp only [mC, Bool.false_eq_true, Bool.and_eq_true] at hm
    simp only [evC] at he
    split at he <;> try (cases he; done)
    rename_i rp fr2 hk hf
    split at he <;> try (cases he; done)
    · rename_i x s hr
      cases he
      exact dpan_sound (J := J) hR hC hmix hm.2 (Nat.le_succ _) hs hk hf hr hQ
    · split at he <;> try (cases he; done)
      rename_i fr' stk1 hd
      exact draw_sound (J := J) hR hC hmix hm.1 (Nat.le_succ _) hs hd he hQ
  | .seq x y, cd, ρ, F, stk, w, fr, a, Q, hm, hR, hs, ex, st', he, hQ => by
    cases cd <;> simp only [mC, Bool.false_eq_true, Bool.and_eq_true] at hm
    rename_i c1 c2
    simp only [evC] at he
    refine wp_seq ?_
    split at he
    · rename_i st1 h1
      refine code_sound hC hmix n x c1 hm.1 hR.1 hs h1 ?_
      intro ρ' F' a' w' g1 g2 g3
      refine code_sound hC hmix n y c2 hm.2 hR.2 g3 he ?_
      rw [topN_nums g2]
      exact hQ.trans g1 g2
    · rename_i r hr
      refine code_sound hC hmix n x c1 hm.1 hR.1 hs he ?_
      intro ρ' F' a' w' g1 g2
      have hq := hQ ρ' F' a' w' g1 g2
      cases ex with
      | normal => exact absurd he (hr _)
      | exit i => exact hq
      | ret => exact hq
      | pan x => exact hq
  | .cond c x y, cd, ρ, F, stk, w, fr, a, Q, hm, hR, hs, ex, st', he, hQ => by
    cases cd <;> simp only [mC, Bool.false_eq_true, Bool.and_eq_true] at hm
    obtain ⟨⟨h1, h2⟩, h3⟩ := hm
    have hc := ev_sound (T := T) (call := call) (iter := iterN n) hs.glob hs.fr h1
    simp only [evC] at he
    split at he <;> try (cases he; done)
    · rename_i hb
      rw [hb] at hc
      simp only [RV, Rv] at hc
      exact wp_cond_true hc (code_sound hC hmix n x _ h2 hR.1 hs he hQ)
    · rename_i hb
      rw [hb] at hc
      simp only [RV, Rv] at hc
      exact wp_cond_false hc (code_sound hC hmix n y _ h3 hR.2 hs he hQ)
  | .block i x, cd, ρ, F, stk, w, fr, a, Q, hm, hR, hs, ex, st', he, hQ => by
    cases cd <;> simp only [mC, Bool.false_eq_true, Bool.and_eq_true, beq_iff_eq] at hm
    obtain ⟨rfl, h2⟩ := hm
    simp only [evC] at he
    refine wp_block ?_
    split at he
    · rename_i j st1 h1
      refine code_sound hC hmix n x _ h2 hR hs h1 ?_
      intro ρ' F' a' w' g1 g2 g3
      simp only [Exit.inBlock]
      split at he
      · rename_i e
        subst e
        rw [if_pos rfl]
        cases he
        exact hQ ρ' F' a' w' g1 g2 g3
      · rename_i e
        rw [if_neg e]
        cases he
        exact hQ ρ' F' a' w' g1 g2 g3
    · rename_i r hr
      refine code_sound hC hmix n x _ h2 hR hs he ?_
      intro ρ' F' a' w' g1 g2
      have hq := hQ ρ' F' a' w' g1 g2
      cases ex with
      | normal => exact hq
      | exit i => exact absurd he (hr _ _)
      | ret => exact hq
      | pan x => exact hq
  | .loop x, cd, ρ, F, stk, w, fr, a, Q, hm, hR, hs, ex, st', he, hQ => by
    cases cd <;> simp only [mC, Bool.false_eq_true] at hm
    rename_i cd
    simp only [evC] at he
    refine wp_loop_rounds n ?_
    have key : ∀ (k : Nat) {ρ : Rho} {F : Blks} {stk : Stk} {w : World} {fr : Fr} {a : Act}, SR G J nt ρ F stk w fr a → iterN k (evC (Sys.real T G call (iterN n)) x) ⟨fr, stk⟩ = some (ex, st') → CR G J nt (topN stk) ρ F stk w Q ex st' → Code.rounds P cd Q k a w := by
      intro k
      induction k with
      | zero => intro ρ F stk w fr a _ h; simp [iterN] at h
      | succ k ih =>
        intro ρ F stk w fr a hs h hQ
        rw [rounds_succ]
        simp only [iterN] at h
        split at h
        · rename_i st1 h1
          refine code_sound hC hmix n x cd hm hR hs h1 ?_
          intro ρ' F' a' w' g1 g2 g3
          refine ih g3 h ?_
          rw [topN_nums g2]
          exact hQ.trans g1 g2
        · rename_i r hr
          refine code_sound hC hmix n x cd hm hR hs h ?_
          intro ρ' F' a' w' g1 g2
          have hq := hQ ρ' F' a' w' g1 g2
          cases ex with
          | normal => exact absurd h (hr _)
          | exit i => exact hq
          | ret => exact hq
          | pan x => exact hq
    exact key n hs he hQ

/-! ## Functions -/
theorem getO_push (hf : Falls stk) {l : Lab} {o : O} : getO (push stk) l = some o ↔ getO stk l = some o := by
  unfold push
  simp only [getO]
  split
  · rename_i e
    simp only [getK]
    refine ⟨fun h => (by cases h), fun h => ?_⟩
    have := getO_lv hf h
    omega
  · exact Iff.rfl
theorem push_sound (hok : Ok ρ F stk w) : Ok ρ F (push stk) w ∧ ∀ m, Goes m ρ F stk w ρ F (push stk) w := by
  have hhas : ∀ l, has ρ (push stk) l → has ρ stk l := fun l hl => by
    obtain ⟨o, ho, hr⟩ := hl
    exact has_of ((getO_push hok.falls).1 ho) hr
  have hgo : ∀ m, Goes m ρ F stk w ρ F (push stk) w := fun m =>
    { os := rfl, tape := rfl, output := rfl, size := Nat.le_refl _, frame := fun _ _ _ => rfl, sub := fun _ h => h, new := fun b h => .inl h
      own := fun l hl => .inr ⟨l, hhas l hl, rfl⟩
      evol := fun l o _ hg => ⟨o, (getO_push hok.falls).2 hg, Turned.refl ρ l o⟩ }
  refine ⟨{ objs := ?_, inj := ?_, sep := ?_, lt := hok.lt, falls := ?_, scope := ?_ }, hgo⟩
  · intro l o hg
    have h1 := (getO_push hok.falls).1 hg
    refine RO.moves ((hgo (topN stk + 1)).moves hok) (fun v hv => ?_) rfl (fun _ => rfl) (hok.objs l o h1)
    exact (upto_mono (getO_lv hok.falls h1)).1 v (hok.scope l o h1 v hv)
  · intro l l' h1 h2 hb; exact hok.inj l l' (hhas l h1) (hhas l' h2) hb
  · intro l hl; exact hok.sep l (hhas l hl)
  · refine ⟨fun c' hc' => ?_, hok.falls⟩
    cases stk with
    | nil => cases hc'
    | cons c s =>
      simp only [topN]
      rcases List.mem_cons.1 hc' with rfl | h
      · omega
      · have := hok.falls.1 c' h; omega
  · intro l o hg; exact hok.scope l o ((getO_push hok.falls).1 hg)
theorem frame_get : ∀ {vs : List V} {n t : Nat}, (frame n vs).get t = if n ≤ t then (vs[t - n]?).getD .dead else .dead
  | [], n, t => by simp [frame, Fr.get]
  | v :: r, n, t => by
    simp only [frame, Fr.get]
    by_cases e : t = n
    · subst e; simp
    · rw [if_neg e, frame_get]
      by_cases h : n ≤ t
      · rw [if_pos h, if_pos (by omega), show t - n = (t - (n + 1)) + 1 by omega, List.getElem?_cons_succ]
      · rw [if_neg h, if_neg (by omega)]
def resOne (tmps : Array Value) : ResultVar → Sem Value
  | .tmp t => pure (tmps.getD t undef)
  | .cell x t => do loadVar t (← asAddr (tmps.getD x undef))
theorem results_eq (fn : Func) (tmps : Array Value) : Go.results fn tmps = (do let vs ← fn.results.mapM (resOne tmps); pure (if h : vs.size = 1 then vs[0] else .tuple vs)) := by
  unfold Go.results
  refine congrArg (fun g : ResultVar → Sem Value => (do let vs ← fn.results.mapM g; pure (if h : vs.size = 1 then vs[0] else .tuple vs))) ?_
  funext r
  cases r <;> rfl
theorem res_sound (hs : SR G J nt ρ F stk w fr a) : ∀ {rs : List ResultVar} {ys : List RRes} {vs : List V}, mRes P rs ys = true → resAll (Sys.real T G call iter) stk fr ys = some vs →
    ∃ us : List Value, (rs.mapM (resOne a.tmps)).run P w = .ok us w ∧ RVt ρ F stk w vs us
  | [], [], vs, _, h => by
    simp only [resAll, Option.some.injEq] at h
    subst h
    exact ⟨[], by simp, by simp [RVt]⟩
  | [], _ :: _, vs, h, _ => by simp [mRes] at h
  | .tmp _ :: _, [], vs, h, _ => by simp [mRes] at h
  | .cell _ _ :: _, [], vs, h, _ => by simp [mRes] at h
  | .tmp t :: rs, .cell _ _ _ :: ys, vs, h, _ => by simp [mRes] at h
  | .cell _ _ :: rs, .tmp _ :: ys, vs, h, _ => by simp [mRes] at h
  | .cell _ _ :: rs, .tmps _ :: ys, vs, h, _ => by simp [mRes] at h
  | .tmp t :: rs, .tmp u :: ys, vs, h, he => by
    simp only [mRes, Bool.and_eq_true, beq_iff_eq] at h
    obtain ⟨rfl, h2⟩ := h
    simp only [resAll, resV] at he
    split at he <;> try (cases he; done)
    rename_i v vs' hv hvs
    cases he
    cases hv
    obtain ⟨us, g1, g2⟩ := res_sound hs h2 hvs
    refine ⟨a.tmps.getD t undef :: us, ?_, ?_⟩
    · simp only [List.mapM_cons, resOne, Sem.run_bind, Sem.run_pure, Result.andThen_ok, g1]
    · simp only [RVt]; exact ⟨_, us, rfl, hs.fr t, g2⟩
  | .tmp t :: rs, .tmps u :: ys, vs, h, he => by
    simp only [mRes, Bool.and_eq_true, beq_iff_eq] at h
    obtain ⟨rfl, h2⟩ := h
    simp only [resAll, resV] at he
    split at he <;> try (cases he; done)
    rename_i v vs' hv hvs
    cases he
    obtain ⟨us, g1, g2⟩ := res_sound hs h2 hvs
    refine ⟨a.tmps.getD t undef :: us, ?_, ?_⟩
    · simp only [List.mapM_cons, resOne, Sem.run_bind, Sem.run_pure, Result.andThen_ok, g1]
    · simp only [RVt]
      refine ⟨_, us, rfl, ?_, g2⟩
      have hr := hs.fr t
      split at hv
      · rename_i hn
        cases hv
        rw [hn] at hr
        simp only [RV, Rv] at hr ⊢
        exact ⟨none, 0, hr, Nat.le_refl _, .inl trivial⟩
      · cases hv
        exact hr
  | .cell x t :: rs, .cell y agg sz :: ys, vs, h, he => by
    simp only [mRes, Bool.and_eq_true, beq_iff_eq] at h
    obtain ⟨⟨⟨⟨⟨rfl, h2⟩, h3⟩, h4⟩, h5⟩, h6⟩ := h
    simp only [resAll, resV] at he
    split at he <;> try (cases he; done)
    rename_i v vs' hv hvs
    cases he
    split at hv <;> try (cases hv; done)
    rename_i cs hcs
    obtain ⟨us, g1, g2⟩ := res_sound hs h6 hvs
    obtain ⟨b, o, ws, hp, hc, hl, hr⟩ := cellsAt_sound hs.ok (hs.fr x) hcs
    subst hl
    have hrun := run_loadV (P := P) h2 h3 h4 (by simpa using h5) hc
    refine ⟨varOf agg ws :: us, ?_, ?_⟩
    · simp only [List.mapM_cons, resOne, Sem.run_bind, Sem.run_pure, Result.andThen_ok, hp, asAddr, hrun, g1]
    · simp only [RVt]; exact ⟨_, us, rfl, oneOf_sound hv hr, g2⟩
theorem results_sound (hs : SR G J nt ρ F stk w fr a) {fn : Func} {ys : List RRes} {v : V} (hm : mRes P fn.results.toList ys = true) (he : results (Sys.real T G call iter) stk fr ys = some v) :
    ∃ u, (Go.results fn a.tmps).run P w = .ok u w ∧ RV ρ F stk w v u := by
  unfold results at he
  have hmap : ∀ us : List Value, (fn.results.toList.mapM (resOne a.tmps)).run P w = .ok us w →
      (Go.results fn a.tmps).run P w = .ok (if h : us.toArray.size = 1 then us.toArray[0] else .tuple us.toArray) w := by
    intro us h
    rw [results_eq, Array.mapM_eq_mapM_toList]
    simp only [Sem.run_bind, Sem.run_map, h]
    rfl
  split at he <;> try (cases he; done)
  · rename_i v0 h1
    cases he
    obtain ⟨us, g1, g2⟩ := res_sound hs hm h1
    simp only [RVt] at g2
    obtain ⟨u, us', rfl, g3, rfl⟩ := g2
    exact ⟨u, by rw [hmap _ g1]; rfl, g3⟩
  · rename_i vs hne h1
    cases he
    obtain ⟨us, g1, g2⟩ := res_sound hs hm h1
    have hlen := RVt_len g2
    refine ⟨.tuple us.toArray, ?_, mkTup_sound g2⟩
    rw [hmap _ g1, dif_neg]
    simp only [List.size_toArray, hlen]
    intro h
    obtain ⟨v0, rfl⟩ := List.length_eq_one_iff.1 h
    exact hne v0 rfl

/-- What a contract of its own says of a function: whatever the memory, it returns that datum; what was there is as it was. -/
def ExtOK (P : Program) (G : Nat → Option (List D)) (f : FuncId) (e : List V → Option D) : Prop :=
  ∀ vs d, e vs = some d → ∀ ρ F stk w args, Ok ρ F stk w → Glob G F w → RVt ρ F stk w vs args → Calls P f args.toArray w fun en w' => ∃ u F', en = .returned u ∧ (∀ b, F b → F' b) ∧ (∀ b, F' b → F b ∨ w.heap.size ≤ b ∧ b < w'.heap.size) ∧ Rv F' w' d u ∧ RowKit.Below w.heap.size w w'
theorem ExtOK.of {P : Program} {G : Nat → Option (List D)} {f : FuncId} {e : List V → Option D}
    (h : ∀ vs d, e vs = some d → ∀ ρ F stk w args, Ok ρ F stk w → Glob G F w → RVt ρ F stk w vs args → Calls P f args.toArray w fun en w' => ∃ u, en = .returned u ∧ Rv F w' d u ∧ RowKit.Below w.heap.size w w') : ExtOK P G f e :=
  fun vs d hd ρ F stk w args hok hG hv => (h vs d hd ρ F stk w args hok hG hv).mono fun _ _ ⟨u, h1, h2, h3⟩ => ⟨u, F, h1, fun _ h => h, fun _ h => .inl h, h2, h3⟩
/-- What a contract says of a function that writes objects. -/
def EffOK (P : Program) (G : Nat → Option (List D)) (f : FuncId) (e : List V → Stk → Option (V × Stk)) : Prop :=
  ∀ vs stk v stk', e vs stk = some (v, stk') → ∀ ρ F w args, Ok ρ F stk w → Glob G F w → RVt ρ F stk w vs args →
    Calls P f args.toArray w fun en w' => ∃ ρ' F' u, en = .returned u ∧ (∀ m, Goes m ρ F stk w ρ' F' stk' w') ∧ Ok ρ' F' stk' w' ∧ nums stk' = nums stk ∧ RV ρ' F' stk' w' v u
def XOK (P : Program) (G : Nat → Option (List D)) (f : FuncId) : Ext → Prop
  | .pure e => ExtOK P G f e
  | .eff e => EffOK P G f e
theorem below_goes (hok : Ok ρ F stk w) {w' : World} {F' : Blks} (hb : RowKit.Below w.heap.size w w') (hs : ∀ b, F b → F' b) (hn : ∀ b, F' b → F b ∨ w.heap.size ≤ b ∧ b < w'.heap.size) : (∀ m, Goes m ρ F stk w ρ F' stk w') ∧ Ok ρ F' stk w' := by
  refine ⟨fun m => { os := hb.os, tape := hb.tape, output := hb.output, size := hb.size, frame := fun b hlt _ => hb.block b hlt, sub := hs, new := fun b h => (hn b h).imp id fun h => .inl h.1, own := fun l hl => .inr ⟨l, hl, rfl⟩, evol := fun l o _ h => ⟨o, h, Turned.refl ρ l o⟩ }, ?_⟩
  exact hok.stays ⟨hs, fun b hF => hb.block b (hok.lt b hF)⟩ (fun l hl => hb.block _ (hok.blk_lt hl)) (fun l hl hF => (hn _ hF).elim (hok.sep l hl) fun h => by have := hok.blk_lt hl; omega) (fun b hF => (hn b hF).elim (fun h => Nat.lt_of_lt_of_le (hok.lt b h) hb.size) fun h => h.2)
theorem regsOk_out {ts : List Nat} {dd : List Deferred} {tm : Nat → Value} : ∀ cd : Code, dstsOut ts cd = true → regsOk ⟨fun a => a.defers = dd ∧ ∀ t ∈ ts, a.tmps.getD t undef = tm t, fun t => t ∈ ts⟩ cd
  | .region _ ops _, h => fun i o hi => by
    simp only [dstsOut, List.all_eq_true] at h
    have h1 := h o (by rw [Array.mem_toList_iff]; exact Array.mem_of_getElem? hi)
    have h2 : ∀ d, o.dst = some d → ¬ d ∈ ts := fun d hd => by
      rw [hd] at h1
      simpa using h1
    refine ⟨fun a v => ?_, h2⟩
    show (a.put o.dst v).defers = dd ∧ (∀ t ∈ ts, (a.put o.dst v).tmps.getD t undef = tm t) ↔ a.defers = dd ∧ ∀ t ∈ ts, a.tmps.getD t undef = tm t
    have e : ∀ t ∈ ts, (a.put o.dst v).tmps.getD t undef = a.tmps.getD t undef := by
      intro t ht
      cases hd : o.dst with
      | none => rfl
      | some d => simp [Act.put, Array.getD_eq_getD_getElem?, Array.getElem?_setIfInBounds_ne (show d ≠ t from fun e => h2 d hd (e ▸ ht))]
    rw [put_defers]
    exact and_congr_right fun _ => ⟨fun h t ht => by rw [← e t ht]; exact h t ht, fun h t ht => by rw [e t ht]; exact h t ht⟩
  | .seq a b, h => by simp only [dstsOut, Bool.and_eq_true] at h; exact ⟨regsOk_out a h.1, regsOk_out b h.2⟩
  | .cond _ a b, h => by simp only [dstsOut, Bool.and_eq_true] at h; exact ⟨regsOk_out a h.1, regsOk_out b h.2⟩
  | .block _ c, h => by simp only [dstsOut] at h; exact regsOk_out c h
  | .loop c, h => by simp only [dstsOut] at h; exact regsOk_out c h
  | .skip, _ | .exit _, _ | .ret, _ => by simp [regsOk]
  | .rangeFunc .., h | .goto _, h | .scope .., h | .label _, h | .refuse _, h => by simp [dstsOut] at h
theorem newO_val {stk : Stk} {dst : Option Nat} {o : O} {mk : Lab → V} {r : Res} (h : newO stk dst o mk = some r) : ∃ v s, r = .val v s := by
  unfold newO at h
  split at h <;> try (cases h; done)
  split at h <;> try (cases h; done)
  cases h; exact ⟨_, _, rfl⟩
theorem news_normal {X : Sys} : ∀ {l : List ROp} {st : St} {ex : Ex} {st' : St}, l.all isNew = true → evOps X l st = some (ex, st') → ex = .normal
  | [], st, ex, st', _, h => by simp only [evOps, Option.some.injEq, Prod.mk.injEq] at h; exact h.1.symm
  | r :: l, st, ex, st', hn, h => by
    rw [List.all_cons, Bool.and_eq_true] at hn
    obtain ⟨h1, h2⟩ := hn
    obtain ⟨dst, g, rr⟩ := r
    have key : g = none ∧ ∀ q, evR X dst st.fr st.stk rr = some q → ∃ v s, q = .val v s := by
      unfold isNew at h1
      split at h1 <;> try (cases h1; done)
      · rename_i e1 e2
        simp only at e1 e2
        subst e1; subst e2
        exact ⟨rfl, fun q hq => by simp only [evR] at hq; exact newO_val hq⟩
      · rename_i e1 e2
        simp only at e1 e2
        subst e1; subst e2
        refine ⟨rfl, fun q hq => ?_⟩
        simp only [evR] at hq
        split at hq <;> try (cases hq; done)
        split at hq <;> try (cases hq; done)
        exact newO_val hq
    obtain ⟨rfl, hv⟩ := key
    simp only [evOps, wants] at h
    cases hq : evR X dst st.fr st.stk rr with
    | none => rw [hq] at h; cases h
    | some q =>
      rw [hq] at h
      obtain ⟨v, s, rfl⟩ := hv q hq
      exact news_normal h2 h
theorem tmpsAre_map {ρ : Operand → Value} {tm : Nat → Value} (hρ : ∀ t, ρ (.tmp t) = tm t) : ∀ {l : List Operand} {cs : List Nat}, tmpsAre l cs = true → l.map ρ = cs.map tm
  | [], [], _ => rfl
  | [], _ :: _, h => by simp [tmpsAre] at h
  | x :: _, [], h => by cases x <;> simp [tmpsAre] at h
  | x :: l, c :: cs, h => by
    cases x <;> simp only [tmpsAre, Bool.false_eq_true] at h
    simp only [Bool.and_eq_true, beq_iff_eq] at h
    obtain ⟨rfl, h⟩ := h
    rw [List.map_cons, List.map_cons, hρ, tmpsAre_map hρ h]
theorem wpOpsS_of {ops : Array Oper} {Q0 : Exit → Act → World → Prop} {QS : Exit → Act → List Frame → World → Prop} {cs : List Frame} (hno : ¬ LetsOut Q0) (hq : ∀ e a w, Q0 e a w → QS e a cs w) :
    ∀ (l : List Nat) (a : Act) (w : World), wpOps P ops Q0 l a w → wpOpsS P ops QS l a cs w
  | [], a, w, h => hq _ _ _ h
  | i :: r, a, w, h => by
    simp only [wpOps] at h
    simp only [wpOpsS]
    cases ho : ops[i]? with
    | none => rw [ho] at h; exact wpOpsS_of hno hq r a w h
    | some o =>
      rw [ho] at h
      simp only at h ⊢
      split at h
      · rename_i hw
        rw [if_pos hw]
        rcases h with h | ⟨_, h⟩
        · unfold Oper.wp at h
          generalize hr : (execOp a.eval o).run P w = r0 at h ⊢
          have ih := wpOpsS_of (ops := ops) hno hq r
          cases r0 with
          | ok n w' =>
            cases n <;> simp only [Oper.upon] at h ⊢ <;> first
              | exact ih _ _ h
              | exact h.elim
              | (refine h.mono fun e w2 h2 => ?_; cases e <;> first | exact ih _ _ h2 | exact hq _ _ _ h2 | exact absurd h2 hno)
              | (refine Rows.mono h fun v w2 h2 => ih _ _ h2)
              | skip
          | halt hh w' =>
            cases hh <;> simp only [Oper.upon] at h ⊢ <;> first
              | exact hq _ _ _ h
              | exact h.elim
        · exact absurd h hno
      · rename_i hw
        rw [if_neg hw]
        exact wpOpsS_of hno hq r _ w h
theorem sr_init (hok : Ok ρ F stk w) (hG : Glob G F w) {vs : List V} {args : List Value} (hargs : RVt ρ F stk w vs args) (nt : Nat) :
    SR G Hold.nil nt ρ F (push stk) w (frame 0 vs) { tmps := args.toArray ++ Array.replicate (nt - args.toArray.size) undef, defers := [] } := by
  obtain ⟨p1, p2⟩ := push_sound hok
  refine ⟨p1, hG, fun t => ?_, by simp; omega, rfl⟩
  rw [frame_get, if_pos (Nat.zero_le _), Nat.sub_zero]
  cases hv : vs[t]? with
  | none => trivial
  | some v =>
    obtain ⟨u, g1, g2⟩ := RVt_at hargs hv
    have hlt := (List.getElem?_eq_some_iff.1 g1).1
    simp only [Option.getD_some]
    have e : (args.toArray ++ Array.replicate (nt - args.toArray.size) undef).getD t undef = u := by
      rw [Array.getD_eq_getD_getElem?, Array.getElem?_append_left (by simpa using hlt)]
      simp [g1]
    rw [e]
    exact RV.moves ((p2 _).moves hok) _ _ (RV.upto hok.falls _ _ g2) g2
theorem finish_cr (hok : Ok ρ F stk w) {fn : Func} {res : List RRes} (h3 : mRes P fn.results.toList res = true) {out : Out} {stk' : Stk} {ex : Ex} {st' : St}
    (hres : match ex with
      | .normal | .ret => ∃ v, results (Sys.real T G call iter) st'.stk st'.fr res = some v ∧ out = .ret v ∧ stk' = st'.stk
      | .pan x => out = .pan x ∧ stk' = st'.stk
      | .exit _ => False) : CR G Hold.nil fn.ntmps (topN (push stk)) ρ F (push stk) w (bodyPost P fn (Ends ρ F stk w out stk')) ex st' := by
  obtain ⟨p1, p2⟩ := push_sound hok
  intro ρ' F' a' w' g1 g2
  have hE : ∀ e, OutE ρ' F' st'.stk w' out e → Ok ρ' F' st'.stk w' → stk' = st'.stk → Ends ρ F stk w out stk' e w' := by
    intro e he1 he2 he3
    subst he3
    exact ⟨ρ', F', (p2 _).trans g1, he2, by rw [g2]; simp [nums, push], he1⟩
  cases ex with
  | normal =>
    obtain ⟨v, k1, rfl, k3⟩ := hres
    intro hs'
    obtain ⟨u, q1, q2⟩ := results_sound hs' h3 k1
    exact ⟨hs'.j, u, q1, hE (.returned u) q2 hs'.ok k3⟩
  | ret =>
    obtain ⟨v, k1, rfl, k3⟩ := hres
    intro hs'
    obtain ⟨u, q1, q2⟩ := results_sound hs' h3 k1
    exact ⟨hs'.j, u, q1, hE (.returned u) q2 hs'.ok k3⟩
  | pan x =>
    obtain ⟨rfl, k3⟩ := hres
    intro hok' _ hd _ xv hxv
    exact ⟨hd, hE (.panicked _) ⟨xv, rfl, hxv⟩ hok' k3⟩
  | exit i => exact hres.elim
theorem mRes_plain {l : List ResultVar} {res : List RRes} (h : mRes P l res = true) : isG res = false := by
  cases res with
  | nil => rfl
  | cons r s => cases r <;> first | rfl | (cases l <;> simp [mRes] at h)
theorem endV_plain {X : Sys} {x : D} {res : List RRes} {st : St} {y : V × Stk} (hg : isG res = false) (h : endV X x res st = some y) : results X st.stk st.fr res = some y.1 ∧ y.2 = st.stk := by
  unfold endV at h
  split at h
  · cases hg
  · split at h <;> cases h
    exact ⟨by assumption, rfl⟩
/-- A function's way out, where nothing is deferred. -/
theorem evFn0_plain {X : Sys} {rf : RF} {fr : Fr} {out : Out} {stk' : Stk} (hg : isG rf.res = false) (h : evFn0 X rf fr stk = some (out, stk')) :
    ∃ ex st', evC X rf.body ⟨fr, push stk⟩ = some (ex, st') ∧ (match ex with
      | .normal | .ret => ∃ v, results X st'.stk st'.fr rf.res = some v ∧ out = .ret v ∧ stk' = st'.stk
      | .pan x => out = .pan x ∧ stk' = st'.stk
      | .exit _ => False) := by
  unfold evFn0 at h
  split at h <;> try (cases h; done)
  · rename_i st he
    split at h <;> try (cases h; done)
    rename_i v s hv
    cases h
    obtain ⟨h1, h2⟩ := endV_plain hg hv
    exact ⟨_, _, he, v, h1, rfl, h2⟩
  · rename_i st he
    split at h <;> try (cases h; done)
    rename_i v s hv
    cases h
    obtain ⟨h1, h2⟩ := endV_plain hg hv
    exact ⟨_, _, he, v, h1, rfl, h2⟩
  · rename_i x st he
    rw [hg] at h
    cases h
    exact ⟨_, _, he, rfl, rfl⟩
theorem hnd_sound (ih : CallOK P G call) (hmix : P.follows .mixedOrders = true) (n : Nat) {g : FuncId} {fn : Func} {cd : Code} {rf : RF} {tr : Nat} (hfn : P.funcs[g]? = some fn) (hb : fn.body = some cd) (hm : mHnd P fn cd rf = true) (htr : rf.hnd = some tr)
    {x : D} {cs : List V} {v : V} {stk' : Stk} (h : evFn0 (Sys.real T G call (iterN n)) rf ((tr, .d x) :: frame 0 cs) stk = some (.ret v, stk')) (hok : Ok ρ F stk w) (hG : Glob G F w) {args : List Value} (hargs : RVt ρ F stk w cs args)
    {u u' : FrameMode} {xv : Value} (hrec : Recs u xv u') (hx : Rv F w x xv) : CallsD P g args.toArray u w fun e u2 w2 => u2 = u' ∧ Ends ρ F stk w (.ret v) stk' e w2 := by
  unfold mHnd at hm
  rw [htr] at hm
  split at hm <;> try (cases hm; done)
  rename_i tr' id ops c2 l y e1 e2
  cases e1
  simp only [Bool.and_eq_true] at hm
  obtain ⟨⟨⟨hm1, hm2⟩, hm3⟩, hm4⟩ := hm
  split at hm1 <;> try (cases hm1; done)
  rename_i o os hops
  simp only [Bool.and_eq_true] at hm1
  obtain ⟨hm1, hm5⟩ := hm1
  split at hm1 <;> try (cases hm1; done)
  rename_i cargs atys d ho hd hgd
  simp only [Bool.and_eq_true, beq_iff_eq, decide_eq_true_eq] at hm1
  obtain ⟨⟨hz, rfl⟩, hdn⟩ := hm1
  have hg := mRes_plain hm3
  obtain ⟨ex, st', he, hres⟩ := evFn0_plain hg h
  refine callsD_of_wpS hfn hb fun c₀ cs0 hu => ?_
  refine wpS_seq (wpS_region ?_)
  have hlen : ops.size = os.length + 1 := by rw [← Array.length_toList, hops, List.length_cons]
  have h0 : ops[0]? = some o := by rw [← Array.getElem?_toList, hops]; rfl
  obtain ⟨A, hA⟩ : ∃ A : Act, A = { tmps := args.toArray ++ Array.replicate (fn.ntmps - args.toArray.size) undef, defers := [] } := ⟨_, rfl⟩
  have hsr := sr_init hok hG hargs fn.ntmps
  rw [← hA] at hsr
  have hrun : (execOp A.eval o).run P w = .ok .recover w := by
    obtain ⟨dst, op, type, pos, after, guard⟩ := o
    simp only at ho
    subst ho
    have : cargs = #[] := Array.eq_empty_of_size_eq_zero hz
    subst this
    simp [execOp, resolve, invoke, builtin]
  obtain ⟨p1, p2⟩ := push_sound hok
  have hx' : RV ρ F (push stk) w (.d x) xv := by simpa only [RV] using hx
  -- behind the recovery
  have hsr1 : SR G Hold.nil fn.ntmps ρ F (push stk) w ((d, .d x) :: frame 0 cs) (A.put (some d) xv) :=
    ⟨hsr.ok, hsr.glob, hsr.fr.put (dst := some d) hx' (fun d' e => by cases e; exact Nat.lt_of_lt_of_le hdn hsr.size), by rw [put_size]; exact hsr.size, by show (A.put (some d) xv).defers = []; rw [put_defers]; exact hsr.j⟩
  have hQ := finish_cr (T := T) (call := call) (iter := iterN n) (F := F) (ρ := ρ) (w := w) hok hm3 hres
  have hno : ¬ LetsOut (bodyPost P fn (Ends ρ F stk w (.ret v) stk')) := by
    rintro ⟨a, w', h⟩
    obtain ⟨_, _, _, _, _, h⟩ := h
    exact h
  have hbS : ∀ e a w', bodyPost P fn (Ends ρ F stk w (.ret v) stk') e a w' → bodyPostS P fn c₀ cs0 (fun e u2 w2 => u2 = u' ∧ Ends ρ F stk w (.ret v) stk' e w2) e a ({ c₀ with mode := u' } :: cs0) w' := by
    intro e a w' h
    cases e with
    | normal => obtain ⟨h1, v', h2, h3⟩ := h; exact ⟨h1, u', rfl, v', h2, rfl, h3⟩
    | ret => obtain ⟨h1, v', h2, h3⟩ := h; exact ⟨h1, u', rfl, v', h2, rfl, h3⟩
    | panic c => obtain ⟨_, _, _, _, _, _, h⟩ := h; exact h.elim
    | outgrown => exact absurd ⟨_, _, h⟩ hno
    | exit i => exact h.elim
    | goto i => exact h.elim
  have hrest : wpOpsS P ops (Exit.thenS (c2.wpS P (bodyPostS P fn c₀ cs0 (fun e u2 w2 => u2 = u' ∧ Ends ρ F stk w (.ret v) stk' e w2))) (bodyPostS P fn c₀ cs0 (fun e u2 w2 => u2 = u' ∧ Ends ρ F stk w (.ret v) stk' e w2))) (List.range' 1 os.length) (A.put (some d) xv) ({ c₀ with mode := u' } :: cs0) w := by
    refine wpOpsS_of (Q0 := Exit.then (c2.wp P (bodyPost P fn (Ends ρ F stk w (.ret v) stk'))) (bodyPost P fn (Ends ρ F stk w (.ret v) stk'))) (fun ⟨a, w', h⟩ => hno ⟨a, w', h⟩) (fun e a w' h => ?_) _ _ _ ?_
    · cases e with
      | normal => exact wpS_of_wp (wp_mono h hbS)
      | ret => exact hbS .ret a w' h
      | panic c => exact hbS (.panic c) a w' h
      | outgrown => exact hbS .outgrown a w' h
      | exit i => exact hbS (.exit i) a w' h
      | goto i => exact hbS (.goto i) a w' h
    · have hidx : ∀ j o', os[j]? = some o' → ops[1 + j]? = some o' := fun j o' h => by rw [← Array.getElem?_toList, hops, Nat.add_comm, List.getElem?_cons_succ]; exact h
      have hall : AllLt ops fn.ntmps := by
        intro i o' hi d' hd'
        cases i with
        | zero => rw [h0] at hi; cases hi; rw [hd] at hd'; cases hd'; exact hdn
        | succ i =>
          have hi' : os[i]? = some o' := by rw [← Array.getElem?_toList, hops, List.getElem?_cons_succ] at hi; exact hi
          obtain ⟨r, _, hr⟩ := (mOps_at hm5).2 i o' hi'
          simp only [mOp, Bool.and_eq_true] at hr
          have := hr.1.1.2
          rw [hd'] at this
          simpa using this
      have hJ : Jok ops Hold.nil := fun i o' _ => ⟨fun a v => (by show (a.put o'.dst v).defers = [] ↔ _; rw [put_defers]; rfl), fun _ _ h => h⟩
      rw [e2, evC] at he
      simp only [evC] at he
      split at he
      · rename_i st1 h1
        refine ops_sound (m := topN (push stk)) hJ ih hall 1 hm5 hidx (Nat.le_succ _) hsr1 h1 ?_
        intro ρ' F' a' w' g1 g2 g3
        refine code_sound ih hmix n y c2 hm2 (regsOk_nil _) g3 he ?_
        rw [topN_nums g2]
        exact hQ.trans g1 g2
      · rename_i r hr
        refine ops_sound (m := topN (push stk)) hJ ih hall 1 hm5 hidx (Nat.le_succ _) hsr1 he ?_
        intro ρ' F' a' w' g1 g2
        have hq := hQ ρ' F' a' w' g1 g2
        cases ex with
        | normal => exact absurd he (hr _)
        | exit i => exact hq
        | ret => exact hq
        | pan x => exact hq
  rw [hlen, List.range_eq_range', List.range'_succ]
  simp only [wpOpsS, h0]
  rw [if_pos (by simp [Region.wanted, hgd])]
  rw [← hA, hrun, hd]
  rcases hrec with ⟨h1, h2, h3⟩ | ⟨h2, h3⟩
  · have e : recoverD (c₀ :: cs0) = none := by simp [recoverD, hu, h1]
    simp only [e]
    have hc : ({ c₀ with mode := u' } : Frame) = c₀ := by rw [h3, ← h1, ← hu]
    rw [hc] at hrest
    rw [h2] at hrest
    exact hrest
  · have e : recoverD (c₀ :: cs0) = some (xv, { c₀ with mode := u' } :: cs0) := by simp [recoverD, hu, h2, h3]
    simp only [e]
    exact hrest
theorem fcall_ret {X : Sys} {f : FuncId} {vs : List V} {d : D} {s : Stk} (h : fcallOf X call f vs stk = some (.d d, s)) : ∃ v c, call f vs stk = some (.ret v, c :: s) := by
  unfold fcallOf at h
  split at h <;> try (cases h; done)
  rename_i v c s' hc
  split at h <;> try (cases h; done)
  cases h
  exact ⟨_, _, hc⟩
theorem adjAll_sound : ∀ {l : List Adj} {ρ : Rho} {F : Blks} {stk : Stk} {fr : Fr} {st' : St}, SR G J nt ρ F stk w fr a → adjAll (Sys.real T G call iter) l ⟨fr, stk⟩ = some st' →
    ∃ ρ' F', SR G J nt ρ' F' st'.stk w st'.fr a ∧ Goes (topN stk) ρ F stk w ρ' F' st'.stk w ∧ nums st'.stk = nums stk
  | [], ρ, F, stk, fr, st', hs, h => by
    simp only [adjAll, Option.some.injEq] at h
    subst h
    exact ⟨ρ, F, hs, Goes.refl _ _ _ _ _, rfl⟩
  | ad :: r, ρ, F, stk, fr, st', hs, h => by
    simp only [adjAll] at h
    split at h <;> try (cases h; done)
    rename_i st1 h1
    obtain ⟨ρ1, F1, a1, a2, a3⟩ := adjust_sound hs h1
    obtain ⟨ρ2, F2, b1, b2, b3⟩ := adjAll_sound (stk := st1.stk) (fr := st1.fr) a1 h
    rw [topN_nums a3] at b2
    exact ⟨ρ2, F2, b1, a2.trans b2, b3.trans a3⟩
theorem RVt_map {f : Nat → V} {g : Nat → Value} : ∀ {l : List Nat}, (∀ t ∈ l, RV ρ F stk w (f t) (g t)) → RVt ρ F stk w (l.map f) (l.map g)
  | [], _ => by simp [RVt]
  | t :: r, h => by
    simp only [List.map_cons, RVt]
    exact ⟨_, _, rfl, h t (by simp), RVt_map fun t ht => h t (by simp [ht])⟩
theorem grd_sound (ih : CallOK P G call) (hmix : P.follows .mixedOrders = true) (n : Nat) {f : FuncId} {fn : Func} {cd : Code} {rf : RF} (hfn : P.funcs[f]? = some fn) (hb : fn.body = some cd) (hm : mGrd P fn cd rf = true)
    {vs : List V} {out : Out} {stk' : Stk} (h : evFn0 (Sys.real T G call (iterN n)) rf (frame 0 vs) stk = some (out, stk')) (hok : Ok ρ F stk w) (hG : Glob G F w) {args : List Value} (hargs : RVt ρ F stk w vs args) :
    Calls P f args.toArray w (Ends ρ F stk w out stk') := by
  unfold mGrd at hm
  split at hm <;> try (cases hm; done)
  rename_i hh cs as res i0 ops0 id1 ops1 c2 l0 l1 y e1 e2
  simp only [Bool.and_eq_true, decide_eq_true_eq] at hm
  obtain ⟨⟨⟨⟨⟨⟨⟨⟨hm1, hm2⟩, hm3⟩, hm4⟩, hm5⟩, hm6⟩, hm9⟩, hm7⟩, hm8⟩ := hm
  unfold mDefer at hm3
  split at hm3 <;> try (cases hm3; done)
  rename_i o1 o2 r1 hops
  split at hm3 <;> try (cases hm3; done)
  rename_i g first caps d c d2 k1 k2 k3 k4 k5 k6 k7 k8 k9
  simp only [Bool.and_eq_true, beq_iff_eq, decide_eq_true_eq] at hm3
  obtain ⟨⟨⟨⟨⟨⟨⟨n0, n1⟩, n2⟩, n7⟩, n3⟩, n4⟩, n5⟩, n6⟩ := hm3
  obtain ⟨gh, hgh⟩ : ∃ gh, gh = hh - hB := ⟨_, rfl⟩
  rw [← hgh] at n0 hm8
  subst n0
  subst n7
  obtain ⟨dst1, g1', rr1⟩ := r1
  simp only at k7 k8 k9
  subst k7; subst k8; subst k9
  have hops1 : ops1 = #[o1, o2] := Array.ext' (by simpa using hops)
  subst hops1
  obtain ⟨X, hX⟩ : ∃ X, X = Sys.real T G call (iterN n) := ⟨_, rfl⟩
  -- the interpreter's way
  obtain ⟨st0, he0, hbody⟩ : ∃ st0, evOps X l0 ⟨frame 0 vs, push stk⟩ = some (.normal, st0) ∧ evC X rf.body ⟨frame 0 vs, push stk⟩ = evC X y ⟨st0.fr.put (some d2) (.d .any), st0.stk⟩ := by
    rw [e2]
    simp only [evC]
    cases he : evOps X l0 ⟨frame 0 vs, push stk⟩ with
    | none =>
      exfalso
      rw [← hX] at h
      unfold evFn0 at h
      rw [e2] at h
      simp only [evC, he] at h
      cases h
    | some q =>
      obtain ⟨ex0, st0⟩ := q
      obtain rfl := news_normal hm2 he
      exact ⟨st0, rfl, by simp [evOps, wants, evR, evQ, Opd.ev]⟩
  have hend : ∃ ex2 st2 st3 x v s v0 c0, evC X y ⟨st0.fr.put (some d2) (.d .any), st0.stk⟩ = some (ex2, st2) ∧ (match ex2 with | .normal | .ret => x = D.nili | .pan p => x = p | .exit _ => False) ∧
      adjAll X as ⟨tidyF st2.fr (cs ++ cellTs res), st2.stk⟩ = some st3 ∧ call hh (.d x :: cs.map st3.fr.get) st3.stk = some (.ret v0, c0 :: s) ∧ Go.Abs.results X s st3.fr res = some v ∧ out = .ret v ∧ stk' = s := by
    rw [← hX] at h
    unfold evFn0 at h
    rw [hbody] at h
    have hg : isG rf.res = true := by rw [e1]; rfl
    have key : ∀ (x : D) (st2 : St) (z : V × Stk), endV X x rf.res st2 = some z → ∃ st3 v0 c0, adjAll X as ⟨tidyF st2.fr (cs ++ cellTs res), st2.stk⟩ = some st3 ∧ call hh (.d x :: cs.map st3.fr.get) st3.stk = some (.ret v0, c0 :: z.2) ∧ Go.Abs.results X z.2 st3.fr res = some z.1 := by
      intro x st2 z hz
      rw [e1] at hz
      simp only [endV] at hz
      split at hz <;> try (cases hz; done)
      rename_i st3 had
      split at hz <;> try (cases hz; done)
      rename_i dd s hf
      split at hz <;> try (cases hz; done)
      rename_i v hv
      cases hz
      rw [hX] at hf
      obtain ⟨v0, c0, h0⟩ := fcall_ret hf
      exact ⟨st3, v0, c0, had, h0, hv⟩
    split at h <;> try (cases h; done)
    · rename_i st2 he2
      split at h <;> try (cases h; done)
      rename_i v s hv
      cases h
      obtain ⟨st3, v0, c0, a0, a1, a2⟩ := key _ _ _ hv
      exact ⟨_, st2, st3, _, v, _, v0, c0, he2, rfl, a0, a1, a2, rfl, rfl⟩
    · rename_i st2 he2
      split at h <;> try (cases h; done)
      rename_i v s hv
      cases h
      obtain ⟨st3, v0, c0, a0, a1, a2⟩ := key _ _ _ hv
      exact ⟨_, st2, st3, _, v, _, v0, c0, he2, rfl, a0, a1, a2, rfl, rfl⟩
    · rename_i p st2 he2
      rw [hg] at h
      simp only at h
      split at h <;> try (cases h; done)
      rename_i v s hv
      cases h
      obtain ⟨st3, v0, c0, a0, a1, a2⟩ := key _ _ _ hv
      exact ⟨_, st2, st3, _, v, _, v0, c0, he2, rfl, a0, a1, a2, rfl, rfl⟩
  obtain ⟨ex2, st2, st3, x, v, s, v0, c0, he2, hx, hadj, hcall, hres, rfl, rfl⟩ := hend
  have hihh := (ih _ _ _ _ _ hcall).2 hm7 v0 rfl
  rw [← hgh] at hihh
  obtain ⟨x', cs', hvs, fh, hfh, hbh, hnm, hD⟩ := hihh
  obtain ⟨rfl, rfl⟩ : x = x' ∧ cs.map st3.fr.get = cs' := by simpa using hvs
  -- the program's
  refine calls_of_wp_defers hfn hb ?_
  obtain ⟨A, hA⟩ : ∃ A : Act, A = { tmps := args.toArray ++ Array.replicate (fn.ntmps - args.toArray.size) undef, defers := [] } := ⟨_, rfl⟩
  have hsr := sr_init hok hG hargs fn.ntmps
  rw [← hA] at hsr ⊢
  obtain ⟨p1, p2⟩ := push_sound hok
  refine wp_seq ?_
  subst hX
  refine code_sound ih hmix n (.reg l0) (.region i0 ops0 false) hm1 (regsOk_nil _) hsr (ex := .normal) (st' := st0) (by simp only [evC]; exact he0) ?_
  intro ρ1 F1 a1 w1 g1 g2 hs1
  show (Code.seq _ c2).wp P _ a1 w1
  refine wp_seq (wp_region ?_)
  have hrun1 : (execOp a1.eval o1).run P w1 = .ok (.value (.func (.func g) #[] (cs.map fun t => a1.tmps.getD t undef).toArray)) w1 := by
    obtain ⟨dst, op, type, pos, after, guard⟩ := o1
    simp only at k1
    subst k1
    have e3 : first = #[] := Array.eq_empty_of_size_eq_zero n1
    subst e3
    have e4 := tmpsAre_map (ρ := a1.eval) (tm := fun t => a1.tmps.getD t undef) (fun t => rfl) n2
    have e5 : caps.map a1.eval = (cs.map fun t => a1.tmps.getD t undef).toArray := by
      rw [← e4]; apply Array.ext'; simp
    simp [execOp, Instr.makeFunc, e5]
  obtain ⟨v1, hv1⟩ : ∃ v1 : Value, v1 = .func (.func g) #[] (cs.map fun t => a1.tmps.getD t undef).toArray := ⟨_, rfl⟩
  obtain ⟨dd, hdd⟩ : ∃ dd : Deferred, dd = { target := .fn (.func g) (cs.map fun t => a1.tmps.getD t undef).toArray, args := #[] } := ⟨_, rfl⟩
  rw [← hv1] at hrun1
  obtain ⟨a2, ha2⟩ : ∃ a2, a2 = a1.put (some d2) v1 := ⟨_, rfl⟩
  have hd2 : a2.tmps.getD d2 undef = v1 := by
    rw [ha2]
    have : d2 < a1.tmps.size := Nat.lt_of_lt_of_le n3 hs1.size
    simp [Act.put, Array.getD_eq_getD_getElem?, this]
  have hrun2 : (execOp a2.eval o2).run P w1 = .ok (.defer dd) w1 := by
    obtain ⟨dst, op, type, pos, after, guard⟩ := o2
    simp only at k4
    subst k4
    obtain ⟨callee, cargs, catys⟩ := c
    simp only at n4 n5
    have e3 : cargs = #[] := Array.eq_empty_of_size_eq_zero n4
    subst e3
    split at n5 <;> try (cases n5; done)
    rename_i d'
    have : d' = d2 := by simpa using n5
    subst this
    have e6 : a2.eval (.tmp d') = v1 := hd2
    simp [execOp, resolve, e6, hv1, Deferred.ofValue, hdd]
  have i0 : (#[o1, o2] : Array Oper)[0]? = some o1 := rfl
  have i1 : (#[o1, o2] : Array Oper)[1]? = some o2 := rfl
  rw [show List.range (#[o1, o2] : Array Oper).size = [0, 1] from rfl]
  simp only [wpOps, i0, i1]
  rw [if_pos (by simp [Region.wanted, k3])]
  left
  unfold Oper.wp
  rw [hrun1, Oper.upon_value, k2, ← ha2]
  rw [if_pos (by simp [Region.wanted, k6])]
  left
  rw [hrun2, Oper.upon_defer, k5]
  show c2.wp P _ _ w1
  have hdef : a2.defers = [] := by rw [ha2, put_defers]; exact hs1.j
  obtain ⟨a3, ha3⟩ : ∃ a3 : Act, a3 = { a2 with defers := [dd] } := ⟨_, rfl⟩
  rw [show ({ a2 with defers := dd :: a2.defers } : Act).put none undef = a3 by rw [ha3, hdef]; rfl]
  have hs3 : SR G ⟨fun a => a.defers = [dd] ∧ ∀ t ∈ cs ++ cellTs res, a.tmps.getD t undef = a2.tmps.getD t undef, fun t => t ∈ cs ++ cellTs res⟩ fn.ntmps ρ1 F1 st0.stk w1 (st0.fr.put (some d2) (.d .any)) a3 :=
    ⟨hs1.ok, hs1.glob, by
      rw [ha3, ha2]
      exact hs1.fr.put (dst := some d2) (by rw [hv1]; simp only [RV, Rv]; rfl) (fun d' e => by cases e; exact Nat.lt_of_lt_of_le n3 hs1.size), by rw [ha3, ha2]; show _ ≤ (a1.put (some d2) v1).tmps.size; rw [put_size]; exact hs1.size, by rw [ha3]; exact ⟨rfl, fun _ _ => rfl⟩⟩
  refine code_sound ih hmix n y c2 hm4 (regsOk_out c2 hm5) hs3 he2 ?_
  -- at the door
  have hcaps : ∀ t ∈ cs, a2.tmps.getD t undef = a1.tmps.getD t undef := by
    intro t ht
    have hne : d2 ≠ t := by
      rintro rfl
      have := n6
      simp at this
      exact this ht
    rw [ha2]
    simp [Act.put, Array.getD_eq_getD_getElem?, Array.getElem?_setIfInBounds_ne hne]
  have hinv : ∀ w', (invoke (.fn (.func g) (cs.map fun t => a1.tmps.getD t undef).toArray) #[]).run P w' = .ok (.enter g (cs.map fun t => a1.tmps.getD t undef).toArray) w' := by
    intro w'
    have hok' : fnOk P g = true := by unfold fnOk; rw [hfh]; simp [hbh, hnm]
    have := fnOk_run (w := w') hok' (cs.map fun t => a1.tmps.getD t undef).toArray
    simpa [invoke] using this
  have door : ∀ (ρ2 : Rho) (F2 : Blks) (a4 : Act) (w2 : World) (u : FrameMode) (xv : Value), Goes (topN st0.stk) ρ1 F1 st0.stk w1 ρ2 F2 st2.stk w2 → nums st2.stk = nums st0.stk → Ok ρ2 F2 st2.stk w2 → Glob G F2 w2 → a4.defers = [dd] → (∀ t ∈ cs ++ cellTs res, a4.tmps.getD t undef = a2.tmps.getD t undef) →
      (∀ t ∈ cs ++ cellTs res, RV ρ2 F2 st2.stk w2 (st2.fr.get t) (a4.tmps.getD t undef)) → (∃ u', Recs u xv u' ∧ settle u' = .returning) → u ≠ .run → Rv F2 w2 x xv → Leaves P fn a4.tmps (Ends ρ F stk w (.ret v) stk') a4.defers u w2 := by
    intro ρ2 F2 a4 w2 u xv hgo hn hokk hGk hdf hpin hst ⟨u', hr, hset⟩ hur hxv
    rw [hdf, hdd]
    refine leaves_cons hur (hinv w2) ?_
    have hs4 : SR G ⟨fun _ => True, fun _ => False⟩ 0 ρ2 F2 st2.stk w2 (tidyF st2.fr (cs ++ cellTs res)) a4 :=
      ⟨hokk, hGk, fun t => by
        by_cases ht : t ∈ cs ++ cellTs res
        · rw [tidyF_get ht]; exact hst t ht
        · rw [tidyF_not ht]; trivial, Nat.zero_le _, trivial⟩
    obtain ⟨ρ4, F4, hs6, hgo4, hn4⟩ := adjAll_sound hs4 hadj
    have hRVt : RVt ρ4 F4 st3.stk w2 (cs.map st3.fr.get) (cs.map fun t => a1.tmps.getD t undef) :=
      RVt_map fun t ht => by rw [← hcaps t ht, ← hpin t (List.mem_append_left _ ht)]; exact hs6.fr t
    refine (hD ρ4 F4 w2 _ hs6.ok hs6.glob hRVt u xv u' hr (Rv.keep (hgo4.keep hokk) _ _ hxv)).mono fun e u2 w3 hh => ?_
    obtain ⟨rfl, ρ3, F3, q1, q2, q3, q4⟩ := hh
    cases e with
    | panicked ch => exact q4.elim
    | outgrown => exact q4.elim
    | returned uu =>
      simp only [hset]
      obtain ⟨d1, d3⟩ := drop_sound q2 (F' := F3) (fun _ h => h) (fun _ h => .inl h)
      have hcn : c0.n = topN st3.stk + 1 := by simp [nums] at q3; exact q3.1
      have hns : nums stk' = nums st3.stk := by simp [nums] at q3 ⊢; exact q3.2
      rw [hcn] at d3
      have hgo3 := q1.trans d3
      have hs5 : SR G ⟨fun _ => True, fun _ => False⟩ 0 ρ3 F3 stk' w3 st3.fr a4 :=
        ⟨d1, hs6.glob.keep (hgo3.keep hs6.ok), hs6.fr.moves hs6.ok hgo3, Nat.zero_le _, trivial⟩
      obtain ⟨uv, z1, z2⟩ := results_sound hs5 hm6 hres
      refine ⟨uv, z1, ρ3, F3, ?_, d1, ?_, z2⟩
      · have e0 : topN st0.stk = topN stk + 1 := topN_nums g2
        have e4 : topN st2.stk = topN stk + 1 := (topN_nums hn).trans e0
        have e5 : topN st3.stk = topN stk + 1 := (topN_nums hn4).trans e4
        rw [e0] at hgo
        rw [e4] at hgo4
        rw [e5] at hgo3
        exact (p2 _).trans (g1.trans (hgo.trans (hgo4.trans (hgo3.weaken (by omega)))))
      · rw [hns, hn4, hn, g2]; rfl
  intro ρ2 F2 a4 w2 r1 r2
  cases ex2 with
  | normal =>
    intro hs4
    exact door ρ2 F2 a4 w2 .returning .nilIface r1 r2 hs4.ok hs4.glob hs4.j.1 hs4.j.2 (fun t _ => hs4.fr t) ⟨.returning, .inl ⟨rfl, rfl, rfl⟩, rfl⟩ (by simp) (by simp only at hx; rw [hx]; simp only [Rv])
  | ret =>
    intro hs4
    exact door ρ2 F2 a4 w2 .returning .nilIface r1 r2 hs4.ok hs4.glob hs4.j.1 hs4.j.2 (fun t _ => hs4.fr t) ⟨.returning, .inl ⟨rfl, rfl, rfl⟩, rfl⟩ (by simp) (by simp only at hx; rw [hx]; simp only [Rv])
  | exit i => exact hx.elim
  | pan p =>
    intro hok4 hG4 hj hst xv hxv
    simp only at hx
    subst hx
    exact door ρ2 F2 a4 w2 (.panicking [{ v := xv, recovered := false }]) xv r1 r2 hok4 hG4 hj.1 hj.2 hst ⟨_, .inr ⟨rfl, rfl⟩, rfl⟩ (by simp) hxv
/-- A program's functions. -/
theorem run_sound (hT : ∀ f rf, T f = some rf → mF P f rf = true) (hE : ∀ f rf e, T f = some rf → rf.ext = some e → XOK P G f e) (hmix : P.follows .mixedOrders = true) : ∀ k, CallOK P G (runF T G k)
  | 0 => fun f vs stk out stk' h => by simp [runF] at h
  | k + 1 => fun f vs stk out stk' h => by
    have ih := run_sound hT hE hmix k
    simp only [runF] at h
    split at h <;> try (cases h; done)
    rename_i rf hrf
    have hm := hT f rf hrf
    unfold mF at hm
    by_cases hlt : f < hB
    · refine ⟨fun _ => ?_, fun h2 => absurd hlt (Nat.not_lt.2 h2)⟩
      rw [if_pos hlt] at hm
      cases hfn : P.funcs[f]? with
      | none => simp [hfn] at hm
      | some fn =>
        simp only [hfn, Bool.and_eq_true, bne_iff_ne, ne_eq] at hm
        obtain ⟨h1, h2⟩ := hm
        cases hb : fn.body with
        | none => simp [hb] at h2
        | some cd =>
          simp only [hb] at h2
          refine ⟨by unfold fnOk; simp [hfn, hb, h1], ?_⟩
          intro ρ F w args hok hG hargs
          unfold evFn at h
          cases hex : rf.ext with
          | some e =>
            have hx := hE f rf e hrf hex
            rw [hex] at h
            cases e with
            | eff e =>
              simp only at h
              split at h <;> try (cases h; done)
              rename_i v stk1 hd
              cases h
              refine (hx vs stk v stk1 hd ρ F w args hok hG hargs).mono fun en w' hh => ?_
              obtain ⟨ρ', F', u, rfl, g1, g2, g3, g4⟩ := hh
              obtain ⟨p1, p2⟩ := push_sound g2
              refine ⟨ρ', F', (g1 _).trans (p2 _), p1, by show (topN stk1 + 1) :: nums stk1 = (topN stk + 1) :: nums stk; rw [g3, topN_nums g3], ?_⟩
              simp only [OutE]
              exact RV.moves ((p2 _).moves g2) _ _ (RV.upto g2.falls _ _ g4) g4
            | pure e =>
            simp only at h
            split at h <;> try (cases h; done)
            rename_i d hd
            cases h
            refine (hx vs d hd ρ F stk w args hok hG hargs).mono fun en w' hh => ?_
            obtain ⟨u, F', rfl, q1, q2, g1, g2⟩ := hh
            obtain ⟨k1, k2⟩ := below_goes hok g2 q1 q2
            obtain ⟨p1, p2⟩ := push_sound k2
            exact ⟨ρ, F', (k1 _).trans (p2 _), p1, by simp [nums, push], by simpa only [OutE, RV] using g1⟩
          | none =>
          rw [hex] at h h2
          simp only [Option.isSome_none, Bool.false_or, Bool.and_eq_true, Bool.or_eq_true, Option.isNone_iff_eq_none] at h2
          obtain ⟨hnh, h2⟩ := h2
          simp only [hnh] at h
          rcases h2 with h2 | ⟨⟨h4, h2⟩, h3⟩
          · exact grd_sound ih hmix k hfn hb h2 h hok hG hargs
          · refine calls_of_wp hfn hb ?_
            obtain ⟨ex, st', he, hres⟩ := evFn0_plain (by simpa using h4) h
            exact code_sound ih hmix k rf.body cd h2 (regsOk_nil cd) (sr_init hok hG hargs fn.ntmps) he (finish_cr hok h3 hres)
    · refine ⟨fun h2 => absurd h2 hlt, fun _ v hv => ?_⟩
      subst hv
      rw [if_neg hlt] at hm
      obtain ⟨gh, hgh⟩ : ∃ gh, gh = f - hB := ⟨_, rfl⟩
      rw [← hgh] at hm ⊢
      cases hfn : P.funcs[gh]? with
      | none => simp [hfn] at hm
      | some fn =>
        simp only [hfn, Bool.and_eq_true, bne_iff_ne, ne_eq] at hm
        obtain ⟨h1, h2⟩ := hm
        cases hb : fn.body with
        | none => simp [hb] at h2
        | some cd =>
          simp only [hb] at h2
          have hex : rf.ext = none := by
            unfold mHnd at h2
            split at h2 <;> try (cases h2; done)
            simp only [Bool.and_eq_true, Option.isNone_iff_eq_none] at h2
            exact h2.2
          unfold evFn at h
          rw [hex] at h
          simp only at h
          cases htr : rf.hnd with
          | none =>
            unfold mHnd at h2
            rw [htr] at h2
            simp at h2
          | some tr =>
            rw [htr] at h
            simp only at h
            split at h <;> try (cases h; done)
            rename_i x cs
            refine ⟨x, cs, rfl, fn, rfl, by rw [hb]; rfl, h1, ?_⟩
            intro ρ F w args hok hG hargs u xv u' hrec hx
            exact hnd_sound ih hmix k hfn hb h2 htr h hok hG hargs hrec hx
/-- The interpreter without a count of steps. -/
theorem callW_sound (hT : ∀ f rf, T f = some rf → mF P f rf = true) (hE : ∀ f rf e, T f = some rf → rf.ext = some e → XOK P G f e) (hmix : P.follows .mixedOrders = true) : CallOK P G (callW T G) := by
  intro f vs stk out stk' h
  obtain ⟨k, hk⟩ := callW_some.1 h
  exact run_sound hT hE hmix k f vs stk out stk' hk
end
end Go.Abs
