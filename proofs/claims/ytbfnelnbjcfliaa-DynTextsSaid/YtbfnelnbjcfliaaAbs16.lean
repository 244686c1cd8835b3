import Derived.Test.YtbfnelnbjcfliaaAbs15
/-! Behind a call: what is kept. -/
set_option linter.unusedVariables false
set_option linter.unusedSimpArgs false
namespace Go.Abs
section
variable {P : Program} {T : FuncId → Option RF} {G : Nat → Option (List D)} {call : CallF} {iter : (St → Rs) → St → Rs} {ρ : Rho} {F : Blks} {stk : Stk} {w : World} {fr : Fr} {a : Act} {c c0 : Level} {s s0 : Stk}

theorem keepO_inv {m n t : Nat} {os : List (List Nat × O)} : ∀ {ks : List (List Nat)} {l : List (List Nat × O)}, keepO m n t os ks = some l →
    (∀ key o', getK key l = some o' → ∃ k o, hasKey k ks = true ∧ key = t :: k ∧ getK k os = some o ∧ o' = o.adopt m n t) ∧
    (∀ k, hasKey k ks = true → ∃ o, getK k os = some o ∧ getK (t :: k) l = some (o.adopt m n t))
  | [], l, h => by
    simp only [keepO, Option.some.injEq] at h
    subst h
    exact ⟨fun key o' h => by simp [getK] at h, fun k h => by simp [hasKey] at h⟩
  | k0 :: r, l, h => by
    simp only [keepO] at h
    split at h <;> try (cases h; done)
    rename_i o l' ho hl
    cases h
    obtain ⟨i1, i2⟩ := keepO_inv hl
    refine ⟨fun key o' h => ?_, fun k h => ?_⟩
    · simp only [getK] at h
      split at h
      · rename_i e
        cases h
        exact ⟨k0, o, by simp [hasKey], e, ho, rfl⟩
      · obtain ⟨k, o1, h1, h2, h3, h4⟩ := i1 key o' h
        exact ⟨k, o1, by simp only [hasKey]; split <;> simp_all, h2, h3, h4⟩
    · by_cases e : k = k0
      · subst e; exact ⟨o, ho, by simp [getK]⟩
      · simp only [hasKey, if_neg e] at h
        obtain ⟨o1, h1, h2⟩ := i2 k h
        exact ⟨o1, h1, by simp only [getK]; rw [if_neg (by simpa using e)]; exact h2⟩
theorem keptOk_inv {m : Nat} {ks : List (List Nat)} {os : List (List Nat × O)} : ∀ {ks' : List (List Nat)}, keptOk m ks os ks' = true → ∀ k, hasKey k ks' = true → ∃ o, getK k os = some o ∧ withinL m ks o.vals = true
  | [], _, k, hk => by simp [hasKey] at hk
  | k0 :: r, h, k, hk => by
    simp only [keptOk] at h
    split at h <;> try (cases h; done)
    rename_i o ho
    simp only [Bool.and_eq_true] at h
    by_cases e : k = k0
    · subst e; exact ⟨o, ho, h.1⟩
    · simp only [hasKey, if_neg e] at hk
      exact keptOk_inv h.2 k hk
theorem freshK_inv {t : Nat} {os : List (List Nat × O)} : ∀ {ks : List (List Nat)}, freshK t os ks = true → ∀ k, hasKey k ks = true → getK (t :: k) os = none
  | [], _, k, hk => by simp [hasKey] at hk
  | k0 :: r, h, k, hk => by
    simp only [freshK] at h
    split at h <;> try (cases h; done)
    rename_i ho
    by_cases e : k = k0
    · subst e; exact ho
    · simp only [hasKey, if_neg e] at hk
      exact freshK_inv h k hk

/-- The label that a kept object bore before. -/
def back (m n t : Nat) (ks : List (List Nat)) (l : Lab) : Lab :=
  if l.lv = n then match l.key with
    | t' :: k => if t' = t ∧ hasKey k ks = true then ⟨m, k⟩ else l
    | [] => l
  else l
theorem back_kept {m n t : Nat} {ks : List (List Nat)} {k : List Nat} (h : hasKey k ks = true) : back m n t ks ⟨n, t :: k⟩ = ⟨m, k⟩ := by simp [back, h]

structure Kp (c c0 : Level) (s0 : Stk) (t : Nat) (ks : List (List Nat)) (l : List (List Nat × O)) : Prop where
  inv : keepO c.n c0.n t c.os ks = some l
  fresh : freshK t c0.os ks = true
  falls : Falls (c :: c0 :: s0)

section
variable {t : Nat} {ks : List (List Nat)} {l : List (List Nat × O)}
theorem Kp.lt (h : Kp c c0 s0 t ks l) : c0.n < c.n := h.falls.1 c0 (by simp)
theorem Kp.falls' (h : Kp c c0 s0 t ks l) : Falls (⟨c0.n, c0.os ++ l⟩ :: s0) := falls_nums (s := c0 :: s0) rfl h.falls.2
theorem Kp.old (h : Kp c c0 s0 t ks l) {lb : Lab} {o : O} (hg : getO (c0 :: s0) lb = some o) : getO (⟨c0.n, c0.os ++ l⟩ :: s0) lb = some o ∧ back c.n c0.n t ks lb = lb := by
  simp only [getO] at hg ⊢
  split
  · rename_i e
    rw [if_pos e] at hg
    refine ⟨by rw [getK_append, hg], ?_⟩
    unfold back
    rw [if_pos e]
    split
    · rename_i t' k hk
      rw [if_neg]
      rintro ⟨rfl, h2⟩
      have := freshK_inv h.fresh k h2
      rw [← hk, hg] at this; cases this
    · rfl
  · rename_i e
    rw [if_neg e] at hg
    exact ⟨hg, by unfold back; rw [if_neg e]⟩
theorem Kp.new (h : Kp c c0 s0 t ks l) {k : List Nat} (hk : hasKey k ks = true) : ∃ o, getK k c.os = some o ∧ getO (⟨c0.n, c0.os ++ l⟩ :: s0) ⟨c0.n, t :: k⟩ = some (o.adopt c.n c0.n t) := by
  obtain ⟨o, h1, h2⟩ := (keepO_inv h.inv).2 k hk
  refine ⟨o, h1, ?_⟩
  simp only [getO, if_true]
  rw [getK_append, freshK_inv h.fresh k hk]
  exact h2
theorem Kp.inv' (h : Kp c c0 s0 t ks l) {lb : Lab} {o' : O} (hg : getO (⟨c0.n, c0.os ++ l⟩ :: s0) lb = some o') :
    (∃ k o, hasKey k ks = true ∧ lb = ⟨c0.n, t :: k⟩ ∧ getK k c.os = some o ∧ o' = o.adopt c.n c0.n t ∧ back c.n c0.n t ks lb = ⟨c.n, k⟩) ∨ (getO (c0 :: s0) lb = some o' ∧ back c.n c0.n t ks lb = lb) := by
  by_cases e : lb.lv = c0.n
  · simp only [getO, if_pos e] at hg
    rw [getK_append] at hg
    cases ho : getK lb.key c0.os with
    | some o =>
      rw [ho] at hg
      simp only [Option.some.injEq] at hg
      subst hg
      have : getO (c0 :: s0) lb = some o := by simp [getO, e, ho]
      exact .inr ⟨this, (h.old this).2⟩
    | none =>
      rw [ho] at hg
      simp only at hg
      obtain ⟨k, o, h1, h2, h3, h4⟩ := (keepO_inv h.inv).1 _ _ hg
      have hlb : lb = ⟨c0.n, t :: k⟩ := by cases lb; simp at e h2; simp [e, h2]
      exact .inl ⟨k, o, h1, hlb, h3, h4, by rw [hlb]; exact back_kept h1⟩
  · have : getO (c0 :: s0) lb = some o' := by
      simp only [getO, if_neg e] at hg ⊢; exact hg
    exact .inr ⟨this, (h.old this).2⟩

theorem O.adopt_fixed (o : O) (m n t : Nat) : (o.adopt m n t).fixed = o.fixed := by cases o <;> rfl
/-- A label of the callee's state, and what becomes of it. -/
theorem Kp.lab (h : Kp c c0 s0 t ks l) {lb : Lab} {o : O} (hg : getO (c :: c0 :: s0) lb = some o) (hw : (if lb.lv = c.n then hasKey lb.key ks else true) = true) :
    ∃ o', getO (⟨c0.n, c0.os ++ l⟩ :: s0) (lb.adopt c.n c0.n t) = some o' ∧ (o' = o ∨ o' = o.adopt c.n c0.n t) ∧ back c.n c0.n t ks (lb.adopt c.n c0.n t) = lb := by
  by_cases e : lb.lv = c.n
  · rw [if_pos e] at hw
    obtain ⟨o1, h1, h2⟩ := h.new hw
    have : o1 = o := by
      simp only [getO, if_pos e] at hg
      rw [h1] at hg; exact Option.some.inj hg
    subst this
    have hl : lb.adopt c.n c0.n t = ⟨c0.n, t :: lb.key⟩ := by simp [Lab.adopt, e]
    rw [hl]
    refine ⟨_, h2, .inr rfl, ?_⟩
    rw [back_kept hw]
    cases lb; simp at e; simp [e]
  · have h1 : getO (c0 :: s0) lb = some o := by
      simp only [getO, if_neg e] at hg ⊢; exact hg
    have hl : lb.adopt c.n c0.n t = lb := by simp [Lab.adopt, e]
    obtain ⟨h2, h3⟩ := h.old h1
    rw [hl]
    exact ⟨o, h2, .inl rfl, h3⟩
mutual
theorem RV.adopt (h : Kp c c0 s0 t ks l) : ∀ (x : V) (v : Value), V.within c.n ks x = true → RV ρ F (c :: c0 :: s0) w x v → RV (fun lb => ρ (back c.n c0.n t ks lb)) F (⟨c0.n, c0.os ++ l⟩ :: s0) w (V.adopt c.n c0.n t x) v
  | .dead, v, _, _ => by simp [V.adopt, RV]
  | .d x, v, _, hv => by simp only [V.adopt, RV] at hv ⊢; exact hv
  | .agg cs, v, hw, hv => by
    simp only [V.adopt, RV] at hv ⊢
    simp only [V.within] at hw
    obtain ⟨us, e, hl⟩ := hv
    exact ⟨us, e, RVl.adopt h cs _ hw hl⟩
  | .tup cs, v, hw, hv => by
    simp only [V.adopt, RV] at hv ⊢
    simp only [V.within] at hw
    obtain ⟨us, e, hl⟩ := hv
    exact ⟨us, e, RVt.adopt h cs _ hw hl⟩
  | .ref lb o, v, hw, hv => by
    simp only [V.adopt, RV] at hv ⊢
    simp only [V.within] at hw
    obtain ⟨e, ob, h1, h2⟩ := hv
    obtain ⟨o', h3, h4, h5⟩ := h.lab h1 hw
    rw [h5]
    refine ⟨e, o', h3, ?_⟩
    rcases h4 with rfl | rfl
    · exact h2
    · rw [O.adopt_fixed]; exact h2
  | .eref lb g i o, v, hw, hv => by
    simp only [V.adopt, RV] at hv ⊢
    simp only [V.within] at hw
    obtain ⟨g', esz, xs, ho, h1c, hle, hp⟩ := hv
    obtain ⟨o', h3, h4, h5⟩ := h.lab ho hw
    rw [h5]
    have : o' = .arr g' esz xs := by rcases h4 with rfl | rfl <;> rfl
    subst this
    exact ⟨g', esz, xs, h3, h1c, hle, hp⟩
  | .msl lb g o n, v, hw, hv => by
    simp only [V.adopt, RV] at hv ⊢
    simp only [V.within] at hw
    obtain ⟨g', esz, xs, ho, h1c, hle, hp⟩ := hv
    obtain ⟨o', h3, h4, h5⟩ := h.lab ho hw
    rw [h5]
    have : o' = .arr g' esz xs := by rcases h4 with rfl | rfl <;> rfl
    subst this
    exact ⟨g', esz, xs, h3, h1c, hle, hp⟩
  | .map lb, v, hw, hv => by
    simp only [V.adopt, RV] at hv ⊢
    simp only [V.within] at hw
    obtain ⟨e, ob, h1, h2⟩ := hv
    obtain ⟨o', h3, h4, h5⟩ := h.lab h1 hw
    rw [h5]
    refine ⟨e, o', h3, ?_⟩
    rcases h4 with rfl | rfl
    · exact h2
    · rw [O.adopt_fixed]; exact h2
  | .clos fn a b, v, hw, hv => by
    simp only [V.adopt, RV] at hv ⊢
    simp only [V.within, Bool.and_eq_true] at hw
    obtain ⟨fs, cs, e, h1, h2⟩ := hv
    exact ⟨fs, cs, e, RVt.adopt h a _ hw.1 h1, RVt.adopt h b _ hw.2 h2⟩
  | .iface ty x, v, hw, hv => by
    simp only [V.adopt, RV] at hv ⊢
    simp only [V.within] at hw
    obtain ⟨u, e, hx⟩ := hv
    exact ⟨u, e, RV.adopt h x u hw hx⟩
theorem RVl.adopt (h : Kp c c0 s0 t ks l) : ∀ (xs : List V) (us : List Value), withinL c.n ks xs = true → RVl ρ F (c :: c0 :: s0) w xs us → RVl (fun lb => ρ (back c.n c0.n t ks lb)) F (⟨c0.n, c0.os ++ l⟩ :: s0) w (adoptL c.n c0.n t xs) us
  | [], us, _, hu => by simp only [adoptL, RVl] at hu ⊢; exact hu
  | x :: r, us, hw, hu => by
    simp only [adoptL, RVl] at hu ⊢
    simp only [withinL, Bool.and_eq_true] at hw
    obtain ⟨u, us', e, h1, hx, hr⟩ := hu
    exact ⟨u, us', e, h1, RV.adopt h x u hw.1 hx, RVl.adopt h r us' hw.2 hr⟩
theorem RVt.adopt (h : Kp c c0 s0 t ks l) : ∀ (xs : List V) (us : List Value), withinL c.n ks xs = true → RVt ρ F (c :: c0 :: s0) w xs us → RVt (fun lb => ρ (back c.n c0.n t ks lb)) F (⟨c0.n, c0.os ++ l⟩ :: s0) w (adoptL c.n c0.n t xs) us
  | [], us, _, hu => by simp only [adoptL, RVt] at hu ⊢; exact hu
  | x :: r, us, hw, hu => by
    simp only [adoptL, RVt] at hu ⊢
    simp only [withinL, Bool.and_eq_true] at hw
    obtain ⟨u, us', e, hx, hr⟩ := hu
    exact ⟨u, us', e, RV.adopt h x u hw.1 hx, RVt.adopt h r us' hw.2 hr⟩
end
theorem RE.adopt (h : Kp c c0 s0 t ks l) : ∀ (xs : List (D × Nat × V)) (us : List MapEntry), withinL c.n ks (mapVals xs) = true → RE ρ F (c :: c0 :: s0) w xs us →
    RE (fun lb => ρ (back c.n c0.n t ks lb)) F (⟨c0.n, c0.os ++ l⟩ :: s0) w (xs.map fun e => (e.1, e.2.1, V.adopt c.n c0.n t e.2.2)) us
  | [], us, _, hu => by simp only [List.map_nil, RE] at hu ⊢; exact hu
  | x :: r, us, hw, hu => by
    simp only [List.map_cons, RE] at hu ⊢
    simp only [mapVals, List.map_cons, withinL, Bool.and_eq_true] at hw
    obtain ⟨u, us', e, hk, hx, hr⟩ := hu
    exact ⟨u, us', e, hk, RV.adopt h _ _ hw.1 hx, RE.adopt h r us' hw.2 hr⟩

theorem RB.adopt (h : Kp c c0 s0 t ks l) : ∀ (x : V) (u : Value), V.within c.n ks x = true → RB ρ (c :: c0 :: s0) x u → RB (fun lb => ρ (back c.n c0.n t ks lb)) (⟨c0.n, c0.os ++ l⟩ :: s0) (V.adopt c.n c0.n t x) u := by
  intro x u hw hv
  cases x <;> simp only [RB, V.adopt] at hv ⊢
  case msl lb g o n =>
    simp only [V.within] at hw
    obtain ⟨te, g', s, ho, hle, hp⟩ := hv
    obtain ⟨o', h3, h4, h5⟩ := h.lab ho hw
    rw [h5]
    have : o' = .hid te g' s := by rcases h4 with rfl | rfl <;> rfl
    subst this
    exact ⟨te, g', s, h3, hle, hp⟩
theorem RB.upto {stk : Stk} (hf : Falls stk) {x : V} {u : Value} (hv : RB ρ stk x u) : V.upto (topN stk) x = true := by
  cases x <;> simp only [RB] at hv <;> try (simp [V.upto]; done)
  case msl lb g o n =>
    obtain ⟨te, g', s, ho, _⟩ := hv
    simp only [V.upto, leN_iff]; exact getO_lv hf ho
/-- What is kept, goes over to the caller. -/
theorem keep_sound (hok : Ok ρ F (c :: c0 :: s0) w) (h : Kp c c0 s0 t ks l) (hkept : keptOk c.n ks c.os ks = true) :
    Ok (fun lb => ρ (back c.n c0.n t ks lb)) F (⟨c0.n, c0.os ++ l⟩ :: s0) w ∧ Goes c.n ρ F (c :: c0 :: s0) w (fun lb => ρ (back c.n c0.n t ks lb)) F (⟨c0.n, c0.os ++ l⟩ :: s0) w := by
  have hf := h.falls'
  have hmv : Moves c.n ρ F (c :: c0 :: s0) w (fun lb => ρ (back c.n c0.n t ks lb)) F (⟨c0.n, c0.os ++ l⟩ :: s0) w :=
    ⟨⟨fun _ h => h, fun _ _ => rfl⟩, fun lb o hlv hg => by
      rw [getO_below hlv] at hg
      obtain ⟨h1, h2⟩ := h.old hg
      refine ⟨o, h1, ?_⟩
      cases o <;> simp [Turned, h2]⟩
  have hhas : ∀ lb, has (fun lb => ρ (back c.n c0.n t ks lb)) (⟨c0.n, c0.os ++ l⟩ :: s0) lb → has ρ (c :: c0 :: s0) (back c.n c0.n t ks lb) := by
    intro lb hl
    obtain ⟨o', ho, hr⟩ := hl
    have hfx : ∀ o : O, (o.adopt c.n c0.n t).fixed = o.fixed := fun o => by cases o <;> rfl
    replace hr : o'.fixed = true ∨ (ρ (back c.n c0.n t ks lb)).cap ≠ 0 := hr
    rcases h.inv' ho with ⟨k, o, h1, h2, h3, h4, h5⟩ | ⟨h1, h2⟩
    · rw [h5]; rw [h5] at hr
      subst h4
      rw [hfx] at hr
      exact has_top h3 hr
    · rw [h2]; rw [h2] at hr; exact has_of (getO_tail h.falls h1) hr
  -- the objects
  have hobjs : ∀ lb o, getO (⟨c0.n, c0.os ++ l⟩ :: s0) lb = some o → RO (fun lb => ρ (back c.n c0.n t ks lb)) F (⟨c0.n, c0.os ++ l⟩ :: s0) w lb o := by
    intro lb o' hg
    rcases h.inv' hg with ⟨k, o, h1, h2, h3, h4, h5⟩ | ⟨h1, h2⟩
    · subst h4
      obtain ⟨o1, g1, g2⟩ := keptOk_inv hkept k h1
      rw [h3] at g1
      cases g1
      have hro := hok.objs ⟨c.n, k⟩ o (by simp [getO, h3])
      cases o with
      | cells cs =>
        simp only [RO, O.adopt] at hro ⊢
        rw [h5]
        obtain ⟨cc, e, k1, k2⟩ := hro
        exact ⟨cc, e, k1, RVl.adopt h cs _ g2 k2⟩
      | arr g esz xs => simp only [RO, O.adopt] at hro ⊢; rw [h5]; exact hro
      | map clock es =>
        simp only [RO, O.adopt] at hro ⊢
        rw [h5]
        obtain ⟨ents, k1, k2⟩ := hro
        exact ⟨ents, k1, RE.adopt h es _ g2 k2⟩
      | siter st pos => simp only [RO, O.adopt] at hro ⊢; rw [h5]; exact hro
      | bld ty used v =>
        simp only [RO, O.adopt] at hro ⊢
        rw [h5]
        obtain ⟨u, k1, k3⟩ := hro
        exact ⟨u, k1, RB.adopt h v _ (by simpa [O.vals, withinL] using g2) k3⟩
      | hid te g s => simp only [RO, O.adopt] at hro ⊢; rw [h5]; exact hro
    · have h3 := getO_tail h.falls h1
      have h4 := getO_lv h.falls.2 h1
      have h5 := h.lt
      simp only [topN] at h4
      have hmv' : Moves (c.n - 1 + 1) ρ F (c :: c0 :: s0) w (fun lb => ρ (back c.n c0.n t ks lb)) F (⟨c0.n, c0.os ++ l⟩ :: s0) w := ⟨hmv.keep, fun lb o hlv hg => hmv.evol lb o (by omega) hg⟩
      refine RO.moves hmv' (fun v hv => ?_) (by show ρ _ = ρ lb; rw [h2]) (fun _ => rfl) (hok.objs lb o' h3)
      exact (upto_mono (by omega)).1 v (hok.scope lb o' h3 v hv)
  refine ⟨{ objs := hobjs, inj := ?_, sep := ?_, lt := hok.lt, falls := hf, scope := ?_ }, ?_⟩
  · intro l1 l2 h1 h2 hb
    have := hok.inj _ _ (hhas l1 h1) (hhas l2 h2) hb
    obtain ⟨o1, ho1, _⟩ := h1
    obtain ⟨o2, ho2, _⟩ := h2
    rcases h.inv' ho1 with ⟨k1, _, _, e1, _, _, b1⟩ | ⟨g1, b1⟩ <;> rcases h.inv' ho2 with ⟨k2, _, _, e2, _, _, b2⟩ | ⟨g2, b2⟩
    · rw [b1, b2] at this
      rw [e1, e2]
      simp only [Lab.mk.injEq, true_and] at this ⊢
      rw [this]
    · rw [b1, b2] at this
      have := getO_lv h.falls.2 g2
      have h5 := h.lt
      rw [← ‹(⟨c.n, k1⟩ : Lab) = l2›] at this
      simp only [topN] at this; omega
    · rw [b1, b2] at this
      have := getO_lv h.falls.2 g1
      have h5 := h.lt
      rw [‹l1 = (⟨c.n, k2⟩ : Lab)›] at this
      simp only [topN] at this; omega
    · rw [b1, b2] at this; exact this
  · intro lb hl hF
    exact hok.sep _ (hhas lb hl) hF
  · intro lb o' hg v hv
    rcases h.inv' hg with ⟨k, o, h1, h2, h3, h4, h5⟩ | ⟨h1, h2⟩
    · have hro := hobjs lb o' hg
      subst h2
      simp only
      have : ∀ v ∈ o'.vals, (∃ u, RV (fun lb => ρ (back c.n c0.n t ks lb)) F (⟨c0.n, c0.os ++ l⟩ :: s0) w v u) ∨ V.upto (topN (⟨c0.n, c0.os ++ l⟩ :: s0)) v = true := by
        cases o' with
        | cells cs =>
          simp only [RO] at hro
          obtain ⟨cc, e, k1, k2⟩ := hro
          intro v hv
          simp only [O.vals] at hv
          have key : ∀ {cs : List V} {us : List Value}, RVl (fun lb => ρ (back c.n c0.n t ks lb)) F (⟨c0.n, c0.os ++ l⟩ :: s0) w cs us → ∀ v ∈ cs, ∃ u, RV (fun lb => ρ (back c.n c0.n t ks lb)) F (⟨c0.n, c0.os ++ l⟩ :: s0) w v u := by
            intro cs
            induction cs with
            | nil => intro us _ v hv; cases hv
            | cons x r ih =>
              intro us hu v hv
              simp only [RVl] at hu
              obtain ⟨u, us', _, _, g1, g2⟩ := hu
              rcases List.mem_cons.1 hv with rfl | hv
              · exact ⟨u, g1⟩
              · exact ih g2 v hv
          exact .inl (key k2 v hv)
        | arr g esz xs => intro v hv; cases hv
        | map clock es =>
          simp only [RO] at hro
          obtain ⟨ents, k1, k2⟩ := hro
          intro v hv
          simp only [O.vals] at hv
          have key : ∀ {es : List (D × Nat × V)} {us : List MapEntry}, RE (fun lb => ρ (back c.n c0.n t ks lb)) F (⟨c0.n, c0.os ++ l⟩ :: s0) w es us → ∀ v ∈ mapVals es, ∃ u, RV (fun lb => ρ (back c.n c0.n t ks lb)) F (⟨c0.n, c0.os ++ l⟩ :: s0) w v u := by
            intro es
            induction es with
            | nil => intro us _ v hv; cases hv
            | cons x r ih =>
              intro us hu v hv
              simp only [RE] at hu
              obtain ⟨u, us', _, _, g1, g2⟩ := hu
              simp only [mapVals, List.map_cons, List.mem_cons] at hv
              rcases hv with rfl | hv
              · exact ⟨_, g1⟩
              · exact ih g2 v hv
          exact .inl (key k2 v hv)
        | siter st pos => intro v hv; cases hv
        | bld ty used v =>
          simp only [RO] at hro
          obtain ⟨u, _, k3⟩ := hro
          intro x hx
          simp only [O.vals, List.mem_singleton] at hx
          subst hx
          exact .inr (RB.upto hf k3)
        | hid te g s => intro v hv; cases hv
      rcases this v hv with ⟨u, hu⟩ | hu
      · exact RV.upto hf v u hu
      · exact hu
    · exact hok.scope lb o' (getO_tail h.falls h1) v hv
  · exact
      { os := rfl, tape := rfl, output := rfl, size := Nat.le_refl _, frame := fun _ _ _ => rfl, sub := fun _ h => h
        new := fun b hb => .inl hb
        own := fun lb hl => .inr ⟨_, hhas lb hl, rfl⟩
        evol := hmv.evol }
end

theorem leave_sound (hok : Ok ρ F (c :: s) w) {m : Mode} {dst : Option Nat} {v v' : V} {u : Value} {s' : Stk} (hv : RV ρ F (c :: s) w v u) (h : leave (Sys.real T G call iter) m dst v c s = some (v', s')) :
    ∃ ρ' F', Goes c.n ρ F (c :: s) w ρ' F' s' w ∧ Ok ρ' F' s' w ∧ RV ρ' F' s' w v' u ∧ nums s' = nums s := by
  cases m with
  | pur => simp [leave] at h
  | eff => simp [leave] at h
  | own ks => simp [leave] at h
  | frz =>
    simp only [leave] at h
    split at h
    · cases h
      obtain ⟨g1, g2⟩ := drop_sound hok (F' := F) (fun _ h => h) (fun _ h => .inl h)
      simp only [RV] at hv
      exact ⟨ρ, F, g2, g1, by simpa only [RV] using hv, rfl⟩
    · split at h <;> try (cases h; done)
      rename_i x hx
      cases h
      obtain ⟨g1, g2⟩ := drop_sound hok (F' := withTop F ρ c) (fun _ h => .inl h) (fun _ h => h)
      refine ⟨ρ, _, g2, g1, ?_, rfl⟩
      simp only [RV]
      exact (freeze_sound hok 100).1 _ _ _ hv hx
  | keep ks =>
    simp only [leave] at h
    split at h <;> try (cases h; done)
    rename_i t c0 s0
    split at h <;> try (cases h; done)
    rename_i l hl
    split at h <;> try (cases h; done)
    rename_i hc
    cases h
    simp only [Bool.and_eq_true] at hc
    obtain ⟨⟨⟨⟨h1, h2⟩, h3⟩, h4⟩, h5⟩ := hc
    have hk : Kp c c0 s0 t ks l := ⟨hl, h4, hok.falls⟩
    obtain ⟨g1, g2⟩ := keep_sound hok hk h3
    exact ⟨_, F, g2, g1, RV.adopt hk v u h1 hv, by simp [nums]⟩
end
end Go.Abs
