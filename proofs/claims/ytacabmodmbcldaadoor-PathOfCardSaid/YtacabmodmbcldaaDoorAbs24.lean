import Derived.Test.YtacabmodmbcldaaDoorAbs21
import Derived.Lib.RuneBytes
/-! Builders: what is put in, and what is told of them. -/
set_option linter.unusedVariables false
namespace Go.Abs
/-- A row of bytes of its own; or none yet. -/
def RowOf (E : Nat) (w : World) (v : Value) (s : Str) : Prop :=
  (v = .slice none 0 0 ∧ s = []) ∨ ∃ g cap c, cap ≠ 0 ∧ v = .slice (some ⟨g, 0, none⟩) s.length cap ∧ w.heap[g]? = some (.cells c E (0, 0)) ∧ c.size = cap ∧ c.toList.take s.length = s.map (fun b => .int .u8 b.toNat) ∧ s.length ≤ cap ∧ cap ≤ maxLen
def rowBlk : Value → Option Nat
  | .slice (some a) _ _ => some a.block
  | _ => none
/-- Something has been put into the builder in block b. -/
structure PutTo (T E b : Nat) (v : Value) (s' : Str) (w w' : World) : Prop where
  os : w'.os = w.os
  tape : w'.tape = w.tape
  output : w'.output = w.output
  size : w.heap.size ≤ w'.heap.size
  block : ∀ k, k < w.heap.size → k ≠ b → rowBlk v ≠ some k → w'.heap[k]? = w.heap[k]?
  row : ∃ v', w'.heap[b]? = some (.cells #[.pointer (some ⟨b, 0, none⟩), v'] T (0, 0)) ∧ RowOf E w' v' s' ∧ rowBlk v' ≠ some b ∧ (rowBlk v' = rowBlk v ∨ ∃ g, rowBlk v' = some g ∧ w.heap.size ≤ g)
def bldAt (T E : Nat) (l : Lab) (stk : Stk) : Option (Bool × Lab × Nat × Str) :=
  match getO stk l with
  | some (.bld ty u (.msl l' g 0 0)) => match getO stk l' with
    | some (.hid te g' s) => if ty = T then if te = E then if g = g' then some (u, l', g, s) else none else none else none
    | _ => none
  | _ => none
theorem bldAt_inv {T E : Nat} {l l' : Lab} {stk : Stk} {u : Bool} {g : Nat} {s : Str} (h : bldAt T E l stk = some (u, l', g, s)) : getO stk l = some (.bld T u (.msl l' g 0 0)) ∧ getO stk l' = some (.hid E g s) := by
  unfold bldAt at h
  split at h <;> try (cases h; done)
  rename_i ty u1 l1 g1 h1
  split at h <;> try (cases h; done)
  rename_i te g2 s1 h2
  split at h <;> try (cases h; done)
  rename_i e1
  split at h <;> try (cases h; done)
  rename_i e2
  split at h <;> try (cases h; done)
  rename_i e3
  cases h
  subst e1; subst e2; subst e3
  exact ⟨h1, h2⟩
section
variable {ρ : Rho} {F : Blks} {stk : Stk} {w : World}
theorem bld_row (hok : Ok ρ F stk w) {T E : Nat} {l l' : Lab} {u : Bool} {g : Nat} {s : Str} (h1 : getO stk l = some (.bld T u (.msl l' g 0 0))) (h2 : getO stk l' = some (.hid E g s)) :
    ∃ v, w.heap[(ρ l).blk]? = some (.cells #[.pointer (if u then some ⟨(ρ l).blk, 0, none⟩ else none), v] T (0, 0)) ∧ RowOf E w v s ∧ rowBlk v ≠ some (ρ l).blk ∧
      (((ρ l').cap = 0 ∧ v = .slice none 0 0) ∨ ((ρ l').cap ≠ 0 ∧ v = .slice (some ⟨(ρ l').blk, 0, none⟩) s.length (ρ l').cap)) := by
  obtain ⟨v, k1, k2⟩ := hok.objs l _ h1
  obtain ⟨te, g', s', e1, e2, e3⟩ := k2
  rw [h2] at e1
  cases e1
  have e3 := e3 rfl
  refine ⟨v, k1, ?_, ?_, e3⟩
  · rcases hok.objs l' _ h2 with ⟨q1, q2⟩ | ⟨c, q1, q2, q3, q4⟩
    · rcases e3 with ⟨_, rfl⟩ | ⟨q, _⟩
      · exact .inl ⟨rfl, q2⟩
      · exact absurd q1 q
    · rcases e3 with ⟨q0, rfl⟩ | ⟨q0, rfl⟩
      · exact .inl ⟨rfl, List.eq_nil_of_length_eq_zero (by omega)⟩
      · exact .inr ⟨_, _, c, q0, rfl, q1, q2, q3, q4⟩
  · rcases e3 with ⟨_, rfl⟩ | ⟨q0, rfl⟩
    · simp [rowBlk]
    · simp only [rowBlk, ne_eq, Option.some.injEq]
      intro e
      have := hok.inj l' l (has_of h2 (.inr q0)) (has_of h1 (.inl rfl)) e
      subst this
      rw [h1] at h2; cases h2
theorem put_sound (hok : Ok ρ F stk w) {T E : Nat} {l l' : Lab} {u : Bool} {g : Nat} {s s' : Str} (h1 : getO stk l = some (.bld T u (.msl l' g 0 0))) (h2 : getO stk l' = some (.hid E g s))
    {v : Value} (hv : w.heap[(ρ l).blk]? = some (.cells #[.pointer (if u then some ⟨(ρ l).blk, 0, none⟩ else none), v] T (0, 0)))
    (hvv : ((ρ l').cap = 0 ∧ v = .slice none 0 0) ∨ ((ρ l').cap ≠ 0 ∧ v = .slice (some ⟨(ρ l').blk, 0, none⟩) s.length (ρ l').cap)) {w' : World} (hp : PutTo T E (ρ l).blk v s' w w') :
    ∃ ρ', (∀ m, Goes m ρ F stk w ρ' F (setO (setO stk l' (.hid E (g + 1) s')) l (.bld T true (.msl l' (g + 1) 0 0))) w') ∧ Ok ρ' F (setO (setO stk l' (.hid E (g + 1) s')) l (.bld T true (.msl l' (g + 1) 0 0))) w' := by
  obtain ⟨v', r1, r2, r3, r4⟩ := hp.row
  have hne : l ≠ l' := by rintro rfl; rw [h1] at h2; cases h2
  have hlt := (Array.getElem?_eq_some_iff.1 hv).1
  -- where the row lies now
  obtain ⟨loc, hloc⟩ : ∃ loc : Loc, (loc.cap = 0 ∧ v' = .slice none 0 0 ∧ s' = []) ∨ (loc.cap ≠ 0 ∧ v' = .slice (some ⟨loc.blk, 0, none⟩) s'.length loc.cap ∧ ∃ c, w'.heap[loc.blk]? = some (.cells c E (0, 0)) ∧ c.size = loc.cap ∧ c.toList.take s'.length = s'.map (fun b => .int .u8 b.toNat) ∧ s'.length ≤ loc.cap ∧ loc.cap ≤ maxLen) := by
    rcases r2 with ⟨rfl, rfl⟩ | ⟨g2, cap, c, q0, rfl, q1, q2, q3, q4⟩
    · exact ⟨⟨0, 0⟩, .inl ⟨rfl, rfl, rfl⟩⟩
    · exact ⟨⟨g2, cap⟩, .inr ⟨q0, rfl, c, q1, q2, q3, q4⟩⟩
  have hu : upd ρ l' loc l = ρ l := by simp [upd, hne]
  have hu' : upd ρ l' loc l' = loc := by simp [upd]
  have hne' : loc.cap ≠ 0 → loc.blk ≠ (ρ l).blk := by
    intro h0 e
    rcases hloc with ⟨q, _⟩ | ⟨_, rfl, _⟩
    · exact h0 q
    · exact r3 (by simp [rowBlk, e])
  obtain ⟨a1, a2⟩ := set_sound (o' := .hid E (g + 1) s') (w' := putB w' (ρ l).blk (.cells #[.pointer (if u then some ⟨(ρ l).blk, 0, none⟩ else none), v] T (0, 0))) (ρ' := upd ρ l' loc) hok h2 hp.os hp.tape hp.output (by rw [putB_size]; exact hp.size)
    (fun k hk hr => by
      by_cases e : k = (ρ l).blk
      · subst e; rw [putB_same r1, hv]
      · rw [putB_ne e]
        refine hp.block k hk e ?_
        rcases hvv with ⟨_, rfl⟩ | ⟨q0, rfl⟩
        · simp [rowBlk]
        · simp only [rowBlk, ne_eq, Option.some.injEq]
          exact fun e => hr (.inr q0) e.symm)
    (fun l0 h0 => by simp [upd, h0])
    (fun hr => by
      rw [hu']
      rcases hr with hr | hr
      · cases hr
      · rw [hu'] at hr
        rcases hloc with ⟨q, _⟩ | ⟨_, rfl, _⟩
        · exact absurd q hr
        · rcases r4 with r4 | ⟨g2, r4, r5⟩
          · left
            rcases hvv with ⟨_, rfl⟩ | ⟨q0, rfl⟩
            · simp [rowBlk] at r4
            · simp only [rowBlk, Option.some.injEq] at r4
              exact ⟨r4, .inr q0⟩
          · right
            simp only [rowBlk, Option.some.injEq] at r4
            subst r4; exact r5)
    (by simp only [Turned]; exact ⟨trivial, by omega, fun e => by omega⟩) (fun v hv => by cases hv)
    (fun _ => by
      simp only [RO]
      rw [hu']
      rcases hloc with ⟨q, _, q1⟩ | ⟨q0, _, c, q1, q2, q3, q4⟩
      · exact .inl ⟨q, q1⟩
      · exact .inr ⟨c, by rw [putB_ne (hne' q0)]; exact q1, q2, q3, q4⟩)
  have g1 : getO (setO stk l' (.hid E (g + 1) s')) l = some (.bld T u (.msl l' g 0 0)) := by rw [getO_set_ne hne]; exact h1
  have hw : putB (putB w' (ρ l).blk (.cells #[.pointer (if u then some ⟨(ρ l).blk, 0, none⟩ else none), v] T (0, 0))) (ρ l).blk (.cells #[.pointer (some ⟨(ρ l).blk, 0, none⟩), v'] T (0, 0)) = w' := by
    rw [putB_put, putB_self r1]
  obtain ⟨b1, b2⟩ := set_sound (o' := .bld T true (.msl l' (g + 1) 0 0)) (w' := w') (ρ' := upd ρ l' loc) a2 g1 rfl rfl rfl (by rw [putB_size]; exact Nat.le_refl _)
    (fun k hk hr => by
      have e : k ≠ (ρ l).blk := by
        have := hr (.inl rfl)
        rwa [hu] at this
      rw [putB_ne e])
    (fun _ _ => rfl) (fun _ => .inl ⟨rfl, .inl rfl⟩) (by simp [Turned])
    (fun x hx => by
      simp only [O.vals, List.mem_singleton] at hx
      subst hx
      have := hok.scope l _ h1 (.msl l' g 0 0) (by simp [O.vals])
      simpa [V.upto] using this)
    (fun hmv => by
      simp only [RO]
      rw [hu]
      refine ⟨v', r1, ?_⟩
      have e2 : getO (setO stk l' (.hid E (g + 1) s')) l' = some (.hid E (g + 1) s') := getO_set_same h2
      refine ⟨E, g + 1, s', by rw [getO_set_ne (Ne.symm hne)]; exact e2, Nat.le_refl _, fun _ => ?_⟩
      rw [hu']
      rcases hloc with ⟨q, q1, _⟩ | ⟨q0, q1, _⟩
      · exact .inl ⟨q, q1⟩
      · exact .inr ⟨q0, q1⟩)
  exact ⟨_, fun m => (a1 m).trans (b1 m), b2⟩
/-- Its text has been told: nobody asks for its row any more. -/
structure EndTo (v : Value) (w w' : World) : Prop where
  os : w'.os = w.os
  tape : w'.tape = w.tape
  output : w'.output = w.output
  size : w.heap.size ≤ w'.heap.size
  block : ∀ k, k < w.heap.size → rowBlk v ≠ some k → w'.heap[k]? = w.heap[k]?
theorem end_sound (hok : Ok ρ F stk w) {T E : Nat} {l l' : Lab} {u : Bool} {g : Nat} {s : Str} (h1 : getO stk l = some (.bld T u (.msl l' g 0 0))) (h2 : getO stk l' = some (.hid E g s))
    {v : Value} (hv : w.heap[(ρ l).blk]? = some (.cells #[.pointer (if u then some ⟨(ρ l).blk, 0, none⟩ else none), v] T (0, 0))) (hne3 : rowBlk v ≠ some (ρ l).blk)
    (hvv : ((ρ l').cap = 0 ∧ v = .slice none 0 0) ∨ ((ρ l').cap ≠ 0 ∧ v = .slice (some ⟨(ρ l').blk, 0, none⟩) s.length (ρ l').cap)) {w' : World} (hp : EndTo v w w') :
    ∃ ρ', (∀ m, Goes m ρ F stk w ρ' F (setO (setO stk l' (.hid E (g + 1) [])) l (.bld T u .dead)) w') ∧ Ok ρ' F (setO (setO stk l' (.hid E (g + 1) [])) l (.bld T u .dead)) w' := by
  have hne : l ≠ l' := by rintro rfl; rw [h1] at h2; cases h2
  have hlt := (Array.getElem?_eq_some_iff.1 hv).1
  have hu : upd ρ l' ⟨0, 0⟩ l = ρ l := by simp [upd, hne]
  have hu' : upd ρ l' ⟨0, 0⟩ l' = ⟨0, 0⟩ := by simp [upd]
  obtain ⟨a1, a2⟩ := set_sound (o' := .hid E (g + 1) []) (w' := w') (ρ' := upd ρ l' ⟨0, 0⟩) hok h2 hp.os hp.tape hp.output hp.size
    (fun k hk hr => by
      refine hp.block k hk ?_
      rcases hvv with ⟨_, rfl⟩ | ⟨q0, rfl⟩
      · simp [rowBlk]
      · simp only [rowBlk, ne_eq, Option.some.injEq]
        exact fun e => hr (.inr q0) e.symm)
    (fun l0 h0 => by simp [upd, h0])
    (fun hr => by
      rcases hr with hr | hr
      · cases hr
      · rw [hu'] at hr; exact absurd rfl hr)
    (by simp only [Turned]; exact ⟨trivial, by omega, fun e => by omega⟩) (fun v hv => by cases hv)
    (fun _ => by
      simp only [RO]
      rw [hu']
      exact .inl ⟨rfl, trivial⟩)
  have g1 : getO (setO stk l' (.hid E (g + 1) [])) l = some (.bld T u (.msl l' g 0 0)) := by rw [getO_set_ne hne]; exact h1
  obtain ⟨b1, b2⟩ := set_sound (o' := .bld T u .dead) (w' := w') (ρ' := upd ρ l' ⟨0, 0⟩) a2 g1 rfl rfl rfl (Nat.le_refl _)
    (fun k hk hr => rfl)
    (fun _ _ => rfl) (fun _ => .inl ⟨rfl, .inl rfl⟩) (by simp [Turned])
    (fun x hx => by
      simp only [O.vals, List.mem_singleton] at hx
      subst hx
      simp [V.upto])
    (fun hmv => by
      simp only [RO]
      rw [hu]
      exact ⟨v, by rw [hp.block _ hlt hne3]; exact hv, trivial⟩)
  exact ⟨_, fun m => (a1 m).trans (b1 m), b2⟩
end
/-- What a writing method does, whatever the builder holds. -/
def PutSpec (P : Program) (f : FuncId) (T E : Nat) (arg : Value) (ys : Str) (k : Nat) (res : Value) : Prop :=
  ∀ b p v s w, w.heap[b]? = some (.cells #[p, v] T (0, 0)) → (p = .pointer none ∨ p = .pointer (some ⟨b, 0, none⟩)) → RowOf E w v s → rowBlk v ≠ some b → s.length + k ≤ room →
    Calls P f #[.pointer (some ⟨b, 0, none⟩), arg] w fun en w' => en = .returned res ∧ PutTo T E b v (s ++ ys) w w'
def EndSpec (P : Program) (f : FuncId) (T E : Nat) : Prop :=
  ∀ b p v s w, w.heap[b]? = some (.cells #[p, v] T (0, 0)) → RowOf E w v s → rowBlk v ≠ some b →
    Calls P f #[.pointer (some ⟨b, 0, none⟩)] w fun en w' => en = .returned (.string ⟨⟨s⟩⟩) ∧ EndTo v w w'
def bput (k : Nat) (s ys : Str) : Option Str := if s.length + k ≤ room then some (s ++ ys) else none
def bldPut (T E : Nat) (l : Lab) (k : Nat) (ys : Str) (d : D) (stk : Stk) : Option (V × Stk) :=
  match bldAt T E l stk with
  | some (_, l', g, s) => match bput k s ys with
    | some s' => some (.d d, setO (setO stk l' (.hid E (g + 1) s')) l (.bld T true (.msl l' (g + 1) 0 0)))
    | none => none
  | none => none
def effByte (T E : Nat) : List V → Stk → Option (V × Stk)
  | [.ref l 0, .d (.int .u8 c)], stk => if 0 ≤ c ∧ c < 256 then bldPut T E l 1 [UInt8.ofNat c.toNat] .nili stk else none
  | _, _ => none
def effStr (T E : Nat) : List V → Stk → Option (V × Stk)
  | [.ref l 0, .d (.str t)], stk => bldPut T E l t.length t (.tup [.int .i64 t.length, .nili]) stk
  | _, _ => none
def effRune (T E : Nat) : List V → Stk → Option (V × Stk)
  | [.ref l 0, .d (.int .i32 r)], stk => if -2147483648 ≤ r ∧ r ≤ 2147483647 then bldPut T E l 4 (Lib.encodeRune r) (.tup [.int .i64 (Lib.encodeRune r).length, .nili]) stk else none
  | _, _ => none
def effText (T E : Nat) : List V → Stk → Option (V × Stk)
  | [.ref l 0], stk => match bldAt T E l stk with
    | some (u, l', g, s) => some (.d (.str s), setO (setO stk l' (.hid E (g + 1) [])) l (.bld T u .dead))
    | none => none
  | _, _ => none
theorem nums_setO {s : Stk} {l : Lab} {o : O} : nums (setO s l o) = nums s := nums_set
theorem put_eff {P : Program} {f : FuncId} {T E : Nat} {arg res : Value} {ys : Str} {k : Nat} {d : D} (hS : PutSpec P f T E arg ys k res) {l : Lab} {stk stk' : Stk} {v : V} (he : bldPut T E l k ys d stk = some (v, stk'))
    {ρ : Rho} {F : Blks} {w : World} (hok : Ok ρ F stk w) (hd : ∀ F w, Rv F w d res) :
    Calls P f #[.pointer (some ⟨(ρ l).blk, 0, none⟩), arg] w fun en w' => ∃ ρ' F' u, en = .returned u ∧ (∀ m, Goes m ρ F stk w ρ' F' stk' w') ∧ Ok ρ' F' stk' w' ∧ nums stk' = nums stk ∧ RV ρ' F' stk' w' v u := by
  unfold bldPut at he
  split at he <;> try (cases he; done)
  rename_i u l' g s hb
  split at he <;> try (cases he; done)
  rename_i s' hs'
  cases he
  unfold bput at hs'
  split at hs' <;> try (cases hs'; done)
  rename_i hlen
  cases hs'
  obtain ⟨h1, h2⟩ := bldAt_inv hb
  obtain ⟨vv, k1, k2, k3, k4⟩ := bld_row hok h1 h2
  refine (hS _ _ vv s w k1 (by cases u <;> simp) k2 k3 hlen).mono fun en w' hh => ?_
  obtain ⟨rfl, hp⟩ := hh
  obtain ⟨ρ', q1, q2⟩ := put_sound hok h1 h2 k1 k4 hp
  exact ⟨ρ', F, res, rfl, q1, q2, by rw [nums_setO, nums_setO], by simp only [RV]; exact hd _ _⟩
theorem byte_ok {P : Program} {G : Nat → Option (List D)} {f : FuncId} {T E : Nat} (hS : ∀ c : Int, 0 ≤ c → c < 256 → PutSpec P f T E (.int .u8 c) [UInt8.ofNat c.toNat] 1 .nilIface) : EffOK P G f (effByte T E) := by
  intro vs stk v stk' he ρ F w args hok hG ha
  unfold effByte at he
  split at he <;> try (cases he; done)
  rename_i l c
  split at he <;> try (cases he; done)
  rename_i hc
  simp only [RVt, RV, Rv] at ha
  obtain ⟨u1, us1, rfl, ⟨rfl, _⟩, u2, us2, rfl, rfl, rfl⟩ := ha
  exact put_eff (hS c hc.1 hc.2) he hok (fun _ _ => by simp [Rv])
theorem str_ok {P : Program} {G : Nat → Option (List D)} {f : FuncId} {T E : Nat} (hS : ∀ t : Str, PutSpec P f T E (.string ⟨⟨t⟩⟩) t t.length (.tuple #[.int .i64 t.length, .nilIface])) : EffOK P G f (effStr T E) := by
  intro vs stk v stk' he ρ F w args hok hG ha
  unfold effStr at he
  split at he <;> try (cases he; done)
  rename_i l t
  simp only [RVt, RV, Rv] at ha
  obtain ⟨u1, us1, rfl, ⟨rfl, _⟩, u2, us2, rfl, rfl, rfl⟩ := ha
  exact put_eff (hS t) he hok (fun _ _ => by simp only [Rv, Rt]; exact ⟨_, rfl, _, _, rfl, rfl, _, _, rfl, rfl, rfl⟩)
theorem rune_ok {P : Program} {G : Nat → Option (List D)} {f : FuncId} {T E : Nat} (hS : ∀ r : Int, -2147483648 ≤ r → r ≤ 2147483647 → PutSpec P f T E (.int .i32 r) (Lib.encodeRune r) 4 (.tuple #[.int .i64 (Lib.encodeRune r).length, .nilIface])) : EffOK P G f (effRune T E) := by
  intro vs stk v stk' he ρ F w args hok hG ha
  unfold effRune at he
  split at he <;> try (cases he; done)
  rename_i l r
  split at he <;> try (cases he; done)
  rename_i hr
  simp only [RVt, RV, Rv] at ha
  obtain ⟨u1, us1, rfl, ⟨rfl, _⟩, u2, us2, rfl, rfl, rfl⟩ := ha
  exact put_eff (hS r hr.1 hr.2) he hok (fun _ _ => by simp only [Rv, Rt]; exact ⟨_, rfl, _, _, rfl, rfl, _, _, rfl, rfl, rfl⟩)
theorem text_ok {P : Program} {G : Nat → Option (List D)} {f : FuncId} {T E : Nat} (hS : EndSpec P f T E) : EffOK P G f (effText T E) := by
  intro vs stk v stk' he ρ F w args hok hG ha
  unfold effText at he
  split at he <;> try (cases he; done)
  rename_i l
  split at he <;> try (cases he; done)
  rename_i u l' g s hb
  cases he
  simp only [RVt, RV] at ha
  obtain ⟨u1, us1, rfl, ⟨rfl, _⟩, rfl⟩ := ha
  obtain ⟨h1, h2⟩ := bldAt_inv hb
  obtain ⟨vv, k1, k2, k3, k4⟩ := bld_row hok h1 h2
  refine (hS _ _ vv s w k1 k2 k3).mono fun en w' hh => ?_
  obtain ⟨rfl, hp⟩ := hh
  obtain ⟨ρ', q1, q2⟩ := end_sound hok h1 h2 k1 k3 k4 hp
  exact ⟨ρ', F, _, rfl, q1, q2, by rw [nums_setO, nums_setO], by simp only [RV, Rv]⟩
end Go.Abs
