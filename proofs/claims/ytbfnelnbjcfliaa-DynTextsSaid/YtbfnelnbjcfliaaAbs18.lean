import Derived.Test.YtbfnelnbjcfliaaAbs17
/-! Regions. -/
set_option linter.unusedVariables false
set_option linter.unusedSimpArgs false
namespace Go.Abs

/-! ## Which region is which -/
def mG (ops : Array Oper) : Option (Nat × Bool) → Option (Nat × Bool) → Bool
  | none, none => true
  | some (j, b), some (t, b') => b == b' && (match ops[j]? with | some o => (match o.dst with | some d => d == t | none => false) | none => false)
  | _, _ => false
def mOp (P : Program) (nt : Nat) (ops : Array Oper) (o : Oper) (r : ROp) : Bool :=
  o.dst == r.dst && (match o.dst with | some d => decide (d < nt) | none => true) && mG ops o.guard r.g && mR P o.op r.r
def mOps (P : Program) (nt : Nat) (ops : Array Oper) : List Oper → List ROp → Bool
  | [], [] => true
  | o :: r, x :: s => mOp P nt ops o x && mOps P nt ops r s
  | _, _ => false

section
variable {X : Sys} {fr fr' : Fr} {stk : Stk}
theorem ev_congr {x : Opd} (h : ∀ t ∈ x.tmp, fr.get t = fr'.get t) : x.ev X fr = x.ev X fr' := by
  cases x <;> simp only [Opd.ev]
  exact h _ (by simp [Opd.tmp])
theorem evL_congr : ∀ {l : List Opd}, (∀ t ∈ opsTmp l, fr.get t = fr'.get t) → evL X fr l = evL X fr' l
  | [], _ => rfl
  | x :: r, h => by
    simp only [evL]
    rw [ev_congr fun t ht => h t (by simp [opsTmp] at ht ⊢; exact .inl ht), evL_congr fun t ht => h t (by simp [opsTmp] at ht ⊢; exact .inr ht)]
theorem evP_congr : ∀ {l : List (Nat × Nat × Opd)}, (∀ t ∈ partsTmp l, fr.get t = fr'.get t) → evP X fr l = evP X fr' l
  | [], _ => rfl
  | (a, b, x) :: r, h => by
    simp only [evP]
    rw [ev_congr fun t ht => h t (by simp [partsTmp] at ht ⊢; exact .inl ht), evP_congr fun t ht => h t (by simp [partsTmp] at ht ⊢; exact .inr ht)]
theorem evO_congr {l : Option Opd} (h : ∀ t ∈ optTmp l, fr.get t = fr'.get t) : evO X fr l = evO X fr' l := by
  cases l with
  | none => rfl
  | some x => simp only [evO]; rw [ev_congr h]
theorem evQ_congr {r : R} (h : ∀ t ∈ r.tmps, fr.get t = fr'.get t) : evQ X stk fr r = evQ X stk fr' r := by
  cases r
  case conv k x =>
    have e := ev_congr (X := X) (x := x) h
    cases k <;> simp only [evQ, e]
  case mm m l =>
    have e : ∀ x ∈ l, x.ev X fr = x.ev X fr' := fun x hx => ev_congr fun t ht => h t (by simp [R.tmps, opsTmp]; exact ⟨x, hx, ht⟩)
    match l, e with
    | [], _ => rfl
    | [_], _ => rfl
    | [x, y], e => simp only [evQ]; rw [e x (by simp), e y (by simp)]
    | _ :: _ :: _ :: _, _ => rfl
  case move x => have e := ev_congr (X := X) (x := x) h; simp only [evQ, e]
  case ibox x => have e := ev_congr (X := X) (x := x) h; simp only [evQ, e]
  case load _ _ x => have e := ev_congr (X := X) (x := x) h; simp only [evQ, e]
  case nilCheck x => have e := ev_congr (X := X) (x := x) h; simp only [evQ, e]
  case un _ x => have e := ev_congr (X := X) (x := x) h; simp only [evQ, e]
  case mkI _ x => have e := ev_congr (X := X) (x := x) h; simp only [evQ, e]
  case faddr _ x => have e := ev_congr (X := X) (x := x) h; simp only [evQ, e]
  case fld _ _ _ x => have e := ev_congr (X := X) (x := x) h; simp only [evQ, e]
  case tasp _ _ x => have e := ev_congr (X := X) (x := x) h; simp only [evQ, e]
  case tassert _ _ _ x => have e := ev_congr (X := X) (x := x) h; simp only [evQ, e]
  case extract x _ => have e := ev_congr (X := X) (x := x) h; simp only [evQ, e]
  case len k x => have e := ev_congr (X := X) (x := x) h; simp only [evQ, e]
  case pick a b c =>
    have e1 := ev_congr (X := X) (x := a) fun t ht => h t (by simp [R.tmps, ht])
    have e2 := ev_congr (X := X) (x := b) fun t ht => h t (by simp [R.tmps, ht])
    have e3 := ev_congr (X := X) (x := c) fun t ht => h t (by simp [R.tmps, ht])
    simp only [evQ, e1, e2, e3]
  case bin _ a b =>
    have e1 := ev_congr (X := X) (x := a) fun t ht => h t (by simp [R.tmps, ht])
    have e2 := ev_congr (X := X) (x := b) fun t ht => h t (by simp [R.tmps, ht])
    simp only [evQ, e1, e2]
  case eq _ _ a b =>
    have e1 := ev_congr (X := X) (x := a) fun t ht => h t (by simp [R.tmps, ht])
    have e2 := ev_congr (X := X) (x := b) fun t ht => h t (by simp [R.tmps, ht])
    simp only [evQ, e1, e2]
  case iaddr _ a b =>
    have e1 := ev_congr (X := X) (x := a) fun t ht => h t (by simp [R.tmps, ht])
    have e2 := ev_congr (X := X) (x := b) fun t ht => h t (by simp [R.tmps, ht])
    simp only [evQ, e1, e2]
  case aaddr _ _ a b =>
    have e1 := ev_congr (X := X) (x := a) fun t ht => h t (by simp [R.tmps, ht])
    have e2 := ev_congr (X := X) (x := b) fun t ht => h t (by simp [R.tmps, ht])
    simp only [evQ, e1, e2]
  case idx a b =>
    have e1 := ev_congr (X := X) (x := a) fun t ht => h t (by simp [R.tmps, ht])
    have e2 := ev_congr (X := X) (x := b) fun t ht => h t (by simp [R.tmps, ht])
    simp only [evQ, e1, e2]
  case lookup _ _ _ a b =>
    have e1 := ev_congr (X := X) (x := a) fun t ht => h t (by simp [R.tmps, ht])
    have e2 := ev_congr (X := X) (x := b) fun t ht => h t (by simp [R.tmps, ht])
    simp only [evQ, e1, e2]
  case build _ ps =>
    have e := evP_congr (X := X) (l := ps) h
    simp only [evQ, e]
  case ilit _ l =>
    have e := evL_congr (X := X) (l := l) h
    simp only [evQ, e]
  case mkF _ a b =>
    have e1 := evL_congr (X := X) (l := a) fun t ht => h t (by simp [R.tmps, ht])
    have e2 := evL_congr (X := X) (l := b) fun t ht => h t (by simp [R.tmps, ht])
    simp only [evQ, e1, e2]
  case slice _ x a b =>
    have e1 := ev_congr (X := X) (x := x) fun t ht => h t (by simp [R.tmps, ht])
    have e2 := evO_congr (X := X) (l := a) fun t ht => h t (by simp [R.tmps, ht])
    have e3 := evO_congr (X := X) (l := b) fun t ht => h t (by simp [R.tmps, ht])
    simp only [evQ, e1, e2, e3]
  all_goals rfl
theorem evF_congr {r : R} (h : ∀ t ∈ r.tmps, fr.get t = fr'.get t) : evF X stk fr r = evF X stk fr' r := by
  have hq := evQ_congr (X := X) (stk := stk) h
  cases r
  case call m f l =>
    cases m <;> simp only [evF]
    · rw [evL_congr (X := X) (l := l) h]
    · rw [evL_congr (X := X) (l := l) h]
    · exact hq
    · exact hq
    · exact hq
  case callv m x l =>
    cases m <;> simp only [evF]
    · rw [ev_congr (X := X) (x := x) fun t ht => h t (by simp [R.tmps, ht]), evL_congr (X := X) (l := l) fun t ht => h t (by simp [R.tmps, ht])]
    · rw [ev_congr (X := X) (x := x) fun t ht => h t (by simp [R.tmps, ht]), evL_congr (X := X) (l := l) fun t ht => h t (by simp [R.tmps, ht])]
    · exact hq
    · exact hq
    · exact hq
  all_goals exact hq
theorem evM_congr {r : R} {dst : Option Nat} (hm : r.isM = true) (h : ∀ t ∈ r.tmps, fr.get t = fr'.get t) : evR X dst fr stk r = evR X dst fr' stk r := by
  cases r
  case alloc z => rfl
  case call m f l => simp only [evR]; rw [evL_congr (X := X) (l := l) h]
  case callv m x l => simp only [evR]; rw [ev_congr (X := X) (x := x) fun t ht => h t (by simp [R.tmps, ht]), evL_congr (X := X) (l := l) fun t ht => h t (by simp [R.tmps, ht])]
  all_goals simp [R.isM] at hm
theorem still_same {r : R} (h : r.still = true) (stk' : Stk) : evF X stk' fr r = evF X stk fr r := by
  cases r <;> simp [R.still] at h <;> rfl
theorem wants_congr {g : Option (Nat × Bool)} (h : ∀ t b, g = some (t, b) → fr.get t = fr'.get t) : wants fr g = wants fr' g := by
  cases g with
  | none => rfl
  | some p => obtain ⟨t, b⟩ := p; simp only [wants, h t b rfl]
theorem tidyF_get : ∀ {l : List Nat} {n : Nat}, n ∈ l → (tidyF fr l).get n = fr.get n
  | [], n, h => by cases h
  | m :: r, n, h => by
    simp only [tidyF, Fr.get]
    by_cases e : n = m
    · rw [if_pos e, e]
    · rw [if_neg e]
      exact tidyF_get ((List.mem_cons.1 h).resolve_left e)
theorem tidyF_not : ∀ {l : List Nat} {n : Nat}, n ∉ l → (tidyF fr l).get n = .dead
  | [], n, h => rfl
  | m :: r, n, h => by
    simp only [tidyF, Fr.get]
    rw [if_neg (fun e => h (by simp [e]))]
    exact tidyF_not fun k => h (List.mem_cons_of_mem _ k)
theorem put_get {dst : Option Nat} {v : V} {n : Nat} : (Fr.put dst v fr).get n = if dst = some n then v else fr.get n := by
  cases dst with
  | none => simp [Fr.put]
  | some d =>
    simp only [Fr.put, Fr.get, Option.some.injEq]
    by_cases e : n = d
    · rw [if_pos e, if_pos e.symm]
    · rw [if_neg e, if_neg (Ne.symm e)]
end

/-- What is held of the activation all the way, and the slots that nothing yields into. -/
structure Hold where
  J : Act → Prop
  S : Nat → Prop
instance : CoeFun Hold fun _ => Act → Prop := ⟨Hold.J⟩
/-- Nothing is deferred. -/
def Hold.nil : Hold := ⟨fun a => a.defers = [], fun _ => False⟩
section
variable {J : Hold} {P : Program} {T : FuncId → Option RF} {G : Nat → Option (List D)} {call : CallF} {iter : (St → Rs) → St → Rs} {ρ : Rho} {F : Blks} {stk : Stk} {w : World} {fr : Fr} {a : Act} {nt : Nat} {ops : Array Oper} {Q : Exit → Act → World → Prop}

theorem RFr.put (h : RFr ρ F stk w fr a.tmps) {dst : Option Nat} {v : V} {u : Value} (hv : RV ρ F stk w v u) (hd : ∀ d, dst = some d → d < a.tmps.size) : RFr ρ F stk w (fr.put dst v) (a.put dst u).tmps := by
  intro n
  rw [put_get]
  cases dst with
  | none => rw [if_neg (by simp)]; exact h n
  | some d =>
    simp only [Option.some.injEq, Act.put]
    by_cases e : d = n
    · subst e
      rw [if_pos rfl]
      have := hd d rfl
      simpa [Array.getD_eq_getD_getElem?, this] using hv
    · rw [if_neg e]
      have := h n
      simpa [Array.getD_eq_getD_getElem?, Array.getElem?_setIfInBounds_ne e] using this
theorem put_size {dst : Option Nat} {u : Value} : (a.put dst u).tmps.size = a.tmps.size := by cases dst <;> simp [Act.put]
theorem put_defers {dst : Option Nat} {u : Value} : (a.put dst u).defers = a.defers := by cases dst <;> simp [Act.put]
theorem RFr.moves {ρ' : Rho} {F' : Blks} {stk' : Stk} {w' : World} {tmps : Array Value} (h : RFr ρ F stk w fr tmps) (hok : Ok ρ F stk w) (hg : Goes (topN stk + 1) ρ F stk w ρ' F' stk' w') : RFr ρ' F' stk' w' fr tmps := fun n =>
  RV.moves (hg.moves hok) _ _ (RV.upto hok.falls _ _ (h n)) (h n)

def asB : Value → Option Bool | .bool b => some b | _ => none
theorem wants_sound {g : Option (Nat × Bool)} (hfr : RFr ρ F stk w fr a.tmps) (hd : ∀ t b, g = some (t, b) → t < a.tmps.size) {o : Oper} (hm : mG ops o.guard g = true) {b : Bool} (h : wants fr g = some b) : Region.wanted o (yielded ops a.tmps) = b := by
  unfold Region.wanted
  cases hg : o.guard with
  | none =>
    rw [hg] at hm
    cases g with
    | none => simp only [wants, Option.some.injEq] at h; simp [h]
    | some p => simp [mG] at hm
  | some p =>
    obtain ⟨j, want⟩ := p
    rw [hg] at hm
    cases g with
    | none => simp [mG] at hm
    | some p =>
      obtain ⟨t, want'⟩ := p
      simp only [mG, Bool.and_eq_true, beq_iff_eq] at hm
      obtain ⟨rfl, h2⟩ := hm
      cases ho : ops[j]? with
      | none => simp [ho] at h2
      | some oj =>
        simp only [ho] at h2
        cases hdj : oj.dst with
        | none => simp [hdj] at h2
        | some d =>
          simp only [hdj, beq_iff_eq] at h2
          subst h2
          have hlt := hd d want rfl
          have hrv := hfr d
          have hgd : a.tmps[d]? = some (a.tmps.getD d undef) := by simp [hlt]
          have hy : yielded ops a.tmps j = asB (a.tmps.getD d undef) := by
            unfold yielded
            rw [ho]
            simp only [Option.bind_some, hdj, hgd]
            generalize a.tmps.getD d undef = v
            cases v <;> rfl
          show (yielded ops a.tmps j == some want) = b
          rw [hy]
          simp only [wants] at h
          split at h <;> try (cases h; done)
          all_goals
            rename_i hp
            rw [hp] at hrv
            simp only [RV, Rv] at hrv
          · rw [hrv]; cases h; simp [asB]
            try (rename_i p; cases p <;> rfl)
          · rw [hrv]; cases h
            have aux : ∀ p, (asB (.bool p) == some false) = !p := by intro p; cases p <;> rfl
            exact aux _
          · obtain ⟨us, e1, _⟩ := hrv
            rw [e1]; cases h; rfl

/-! ## Ordered operations -/
/-- What holds of a frame and of what it stands in. -/
structure SR (G : Nat → Option (List D)) (J : Hold) (nt : Nat) (ρ : Rho) (F : Blks) (stk : Stk) (w : World) (fr : Fr) (a : Act) : Prop where
  ok : Ok ρ F stk w
  glob : Glob G F w
  fr : RFr ρ F stk w fr a.tmps
  size : nt ≤ a.tmps.size
  j : J a
/-- What is to be shown of a way out. -/
def CR (G : Nat → Option (List D)) (J : Hold) (nt m : Nat) (ρ : Rho) (F : Blks) (stk : Stk) (w : World) (Q : Exit → Act → World → Prop) (ex : Ex) (st' : St) : Prop :=
  ∀ ρ' F' a' w', Goes m ρ F stk w ρ' F' st'.stk w' → nums st'.stk = nums stk →
    match ex with
    | .normal => SR G J nt ρ' F' st'.stk w' st'.fr a' → Q .normal a' w'
    | .exit i => SR G J nt ρ' F' st'.stk w' st'.fr a' → Q (.exit i) a' w'
    | .ret => SR G J nt ρ' F' st'.stk w' st'.fr a' → Q .ret a' w'
    | .pan x => Ok ρ' F' st'.stk w' → Glob G F' w' → J a' → (∀ t, J.S t → RV ρ' F' st'.stk w' (st'.fr.get t) (a'.tmps.getD t undef)) → ∀ xv, Rv F' w' x xv → Q (.panic [{ v := xv, recovered := false }]) a' w'
theorem CR.trans {m : Nat} {ρ1 : Rho} {F1 : Blks} {stk1 : Stk} {w1 : World} {ex : Ex} {st' : St} (h : CR G J nt m ρ F stk w Q ex st') (g : Goes m ρ F stk w ρ1 F1 stk1 w1) (hn : nums stk1 = nums stk) : CR G J nt m ρ1 F1 stk1 w1 Q ex st' :=
  fun ρ' F' a' w' h1 h2 => h ρ' F' a' w' (g.trans h1) (h2.trans hn)

/-- What is held of the activation is not touched by what the operations yield. -/
def Jok (ops : Array Oper) (J : Hold) : Prop := ∀ (i : Nat) (o : Oper), ops[i]? = some o → (∀ a v, J (a.put o.dst v) ↔ J a) ∧ ∀ d, o.dst = some d → ¬ J.S d
theorem Jok.get (hJ : Jok ops J) {i : Nat} {o : Oper} (hi : ops[i]? = some o) {a : Act} {v : Value} {t : Nat} (ht : J.S t) : (a.put o.dst v).tmps.getD t undef = a.tmps.getD t undef := by
  have h := (hJ i o hi).2
  cases hd : o.dst with
  | none => rfl
  | some d => simp [Act.put, Array.getD_eq_getD_getElem?, Array.getElem?_setIfInBounds_ne (show d ≠ t from fun e => h d hd (e ▸ ht))]
theorem Jok.at (hJ : Jok ops J) {i : Nat} {o : Oper} (hi : ops[i]? = some o) {r : ROp} (hm : mOp P nt ops o r = true) {a : Act} {v : Value} : J (a.put r.dst v) ↔ J a := by
  simp only [mOp, Bool.and_eq_true, beq_iff_eq] at hm
  rw [← hm.1.1.1]; exact (hJ i o hi).1 a v
/-- One operation, as the interpreter carries it out. -/
def evOne (X : Sys) (o : ROp) (fr : Fr) (stk : Stk) : Option Res :=
  match wants fr o.g with
  | some true => evR X o.dst fr stk o.r
  | some false => some (.val undefV stk)
  | none => none
theorem evOps_cons {X : Sys} {o : ROp} {r : List ROp} {st : St} : evOps X (o :: r) st = match evOne X o st.fr st.stk with
    | some (.val v s) => evOps X r ⟨st.fr.put o.dst v, s⟩
    | some (.pan x s) => some (.pan x, ⟨st.fr, s⟩)
    | none => none := by
  simp only [evOps, evOne]
  cases wants st.fr o.g with
  | none => rfl
  | some b => cases b <;> rfl
def AllLt (ops : Array Oper) (nt : Nat) : Prop := ∀ (i : Nat) (o : Oper), ops[i]? = some o → ∀ d, o.dst = some d → d < nt
theorem g_lt {o : Oper} {r : ROp} (hm : mOp P nt ops o r = true) (hall : AllLt ops nt) : ∀ t b, r.g = some (t, b) → t < nt := by
  intro t b hg
  simp only [mOp, Bool.and_eq_true] at hm
  have h := hm.1.2
  rw [hg] at h
  cases ho : o.guard with
  | none => simp [ho, mG] at h
  | some p =>
    obtain ⟨j, want⟩ := p
    simp only [ho, mG, Bool.and_eq_true] at h
    cases hoj : ops[j]? with
    | none => simp [hoj] at h
    | some oj =>
      cases hd : oj.dst with
      | none => simp [hoj, hd] at h
      | some d =>
        simp [hoj, hd] at h
        exact h.2 ▸ hall j oj hoj d hd
/-- One operation. -/
theorem one_sound (hC : CallOK P G call) (hall : AllLt ops nt) (hs : SR G J nt ρ F stk w fr a) {i : Nat} {o : Oper} (hi : ops[i]? = some o) {r : ROp} (hm : mOp P nt ops o r = true)
    {res : Res} (he : evOne (Sys.real T G call iter) r fr stk = some res) {K : Act → World → Prop}
    (hK : match res with
      | .val v s => ∀ ρ' F' w' v', Goes (topN stk + 1) ρ F stk w ρ' F' s w' → Ok ρ' F' s w' → nums s = nums stk → RV ρ' F' s w' v v' → K (a.put r.dst v') w'
      | .pan x s => ∀ ρ' F' w' xv, Goes (topN stk + 1) ρ F stk w ρ' F' s w' → Ok ρ' F' s w' → nums s = nums stk → Rv F' w' x xv → Q (.panic [{ v := xv, recovered := false }]) a w') : wpOp P ops Q i K a w := by
  have hm' := hm
  simp only [mOp, Bool.and_eq_true, beq_iff_eq] at hm
  obtain ⟨⟨⟨h1, h2⟩, h3⟩, h4⟩ := hm
  unfold evOne at he
  unfold wpOp
  simp only [hi]
  split at he <;> try (cases he; done)
  · rename_i hw
    have := wants_sound hs.fr (fun t b hg => Nat.lt_of_lt_of_le (g_lt hm' hall t b hg) hs.size) h3 hw
    rw [if_pos this]
    left
    rw [← h1] at he
    have hR := evR_sound hC hs.ok hs.glob hs.fr h4 he
    cases res with
    | val v s =>
      simp only at hK
      obtain ⟨n1, n2⟩ := hR
      exact n2 K Q fun ρ' F' w' g1 g2 v' hv => by
        rw [h1]; exact hK ρ' F' w' v' g1 g2 n1 hv
    | pan x s =>
      simp only at hK
      obtain ⟨n1, n2⟩ := hR
      exact n2 K Q fun ρ' F' w' g1 g2 xv hv => hK ρ' F' w' xv g1 g2 n1 hv
  · rename_i hw
    have := wants_sound hs.fr (fun t b hg => Nat.lt_of_lt_of_le (g_lt hm' hall t b hg) hs.size) h3 hw
    rw [if_neg (by rw [this]; simp)]
    cases he
    simp only at hK
    rw [h1]
    refine hK ρ F w undef (Goes.refl _ _ _ _ _) hs.ok trivial ?_
    simp only [undefV, RV, Rv]
    exact ⟨#[], rfl, by simp [Rt]⟩
theorem SR.next (hJ : Jok ops J) (hs : SR G J nt ρ F stk w fr a) {i : Nat} {o : Oper} (hi : ops[i]? = some o) {r : ROp} (hm : mOp P nt ops o r = true) {ρ' : Rho} {F' : Blks} {s : Stk} {w' : World} (g1 : Goes (topN stk + 1) ρ F stk w ρ' F' s w') (g2 : Ok ρ' F' s w') {v : V} {v' : Value} (hv : RV ρ' F' s w' v v') :
    SR G J nt ρ' F' s w' (fr.put r.dst v) (a.put r.dst v') where
  ok := g2
  glob := hs.glob.keep (g1.keep hs.ok)
  fr := (hs.fr.moves hs.ok g1).put hv fun d hd => by
    simp only [mOp, Bool.and_eq_true, beq_iff_eq] at hm
    obtain ⟨⟨⟨h1, h2⟩, h3⟩, h4⟩ := hm
    rw [h1, hd] at h2
    simp only [decide_eq_true_eq] at h2
    exact Nat.lt_of_lt_of_le h2 hs.size
  size := by rw [put_size]; exact hs.size
  j := (hJ.at hi hm).2 hs.j
theorem ops_sound (hJ : Jok ops J) (hC : CallOK P G call) (hall : AllLt ops nt) {m : Nat} : ∀ {os : List Oper} {rs : List ROp} {ρ : Rho} {F : Blks} {stk : Stk} {w : World} {fr : Fr} {a : Act} (i : Nat), mOps P nt ops os rs = true → (∀ j o, os[j]? = some o → ops[i + j]? = some o) →
    m ≤ topN stk + 1 → SR G J nt ρ F stk w fr a → ∀ {ex : Ex} {st' : St}, evOps (Sys.real T G call iter) rs ⟨fr, stk⟩ = some (ex, st') → CR G J nt m ρ F stk w Q ex st' → wpOps P ops Q (List.range' i os.length) a w
  | [], [], ρ, F, stk, w, fr, a, i, _, _, hmm, hs, ex, st', he, hQ => by
    simp only [evOps, Option.some.injEq, Prod.mk.injEq] at he
    obtain ⟨rfl, rfl⟩ := he
    exact hQ ρ F a w (Goes.refl _ _ _ _ _) rfl hs
  | [], _ :: _, ρ, F, stk, w, fr, a, i, hm, _, _, _, ex, st', _, _ => by simp [mOps] at hm
  | _ :: _, [], ρ, F, stk, w, fr, a, i, hm, _, _, _, ex, st', _, _ => by simp [mOps] at hm
  | o :: os, r :: rs, ρ, F, stk, w, fr, a, i, hm, hidx, hmm, hs, ex, st', he, hQ => by
    simp only [mOps, Bool.and_eq_true] at hm
    rw [evOps_cons] at he
    rw [List.length_cons, List.range'_succ, wpOps_cons]
    have hi : ops[i]? = some o := by simpa using hidx 0 o rfl
    cases hone : evOne (Sys.real T G call iter) r fr stk with
    | none => rw [hone] at he; cases he
    | some res =>
      rw [hone] at he
      refine one_sound hC hall hs hi hm.1 hone ?_
      cases res with
      | val v s =>
        simp only at he ⊢
        intro ρ' F' w' v' g1 g2 g3 g4
        have hn := hs.next hJ hi hm.1 g1 g2 g4
        refine ops_sound hJ hC hall (i + 1) hm.2 (fun j o' hj => ?_) (by rw [topN_nums g3]; exact hmm) hn he (hQ.trans (g1.weaken hmm) g3)
        have := hidx (j + 1) o' (by simpa using hj)
        rw [← this]; congr 1; omega
      | pan x s =>
        simp only [Option.some.injEq, Prod.mk.injEq] at he ⊢
        obtain ⟨rfl, rfl⟩ := he
        intro ρ' F' w' xv g1 g2 g3 g4
        exact hQ ρ' F' a w' (g1.weaken hmm) g3 g2 (hs.glob.keep (g1.keep hs.ok)) hs.j (fun t _ => hs.fr.moves hs.ok g1 t) xv g4
end
end Go.Abs
