import Derived.Test.YtbfnelnbjcfliaaAbs10
/-! The operations that make objects or write them: what of it is alike. -/
set_option linter.unusedVariables false
set_option linter.unusedSimpArgs false
namespace Go.Abs
section
variable {P : Program} {T : FuncId → Option RF} {G : Nat → Option (List D)} {call : CallF} {iter : (St → Rs) → St → Rs} {ρ : Rho} {F : Blks} {stk : Stk} {w : World} {fr : Fr} {a : Act}

def nums (stk : Stk) : List Nat := stk.map (·.n)
theorem topN_nums {s t : Stk} (h : nums s = nums t) : topN s = topN t := by
  cases s <;> cases t <;> simp [nums] at h <;> simp [topN, h]
theorem falls_nums : ∀ {s t : Stk}, nums s = nums t → Falls s → Falls t
  | [], [], _, _ => trivial
  | [], _ :: _, h, _ => by simp [nums] at h
  | _ :: _, [], h, _ => by simp [nums] at h
  | c :: s, d :: t, h, hf => by
    simp only [nums, List.map_cons, List.cons.injEq] at h
    refine ⟨fun c' hc' => ?_, falls_nums h.2 hf.2⟩
    have : c'.n ∈ t.map (·.n) := List.mem_map.2 ⟨c', hc', rfl⟩
    rw [← h.2] at this
    obtain ⟨c0, h0, h1⟩ := List.mem_map.1 this
    rw [← h1, ← h.1]
    exact hf.1 c0 h0
theorem getK_put_same {k : List Nat} (o : O) : ∀ {l : List (List Nat × O)} {x : O}, getK k l = some x → getK k (putK k o l) = some o
  | [], x, hx => by simp [getK] at hx
  | (k', o') :: r, x, hx => by
    simp only [putK]
    simp only [getK] at hx
    split
    · simp [getK]
    · rename_i h
      rw [if_neg h] at hx
      simp only [getK, if_neg h]; exact getK_put_same o hx
theorem putK_over (k : List Nat) (a b : O) : ∀ l : List (List Nat × O), putK k b (putK k a l) = putK k b l
  | [] => rfl
  | (k', o') :: r => by
    simp only [putK]
    by_cases h : k = k'
    · rw [if_pos h, if_pos h]; simp only [putK, if_true]
    · rw [if_neg h, if_neg h]; simp only [putK, if_neg h]; rw [putK_over k a b r]
theorem putK_swap {k k' : List Nat} (h : k ≠ k') (a b : O) : ∀ l : List (List Nat × O), putK k b (putK k' a l) = putK k' a (putK k b l)
  | [] => rfl
  | (q, o) :: r => by
    simp only [putK]
    by_cases h1 : k' = q
    · subst h1
      rw [if_pos rfl, if_neg h]
      simp only [putK, if_neg h, if_true]
    · rw [if_neg h1]
      by_cases h2 : k = q
      · subst h2
        rw [if_pos rfl]
        simp only [putK, if_true, if_neg h1]
      · rw [if_neg h2]
        simp only [putK, if_neg h1, if_neg h2]
        rw [putK_swap h a b r]
theorem putK_self {k : List Nat} {o : O} : ∀ {l : List (List Nat × O)}, getK k l = some o → putK k o l = l
  | [], h => by simp [getK] at h
  | (q, o') :: r, h => by
    simp only [getK] at h
    simp only [putK]
    by_cases e : k = q
    · rw [if_pos e] at h ⊢; cases h; rw [e]
    · rw [if_neg e] at h ⊢; rw [putK_self h]
theorem getK_put_ne {k k' : List Nat} (o : O) (h : k' ≠ k) : ∀ {l : List (List Nat × O)}, getK k' (putK k o l) = getK k' l
  | [] => by simp [putK, getK, h]
  | (k0, o') :: r => by
    simp only [putK]
    split
    · rename_i h0; subst h0; simp [getK, h]
    · simp only [getK]; split
      · rfl
      · exact getK_put_ne o h
theorem getK_append {k : List Nat} {m : List (List Nat × O)} : ∀ {l : List (List Nat × O)}, getK k (l ++ m) = match getK k l with | some o => some o | none => getK k m
  | [] => by simp [getK]
  | (k', o') :: r => by
    simp only [List.cons_append, getK]
    split
    · rfl
    · exact getK_append
theorem getO_set_same : ∀ {s : Stk} {l : Lab} {o o' : O}, getO s l = some o → getO (setO s l o') l = some o'
  | [], l, o, o', h => by simp [getO] at h
  | c :: s, l, o, o', h => by
    simp only [getO] at h
    simp only [setO]
    split
    · rename_i e
      rw [if_pos e] at h
      simp only [getO, if_pos e]; exact getK_put_same _ h
    · rename_i e
      rw [if_neg e] at h
      simp only [getO, if_neg e]; exact getO_set_same h
theorem setO_over : ∀ (s : Stk) (l : Lab) (a b : O), setO (setO s l a) l b = setO s l b
  | [], _, _, _ => rfl
  | c :: s, l, a, b => by
    simp only [setO]
    by_cases h : l.lv = c.n
    · rw [if_pos h, if_pos h]; simp only [setO, if_pos h, putK_over]
    · rw [if_neg h, if_neg h]; simp only [setO, if_neg h, setO_over s l a b]
theorem Lab.ext' {l l' : Lab} (h : l.lv = l'.lv) (h2 : l.key = l'.key) : l = l' := by cases l; cases l'; cases h; cases h2; rfl
theorem setO_swap {l l' : Lab} (h : l ≠ l') : ∀ (s : Stk) (a b : O), setO (setO s l' a) l b = setO (setO s l b) l' a
  | [], _, _ => rfl
  | c :: s, a, b => by
    simp only [setO]
    by_cases h1 : l'.lv = c.n
    · by_cases h2 : l.lv = c.n
      · rw [if_pos h1, if_pos h2]
        simp only [setO, if_pos h1, if_pos h2]
        rw [putK_swap (fun e => h (Lab.ext' (h2.trans h1.symm) e))]
      · rw [if_pos h1, if_neg h2]; simp only [setO, if_pos h1, if_neg h2]
    · by_cases h2 : l.lv = c.n
      · rw [if_neg h1, if_pos h2]; simp only [setO, if_neg h1, if_pos h2]
      · rw [if_neg h1, if_neg h2]; simp only [setO, if_neg h1, if_neg h2]; rw [setO_swap h s a b]
theorem setO_self : ∀ {s : Stk} {l : Lab} {o : O}, getO s l = some o → setO s l o = s
  | [], _, _, h => by simp [getO] at h
  | c :: s, l, o, h => by
    simp only [getO] at h
    simp only [setO]
    by_cases e : l.lv = c.n
    · rw [if_pos e] at h ⊢; rw [putK_self h]
    · rw [if_neg e] at h ⊢; rw [setO_self h]
theorem getO_set_ne : ∀ {s : Stk} {l l' : Lab} {o' : O}, l' ≠ l → getO (setO s l o') l' = getO s l'
  | [], l, l', o', h => by simp [setO]
  | c :: s, l, l', o', h => by
    simp only [setO]
    split
    · rename_i e
      simp only [getO]
      split
      · rename_i e'
        refine getK_put_ne o' fun hk => h ?_
        cases l; cases l'
        simp only [Lab.mk.injEq]
        simp only at e e' hk
        exact ⟨e'.trans e.symm, hk⟩
      · rfl
    · simp only [getO]
      split
      · rfl
      · exact getO_set_ne h
theorem nums_set : ∀ {s : Stk} {l : Lab} {o' : O}, nums (setO s l o') = nums s
  | [], l, o' => rfl
  | c :: s, l, o' => by
    simp only [setO]
    split
    · simp [nums]
    · simp only [nums, List.map_cons, List.cons.injEq, true_and]; exact nums_set
theorem O.real_eq {ρ ρ' : Rho} {l : Lab} {o : O} (h : ρ' l = ρ l) : o.real ρ' l ↔ o.real ρ l := by unfold O.real; rw [h]
theorem has_set_ne {ρ ρ' : Rho} {s : Stk} {l l' : Lab} {o' : O} (e : l' ≠ l) (hρ : ρ' l' = ρ l') : has ρ' (setO s l o') l' ↔ has ρ s l' := by
  simp only [has, getO_set_ne e, O.real_eq hρ]
theorem has_set_same {ρ' : Rho} {s : Stk} {l : Lab} {o o' : O} (h : getO s l = some o) : has ρ' (setO s l o') l ↔ o'.real ρ' l := by
  simp only [has, getO_set_same h]
  constructor
  · rintro ⟨x, e, hx⟩; cases e; exact hx
  · intro hx; exact ⟨_, rfl, hx⟩

/-- An object is written: the world changes at its block, and nowhere else. -/
theorem set_sound (hok : Ok ρ F stk w) {l : Lab} {o o' : O} (hg : getO stk l = some o) {w' : World} {ρ' : Rho}
    (h1 : w'.os = w.os) (h2 : w'.tape = w.tape) (h3 : w'.output = w.output) (h4 : w.heap.size ≤ w'.heap.size)
    (h5 : ∀ b, b < w.heap.size → (o.real ρ l → b ≠ (ρ l).blk) → w'.heap[b]? = w.heap[b]?) (hρ : ∀ l', l' ≠ l → ρ' l' = ρ l')
    (hblk : o'.real ρ' l → ((ρ' l).blk = (ρ l).blk ∧ o.real ρ l) ∨ w.heap.size ≤ (ρ' l).blk)
    (ht : Turned ρ ρ' l o o') (hs : ∀ v ∈ o'.vals, V.upto l.lv v = true)
    (hr : (∀ m, Moves m ρ F stk w ρ' F (setO stk l o') w') → RO ρ' F (setO stk l o') w' l o') :
    (∀ m, Goes m ρ F stk w ρ' F (setO stk l o') w') ∧ Ok ρ' F (setO stk l o') w' := by
  have hgo : ∀ m, Goes m ρ F stk w ρ' F (setO stk l o') w' := fun m =>
    { os := h1, tape := h2, output := h3, size := h4
      frame := fun b hb hn => h5 b hb fun hr e => hn l (has_of hg hr) e.symm
      sub := fun b hb => hb
      new := fun b hb => .inl hb
      own := fun l' hl' => by
        by_cases e : l' = l
        · subst e
          rcases hblk ((has_set_same hg).1 hl') with h | h
          · exact .inr ⟨l', has_of hg h.2, h.1.symm⟩
          · exact .inl h
        · rw [hρ l' e]; exact .inr ⟨l', (has_set_ne e (hρ l' e)).1 hl', rfl⟩
      evol := fun l' o1 _ h => by
        by_cases e : l' = l
        · subst e
          rw [hg] at h; cases h
          exact ⟨o', getO_set_same hg, ht⟩
        · refine ⟨o1, by rw [getO_set_ne e]; exact h, ?_⟩
          have := Turned.refl ρ l' o1
          cases o1 <;> simp [Turned, hρ l' e] }
  have hmv : ∀ m, Moves m ρ F stk w ρ' F (setO stk l o') w' := fun m => (hgo m).moves hok
  refine ⟨hgo, ?_⟩
  refine { objs := ?_, inj := ?_, sep := ?_, lt := ?_, falls := falls_nums nums_set.symm hok.falls, scope := ?_ }
  · intro l' o1 h
    by_cases e : l' = l
    · subst e
      rw [getO_set_same hg] at h; cases h
      exact hr hmv
    · rw [getO_set_ne e] at h
      refine RO.moves (hmv (topN stk + 1)) (fun v hv => ?_) (hρ l' e) (fun hr' => h5 _ (hok.blk_lt (has_of h hr')) fun hr hb => e (hok.inj l' l (has_of h hr') (has_of hg hr) hb)) (hok.objs l' _ h)
      exact (upto_mono (getO_lv hok.falls h)).1 v (hok.scope l' _ h v hv)
  · intro l1 l2 k1 k2 hb
    by_cases e1 : l1 = l <;> by_cases e2 : l2 = l
    · rw [e1, e2]
    · subst e1
      rw [hρ l2 e2] at hb
      have k2 := (has_set_ne e2 (hρ l2 e2)).1 k2
      rcases hblk ((has_set_same hg).1 k1) with h | h
      · exact hok.inj _ _ (has_of hg h.2) k2 (h.1 ▸ hb)
      · have := hok.blk_lt k2; omega
    · subst e2
      rw [hρ l1 e1] at hb
      have k1 := (has_set_ne e1 (hρ l1 e1)).1 k1
      rcases hblk ((has_set_same hg).1 k2) with h | h
      · exact hok.inj _ _ k1 (has_of hg h.2) (h.1 ▸ hb)
      · have := hok.blk_lt k1; omega
    · rw [hρ l1 e1, hρ l2 e2] at hb
      exact hok.inj _ _ ((has_set_ne e1 (hρ l1 e1)).1 k1) ((has_set_ne e2 (hρ l2 e2)).1 k2) hb
  · intro l' k hF
    by_cases e : l' = l
    · subst e
      rcases hblk ((has_set_same hg).1 k) with h | h
      · rw [h.1] at hF; exact hok.sep _ (has_of hg h.2) hF
      · have := hok.lt _ hF; omega
    · rw [hρ l' e] at hF; exact hok.sep l' ((has_set_ne e (hρ l' e)).1 k) hF
  · intro b hb; exact Nat.lt_of_lt_of_le (hok.lt b hb) h4
  · intro l' o1 h
    by_cases e : l' = l
    · subst e
      rw [getO_set_same hg] at h; cases h
      exact hs
    · rw [getO_set_ne e] at h; exact hok.scope l' o1 h

/-! ### New objects -/
def upd (ρ : Rho) (l : Lab) (c : Loc) : Rho := fun l' => if l' = l then c else ρ l'
theorem new_sound (hok : Ok ρ F stk w) {c : Level} {s : Stk} {t : Nat} {o : O} {cap : Nat} {w0 w' : World} {ob : Obj} (hst : stk = c :: s) (hk : getK [t] c.os = none)
    (h0 : w0.heap = w.heap) (h1 : w0.os = w.os) (h2 : w0.tape = w.tape) (h3 : w0.output = w.output)
    (hw1 : w'.os = w0.os) (hw2 : w'.tape = w0.tape) (hw3 : w'.output = w0.output) (hw4 : w'.heap.size = w.heap.size + 1) (hw5 : ∀ b, b < w.heap.size → w'.heap[b]? = w.heap[b]?)
    (hs : ∀ v ∈ o.vals, V.upto c.n v = true)
    (hr : (∀ m, Moves m ρ F stk w (upd ρ ⟨c.n, [t]⟩ ⟨w.heap.size, cap⟩) F (⟨c.n, c.os ++ [([t], o)]⟩ :: s) w') → RO (upd ρ ⟨c.n, [t]⟩ ⟨w.heap.size, cap⟩) F (⟨c.n, c.os ++ [([t], o)]⟩ :: s) w' ⟨c.n, [t]⟩ o) :
    (∀ m, Goes m ρ F stk w (upd ρ ⟨c.n, [t]⟩ ⟨w.heap.size, cap⟩) F (⟨c.n, c.os ++ [([t], o)]⟩ :: s) w') ∧ Ok (upd ρ ⟨c.n, [t]⟩ ⟨w.heap.size, cap⟩) F (⟨c.n, c.os ++ [([t], o)]⟩ :: s) w' ∧
      getO (⟨c.n, c.os ++ [([t], o)]⟩ :: s) ⟨c.n, [t]⟩ = some o := by
  subst hst
  have hnew : getO (⟨c.n, c.os ++ [([t], o)]⟩ :: s) ⟨c.n, [t]⟩ = some o := by
    simp [getO, getK_append, hk, getK]
  have hold0 : getO (c :: s) ⟨c.n, [t]⟩ = none := by simp [getO, hk]
  have hold : ∀ l, l ≠ ⟨c.n, [t]⟩ → getO (⟨c.n, c.os ++ [([t], o)]⟩ :: s) l = getO (c :: s) l := by
    intro l hl
    simp only [getO]
    split
    · rename_i e
      rw [getK_append]
      cases h : getK l.key c.os with
      | some _ => rfl
      | none =>
        simp only [getK]
        rw [if_neg]
        intro hkk
        apply hl
        cases l
        simp only [Lab.mk.injEq]
        exact ⟨e, hkk⟩
    · rfl
  have hρ : ∀ l, l ≠ ⟨c.n, [t]⟩ → upd ρ ⟨c.n, [t]⟩ ⟨w.heap.size, cap⟩ l = ρ l := fun l hl => by simp [upd, hl]
  have hρn : upd ρ ⟨c.n, [t]⟩ ⟨w.heap.size, cap⟩ ⟨c.n, [t]⟩ = ⟨w.heap.size, cap⟩ := by simp [upd]
  have hhas : ∀ l, l ≠ ⟨c.n, [t]⟩ → (has (upd ρ ⟨c.n, [t]⟩ ⟨w.heap.size, cap⟩) (⟨c.n, c.os ++ [([t], o)]⟩ :: s) l ↔ has ρ (c :: s) l) := fun l hl => by
    simp only [has, hold l hl, O.real_eq (hρ l hl)]
  have hne : ∀ l o1, getO (c :: s) l = some o1 → l ≠ ⟨c.n, [t]⟩ := fun l o1 h e => by rw [e, hold0] at h; cases h
  have hgo : ∀ m, Goes m ρ F (c :: s) w (upd ρ ⟨c.n, [t]⟩ ⟨w.heap.size, cap⟩) F (⟨c.n, c.os ++ [([t], o)]⟩ :: s) w' := fun m =>
    { os := hw1.trans h1, tape := hw2.trans h2, output := hw3.trans h3, size := by omega
      frame := fun b hb _ => hw5 b hb
      sub := fun b hb => hb
      new := fun b hb => .inl hb
      own := fun l hl => by
        by_cases e : l = ⟨c.n, [t]⟩
        · subst e; left; rw [hρn]; exact Nat.le_refl _
        · right; rw [hρ l e]
          exact ⟨l, (hhas l e).1 hl, rfl⟩
      evol := fun l o1 _ h => by
        have e := hne l o1 h
        refine ⟨o1, by rw [hold l e]; exact h, ?_⟩
        cases o1 <;> simp [Turned, hρ l e] }
  have hmv := fun m => (hgo m).moves hok
  refine ⟨hgo, ?_, hnew⟩
  refine { objs := ?_, inj := ?_, sep := ?_, lt := ?_, falls := falls_nums (by simp [nums]) hok.falls, scope := ?_ }
  · intro l o1 h
    by_cases e : l = ⟨c.n, [t]⟩
    · subst e; rw [hnew] at h; cases h; exact hr hmv
    · rw [hold l e] at h
      refine RO.moves (hmv (topN (c :: s) + 1)) (fun v hv => ?_) (hρ l e) (fun hr' => hw5 _ (hok.blk_lt (has_of h hr'))) (hok.objs l _ h)
      exact (upto_mono (getO_lv hok.falls h)).1 v (hok.scope l _ h v hv)
  · intro l1 l2 k1 k2 hb
    by_cases e1 : l1 = ⟨c.n, [t]⟩ <;> by_cases e2 : l2 = ⟨c.n, [t]⟩
    · rw [e1, e2]
    · subst e1
      rw [hρn, hρ l2 e2] at hb
      have k2' := (hhas l2 e2).1 k2
      have := hok.blk_lt k2'; simp at hb; omega
    · subst e2
      rw [hρn, hρ l1 e1] at hb
      have k1' := (hhas l1 e1).1 k1
      have := hok.blk_lt k1'; simp at hb; omega
    · rw [hρ l1 e1, hρ l2 e2] at hb
      exact hok.inj _ _ ((hhas l1 e1).1 k1) ((hhas l2 e2).1 k2) hb
  · intro l k hF
    by_cases e : l = ⟨c.n, [t]⟩
    · subst e; rw [hρn] at hF; have := hok.lt _ hF; simp at this
    · rw [hρ l e] at hF
      exact hok.sep l ((hhas l e).1 k) hF
  · intro b hb; have := hok.lt b hb; omega
  · intro l o1 h
    by_cases e : l = ⟨c.n, [t]⟩
    · subst e; rw [hnew] at h; cases h; exact hs
    · rw [hold l e] at h; exact hok.scope l o1 h

/-! ### What an operation gives -/
structure OR (P : Program) (ρ : Rho) (F : Blks) (stk : Stk) (w : World) (a : Act) (o : Oper) (stk' : Stk) (K' : Rho → Blks → World → (Act → World → Prop) → (Exit → Act → World → Prop) → Prop) : Prop where
  nums : nums stk' = nums stk
  wp : ∀ K Q, (∀ ρ' F' w', Goes (topN stk + 1) ρ F stk w ρ' F' stk' w' → Ok ρ' F' stk' w' → K' ρ' F' w' K Q) → o.wp P a w K Q
/-- It hands on a value. -/
def OV (P : Program) (ρ : Rho) (F : Blks) (stk : Stk) (w : World) (a : Act) (o : Oper) (v : V) (stk' : Stk) : Prop :=
  OR P ρ F stk w a o stk' fun ρ' F' w' K Q => ∀ v', RV ρ' F' stk' w' v v' → K (a.put o.dst v') w'
/-- It panics. -/
def OP (P : Program) (ρ : Rho) (F : Blks) (stk : Stk) (w : World) (a : Act) (o : Oper) (x : D) (stk' : Stk) : Prop :=
  OR P ρ F stk w a o stk' fun ρ' F' w' K Q => ∀ xv, Rv F' w' x xv → Q (.panic [{ v := xv, recovered := false }]) a w'
def ORes (P : Program) (ρ : Rho) (F : Blks) (stk : Stk) (w : World) (a : Act) (o : Oper) : Res → Prop
  | .val v s => OV P ρ F stk w a o v s
  | .pan x s => OP P ρ F stk w a o x s
end
end Go.Abs
