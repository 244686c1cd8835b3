import Derived.Test.YtbfnelnbjcfliaaAbs19
/-! Regions whose order is drawn, carried out. -/
set_option linter.unusedVariables false
set_option linter.unusedSimpArgs false
namespace Go.Abs
section
variable {P : Program} {T : FuncId → Option RF} {G : Nat → Option (List D)} {call : CallF} {iter : (St → Rs) → St → Rs} {ρ : Rho} {F : Blks} {stk : Stk} {w : World} {fr : Fr} {a : Act} {nt : Nat} {ops : Array Oper} {Q : Exit → Act → World → Prop} {J : Hold}

theorem mOps_at : ∀ {os : List Oper} {rs : List ROp}, mOps P nt ops os rs = true → os.length = rs.length ∧ ∀ (i : Nat) (o : Oper), os[i]? = some o → ∃ r, rs[i]? = some r ∧ mOp P nt ops o r = true
  | [], [], _ => ⟨rfl, fun i o h => by simp at h⟩
  | [], _ :: _, h => by simp [mOps] at h
  | _ :: _, [], h => by simp [mOps] at h
  | o :: os, r :: rs, h => by
    simp only [mOps, Bool.and_eq_true] at h
    have ⟨h1, h2⟩ := mOps_at h.2
    refine ⟨by simp [h1], fun i o' ho => ?_⟩
    cases i with
    | zero => simp only [List.getElem?_cons_zero, Option.some.injEq] at ho; subst ho; exact ⟨r, rfl, h.1⟩
    | succ i => simpa using h2 i o' (by simpa using ho)
theorem allLt_of {rs : List ROp} (h : mOps P nt ops ops.toList rs = true) : AllLt ops nt := by
  intro i o ho d hd
  obtain ⟨r, _, hr⟩ := (mOps_at h).2 i o (by simpa using ho)
  simp only [mOp, Bool.and_eq_true] at hr
  have := hr.1.1.2
  rw [hd] at this
  simpa using this
theorem cnt_eq {listed : Array Bool} {i e : Nat} (hi : i ≤ e) (he : e ≤ listed.size) (h : ∀ j, j < listed.size → (on listed j ↔ ¬ (i ≤ j ∧ j < e))) : cnt listed = e - i := by
  have e1 : listed.toList = (List.replicate i true ++ List.replicate (e - i) false) ++ List.replicate (listed.size - e) true := by
    apply List.ext_getElem?
    intro k
    by_cases h1 : k < listed.size
    · have hk := h k h1
      unfold on at hk
      simp [h1] at hk
      rw [Array.getElem?_toList, Array.getElem?_eq_getElem h1]
      by_cases c1 : k < i
      · rw [List.getElem?_append_left (by simp; omega), List.getElem?_append_left (by simpa using c1), List.getElem?_replicate, if_pos c1]
        rw [hk.2 (by omega)]
      · by_cases c2 : k < e
        · rw [List.getElem?_append_left (by simp; omega), List.getElem?_append_right (by simp; omega), List.getElem?_replicate, if_pos (by simp; omega)]
          have : listed[k] = false := by
            cases hv : listed[k] with
            | false => rfl
            | true => have := hk.1 hv; omega
          rw [this]
        · rw [List.getElem?_append_right (by simp; omega), List.getElem?_replicate, if_pos (by simp; omega)]
          rw [hk.2 (by omega)]
    · rw [Array.getElem?_toList, Array.getElem?_eq_none (by omega), List.getElem?_eq_none (by simp; omega)]
  unfold cnt
  rw [e1, List.countP_append, List.countP_append]
  simp [List.countP_replicate]
theorem tailOk_spec {M : List Nat} {fa : Nat → Option ROp} : ∀ {n i : Nat}, tailOk M fa ops i n = true → ∀ k, i ≤ k → k < i + n → ∀ j, j < ops.size → (fa j = none → j < k → (M.getD k 0).testBit j = true) ∧ (fa j ≠ none → (M.getD k 0).testBit j = true ∨ preB ops j = true ∨ heldB M fa ops k ops.size j = true)
  | 0, i, _, k, h1, h2 => by omega
  | n + 1, i, h, k, h1, h2 => by
    simp only [tailOk, Bool.and_eq_true] at h
    intro j hj
    by_cases e : k = i
    · subst e
      have := List.all_eq_true.1 h.1 j (List.mem_range.2 hj)
      cases hf : fa j with
      | none =>
        simp only [hf, Bool.or_eq_true, decide_eq_true_eq] at this
        exact ⟨fun _ hjk => this.resolve_left (by omega), fun h => absurd rfl h⟩
      | some r =>
        simp only [hf, Bool.or_eq_true] at this
        exact ⟨fun h => (by cases h), fun _ => by rcases this with (h | h) | h; exact .inl h; exact .inr (.inl h); exact .inr (.inr h)⟩
    · exact tailOk_spec h.2 k (by omega) (by omega) j hj
theorem seenOk_spec {M : List Nat} {fa : Nat → Option ROp} {n : Nat} (h : seenOk M fa n = true) {k : Nat} (hk : k < n) {r : ROp} (hr : fa k = some r) : ∀ t ∈ r.tmps, ∀ (j : Nat) (q : ROp), j < n → fa j = some q → q.dst = some t → (M.getD k 0).testBit j = true := by
  intro t ht j q hj hq hd
  have h1 := List.all_eq_true.1 h k (List.mem_range.2 hk)
  simp only [hr] at h1
  have h2 := List.all_eq_true.1 h1 t ht
  have h3 := List.all_eq_true.1 h2 j (List.mem_range.2 hj)
  simp only [hq, Bool.or_eq_true, bne_iff_ne, ne_eq] at h3
  exact h3.resolve_left (fun h => h hd)

/-- The ordered rest. -/
theorem tail_any (hJ : Jok ops J) (hC : CallOK P G call) (hall : AllLt ops nt) (hE : edgesLt 0 ops.toList = true) {m0 e m : Nat} (hee : e ≤ ops.size) (hPost : ∀ (k : Nat) (o : Oper), e ≤ k → ops[k]? = some o → ∀ x ∈ edgesOf o, x < m0 ∨ e ≤ x) (hT : ∀ k, m0 ≤ k → k < e → ∀ j, j < k → m0 ≤ j → ((masks ops.toList []).getD k 0).testBit j = true) :
    ∀ {os : List Oper} {rs : List ROp} {ρ : Rho} {F : Blks} {stk : Stk} {w : World} {fr : Fr} {a : Act} {listed : Array Bool} (i : Nat), m0 ≤ i → mOps P nt ops os rs = true → (∀ j o, os[j]? = some o → ops[i + j]? = some o) → i + os.length = e →
    listed.size = ops.size → (∀ j, on listed j ↔ (j < i ∨ (e ≤ j ∧ j < ops.size))) →
    m ≤ topN stk + 1 → SR G J nt ρ F stk w fr a → ∀ {ex : Ex} {st' : St}, evOps (Sys.real T G call iter) rs ⟨fr, stk⟩ = some (ex, st') → CR G J nt m ρ F stk w Q ex st' → wpAny P .any ops Q os.length listed a w
  | [], [], ρ, F, stk, w, fr, a, listed, i, _, _, _, hsz, hl, hon, hmm, hs, ex, st', he, hQ => by
    simp only [evOps, Option.some.injEq, Prod.mk.injEq] at he
    obtain ⟨rfl, rfl⟩ := he
    refine wpAny_done ?_ (hQ ρ F a w (Goes.refl _ _ _ _ _) rfl hs) _
    rw [List.eq_nil_iff_forall_not_mem]
    intro j hj
    obtain ⟨h1, o, h2, _⟩ := ready_iff.1 hj
    have hlt := (Array.getElem?_eq_some_iff.1 h2).1
    exact (off_iff (by omega)).1 h1 ((hon j).2 (by simp at hsz; omega))
  | [], _ :: _, ρ, F, stk, w, fr, a, listed, i, _, hm, _, _, _, _, _, _, ex, st', _, _ => by simp [mOps] at hm
  | _ :: _, [], ρ, F, stk, w, fr, a, listed, i, _, hm, _, _, _, _, _, _, ex, st', _, _ => by simp [mOps] at hm
  | o :: os, r :: rs, ρ, F, stk, w, fr, a, listed, i, hmi, hm, hidx, hsz, hl, hon, hmm, hs, ex, st', he, hQ => by
    simp only [mOps, Bool.and_eq_true] at hm
    rw [evOps_cons] at he
    have hi : ops[i]? = some o := by simpa using hidx 0 o rfl
    have hlt : i < ops.size := (Array.getElem?_eq_some_iff.1 hi).1
    have hie : i < e := by simp at hsz; omega
    have hclosed : Closed ops listed := fun k o' hk hok x hx => by
      have hlt' := edgesLt_spec hE k o' (by simpa using hk) x hx
      rw [Nat.zero_add] at hlt'
      have hks := (Array.getElem?_eq_some_iff.1 hk).1
      rcases (hon k).1 hok with h | ⟨h, _⟩
      · exact (hon x).2 (.inl (by omega))
      · rcases hPost k o' h hk x hx with h' | h'
        · exact (hon x).2 (.inl (by omega))
        · exact (hon x).2 (.inr ⟨h', by omega⟩)
    have hrd : i ∈ Region.ready .any ops listed := by
      refine ready_iff.2 ⟨(off_iff (by omega)).2 fun h => ?_, o, hi, fun x hx => ?_⟩
      · have := (hon i).1 h; omega
      · have := edgesLt_spec hE i o (by simpa using hi) x hx
        exact (hon x).2 (.inl (by omega))
    rw [List.length_cons]
    refine ⟨fun h => (by rw [h] at hrd; cases hrd), fun j hj => ?_⟩
    obtain ⟨h1, oj, h2, h3⟩ := ready_iff.1 hj
    have hjlt := (Array.getElem?_eq_some_iff.1 h2).1
    have hji : j = i := by
      have hjn : ¬ (j < i ∨ (e ≤ j ∧ j < ops.size)) := fun h => (off_iff (by omega)).1 h1 ((hon j).2 h)
      by_cases ej : j = i
      · exact ej
      · have := anc_on hE hclosed j oj h2 h3 i (hT j (by omega) (by omega) i (by omega) hmi)
        have := (hon i).1 this; omega
    subst hji
    cases hone : evOne (Sys.real T G call iter) r fr stk with
    | none => rw [hone] at he; cases he
    | some res =>
      rw [hone] at he
      refine one_sound hC hall hs hi hm.1 hone ?_
      cases res with
      | val v s =>
        simp only at he ⊢
        intro ρ' F' w' v' g1 g2 g3 g4
        have hn := hs.next hJ hi hm.1 g1 g2 g4
        refine tail_any hJ hC hall hE hee hPost hT (j + 1) (by omega) hm.2 (fun k o' hk => ?_) (by simp at hsz; omega) (by simpa using hl) (fun k => ?_) (by rw [topN_nums g3]; exact hmm) hn he (hQ.trans (g1.weaken hmm) g3)
        · have := hidx (k + 1) o' (by simpa using hk)
          rw [← this]; congr 1; omega
        · rw [on_set, hon k]
          constructor
          · rintro (h | h) <;> omega
          · intro h
            by_cases ek : k = j
            · exact .inr ⟨ek, by omega⟩
            · exact .inl (by omega)
      | pan x s =>
        simp only [Option.some.injEq, Prod.mk.injEq] at he ⊢
        obtain ⟨rfl, rfl⟩ := he
        intro ρ' F' w' xv g1 g2 g3 g4
        exact hQ ρ' F' a w' (g1.weaken hmm) g3 g2 (hs.glob.keep (g1.keep hs.ok)) hs.j (fun t _ => hs.fr.moves hs.ok g1 t) xv g4

theorem evBin_plain {op : BinOp} {x y : V} {v : V} (h : evBin (Sys.real T G call iter) op x y = some v) : (∃ k n, v = .d (.int k n)) ∨ (∃ b, v = .d (.bool b)) ∨ ∃ s, v = .d (.str s) := by
  unfold evBin at h
  split at h
  · split at h <;> repeat (split at h <;> try (cases h; done))
    all_goals first
      | (cases h; exact .inl ⟨_, _, rfl⟩)
      | (cases h; exact .inr (.inl ⟨_, rfl⟩))
      | skip
  · split at h <;> try (cases h; done)
    all_goals repeat (split at h <;> try (cases h; done))
    all_goals first
      | (cases h; exact .inr (.inr ⟨_, rfl⟩))
      | (cases h; exact .inr (.inl ⟨_, rfl⟩))
      | skip
  · cases h
theorem plain_det {v : V} (h : (∃ k n, v = .d (.int k n)) ∨ (∃ b, v = .d (.bool b)) ∨ ∃ s, v = .d (.str s)) {ρ' : Rho} {F' : Blks} {stk' : Stk} {w' : World} {x y : Value} (h1 : RV ρ F stk w v x) (h2 : RV ρ' F' stk' w' v y) : y = x := by
  rcases h with ⟨k, n, rfl⟩ | ⟨b, rfl⟩ | ⟨s, rfl⟩ <;> simp only [RV, Rv] at h1 h2 <;> rw [h1, h2]
theorem bin_int_all {op : BinOp} {k k' : IntKind} (m n : Int) {v : V} (h : evBin (Sys.real T G call iter) op (.d (.int k m)) (.d (.int k' n)) = some v) (t : TypeId) :
    ∃ v', (∀ w', (binOp op t (.int k m) (.int k' n)).run P w' = .ok v' w') ∧ RV ρ F stk w v v' := by
  obtain ⟨v1, _, h2⟩ := bin_int (P := P) (w := w) (ρ := ρ) (F := F) (stk := stk) m n h t
  refine ⟨v1, fun w' => ?_, h2⟩
  obtain ⟨v2, h3, h4⟩ := bin_int (P := P) (w := w') (ρ := ρ) (F := F) (stk := stk) m n h t
  rw [h3, plain_det (evBin_plain h) h2 h4]
theorem bin_str_all {op : BinOp} (s t : Str) {v : V} (h : evBin (Sys.real T G call iter) op (.d (.str s)) (.d (.str t)) = some v) :
    ∃ v', (∀ w', (Op.stringOp op ⟨⟨s⟩⟩ ⟨⟨t⟩⟩).run P w' = .ok v' w') ∧ RV ρ F stk w v v' := by
  obtain ⟨v1, _, h2⟩ := bin_str (P := P) (w := w) (ρ := ρ) (F := F) (stk := stk) s t h
  refine ⟨v1, fun w' => ?_, h2⟩
  obtain ⟨v2, h3, h4⟩ := bin_str (P := P) (w := w') (ρ := ρ) (F := F) (stk := stk) s t h
  rw [h3, plain_det (evBin_plain h) h2 h4]
theorem bin_all (hG : Glob G F w) (hfr : RFr ρ F stk w fr a.tmps) {o : Oper} {op : BinOp} {y z : Opd} (hm : mR P o.op (.bin op y z) = true) {v : V}
    (he : evQ (Sys.real T G call iter) stk fr (.bin op y z) = some v) : ∃ v', (∀ w', (execOp a.eval o).run P w' = .ok (.value v') w') ∧ RV ρ F stk w v v' := by
  obtain ⟨dst, op', type, pos, after, guard⟩ := o
  cases op' <;> simp only [mR, Bool.false_eq_true] at hm
  rename_i op' t x1 x2 t2
  simp only [Bool.and_eq_true, decide_eq_true_eq] at hm
  obtain ⟨⟨rfl, h2⟩, h3⟩ := hm
  have hx := ev_sound (T := T) (call := call) (iter := iter) hG hfr h2
  have hy := ev_sound (T := T) (call := call) (iter := iter) hG hfr h3
  simp only [evQ] at he
  generalize y.ev (Sys.real T G call iter) fr = vy at he hx
  generalize z.ev (Sys.real T G call iter) fr = vz at he hy
  have hint : ∀ k m k' n, vy = .d (.int k m) → vz = .d (.int k' n) → ∃ v', (∀ w', (execOp a.eval ⟨dst, .binOp op' t x1 x2 t2, type, pos, after, guard⟩).run P w' = .ok (.value v') w') ∧ RV ρ F stk w v v' := by
    rintro k m k' n rfl rfl
    simp only [RV, Rv] at hx hy
    obtain ⟨v', h4, h5⟩ := bin_int_all (P := P) (w := w) (ρ := ρ) (F := F) (stk := stk) m n he t
    refine ⟨v', fun w' => ?_, h5⟩
    have hg : (eqGuard op' t x1 x2 (.int k m) (.int k' n)).run P w' = .ok () w' := by
      unfold eqGuard
      cases op' <;> rfl
    simp only [execOp, hx, hy, Sem.run_bind, hg, Result.andThen_ok, h4, Sem.run_pure]
  have hstr : ∀ s u, vy = .d (.str s) → vz = .d (.str u) → ∃ v', (∀ w', (execOp a.eval ⟨dst, .binOp op' t x1 x2 t2, type, pos, after, guard⟩).run P w' = .ok (.value v') w') ∧ RV ρ F stk w v v' := by
    rintro s u rfl rfl
    simp only [RV, Rv] at hx hy
    obtain ⟨v', h4, h5⟩ := bin_str_all (P := P) (w := w) (ρ := ρ) (F := F) (stk := stk) s u he
    refine ⟨v', fun w' => ?_, h5⟩
    have hg : (eqGuard op' t x1 x2 (.string ⟨⟨s⟩⟩) (.string ⟨⟨u⟩⟩)).run P w' = .ok () w' := by
      unfold eqGuard
      cases op' <;> rfl
    have hb : binOp op' t (.string ⟨⟨s⟩⟩) (.string ⟨⟨u⟩⟩) = Op.stringOp op' ⟨⟨s⟩⟩ ⟨⟨u⟩⟩ := by cases op' <;> rfl
    simp only [execOp, hx, hy, Sem.run_bind, hg, Result.andThen_ok, hb, h4, Sem.run_pure]
  unfold evBin at he
  split at he
  · exact hint _ _ _ _ rfl rfl
  · exact hstr _ _ rfl rfl
  · cases he

theorem extract_all (hG : Glob G F w) (hfr : RFr ρ F stk w fr a.tmps) {o : Oper} {y : Opd} {i : Nat} (hm : mR P o.op (.extract y i) = true) {v : V}
    (he : evQ (Sys.real T G call iter) stk fr (.extract y i) = some v) : ∃ v', (∀ w', (execOp a.eval o).run P w' = .ok (.value v') w') ∧ RV ρ F stk w v v' := by
  obtain ⟨dst, op, type, pos, after, guard⟩ := o
  cases op <;> simp only [mR, Bool.false_eq_true] at hm
  rename_i x i'
  simp only [Bool.and_eq_true, beq_iff_eq] at hm
  obtain ⟨rfl, h2⟩ := hm
  have hx := ev_sound (T := T) (call := call) (iter := iter) hG hfr h2
  simp only [evQ] at he
  split at he <;> try (cases he; done)
  · rename_i vs hvs
    split at he <;> try (cases he; done)
    rename_i u hu
    cases he
    rw [hvs] at hx
    simp only [RV, Rv] at hx
    obtain ⟨us, hus, ht⟩ := hx
    obtain ⟨v', h3, h4⟩ := Rt_at ht hu
    have h3' : us[i']? = some v' := by simpa using h3
    exact ⟨v', fun w' => by simp [execOp, hus, Instr.extract, h3'], by simpa [RV] using h4⟩
  · rename_i vs hvs
    rw [hvs] at hx
    simp only [RV] at hx
    obtain ⟨us, hus, ht⟩ := hx
    obtain ⟨v', h3, h4⟩ := RVt_at ht he
    have h3' : us[i']? = some v' := by simpa using h3
    exact ⟨v', fun w' => by simp [execOp, hus, Instr.extract, h3'], h4⟩

/-- The free part, in any order; those of K are done. -/
theorem free_core (hJ : Jok ops J) (hQp : ∀ c a w (i : Nat) (o : Oper) v, ops[i]? = some o → Q (.panic c) (a.put o.dst v) w → Q (.panic c) a w) (hC : CallOK P G call) {tail : List ROp} {fa : Nat → Option ROp} {K : Nat → Prop} {L e : Nat}
    (hE : edgesLt 0 ops.toList = true) (hNS : Region.noSelect ops = true) (hS : seenOk (masks ops.toList []) fa ops.size = true) (hLe : L + tail.length = e) (hes : e ≤ ops.size)
    (hM2 : mOps P nt ops ((ops.toList.drop L).take tail.length) tail = true)
    (hT' : ∀ k, L ≤ k → k < e → ∀ j, j < ops.size → (fa j = none → j < k → ((masks ops.toList []).getD k 0).testBit j = true) ∧ (fa j ≠ none → ((masks ops.toList []).getD k 0).testBit j = true ∨ preB ops j = true ∨ heldB (masks ops.toList []) fa ops k ops.size j = true))
    {m : Nat} {fr' : Fr} (hfaF : ∀ i r, fa i = some r → (i < L ∨ e ≤ i) ∧ i < ops.size ∧ Good (Sys.real T G call iter) stk fr' r)
    (hfree : ∀ i, i < ops.size → (i < L ∨ e ≤ i) → K i ∨ ∃ o r, ops[i]? = some o ∧ fa i = some r ∧ mOp P nt ops o r = true)
    (hnone : ∀ j, L ≤ j → j < e → fa j = none) (hmm : m ≤ topN stk + 1) {ex : Ex} {st' : St}
    (he : evOps (Sys.real T G call iter) tail ⟨fr', stk⟩ = some (ex, st')) (hok0 : Ok ρ F stk w) (hglob0 : Glob G F w) (hQ : CR G J nt m ρ F stk w Q ex st') (hall : AllLt ops nt) :
    ∀ (fuel : Nat) (listed : Array Bool) (a1 : Act) (w1 : World) (ρ1 : Rho) (F1 : Blks), listed.size = ops.size → cnt listed = fuel → Closed ops listed → (∀ j, L ≤ j → j < e → ¬ on listed j) → (∀ j, fa j ≠ none → preB ops j = true → on listed j) → (∀ j, K j → on listed j) →
      Goes (topN stk + 1) ρ F stk w ρ1 F1 stk w1 → Ok ρ1 F1 stk w1 → nt ≤ a1.tmps.size → J a1 →
      (∀ t, (∀ (j : Nat) (r : ROp), fa j = some r → r.dst = some t → on listed j) → RV ρ1 F1 stk w1 (fr'.get t) (a1.tmps.getD t undef)) → wpAny P .any ops Q fuel listed a1 w1 := by
  have hfree' : ∀ i, fa i ≠ none → ∃ o r, ops[i]? = some o ∧ fa i = some r ∧ (K i ∨ mOp P nt ops o r = true) := by
    intro i hi
    obtain ⟨r, hr⟩ := Option.ne_none_iff_exists'.1 hi
    obtain ⟨h1, h2, _⟩ := hfaF i r hr
    rcases hfree i h2 h1 with hk | ⟨o, r', ho, hr', hm'⟩
    · exact ⟨_, r, Array.getElem?_eq_getElem h2, hr, .inl hk⟩
    · exact ⟨o, r', ho, hr', .inr hm'⟩
  have done : ∀ (fuel : Nat) (listed : Array Bool) (a1 : Act) (w1 : World) (ρ1 : Rho) (F1 : Blks), listed.size = ops.size → cnt listed = fuel → Closed ops listed → (∀ j, L ≤ j → j < e → ¬ on listed j) → (∀ j, K j → on listed j) →
      Goes (topN stk + 1) ρ F stk w ρ1 F1 stk w1 → Ok ρ1 F1 stk w1 → nt ≤ a1.tmps.size → J a1 →
      (∀ t, (∀ (j : Nat) (r : ROp), fa j = some r → r.dst = some t → on listed j) → RV ρ1 F1 stk w1 (fr'.get t) (a1.tmps.getD t undef)) → (∀ j, fa j ≠ none → on listed j) → wpAny P .any ops Q fuel listed a1 w1 := by
    intro fuel listed a1 w1 ρ1 F1 h1 h2 h3 h4 hK h5 h6 h7 h8 h9 hA
    have honF : ∀ j, j < ops.size → (j < L ∨ e ≤ j) → on listed j := fun j hj hjF => by
      rcases hfree j hj hjF with hk | ⟨o, r, _, hr, _⟩
      · exact hK j hk
      · exact hA j (by rw [hr]; exact fun h => by cases h)
    have hon : ∀ j, on listed j ↔ (j < L ∨ (e ≤ j ∧ j < ops.size)) := fun j => ⟨fun h => by
        have hjs : j < ops.size := by
          refine Nat.lt_of_not_le fun h' => ?_
          unfold on at h
          rw [Array.getD_eq_getD_getElem?, Array.getElem?_eq_none (by omega)] at h
          simp at h
        rcases Nat.lt_or_ge j L with c | c
        · exact .inl c
        · rcases Nat.lt_or_ge j e with c2 | c2
          · exact absurd h (h4 j c c2)
          · exact .inr ⟨c2, hjs⟩, fun h => by
        rcases h with h | ⟨h, h'⟩
        · exact honF j (by omega) (.inl h)
        · exact honF j h' (.inr h)⟩
    have hc := cnt_eq (listed := listed) (i := L) (e := e) (by omega) (by omega) (fun j hj => by rw [hon j]; constructor <;> intro h <;> omega)
    have hlen : ((ops.toList.drop L).take tail.length).length = fuel := by simp; omega
    rw [← hlen]
    refine tail_any (m := m) hJ hC hall hE (m0 := L) (e := e) hes (fun k o hk ho x hx => ?_) (fun k h1 h2 j hj hmj => (hT' k h1 h2 j (by omega)).1 (hnone j hmj (by omega)) hj) (os := (ops.toList.drop L).take tail.length) (rs := tail) L (Nat.le_refl _) hM2 (fun j o ho => ?_) (by simp; omega) h1 hon hmm ⟨h6, hglob0.keep (h5.keep hok0), fun t => ?_, h7, h8⟩ he (hQ.trans (h5.weaken hmm) rfl)
    · have hks := (Array.getElem?_eq_some_iff.1 ho).1
      have := h3 k o ho (honF k hks (.inr hk)) x hx
      rcases (hon x).1 this with h | h
      · exact .inl h
      · exact .inr h.1
    · rw [List.getElem?_take] at ho
      split at ho
      · rw [List.getElem?_drop] at ho; simpa using ho
      · cases ho
    · exact h9 t fun j r hj _ => hA j (by rw [hj]; exact fun h => by cases h)
  intro fuel
  induction fuel with
  | zero =>
    intro listed a1 w1 ρ1 F1 h1 h2 h3 h4 hpre hK h5 h6 h7 h8 h9
    exact done 0 listed a1 w1 ρ1 F1 h1 h2 h3 h4 hK h5 h6 h7 h8 h9 fun j hj => by
      obtain ⟨r, hr⟩ := Option.ne_none_iff_exists'.1 hj
      exact cnt_zero h2 (by have := (hfaF j r hr).2.1; omega)
  | succ n ih =>
    intro listed a1 w1 ρ1 F1 h1 h2 h3 h4 hpre hK h5 h6 h7 h8 h9
    by_cases hA : ∀ j, fa j ≠ none → on listed j
    · exact done (n + 1) listed a1 w1 ρ1 F1 h1 h2 h3 h4 hK h5 h6 h7 h8 h9 hA
    · -- one of the free ones is ready
      have hne : Region.ready .any ops listed ≠ [] := by
        have hex : ∃ j, j < ops.size ∧ ¬ on listed j := by
          refine Classical.byContradiction fun h => hA fun j hj => Classical.byContradiction fun h' => h ⟨j, ?_, h'⟩
          obtain ⟨r, hr⟩ := Option.ne_none_iff_exists'.1 hj
          exact (hfaF j r hr).2.1
        obtain ⟨j0, hj0⟩ := hex
        have hmin : ∃ j, (j < ops.size ∧ ¬ on listed j) ∧ ∀ k, k < j → on listed k := by
          have : ∀ n j, j ≤ n → (j < ops.size ∧ ¬ on listed j) → ∃ j, (j < ops.size ∧ ¬ on listed j) ∧ ∀ k, k < j → on listed k := by
            intro n
            induction n with
            | zero => intro j hj h; exact ⟨j, h, fun k hk => by omega⟩
            | succ n ihn =>
              intro j hj h
              by_cases hex : ∃ k, k < j ∧ ¬ on listed k
              · obtain ⟨k, hk1, hk2⟩ := hex
                exact ihn k (by omega) ⟨by omega, hk2⟩
              · exact ⟨j, h, fun k hk => Classical.byContradiction fun h' => hex ⟨k, hk, h'⟩⟩
          exact this j0 j0 (Nat.le_refl _) hj0
        obtain ⟨j, ⟨hj1, hj2⟩, hj3⟩ := hmin
        have ho : ops[j]? = some (ops[j]'hj1) := Array.getElem?_eq_getElem hj1
        intro hnil
        have : j ∈ Region.ready .any ops listed := ready_iff.2 ⟨(off_iff (by omega)).2 hj2, _, ho, fun x hx => hj3 x (by
          have := edgesLt_spec hE j _ (by simp) x hx
          omega)⟩
        rw [hnil] at this; cases this
      have mid : ∀ (i : Nat), i ∈ Region.ready .any ops listed → ∀ (hif : fa i ≠ none), ∃ o r, ops[i]? = some o ∧ fa i = some r ∧ mOp P nt ops o r = true ∧ (∀ e ∈ edgesOf o, on listed e) ∧ SR G J nt ρ1 F1 stk w1 (tidyF fr' r.tmps) a1 ∧ wants (tidyF fr' r.tmps) r.g = wants fr' r.g ∧ evF (Sys.real T G call iter) stk (tidyF fr' r.tmps) r.r = evF (Sys.real T G call iter) stk fr' r.r ∧ Good (Sys.real T G call iter) stk fr' r := by
        intro i hi hif
        obtain ⟨hi1, o, hi2, hi3⟩ := ready_iff.1 hi
        obtain ⟨o', r, ho', hr, hm⟩ := hfree' i hif
        have hm := hm.resolve_left fun hk => (off_iff (by have := (Array.getElem?_eq_some_iff.1 hi2).1; omega)).1 hi1 (hK i hk)
        rw [hi2] at ho'
        cases ho'
        have hglob1 := hglob0.keep (h5.keep hok0)
        have hseen : ∀ t ∈ r.tmps, ∀ (j : Nat) (q : ROp), fa j = some q → q.dst = some t → on listed j := fun t ht j q hj hq => by
          have := seenOk_spec hS (hfaF i r hr).2.1 hr t ht j q (hfaF j q hj).2.1 hj hq
          exact anc_on hE h3 i o hi2 hi3 j this
        exact ⟨o, r, hi2, hr, hm, hi3, ⟨h6, hglob1, fun t => by
          by_cases ht : t ∈ r.tmps
          · rw [tidyF_get ht]; exact h9 t (hseen t ht)
          · rw [tidyF_not ht]; trivial, h7, h8⟩, wants_congr fun t b hg => tidyF_get (by simp [ROp.tmps, hg]), evF_congr fun t ht => tidyF_get (by simp [ROp.tmps, ht]), (hfaF i r hr).2.2⟩
      have put_in : ∀ (i : Nat) (r : ROp), fa i = some r → (∀ d, r.dst = some d → d < a1.tmps.size) → ∀ (v' : Value) (w2 : World) (ρ2 : Rho) (F2 : Blks), Goes (topN stk + 1) ρ1 F1 stk w1 ρ2 F2 stk w2 → (∀ d, r.dst = some d → RV ρ2 F2 stk w2 (fr'.get d) v') →
          ∀ t, (∀ (j : Nat) (r : ROp), fa j = some r → r.dst = some t → on (listed.setIfInBounds i true) j) → RV ρ2 F2 stk w2 (fr'.get t) ((a1.put r.dst v').tmps.getD t undef) := by
        intro i r hr hdlt v' w2 ρ2 F2 k1 k4 t ht
        by_cases hd : r.dst = some t
        · rw [hd]
          have := hdlt t hd
          simp only [Act.put]
          simpa [Array.getD_eq_getD_getElem?, this] using k4 t hd
        · have hold : RV ρ1 F1 stk w1 (fr'.get t) (a1.tmps.getD t undef) := h9 t fun j q hj hq => by
            have := ht j q hj hq
            rw [on_set] at this
            rcases this with h | ⟨rfl, _⟩
            · exact h
            · rw [hr] at hj; cases hj; exact absurd hq hd
          have hnew := RV.moves (k1.moves h6) _ _ (RV.upto h6.falls _ _ hold) hold
          have e : (a1.put r.dst v').tmps.getD t undef = a1.tmps.getD t undef := by
            cases hdd : r.dst with
            | none => rfl
            | some d =>
              have hne : d ≠ t := fun e => hd (by rw [hdd, e])
              simp [Act.put, Array.getD_eq_getD_getElem?, Array.getElem?_setIfInBounds_ne hne]
          rw [e]; exact hnew
      have closed_in : ∀ (i : Nat) (o : Oper), ops[i]? = some o → (∀ e ∈ edgesOf o, on listed e) → Closed ops (listed.setIfInBounds i true) := by
        intro i o hi2 hi3 k ok hk hon e hee
        rw [on_set] at hon ⊢
        rcases hon with hon | ⟨rfl, _⟩
        · exact .inl (h3 k ok hk hon e hee)
        · rw [hi2] at hk; cases hk
          exact .inl (hi3 e hee)
      have dlt_in : ∀ {o : Oper} {r : ROp}, mOp P nt ops o r = true → ∀ d, r.dst = some d → d < a1.tmps.size := fun hm d hd => by
        have hm' := hm
        simp only [mOp, Bool.and_eq_true, beq_iff_eq] at hm'
        have h := hm'.1.1.2
        rw [hm'.1.1.1, hd] at h
        simp only [decide_eq_true_eq] at h
        exact Nat.lt_of_lt_of_le h h7
      -- those that ask nothing of the memory go ahead
      by_cases hlate : ∃ i, fa i ≠ none ∧ lateB (masks ops.toList []) fa ops i = true ∧ i ∈ Region.ready .any ops listed
      · obtain ⟨i, hif, hlb, hi⟩ := hlate
        obtain ⟨o, r, hi2, hr, hm, hi3, hsr, hw, hev, hgood⟩ := mid i hi hif
        have hilt := (Array.getElem?_eq_some_iff.1 hi2).1
        have hioff := (off_iff (by omega)).1 (ready_iff.1 hi).1
        unfold lateB at hlb
        simp only [hi2, Bool.and_eq_true] at hlb
        obtain ⟨⟨l1, l2⟩, l3⟩ := hlb
        have hgd : o.guard = none := by simpa using l2
        have hm' := hm
        simp only [mOp, Bool.and_eq_true, beq_iff_eq] at hm'
        obtain ⟨⟨⟨q1, _⟩, q3⟩, q4⟩ := hm'
        rw [hgd] at q3
        have hg : r.g = none := by
          cases hg : r.g with
          | none => rfl
          | some p => rw [hg] at q3; simp [mG] at q3
        rcases hgood with ⟨_, v, g2, g3⟩ | ⟨g1, _⟩
        · rw [← hev] at g2
          have hy : ∃ v', (∀ w', (execOp a1.eval o).run P w' = .ok (.value v') w') ∧ RV ρ1 F1 stk w1 v v' := by
            rw [hr] at l1
            split at l1 <;> try (cases l1; done)
            rename_i hfr
            cases hfr
            split at l1 <;> try (cases l1; done)
            · rename_i x y hop hrr
              rw [hrr, hop] at q4
              rw [hrr] at g2
              simp only [mR] at q4
              simp only [evF, evQ, Option.some.injEq] at g2
              subst g2
              exact ⟨a1.eval x, fun w' => by simp [execOp, hop], ev_sound (T := T) (call := call) (iter := iter) hsr.glob hsr.fr q4⟩
            · rename_i x y hop hrr
              rw [hrr, hop] at q4
              rw [hrr] at g2
              simp only [mR] at q4
              simp only [evF, evQ, Option.some.injEq] at g2
              subst g2
              exact ⟨a1.eval x, fun w' => by simp [execOp, hop], ev_sound (T := T) (call := call) (iter := iter) hsr.glob hsr.fr q4⟩
            · rename_i hop hrr
              rw [hrr] at q4 g2
              exact bin_all (call := call) (iter := iter) hsr.glob hsr.fr q4 (by simpa only [evF] using g2)
            · rename_i hop hrr
              rw [hrr] at q4 g2
              exact extract_all (call := call) (iter := iter) hsr.glob hsr.fr q4 (by simpa only [evF] using g2)
          obtain ⟨v', y1, y2⟩ := hy
          have hap : ∀ j oj, ops[j]? = some oj → j ≠ i → listed.getD j true = false → (∀ e ∈ oj.after, Region.binds .any e = true → e.on ≠ i) → o.apart ops oj = true := by
            intro j oj hj hji hun hno
            have hjlt := (Array.getElem?_eq_some_iff.1 hj).1
            have h1 := List.all_eq_true.1 l3 j (List.mem_range.2 hjlt)
            simp only [hj, Bool.or_eq_true, beq_iff_eq, hji, false_or] at h1
            rcases h1 with h1 | h1 | h1
            · exact absurd (anc_on hE h3 i o hi2 hi3 j h1) ((off_iff (by omega)).1 hun)
            · obtain ⟨e, he, hb⟩ := Array.any_eq_true'.1 h1
              simp only [Bool.and_eq_true, beq_iff_eq] at hb
              exact absurd hb.2 (hno e he hb.1)
            · exact h1
          refine wpAny_first hi2 (Region.noSelect_spec hNS) (fun c a w h => hQp c a w _ _ _ hi2 h) n listed a1 w1 hap hi (.inl ⟨by simp [Region.wanted, hgd], y1⟩) ?_
          rw [q1]
          refine ih (listed.setIfInBounds i true) (a1.put r.dst v') w1 ρ1 F1 (by simpa using h1) ?_ (closed_in i o hi2 hi3) ?_ (fun j hj hjp => on_set.2 (.inl (hpre j hj hjp))) (fun j hj => on_set.2 (.inl (hK j hj))) h5 h6 (by rw [put_size]; exact h7) ((hJ.at hi2 hm).2 h8) ?_
          · have := cnt_off (by omega) hioff
            omega
          · intro j hj hj' hon
            rw [on_set] at hon
            rcases hon with hon | ⟨rfl, _⟩
            · exact h4 j hj hj' hon
            · exact hif (hnone j hj hj')
          · exact put_in i r hr (dlt_in hm) v' w1 ρ1 F1 (Goes.refl _ _ _ _ _) (fun d hd => by rw [g3 d hd]; exact y2)
        · rw [hg] at g1; simp [wants] at g1
      refine ⟨fun h => absurd h hne, fun i hi => ?_⟩
      obtain ⟨hi1, o, hi2, hi3⟩ := ready_iff.1 hi
      have hilt := (Array.getElem?_eq_some_iff.1 hi2).1
      have hioff := (off_iff (by omega)).1 hi1
      have hif : fa i ≠ none := by
        intro hfn
        have hiL : L ≤ i ∧ i < e := by
          refine Classical.byContradiction fun h => ?_
          rcases hfree i hilt (by omega) with hk | ⟨_, r, _, hr, _⟩
          · exact hioff (hK i hk)
          · rw [hfn] at hr; cases hr
        have held : ∀ n j, heldB (masks ops.toList []) fa ops i n j = true → on listed j := by
          intro n
          induction n with
          | zero => intro j h; cases h
          | succ n ihn =>
            intro j h
            refine Classical.byContradiction fun hjn => ?_
            simp only [heldB, Bool.and_eq_true] at h
            obtain ⟨hl, hed⟩ := h
            have hjf : fa j ≠ none := by
              intro hj
              unfold lateB at hl
              split at hl
              · rw [hj] at hl; simp at hl
              · cases hl
            obtain ⟨oj, rj, hoj, _, _⟩ := hfree' j hjf
            rw [hoj] at hed
            refine hlate ⟨j, hjf, hl, ready_iff.2 ⟨(off_iff (by have := (Array.getElem?_eq_some_iff.1 hoj).1; omega)).2 hjn, oj, hoj, fun x hx => ?_⟩⟩
            have hx' := List.all_eq_true.1 hed x hx
            rw [Bool.or_eq_true] at hx'
            rcases hx' with hb | hb
            · exact anc_on hE h3 i o hi2 hi3 x hb
            · exact ihn x hb
        refine hA fun j hj => ?_
        obtain ⟨r, hr⟩ := Option.ne_none_iff_exists'.1 hj
        rcases (hT' i hiL.1 hiL.2 j (hfaF j r hr).2.1).2 hj with hb | hb | hb
        · exact anc_on hE h3 i o hi2 hi3 j hb
        · exact hpre j hj hb
        · exact held _ j hb
      obtain ⟨o', r, ho', hr, hm⟩ := hfree' i hif
      have hm := hm.resolve_left fun hk => hioff (hK i hk)
      rw [hi2] at ho'
      cases ho'
      have hgood := (hfaF i r hr).2.2
      have hglob1 := hglob0.keep (h5.keep hok0)
      -- the frame of what is looked at
      have hseen : ∀ t ∈ r.tmps, ∀ (j : Nat) (q : ROp), fa j = some q → q.dst = some t → on listed j := fun t ht j q hj hq => by
        have := seenOk_spec hS (hfaF i r hr).2.1 hr t ht j q (hfaF j q hj).2.1 hj hq
        exact anc_on hE h3 i o hi2 hi3 j this
      have hsr : SR G J nt ρ1 F1 stk w1 (tidyF fr' r.tmps) a1 := ⟨h6, hglob1, fun t => by
        by_cases ht : t ∈ r.tmps
        · rw [tidyF_get ht]; exact h9 t (hseen t ht)
        · rw [tidyF_not ht]; trivial, h7, h8⟩
      have hgood' : Good (Sys.real T G call iter) stk (tidyF fr' r.tmps) r ∨ True := .inr trivial
      have hw : wants (tidyF fr' r.tmps) r.g = wants fr' r.g := wants_congr fun t b hg => tidyF_get (by simp [ROp.tmps, hg])
      have hev : evF (Sys.real T G call iter) stk (tidyF fr' r.tmps) r.r = evF (Sys.real T G call iter) stk fr' r.r := evF_congr fun t ht => tidyF_get (by simp [ROp.tmps, ht])
      obtain ⟨v, hone, hvd⟩ : ∃ v, evOne (Sys.real T G call iter) r (tidyF fr' r.tmps) stk = some (.val v stk) ∧ ∀ d, r.dst = some d → fr'.get d = v := by
        rcases hgood with ⟨g1, v, g2, g3⟩ | ⟨g1, g2⟩
        · refine ⟨v, ?_, g3⟩
          unfold evOne
          rw [hw, g1]
          exact evF_evR (hev.trans g2)
        · refine ⟨undefV, ?_, g2⟩
          unfold evOne
          rw [hw, g1]
      refine one_sound hC hall hsr hi2 hm hone ?_
      intro ρ2 F2 w2 v' k1 k2 k3 k4
      have hdlt : ∀ d, r.dst = some d → d < a1.tmps.size := fun d hd => by
        have hm' := hm
        simp only [mOp, Bool.and_eq_true, beq_iff_eq] at hm'
        have h := hm'.1.1.2
        rw [hm'.1.1.1, hd] at h
        simp only [decide_eq_true_eq] at h
        exact Nat.lt_of_lt_of_le h h7
      refine ih (listed.setIfInBounds i true) (a1.put r.dst v') w2 ρ2 F2 (by simpa using h1) ?_ ?_ ?_ (fun j hj hjp => on_set.2 (.inl (hpre j hj hjp))) (fun j hj => on_set.2 (.inl (hK j hj))) (h5.trans k1) k2 (by rw [put_size]; exact h7) ((hJ.at hi2 hm).2 h8) ?_
      · have := cnt_off (by omega) hioff
        omega
      · intro k ok hk hon e hee
        rw [on_set] at hon ⊢
        rcases hon with hon | ⟨rfl, _⟩
        · exact .inl (h3 k ok hk hon e hee)
        · rw [hi2] at hk; cases hk
          exact .inl (hi3 e hee)
      · intro j hj hj' hon
        rw [on_set] at hon
        rcases hon with hon | ⟨rfl, _⟩
        · exact h4 j hj hj' hon
        · exact hif (hnone j hj hj')
      · intro t ht
        by_cases hd : r.dst = some t
        · rw [hvd t hd, hd]
          have := hdlt t hd
          simp only [Act.put]
          simpa [Array.getD_eq_getD_getElem?, this] using k4
        · have hold : RV ρ1 F1 stk w1 (fr'.get t) (a1.tmps.getD t undef) := h9 t fun j q hj hq => by
            have := ht j q hj hq
            rw [on_set] at this
            rcases this with h | ⟨rfl, _⟩
            · exact h
            · rw [hr] at hj; cases hj; exact absurd hq hd
          have hnew := RV.moves (k1.moves h6) _ _ (RV.upto h6.falls _ _ hold) hold
          have e : (a1.put r.dst v').tmps.getD t undef = a1.tmps.getD t undef := by
            cases hdd : r.dst with
            | none => rfl
            | some d =>
              have hne : d ≠ t := fun e => hd (by rw [hdd, e])
              simp [Act.put, Array.getD_eq_getD_getElem?, Array.getElem?_setIfInBounds_ne hne]
          rw [e]; exact hnew

/-- The free part, in any order. -/
theorem free_any (hJ : Jok ops J) (hQp : ∀ c a w (i : Nat) (o : Oper) v, ops[i]? = some o → Q (.panic c) (a.put o.dst v) w → Q (.panic c) a w) (hC : CallOK P G call) {free tail : List ROp} {p : Nat} (hD : mDrawP P nt ops free tail p = true) {m : Nat} {fr' : Fr} (hN : evFree (Sys.real T G call iter) stk free fr = some fr') (hmm : m ≤ topN stk + 1) {ex : Ex} {st' : St}
    (he : evOps (Sys.real T G call iter) tail ⟨fr', stk⟩ = some (ex, st')) (hok0 : Ok ρ F stk w) (hglob0 : Glob G F w) (hQ : CR G J nt m ρ F stk w Q ex st') (hall : AllLt ops nt) :
    ∀ (fuel : Nat) (listed : Array Bool) (a1 : Act) (w1 : World) (ρ1 : Rho) (F1 : Blks), listed.size = ops.size → cnt listed = fuel → Closed ops listed → (∀ j, free.length - p ≤ j → j < free.length - p + tail.length → ¬ on listed j) → (∀ j, faOf free p tail.length j ≠ none → preB ops j = true → on listed j) →
      Goes (topN stk + 1) ρ F stk w ρ1 F1 stk w1 → Ok ρ1 F1 stk w1 → nt ≤ a1.tmps.size → J a1 →
      (∀ t, (∀ (j : Nat) (r : ROp), faOf free p tail.length j = some r → r.dst = some t → on listed j) → RV ρ1 F1 stk w1 (fr'.get t) (a1.tmps.getD t undef)) → wpAny P .any ops Q fuel listed a1 w1 := by
  simp only [mDrawP, Bool.and_eq_true, decide_eq_true_eq] at hD
  obtain ⟨⟨⟨⟨⟨⟨hp, hE⟩, hM1⟩, hM2⟩, hM3⟩, hNL⟩, ⟨hS, hT⟩, hNS⟩ := hD
  obtain ⟨hA1, hA2⟩ := mOps_at hM1
  obtain ⟨hB1, hB2⟩ := mOps_at hM2
  obtain ⟨hC1, hC2⟩ := mOps_at hM3
  simp only [List.length_take, List.length_drop, Array.length_toList] at hA1 hB1 hC1
  obtain ⟨L, hL⟩ : ∃ L, L = free.length - p := ⟨_, rfl⟩
  obtain ⟨e, he0⟩ : ∃ e, e = L + tail.length := ⟨_, rfl⟩
  obtain ⟨fa, hfa0⟩ : ∃ fa, fa = faOf free p tail.length := ⟨_, rfl⟩
  have hfaE : ∀ i, fa i = if i < L then free[i]? else if e ≤ i then free[i - tail.length]? else none := fun i => by rw [hfa0, he0, hL]; rfl
  rw [← hL] at hA1 hB1 hC1 hA2 hB2 hC2 hT hM2
  rw [← he0] at hC1 hC2
  rw [← hfa0] at hS hT ⊢
  rw [← hL, ← he0]
  have hfl : L ≤ ops.size := by omega
  have hes : e ≤ ops.size := by omega
  have hsz : ops.size = e + p := by omega
  have hT' : ∀ k, L ≤ k → k < e → ∀ j, j < ops.size → (fa j = none → j < k → ((masks ops.toList []).getD k 0).testBit j = true) ∧ (fa j ≠ none → ((masks ops.toList []).getD k 0).testBit j = true ∨ preB ops j = true ∨ heldB (masks ops.toList []) fa ops k ops.size j = true) := fun k h1 h2 => tailOk_spec hT k h1 (by omega)
  obtain ⟨hP1, hP2⟩ := evFree_spec hN hNL
  have hfaF : ∀ i r, fa i = some r → (i < L ∨ e ≤ i) ∧ i < ops.size ∧ r ∈ free := by
    intro i r hr
    rw [hfaE] at hr
    split at hr
    · exact ⟨.inl (by assumption), by omega, List.mem_of_getElem? hr⟩
    · split at hr
      · have := (List.getElem?_eq_some_iff.1 hr).1
        exact ⟨.inr (by assumption), by omega, List.mem_of_getElem? hr⟩
      · cases hr
  have hfree : ∀ i, i < ops.size → (i < L ∨ e ≤ i) → ∃ o r, ops[i]? = some o ∧ fa i = some r ∧ mOp P nt ops o r = true := by
    intro i his hi
    have ho : ops[i]? = some (ops[i]'his) := Array.getElem?_eq_getElem his
    rcases hi with hi | hi
    · obtain ⟨r, h1, h2⟩ := hA2 i _ (by rw [List.getElem?_take, if_pos hi, Array.getElem?_toList]; exact ho)
      rw [List.getElem?_take, if_pos hi] at h1
      exact ⟨_, r, ho, by rw [hfaE, if_pos hi]; exact h1, h2⟩
    · obtain ⟨r, h1, h2⟩ := hC2 (i - e) _ (by rw [List.getElem?_drop, Array.getElem?_toList, show e + (i - e) = i by omega]; exact ho)
      rw [List.getElem?_drop] at h1
      exact ⟨_, r, ho, by rw [hfaE, if_neg (by omega), if_pos hi, show i - tail.length = L + (i - e) by omega]; exact h1, h2⟩
  have hnone : ∀ j, L ≤ j → j < e → fa j = none := fun j h1 h2 => by rw [hfaE, if_neg (by omega), if_neg (by omega)]
  intro fuel listed a1 w1 ρ1 F1 h1 h2 h3 h4 hpre h5 h6 h7 h8 h9
  exact free_core (K := fun _ => False) hJ hQp hC hE hNS hS (by omega) hes hM2 hT' (fun i r hr => ⟨(hfaF i r hr).1, (hfaF i r hr).2.1, hP2 r (hfaF i r hr).2.2⟩) (fun i h1 h2 => .inr (hfree i h1 h2)) hnone hmm he hok0 hglob0 hQ hall fuel listed a1 w1 ρ1 F1 h1 h2 h3 h4 hpre (fun _ h => h.elim) h5 h6 h7 h8 h9
/-- Those that may be carried out ahead of all are. -/
theorem take_pre (hJ : Jok ops J) {Q : Exit → Act → World → Prop} (hsel : ∀ (j : Nat) (o : Oper) cs b, ops[j]? = some o → o.op ≠ .select cs b) (hQ : ∀ c a w (i : Nat) (o : Oper) v, ops[i]? = some o → Q (.panic c) (a.put o.dst v) w → Q (.panic c) a w) {fuel : Nat} {w : World} :
    ∀ (ps : List Nat) (listed : Array Bool) (a : Act), (∀ i ∈ ps, preB ops i = true ∧ ¬ on listed i) → ps.Nodup → listed.size = ops.size → (∀ (j : Nat) (o : Oper) (d : Nat), ops[j]? = some o → o.dst = some d → d < a.tmps.size) →
      (∀ (listed' : Array Bool) (a' : Act), (∀ j, on listed' j ↔ on listed j ∨ j ∈ ps) → cnt listed' + ps.length = cnt listed → listed'.size = ops.size → a'.tmps.size = a.tmps.size → (J a' ↔ J a) →
        (∀ t, (∀ i ∈ ps, ∀ o, ops[i]? = some o → o.dst ≠ some t) → a'.tmps.getD t undef = a.tmps.getD t undef) →
        (∀ i ∈ ps, ∀ o d x, ops[i]? = some o → o.dst = some d → o.op = .move x → a'.tmps.getD d undef = a.eval x) → wpAny P .any ops Q fuel listed' a' w) →
      wpAny P .any ops Q (fuel + ps.length) listed a w
  | [], listed, a, _, _, hsz, _, H => H listed a (fun j => by simp) rfl hsz rfl Iff.rfl (fun _ _ => rfl) (fun i hi => by cases hi)
  | i :: ps, listed, a, hps, hnd, hsz, hlt, H => by
    obtain ⟨hp, hoff⟩ := hps i (by simp)
    have hp' := hp
    unfold preB at hp
    cases hi : ops[i]? with
    | none => simp [hi] at hp
    | some o =>
      simp only [hi, Bool.and_eq_true] at hp
      obtain ⟨⟨⟨p1, p2⟩, p3⟩, p4⟩ := hp
      have hilt := (Array.getElem?_eq_some_iff.1 hi).1
      obtain ⟨x, hx⟩ : ∃ x, o.op = .move x := by
        cases hop : o.op <;> simp [hop] at p1
        exact ⟨_, rfl⟩
      have hed : edgesOf o = [] := by simpa using p2
      have hgd : o.guard = none := by simpa using p3
      have hnd' := List.nodup_cons.1 hnd
      have hap : ∀ j oj, ops[j]? = some oj → j ≠ i → listed.getD j true = false → (∀ e ∈ oj.after, Region.binds .any e = true → e.on ≠ i) → o.apart ops oj = true := by
        intro j oj hj hji hun hno
        have hjlt := (Array.getElem?_eq_some_iff.1 hj).1
        exact Region.free_spec hi p4 j oj hj hji (by simp [hjlt]) hno
      have hY : Yields P ops o (a.eval x) a := .inl ⟨by simp [Region.wanted, hgd], fun w => by simp [execOp, hx]⟩
      have hrd : i ∈ Region.ready .any ops listed := ready_iff.2 ⟨(off_iff (by omega)).2 hoff, o, hi, fun e he => by rw [hed] at he; cases he⟩
      rw [List.length_cons, ← Nat.add_assoc]
      refine wpAny_first hi hsel (fun c a w h => hQ c a w _ _ _ hi h) (fuel + ps.length) listed a w hap hrd hY ?_
      have hother : ∀ j ∈ ps, ∀ oj, ops[j]? = some oj → o.apart ops oj = true := by
        intro j hj oj hoj
        obtain ⟨q1, q2⟩ := hps j (List.mem_cons_of_mem _ hj)
        have hjlt := (Array.getElem?_eq_some_iff.1 hoj).1
        refine hap j oj hoj (fun e => hnd'.1 (e ▸ hj)) ((off_iff (by omega)).2 q2) ?_
        intro e he hb heq
        unfold preB at q1
        simp only [hoj, Bool.and_eq_true] at q1
        have hej : edgesOf oj = [] := by simpa using q1.1.1.2
        have : e.on ∈ edgesOf oj := mem_edges.2 ⟨e, he, hb, rfl⟩
        rw [hej] at this; cases this
      refine take_pre hJ hsel hQ ps (listed.setIfInBounds i true) (a.put o.dst (a.eval x)) ?_ hnd'.2 (by simpa using hsz) (fun j oj d h1 h2 => by rw [put_size]; exact hlt j oj d h1 h2) ?_
      · intro j hj
        obtain ⟨q1, q2⟩ := hps j (List.mem_cons_of_mem _ hj)
        refine ⟨q1, fun h => ?_⟩
        rcases on_set.1 h with h | ⟨h, _⟩
        · exact q2 h
        · exact hnd'.1 (h ▸ hj)
      · intro listed' a' k1 kc k2 k3 k4 k5 k6
        refine H listed' a' (fun j => ?_) (by have := cnt_off (listed := listed) (i := i) (by omega) hoff; rw [List.length_cons]; omega) k2 (by rw [k3, put_size]) (k4.trans ((hJ _ _ hi).1 _ _)) (fun t ht => ?_) (fun j hj oj d y h1 h2 h3 => ?_)
        · rw [k1 j, on_set]
          constructor
          · rintro ((h | ⟨h, _⟩) | h)
            · exact .inl h
            · exact .inr (by simp [h])
            · exact .inr (List.mem_cons_of_mem _ h)
          · rintro (h | h)
            · exact .inl (.inl h)
            · rcases List.mem_cons.1 h with rfl | h
              · exact .inl (.inr ⟨rfl, by omega⟩)
              · exact .inr h
        · rw [k5 t fun j hj oj hoj => ht j (List.mem_cons_of_mem _ hj) oj hoj]
          have hne := ht i (by simp) o hi
          cases hd : o.dst with
          | none => rfl
          | some d =>
            have hdt : d ≠ t := fun e => hne (by rw [hd, e])
            simp [Act.put, Array.getD_eq_getD_getElem?, Array.getElem?_setIfInBounds_ne hdt]
        · rcases List.mem_cons.1 hj with rfl | hj
          · rw [hi] at h1
            cases h1
            rw [hx] at h3
            cases h3
            rw [k5 d fun j' hj' oj' hoj' hd' => ?_]
            · rw [h2]
              have := hlt j o d hi h2
              simp [Act.put, Array.getD_eq_getD_getElem?, this]
            · exact (Oper.apart_spec (hother j' hj' oj' hoj')).2.1 d h2 hd'
          · rw [k6 j hj oj d y h1 h2 h3]
            refine Act.eval_put fun d' hd' hyd => ?_
            refine (Oper.apart_spec (hother j hj oj h1)).1 d' hd' ?_
            unfold Oper.looksAt
            rw [h3, hyd]
            simp [Op.operands]
/-- A region whose order is drawn. -/
theorem drawP_sound (hJ : Jok ops J) (hC : CallOK P G call) (hmix : P.follows .mixedOrders = true) {id : Nat} {free tail : List ROp} {p : Nat} (hD : mDrawP P nt ops free tail p = true) {m : Nat} (hmm : m ≤ topN stk + 1) (hs : SR G J nt ρ F stk w fr a) {fr' : Fr}
    (hN : evFree (Sys.real T G call iter) stk free fr = some fr') {ex : Ex} {st' : St}
    (he : evOps (Sys.real T G call iter) tail ⟨fr', stk⟩ = some (ex, st')) (hQ : CR G J nt m ρ F stk w Q ex st') : (Code.region id ops true).wp P Q a w := by
  -- of a panic only what is promised is kept: the temporaries do not matter to it
  let Q' : Exit → Act → World → Prop := fun e a' w' => match e with
    | .panic c => ∃ x ρ' F' xv, ex = .pan x ∧ Goes m ρ F stk w ρ' F' st'.stk w' ∧ nums st'.stk = nums stk ∧ Ok ρ' F' st'.stk w' ∧ Glob G F' w' ∧ J a' ∧ (∀ t, J.S t → RV ρ' F' st'.stk w' (st'.fr.get t) (a'.tmps.getD t undef)) ∧ Rv F' w' x xv ∧ c = [{ v := xv, recovered := false }]
    | e => Q e a' w'
  have hQ' : CR G J nt m ρ F stk w Q' ex st' := by
    intro ρ' F' a' w' g1 g2
    have hq := hQ ρ' F' a' w' g1 g2
    cases ex with
    | normal => exact hq
    | exit i => exact hq
    | ret => exact hq
    | pan x => exact fun h1 h2 h3 hst xv h4 => ⟨x, ρ', F', xv, rfl, g1, g2, h1, h2, h3, hst, h4, rfl⟩
  refine wp_mono (Q := Q') ?_ fun e a' w' h => ?_
  case refine_2 =>
    cases e with
    | panic c =>
      obtain ⟨x, ρ', F', xv, rfl, h1, h2, h3, h4, h5, hst, h6, rfl⟩ := h
      exact hQ ρ' F' a' w' h1 h2 h3 h4 h5 hst xv h6
    | normal => exact h
    | exit i => exact h
    | goto l => exact h
    | ret => exact h
    | outgrown => exact h
  refine wp_region_any hmix ?_
  have hD' := hD
  simp only [mDrawP, Bool.and_eq_true, decide_eq_true_eq] at hD'
  obtain ⟨⟨⟨⟨⟨⟨hp, hE⟩, hM1⟩, hM2⟩, hM3⟩, hNL⟩, ⟨hS, hT⟩, hNS⟩ := hD'
  obtain ⟨hA1, hA2⟩ := mOps_at hM1
  obtain ⟨hB1, hB2⟩ := mOps_at hM2
  obtain ⟨hC1, hC2⟩ := mOps_at hM3
  simp only [List.length_take, List.length_drop, Array.length_toList] at hA1 hB1 hC1
  have hfaF : ∀ i r, faOf free p tail.length i = some r → (i < free.length - p ∨ free.length - p + tail.length ≤ i) ∧ i < ops.size ∧ r ∈ free := by
    intro i r hr
    unfold faOf at hr
    split at hr
    · exact ⟨.inl (by assumption), by omega, List.mem_of_getElem? hr⟩
    · split at hr
      · have := (List.getElem?_eq_some_iff.1 hr).1
        exact ⟨.inr (by assumption), by omega, List.mem_of_getElem? hr⟩
      · cases hr
  have hfop : ∀ i r o, faOf free p tail.length i = some r → ops[i]? = some o → mOp P nt ops o r = true := by
    intro i r o hr ho
    unfold faOf at hr
    split at hr
    · rename_i hi
      obtain ⟨r', h1, h2⟩ := hA2 i _ (by rw [List.getElem?_take, if_pos hi, Array.getElem?_toList]; exact ho)
      rw [List.getElem?_take, if_pos hi, hr] at h1
      cases h1; exact h2
    · split at hr
      · rename_i h1 hi
        obtain ⟨r', h1, h2⟩ := hC2 (i - (free.length - p + tail.length)) _ (by rw [List.getElem?_drop, Array.getElem?_toList, show free.length - p + tail.length + (i - (free.length - p + tail.length)) = i by omega]; exact ho)
        rw [List.getElem?_drop, show free.length - p + (i - (free.length - p + tail.length)) = i - tail.length by omega, hr] at h1
        cases h1; exact h2
      · cases hr
  have hidx : ∀ q ∈ free, ∃ j, faOf free p tail.length j = some q := by
    intro q hq
    obtain ⟨j, hj⟩ := List.getElem?_of_mem hq
    by_cases c : j < free.length - p
    · exact ⟨j, by unfold faOf; rw [if_pos c]; exact hj⟩
    · exact ⟨j + tail.length, by unfold faOf; rw [if_neg (by omega), if_pos (by omega), Nat.add_sub_cancel]; exact hj⟩
  have hall : AllLt ops nt := by
    intro i o ho d hd
    have his := (Array.getElem?_eq_some_iff.1 ho).1
    have key : ∀ {r : ROp}, mOp P nt ops o r = true → d < nt := by
      intro r hr
      simp only [mOp, Bool.and_eq_true] at hr
      have := hr.1.1.2
      rw [hd] at this
      simpa using this
    by_cases h : i < free.length - p
    · obtain ⟨r, _, hr⟩ := hA2 i o (by rw [List.getElem?_take, if_pos h, Array.getElem?_toList]; exact ho)
      exact key hr
    · by_cases h2 : i < free.length - p + tail.length
      · obtain ⟨r, _, hr⟩ := hB2 (i - (free.length - p)) o (by rw [List.getElem?_take, if_pos (by omega), List.getElem?_drop, Array.getElem?_toList, show free.length - p + (i - (free.length - p)) = i by omega]; exact ho)
        exact key hr
      · obtain ⟨r, _, hr⟩ := hC2 (i - (free.length - p + tail.length)) o (by rw [List.getElem?_drop, Array.getElem?_toList, show free.length - p + tail.length + (i - (free.length - p + tail.length)) = i by omega]; exact ho)
        exact key hr
  have hoff : ∀ j, ¬ on (Array.replicate ops.size false) j := fun j h => by
    unfold on at h
    simp [Array.getD_eq_getD_getElem?, Array.getElem?_replicate] at h
    split at h <;> simp at h
  -- the draw itself
  have hkeep : Keep F F w { w with drawn := w.drawn + 1 } := ⟨fun _ h => h, fun _ _ => rfl⟩
  have hgo : Goes (topN stk + 1) ρ F stk w ρ F stk { w with drawn := w.drawn + 1 } :=
    { Goes.refl (topN stk + 1) ρ F stk w with os := rfl, tape := rfl, output := rfl, size := Nat.le_refl _, frame := fun _ _ _ => rfl }
  have hok' : Ok ρ F stk { w with drawn := w.drawn + 1 } := hs.ok.stays hkeep (fun _ _ => rfl) hs.ok.sep hs.ok.lt
  obtain ⟨hP1, hP2⟩ := evFree_spec hN hNL
  have hmem : ∀ j, j ∈ (List.range ops.size).filter (fun j => (faOf free p tail.length j).isSome && preB ops j) ↔ (faOf free p tail.length j ≠ none ∧ preB ops j = true) := fun j => by
    rw [List.mem_filter, List.mem_range, Bool.and_eq_true, Option.isSome_iff_ne_none]
    constructor
    · exact fun h => h.2
    · intro h
      obtain ⟨r, hr⟩ := Option.ne_none_iff_exists'.1 h.1
      exact ⟨(hfaF j r hr).2.1, h⟩
  have hlen : ((List.range ops.size).filter (fun j => (faOf free p tail.length j).isSome && preB ops j)).length ≤ ops.size := by
    have := List.length_filter_le (fun j => (faOf free p tail.length j).isSome && preB ops j) (List.range ops.size)
    rw [List.length_range] at this
    omega
  have hcnt0 : cnt (Array.replicate ops.size false) = ops.size := by
    have := cnt_eq (listed := Array.replicate ops.size false) (i := 0) (e := ops.size) (Nat.zero_le _) (by simp) (fun j hj => ⟨fun h => absurd h (hoff j), fun h => absurd ⟨Nat.zero_le _, by simpa using hj⟩ h⟩)
    simpa using this
  have hsel := Region.noSelect_spec hNS
  have main : wpAny P .any ops Q' ((ops.size - ((List.range ops.size).filter (fun j => (faOf free p tail.length j).isSome && preB ops j)).length) + ((List.range ops.size).filter (fun j => (faOf free p tail.length j).isSome && preB ops j)).length) (Array.replicate ops.size false) a { w with drawn := w.drawn + 1 } := ?_
  · rw [Nat.sub_add_cancel hlen] at main
    exact main
  have hQp : ∀ c (a' : Act) w' (i : Nat) (o : Oper) v, ops[i]? = some o → Q' (.panic c) (a'.put o.dst v) w' → Q' (.panic c) a' w' := fun c a' w' i o v hio h => ?_
  rotate_left
  · obtain ⟨x, ρ', F', xv, h1, h2, h3, h4, h5, h6, hst, h7⟩ := h
    exact ⟨x, ρ', F', xv, h1, h2, h3, h4, h5, ((hJ i o hio).1 _ _).1 h6, fun t ht => (by rw [← hJ.get hio ht]; exact hst t ht), h7⟩
  refine take_pre hJ hsel hQp _ _ a (fun i hi => ⟨((hmem i).1 hi).2, hoff i⟩) (List.nodup_range.filter _) (by simp) (fun j o d h1 h2 => Nat.lt_of_lt_of_le (hall j o h1 d h2) hs.size) ?_
  · intro listed' a' k1 kc k2 k3 k4 k5 k6
    refine free_any hJ hQp hC hD hN hmm he hs.ok hs.glob hQ' hall _ listed' a' _ ρ F k2 (by omega) ?_ ?_ ?_ hgo hok' (by rw [k3]; exact hs.size) (k4.2 hs.j) ?_
    · intro i o hi hon e hee
      rcases (k1 i).1 hon with h | h
      · exact absurd h (hoff i)
      · have hp := ((hmem i).1 h).2
        unfold preB at hp
        simp only [hi, Bool.and_eq_true] at hp
        have : edgesOf o = [] := by simpa using hp.1.1.2
        rw [this] at hee; cases hee
    · intro j hj hj' hon
      rcases (k1 j).1 hon with h | h
      · exact hoff j h
      · obtain ⟨r, hr⟩ := Option.ne_none_iff_exists'.1 ((hmem j).1 h).1
        have := (hfaF j r hr).1; omega
    · intro j hj hp
      exact (k1 j).2 (.inr ((hmem j).2 ⟨hj, hp⟩))
    · intro t ht
      by_cases hw : ∃ i ∈ (List.range ops.size).filter (fun j => (faOf free p tail.length j).isSome && preB ops j), ∃ o, ops[i]? = some o ∧ o.dst = some t
      · obtain ⟨i, hi, o, ho, hd⟩ := hw
        obtain ⟨hif, hp⟩ := (hmem i).1 hi
        obtain ⟨r, hr⟩ := Option.ne_none_iff_exists'.1 hif
        have hmr := hfop i r o hr ho
        unfold preB at hp
        simp only [ho, Bool.and_eq_true] at hp
        obtain ⟨⟨⟨p1, p2⟩, p3⟩, _⟩ := hp
        obtain ⟨x, hx⟩ : ∃ x, o.op = .move x := by
          cases hop : o.op <;> simp [hop] at p1
          exact ⟨_, rfl⟩
        have hed : edgesOf o = [] := by simpa using p2
        have hgd : o.guard = none := by simpa using p3
        simp only [mOp, Bool.and_eq_true, beq_iff_eq] at hmr
        obtain ⟨⟨⟨q1, _⟩, q3⟩, q4⟩ := hmr
        rw [hgd] at q3
        have hg : r.g = none := by
          cases hg : r.g with
          | none => rfl
          | some p => rw [hg] at q3; simp [mG] at q3
        rw [k6 i hi o t x ho hd hx]
        rcases hP2 r (hfaF i r hr).2.2 with ⟨_, v, g2, g3⟩ | ⟨g1, _⟩
        · rw [g3 t (by rw [← q1, hd])]
          rw [hx] at q4
          cases hrr : r.r <;> rw [hrr] at q4 g2 <;> simp only [mR, Bool.false_eq_true] at q4
          · rename_i y
            simp only [evF, evQ, Option.some.injEq] at g2
            subst g2
            have hyt : ∀ n ∈ y.tmp, fr'.get n = fr.get n := by
              intro n hn
              refine hP1 n fun q hq hqd => ?_
              obtain ⟨j, hj⟩ := hidx q hq
              have hb := seenOk_spec hS (hfaF i r hr).2.1 hr n (by simp [ROp.tmps, R.tmps, hrr, hn]) j q (hfaF j q hj).2.1 hj hqd
              have := anc_on (listed := Array.replicate ops.size false) hE (fun i o _ hon => absurd hon (hoff i)) i o ho (fun e he => by rw [hed] at he; cases he) j hb
              exact hoff j this
            rw [ev_congr hyt]
            have := ev_sound (T := T) (call := call) (iter := iter) hs.glob hs.fr q4
            exact RV.moves (hgo.moves hs.ok) _ _ (RV.upto hs.ok.falls _ _ this) this
          · simp [evF, evQ] at g2
          · simp [evF, evQ] at g2
        · rw [hg] at g1; simp [wants] at g1
      · rw [k5 t fun i hi o ho hd => hw ⟨i, hi, o, ho, hd⟩, hP1 t fun r hr hd => ?_]
        · exact (hs.fr.moves hs.ok hgo) t
        · obtain ⟨j, hj⟩ := hidx r hr
          rcases (k1 j).1 (ht j r hj hd) with h | h
          · exact hoff j h
          · have hjs := (hfaF j r hj).2.1
            have ho : ops[j]? = some (ops[j]'hjs) := Array.getElem?_eq_getElem hjs
            have hmr := hfop j r _ hj ho
            simp only [mOp, Bool.and_eq_true, beq_iff_eq] at hmr
            exact hw ⟨j, h, _, ho, by rw [hmr.1.1.1, hd]⟩
end
end Go.Abs
