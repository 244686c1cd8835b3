import Derived.Test.YtbfnelnbjcfliaaAbs20m
/-! A region whose order is drawn, one of whose operations gives up while others may not have been carried out yet. -/
set_option linter.unusedVariables false
set_option linter.unusedSimpArgs false
namespace Go.Abs
section
variable {P : Program} {T : FuncId → Option RF} {G : Nat → Option (List D)} {call : CallF} {iter : (St → Rs) → St → Rs} {ρ : Rho} {F : Blks} {stk : Stk} {w : World} {fr : Fr} {a : Act} {nt : Nat} {ops : Array Oper} {Q : Exit → Act → World → Prop} {J : Hold}
/-- The free ones but one, and those that hang on it, by their places. -/
def faP (free : List ROp) (k : Nat) (ds : List Nat) (i : Nat) : Option ROp :=
  if i = k then none else match free[i]? with
    | some r => if k < i ∧ r.tmps.any ds.contains = true then none else some r
    | none => none
def mPan (P : Program) (nt : Nat) (ops : Array Oper) (free : List ROp) (k : Nat) (tail : List ROp) : Bool :=
  match nthR free k with
  | some rp => (match rp.r with | .tasp .. => true | _ => false) && rp.g.isNone && mDrawP P nt ops free tail 0 && noLater (othersP free k) &&
    (match masks ops.toList [], dsP rp free k with
      | M, ds => seenOk M (faP free k ds) ops.size &&
        (rp.tmps.all fun t => (List.range ops.size).all fun j => match faP free k ds j with
          | none => true
          | some q => q.dst != some t || (M.getD k 0).testBit j) &&
        (List.range ops.size).all fun i => i == k || (faP free k ds i).isSome || (M.getD i 0).testBit k)
  | none => false
theorem nthR_eq : ∀ {l : List ROp} {n : Nat}, nthR l n = l[n]?
  | [], n => by simp [nthR]
  | o :: r, 0 => rfl
  | o :: r, n + 1 => by simp only [nthR, List.getElem?_cons_succ]; exact nthR_eq
theorem keepP_mem {ds : List Nat} : ∀ {l : List ROp} {r : ROp}, r ∈ keepP ds l ↔ r ∈ l ∧ r.tmps.any ds.contains = false
  | [], r => by simp [keepP]
  | o :: l, r => by
    simp only [keepP]
    cases h : o.tmps.any ds.contains with
    | true =>
      simp only [keepP_mem, List.mem_cons]
      constructor
      · exact fun ⟨h1, h2⟩ => ⟨.inr h1, h2⟩
      · rintro ⟨rfl | h1, h2⟩
        · rw [h] at h2; cases h2
        · exact ⟨h1, h2⟩
    | false =>
      simp only [List.mem_cons, keepP_mem]
      constructor
      · rintro (rfl | ⟨h1, h2⟩)
        · exact ⟨.inl rfl, h⟩
        · exact ⟨.inr h1, h2⟩
      · rintro ⟨rfl | h1, h2⟩
        · exact .inl rfl
        · exact .inr ⟨h1, h2⟩
theorem pan_any (hJ : Jok ops J) (hC : CallOK P G call) {fa : Nat → Option ROp} {iP : Nat} {oP : Oper} {rP : ROp} {ta tt : TypeId} {yy : Opd} (hE : edgesLt 0 ops.toList = true) (hS : seenOk (masks ops.toList []) fa ops.size = true)
    (hP : ops[iP]? = some oP) (hmP : mOp P nt ops oP rP = true) (hPg : rP.g = none) (hPr : rP.r = .tasp ta tt yy)
    (hseenP : ∀ t ∈ rP.tmps, ∀ (j : Nat) (q : ROp), j < ops.size → fa j = some q → q.dst = some t → ((masks ops.toList []).getD iP 0).testBit j = true)
    (hother : ∀ i, i < ops.size → fa i = none → i ≠ iP → ((masks ops.toList []).getD i 0).testBit iP = true) {fr' : Fr}
    (hfa : ∀ i r, fa i = some r → i < ops.size ∧ Good (Sys.real T G call iter) stk fr' r ∧ ∃ o, ops[i]? = some o ∧ mOp P nt ops o r = true) {x : D} {s : Stk}
    (hpan : evR (Sys.real T G call iter) rP.dst fr' stk rP.r = some (.pan x s)) (hok0 : Ok ρ F stk w) (hglob0 : Glob G F w) (hall : AllLt ops nt)
    (hQ : ∀ ρ' F' a' w', Goes (topN stk + 1) ρ F stk w ρ' F' stk w' → Ok ρ' F' stk w' → Glob G F' w' → J a' → (∀ t, J.S t → a'.tmps.getD t undef = a.tmps.getD t undef) → ∀ xv, Rv F' w' x xv → Q (.panic [{ v := xv, recovered := false }]) a' w') :
    ∀ (fuel : Nat) (listed : Array Bool) (a1 : Act) (w1 : World) (ρ1 : Rho) (F1 : Blks), listed.size = ops.size → cnt listed = fuel → Closed ops listed → ¬ on listed iP →
      Goes (topN stk + 1) ρ F stk w ρ1 F1 stk w1 → Ok ρ1 F1 stk w1 → nt ≤ a1.tmps.size → J a1 → (∀ t, J.S t → a1.tmps.getD t undef = a.tmps.getD t undef) →
      (∀ t, (∀ (j : Nat) (r : ROp), fa j = some r → r.dst = some t → on listed j) → RV ρ1 F1 stk w1 (fr'.get t) (a1.tmps.getD t undef)) → wpAny P .any ops Q fuel listed a1 w1 := by
  have hPs := (Array.getElem?_eq_some_iff.1 hP).1
  intro fuel
  induction fuel with
  | zero =>
    intro listed a1 w1 ρ1 F1 h1 h2 h3 h4 h5 h6 h7 h8 hs h9
    exact absurd (cnt_zero h2 (by omega)) h4
  | succ n ih =>
    intro listed a1 w1 ρ1 F1 h1 h2 h3 h4 h5 h6 h7 h8 hs h9
    have hne : Region.ready .any ops listed ≠ [] := by
      have hmin : ∃ j, (j < ops.size ∧ ¬ on listed j) ∧ ∀ k, k < j → on listed k := by
        have : ∀ n j, j ≤ n → (j < ops.size ∧ ¬ on listed j) → ∃ j, (j < ops.size ∧ ¬ on listed j) ∧ ∀ k, k < j → on listed k := by
          intro n
          induction n with
          | zero => intro j hj h; exact ⟨j, h, fun k hk => by omega⟩
          | succ n ihn =>
            intro j hj h
            by_cases hex : ∃ k, k < j ∧ ¬ on listed k
            · obtain ⟨k, hk1, hk2⟩ := hex
              exact ihn k (by omega) ⟨by omega, hk2⟩
            · exact ⟨j, h, fun k hk => Classical.byContradiction fun h' => hex ⟨k, hk, h'⟩⟩
        exact this iP iP (Nat.le_refl _) ⟨hPs, h4⟩
      obtain ⟨j, ⟨hj1, hj2⟩, hj3⟩ := hmin
      have ho : ops[j]? = some (ops[j]'hj1) := Array.getElem?_eq_getElem hj1
      intro hnil
      have : j ∈ Region.ready .any ops listed := ready_iff.2 ⟨(off_iff (by omega)).2 hj2, _, ho, fun x hx => hj3 x (by
        have := edgesLt_spec hE j _ (by simp) x hx
        omega)⟩
      rw [hnil] at this; cases this
    refine ⟨fun h => absurd h hne, fun i hi => ?_⟩
    obtain ⟨hi1, o, hi2, hi3⟩ := ready_iff.1 hi
    have hilt := (Array.getElem?_eq_some_iff.1 hi2).1
    have hioff := (off_iff (by omega)).1 hi1
    have hglob1 := hglob0.keep (h5.keep hok0)
    by_cases hip : i = iP
    · subst hip
      rw [hP] at hi2
      cases hi2
      have hseen : ∀ t ∈ rP.tmps, ∀ (j : Nat) (q : ROp), fa j = some q → q.dst = some t → on listed j := fun t ht j q hj hq =>
        anc_on hE h3 i oP hP hi3 j (hseenP t ht j q (hfa j q hj).1 hj hq)
      have hsr : SR G J nt ρ1 F1 stk w1 (tidyF fr' rP.tmps) a1 := ⟨h6, hglob1, fun t => by
        by_cases ht : t ∈ rP.tmps
        · rw [tidyF_get ht]; exact h9 t (hseen t ht)
        · rw [tidyF_not ht]; trivial, h7, h8⟩
      have hone : evOne (Sys.real T G call iter) rP (tidyF fr' rP.tmps) stk = some (.pan x s) ∧ s = stk := by
        unfold evOne
        rw [hPg]
        simp only [wants]
        rw [hPr] at hpan ⊢
        have e : yy.ev (Sys.real T G call iter) (tidyF fr' rP.tmps) = yy.ev (Sys.real T G call iter) fr' := ev_congr fun t ht => tidyF_get (by simp [ROp.tmps, R.tmps, hPr, ht])
        simp only [evR, e] at hpan ⊢
        refine ⟨hpan, ?_⟩
        repeat' (split at hpan <;> try (cases hpan; done))
        all_goals first | (cases hpan; rfl) | skip
      obtain ⟨hone, rfl⟩ := hone
      refine one_sound hC hall hsr hP hmP hone ?_
      intro ρ2 F2 w2 xv k1 k2 k3 k4
      exact hQ ρ2 F2 a1 w2 (h5.trans k1) k2 (hglob1.keep (k1.keep h6)) h8 hs xv k4
    · cases hif : fa i with
      | none => exact absurd (anc_on hE h3 i o hi2 hi3 iP (hother i hilt hif hip)) h4
      | some r =>
        obtain ⟨_, hgood, o', ho', hm⟩ := hfa i r hif
        rw [hi2] at ho'
        cases ho'
        have hseen : ∀ t ∈ r.tmps, ∀ (j : Nat) (q : ROp), fa j = some q → q.dst = some t → on listed j := fun t ht j q hj hq => by
          have := seenOk_spec hS hilt hif t ht j q (hfa j q hj).1 hj hq
          exact anc_on hE h3 i o hi2 hi3 j this
        have hsr : SR G J nt ρ1 F1 stk w1 (tidyF fr' r.tmps) a1 := ⟨h6, hglob1, fun t => by
          by_cases ht : t ∈ r.tmps
          · rw [tidyF_get ht]; exact h9 t (hseen t ht)
          · rw [tidyF_not ht]; trivial, h7, h8⟩
        have hw : wants (tidyF fr' r.tmps) r.g = wants fr' r.g := wants_congr fun t b hg => tidyF_get (by simp [ROp.tmps, hg])
        have hev : evF (Sys.real T G call iter) stk (tidyF fr' r.tmps) r.r = evF (Sys.real T G call iter) stk fr' r.r := evF_congr fun t ht => tidyF_get (by simp [ROp.tmps, ht])
        obtain ⟨v, hone, hvd⟩ : ∃ v, evOne (Sys.real T G call iter) r (tidyF fr' r.tmps) stk = some (.val v stk) ∧ ∀ d, r.dst = some d → fr'.get d = v := by
          rcases hgood with ⟨g1, v, g2, g3⟩ | ⟨g1, g2⟩
          · refine ⟨v, ?_, g3⟩
            unfold evOne
            rw [hw, g1]
            exact evF_evR (hev.trans g2)
          · refine ⟨undefV, ?_, g2⟩
            unfold evOne
            rw [hw, g1]
        refine one_sound hC hall hsr hi2 hm hone ?_
        intro ρ2 F2 w2 v' k1 k2 k3 k4
        have hm' := hm
        simp only [mOp, Bool.and_eq_true, beq_iff_eq] at hm'
        have hdlt : ∀ d, r.dst = some d → d < a1.tmps.size := fun d hd => by
          have h := hm'.1.1.2
          rw [hm'.1.1.1, hd] at h
          simp only [decide_eq_true_eq] at h
          exact Nat.lt_of_lt_of_le h h7
        refine ih (listed.setIfInBounds i true) (a1.put r.dst v') w2 ρ2 F2 (by simpa using h1) ?_ ?_ ?_ (h5.trans k1) k2 (by rw [put_size]; exact h7) ((hJ.at hi2 hm).2 h8) (fun t ht => ?_) ?_
        · have := cnt_off (by omega) hioff
          omega
        · intro k ok hk hon e hee
          rw [on_set] at hon ⊢
          rcases hon with hon | ⟨rfl, _⟩
          · exact .inl (h3 k ok hk hon e hee)
          · rw [hi2] at hk; cases hk
            exact .inl (hi3 e hee)
        · intro hon
          rw [on_set] at hon
          rcases hon with hon | ⟨h, _⟩
          · exact h4 hon
          · exact hip h.symm
        · rw [← hm'.1.1.1, hJ.get hi2 ht]; exact hs t ht
        · intro t ht
          by_cases hd : r.dst = some t
          · rw [hvd t hd, hd]
            have := hdlt t hd
            simp only [Act.put]
            simpa [Array.getD_eq_getD_getElem?, this] using k4
          · have hold : RV ρ1 F1 stk w1 (fr'.get t) (a1.tmps.getD t undef) := h9 t fun j q hj hq => by
              have := ht j q hj hq
              rw [on_set] at this
              rcases this with h | ⟨rfl, _⟩
              · exact h
              · rw [hif] at hj; cases hj; exact absurd hq hd
            have hnew := RV.moves (k1.moves h6) _ _ (RV.upto h6.falls _ _ hold) hold
            have e : (a1.put r.dst v').tmps.getD t undef = a1.tmps.getD t undef := by
              cases hdd : r.dst with
              | none => rfl
              | some d =>
                have hne : d ≠ t := fun e => hd (by rw [hdd, e])
                simp [Act.put, Array.getD_eq_getD_getElem?, Array.getElem?_setIfInBounds_ne hne]
            rw [e]; exact hnew
theorem faP_mem {free : List ROp} {k : Nat} {rp : ROp} (hk : nthR free k = some rp) {r : ROp} : r ∈ othersP free k ↔ ∃ i, faP free k (dsP rp free k) i = some r := by
  unfold othersP
  rw [hk]
  simp only [List.mem_append, keepP_mem]
  constructor
  · rintro (h | ⟨h, h2⟩)
    · obtain ⟨i, hi⟩ := List.getElem?_of_mem h
      rw [List.getElem?_take] at hi
      split at hi <;> try (cases hi; done)
      rename_i hlt
      refine ⟨i, ?_⟩
      unfold faP
      rw [if_neg (by omega), hi]
      simp only
      rw [if_neg (by omega)]
    · obtain ⟨i, hi⟩ := List.getElem?_of_mem h
      rw [List.getElem?_drop] at hi
      refine ⟨k + 1 + i, ?_⟩
      unfold faP
      rw [if_neg (by omega), hi]
      simp only
      rw [if_neg (by rw [h2]; simp)]
  · rintro ⟨i, hi⟩
    unfold faP at hi
    split at hi <;> try (cases hi; done)
    split at hi <;> try (cases hi; done)
    rename_i hne r' hr'
    split at hi <;> try (cases hi; done)
    rename_i hh
    cases hi
    by_cases hlt : i < k
    · exact .inl (List.mem_of_getElem? (i := i) (by rw [List.getElem?_take, if_pos hlt]; exact hr'))
    · refine .inr ⟨List.mem_of_getElem? (i := i - (k + 1)) (by rw [List.getElem?_drop, show k + 1 + (i - (k + 1)) = i by omega]; exact hr'), ?_⟩
      cases hb : r.tmps.any (dsP rp free k).contains with
      | false => rfl
      | true => exact absurd ⟨by omega, hb⟩ hh
theorem faP_free {free : List ROp} {k i : Nat} {ds : List Nat} {r : ROp} (h : faP free k ds i = some r) : free[i]? = some r := by
  unfold faP at h
  split at h <;> try (cases h; done)
  split at h <;> try (cases h; done)
  rename_i r' hr'
  split at h <;> try (cases h; done)
  cases h
  exact hr'
/-- One of the free ones gives up. -/
theorem dpan_sound (hJ : Jok ops J) (hC : CallOK P G call) (hmix : P.follows .mixedOrders = true) {id : Nat} {free tail : List ROp} {k : Nat} (hD : mPan P nt ops free k tail = true) {m : Nat} (hmm : m ≤ topN stk + 1) (hs : SR G J nt ρ F stk w fr a)
    {rp : ROp} {fr2 : Fr} {x : D} {s : Stk} (hk : nthR free k = some rp) (hf : evFree (Sys.real T G call iter) stk (othersP free k) fr = some fr2) (hr : evR (Sys.real T G call iter) rp.dst fr2 stk rp.r = some (.pan x s))
    (hQ : CR G J nt m ρ F stk w Q (.pan x) ⟨fr, stk⟩) : (Code.region id ops true).wp P Q a w := by
  unfold mPan at hD
  rw [hk] at hD
  simp only [Bool.and_eq_true] at hD
  obtain ⟨⟨⟨⟨h1, h2⟩, h3⟩, h4⟩, ⟨h5, h6⟩, h7⟩ := hD
  obtain ⟨ta, tt, yy, hrp⟩ : ∃ ta tt yy, rp.r = .tasp ta tt yy := by
    split at h1
    · exact ⟨_, _, _, by assumption⟩
    · cases h1
  have hD' := h3
  simp only [mDrawP, Bool.and_eq_true, decide_eq_true_eq, Nat.sub_zero] at hD'
  obtain ⟨⟨⟨⟨⟨⟨hp, hE⟩, hM1⟩, hM2⟩, hM3⟩, hNL⟩, ⟨hS, hT⟩, hNS⟩ := hD'
  obtain ⟨hA1, hA2⟩ := mOps_at hM1
  obtain ⟨hB1, hB2⟩ := mOps_at hM2
  obtain ⟨hC1, hC2⟩ := mOps_at hM3
  simp only [List.length_take, List.length_drop, Array.length_toList, List.take_length, List.drop_length, List.length_nil] at hA1 hB1 hC1
  have hfree : ∀ (i : Nat) (r : ROp), free[i]? = some r → ∃ o, ops[i]? = some o ∧ mOp P nt ops o r = true := by
    intro i r hir
    have hil := (List.getElem?_eq_some_iff.1 hir).1
    have his : i < ops.size := by omega
    obtain ⟨r', g1, g2⟩ := hA2 i (ops[i]'his) (by rw [List.getElem?_take, if_pos hil, Array.getElem?_toList]; exact Array.getElem?_eq_getElem his)
    rw [List.take_length, hir] at g1
    cases g1
    exact ⟨_, Array.getElem?_eq_getElem his, g2⟩
  have hall : AllLt ops nt := by
    intro i o ho d hd
    have his := (Array.getElem?_eq_some_iff.1 ho).1
    have key : ∀ {r : ROp}, mOp P nt ops o r = true → d < nt := by
      intro r hr
      simp only [mOp, Bool.and_eq_true] at hr
      have := hr.1.1.2
      rw [hd] at this
      simpa using this
    by_cases h : i < free.length
    · obtain ⟨o', ho', hm⟩ := hfree i _ (List.getElem?_eq_getElem h)
      rw [ho] at ho'; cases ho'
      exact key hm
    · obtain ⟨r, _, hr⟩ := hB2 (i - free.length) o (by rw [List.getElem?_take, if_pos (by omega), List.getElem?_drop, Array.getElem?_toList, show free.length + (i - free.length) = i by omega]; exact ho)
      exact key hr
  obtain ⟨oP, hoP, hmP⟩ := hfree k rp (by rw [← nthR_eq]; exact hk)
  obtain ⟨hP1, hP2⟩ := evFree_spec hf h4
  have hoff : ∀ j, ¬ on (Array.replicate ops.size false) j := fun j h => by
    unfold on at h
    simp [Array.getD_eq_getD_getElem?, Array.getElem?_replicate] at h
    split at h <;> simp at h
  have hkeep : Keep F F w { w with drawn := w.drawn + 1 } := ⟨fun _ h => h, fun _ _ => rfl⟩
  have hgo : Goes (topN stk + 1) ρ F stk w ρ F stk { w with drawn := w.drawn + 1 } :=
    { Goes.refl (topN stk + 1) ρ F stk w with os := rfl, tape := rfl, output := rfl, size := Nat.le_refl _, frame := fun _ _ _ => rfl }
  have hok' : Ok ρ F stk { w with drawn := w.drawn + 1 } := hs.ok.stays hkeep (fun _ _ => rfl) hs.ok.sep hs.ok.lt
  have hcnt0 : cnt (Array.replicate ops.size false) = ops.size := by
    have := cnt_eq (listed := Array.replicate ops.size false) (i := 0) (e := ops.size) (Nat.zero_le _) (by simp) (fun j hj => ⟨fun h => absurd h (hoff j), fun h => absurd ⟨Nat.zero_le _, by simpa using hj⟩ h⟩)
    simpa using this
  refine wp_region_any hmix ?_
  refine pan_any (T := T) (iter := iter) (fr' := fr2) (fa := faP free k (dsP rp free k)) (a := a) (w := w) (ρ := ρ) (F := F) hJ hC hE h5 hoP hmP (by simpa using h2) hrp (fun t ht j q hj hq hd => ?_) (fun i hi hn hne => ?_) (fun i r hir => ?_) hr hs.ok hs.glob hall (fun ρ' F' a' w' g1 g2 g3 g4 g5 xv g6 => ?_) _ _ a _ ρ F (by simp) hcnt0 (fun i o _ hon => absurd hon (hoff i)) (hoff k) hgo hok' hs.size hs.j (fun _ _ => rfl) (fun t ht => ?_)
  · have := List.all_eq_true.1 (List.all_eq_true.1 h6 t ht) j (List.mem_range.2 hj)
    rw [hq] at this
    simpa [hd] using this
  · have := List.all_eq_true.1 h7 i (List.mem_range.2 hi)
    rw [hn] at this
    simpa [hne] using this
  · have hf' := faP_free hir
    obtain ⟨o, ho, hm⟩ := hfree i r hf'
    exact ⟨(Array.getElem?_eq_some_iff.1 ho).1, hP2 r ((faP_mem hk).2 ⟨i, hir⟩), o, ho, hm⟩
  · refine hQ ρ' F' a' w' (g1.weaken hmm) rfl g2 g3 g4 (fun t ht => ?_) xv g6
    rw [g5 t ht]
    exact RV.moves (g1.moves hs.ok) _ _ (RV.upto hs.ok.falls _ _ (hs.fr t)) (hs.fr t)
  · rw [hP1 t fun r hr hd => ?_]
    · exact RV.moves (hgo.moves hs.ok) _ _ (RV.upto hs.ok.falls _ _ (hs.fr t)) (hs.fr t)
    · obtain ⟨j, hj⟩ := (faP_mem hk).1 hr
      exact hoff j (ht j r hj hd)
end
end Go.Abs
