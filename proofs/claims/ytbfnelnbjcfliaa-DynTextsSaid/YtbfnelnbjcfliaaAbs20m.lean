import Derived.Test.YtbfnelnbjcfliaaAbs20
/-! Regions whose order is drawn, with one among the free operations that changes what there is. -/
set_option linter.unusedVariables false
set_option linter.unusedSimpArgs false
namespace Go.Abs
section
variable {P : Program} {T : FuncId → Option RF} {G : Nat → Option (List D)} {call : CallF} {iter : (St → Rs) → St → Rs} {ρ : Rho} {F : Blks} {stk : Stk} {w : World} {fr : Fr} {a : Act} {nt : Nat} {ops : Array Oper} {Q : Exit → Act → World → Prop} {J : Hold}

theorem cutM_spec : ∀ {free A : List ROp} {m : ROp} {B : List ROp}, cutM free = some (A, m, B) → free = A ++ m :: B ∧ m.r.isM = true
  | [], A, m, B, h => by cases h
  | o :: r, A, m, B, h => by
    simp only [cutM] at h
    cases ho : o.r.isM with
    | true =>
      rw [ho] at h
      simp only [Option.some.injEq, Prod.mk.injEq] at h
      obtain ⟨rfl, rfl, rfl⟩ := h
      exact ⟨rfl, ho⟩
    | false =>
      rw [ho] at h
      simp only at h
      cases hc : cutM r with
      | none => rw [hc] at h; cases h
      | some q =>
        obtain ⟨A', m', B'⟩ := q
        rw [hc] at h
        simp only [Option.some.injEq, Prod.mk.injEq] at h
        obtain ⟨rfl, rfl, rfl⟩ := h
        obtain ⟨h1, h2⟩ := cutM_spec hc
        exact ⟨by rw [h1]; rfl, h2⟩
theorem part_mem : ∀ {l : List ROp} {ds : List Nat} {r : ROp}, (r ∈ l ↔ r ∈ apartM ds l ∨ r ∈ hangM ds l)
  | [], ds, r => by simp [apartM, hangM]
  | o :: l, ds, r => by
    simp only [apartM, hangM]
    cases o.tmps.any ds.contains with
    | true =>
      simp only [List.mem_cons]
      rw [part_mem (ds := dstL o.dst ++ ds)]
      constructor
      · rintro (h | h | h)
        · exact .inr (.inl h)
        · exact .inl h
        · exact .inr (.inr h)
      · rintro (h | h | h)
        · exact .inr (.inl h)
        · exact .inl h
        · exact .inr (.inr h)
    | false =>
      simp only [List.mem_cons]
      rw [part_mem (ds := ds)]
      constructor
      · rintro (h | h | h)
        · exact .inl (.inl h)
        · exact .inl (.inr h)
        · exact .inr h
      · rintro ((h | h) | h)
        · exact .inl h
        · exact .inr (.inl h)
        · exact .inr (.inr h)
theorem dstsOf_mem : ∀ {l : List ROp} {d : Nat}, d ∈ dstsOf l ↔ ∃ r ∈ l, r.dst = some d
  | [], d => by simp [dstsOf]
  | o :: l, d => by
    simp only [dstsOf, List.mem_append, List.mem_cons]
    rw [dstsOf_mem]
    constructor
    · rintro (h | ⟨r, h1, h2⟩)
      · refine ⟨o, .inl rfl, ?_⟩
        cases hd : o.dst with
        | none => rw [hd] at h; cases h
        | some x =>
          rw [hd] at h
          simp only [dstL, List.mem_cons, List.not_mem_nil, or_false] at h
          rw [h]
      · exact ⟨r, .inr h1, h2⟩
    · rintro ⟨r, rfl | h1, h2⟩
      · exact .inl (by rw [h2]; simp [dstL])
      · exact .inr ⟨r, h1, h2⟩
theorem hangs_f {ds : List Nat} {r : ROp} (h : hangs ds r = false) : ∀ t ∈ r.tmps, t ∉ ds := fun t ht hd => by
  have : hangs ds r = true := by unfold hangs; rw [List.any_eq_true]; exact ⟨t, ht, by simpa using hd⟩
  rw [this] at h; cases h
theorem samev_eq {a b : V} (h : (Sys.real T G call iter).samev a b = true) : a = b := by
  have h' : sameV a b = true := h
  unfold sameV at h'
  split at h'
  · assumption
  · cases h'
theorem recheck_good {X : Sys} (hX : ∀ a b, X.samev a b = true → a = b) {stk' : Stk} {fr1 : Fr} : ∀ {l : List ROp}, recheck X stk' fr1 l = true → (∀ r ∈ l, Good X stk fr1 r) → ∀ r ∈ l, Good X stk' fr1 r
  | [], _, _, r, hr => by cases hr
  | o :: l, h, hg, r, hr => by
    simp only [recheck] at h
    have ho := hg o (by simp)
    have next : recheck X stk' fr1 l = true → Good X stk' fr1 o → Good X stk' fr1 r := fun h1 h2 => by
      rcases List.mem_cons.1 hr with rfl | hr
      · exact h2
      · exact recheck_good hX h1 (fun r hr => hg r (List.mem_cons_of_mem _ hr)) r hr
    cases hs : o.r.still with
    | true =>
      rw [hs] at h
      refine next h ?_
      rcases ho with ⟨g1, v, g2, g3⟩ | g
      · exact .inl ⟨g1, v, by rw [still_same hs (stk := stk)]; exact g2, g3⟩
      · exact .inr g
    | false =>
      rw [hs] at h
      simp only at h
      cases hw : wants fr1 o.g with
      | none => rw [hw] at h; cases h
      | some t =>
        rw [hw] at h
        cases t with
        | false =>
          refine next h ?_
          rcases ho with ⟨g1, _⟩ | g
          · rw [hw] at g1; cases g1
          · exact .inr g
        | true =>
          simp only at h
          cases hd : o.dst with
          | none =>
            rw [hd] at h
            simp only at h
            cases hv : evF X stk' fr1 o.r with
            | none => rw [hv] at h; cases h
            | some y =>
              rw [hv] at h
              exact next h (.inl ⟨hw, y, hv, fun d hdd => by rw [hd] at hdd; cases hdd⟩)
          | some d =>
            rw [hd] at h
            simp only at h
            cases hv : evF X stk' fr1 o.r with
            | none => rw [hv] at h; cases h
            | some y =>
              rw [hv] at h
              simp only at h
              cases hq : X.samev y (fr1.get d) with
              | false => rw [hq] at h; cases h
              | true =>
                rw [hq] at h
                refine next h (.inl ⟨hw, y, hv, fun d' hdd => ?_⟩)
                rw [hd] at hdd
                cases hdd
                exact (hX _ _ hq).symm

/-- Ahead of the one that changes what there is. -/
theorem mid_any (hJ : Jok ops J) (hQp : ∀ c a w (i : Nat) (o : Oper) v, ops[i]? = some o → Q (.panic c) (a.put o.dst v) w → Q (.panic c) a w) (hC : CallOK P G call) {tail : List ROp} {fa : Nat → Option ROp} {L e kM : Nat} {I H : List ROp} {rm : ROp} {ds : List Nat}
    (hds : ds = dstL rm.dst ++ dstsOf H) (hE : edgesLt 0 ops.toList = true) (hNS : Region.noSelect ops = true) (hS : seenOk (masks ops.toList []) fa ops.size = true) (hLe : L + tail.length = e) (hes : e ≤ ops.size) (hkL : kM < L)
    (hM2 : mOps P nt ops ((ops.toList.drop L).take tail.length) tail = true)
    (hT' : ∀ k, L ≤ k → k < e → ∀ j, j < ops.size → (fa j = none → j < k → ((masks ops.toList []).getD k 0).testBit j = true) ∧ (fa j ≠ none → ((masks ops.toList []).getD k 0).testBit j = true ∨ preB ops j = true ∨ heldB (masks ops.toList []) fa ops k ops.size j = true))
    (hkm : fa kM = none) (hmO : ∃ o, ops[kM]? = some o ∧ mOp P nt ops o rm = true) (hmg : rm.g = none) (hmM : rm.r.isM = true) (hmh : hangs ds rm = false)
    (hmt : ∀ t ∈ rm.tmps, ∀ (j : Nat) (q : ROp), fa j = some q → q.dst = some t → ((masks ops.toList []).getD kM 0).testBit j = true)
    (hIh : ∀ r ∈ I, hangs ds r = false ∧ ∀ d, r.dst = some d → d ∉ ds) (hHh : ∀ r ∈ H, hangs ds r = true ∧ ∀ d, r.dst = some d → rm.dst ≠ some d)
    (hfaF : ∀ i r, fa i = some r → (i < L ∨ e ≤ i) ∧ i < ops.size ∧ (r ∈ I ∨ r ∈ H) ∧ (hangs ds r = true → ((masks ops.toList []).getD i 0).testBit kM = true))
    (hidx : ∀ q, q ∈ I ∨ q ∈ H → ∃ j, fa j = some q)
    (hfree : ∀ i, i < ops.size → (i < L ∨ e ≤ i) → i = kM ∨ ∃ o r, ops[i]? = some o ∧ fa i = some r ∧ mOp P nt ops o r = true)
    (hnone : ∀ j, L ≤ j → j < e → fa j = none) {m : Nat} (hmm : m ≤ topN stk + 1) {fr1 fr2 : Fr} {v : V} {stk' : Stk}
    (hG1 : ∀ r ∈ I, Good (Sys.real T G call iter) stk fr1 r) (hev : evR (Sys.real T G call iter) rm.dst fr1 stk rm.r = some (.val v stk')) (hre : recheck (Sys.real T G call iter) stk' fr1 I = true)
    (hN2 : evFree (Sys.real T G call iter) stk' H (fr1.put rm.dst v) = some fr2) (hNL2 : noLater H = true) {ex : Ex} {st' : St}
    (he : evOps (Sys.real T G call iter) tail ⟨fr2, stk'⟩ = some (ex, st')) (hok0 : Ok ρ F stk w) (hglob0 : Glob G F w) (hQ : CR G J nt m ρ F stk w Q ex st') (hall : AllLt ops nt) :
    ∀ (fuel : Nat) (listed : Array Bool) (a1 : Act) (w1 : World) (ρ1 : Rho) (F1 : Blks), listed.size = ops.size → cnt listed = fuel → Closed ops listed → (∀ j, L ≤ j → j < e → ¬ on listed j) → ¬ on listed kM → (∀ j, fa j ≠ none → preB ops j = true → on listed j) →
      Goes (topN stk + 1) ρ F stk w ρ1 F1 stk w1 → Ok ρ1 F1 stk w1 → nt ≤ a1.tmps.size → J a1 →
      (∀ t, (∀ (j : Nat) (r : ROp), fa j = some r → r.dst = some t → on listed j) → rm.dst ≠ some t → RV ρ1 F1 stk w1 (fr1.get t) (a1.tmps.getD t undef)) → wpAny P .any ops Q fuel listed a1 w1 := by
  obtain ⟨om, hom, hmm'⟩ := hmO
  have hkn : kM < ops.size := (Array.getElem?_eq_some_iff.1 hom).1
  obtain ⟨hP1, hP2⟩ := evFree_spec hN2 hNL2
  have hdsm : ∀ d, rm.dst = some d → d ∈ ds := fun d hd => by rw [hds, hd]; simp [dstL]
  have hdsH : ∀ r ∈ H, ∀ d, r.dst = some d → d ∈ ds := fun r hr d hd => by rw [hds]; exact List.mem_append_right _ (dstsOf_mem.2 ⟨r, hr, hd⟩)
  have agree : ∀ t, t ∉ ds → fr2.get t = fr1.get t := fun t ht => by
    rw [hP1 t fun r hr hd => ht (hdsH r hr t hd), put_get, if_neg fun hd => ht (hdsm t hd)]
  have good2 : ∀ r, r ∈ I ∨ r ∈ H → Good (Sys.real T G call iter) stk' fr2 r := fun r hr => by
    rcases hr with hr | hr
    · obtain ⟨h1, h2⟩ := hIh r hr
      exact Good.congr (fun t ht => (agree t (hangs_f h1 t ht)).symm) (fun d hd => (agree d (h2 d hd)).symm) (recheck_good (fun a b => samev_eq) hre hG1 r hr)
    · exact hP2 r hr
  intro fuel
  induction fuel with
  | zero =>
    intro listed a1 w1 ρ1 F1 h1 h2 h3 h4 hkoff
    exact absurd (cnt_zero h2 (by omega)) hkoff
  | succ n ih =>
    intro listed a1 w1 ρ1 F1 h1 h2 h3 h4 hkoff hpre h5 h6 h7 h8 h9
    have anc : ∀ j o, ops[j]? = some o → (∀ e ∈ edgesOf o, on listed e) → ((masks ops.toList []).getD j 0).testBit kM = true → False := fun j o ho hed hb => hkoff (anc_on hE h3 j o ho hed kM hb)
    have hHoff : ∀ j r, fa j = some r → hangs ds r = true → ¬ on listed j := fun j r hj hh hon => by
      obtain ⟨_, hjs, _, hb⟩ := hfaF j r hj
      have hoj : ops[j]? = some (ops[j]'hjs) := Array.getElem?_eq_getElem hjs
      exact anc j _ hoj (h3 j _ hoj hon) (hb hh)
    have hne : Region.ready .any ops listed ≠ [] := by
      have hmin : ∃ j, (j < ops.size ∧ ¬ on listed j) ∧ ∀ k, k < j → on listed k := by
        have : ∀ n j, j ≤ n → (j < ops.size ∧ ¬ on listed j) → ∃ j, (j < ops.size ∧ ¬ on listed j) ∧ ∀ k, k < j → on listed k := by
          intro n
          induction n with
          | zero => intro j hj h; exact ⟨j, h, fun k hk => by omega⟩
          | succ n ihn =>
            intro j hj h
            by_cases hex : ∃ k, k < j ∧ ¬ on listed k
            · obtain ⟨k, hk1, hk2⟩ := hex
              exact ihn k (by omega) ⟨by omega, hk2⟩
            · exact ⟨j, h, fun k hk => Classical.byContradiction fun h' => hex ⟨k, hk, h'⟩⟩
        exact this kM kM (Nat.le_refl _) ⟨hkn, hkoff⟩
      obtain ⟨j, ⟨hj1, hj2⟩, hj3⟩ := hmin
      have ho : ops[j]? = some (ops[j]'hj1) := Array.getElem?_eq_getElem hj1
      intro hnil
      have : j ∈ Region.ready .any ops listed := ready_iff.2 ⟨(off_iff (by omega)).2 hj2, _, ho, fun x hx => hj3 x (by
        have := edgesLt_spec hE j _ (by simp) x hx
        omega)⟩
      rw [hnil] at this; cases this
    refine ⟨fun h => absurd h hne, fun i hi => ?_⟩
    obtain ⟨hi1, o, hi2, hi3⟩ := ready_iff.1 hi
    have hilt := (Array.getElem?_eq_some_iff.1 hi2).1
    have hioff := (off_iff (by omega)).1 hi1
    have hglob1 := hglob0.keep (h5.keep hok0)
    have closed_in : Closed ops (listed.setIfInBounds i true) := by
      intro k ok hk hon e hee
      rw [on_set] at hon ⊢
      rcases hon with hon | ⟨rfl, _⟩
      · exact .inl (h3 k ok hk hon e hee)
      · rw [hi2] at hk; cases hk
        exact .inl (hi3 e hee)
    by_cases hik : i = kM
    · -- the one
      subst hik
      rw [hom] at hi2
      cases hi2
      have hseen : ∀ t ∈ rm.tmps, ∀ (j : Nat) (q : ROp), fa j = some q → q.dst = some t → on listed j := fun t ht j q hj hq => anc_on hE h3 i om hom hi3 j (hmt t ht j q hj hq)
      have hsr : SR G J nt ρ1 F1 stk w1 (tidyF fr1 rm.tmps) a1 := ⟨h6, hglob1, fun t => by
        by_cases ht : t ∈ rm.tmps
        · rw [tidyF_get ht]; exact h9 t (hseen t ht) (fun hd => hangs_f hmh t ht (hdsm t hd))
        · rw [tidyF_not ht]; trivial, h7, h8⟩
      have hone : evOne (Sys.real T G call iter) rm (tidyF fr1 rm.tmps) stk = some (.val v stk') := by
        unfold evOne
        rw [hmg]
        simp only [wants]
        rw [evM_congr (fr' := fr1) hmM fun t ht => tidyF_get (by simp [ROp.tmps, ht])]
        exact hev
      refine one_sound hC hall hsr hom hmm' hone ?_
      intro ρ2 F2 w2 v' k1 k2 k3 k4
      have hdlt : ∀ d, rm.dst = some d → d < a1.tmps.size := fun d hd => by
        have hm' := hmm'
        simp only [mOp, Bool.and_eq_true, beq_iff_eq] at hm'
        have h := hm'.1.1.2
        rw [hm'.1.1.1, hd] at h
        simp only [decide_eq_true_eq] at h
        exact Nat.lt_of_lt_of_le h h7
      refine free_core (stk := stk') (ρ := ρ2) (F := F2) (w := w2) (fr' := fr2) (K := fun j => j = i) (fa := fa) (L := L) (e := e) (m := m) hJ hQp hC hE hNS hS hLe hes hM2 hT' (fun j r hr => ⟨(hfaF j r hr).1, (hfaF j r hr).2.1, good2 r (hfaF j r hr).2.2.1⟩) hfree hnone (by rw [topN_nums k3]; exact hmm) he k2 (hglob1.keep (k1.keep h6)) (hQ.trans ((h5.trans k1).weaken hmm) k3) hall
        n (listed.setIfInBounds i true) (a1.put rm.dst v') w2 ρ2 F2 (by simpa using h1) ?_ closed_in ?_ (fun j hj hjp => on_set.2 (.inl (hpre j hj hjp))) (fun j hj => on_set.2 (.inr ⟨hj, by omega⟩)) (Goes.refl _ _ _ _ _) k2 (by rw [put_size]; exact h7) ((hJ.at hom hmm').2 h8) ?_
      · have := cnt_off (by omega) hioff
        omega
      · intro j hj hj' hon
        rw [on_set] at hon
        rcases hon with hon | ⟨rfl, _⟩
        · exact h4 j hj hj' hon
        · omega
      · intro t ht
        by_cases hd : rm.dst = some t
        · have e1 : fr2.get t = v := by
            rw [hP1 t fun r hr hrd => (hHh r hr).2 t hrd hd, put_get, if_pos hd]
          rw [e1, hd]
          have := hdlt t hd
          simp only [Act.put]
          simpa [Array.getD_eq_getD_getElem?, this] using k4
        · have hnH : ∀ r ∈ H, r.dst ≠ some t := fun r hr hrd => by
            obtain ⟨j, hj⟩ := hidx r (.inr hr)
            have := ht j r hj hrd
            rw [on_set] at this
            rcases this with h | ⟨rfl, _⟩
            · exact hHoff j r hj (hHh r hr).1 h
            · rw [hkm] at hj; cases hj
          have e1 : fr2.get t = fr1.get t := by rw [hP1 t hnH, put_get, if_neg hd]
          have hold : RV ρ1 F1 stk w1 (fr1.get t) (a1.tmps.getD t undef) := h9 t (fun j q hj hq => by
            have := ht j q hj hq
            rw [on_set] at this
            rcases this with h | ⟨rfl, _⟩
            · exact h
            · rw [hkm] at hj; cases hj) hd
          have hnew := RV.moves (k1.moves h6) _ _ (RV.upto h6.falls _ _ hold) hold
          have e2 : (a1.put rm.dst v').tmps.getD t undef = a1.tmps.getD t undef := by
            cases hdd : rm.dst with
            | none => rfl
            | some d =>
              have hne : d ≠ t := fun e => hd (by rw [hdd, e])
              simp [Act.put, Array.getD_eq_getD_getElem?, Array.getElem?_setIfInBounds_ne hne]
          rw [e1, e2]; exact hnew
    · have hif : fa i ≠ none := by
        intro hfn
        by_cases hc : i < L ∨ e ≤ i
        · rcases hfree i hilt hc with h | ⟨_, r, _, hr, _⟩
          · exact hik h
          · rw [hfn] at hr; cases hr
        · have := (hT' i (by omega) (by omega) kM hkn).1 hkm (by omega)
          exact anc i o hi2 hi3 this
      obtain ⟨r, hr⟩ := Option.ne_none_iff_exists'.1 hif
      obtain ⟨hr1, _, hr3, hr4⟩ := hfaF i r hr
      have hnh : hangs ds r = false := by
        cases hh : hangs ds r with
        | false => rfl
        | true => exact (anc i o hi2 hi3 (hr4 hh)).elim
      have hrI : r ∈ I := by
        rcases hr3 with h | h
        · exact h
        · have := (hHh r h).1; rw [hnh] at this; cases this
      have hm : mOp P nt ops o r = true := by
        rcases hfree i hilt hr1 with h | ⟨o', r', ho', hr', hm'⟩
        · exact absurd h hik
        · rw [hi2] at ho'; cases ho'; rw [hr] at hr'; cases hr'; exact hm'
      have hgood := hG1 r hrI
      have hseen : ∀ t ∈ r.tmps, ∀ (j : Nat) (q : ROp), fa j = some q → q.dst = some t → on listed j := fun t ht j q hj hq => by
        have := seenOk_spec hS hilt hr t ht j q (hfaF j q hj).2.1 hj hq
        exact anc_on hE h3 i o hi2 hi3 j this
      have hsr : SR G J nt ρ1 F1 stk w1 (tidyF fr1 r.tmps) a1 := ⟨h6, hglob1, fun t => by
        by_cases ht : t ∈ r.tmps
        · rw [tidyF_get ht]; exact h9 t (hseen t ht) (fun hd => hangs_f hnh t ht (hdsm t hd))
        · rw [tidyF_not ht]; trivial, h7, h8⟩
      have hw : wants (tidyF fr1 r.tmps) r.g = wants fr1 r.g := wants_congr fun t b hg => tidyF_get (by simp [ROp.tmps, hg])
      have hev' : evF (Sys.real T G call iter) stk (tidyF fr1 r.tmps) r.r = evF (Sys.real T G call iter) stk fr1 r.r := evF_congr fun t ht => tidyF_get (by simp [ROp.tmps, ht])
      obtain ⟨v, hone, hvd⟩ : ∃ v, evOne (Sys.real T G call iter) r (tidyF fr1 r.tmps) stk = some (.val v stk) ∧ ∀ d, r.dst = some d → fr1.get d = v := by
        rcases hgood with ⟨g1, v, g2, g3⟩ | ⟨g1, g2⟩
        · refine ⟨v, ?_, g3⟩
          unfold evOne
          rw [hw, g1]
          exact evF_evR (hev'.trans g2)
        · refine ⟨undefV, ?_, g2⟩
          unfold evOne
          rw [hw, g1]
      refine one_sound hC hall hsr hi2 hm hone ?_
      intro ρ2 F2 w2 v' k1 k2 k3 k4
      have hdlt : ∀ d, r.dst = some d → d < a1.tmps.size := fun d hd => by
        have hm' := hm
        simp only [mOp, Bool.and_eq_true, beq_iff_eq] at hm'
        have h := hm'.1.1.2
        rw [hm'.1.1.1, hd] at h
        simp only [decide_eq_true_eq] at h
        exact Nat.lt_of_lt_of_le h h7
      refine ih (listed.setIfInBounds i true) (a1.put r.dst v') w2 ρ2 F2 (by simpa using h1) ?_ closed_in ?_ ?_ (fun j hj hjp => on_set.2 (.inl (hpre j hj hjp))) (h5.trans k1) k2 (by rw [put_size]; exact h7) ((hJ.at hi2 hm).2 h8) ?_
      · have := cnt_off (by omega) hioff
        omega
      · intro j hj hj' hon
        rw [on_set] at hon
        rcases hon with hon | ⟨rfl, _⟩
        · exact h4 j hj hj' hon
        · exact hif (hnone j hj hj')
      · intro hon
        rw [on_set] at hon
        rcases hon with hon | ⟨h, _⟩
        · exact hkoff hon
        · exact hik h.symm
      · intro t ht htm
        by_cases hd : r.dst = some t
        · rw [hvd t hd, hd]
          have := hdlt t hd
          simp only [Act.put]
          simpa [Array.getD_eq_getD_getElem?, this] using k4
        · have hold : RV ρ1 F1 stk w1 (fr1.get t) (a1.tmps.getD t undef) := h9 t (fun j q hj hq => by
            have := ht j q hj hq
            rw [on_set] at this
            rcases this with h | ⟨rfl, _⟩
            · exact h
            · rw [hr] at hj; cases hj; exact absurd hq hd) htm
          have hnew := RV.moves (k1.moves h6) _ _ (RV.upto h6.falls _ _ hold) hold
          have e : (a1.put r.dst v').tmps.getD t undef = a1.tmps.getD t undef := by
            cases hdd : r.dst with
            | none => rfl
            | some d =>
              have hne : d ≠ t := fun e => hd (by rw [hdd, e])
              simp [Act.put, Array.getD_eq_getD_getElem?, Array.getElem?_setIfInBounds_ne hne]
          rw [e]; exact hnew
/-- A region whose order is drawn. -/
theorem drawM_sound (hJ : Jok ops J) (hC : CallOK P G call) (hmix : P.follows .mixedOrders = true) {id : Nat} {free tail A B : List ROp} {rm : ROp} {p : Nat} (hcut : cutM free = some (A, rm, B)) (hD : mDrawM P nt ops free tail p A rm B = true) {m : Nat} (hmm : m ≤ topN stk + 1) (hs : SR G J nt ρ F stk w fr a) {fr1 fr2 : Fr} {v : V} {stk' : Stk}
    (hN : evFree (Sys.real T G call iter) stk (A ++ apartM (dstL rm.dst) B) fr = some fr1) (hev : evR (Sys.real T G call iter) rm.dst fr1 stk rm.r = some (.val v stk')) (hre : recheck (Sys.real T G call iter) stk' fr1 (A ++ apartM (dstL rm.dst) B) = true)
    (hN2 : evFree (Sys.real T G call iter) stk' (hangM (dstL rm.dst) B) (fr1.put rm.dst v) = some fr2) {ex : Ex} {st' : St}
    (he : evOps (Sys.real T G call iter) tail ⟨fr2, stk'⟩ = some (ex, st')) (hQ : CR G J nt m ρ F stk w Q ex st') : (Code.region id ops true).wp P Q a w := by
  -- of a panic only what is promised is kept: the temporaries do not matter to it
  let Q' : Exit → Act → World → Prop := fun e a' w' => match e with
    | .panic c => ∃ x ρ' F' xv, ex = .pan x ∧ Goes m ρ F stk w ρ' F' st'.stk w' ∧ nums st'.stk = nums stk ∧ Ok ρ' F' st'.stk w' ∧ Glob G F' w' ∧ J a' ∧ (∀ t, J.S t → RV ρ' F' st'.stk w' (st'.fr.get t) (a'.tmps.getD t undef)) ∧ Rv F' w' x xv ∧ c = [{ v := xv, recovered := false }]
    | e => Q e a' w'
  have hQ' : CR G J nt m ρ F stk w Q' ex st' := by
    intro ρ' F' a' w' g1 g2
    have hq := hQ ρ' F' a' w' g1 g2
    cases ex with
    | normal => exact hq
    | exit i => exact hq
    | ret => exact hq
    | pan x => exact fun h1 h2 h3 hst xv h4 => ⟨x, ρ', F', xv, rfl, g1, g2, h1, h2, h3, hst, h4, rfl⟩
  refine wp_mono (Q := Q') ?_ fun e a' w' h => ?_
  case refine_2 =>
    cases e with
    | panic c =>
      obtain ⟨x, ρ', F', xv, rfl, h1, h2, h3, h4, h5, hst, h6, rfl⟩ := h
      exact hQ ρ' F' a' w' h1 h2 h3 h4 h5 hst xv h6
    | normal => exact h
    | exit i => exact h
    | goto l => exact h
    | ret => exact h
    | outgrown => exact h
  refine wp_region_any hmix ?_
  obtain ⟨hfr, hmM⟩ := cutM_spec hcut
  have hD' := hD
  unfold mDrawM at hD'
  simp only [Bool.and_eq_true, decide_eq_true_eq] at hD'
  obtain ⟨⟨⟨⟨⟨⟨⟨⟨hkA, hp⟩, hE⟩, hM1⟩, hM2⟩, hM3⟩, hNS⟩, hmg0⟩, ⟨⟨⟨⟨⟨⟨⟨⟨hNL, hNL2⟩, hIh0⟩, hHh0⟩, hmh0⟩, hS⟩, hT⟩, hB0⟩, hmt0⟩⟩ := hD'
  have hmg : rm.g = none := by simpa using hmg0
  obtain ⟨hA1, hA2⟩ := mOps_at hM1
  obtain ⟨hB1, hB2⟩ := mOps_at hM2
  obtain ⟨hC1, hC2⟩ := mOps_at hM3
  simp only [List.length_take, List.length_drop, Array.length_toList] at hA1 hB1 hC1
  obtain ⟨ds, hds⟩ : ∃ ds, ds = dstL rm.dst ++ dstsOf (hangM (dstL rm.dst) B) := ⟨_, rfl⟩
  rw [← hds] at hIh0 hHh0 hmh0 hB0
  have hmh : hangs ds rm = false := by simpa using hmh0
  have hIh : ∀ r ∈ A ++ apartM (dstL rm.dst) B, hangs ds r = false ∧ ∀ d, r.dst = some d → d ∉ ds := fun r hr => by
    have := List.all_eq_true.1 hIh0 r hr
    simp only [Bool.and_eq_true, Bool.not_eq_true'] at this
    refine ⟨this.1, fun d hd hdd => ?_⟩
    have h2 := this.2
    rw [hd] at h2
    simp only [Bool.not_eq_true'] at h2
    simp at h2
    exact h2 hdd
  have hHh : ∀ r ∈ hangM (dstL rm.dst) B, hangs ds r = true ∧ ∀ d, r.dst = some d → rm.dst ≠ some d := fun r hr => by
    have := List.all_eq_true.1 hHh0 r hr
    simp only [Bool.and_eq_true] at this
    refine ⟨this.1, fun d hd hdd => ?_⟩
    have h2 := this.2
    rw [hd] at h2
    simp only [bne_iff_ne, ne_eq] at h2
    exact h2 hdd
  have hmem2 : ∀ r, r ∈ A ∨ r ∈ B ↔ r ∈ A ++ apartM (dstL rm.dst) B ∨ r ∈ hangM (dstL rm.dst) B := fun r => by
    rw [List.mem_append, part_mem (l := B) (ds := dstL rm.dst)]
    constructor
    · rintro (h | h | h)
      · exact .inl (.inl h)
      · exact .inl (.inr h)
      · exact .inr h
    · rintro ((h | h) | h)
      · exact .inl h
      · exact .inr (.inl h)
      · exact .inr (.inr h)
  have hat : ∀ k, free[k]? = if k < A.length then A[k]? else if k = A.length then some rm else B[k - A.length - 1]? := fun k => by
    rw [hfr, List.getElem?_append]
    split
    · rfl
    · split
      · rename_i h; rw [h, Nat.sub_self]; rfl
      · rename_i h h2
        rw [show k - A.length = (k - A.length - 1) + 1 by omega, List.getElem?_cons_succ]
        simp
  have hflen : free.length = A.length + 1 + B.length := by rw [hfr]; simp; omega
  have hfaF : ∀ i r, faM free p tail.length A.length i = some r → (i < free.length - p ∨ free.length - p + tail.length ≤ i) ∧ i < ops.size ∧ (r ∈ A ++ apartM (dstL rm.dst) B ∨ r ∈ hangM (dstL rm.dst) B) ∧ (hangs ds r = true → ((masks ops.toList []).getD i 0).testBit A.length = true) := by
    intro i r hr
    have hr0 := hr
    unfold faM at hr
    split at hr <;> try (cases hr; done)
    rename_i hik
    have key : ∀ k, free[k]? = some r → k ≠ A.length → r ∈ A ++ apartM (dstL rm.dst) B ∨ r ∈ hangM (dstL rm.dst) B := fun k hk hne => by
      rw [hat k] at hk
      refine (hmem2 r).1 ?_
      rw [if_neg hne] at hk
      split at hk
      · exact .inl (List.mem_of_getElem? hk)
      · exact .inr (List.mem_of_getElem? hk)
    have his : i < ops.size ∧ (i < free.length - p ∨ free.length - p + tail.length ≤ i) ∧ (r ∈ A ++ apartM (dstL rm.dst) B ∨ r ∈ hangM (dstL rm.dst) B) := by
      unfold faOf at hr
      split at hr
      · exact ⟨by omega, .inl (by assumption), key i hr hik⟩
      · split at hr
        · have := (List.getElem?_eq_some_iff.1 hr).1
          exact ⟨by omega, .inr (by assumption), key _ hr (by omega)⟩
        · cases hr
    refine ⟨his.2.1, his.1, his.2.2, fun hh => ?_⟩
    have := List.all_eq_true.1 hB0 i (List.mem_range.2 his.1)
    rw [hr0] at this
    simp only [Bool.or_eq_true, Bool.not_eq_true'] at this
    rcases this with h | h
    · rw [hh] at h; cases h
    · exact h
  have hfop0 : ∀ i r o, faOf free p tail.length i = some r → ops[i]? = some o → mOp P nt ops o r = true := by
    intro i r o hr ho
    unfold faOf at hr
    split at hr
    · rename_i hi
      obtain ⟨r', h1, h2⟩ := hA2 i _ (by rw [List.getElem?_take, if_pos hi, Array.getElem?_toList]; exact ho)
      rw [List.getElem?_take, if_pos hi, hr] at h1
      cases h1; exact h2
    · split at hr
      · rename_i h1 hi
        obtain ⟨r', h1, h2⟩ := hC2 (i - (free.length - p + tail.length)) _ (by rw [List.getElem?_drop, Array.getElem?_toList, show free.length - p + tail.length + (i - (free.length - p + tail.length)) = i by omega]; exact ho)
        rw [List.getElem?_drop, show free.length - p + (i - (free.length - p + tail.length)) = i - tail.length by omega, hr] at h1
        cases h1; exact h2
      · cases hr
  have hfop : ∀ i r o, faM free p tail.length A.length i = some r → ops[i]? = some o → mOp P nt ops o r = true := by
    intro i r o hr ho
    unfold faM at hr
    split at hr
    · cases hr
    · exact hfop0 i r o hr ho
  have hidx : ∀ q, q ∈ A ++ apartM (dstL rm.dst) B ∨ q ∈ hangM (dstL rm.dst) B → ∃ j, faM free p tail.length A.length j = some q := by
    intro q hq
    have : ∃ k, free[k]? = some q ∧ k ≠ A.length := by
      rcases (hmem2 q).2 hq with h | h
      · obtain ⟨k, hk⟩ := List.getElem?_of_mem h
        have := (List.getElem?_eq_some_iff.1 hk).1
        exact ⟨k, by rw [hat k, if_pos this]; exact hk, by omega⟩
      · obtain ⟨k, hk⟩ := List.getElem?_of_mem h
        exact ⟨A.length + 1 + k, by rw [hat, if_neg (by omega), if_neg (by omega), show A.length + 1 + k - A.length - 1 = k by omega]; exact hk, by omega⟩
    obtain ⟨k, hk, hne⟩ := this
    by_cases c : k < free.length - p
    · exact ⟨k, by unfold faM; rw [if_neg hne]; unfold faOf; rw [if_pos c]; exact hk⟩
    · exact ⟨k + tail.length, by unfold faM; rw [if_neg (by omega)]; unfold faOf; rw [if_neg (by omega), if_pos (by omega), Nat.add_sub_cancel]; exact hk⟩
  have hfree : ∀ i, i < ops.size → (i < free.length - p ∨ free.length - p + tail.length ≤ i) → i = A.length ∨ ∃ o r, ops[i]? = some o ∧ faM free p tail.length A.length i = some r ∧ mOp P nt ops o r = true := by
    intro i his hi
    by_cases hik : i = A.length
    · exact .inl hik
    · right
      have ho : ops[i]? = some (ops[i]'his) := Array.getElem?_eq_getElem his
      obtain ⟨r, hr⟩ : ∃ r, faOf free p tail.length i = some r := by
        unfold faOf
        rcases hi with hi | hi
        · rw [if_pos hi]; exact ⟨_, List.getElem?_eq_getElem (by omega)⟩
        · rw [if_neg (by omega), if_pos hi]; exact ⟨_, List.getElem?_eq_getElem (by omega)⟩
      exact ⟨_, r, ho, by unfold faM; rw [if_neg hik]; exact hr, hfop0 i r _ hr ho⟩
  have hmO : ∃ o, ops[A.length]? = some o ∧ mOp P nt ops o rm = true := by
    have hlt : A.length < ops.size := by omega
    refine ⟨_, Array.getElem?_eq_getElem hlt, hfop0 A.length rm _ ?_ (Array.getElem?_eq_getElem hlt)⟩
    unfold faOf
    rw [if_pos hkA, hat, if_neg (by omega), if_pos rfl]
  have hmt : ∀ t ∈ rm.tmps, ∀ (j : Nat) (q : ROp), faM free p tail.length A.length j = some q → q.dst = some t → ((masks ops.toList []).getD A.length 0).testBit j = true := by
    intro t ht j q hj hq
    have h2 := List.all_eq_true.1 hmt0 t ht
    have h3 := List.all_eq_true.1 h2 j (List.mem_range.2 (hfaF j q hj).2.1)
    rw [hj] at h3
    simp only [Bool.or_eq_true, bne_iff_ne, ne_eq] at h3
    exact h3.resolve_left (fun h => h hq)
  have hall : AllLt ops nt := by
    intro i o ho d hd
    have his := (Array.getElem?_eq_some_iff.1 ho).1
    have key : ∀ {r : ROp}, mOp P nt ops o r = true → d < nt := by
      intro r hr
      simp only [mOp, Bool.and_eq_true] at hr
      have := hr.1.1.2
      rw [hd] at this
      simpa using this
    by_cases h : i < free.length - p
    · obtain ⟨r, _, hr⟩ := hA2 i o (by rw [List.getElem?_take, if_pos h, Array.getElem?_toList]; exact ho)
      exact key hr
    · by_cases h2 : i < free.length - p + tail.length
      · obtain ⟨r, _, hr⟩ := hB2 (i - (free.length - p)) o (by rw [List.getElem?_take, if_pos (by omega), List.getElem?_drop, Array.getElem?_toList, show free.length - p + (i - (free.length - p)) = i by omega]; exact ho)
        exact key hr
      · obtain ⟨r, _, hr⟩ := hC2 (i - (free.length - p + tail.length)) o (by rw [List.getElem?_drop, Array.getElem?_toList, show free.length - p + tail.length + (i - (free.length - p + tail.length)) = i by omega]; exact ho)
        exact key hr
  have hoff : ∀ j, ¬ on (Array.replicate ops.size false) j := fun j h => by
    unfold on at h
    simp [Array.getD_eq_getD_getElem?, Array.getElem?_replicate] at h
    split at h <;> simp at h
  -- the draw itself
  have hkeep : Keep F F w { w with drawn := w.drawn + 1 } := ⟨fun _ h => h, fun _ _ => rfl⟩
  have hgo : Goes (topN stk + 1) ρ F stk w ρ F stk { w with drawn := w.drawn + 1 } :=
    { Goes.refl (topN stk + 1) ρ F stk w with os := rfl, tape := rfl, output := rfl, size := Nat.le_refl _, frame := fun _ _ _ => rfl }
  have hok' : Ok ρ F stk { w with drawn := w.drawn + 1 } := hs.ok.stays hkeep (fun _ _ => rfl) hs.ok.sep hs.ok.lt
  obtain ⟨hP1, hP2⟩ := evFree_spec hN hNL
  have hnh : ∀ j r, faM free p tail.length A.length j = some r → preB ops j = true → r ∈ A ++ apartM (dstL rm.dst) B := fun j r hj hpb => by
    obtain ⟨_, hjs, hr, hb⟩ := hfaF j r hj
    rcases hr with hr | hr
    · exact hr
    · exfalso
      have hbit := hb (hHh r hr).1
      have ho : ops[j]? = some (ops[j]'hjs) := Array.getElem?_eq_getElem hjs
      unfold preB at hpb
      simp only [ho, Bool.and_eq_true] at hpb
      have hed : edgesOf (ops[j]'hjs) = [] := by simpa using hpb.1.1.2
      exact hoff _ (anc_on (listed := Array.replicate ops.size false) hE (fun i o _ hon => absurd hon (hoff i)) j _ ho (fun e he => by rw [hed] at he; cases he) A.length hbit)
  have hmem : ∀ j, j ∈ (List.range ops.size).filter (fun j => (faM free p tail.length A.length j).isSome && preB ops j) ↔ (faM free p tail.length A.length j ≠ none ∧ preB ops j = true) := fun j => by
    rw [List.mem_filter, List.mem_range, Bool.and_eq_true, Option.isSome_iff_ne_none]
    constructor
    · exact fun h => h.2
    · intro h
      obtain ⟨r, hr⟩ := Option.ne_none_iff_exists'.1 h.1
      exact ⟨(hfaF j r hr).2.1, h⟩
  have hlen : ((List.range ops.size).filter (fun j => (faM free p tail.length A.length j).isSome && preB ops j)).length ≤ ops.size := by
    have := List.length_filter_le (fun j => (faM free p tail.length A.length j).isSome && preB ops j) (List.range ops.size)
    rw [List.length_range] at this
    omega
  have hcnt0 : cnt (Array.replicate ops.size false) = ops.size := by
    have := cnt_eq (listed := Array.replicate ops.size false) (i := 0) (e := ops.size) (Nat.zero_le _) (by simp) (fun j hj => ⟨fun h => absurd h (hoff j), fun h => absurd ⟨Nat.zero_le _, by simpa using hj⟩ h⟩)
    simpa using this
  have hsel := Region.noSelect_spec hNS
  have main : wpAny P .any ops Q' ((ops.size - ((List.range ops.size).filter (fun j => (faM free p tail.length A.length j).isSome && preB ops j)).length) + ((List.range ops.size).filter (fun j => (faM free p tail.length A.length j).isSome && preB ops j)).length) (Array.replicate ops.size false) a { w with drawn := w.drawn + 1 } := ?_
  · rw [Nat.sub_add_cancel hlen] at main
    exact main
  have hQp : ∀ c (a' : Act) w' (i : Nat) (o : Oper) v, ops[i]? = some o → Q' (.panic c) (a'.put o.dst v) w' → Q' (.panic c) a' w' := fun c a' w' i o v hio h => ?_
  rotate_left
  · obtain ⟨x, ρ', F', xv, h1, h2, h3, h4, h5, h6, hst, h7⟩ := h
    exact ⟨x, ρ', F', xv, h1, h2, h3, h4, h5, ((hJ i o hio).1 _ _).1 h6, fun t ht => (by rw [← hJ.get hio ht]; exact hst t ht), h7⟩
  refine take_pre hJ hsel hQp _ _ a (fun i hi => ⟨((hmem i).1 hi).2, hoff i⟩) (List.nodup_range.filter _) (by simp) (fun j o d h1 h2 => Nat.lt_of_lt_of_le (hall j o h1 d h2) hs.size) ?_
  · intro listed' a' k1 kc k2 k3 k4 k5 k6
    refine mid_any hJ hQp hC hds hE hNS hS rfl (by omega) hkA hM2 (fun k h1 h2 => tailOk_spec hT k h1 (by omega)) (by unfold faM; rw [if_pos rfl]) hmO hmg hmM hmh hmt hIh hHh hfaF hidx hfree (fun j h1 h2 => by unfold faM faOf; rw [if_neg (by omega), if_neg (by omega), if_neg (by omega)]) hmm hP2 hev hre hN2 hNL2 he hs.ok hs.glob hQ' hall _ listed' a' _ ρ F k2 (by omega) ?_ ?_ ?_ ?_ hgo hok' (by rw [k3]; exact hs.size) (k4.2 hs.j) ?_
    · intro i o hi hon e hee
      rcases (k1 i).1 hon with h | h
      · exact absurd h (hoff i)
      · have hp := ((hmem i).1 h).2
        unfold preB at hp
        simp only [hi, Bool.and_eq_true] at hp
        have : edgesOf o = [] := by simpa using hp.1.1.2
        rw [this] at hee; cases hee
    · intro j hj hj' hon
      rcases (k1 j).1 hon with h | h
      · exact hoff j h
      · obtain ⟨r, hr⟩ := Option.ne_none_iff_exists'.1 ((hmem j).1 h).1
        have := (hfaF j r hr).1; omega
    · intro hon
      rcases (k1 A.length).1 hon with h | h
      · exact hoff _ h
      · exact ((hmem A.length).1 h).1 (by unfold faM; rw [if_pos rfl])
    · intro j hj hp
      exact (k1 j).2 (.inr ((hmem j).2 ⟨hj, hp⟩))
    · intro t ht htm
      by_cases hw : ∃ i ∈ (List.range ops.size).filter (fun j => (faM free p tail.length A.length j).isSome && preB ops j), ∃ o, ops[i]? = some o ∧ o.dst = some t
      · obtain ⟨i, hi, o, ho, hd⟩ := hw
        obtain ⟨hif, hp⟩ := (hmem i).1 hi
        have hp0 := hp
        obtain ⟨r, hr⟩ := Option.ne_none_iff_exists'.1 hif
        have hmr := hfop i r o hr ho
        unfold preB at hp
        simp only [ho, Bool.and_eq_true] at hp
        obtain ⟨⟨⟨p1, p2⟩, p3⟩, _⟩ := hp
        obtain ⟨x, hx⟩ : ∃ x, o.op = .move x := by
          cases hop : o.op <;> simp [hop] at p1
          exact ⟨_, rfl⟩
        have hed : edgesOf o = [] := by simpa using p2
        have hgd : o.guard = none := by simpa using p3
        simp only [mOp, Bool.and_eq_true, beq_iff_eq] at hmr
        obtain ⟨⟨⟨q1, _⟩, q3⟩, q4⟩ := hmr
        rw [hgd] at q3
        have hg : r.g = none := by
          cases hg : r.g with
          | none => rfl
          | some p => rw [hg] at q3; simp [mG] at q3
        rw [k6 i hi o t x ho hd hx]
        rcases hP2 r (hnh i r hr hp0) with ⟨_, v, g2, g3⟩ | ⟨g1, _⟩
        · rw [g3 t (by rw [← q1, hd])]
          rw [hx] at q4
          cases hrr : r.r <;> rw [hrr] at q4 g2 <;> simp only [mR, Bool.false_eq_true] at q4
          · rename_i y
            simp only [evF, evQ, Option.some.injEq] at g2
            subst g2
            have hyt : ∀ n ∈ y.tmp, fr1.get n = fr.get n := by
              intro n hn
              refine hP1 n fun q hq hqd => ?_
              obtain ⟨j, hj⟩ := hidx q (.inl hq)
              have hb := seenOk_spec hS (hfaF i r hr).2.1 hr n (by simp [ROp.tmps, R.tmps, hrr, hn]) j q (hfaF j q hj).2.1 hj hqd
              have := anc_on (listed := Array.replicate ops.size false) hE (fun i o _ hon => absurd hon (hoff i)) i o ho (fun e he => by rw [hed] at he; cases he) j hb
              exact hoff j this
            rw [ev_congr hyt]
            have := ev_sound (T := T) (call := call) (iter := iter) hs.glob hs.fr q4
            exact RV.moves (hgo.moves hs.ok) _ _ (RV.upto hs.ok.falls _ _ this) this
          · simp [evF, evQ] at g2
          · simp [evF, evQ] at g2
        · rw [hg] at g1; simp [wants] at g1
      · rw [k5 t fun i hi o ho hd => hw ⟨i, hi, o, ho, hd⟩, hP1 t fun r hr hd => ?_]
        · exact (hs.fr.moves hs.ok hgo) t
        · obtain ⟨j, hj⟩ := hidx r (.inl hr)
          rcases (k1 j).1 (ht j r hj hd) with h | h
          · exact hoff j h
          · have hjs := (hfaF j r hj).2.1
            have ho : ops[j]? = some (ops[j]'hjs) := Array.getElem?_eq_getElem hjs
            have hmr := hfop j r _ hj ho
            simp only [mOp, Bool.and_eq_true, beq_iff_eq] at hmr
            exact hw ⟨j, h, _, ho, by rw [hmr.1.1.1, hd]⟩
/-- A region whose order is drawn. -/
theorem draw_sound (hJ : Jok ops J) (hC : CallOK P G call) (hmix : P.follows .mixedOrders = true) {id : Nat} {free tail : List ROp} (hD : mDraw P nt ops free tail = true) {m : Nat} (hmm : m ≤ topN stk + 1) (hs : SR G J nt ρ F stk w fr a) {fr' : Fr} {stk' : Stk}
    (hN : evDraw (Sys.real T G call iter) stk free fr = some (fr', stk')) {ex : Ex} {st' : St}
    (he : evOps (Sys.real T G call iter) tail ⟨fr', stk'⟩ = some (ex, st')) (hQ : CR G J nt m ρ F stk w Q ex st') : (Code.region id ops true).wp P Q a w := by
  unfold evDraw at hN
  unfold mDraw at hD
  cases hc : cutM free with
  | none =>
    rw [hc] at hN hD
    simp only at hN hD
    split at hN <;> try (cases hN; done)
    rename_i fr1 h1
    cases hN
    obtain ⟨p, _, hp⟩ := List.any_eq_true.1 hD
    exact drawP_sound hJ hC hmix hp hmm hs h1 he hQ
  | some q =>
    obtain ⟨A, m', B⟩ := q
    rw [hc] at hN hD
    simp only at hN hD
    obtain ⟨p, _, hp⟩ := List.any_eq_true.1 hD
    split at hN <;> try (cases hN; done)
    rename_i fr1 h1
    split at hN <;> try (cases hN; done)
    split at hN <;> try (cases hN; done)
    rename_i v s h2
    split at hN <;> try (cases hN; done)
    rename_i h3
    split at hN <;> try (cases hN; done)
    rename_i fr2 h4
    cases hN
    exact drawM_sound hJ hC hmix hc hp hmm hs h1 h2 h3 h4 he hQ
end
end Go.Abs
