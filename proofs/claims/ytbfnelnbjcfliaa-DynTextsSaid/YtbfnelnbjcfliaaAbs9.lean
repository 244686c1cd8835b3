import Derived.Test.YtbfnelnbjcfliaaAbs8
/-! The quiet operations, fifth part. -/
set_option linter.unusedVariables false
set_option linter.unusedSimpArgs false
namespace Go.Abs
section
variable {P : Program} {T : FuncId → Option RF} {G : Nat → Option (List D)} {call : CallF} {iter : (St → Rs) → St → Rs} {ρ : Rho} {F : Blks} {stk : Stk} {w : World} {fr : Fr} {a : Act}

theorem esz_eq {esz esz' : Nat} {y : D} {u : Value} (hv : Rv F w y u) (h1 : ∀ c ∈ u.cells.toList, c.oneCell' = true) (hu : u.cells.size = esz') (hy : y.cells.length = esz) : esz = esz' := by
  have := Rl_len (Rv_cells hv h1)
  simp at this
  omega

theorem q_iaddr (hok : Ok ρ F stk w) (hG : Glob G F w) (hfr : RFr ρ F stk w fr a.tmps) {o : Oper} {esz : Nat} {y z : Opd} (hm : mR P o.op (.iaddr esz y z) = true) {v : V}
    (he : evQ (Sys.real T G call iter) stk fr (.iaddr esz y z) = some v) : QR P ρ F stk w v (execOp a.eval o) := by
  obtain ⟨dst, op', type, pos, after, guard⟩ := o
  cases op' <;> simp only [mR, Bool.false_eq_true] at hm
  rename_i t x i
  simp only [Bool.and_eq_true] at hm
  obtain ⟨⟨h1, h2⟩, h3⟩ := hm
  have hx := ev_sound (T := T) (call := call) (iter := iter) hG hfr h2
  have hi := ev_sound (T := T) (call := call) (iter := iter) hG hfr h3
  cases hu : P.underlying t with
  | none => simp [hu] at h1
  | some d =>
    cases d <;> simp only [hu, Bool.false_eq_true] at h1
    rename_i e
    have run : ∀ k n b o len c, a.eval i = .int k n → a.eval x = .slice (some ⟨b, o, none⟩) len c → 0 ≤ n → n.toNat < len →
        (execOp a.eval ⟨dst, .indexAddr t x i, type, pos, after, guard⟩).run P w = .ok (.value (.pointer (some ⟨b, o + n.toNat * esz, none⟩))) w := by
      intro k n b o len c h4 h5 h6 h7
      simp only [execOp, Instr.indexAt, h4, h5, asIntOf, Sem.run_bind, Sem.run_pure, Result.andThen_ok, run_underlying hu]
      rw [if_pos ⟨h6, by omega⟩]
      simp only [Sem.run_bind, run_size h1, Sem.run_pure, Result.andThen_ok, Addr.add_off]
    simp only [evQ] at he
    split at he <;> try (cases he; done)
    rename_i k n hn
    rw [hn] at hi
    simp only [RV, Rv] at hi
    split at he <;> try (cases he; done)
    rename_i hneg
    have hneg' : ¬ n < 0 := by simpa [Sys.real] using hneg
    split at he <;> try (cases he; done)
    · rename_i xs hv
      rw [hv] at hx
      simp only [RV, Rv] at hx
      split at he <;> try (cases he; done)
      rename_i y hy
      have hy' : xs[n.toNat]? = some y := hy
      split at he <;> try (cases he; done)
      rename_i hfl
      split at he <;> try (cases he; done)
      rename_i hsz
      cases he
      obtain ⟨a0, c, hp, hle, hq⟩ := hx
      have hlt : n.toNat < xs.length := (List.getElem?_eq_some_iff.1 hy').1
      rcases hq with rfl | ⟨b, o, esz', ws, rfl, hF, hz, hre, hc⟩
      · simp at hlt
      obtain ⟨u, g1, g2, g3, g4⟩ := Re_at hre hy'
      have hes := esz_eq g3 g2 g1 hsz
      subst hes
      refine QR.same hok (run k n b o xs.length c hi hp (by omega) hlt) ?_
      simp only [RV, Rv]
      refine ⟨b, _, u.cells.toList, rfl, hF, Rv_cells g3 g2, ?_⟩
      rw [← g4]
      exact hc.seg _ _
    · rename_i l g o len hv
      rw [hv] at hx
      simp only [RV] at hx
      split at he <;> try (cases he; done)
      rename_i g' esz' xs hg
      split at he <;> try (cases he; done)
      rename_i heq
      subst heq
      split at he <;> try (cases he; done)
      rename_i hes
      subst hes
      split at he <;> try (cases he; done)
      rename_i hle
      cases he
      have hle' : n.toNat + 1 ≤ len := by simpa [Sys.real] using hle
      obtain ⟨g', esz', xs', hg', _, _, hp⟩ := hx
      rw [hg] at hg'
      simp only [Option.some.injEq, O.arr.injEq] at hg'
      obtain ⟨rfl, rfl, rfl⟩ := hg'
      obtain ⟨a0, c, h4, h5, h6, h7⟩ := hp rfl
      have hn0 : 0 ≤ n := Int.not_lt.1 hneg'
      have hc0 : 0 < c := Nat.lt_of_lt_of_le (Nat.lt_of_lt_of_le (Nat.succ_pos _) hle') h5
      have h8 := h7 hc0
      subst h8
      refine QR.same hok (run k n _ _ len c hi h4 hn0 hle') ?_
      simp only [RV]
      refine ⟨g, esz, xs, hg, ⟨_, _, rfl⟩, Nat.le_refl _, fun _ => ?_⟩
      have : (Sys.real T G call iter).nadd o ((Sys.real T G call iter).nat n) * esz + 0 = o * esz + n.toNat * esz := by
        show (o + n.toNat) * esz + 0 = _
        rw [Nat.add_mul]; rfl
      rw [this]

theorem q_aaddr (hok : Ok ρ F stk w) (hG : Glob G F w) (hfr : RFr ρ F stk w fr a.tmps) {o : Oper} {len esz : Nat} {y z : Opd} (hm : mR P o.op (.aaddr len esz y z) = true) {v : V}
    (he : evQ (Sys.real T G call iter) stk fr (.aaddr len esz y z) = some v) : QR P ρ F stk w v (execOp a.eval o) := by
  obtain ⟨dst, op', type, pos, after, guard⟩ := o
  cases op' <;> simp only [mR, Bool.false_eq_true] at hm
  rename_i t x i
  simp only [Bool.and_eq_true] at hm
  obtain ⟨⟨h1, h2⟩, h3⟩ := hm
  have hx := ev_sound (T := T) (call := call) (iter := iter) hG hfr h2
  have hi := ev_sound (T := T) (call := call) (iter := iter) hG hfr h3
  cases hu : P.underlying t with
  | none => simp [hu] at h1
  | some d =>
    cases d <;> simp only [hu, Bool.false_eq_true] at h1
    rename_i n0 e
    simp only [Bool.and_eq_true, beq_iff_eq] at h1
    obtain ⟨rfl, h1⟩ := h1
    have run : ∀ k n b o, a.eval i = .int k n → a.eval x = .pointer (some ⟨b, o, none⟩) → 0 ≤ n → n.toNat < n0 →
        (execOp a.eval ⟨dst, .indexAddr t x i, type, pos, after, guard⟩).run P w = .ok (.value (.pointer (some ⟨b, o + n.toNat * esz, none⟩))) w := by
      intro k n b o h4 h5 h6 h7
      simp only [execOp, Instr.indexAt, h4, h5, asIntOf, Sem.run_bind, Sem.run_pure, Result.andThen_ok, run_underlying hu, Instr.sureAddr]
      rw [if_pos ⟨h6, by omega⟩]
      simp only [Sem.run_bind, run_size h1, Sem.run_pure, Result.andThen_ok, Addr.add_off]
    simp only [evQ] at he
    split at he <;> try (cases he; done)
    rename_i k n hn
    rw [hn] at hi
    simp only [RV, Rv] at hi
    split at he <;> try (cases he; done)
    rename_i hneg
    have hneg' : ¬ n < 0 := by simpa [Sys.real] using hneg
    split at he <;> try (cases he; done)
    rename_i hle
    have hle' : n.toNat + 1 ≤ n0 := by simpa [Sys.real] using hle
    split at he <;> try (cases he; done)
    · rename_i l o hv
      rw [hv] at hx
      cases he
      simp only [RV] at hx
      refine QR.same hok (run k n _ _ hi hx.1 (by omega) (by omega)) ?_
      simp only [RV]
      exact ⟨rfl, hx.2⟩
    · rename_i cs hv
      rw [hv] at hx
      simp only [RV, Rv] at hx
      obtain ⟨b, o, ws, hp, hb, hl, hc⟩ := hx
      split at he <;> try (cases he; done)
      rename_i hle2
      cases he
      refine QR.same hok (run k n _ _ hi hp (by omega) (by omega)) ?_
      simp only [RV, Rv]
      have e1 : (Sys.real T G call iter).cut cs ((Sys.real T G call iter).nat n * esz) cs.length = cs.drop (n.toNat * esz) := by
        show (cs.take cs.length).drop (n.toNat * esz) = _
        rw [List.take_length]
      rw [e1]
      refine ⟨b, o + n.toNat * esz, ws.drop (n.toNat * esz), rfl, hb, Rl_drop _ hl, ?_⟩
      intro j u hj
      rw [List.getElem?_drop] at hj
      rw [Nat.add_assoc]
      exact hc _ u hj

/-! ### Slices -/
theorem bound_run {x : V} {u : Value} {n y : Nat} {dflt : Nat} {code : BoundsCode} (hv : RV ρ F stk w x u) (h : asNat (Sys.real T G call iter) (some x) dflt = some n) (hle : n ≤ y) : (Instr.sliceBound u y code).run P w = .ok n w := by
  unfold asNat at h
  split at h
  · rename_i heq; cases heq
  · rename_i k m heq
    cases heq
    split at h <;> try (cases h; done)
    rename_i hneg
    have hneg' : ¬ m < 0 := by simpa [Sys.real] using hneg
    have hn : m.toNat = n := by simpa [Sys.real] using h
    simp only [RV, Rv] at hv
    subst hv
    simp only [Instr.sliceBound, asIntOf, Sem.run_bind, Sem.run_pure, Result.andThen_ok]
    rw [if_pos ⟨by omega, by omega⟩, hn]
    rfl
  · cases h
theorem evO_sound (hG : Glob G F w) (hfr : RFr ρ F stk w fr a.tmps) {x : Option Operand} {y : Option Opd} (h : mOO x y = true) :
    (x = none ∧ y = none) ∨ ∃ x' y', x = some x' ∧ y = some y' ∧ RV ρ F stk w (y'.ev (Sys.real T G call iter) fr) (a.eval x') := by
  cases x <;> cases y <;> simp only [mOO, Bool.false_eq_true] at h
  · exact .inl ⟨rfl, rfl⟩
  · exact .inr ⟨_, _, rfl, rfl, ev_sound hG hfr h⟩
theorem bounds_run (hG : Glob G F w) (hfr : RFr ρ F stk w fr a.tmps) {lo hi : Option Operand} {lo' hi' : Option Opd} (hl : mOO lo lo' = true) (hh : mOO hi hi' = true) {l h len cap : Nat} (isS : Bool)
    (el : asNat (Sys.real T G call iter) (evO (Sys.real T G call iter) fr lo') 0 = some l) (eh : asNat (Sys.real T G call iter) (evO (Sys.real T G call iter) fr hi') len = some h) (hle : l ≤ h) (hle2 : h ≤ len) (hle3 : len ≤ cap) :
    (Instr.sliceBounds isS len cap (lo.map a.eval) (hi.map a.eval) none).run P w = .ok (l, h, cap) w := by
  unfold Instr.sliceBounds
  rcases evO_sound (T := T) (call := call) (iter := iter) hG hfr hh with ⟨rfl, rfl⟩ | ⟨x', y', rfl, rfl, hv⟩
  · simp only [evO, asNat, Option.some.injEq] at eh
    subst eh
    rcases evO_sound (T := T) (call := call) (iter := iter) hG hfr hl with ⟨rfl, rfl⟩ | ⟨x', y', rfl, rfl, hv2⟩
    · simp only [evO, asNat, Option.some.injEq] at el
      subst el; rfl
    · have := bound_run (P := P) (code := .sliceB) hv2 el hle
      simp [this]
  · have h1 := bound_run (P := P) (y := cap) (code := if isS then .sliceAcap else .sliceAlen) hv eh (by omega)
    rcases evO_sound (T := T) (call := call) (iter := iter) hG hfr hl with ⟨rfl, rfl⟩ | ⟨x', y', rfl, rfl, hv2⟩
    · simp only [evO, asNat, Option.some.injEq] at el
      subst el
      simp [h1]
    · have := bound_run (P := P) (code := .sliceB) hv2 el hle
      simp [h1, this]

theorem q_slice (hok : Ok ρ F stk w) (hG : Glob G F w) (hfr : RFr ρ F stk w fr a.tmps) {o : Oper} {esz : Nat} {y : Opd} {lo' hi' : Option Opd} (hm : mR P o.op (.slice esz y lo' hi') = true) {v : V}
    (he : evQ (Sys.real T G call iter) stk fr (.slice esz y lo' hi') = some v) : QR P ρ F stk w v (execOp a.eval o) := by
  obtain ⟨dst, op', type, pos, after, guard⟩ := o
  cases op' <;> try (simp only [mR, Bool.false_eq_true] at hm; done)
  rename_i t x lo hi mx
  cases mx <;> simp only [mR, Bool.false_eq_true] at hm
  simp only [Bool.and_eq_true] at hm
  obtain ⟨⟨⟨h1, h2⟩, hl⟩, hh⟩ := hm
  have hx := ev_sound (T := T) (call := call) (iter := iter) hG hfr h2
  simp only [evQ] at he
  split at he <;> try (cases he; done)
  · -- a text
    rename_i s hv
    rw [hv] at hx
    simp only [RV, Rv] at hx
    split at he <;> try (cases he; done)
    rename_i hes
    subst hes
    split at he <;> try (cases he; done)
    rename_i l h el eh
    split at he <;> try (cases he; done)
    rename_i hle
    split at he <;> try (cases he; done)
    rename_i hle2
    cases he
    have hle' : l ≤ h := by simpa [Sys.real] using hle
    have hle2' : h ≤ s.length := by simpa [Sys.real] using hle2
    cases hu : P.underlying t with
    | none => simp [hu] at h1
    | some d =>
      cases d <;> simp only [hu, Bool.false_eq_true] at h1
      · refine QR.same hok (v' := .string ((⟨⟨s⟩⟩ : ByteArray).extract l h)) ?_ ?_
        · have hb := bounds_run (P := P) hG hfr hl hh (len := s.length) (cap := s.length) false el eh hle' hle2' (Nat.le_refl _)
          have hsz : (⟨⟨s⟩⟩ : ByteArray).size = s.length := rfl
          simp only [execOp, Instr.sliceAt, Instr.slice, hx, Sem.run_bind, Sem.run_pure, Result.andThen_ok, run_underlying hu, Option.map_none, Option.isSome_none, Bool.false_eq_true, if_false, hsz, hb]
        · simp only [RV, Rv, Sys.real, Value.string.injEq]
          apply ByteArray.ext
          apply Array.ext'
          simp [List.extract_eq_take_drop, List.drop_take]
      · simp at h1
  · -- data
    rename_i xs hv
    rw [hv] at hx
    simp only [RV, Rv] at hx
    obtain ⟨a0, c, hp, hlc, hq⟩ := hx
    split at he <;> try (cases he; done)
    rename_i hes
    split at he <;> try (cases he; done)
    rename_i l h el eh
    split at he <;> try (cases he; done)
    rename_i hle
    split at he <;> try (cases he; done)
    rename_i hle2
    split at he <;> try (cases he; done)
    rename_i hall
    cases he
    have hle' : l ≤ h := by simpa [Sys.real] using hle
    have hle2' : h ≤ xs.length := by simpa [Sys.real] using hle2
    have hall' : allSz esz xs = true := hall
    cases hu : P.underlying t with
    | none => simp [hu] at h1
    | some d =>
      cases d <;> simp only [hu, Bool.false_eq_true] at h1
      · simp only [beq_iff_eq] at h1; exact absurd h1 hes
      rename_i e
      simp only [Bool.and_eq_true] at h1
      have hb := bounds_run (P := P) hG hfr hl hh (len := xs.length) (cap := c) true el eh hle' hle2' hlc
      refine QR.same hok (v' := .slice (if c = l then a0 else a0.map (·.add (l * esz))) (h - l) (c - l)) ?_ ?_
      · simp only [execOp, Instr.sliceAt, Instr.slice, hp, Sem.run_bind, Sem.run_pure, Result.andThen_ok, run_underlying hu, Option.map_none, hb, run_size h1.1]
      · have hcut : (Sys.real T G call iter).cut xs l h = (xs.take h).drop l := rfl
        rw [hcut]
        simp only [RV, Rv]
        have hlen : ((xs.take h).drop l).length = h - l := by simp; omega
        refine ⟨_, c - l, by rw [hlen], by rw [hlen]; omega, ?_⟩
        by_cases hz : h = l
        · left; apply List.eq_nil_of_length_eq_zero; omega
        · right
          rcases hq with rfl | ⟨b, o, esz', ws, rfl, hF, hz', hre, hc⟩
          · simp at hle2'; omega
          have hes2 : esz = esz' := by
            obtain ⟨x0, hx0⟩ : ∃ x0, xs[l]? = some x0 := ⟨xs[l]'(by omega), List.getElem?_eq_getElem (by omega)⟩
            obtain ⟨u, g1, g2, g3, g4⟩ := Re_at hre hx0
            have := List.all_eq_true.1 hall' x0 (List.mem_of_getElem? hx0)
            simp only [Bool.and_eq_true, decide_eq_true_eq] at this
            exact esz_eq g3 g2 g1 this.2
          subst hes2
          rw [if_neg (by omega)]
          refine ⟨b, o + l * esz, esz, (ws.take (h * esz)).drop (l * esz), by simp [Addr.add_off], hF, hz', Re_drop l (Re_take h hre), ?_⟩
          have hd : (ws.take (h * esz)).drop (l * esz) = (ws.drop (l * esz)).take ((h - l) * esz) := by
            rw [List.drop_take]; congr 1; rw [Nat.sub_mul]
          rw [hd]
          exact hc.seg _ _
  · -- a slice that is grown
    rename_i l0 g o n hv
    rw [hv] at hx
    simp only [RV] at hx
    split at he <;> try (cases he; done)
    rename_i hes
    split at he <;> try (cases he; done)
    rename_i g' esz' xs hg
    split at he <;> try (cases he; done)
    rename_i heq
    subst heq
    split at he <;> try (cases he; done)
    rename_i hes2
    subst hes2
    split at he <;> try (cases he; done)
    rename_i l h el eh
    split at he <;> try (cases he; done)
    rename_i hle
    split at he <;> try (cases he; done)
    rename_i hle2
    cases he
    have hle' : l ≤ h := by simpa [Sys.real] using hle
    have hle2' : h ≤ n := by simpa [Sys.real] using hle2
    obtain ⟨g', esz', xs', hg', _, _, hp⟩ := hx
    rw [hg] at hg'
    simp only [Option.some.injEq, O.arr.injEq] at hg'
    obtain ⟨rfl, rfl, rfl⟩ := hg'
    obtain ⟨a0, c, h4, h5, h6, h7⟩ := hp rfl
    cases hu : P.underlying t with
    | none => simp [hu] at h1
    | some d =>
      cases d <;> simp only [hu, Bool.false_eq_true] at h1
      · simp only [beq_iff_eq] at h1; exact absurd h1 hes
      rename_i e
      simp only [Bool.and_eq_true] at h1
      have hb := bounds_run (P := P) hG hfr hl hh (len := n) (cap := c) true el eh hle' hle2' h5
      refine QR.same hok (v' := .slice (if c = l then a0 else a0.map (·.add (l * esz))) (h - l) (c - l)) ?_ ?_
      · simp only [execOp, Instr.sliceAt, Instr.slice, h4, Sem.run_bind, Sem.run_pure, Result.andThen_ok, run_underlying hu, Option.map_none, hb, run_size h1.1]
      · show RV ρ F stk w (.msl l0 g (o + l) (h - l)) _
        simp only [RV]
        refine ⟨g, esz, xs, hg, ⟨_, _, rfl⟩, Nat.le_refl _, fun _ => ⟨_, _, rfl, by omega, by omega, fun h8 => ?_⟩⟩
        rw [if_neg (by omega), h7 (by omega)]
        simp [Addr.add_off, Nat.add_mul]
end
end Go.Abs
