import Derived.Test.YtbfnelnbjcfliaaAbs21
import Derived.ProofKit
/-! From a law's equation to its contract; what is handed in, as data. -/
set_option linter.unusedVariables false
set_option linter.unusedSimpArgs false
namespace Go.Abs
/-- All that is there. -/
def allOf (W : World) : Blks := fun b => b < W.heap.size
theorem ok_empty (W : World) (ρ : Rho) : Ok ρ (allOf W) [] W where
  objs l o h := by simp [getO] at h
  inj l l' h := by simp [has, getO] at h
  sep l h := by simp [has, getO] at h
  lt b h := h
  falls := trivial
  scope l o h := by simp [getO] at h
/-- A law that comes to true. -/
theorem law_calls {P : Program} {G : Nat → Option (List D)} {call : CallF} (hC : CallOK P G call) {f : FuncId} {vs : List V} {stk' : Stk} (h : call f vs [] = some (.ret (.d (.bool true)), stk'))
    {W : World} {args : Array Value} (hG : Glob G (allOf W) W) (ha : RVt (fun _ => ⟨0, 0⟩) (allOf W) [] W vs args.toList) (hlt : f < hB := by decide) :
    Calls P f args W fun e W' => e = .returned (.bool true) ∧ RowKit.Below W.heap.size W W' := by
  obtain ⟨_, h2⟩ := (hC _ _ _ _ _ h).1 hlt
  have := h2 _ _ W args.toList (ok_empty W _) hG ha
  rw [Array.toArray_toList] at this
  refine this.mono fun e W' hh => ?_
  obtain ⟨ρ', F', g1, g2, g3, g4⟩ := hh
  cases e with
  | returned u =>
    simp only [OutE, RV, Rv] at g4
    subst g4
    exact ⟨rfl, ⟨g1.os, g1.tape, g1.output, g1.size, fun b hb => g1.frame b hb fun l hl => by simp [has, getO] at hl⟩⟩
  | panicked ch => exact g4.elim
  | outgrown => exact g4.elim
theorem glob_none (F : Blks) (W : World) : Glob (fun _ => none) F W := fun g cs h => by cases h

/-! ## What is handed in -/
section
variable (P : Program)
/-- An array's elements, as fields. -/
def arrF (n e k : Nat) : List Field := (List.range n).map fun i => { name := "", type := e, offset := i * k, embedded := false, tag := "", pkgPath := "", byteOffset := 0 }
/-- The cells of a value of a type. -/
def CT : Nat → TypeId → List D → Prop
  | 0, _, _ => False
  | n + 1, t, xs => match P.underlying t with
    | some .bool => ∃ b, xs = [.bool b]
    | some (.int k) => ∃ m, xs = [.int k m] ∧ (Lit.int k m).wf = true
    | some (.float k) => ∃ m, xs = [.float k m]
    | some .string => ∃ s : Str, xs = [.str s] ∧ s.length ≤ maxLen
    | some (.pointer e) => xs = [.nilp] ∨ ∃ ys, xs = [.iptr ys] ∧ ys.length = P.cellsOf e ∧ CT n e ys
    | some (.slice e) => xs = [.nils] ∨ ∃ ys, xs = [.sl ys] ∧ ys.length ≤ maxLen ∧ ∀ y ∈ ys, D.flat y = true ∧ y.cells.length = P.cellsOf e ∧ (tAgg P e = true → ∃ zs, y = .agg zs) ∧ (tAgg P e = false → y.cells = [y]) ∧ CT n e y.cells
    | some (.struct fs) => xs.length = P.cellsOf t ∧ ∀ f ∈ fs.toList, CT n f.type ((xs.drop f.offset).take (P.cellsOf f.type))
    | some (.array k e) => xs.length = P.cellsOf t ∧ ∀ f ∈ arrF k e (P.cellsOf e), CT n f.type ((xs.drop f.offset).take (P.cellsOf f.type))
    | _ => False
def tiled : Nat → List Field → Nat → Bool
  | i, [], n => i == n
  | i, f :: r, n => f.offset == i && tiled (i + P.cellsOf f.type) r n
/-- A set of types that is closed, of the kinds that are covered. -/
def covB (S : List TypeId) : Bool := S.all fun t => match P.underlying t with
  | some .bool | some (.int _) | some (.float _) | some .string => true
  | some (.pointer e) => S.contains e && decide (0 < P.cellsOf e)
  | some (.slice e) => S.contains e && decide (0 < P.cellsOf e) && (tAgg P e || P.cellsOf e == 1)
  | some (.struct fs) => fs.toList.all (fun f => S.contains f.type) && tiled P 0 fs.toList (P.cellsOf t)
  | some (.array n e) => (arrF n e (P.cellsOf e)).all (fun f => S.contains f.type) && tiled P 0 (arrF n e (P.cellsOf e)) (P.cellsOf t)
  | _ => false
end
section
variable {P : Program} {H : Type} {enc : TypeId × Value → H} {W : World}
theorem Rl_keepD {F : Blks} {w : World} {xs : List D} {us : List Value} (h : Rl F w xs us) : xs.length = us.length := (Rl_len h).symm
theorem cells?_some {a : Addr} {n : Nat} {ws : List Value} (h : W.cells? 0 a n = some ws) : ws.length = n ∧ ∀ j u, ws[j]? = some u → W.cell? (a.add j) = some u := by
  simp only [World.cells?, Nat.zero_le, if_true] at h
  have key : ∀ (l : List Nat) (ws : List Value), (l.mapM fun i => W.cell? (a.add i)) = some ws → ws.length = l.length ∧ ∀ (j : Nat) u, ws[j]? = some u → ∃ i, l[j]? = some i ∧ W.cell? (a.add i) = some u := by
    intro l
    induction l with
    | nil => intro ws h; simp at h; subst h; simp
    | cons i r ih =>
      intro ws h
      simp only [List.mapM_cons, Option.bind_eq_bind, Option.pure_def] at h
      cases h1 : W.cell? (a.add i) with
      | none => simp [h1] at h
      | some u0 =>
        cases h2 : r.mapM (fun i => W.cell? (a.add i)) with
        | none => simp [h1, h2] at h
        | some rest =>
          simp [h1, h2] at h
          subst h
          obtain ⟨i1, i2⟩ := ih rest h2
          refine ⟨by simp [i1], fun j u hj => ?_⟩
          cases j with
          | zero => simp at hj; subst hj; exact ⟨i, rfl, h1⟩
          | succ j => simpa using i2 j u (by simpa using hj)
  obtain ⟨k1, k2⟩ := key _ _ h
  refine ⟨by simpa using k1, fun j u hj => ?_⟩
  obtain ⟨i, h1, h2⟩ := k2 j u hj
  have hj' : j < n := by
    have := (List.getElem?_eq_some_iff.1 hj).1
    simp at k1; omega
  rw [List.getElem?_range hj'] at h1
  cases h1
  exact h2
/-- Addresses in what is handed in are plain. -/
theorem spot_none {a : Addr} {u : Value} (h : W.cell? a = some u) : a.spot = none ∧ a.block < W.heap.size := by
  unfold World.cell? at h
  split at h
  · rename_i c t f hb
    split at h
    · cases h
    · rename_i hs
      refine ⟨?_, (Array.getElem?_eq_some_iff.1 hb).1⟩
      cases hsp : a.spot with
      | none => rfl
      | some _ => simp [hsp] at hs
  · cases h

theorem mapM_spec {α β : Type} {g : α → Option β} : ∀ {l : List α} {r : List β}, l.mapM g = some r → r.length = l.length ∧ ∀ (i : Nat) (x : α), l[i]? = some x → ∃ y, r[i]? = some y ∧ g x = some y
  | [], r, h => by simp at h; subst h; simp
  | x :: l, r, h => by
    simp only [List.mapM_cons, Option.bind_eq_bind, Option.pure_def] at h
    cases h1 : g x with
    | none => simp [h1] at h
    | some y =>
      cases h2 : l.mapM g with
      | none => simp [h1, h2] at h
      | some r' =>
        simp [h1, h2] at h
        subst h
        obtain ⟨i1, i2⟩ := mapM_spec h2
        refine ⟨by simp [i1], fun i x' hi => ?_⟩
        cases i with
        | zero => simp at hi; subst hi; exact ⟨y, rfl, h1⟩
        | succ i => simpa using i2 i x' (by simpa using hi)
theorem Addr.add_none {a : Addr} (h : a.spot = none) (j : Nat) : a.add j = ⟨a.block, a.off + j, none⟩ := by
  obtain ⟨b, o, s⟩ := a
  simp at h; subst h
  exact Addr.add_off b o j
/-- A struct's parts. -/
theorem open_parts {n : Nat} {g : Field → List Value → Option (DataW H × List MemPlace)} (hg : ∀ f ws x, g f ws = some x → ∃ xs, Rl (allOf W) W xs ws ∧ CT P n f.type xs) {cs : List Value} :
    ∀ {fs : List Field} {i : Nat} {l : List (DataW H × List MemPlace)}, tiled P i fs cs.length = true → fs.mapM (fun f => g f ((cs.drop f.offset).take (P.cellsOf f.type))) = some l → i ≤ cs.length →
      ∃ xs, Rl (allOf W) W xs (cs.drop i) ∧ ∀ f ∈ fs, i ≤ f.offset ∧ CT P n f.type ((xs.drop (f.offset - i)).take (P.cellsOf f.type))
  | [], i, l, ht, h, hi => by
    simp only [tiled, beq_iff_eq] at ht
    subst ht
    exact ⟨[], by simp [Rl], fun f hf => by cases hf⟩
  | f :: fs, i, l, ht, h, hi => by
    simp only [tiled, Bool.and_eq_true, beq_iff_eq] at ht
    obtain ⟨rfl, ht⟩ := ht
    simp only [List.mapM_cons, Option.bind_eq_bind, Option.pure_def] at h
    cases h1 : g f ((cs.drop f.offset).take (P.cellsOf f.type)) with
    | none => simp [h1] at h
    | some x =>
      cases h2 : fs.mapM (fun f => g f ((cs.drop f.offset).take (P.cellsOf f.type))) with
      | none => simp [h1, h2] at h
      | some r =>
        have hle : f.offset + P.cellsOf f.type ≤ cs.length := by
          have : ∀ {fs : List Field} {i : Nat}, tiled P i fs cs.length = true → i ≤ cs.length := by
            intro fs
            induction fs with
            | nil => intro i h; simp only [tiled, beq_iff_eq] at h; omega
            | cons g r ih => intro i h; simp only [tiled, Bool.and_eq_true, beq_iff_eq] at h; have := ih h.2; omega
          exact this ht
        obtain ⟨ys, k1, k2⟩ := hg _ _ _ h1
        obtain ⟨zs, m1, m2⟩ := open_parts hg ht h2 hle
        have hyl : ys.length = P.cellsOf f.type := by
          have := Rl_len k1; simp at this; omega
        refine ⟨ys ++ zs, ?_, fun q hq => ?_⟩
        · have e : cs.drop f.offset = (cs.drop f.offset).take (P.cellsOf f.type) ++ cs.drop (f.offset + P.cellsOf f.type) := by
            rw [← List.drop_drop, List.take_append_drop]
          rw [e]
          exact Rl_append k1 m1
        · rcases List.mem_cons.1 hq with rfl | hq
          · refine ⟨Nat.le_refl _, ?_⟩
            rw [Nat.sub_self, List.drop_zero, ← hyl, List.take_left]
            exact k2
          · obtain ⟨q1, q2⟩ := m2 q hq
            refine ⟨by omega, ?_⟩
            have e : (ys ++ zs).drop (q.offset - f.offset) = zs.drop (q.offset - (f.offset + P.cellsOf f.type)) := by
              rw [List.drop_append, List.drop_eq_nil_of_le (by omega), List.nil_append]
              congr 1; omega
            rw [e]; exact q2
/-- A slice's elements. -/
theorem open_row {n : Nat} {e : TypeId} {sz : Nat} (hsz : P.cellsOf e = sz) (h0 : 0 < sz) (hag : (tAgg P e || sz == 1) = true) {a : Addr} {g : List Value → Option (DataW H × List MemPlace)} (hg : ∀ ws x, g ws = some x → ∃ xs, Rl (allOf W) W xs ws ∧ CT P n e xs) :
    ∀ (len s : Nat) {l : List (DataW H × List MemPlace)}, (List.range' s len).mapM (fun i => (W.cells? 0 (a.add (i * sz)) sz).bind g) = some l →
      ∃ xs ws, xs.length = len ∧ Re (allOf W) W sz xs ws ∧ (∀ y ∈ xs, D.flat y = true ∧ y.cells.length = sz ∧ (tAgg P e = true → ∃ zs, y = .agg zs) ∧ (tAgg P e = false → y.cells = [y]) ∧ CT P n e y.cells) ∧
        (len ≠ 0 → a.spot = none → a.block < W.heap.size ∧ Cells W a.block (a.off + s * sz) ws) ∧ (len ≠ 0 → (a.add (s * sz)).spot = none)
  | 0, s, l, h => ⟨[], [], rfl, by simp [Re], fun y hy => (by cases hy), fun h => absurd rfl h, fun h => absurd rfl h⟩
  | len + 1, s, l, h => by
    rw [List.range'_succ] at h
    simp only [List.mapM_cons, Option.bind_eq_bind, Option.pure_def] at h
    cases h1 : W.cells? 0 (a.add (s * sz)) sz with
    | none => simp [h1] at h
    | some ws0 =>
      cases h2 : g ws0 with
      | none => simp [h1, h2] at h
      | some x =>
        cases h3 : (List.range' (s + 1) len).mapM (fun i => (W.cells? 0 (a.add (i * sz)) sz).bind g) with
        | none => simp [h1, h2, h3] at h
        | some r =>
          obtain ⟨ys, k1, k2⟩ := hg _ _ h2
          obtain ⟨xs, ws, q1, q2, q3, q4, q5⟩ := open_row hsz h0 hag hg len (s + 1) h3
          obtain ⟨c1, c2⟩ := cells?_some h1
          have hyl := Rl_len k1
          have hspot : (a.add (s * sz)).spot = none := by
            have hlt : 0 < ws0.length := by omega
            have := c2 0 ws0[0] (List.getElem?_eq_getElem hlt)
            have h4 := (spot_none this).1
            have e : ((a.add (s * sz)).add 0).spot = none → (a.add (s * sz)).spot = none := by
              intro h
              unfold Addr.add at h ⊢
              split at h <;> simp_all
            exact e h4
          -- the element
          have hel : ∃ y u, D.flat y = true ∧ y.cells.length = sz ∧ (tAgg P e = true → ∃ zs, y = .agg zs) ∧ (tAgg P e = false → y.cells = [y]) ∧ CT P n e y.cells ∧ Rv (allOf W) W y u ∧ u.cells.toList = ws0 ∧ (∀ c ∈ ws0, c.oneCell' = true) := by
            have hone := Rl_one k1
            by_cases hA : tAgg P e = true
            · refine ⟨.agg ys, .agg ws0.toArray, rfl, by simp [D.cells]; omega, fun _ => ⟨ys, rfl⟩, fun h => absurd hA (by simp [h]), by simpa [D.cells] using k2, ?_, by simp [Value.cells], hone⟩
              simp only [Rv]
              exact ⟨_, rfl, by simpa using k1⟩
            · have hs1 : sz = 1 := by
                simp only [Bool.or_eq_true, beq_iff_eq] at hag
                exact hag.resolve_left hA
              subst hs1
              obtain ⟨u, rfl⟩ := List.length_eq_one_iff.1 c1
              obtain ⟨y, rfl⟩ := List.length_eq_one_iff.1 (show ys.length = 1 by omega)
              simp only [Rl] at k1
              obtain ⟨u', us', e1, o1, r1, e2⟩ := k1
              cases e1
              have huc : u.cells.toList = [u] := by cases u <;> first | rfl | (cases o1)
              have hyf : D.flat y = true ∧ y.cells = [y] := by
                cases y <;> first
                  | exact ⟨rfl, rfl⟩
                  | (exfalso; simp only [Rv] at r1; obtain ⟨_, rfl, _⟩ := r1; cases o1)
              exact ⟨y, u, hyf.1, by rw [hyf.2]; rfl, fun h => absurd h hA, fun _ => hyf.2, by rw [hyf.2]; exact k2, r1, huc, hone⟩
          obtain ⟨y, u, e1, e2, e3, e3', e4, e5, e6, e7⟩ := hel
          refine ⟨y :: xs, ws0 ++ ws, by simp [q1], ?_, ?_, ?_, fun _ => hspot⟩
          · simp only [Re]
            exact ⟨u, ws, by rw [e6], by have := congrArg List.length e6; simp at this; omega, by rw [e6]; exact List.all_eq_true.2 e7, e5, q2⟩
          · intro z hz
            rcases List.mem_cons.1 hz with rfl | hz
            · exact ⟨e1, e2, e3, e3', e4⟩
            · exact q3 z hz
          · intro _ hsp
            have hlt : 0 < ws0.length := by omega
            have hb := (spot_none (c2 0 ws0[0] (List.getElem?_eq_getElem hlt))).2
            rw [Addr.add_none hsp, Addr.add_off] at hb
            refine ⟨hb, ?_⟩
            intro j v hj
            by_cases hjl : j < ws0.length
            · rw [List.getElem?_append_left hjl] at hj
              have := c2 j v hj
              rw [Addr.add_none hsp, Addr.add_off] at this
              exact this
            · rw [List.getElem?_append_right (by omega)] at hj
              by_cases hl0 : len = 0
              · subst hl0
                have : ws = [] := List.eq_nil_of_length_eq_zero (by rw [Re_len q2, q1]; simp)
                subst this; simp at hj
              · have := (q4 hl0 hsp).2 _ v hj
                rw [Nat.add_mul, Nat.one_mul] at this
                rw [show a.off + s * sz + j = a.off + (s * sz + sz) + (j - ws0.length) by omega]
                exact this
/-- What is handed in, is data. -/
theorem opens {S : List TypeId} (hS : covB P S = true) {spare : Nat → Bool} : ∀ (fuel : Nat) (t : TypeId) (cs : List Value) (x : DataW H × List MemPlace), t ∈ S → DataW.trod enc P W 0 spare true fuel t cs = some x → ∃ xs, Rl (allOf W) W xs cs ∧ CT P fuel t xs
  | 0, t, cs, x, _, h => by simp [DataW.trod] at h
  | fuel + 1, t, cs, x, ht, h => by
    have ih := opens hS (spare := spare) fuel
    have hcov := List.all_eq_true.1 hS t ht
    have one : ∀ {y : D} {v : Value}, v.oneCell' = true → Rv (allOf W) W y v → Rl (allOf W) W [y] [v] := fun h1 h2 => by
      simp only [Rl]; exact ⟨_, [], rfl, h1, h2, rfl⟩
    cases hu : P.underlying t with
    | none => simp [hu] at hcov
    | some dsc =>
      simp only [hu] at hcov
      unfold DataW.trod at h
      simp only [hu] at h
      unfold CT
      simp only [hu]
      cases dsc <;> simp only [Bool.false_eq_true] at hcov
      case bool =>
        match cs, h with
        | [.bool b], h => exact ⟨[.bool b], one rfl (by simp [Rv]), b, rfl⟩
      case int k =>
        match cs, h with
        | [.int k' n], h =>
          simp only at h
          split at h <;> try (cases h; done)
          rename_i hk
          obtain ⟨rfl, hw⟩ := hk
          exact ⟨[.int k' n], one rfl (by simp [Rv]), n, rfl, hw⟩
      case float k =>
        match cs, h with
        | [.float k' n], h =>
          simp only at h
          split at h <;> try (cases h; done)
          rename_i hk
          obtain ⟨rfl, hw⟩ := hk
          exact ⟨[.float k' n], one rfl (by simp [Rv]), n, rfl⟩
      case string =>
        match cs, h with
        | [.string s], h =>
          simp only at h
          split at h <;> try (cases h; done)
          rename_i hs
          refine ⟨[.str s.data.toList], one rfl (by simp [Rv]), _, rfl, ?_⟩
          simpa using hs
      case pointer e =>
        match cs, h with
        | [.pointer none], h => exact ⟨[.nilp], one rfl (by simp [Rv]), .inl rfl⟩
        | [.pointer (some a)], h =>
          simp only [Option.map_eq_some_iff, Option.bind_eq_some_iff] at h
          obtain ⟨y, ⟨ws, h1, h2⟩, _⟩ := h
          obtain ⟨c1, c2⟩ := cells?_some h1
          simp only [Bool.and_eq_true, decide_eq_true_eq] at hcov
          obtain ⟨ys, k1, k2⟩ := ih e ws y (by simpa using hcov.1) h2
          have hyl := Rl_len k1
          have hlt : 0 < ws.length := by omega
          have h0 := c2 0 ws[0] (List.getElem?_eq_getElem hlt)
          have ha : a.add 0 = a := by unfold Addr.add; simp
          rw [ha] at h0
          obtain ⟨hsp, hb⟩ := spot_none h0
          refine ⟨[.iptr ys], one rfl ?_, .inr ⟨ys, rfl, by omega, k2⟩⟩
          simp only [Rv]
          refine ⟨a.block, a.off, ws, ?_, hb, k1, fun j u hj => ?_⟩
          · obtain ⟨b, o, sp⟩ := a
            simp at hsp; subst hsp; rfl
          · have := c2 j u hj
            rwa [Addr.add_none hsp] at this
      case slice e =>
        simp only [Bool.and_eq_true, decide_eq_true_eq] at hcov
        match cs, h with
        | [.slice none 0 0], h => exact ⟨[.nils], one rfl (by simp [Rv]), .inl rfl⟩
        | [.slice (some a) len cap], h =>
          simp only at h
          split at h <;> try (cases h; done)
          rename_i hb
          obtain ⟨_, hb1, hb2⟩ := hb
          simp only [Option.bind_eq_some_iff] at h
          obtain ⟨elems, h1, _⟩ := h
          rw [List.range_eq_range'] at h1
          obtain ⟨xs, ws, q1, q2, q3, q4, q5⟩ := open_row (n := fuel) (e := e) rfl hcov.1.2 hcov.2 (fun ws y hy => ih e ws y (by simpa using hcov.1.1) hy) len 0 h1
          refine ⟨[.sl xs], one rfl ?_, .inr ⟨xs, rfl, by omega, q3⟩⟩
          simp only [Rv]
          refine ⟨some a, cap, by rw [q1], by omega, ?_⟩
          by_cases hl : len = 0
          · left; exact List.eq_nil_of_length_eq_zero (by omega)
          · right
            have hsp : a.spot = none := by
              have := q5 hl
              rw [Nat.zero_mul] at this
              have ha : a.add 0 = a := by unfold Addr.add; simp
              rwa [ha] at this
            obtain ⟨r1, r2⟩ := q4 hl hsp
            refine ⟨a.block, a.off, P.cellsOf e, ws, ?_, r1, hcov.1.2, q2, by simpa using r2⟩
            obtain ⟨b, o, sp⟩ := a
            simp at hsp; subst hsp; rfl
      case struct fs =>
        simp only [Bool.and_eq_true] at hcov
        have h' : (if cs.length = P.cellsOf t then (fs.toList.mapM fun f => DataW.trod enc P W 0 spare true fuel f.type ((cs.drop f.offset).take (P.cellsOf f.type))).map fun xs => (DataW.agg (xs.map (·.1)), xs.flatMap (·.2)) else none) = some x := by
          rw [← h]
        replace h := h'
        split at h <;> try (cases h; done)
        rename_i hlen
        simp only [Option.map_eq_some_iff] at h
        obtain ⟨l, h1, _⟩ := h
        have key := open_parts (P := P) (W := W) (n := fuel) (g := fun f ws => if f.type ∈ S then DataW.trod enc P W 0 spare true fuel f.type ws else none) (fun f ws y hy => by
          split at hy <;> try (cases hy; done)
          rename_i hf
          exact ih f.type ws y hf hy) (cs := cs) (fs := fs.toList) (i := 0) (l := l) (by rw [hlen]; exact hcov.2) (by
          rw [← h1]
          have : ∀ f ∈ fs.toList, f.type ∈ S := fun f hf => by
            have := List.all_eq_true.1 hcov.1 f hf
            simpa using this
          generalize fs.toList = fl at this
          clear h1 hcov
          induction fl with
          | nil => rfl
          | cons f r ihf =>
            simp only [List.mapM_cons]
            rw [ihf fun g hg => this g (List.mem_cons_of_mem _ hg), if_pos (this f List.mem_cons_self)]) (Nat.zero_le _)
        obtain ⟨xs, k1, k2⟩ := key
        rw [List.drop_zero] at k1
        refine ⟨xs, k1, ?_, fun f hf => ?_⟩
        · have := Rl_len k1; omega
        · have := (k2 f hf).2
          simpa using this
      case array nn e =>
        simp only [Bool.and_eq_true] at hcov
        have h' : (if cs.length = P.cellsOf t then ((arrF nn e (P.cellsOf e)).mapM fun f => DataW.trod enc P W 0 spare true fuel f.type ((cs.drop f.offset).take (P.cellsOf f.type))).map fun xs => (DataW.agg (xs.map (·.1)), xs.flatMap (·.2)) else none) = some x := by
          rw [← h, arrF, List.mapM_map]
          rfl
        replace h := h'
        split at h <;> try (cases h; done)
        rename_i hlen
        simp only [Option.map_eq_some_iff] at h
        obtain ⟨l, h1, _⟩ := h
        have key := open_parts (P := P) (W := W) (n := fuel) (g := fun f ws => if f.type ∈ S then DataW.trod enc P W 0 spare true fuel f.type ws else none) (fun f ws y hy => by
          split at hy <;> try (cases hy; done)
          rename_i hf
          exact ih f.type ws y hf hy) (cs := cs) (fs := arrF nn e (P.cellsOf e)) (i := 0) (l := l) (by rw [hlen]; exact hcov.2) (by
          rw [← h1]
          have : ∀ f ∈ (arrF nn e (P.cellsOf e)), f.type ∈ S := fun f hf => by
            have := List.all_eq_true.1 hcov.1 f hf
            simpa using this
          generalize (arrF nn e (P.cellsOf e)) = fl at this
          clear h1 hcov
          induction fl with
          | nil => rfl
          | cons f r ihf =>
            simp only [List.mapM_cons]
            rw [ihf fun g hg => this g (List.mem_cons_of_mem _ hg), if_pos (this f List.mem_cons_self)]) (Nat.zero_le _)
        obtain ⟨xs, k1, k2⟩ := key
        rw [List.drop_zero] at k1
        refine ⟨xs, k1, ?_, fun f hf => ?_⟩
        · have := Rl_len k1; omega
        · have := (k2 f hf).2
          simpa using this
end
end Go.Abs
