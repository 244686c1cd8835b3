import Derived.Test.YtbfnelnbjcfliaaAbs23
/-! What is handed in: structs, and rows of them; a nil slice stands for an empty one. -/
set_option linter.unusedVariables false
set_option linter.unusedSimpArgs false
namespace Go.Abs
mutual
def nz : D → D
  | .nils => .sl []
  | .sl xs => .sl (nzL xs)
  | .agg xs => .agg (nzL xs)
  | .iptr xs => .iptr (nzL xs)
  | .iface t x => .iface t (nz x)
  | x => x
def nzL : List D → List D
  | [] => []
  | x :: r => nz x :: nzL r
end
theorem nzL_length : ∀ xs : List D, (nzL xs).length = xs.length
  | [] => rfl
  | x :: r => by simp [nzL, nzL_length r]
mutual
theorem Rv.nz {F : Blks} {w : World} : ∀ (x : D) (v : Value), Rv F w x v → Rv F w (nz x) v
  | .nils, v, h => by
    simp only [Rv] at h
    subst h
    simp only [Go.Abs.nz, Rv]
    exact ⟨none, 0, rfl, Nat.le_refl _, .inl (by trivial)⟩
  | .sl xs, v, h => by
    simp only [Go.Abs.nz, Rv] at h ⊢
    obtain ⟨a, c, e, hle, hx⟩ := h
    refine ⟨a, c, by rw [nzL_length]; exact e, by rw [nzL_length]; exact hle, ?_⟩
    rcases hx with rfl | ⟨b, o, esz, ws, h1, h2, h3, h4, h5⟩
    · exact .inl rfl
    · exact .inr ⟨b, o, esz, ws, h1, h2, h3, Re.nz esz xs ws h4, h5⟩
  | .agg xs, v, h => by
    simp only [Go.Abs.nz, Rv] at h ⊢
    obtain ⟨us, e, hl⟩ := h
    exact ⟨us, e, Rl.nz xs _ hl⟩
  | .iptr xs, v, h => by
    simp only [Go.Abs.nz, Rv] at h ⊢
    obtain ⟨b, o, ws, e, hb, hl, hc⟩ := h
    exact ⟨b, o, ws, e, hb, Rl.nz xs _ hl, hc⟩
  | .iface t x, v, h => by
    simp only [Go.Abs.nz, Rv] at h ⊢
    obtain ⟨u, e, hx⟩ := h
    exact ⟨u, e, Rv.nz x u hx⟩
  | .any, v, h | .bool b, v, h | .int k n, v, h | .float k n, v, h | .str s, v, h | .nilp, v, h | .nilmap, v, h | .nilf, v, h | .nili, v, h => h
  | .tup vs, v, h | .map ks vs, v, h | .func fn f c, v, h => h
theorem Rl.nz {F : Blks} {w : World} : ∀ (xs : List D) (us : List Value), Rl F w xs us → Rl F w (nzL xs) us
  | [], us, h => by simpa only [nzL, Rl] using h
  | x :: r, us, h => by
    simp only [nzL, Rl] at h ⊢
    obtain ⟨u, us', e, h1, hx, hr⟩ := h
    exact ⟨u, us', e, h1, Rv.nz x u hx, Rl.nz r us' hr⟩
theorem Re.nz {F : Blks} {w : World} (esz : Nat) : ∀ (xs : List D) (ws : List Value), Re F w esz xs ws → Re F w esz (nzL xs) ws
  | [], ws, h => by simpa only [nzL, Re] using h
  | x :: r, ws, h => by
    simp only [nzL, Re] at h ⊢
    obtain ⟨u, ws', e, h1, h2, hx, hr⟩ := h
    exact ⟨u, ws', e, h1, h2, Rv.nz x u hx, Re.nz esz r ws' hr⟩
end
section
variable {P : Program} {H : Type} {enc : TypeId × Value → H} {W : World}
theorem ct_int {t : TypeId} {k : IntKind} (hu : P.underlying t = some (.int k)) {n : Nat} {xs : List D} (h : CT P n t xs) : ∃ m, xs = [.int k m] ∧ (Lit.int k m).wf = true := by
  cases n with
  | zero => exact h.elim
  | succ n => unfold CT at h; simpa only [hu] using h
theorem ct_bool {t : TypeId} (hu : P.underlying t = some .bool) {n : Nat} {xs : List D} (h : CT P n t xs) : ∃ m, xs = [.bool m] := by
  cases n with
  | zero => exact h.elim
  | succ n => unfold CT at h; simpa only [hu] using h
theorem ct_str {t : TypeId} (hu : P.underlying t = some .string) {n : Nat} {xs : List D} (h : CT P n t xs) : ∃ s : Str, xs = [.str s] ∧ s.length ≤ maxLen := by
  cases n with
  | zero => exact h.elim
  | succ n => unfold CT at h; simpa only [hu] using h
theorem ct_struct {t : TypeId} {fs : Array Field} (hu : P.underlying t = some (.struct fs)) {n : Nat} {xs : List D} (h : CT P n t xs) : ∃ m, n = m + 1 ∧ xs.length = P.cellsOf t ∧ ∀ f ∈ fs.toList, CT P m f.type ((xs.drop f.offset).take (P.cellsOf f.type)) := by
  cases n with
  | zero => exact h.elim
  | succ n => unfold CT at h; simp only [hu] at h; exact ⟨n, rfl, h⟩
theorem ct_array {t e : TypeId} {k : Nat} (hu : P.underlying t = some (.array k e)) {n : Nat} {xs : List D} (h : CT P n t xs) : ∃ m, n = m + 1 ∧ xs.length = P.cellsOf t ∧ ∀ f ∈ arrF k e (P.cellsOf e), CT P m f.type ((xs.drop f.offset).take (P.cellsOf f.type)) := by
  cases n with
  | zero => exact h.elim
  | succ n => unfold CT at h; simp only [hu] at h; exact ⟨n, rfl, h⟩
/-- A row whose elements stand for natives. -/
theorem ct_slice {t e : TypeId} (hu : P.underlying t = some (.slice e)) {α : Type} (E : α → D) {n : Nat} {xs : List D} (h : CT P n t xs)
    (ih : ∀ m y, m < n → (tAgg P e = true → ∃ zs, y = .agg zs) → (tAgg P e = false → y.cells = [y]) → CT P m e y.cells → ∃ x, E x = nz y) : ∃ l : List α, nzL xs = [.sl (l.map E)] ∧ l.length ≤ maxLen := by
  cases n with
  | zero => exact h.elim
  | succ n =>
    unfold CT at h
    simp only [hu] at h
    rcases h with rfl | ⟨ys, rfl, hl, hy⟩
    · exact ⟨[], rfl, Nat.zero_le _⟩
    · have key : ∀ ys : List D, (∀ y ∈ ys, D.flat y = true ∧ y.cells.length = P.cellsOf e ∧ (tAgg P e = true → ∃ zs, y = .agg zs) ∧ (tAgg P e = false → y.cells = [y]) ∧ CT P n e y.cells) → ∃ l : List α, nzL ys = l.map E ∧ l.length = ys.length := by
        intro ys
        induction ys with
        | nil => intro _; exact ⟨[], rfl, rfl⟩
        | cons y r ihr =>
          intro hy
          obtain ⟨l, e1, e2⟩ := ihr fun z hz => hy z (List.mem_cons_of_mem _ hz)
          obtain ⟨k1, k2, k3, k3', k4⟩ := hy y List.mem_cons_self
          obtain ⟨x, hx⟩ := ih n y (Nat.lt_succ_self n) k3 k3' k4
          exact ⟨x :: l, by simp only [nzL, List.map_cons, hx, e1], by simp [e2]⟩
      obtain ⟨l, h1, h2⟩ := key ys hy
      exact ⟨l, by simp only [nzL, nz, h1], by omega⟩
/-- A struct that is handed in. -/
theorem open_st {t : TypeId} {fs : Array Field} (ht : P.underlying t = some (.struct fs)) {S : List TypeId} (hS : covB P S = true) (hm : t ∈ S) {sp : Nat → Bool} {base : Nat} {v : Value} {d : DataW H} {p : List MemPlace}
    (hv : Value.okWide P W .any base t v) (h : DataW.Trod enc P W 0 sp true t v d p) : ∃ n xs, RV (fun _ => ⟨0, 0⟩) (allOf W) [] W (.d (.agg (nzL xs))) v ∧ CT P n t xs := by
  obtain ⟨cs, rfl, _⟩ := WideShapes.okWide_struct ht hv
  obtain ⟨fuel, hf⟩ := h
  obtain ⟨xs, h1, h2⟩ := opens hS fuel t _ _ hm hf
  refine ⟨fuel, xs, ?_, h2⟩
  simp only [RV, Rv]
  exact ⟨cs, rfl, Rl.nz xs _ (by simpa [Value.cells] using h1)⟩
/-- An array that is handed in. -/
theorem open_ar {t e : TypeId} {k : Nat} (ht : P.underlying t = some (.array k e)) {S : List TypeId} (hS : covB P S = true) (hm : t ∈ S) {sp : Nat → Bool} {base : Nat} {v : Value} {d : DataW H} {p : List MemPlace}
    (hv : Value.okWide P W .any base t v) (h : DataW.Trod enc P W 0 sp true t v d p) : ∃ n xs, RV (fun _ => ⟨0, 0⟩) (allOf W) [] W (.d (.agg (nzL xs))) v ∧ CT P n t xs := by
  obtain ⟨cs, rfl⟩ : ∃ cs, v = .agg cs := by
    simp only [Value.okWide, ht] at hv
    obtain ⟨cs, h1, _⟩ := hv
    exact ⟨cs, h1⟩
  obtain ⟨fuel, hf⟩ := h
  obtain ⟨xs, h1, h2⟩ := opens hS fuel t _ _ hm hf
  refine ⟨fuel, xs, ?_, h2⟩
  simp only [RV, Rv]
  exact ⟨cs, rfl, Rl.nz xs _ (by simpa [Value.cells] using h1)⟩
/-- A row that is handed in. -/
theorem open_slz {t e : TypeId} (ht : P.underlying t = some (.slice e)) {S : List TypeId} (hS : covB P S = true) (hm : t ∈ S) {α : Type} (E : α → D)
    (ih : ∀ m y, (tAgg P e = true → ∃ zs, y = .agg zs) → (tAgg P e = false → y.cells = [y]) → CT P m e y.cells → ∃ x, E x = nz y) {sp : Nat → Bool} {base : Nat} {v : Value} {d : DataW H} {p : List MemPlace}
    (hv : Value.okWide P W .any base t v) (h : DataW.Trod enc P W 0 sp true t v d p) : ∃ l : List α, RV (fun _ => ⟨0, 0⟩) (allOf W) [] W (.d (.sl (l.map E))) v ∧ l.length ≤ maxLen := by
  obtain ⟨a, len, cap, rfl⟩ := WideShapes.okWide_slice ht hv
  obtain ⟨fuel, hf⟩ := h
  obtain ⟨xs, h1, h2⟩ := opens hS fuel t _ _ hm hf
  obtain ⟨l, e1, e2⟩ := ct_slice ht E h2 fun m y _ => ih m y
  have h3 := Rl.nz xs _ h1
  rw [e1] at h3
  refine ⟨l, ?_, e2⟩
  have h1' : ∃ u us, ([Value.slice a len cap] : List Value) = u :: us ∧ u.oneCell' = true ∧ Rv (allOf W) W (.sl (l.map E)) u ∧ us = [] := by simpa [Rl, Value.cells] using h3
  obtain ⟨u, us, e3, _, h4, _⟩ := h1'
  cases e3
  simpa only [RV] using h4
end
end Go.Abs
