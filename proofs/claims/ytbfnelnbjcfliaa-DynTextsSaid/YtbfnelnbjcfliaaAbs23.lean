import Derived.Test.YtbfnelnbjcfliaaAbs22
import Derived.WideShapes
/-! What is handed in: rows of natives. -/
set_option linter.unusedVariables false
namespace Go.Abs
section
variable {P : Program} {H : Type} {enc : TypeId × Value → H} {W : World}
/-- A row of natives, none of them several cells. -/
theorem open_sl {t e : TypeId} (ht : P.underlying t = some (.slice e)) {S : List TypeId} (hS : covB P S = true) (hm : t ∈ S) {α : Type} (E : α → D) (Q : α → Prop)
    (hE : ∀ n y, D.flat y = true → y.cells.length = P.cellsOf e → (tAgg P e = true → ∃ zs, y = .agg zs) → (tAgg P e = false → y.cells = [y]) → CT P n e y.cells → ∃ x, y = E x ∧ Q x) {sp : Nat → Bool} {base : Nat} {v : Value} {d : DataW H} {p : List MemPlace}
    (hv : Value.okWide P W .any base t v) (h : DataW.Trod enc P W 0 sp true t v d p) :
    ∃ l : List α, RV (fun _ => ⟨0, 0⟩) (allOf W) [] W (.d (.sl (l.map E))) v ∧ l.length ≤ maxLen ∧ ∀ x ∈ l, Q x := by
  obtain ⟨a, len, cap, rfl⟩ := WideShapes.okWide_slice ht hv
  obtain ⟨fuel, hf⟩ := h
  obtain ⟨xs, h1, h2⟩ := opens hS fuel t _ _ hm hf
  cases fuel with
  | zero => exact h2.elim
  | succ n =>
    unfold CT at h2
    simp only [ht] at h2
    rcases h2 with rfl | ⟨ys, rfl, hl, hy⟩
    · have h1' : ∃ u us, ([Value.slice a len cap] : List Value) = u :: us ∧ u.oneCell' = true ∧ Rv (allOf W) W .nils u ∧ us = [] := by simpa [Rl, Value.cells] using h1
      obtain ⟨u, us, e1, _, h3, _⟩ := h1'
      cases e1
      simp only [Rv] at h3
      refine ⟨[], ?_, Nat.zero_le _, fun x hx => by cases hx⟩
      simp only [RV, Rv]
      exact ⟨none, 0, h3, Nat.le_refl _, .inl rfl⟩
    · have h1' : ∃ u us, ([Value.slice a len cap] : List Value) = u :: us ∧ u.oneCell' = true ∧ Rv (allOf W) W (.sl ys) u ∧ us = [] := by simpa [Rl, Value.cells] using h1
      obtain ⟨u, us, e1, _, h3, _⟩ := h1'
      cases e1
      have key : ∀ ys : List D, (∀ y ∈ ys, D.flat y = true ∧ y.cells.length = P.cellsOf e ∧ (tAgg P e = true → ∃ zs, y = .agg zs) ∧ (tAgg P e = false → y.cells = [y]) ∧ CT P n e y.cells) → ∃ l : List α, ys = l.map E ∧ ∀ x ∈ l, Q x := by
        intro ys
        induction ys with
        | nil => intro _; exact ⟨[], rfl, fun x hx => by cases hx⟩
        | cons y r ih =>
          intro hy
          obtain ⟨l, e1, e2⟩ := ih fun z hz => hy z (List.mem_cons_of_mem _ hz)
          obtain ⟨k1, k2, k3, k3', k4⟩ := hy y List.mem_cons_self
          obtain ⟨x, rfl, hx⟩ := hE n y k1 k2 k3 k3' k4
          exact ⟨x :: l, by rw [e1]; rfl, fun z hz => by rcases List.mem_cons.1 hz with rfl | hz; exact hx; exact e2 z hz⟩
      obtain ⟨l, rfl, hq⟩ := key ys hy
      refine ⟨l, ?_, by simpa using hl, hq⟩
      simpa only [RV] using h3
/-- A text among them. -/
theorem elem_str {e : TypeId} (he : P.underlying e = some .string) {n : Nat} {y : D} (hc : y.cells = [y]) (h : CT P n e y.cells) : ∃ s : Str, y = .str s ∧ s.length ≤ maxLen := by
  cases n with
  | zero => exact h.elim
  | succ n =>
    unfold CT at h
    simp only [he] at h
    obtain ⟨s, h1, h2⟩ := h
    rw [hc] at h1
    exact ⟨s, (List.cons.inj h1).1, h2⟩
/-- A number among them. -/
theorem elem_int {e : TypeId} {k : IntKind} (he : P.underlying e = some (.int k)) {n : Nat} {y : D} (hc : y.cells = [y]) (h : CT P n e y.cells) : ∃ m : Int, y = .int k m ∧ (Lit.int k m).wf = true := by
  cases n with
  | zero => exact h.elim
  | succ n =>
    unfold CT at h
    simp only [he] at h
    obtain ⟨s, h1, h2⟩ := h
    rw [hc] at h1
    exact ⟨s, (List.cons.inj h1).1, h2⟩
end
end Go.Abs
