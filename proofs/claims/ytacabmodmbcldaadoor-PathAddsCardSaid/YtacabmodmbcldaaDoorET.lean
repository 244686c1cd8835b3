import Derived.Test.YtacabmodmbcldaaDoorXT
import Derived.Test.YtacabmodmbcldaaDoorLayT
import Derived.Test.YtacabmodmbcldaaDoorAbs22
import Derived.Test.YtacabmodmbcldaaDoorIrT
import Derived.Test.YtacabmodmbcldaaDoorGX
/-! The library's functions that are left to contracts keep them. -/
set_option linter.unusedSimpArgs false
set_option linter.unusedVariables false
namespace Go.Abs.T
open Go.Proofs
theorem Rl_get {F : Blks} {w : World} : ∀ {xs : List D} {us : List Value} {i : Nat} {x : D}, Rl F w xs us → xs[i]? = some x → ∃ u, us[i]? = some u ∧ Rv F w x u
 | [], us, i, x, _, h => by simp at h
 | y :: r, us, 0, x, h, hi => by
  simp only [Rl] at h
  obtain ⟨u, us', rfl, _, h2, _⟩ := h
  simp at hi; subst hi
  exact ⟨u, rfl, h2⟩
 | y :: r, us, i + 1, x, h, hi => by
  simp only [Rl] at h
  obtain ⟨u, us', rfl, _, _, h3⟩ := h
  obtain ⟨q, g1, g2⟩ := Rl_get h3 (i := i) (x := x) (by simpa using hi)
  exact ⟨q, by simpa using g1, g2⟩
theorem ranges_at (i : Nat) (hi : i < 16) : rangesTab[2 * i]? = some (.int .u8 (Lib.accLo i)) ∧ rangesTab[2 * i + 1]? = some (.int .u8 (Lib.accHi i)) := by
 rcases (show i = 0 ∨ i = 1 ∨ i = 2 ∨ i = 3 ∨ i = 4 ∨ i = 5 ∨ i = 6 ∨ i = 7 ∨ i = 8 ∨ i = 9 ∨ i = 10 ∨ i = 11 ∨ i = 12 ∨ i = 13 ∨ i = 14 ∨ i = 15 by omega) with rfl | rfl | rfl | rfl | rfl | rfl | rfl | rfl | rfl | rfl | rfl | rfl | rfl | rfl | rfl | rfl <;> exact ⟨rfl, rfl⟩
theorem glob_tabs {F : Blks} {w : World} (h : Glob glob F w) : Lib.Utf8Tabs 1 2 w := by
 refine ⟨fun c hc => ?_, fun i hi => ?_⟩
 ·obtain ⟨_, ws, h1, h2, _⟩ := h 1 firstTab rfl
  have hx : firstTab[c]? = some (.int .u8 (Lib.firstT c)) := by simp [firstTab, hc]
  obtain ⟨u, g1, g2⟩ := Rl_get h1 hx
  simp only [Rv] at g2
  subst g2
  simpa using h2 c _ g1
 ·obtain ⟨_, ws, h1, h2, _⟩ := h 2 rangesTab rfl
  obtain ⟨e1, e2⟩ := ranges_at i hi
  obtain ⟨u1, g1, g2⟩ := Rl_get h1 e1
  obtain ⟨u2, g3, g4⟩ := Rl_get h1 e2
  simp only [Rv] at g2 g4
  subst g2; subst g4
  exact ⟨by simpa using h2 _ _ g1, by simpa using h2 _ _ g3⟩
theorem tabs_glob {W : World} (h : Lib.Utf8Tabs 1 2 W) (h0 : 1 < W.heap.size) (h1 : 2 < W.heap.size) : Glob glob (allOf W) W := by
 have key : ∀ (f : Nat → Value) (g : Nat → D), (∀ c, Rv (allOf W) W (g c) (f c)) → (∀ c, (f c).oneCell' = true) → ∀ l : List Nat, Rl (allOf W) W (l.map g) (l.map f) := by
  intro f g hf ho l
  induction l with
  | nil => simp [Rl]
  | cons c r ih => simp only [List.map_cons, Rl]; exact ⟨_, _, rfl, ho c, hf c, ih⟩
 intro gn cs hg
 match gn, hg with
 | 1, hg =>
  cases hg
  refine ⟨h0, (List.range 256).map fun c => .int .u8 (Lib.firstT c), key _ _ (fun c => by simp [Rv]) (fun c => rfl) _, ?_, fun he => (by have h2 : exactD firstTab = false := rfl; rw [h2] at he; cases he), fun he => (by have h2 : anyD firstTab = false := rfl; rw [h2] at he; cases he)⟩
  intro j u hj
  rw [Nat.zero_add]
  have hjl : j < 256 := by simpa using (List.getElem?_eq_some_iff.1 hj).1
  rw [h.1 j hjl]
  simp [hjl] at hj
  rw [hj]
 | 2, hg =>
  cases hg
  refine ⟨h1, (List.range 16).flatMap fun c => [.int .u8 (Lib.accLo c), .int .u8 (Lib.accHi c)], ?_, ?_, fun he => (by have h2 : exactD rangesTab = false := rfl; rw [h2] at he; cases he), fun he => (by have h2 : anyD rangesTab = false := rfl; rw [h2] at he; cases he)⟩
  ·unfold rangesTab
   generalize List.range 16 = l
   induction l with
   | nil => simp [Rl]
   | cons c r ih =>
    simp only [List.flatMap_cons, List.cons_append, List.nil_append, Rl]
    exact ⟨_, _, rfl, rfl, by simp [Rv], _, _, rfl, rfl, by simp [Rv], ih⟩
  ·intro j u hj
   rw [Nat.zero_add]
   have hjl : j < 32 := (List.getElem?_eq_some_iff.1 hj).1
   have hcell : W.cell? ⟨2, j, none⟩ = ((List.range 16).flatMap fun c => [Value.int .u8 (Lib.accLo c), .int .u8 (Lib.accHi c)])[j]? := by
    have hall : ∀ i, i < 16 → W.cell? ⟨2, 2 * i, none⟩ = ((List.range 16).flatMap fun c => [Value.int .u8 (Lib.accLo c), .int .u8 (Lib.accHi c)])[2 * i]? ∧ W.cell? ⟨2, 2 * i + 1, none⟩ = ((List.range 16).flatMap fun c => [Value.int .u8 (Lib.accLo c), .int .u8 (Lib.accHi c)])[2 * i + 1]? := by
     intro i hi
     rw [(h.2 i hi).1, (h.2 i hi).2]
     rcases (show i = 0 ∨ i = 1 ∨ i = 2 ∨ i = 3 ∨ i = 4 ∨ i = 5 ∨ i = 6 ∨ i = 7 ∨ i = 8 ∨ i = 9 ∨ i = 10 ∨ i = 11 ∨ i = 12 ∨ i = 13 ∨ i = 14 ∨ i = 15 by omega) with rfl | rfl | rfl | rfl | rfl | rfl | rfl | rfl | rfl | rfl | rfl | rfl | rfl | rfl | rfl | rfl <;> exact ⟨rfl, rfl⟩
    rcases Nat.mod_two_eq_zero_or_one j with e | e
    ·have := (hall (j / 2) (by omega)).1
     rwa [show 2 * (j / 2) = j by omega] at this
    ·have := (hall (j / 2) (by omega)).2
     rwa [show 2 * (j / 2) + 1 = j by omega] at this
   rw [hcell, hj]
theorem decode_keeps : ExtOK Tryd.prog glob 136 ext_zfl := by
 refine ExtOK.of ?_
 intro vs d he ρ F stk w args hok hG ha
 unfold ext_zfl at he
 split at he <;> try (cases he; done)
 rename_i s
 cases he
 simp only [RVt, RV, Rv] at ha
 obtain ⟨u, us, rfl, rfl, rfl⟩ := ha
 refine (Any.utf8_DecodeRuneInString Tryd.lays197 ⟨⟨s⟩⟩ w (glob_tabs hG)).mono fun en w' hh => ?_
 obtain ⟨rfl, hb⟩ := hh
 refine ⟨_, rfl, ?_, hb⟩
 simp only [Rv, Rt]
 exact ⟨_, rfl, _, _, rfl, rfl, _, _, rfl, rfl, rfl⟩
theorem ext_ok : ∀ f rf e, oldT table f = some rf → rf.ext = some e → XOK Tryd.prog glob f e := by
 intro f rf e h hx
 unfold oldT at h
 split at h <;> try (cases h; done)
 rename_i kf hk
 cases h
 have hx' : kf.ext = some e := hx
 unfold table at hk
 split at hk <;> first
  | (cases hk; done)
  | (cases hk; cases hx'; done)
  | (cases hk; cases hx'; exact decode_keeps)
  | (cases hk; cases hx'; exact concat_keeps)
end Go.Abs.T
