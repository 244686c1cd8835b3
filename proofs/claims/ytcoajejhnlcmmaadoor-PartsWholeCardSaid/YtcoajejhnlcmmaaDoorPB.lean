import Derived.Test.YtcoajejhnlcmmaaDoorProg
import Derived.Shelf.Strings.Builder1
import Derived.ProofKit
import Derived.Maps.AppendAt
import Derived.Test.YtcoajejhnlcmmaaDoorAbs24
/-! The methods of a builder, at this program. -/
set_option linter.unusedVariables false
namespace Go.Proofs
open Go.RowKit
set_option maxHeartbeats 1000000 in
set_option maxRecDepth 100000 in
theorem Tryd.copy_used (b : Nat) (w : World) (h0 : w.cell? ⟨b, 0, none⟩ = some (.pointer (some ⟨b, 0, none⟩))) :
    Calls Tryd.prog 23 #[.pointer (some ⟨b, 0, none⟩)] w fun e w' => e = .returned (.tuple #[]) ∧ w' = w := by
  obtain ⟨j, hj, _⟩ := Option.map_eq_some_iff.1 (show (Tryd.prog.info? 42).map (fun i => i.size) = some 2 by kernel_rfl)
  go_enter Tryd.func23, (show Tryd.f23.ntmps = 20 by kernel_rfl)
  go_wp2
  rw [Lib.run_neq_ptr_same w _ Tryd.underlying39 hj]
  go_wp2
  go_end0
  exact ⟨rfl, rfl⟩
set_option maxHeartbeats 1000000 in
set_option maxRecDepth 100000 in
theorem Tryd.copy_fresh (b : Nat) (w : World) (h0 : w.cell? ⟨b, 0, none⟩ = some (.pointer none)) (hsh : w.shape? b = some (42, 2)) (hfz : w.frozen? ⟨b, 0, none⟩ = false) :
    Calls Tryd.prog 23 #[.pointer (some ⟨b, 0, none⟩)] w fun e w' => e = .returned (.tuple #[]) ∧ w' = w.setCell ⟨b, 0, none⟩ (.pointer (some ⟨b, 0, none⟩)) := by
  obtain ⟨j, hj, hjs⟩ := Option.map_eq_some_iff.1 (show (Tryd.prog.info? 42).map (fun i => i.size) = some 2 by kernel_rfl)
  go_enter Tryd.func23, (show Tryd.f23.ntmps = 20 by kernel_rfl)
  go_wp2
  rw [Lib.run_to_unsafe w ⟨b, 0, none⟩ Tryd.underlying39 Tryd.underlying57 hj (by rw [hjs]; decide) hsh (Nat.zero_lt_succ 1)]
  simp only [Result.andThen]
  rw [Oper.upon_value]
  go_wp2
  rw [run_callFunc_extern Tryd.func26 (by kernel_rfl) (by kernel_rfl) (by kernel_rfl) (e := Extern.AbiNoEscape.same) (by kernel_rfl)]
  rw [Lib.run_noEscape]
  simp only [Result.andThen]
  rw [Oper.upon_value]
  go_wp2
  rw [Lib.run_from_unsafe w ⟨b, 0, none⟩ Tryd.underlying57 Tryd.underlying39 hj hsh (by kernel_rfl)]
  simp only [Result.andThen]
  rw [Oper.upon_value]
  go_wp2
  go_end0
  exact ⟨rfl, rfl⟩
open Go.Abs (RowOf rowBlk PutTo PutSpec putB)
def bytesV (s : List UInt8) : List Value := s.map fun b => .int .u8 b.toNat
theorem row_own {E : Nat} {w : World} {v : Value} {s : List UInt8} (h : RowOf E w v s) : w.ownsRow 0 E 1 v s.length (bytesV s) := by
  refine ⟨by simp [bytesV], ?_⟩
  rcases h with ⟨rfl, rfl⟩ | ⟨g, cap, c, h0, rfl, h1, h2, h3, h4, h5⟩
  · exact .inl ⟨rfl, rfl⟩
  · exact .inr ⟨g, cap, c, rfl, Nat.zero_le _, h1, h4, h5, by omega, by rw [Nat.mul_one]; exact h3⟩
theorem own_row {E : Nat} {w : World} {v : Value} {s : List UInt8} (h : w.ownsRow 0 E 1 v s.length (bytesV s)) (hs : s ≠ []) : RowOf E w v s := by
  rcases h.2 with ⟨_, h0⟩ | ⟨g, cap, c, rfl, _, h1, h4, h5, h2, h3⟩
  · exact absurd (List.eq_nil_of_length_eq_zero h0) hs
  · have := List.length_pos_iff.2 hs
    exact .inr ⟨g, cap, c, by omega, rfl, h1, by omega, by rw [Nat.mul_one] at h3; exact h3, h4, h5⟩
theorem Tryd.copy_any {b : Nat} {p v : Value} {w : World} (hb : w.heap[b]? = some (.cells #[p, v] 42 (0, 0))) (hp : p = .pointer none ∨ p = .pointer (some ⟨b, 0, none⟩)) :
    Calls Tryd.prog 23 #[.pointer (some ⟨b, 0, none⟩)] w fun e w' => e = .returned (.tuple #[]) ∧ w' = putB w b (.cells #[.pointer (some ⟨b, 0, none⟩), v] 42 (0, 0)) := by
  rcases hp with rfl | rfl
  · refine (Tryd.copy_fresh b w (by simp [World.cell?, hb]) (by simp [World.shape?, hb]) (by simp [World.frozen?, hb])).mono ?_
    rintro e w' ⟨rfl, rfl⟩
    refine ⟨rfl, ?_⟩
    unfold putB World.setCell
    congr 1
    apply Array.ext_getElem?
    intro i
    simp only [Array.getElem?_modify, Array.getElem?_setIfInBounds]
    have hlt := (Array.getElem?_eq_some_iff.1 hb).1
    by_cases e : b = i
    · subst e
      have hg : w.heap[b] = .cells #[.pointer none, v] 42 (0, 0) := (Array.getElem?_eq_some_iff.1 hb).2
      simp [hlt, hg]
    · simp [e]
  · refine (Tryd.copy_used b w (by simp [World.cell?, hb])).mono ?_
    rintro e w' ⟨rfl, rfl⟩
    exact ⟨rfl, (Go.Abs.putB_self hb).symm⟩
theorem setCell_putB {w : World} {b i : Nat} {c : Array Value} {e : TypeId} {fz : Nat × Nat} (h : w.heap[b]? = some (.cells c e fz)) (x : Value) : w.setCell ⟨b, i, none⟩ x = putB w b (.cells (c.setIfInBounds i x) e fz) := by
  unfold putB World.setCell
  congr 1
  apply Array.ext_getElem?
  intro k
  simp only [Array.getElem?_modify, Array.getElem?_setIfInBounds]
  have hlt := (Array.getElem?_eq_some_iff.1 h).1
  by_cases hk : b = k
  · subst hk
    have hg : w.heap[b] = .cells c e fz := (Array.getElem?_eq_some_iff.1 h).2
    simp [hlt, hg]
  · simp [hk]
theorem rowBlk_own (v : Value) : rowBlk v = v.ownBlock := by
  unfold rowBlk Value.ownBlock
  cases v <;> rfl
theorem putTo_of {T E b : Nat} {v v' : Value} {s' : List UInt8} {w w1 wa w2 : World} (hne : rowBlk v ≠ some b) (hos : w1.os = w.os ∧ w1.tape = w.tape ∧ w1.output = w.output) (hs1 : w.heap.size = w1.heap.size) (ho1 : ∀ k, k ≠ b → w1.heap[k]? = w.heap[k]?)
    (hwa : wa.os = w1.os ∧ wa.tape = w1.tape ∧ wa.output = w1.output ∧ w1.heap.size ≤ wa.heap.size ∧ ∀ k, k < w1.heap.size → wa.heap[k]? = w1.heap[k]?) (hgrow : wa.grownBy w2 v.ownBlock) (hlt : b < w1.heap.size)
    (hb2 : w2.heap[b]? = some (.cells #[.pointer (some ⟨b, 0, none⟩), v] T (0, 0))) (hrow2 : RowOf E w2 v' s') (hat : v'.ownBlock = v.ownBlock ∨ ∃ g, v'.ownBlock = some g ∧ wa.heap.size ≤ g) :
    PutTo T E b v s' w (w2.setCell ⟨b, 1, none⟩ v') := by
  rw [setCell_putB hb2]
  obtain ⟨q1, q2, q3⟩ := hos
  obtain ⟨r1, r2, r3, r4, r5⟩ := hwa
  have hne' : rowBlk v' ≠ some b := by
    rw [rowBlk_own] at hne ⊢
    rcases hat with h | ⟨g, h, hg⟩
    · rw [h]; exact hne
    · rw [h]; simp; omega
  refine { os := (hgrow.os.trans r1).trans q1, tape := (hgrow.tape.trans r2).trans q2, output := (hgrow.output.trans r3).trans q3, size := by rw [Go.Abs.putB_size]; exact Nat.le_trans (by omega) hgrow.size, block := ?_, row := ⟨v', Go.Abs.putB_same hb2, ?_, hne', ?_⟩ }
  · intro k hk hkb hkv
    rw [Go.Abs.putB_ne hkb, hgrow.block k (by omega) (fun e => hkv (by rw [rowBlk_own, e])), r5 k (by omega), ho1 k hkb]
  · rcases hrow2 with ⟨rfl, rfl⟩ | ⟨g, cap, cc, q0, rfl, q1, q2⟩
    · exact .inl ⟨rfl, rfl⟩
    · exact .inr ⟨g, cap, cc, q0, rfl, by rw [Go.Abs.putB_ne (fun e => hne' (by simp [rowBlk, e]))]; exact q1, q2⟩
  · rw [rowBlk_own, rowBlk_own]
    rcases hat with h | ⟨g, h, hg⟩
    · exact .inl h
    · exact .inr ⟨_, h, by omega⟩
end Go.Proofs
