import Derived.Test.YtncemafmkkphjaaDoorPA3
import Derived.Lib.RuneBytes
/-! A builder's WriteRune, at seat A's program. -/
set_option linter.unusedVariables false
namespace Go.Proofs
open Go.RowKit
open Go.Abs (RowOf rowBlk PutTo PutSpec putB)
/-- What an append of a rune's bytes comes to. -/
def RuneTo (w : World) (v : Value) (n : Nat) (xs news : List Value) (e : Ending) (w' : World) : Prop :=
  ∃ v' o, e = .returned v' ∧ w'.ownsRow 0 5 1 v' (n + news.length) (xs ++ news) ∧ (w.alloc o).grownBy w' v.ownBlock ∧ (v'.ownBlock = v.ownBlock ∨ v'.ownBlock = some (w.heap.size + 1))

set_option maxHeartbeats 4000000 in
set_option maxRecDepth 100000 in
theorem Tryd.rune_two (v : Value) (n : Nat) (xs : List Value) (r : Int) (h0 : 128 ≤ r) (h1 : r ≤ 2047) (w : World) (hown : w.ownsRow 0 5 1 v n xs) (hlen : n + 4 ≤ 140737488355328) :
    Calls Tryd.prog 62 #[v, .int .i32 r] w (RuneTo w v n xs [.int .u8 (192 + r / 64), .int .u8 (128 + r % 64)]) := by
  obtain ⟨i0, hi, hz⟩ := Option.map_eq_some_iff.1 (show (Tryd.prog.info? 5).map (fun i => (i.zero, i.size, i.bytes)) = some (some (.int .u8 0), 1, 1) by kernel_rfl)
  simp only [Prod.mk.injEq] at hz
  obtain ⟨hz0, hz1, hz2⟩ := hz
  go_enter Tryd.func62, (show Tryd.f62.ntmps = 78 by kernel_rfl)
  go_wp2_with (at_builtin; refine wpList_append_own_at _ rfl _ _ 30 rfl 0 5 i0 (.int .u8 0) 1 1 Tryd.underlying30 hi hz0 hz1 hz2 rfl (by decide) _ _ _ rfl (hown.alloc _) ⟨w.heap.size, 0, none⟩ 2 2 [.int .u8 (192 + r / 64), .int .u8 (128 + r % 64)] rfl rfl ?c1 ?c2 ?c3 ?c4 ?c5 ?_)
  all_goals first
    | (intro v' w2 hown' hgrow _ hat; go_wp2; go_ret; exact ⟨v', _, rfl, hown', hgrow, hat⟩)
    | (unfold maxLen; omega)
    | omega
    | (simp; omega)
    | rfl
    | exact ⟨rfl, rfl, rfl⟩
    | (intro u hu; simp at hu; rcases hu with rfl | rfl <;> rfl)
    | (intro u hu; simp at hu; subst hu; rfl)
    | (intro j u hj
       match j, hj with
       | 0, hj => simp at hj; subst hj; simp [Addr.add]
       | 1, hj => simp at hj; subst hj; simp [Addr.add]
       | (j + 2), hj => simp at hj)

set_option maxHeartbeats 4000000 in
set_option maxRecDepth 100000 in
theorem Tryd.rune_three_lo (v : Value) (n : Nat) (xs : List Value) (r : Int) (h0 : 2048 ≤ r) (h1 : r < 55296) (w : World) (hown : w.ownsRow 0 5 1 v n xs) (hlen : n + 4 ≤ 140737488355328) :
    Calls Tryd.prog 62 #[v, .int .i32 r] w (RuneTo w v n xs [.int .u8 (224 + r / 4096), .int .u8 (128 + r / 64 % 64), .int .u8 (128 + r % 64)]) := by
  obtain ⟨i0, hi, hz⟩ := Option.map_eq_some_iff.1 (show (Tryd.prog.info? 5).map (fun i => (i.zero, i.size, i.bytes)) = some (some (.int .u8 0), 1, 1) by kernel_rfl)
  simp only [Prod.mk.injEq] at hz
  obtain ⟨hz0, hz1, hz2⟩ := hz
  go_enter Tryd.func62, (show Tryd.f62.ntmps = 78 by kernel_rfl)
  go_wp2_with (at_builtin; refine wpList_append_own_at _ rfl _ _ 30 rfl 0 5 i0 (.int .u8 0) 1 1 Tryd.underlying30 hi hz0 hz1 hz2 rfl (by decide) _ _ _ rfl (hown.alloc _) ⟨w.heap.size, 0, none⟩ 3 3 [.int .u8 (224 + r / 4096), .int .u8 (128 + r / 64 % 64), .int .u8 (128 + r % 64)] rfl rfl ?c1 ?c2 ?c3 ?c4 ?c5 ?_)
  all_goals first
    | (intro v' w2 hown' hgrow _ hat; go_wp2; go_ret; exact ⟨v', _, rfl, hown', hgrow, hat⟩)
    | (unfold maxLen; omega)
    | omega
    | (simp; omega)
    | rfl
    | exact ⟨rfl, rfl, rfl⟩
    | (intro u hu; simp at hu; rcases hu with rfl | rfl | rfl <;> rfl)
    | (intro u hu; simp at hu; subst hu; rfl)
    | (intro j u hj
       match j, hj with
       | 0, hj => simp at hj; subst hj; simp [Addr.add]
       | 1, hj => simp at hj; subst hj; simp [Addr.add]
       | 2, hj => simp at hj; subst hj; simp [Addr.add]
       | (j + 3), hj => simp at hj)

set_option maxHeartbeats 4000000 in
set_option maxRecDepth 100000 in
theorem Tryd.rune_three_hi (v : Value) (n : Nat) (xs : List Value) (r : Int) (h0 : 57343 < r) (h1 : r ≤ 65535) (w : World) (hown : w.ownsRow 0 5 1 v n xs) (hlen : n + 4 ≤ 140737488355328) :
    Calls Tryd.prog 62 #[v, .int .i32 r] w (RuneTo w v n xs [.int .u8 (224 + r / 4096), .int .u8 (128 + r / 64 % 64), .int .u8 (128 + r % 64)]) := by
  obtain ⟨i0, hi, hz⟩ := Option.map_eq_some_iff.1 (show (Tryd.prog.info? 5).map (fun i => (i.zero, i.size, i.bytes)) = some (some (.int .u8 0), 1, 1) by kernel_rfl)
  simp only [Prod.mk.injEq] at hz
  obtain ⟨hz0, hz1, hz2⟩ := hz
  go_enter Tryd.func62, (show Tryd.f62.ntmps = 78 by kernel_rfl)
  go_wp2_with (at_builtin; refine wpList_append_own_at _ rfl _ _ 30 rfl 0 5 i0 (.int .u8 0) 1 1 Tryd.underlying30 hi hz0 hz1 hz2 rfl (by decide) _ _ _ rfl (hown.alloc _) ⟨w.heap.size, 0, none⟩ 3 3 [.int .u8 (224 + r / 4096), .int .u8 (128 + r / 64 % 64), .int .u8 (128 + r % 64)] rfl rfl ?c1 ?c2 ?c3 ?c4 ?c5 ?_)
  all_goals first
    | (intro v' w2 hown' hgrow _ hat; go_wp2; go_ret; exact ⟨v', _, rfl, hown', hgrow, hat⟩)
    | (unfold maxLen; omega)
    | omega
    | (simp; omega)
    | rfl
    | exact ⟨rfl, rfl, rfl⟩
    | (intro u hu; simp at hu; rcases hu with rfl | rfl | rfl <;> rfl)
    | (intro u hu; simp at hu; subst hu; rfl)
    | (intro j u hj
       match j, hj with
       | 0, hj => simp at hj; subst hj; simp [Addr.add]
       | 1, hj => simp at hj; subst hj; simp [Addr.add]
       | 2, hj => simp at hj; subst hj; simp [Addr.add]
       | (j + 3), hj => simp at hj)

set_option maxHeartbeats 4000000 in
set_option maxRecDepth 100000 in
theorem Tryd.rune_four (v : Value) (n : Nat) (xs : List Value) (r : Int) (h0 : 65536 ≤ r) (h1 : r ≤ 1114111) (w : World) (hown : w.ownsRow 0 5 1 v n xs) (hlen : n + 4 ≤ 140737488355328) :
    Calls Tryd.prog 62 #[v, .int .i32 r] w (RuneTo w v n xs [.int .u8 (240 + r / 262144), .int .u8 (128 + r / 4096 % 64), .int .u8 (128 + r / 64 % 64), .int .u8 (128 + r % 64)]) := by
  obtain ⟨i0, hi, hz⟩ := Option.map_eq_some_iff.1 (show (Tryd.prog.info? 5).map (fun i => (i.zero, i.size, i.bytes)) = some (some (.int .u8 0), 1, 1) by kernel_rfl)
  simp only [Prod.mk.injEq] at hz
  obtain ⟨hz0, hz1, hz2⟩ := hz
  go_enter Tryd.func62, (show Tryd.f62.ntmps = 78 by kernel_rfl)
  go_wp2_with (at_builtin; refine wpList_append_own_at _ rfl _ _ 30 rfl 0 5 i0 (.int .u8 0) 1 1 Tryd.underlying30 hi hz0 hz1 hz2 rfl (by decide) _ _ _ rfl (hown.alloc _) ⟨w.heap.size, 0, none⟩ 4 4 [.int .u8 (240 + r / 262144), .int .u8 (128 + r / 4096 % 64), .int .u8 (128 + r / 64 % 64), .int .u8 (128 + r % 64)] rfl rfl ?c1 ?c2 ?c3 ?c4 ?c5 ?_)
  all_goals first
    | (intro v' w2 hown' hgrow _ hat; go_wp2; go_ret; exact ⟨v', _, rfl, hown', hgrow, hat⟩)
    | (unfold maxLen; omega)
    | omega
    | (simp; omega)
    | rfl
    | exact ⟨rfl, rfl, rfl⟩
    | (intro u hu; simp at hu; rcases hu with rfl | rfl | rfl | rfl <;> rfl)
    | (intro u hu; simp at hu; subst hu; rfl)
    | (intro j u hj
       match j, hj with
       | 0, hj => simp at hj; subst hj; simp [Addr.add]
       | 1, hj => simp at hj; subst hj; simp [Addr.add]
       | 2, hj => simp at hj; subst hj; simp [Addr.add]
       | 3, hj => simp at hj; subst hj; simp [Addr.add]
       | (j + 4), hj => simp at hj)

set_option maxHeartbeats 4000000 in
set_option maxRecDepth 100000 in
theorem Tryd.rune_bad_neg (v : Value) (n : Nat) (xs : List Value) (r : Int) (h0 : -2147483648 ≤ r) (h1 : r < 0) (w : World) (hown : w.ownsRow 0 5 1 v n xs) (hlen : n + 4 ≤ 140737488355328) :
    Calls Tryd.prog 62 #[v, .int .i32 r] w (RuneTo w v n xs [.int .u8 (239), .int .u8 (191), .int .u8 (189)]) := by
  obtain ⟨i0, hi, hz⟩ := Option.map_eq_some_iff.1 (show (Tryd.prog.info? 5).map (fun i => (i.zero, i.size, i.bytes)) = some (some (.int .u8 0), 1, 1) by kernel_rfl)
  simp only [Prod.mk.injEq] at hz
  obtain ⟨hz0, hz1, hz2⟩ := hz
  go_enter Tryd.func62, (show Tryd.f62.ntmps = 78 by kernel_rfl)
  go_wp2_with (at_builtin; refine wpList_append_own_at _ rfl _ _ 30 rfl 0 5 i0 (.int .u8 0) 1 1 Tryd.underlying30 hi hz0 hz1 hz2 rfl (by decide) _ _ _ rfl (hown.alloc _) ⟨w.heap.size, 0, none⟩ 3 3 [.int .u8 (239), .int .u8 (191), .int .u8 (189)] rfl rfl ?c1 ?c2 ?c3 ?c4 ?c5 ?_)
  all_goals first
    | (intro v' w2 hown' hgrow _ hat; go_wp2; go_ret; exact ⟨v', _, rfl, hown', hgrow, hat⟩)
    | (unfold maxLen; omega)
    | omega
    | (simp; omega)
    | rfl
    | exact ⟨rfl, rfl, rfl⟩
    | (intro u hu; simp at hu; rcases hu with rfl | rfl | rfl <;> rfl)
    | (intro u hu; simp at hu; subst hu; rfl)
    | (intro j u hj
       match j, hj with
       | 0, hj => simp at hj; subst hj; simp [Addr.add]
       | 1, hj => simp at hj; subst hj; simp [Addr.add]
       | 2, hj => simp at hj; subst hj; simp [Addr.add]
       | (j + 3), hj => simp at hj)

set_option maxHeartbeats 4000000 in
set_option maxRecDepth 100000 in
theorem Tryd.rune_bad_sur (v : Value) (n : Nat) (xs : List Value) (r : Int) (h0 : 55296 ≤ r) (h1 : r ≤ 57343) (w : World) (hown : w.ownsRow 0 5 1 v n xs) (hlen : n + 4 ≤ 140737488355328) :
    Calls Tryd.prog 62 #[v, .int .i32 r] w (RuneTo w v n xs [.int .u8 (239), .int .u8 (191), .int .u8 (189)]) := by
  obtain ⟨i0, hi, hz⟩ := Option.map_eq_some_iff.1 (show (Tryd.prog.info? 5).map (fun i => (i.zero, i.size, i.bytes)) = some (some (.int .u8 0), 1, 1) by kernel_rfl)
  simp only [Prod.mk.injEq] at hz
  obtain ⟨hz0, hz1, hz2⟩ := hz
  go_enter Tryd.func62, (show Tryd.f62.ntmps = 78 by kernel_rfl)
  go_wp2_with (at_builtin; refine wpList_append_own_at _ rfl _ _ 30 rfl 0 5 i0 (.int .u8 0) 1 1 Tryd.underlying30 hi hz0 hz1 hz2 rfl (by decide) _ _ _ rfl (hown.alloc _) ⟨w.heap.size, 0, none⟩ 3 3 [.int .u8 (239), .int .u8 (191), .int .u8 (189)] rfl rfl ?c1 ?c2 ?c3 ?c4 ?c5 ?_)
  all_goals first
    | (intro v' w2 hown' hgrow _ hat; go_wp2; go_ret; exact ⟨v', _, rfl, hown', hgrow, hat⟩)
    | (unfold maxLen; omega)
    | omega
    | (simp; omega)
    | rfl
    | exact ⟨rfl, rfl, rfl⟩
    | (intro u hu; simp at hu; rcases hu with rfl | rfl | rfl <;> rfl)
    | (intro u hu; simp at hu; subst hu; rfl)
    | (intro j u hj
       match j, hj with
       | 0, hj => simp at hj; subst hj; simp [Addr.add]
       | 1, hj => simp at hj; subst hj; simp [Addr.add]
       | 2, hj => simp at hj; subst hj; simp [Addr.add]
       | (j + 3), hj => simp at hj)

set_option maxHeartbeats 4000000 in
set_option maxRecDepth 100000 in
theorem Tryd.rune_bad_big (v : Value) (n : Nat) (xs : List Value) (r : Int) (h0 : 1114111 < r) (h1 : r ≤ 2147483647) (w : World) (hown : w.ownsRow 0 5 1 v n xs) (hlen : n + 4 ≤ 140737488355328) :
    Calls Tryd.prog 62 #[v, .int .i32 r] w (RuneTo w v n xs [.int .u8 (239), .int .u8 (191), .int .u8 (189)]) := by
  obtain ⟨i0, hi, hz⟩ := Option.map_eq_some_iff.1 (show (Tryd.prog.info? 5).map (fun i => (i.zero, i.size, i.bytes)) = some (some (.int .u8 0), 1, 1) by kernel_rfl)
  simp only [Prod.mk.injEq] at hz
  obtain ⟨hz0, hz1, hz2⟩ := hz
  go_enter Tryd.func62, (show Tryd.f62.ntmps = 78 by kernel_rfl)
  go_wp2_with (at_builtin; refine wpList_append_own_at _ rfl _ _ 30 rfl 0 5 i0 (.int .u8 0) 1 1 Tryd.underlying30 hi hz0 hz1 hz2 rfl (by decide) _ _ _ rfl (hown.alloc _) ⟨w.heap.size, 0, none⟩ 3 3 [.int .u8 (239), .int .u8 (191), .int .u8 (189)] rfl rfl ?c1 ?c2 ?c3 ?c4 ?c5 ?_)
  all_goals first
    | (intro v' w2 hown' hgrow _ hat; go_wp2; go_ret; exact ⟨v', _, rfl, hown', hgrow, hat⟩)
    | (unfold maxLen; omega)
    | omega
    | (simp; omega)
    | rfl
    | exact ⟨rfl, rfl, rfl⟩
    | (intro u hu; simp at hu; rcases hu with rfl | rfl | rfl <;> rfl)
    | (intro u hu; simp at hu; subst hu; rfl)
    | (intro j u hj
       match j, hj with
       | 0, hj => simp at hj; subst hj; simp [Addr.add]
       | 1, hj => simp at hj; subst hj; simp [Addr.add]
       | 2, hj => simp at hj; subst hj; simp [Addr.add]
       | (j + 3), hj => simp at hj)

set_option maxHeartbeats 4000000 in
set_option maxRecDepth 100000 in
theorem Tryd.rune_ascii (v : Value) (n : Nat) (xs : List Value) (r : Int) (h0 : 0 ≤ r) (h1 : r ≤ 127) (w : World) (hown : w.ownsRow 0 5 1 v n xs) (hlen : n + 4 ≤ 140737488355328) :
    Calls Tryd.prog 56 #[v, .int .i32 r] w (RuneTo w v n xs [.int .u8 (r)]) := by
  obtain ⟨i0, hi, hz⟩ := Option.map_eq_some_iff.1 (show (Tryd.prog.info? 5).map (fun i => (i.zero, i.size, i.bytes)) = some (some (.int .u8 0), 1, 1) by kernel_rfl)
  simp only [Prod.mk.injEq] at hz
  obtain ⟨hz0, hz1, hz2⟩ := hz
  go_enter Tryd.func56, (show Tryd.f56.ntmps = 16 by kernel_rfl)
  go_wp2_with (at_builtin; refine wpList_append_own_at _ rfl _ _ 30 rfl 0 5 i0 (.int .u8 0) 1 1 Tryd.underlying30 hi hz0 hz1 hz2 rfl (by decide) _ _ _ rfl (hown.alloc _) ⟨w.heap.size, 0, none⟩ 1 1 [.int .u8 (r)] rfl rfl ?c1 ?c2 ?c3 ?c4 ?c5 ?_)
  all_goals first
    | (intro v' w2 hown' hgrow _ hat; go_wp2; go_ret; exact ⟨v', _, rfl, hown', hgrow, hat⟩)
    | (unfold maxLen; omega)
    | omega
    | (simp; omega)
    | rfl
    | exact ⟨rfl, rfl, rfl⟩
    | (intro u hu; simp at hu; rcases hu with rfl <;> rfl)
    | (intro u hu; simp at hu; subst hu; rfl)
    | (intro j u hj
       match j, hj with
       | 0, hj => simp at hj; subst hj; simp [Addr.add]
       | (j + 1), hj => simp at hj)

theorem Tryd.rune_other (v : Value) (n : Nat) (xs : List Value) (r : Int) (hr0 : -2147483648 ≤ r) (hr1 : r ≤ 2147483647) (hna : r < 0 ∨ 128 ≤ r) (w : World) (hown : w.ownsRow 0 5 1 v n xs) (hlen : n + 4 ≤ 140737488355328) :
    Calls Tryd.prog 62 #[v, .int .i32 r] w (RuneTo w v n xs (Lib.runeCells r)) := by
  by_cases c0 : r < 0
  · rw [show Lib.runeCells r = [.int .u8 239, .int .u8 191, .int .u8 189] by simp [Lib.runeCells, Lib.encodeRuneZ_bad (Or.inl c0)]]
    exact Tryd.rune_bad_neg v n xs r hr0 c0 w hown hlen
  by_cases c1 : r ≤ 2047
  · rw [show Lib.runeCells r = [.int .u8 (192 + r / 64), .int .u8 (128 + r % 64)] by simp [Lib.runeCells, Lib.encodeRuneZ_two (by omega) c1]]
    exact Tryd.rune_two v n xs r (by omega) c1 w hown hlen
  by_cases c2 : r < 55296
  · rw [show Lib.runeCells r = [.int .u8 (224 + r / 4096), .int .u8 (128 + r / 64 % 64), .int .u8 (128 + r % 64)] by simp [Lib.runeCells, Lib.encodeRuneZ_three (Or.inl ⟨by omega, c2⟩)]]
    exact Tryd.rune_three_lo v n xs r (by omega) c2 w hown hlen
  by_cases c3 : r ≤ 57343
  · rw [show Lib.runeCells r = [.int .u8 239, .int .u8 191, .int .u8 189] by simp [Lib.runeCells, Lib.encodeRuneZ_bad (Or.inr (Or.inl ⟨by omega, c3⟩))]]
    exact Tryd.rune_bad_sur v n xs r (by omega) c3 w hown hlen
  by_cases c4 : r ≤ 65535
  · rw [show Lib.runeCells r = [.int .u8 (224 + r / 4096), .int .u8 (128 + r / 64 % 64), .int .u8 (128 + r % 64)] by simp [Lib.runeCells, Lib.encodeRuneZ_three (Or.inr ⟨by omega, c4⟩)]]
    exact Tryd.rune_three_hi v n xs r (by omega) c4 w hown hlen
  by_cases c5 : r ≤ 1114111
  · rw [show Lib.runeCells r = [.int .u8 (240 + r / 262144), .int .u8 (128 + r / 4096 % 64), .int .u8 (128 + r / 64 % 64), .int .u8 (128 + r % 64)] by simp [Lib.runeCells, Lib.encodeRuneZ_four (by omega) c5]]
    exact Tryd.rune_four v n xs r (by omega) c5 w hown hlen
  · rw [show Lib.runeCells r = [.int .u8 239, .int .u8 191, .int .u8 189] by simp [Lib.runeCells, Lib.encodeRuneZ_bad (r := r) (Or.inr (Or.inr (by omega)))]]
    exact Tryd.rune_bad_big v n xs r (by omega) hr1 w hown hlen
set_option maxHeartbeats 4000000 in
set_option maxRecDepth 100000 in
theorem Tryd.rune_call (v : Value) (n : Nat) (xs : List Value) (r : Int) (hr0 : -2147483648 ≤ r) (hr1 : r ≤ 2147483647) (hna : r < 0 ∨ 128 ≤ r) (w : World) (hown : w.ownsRow 0 5 1 v n xs) (hlen : n + 4 ≤ 140737488355328) :
    Calls Tryd.prog 56 #[v, .int .i32 r] w (RuneTo w v n xs (Lib.runeCells r)) := by
  have e62 : ∀ args w, (callFunc 62 args).run Tryd.prog w = .ok (.enter 62 args) w := enters_of Tryd.func62 (by kernel_rfl) rfl
  rcases hna with hna | hna
  all_goals
    go_enter Tryd.func56, (show Tryd.f56.ntmps = 16 by kernel_rfl)
    go_wp2_with (go_at_fn 62; refine (Tryd.rune_other v n xs r hr0 hr1 (by omega) _ hown hlen).mono ?_)
    rintro e w1 ⟨v', o, rfl, h1, h2, h3⟩
    go_wp2
    go_ret
    exact ⟨_, _, rfl, h1, h2, h3⟩
theorem Tryd.appendRune (v : Value) (n : Nat) (xs : List Value) (r : Int) (hr0 : -2147483648 ≤ r) (hr1 : r ≤ 2147483647) (w : World) (hown : w.ownsRow 0 5 1 v n xs) (hlen : n + 4 ≤ 140737488355328) :
    Calls Tryd.prog 56 #[v, .int .i32 r] w (RuneTo w v n xs (Lib.runeCells r)) := by
  by_cases c : 0 ≤ r ∧ r ≤ 127
  · rw [show Lib.runeCells r = [.int .u8 r] by simp [Lib.runeCells, Lib.encodeRuneZ_one c.1 c.2]]
    exact Tryd.rune_ascii v n xs r c.1 c.2 w hown hlen
  · exact Tryd.rune_call v n xs r hr0 hr1 (by omega) w hown hlen
theorem bytesV_rune (r : Int) : bytesV (Lib.encodeRune r) = Lib.runeCells r := by
  rw [← Lib.byteCells_encodeRune]
  rfl
set_option maxHeartbeats 2000000 in
set_option maxRecDepth 100000 in
theorem Tryd.writeRune (r : Int) (hr0 : -2147483648 ≤ r) (hr1 : r ≤ 2147483647) : PutSpec Tryd.prog 42 53 5 (.int .i32 r) (Lib.encodeRune r) 4 (.tuple #[.int .i64 (Lib.encodeRune r).length, .nilIface]) := by
  intro b p v s w hb hp hrow hne hlen
  have hk4 := Lib.runeCells_le r
  have hkl := Lib.runeCells_length r
  have hlen' : s.length + 4 ≤ 140737488355328 := hlen
  have e55 : ∀ args w, (callFunc 55 args).run Tryd.prog w = .ok (.enter 55 args) w := enters_of Tryd.func55 (by kernel_rfl) rfl
  have e56 : ∀ args w, (callFunc 56 args).run Tryd.prog w = .ok (.enter 56 args) w := enters_of Tryd.func56 (by kernel_rfl) rfl
  go_enter Tryd.func42, (show Tryd.f42.ntmps = 30 by kernel_rfl)
  go_wp2_with (go_at_fn 55; refine (Tryd.copy_any hb hp).mono ?_)
  rintro e w1 ⟨rfl, hw1⟩
  have hb1 : w1.heap[b]? = some (.cells #[.pointer (some ⟨b, 0, none⟩), v] 53 (0, 0)) := by rw [hw1]; exact Go.Abs.putB_same hb
  have hs1 : w.heap.size = w1.heap.size := by rw [hw1]; exact Go.Abs.putB_size.symm
  have ho1 : ∀ k, k ≠ b → w1.heap[k]? = w.heap[k]? := fun k hk => by rw [hw1]; exact Go.Abs.putB_ne hk
  have hos1 : w1.os = w.os ∧ w1.tape = w.tape ∧ w1.output = w.output := by rw [hw1]; exact ⟨rfl, rfl, rfl⟩
  clear hw1
  have hlt : b < w1.heap.size := (Array.getElem?_eq_some_iff.1 hb1).1
  have hrow1 : RowOf 5 w1 v s := by
    rcases hrow with ⟨rfl, rfl⟩ | ⟨g, cap, cc, q0, rfl, q1, q2⟩
    · exact .inl ⟨rfl, rfl⟩
    · exact .inr ⟨g, cap, cc, q0, rfl, by rw [ho1 g (fun e => hne (by simp [rowBlk, e]))]; exact q1, q2⟩
  have hown := row_own hrow1
  obtain ⟨ao, cap, rfl⟩ : ∃ ao cap, v = .slice ao s.length cap := by
    rcases hown.2 with ⟨hv, h0⟩ | ⟨g, cap, cur, hv, _⟩
    · exact ⟨none, 0, by rw [hv, h0]⟩
    · exact ⟨_, _, hv⟩
  have c0 : w1.cell? ⟨b, 0, none⟩ = some (.pointer (some ⟨b, 0, none⟩)) := by simp [World.cell?, hb1]
  have c1 : w1.cell? ⟨b, 1, none⟩ = some (.slice ao s.length cap) := by simp [World.cell?, hb1]
  go_wp2_with (go_at_fn 56; refine (Tryd.appendRune _ s.length (bytesV s) r hr0 hr1 _ hown hlen').mono ?_)
  rintro e w2 ⟨v', o, rfl, hown', hgrow, hat⟩
  have hb2 : w2.heap[b]? = some (.cells #[.pointer (some ⟨b, 0, none⟩), .slice ao s.length cap] 53 (0, 0)) := by
    rw [hgrow.block b (by simp; omega) (fun e => hne (by rw [e]; rfl)), Lib.alloc_old w1 _ b hlt]
    exact hb1
  have d0 : w2.cell? ⟨b, 0, none⟩ = some (.pointer (some ⟨b, 0, none⟩)) := by simp [World.cell?, hb2]
  have d1 : w2.cell? ⟨b, 1, none⟩ = some (.slice ao s.length cap) := by simp [World.cell?, hb2]
  have f1 : w2.frozen? ⟨b, 1, none⟩ = false := by simp [World.frozen?, hb2]
  have hrow2 : RowOf 5 w2 v' (s ++ Lib.encodeRune r) := by
    refine own_row ?_ (by
      intro h
      have h2 := (List.append_eq_nil_iff.1 h).2
      rw [h2] at hkl
      simp only [List.length_nil] at hkl
      omega)
    have e : bytesV (s ++ Lib.encodeRune r) = bytesV s ++ Lib.runeCells r := by
      rw [← bytesV_rune]; simp [bytesV]
    rw [e, List.length_append, ← hkl]
    exact hown'
  obtain ⟨g, cap', rfl⟩ : ∃ g cap', v' = .slice (some ⟨g, 0, none⟩) (s.length + (Lib.runeCells r).length) cap' := by
    rcases hown'.2 with ⟨_, h0⟩ | ⟨g, cap', cur, hv, _⟩
    · omega
    · exact ⟨g, cap', hv⟩
  go_wp2
  go_ret2
  refine ⟨?_, ?_⟩
  · have e : ((s.length : Int) + ((Lib.encodeRune r).length : Int) - (s.length : Int)) = ((Lib.encodeRune r).length : Int) := by omega
    simp [e]
  · rw [hkl] at hrow2
    exact putTo_of (wa := w1.alloc o) hne hos1 hs1 ho1 ⟨rfl, rfl, rfl, by simp, fun k hk => Lib.alloc_old w1 _ k hk⟩ hgrow hlt hb2 hrow2 (hat.imp id fun h => ⟨_, h, by simp⟩)
end Go.Proofs
