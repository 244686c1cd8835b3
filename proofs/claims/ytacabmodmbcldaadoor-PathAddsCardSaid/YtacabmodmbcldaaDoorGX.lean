import Derived.Test.YtacabmodmbcldaaDoorLayG
import Derived.ProofKit
import Derived.LoopN
import Derived.Maps.AppendAt
import Derived.Test.YtacabmodmbcldaaDoorAbs22
import Derived.Test.YtacabmodmbcldaaDoorXT
import Derived.Test.YtacabmodmbcldaaDoorIrT
import Derived.Test.YtacabmodmbcldaaDoorLayT
/-! slices.Concat of two rows. -/
set_option linter.unusedVariables false
set_option linter.unusedSimpArgs false
namespace Go.Proofs
open Go.RowKit
theorem Tryd.so28 : (Tryd.prog.info? 28).isSome = true := by kernel_rfl
noncomputable def Tryd.i28 : TypeInfo := (Tryd.prog.info? 28).get Tryd.so28
theorem Tryd.hi28 : Tryd.prog.info? 28 = some Tryd.i28 := by unfold Tryd.i28; exact (Option.some_get Tryd.so28).symm
theorem Tryd.zo28 : Tryd.i28.zero.isSome = true := by kernel_rfl
noncomputable def Tryd.z28 : Value := Tryd.i28.zero.get Tryd.zo28
theorem Tryd.hz28 : Tryd.i28.zero = some Tryd.z28 := by unfold Tryd.z28; exact (Option.some_get Tryd.zo28).symm
theorem Tryd.sz28 : Tryd.i28.size = 5 := by kernel_rfl
theorem Tryd.by28 : Tryd.i28.bytes = 80 := by kernel_rfl
theorem Tryd.zc28 : Tryd.z28.cells.size = 5 := by kernel_rfl
theorem Tryd.un25 : Tryd.prog.underlying 25 = some (.slice 28) := by kernel_rfl
theorem Tryd.grow_own (w : World) (k : Nat) (hk : k * 80 ≤ 140737488355328) :
  Calls Tryd.prog 108 #[.slice none 0 0, .int .i64 k] w fun e w' => ∃ v, e = .returned v ∧ w'.ownsRow w.heap.size 28 5 v 0 [] ∧ Below w.heap.size w w' := by
 by_cases h : k = 0
 ·subst h
  refine (Any8.slices_Grow_room (P := Tryd.prog) Tryd.grow108 none 0 0 0 w (by omega) (by omega) (by omega) (by omega)).mono ?_
  rintro e w' ⟨rfl, rfl⟩
  exact ⟨_, rfl, World.ownsRow_nil _ _ _ _, Below.refl _ _⟩
 ·refine (Any8.slices_Grow_grow (P := Tryd.prog) Tryd.grow108 Tryd.i28 Tryd.z28 Tryd.hi28 Tryd.hz28 (by rw [Tryd.sz28]; omega) none 0 0 k [] w (by omega) (by omega) (by rw [Tryd.by28]; omega) (by omega) (by simp) (by simp) (by simp)).mono ?_
  rintro e w' ⟨rfl, rfl⟩
  refine ⟨_, rfl, World.ownsRow_made (base := w.heap.size) w.drew _ _ (Nat.le_refl _) (grownCap_le_maxLen w _ _ _ (by unfold maxLen; omega)) ?_, ⟨rfl, rfl, rfl, by simp, fun k hk => heap_alloc_old _ _ hk⟩⟩
  have := grownCap_ge w (0 + k) 0 28
  show ((([] : List Value).toArray ++ Builtin.zeroCells Tryd.z28.cells (0 + k - 0)) ++ Builtin.zeroCells Tryd.z28.cells (grownCap w (0 + k) 0 28 - (0 + k))).size = grownCap w (0 + k) 0 28 * 5
  simp only [Array.size_append, size_zeroCells, Tryd.zc28, List.size_toArray, List.length_nil]
  omega
def News (w : World) (x : Value) (m : Nat) (news : List Value) : Prop :=
 (m = 0 ∧ news = [] ∧ ∃ c, x = .slice none 0 c) ∨ (∃ ad c, x = .slice (some ad) m c ∧ news.length = m * 5 ∧ (∀ j u, news[j]? = some u → w.cell? (ad.add j) = some u) ∧ ∀ u ∈ news, u.oneCell' = true)
theorem Tryd.wpList_two {w : World} {ops : Array Oper} {rest : List Oper} {o : Oper} {a : Act} {Q : Exit → Act → World → Prop} (hgd : o.guard = none) (s x : Operand)
  (ho : o.op = .call { callee := .builtin .append, args := #[s, x], argTypes := #[25, 25] })
  (base : Nat) (v xv : Value) (n m : Nat) (xs news : List Value) (hs : a.eval s = v) (hown : w.ownsRow base 28 5 v n xs) (hx : a.eval x = xv) (hn : News w xv m news)
  (hbytes : (n + m) * 80 ≤ 140737488355328) (hbase : base ≤ w.heap.size)
  (h : ∀ v' w', w'.ownsRow base 28 5 v' (n + m) (xs ++ news) → w.grownBy w' v.ownBlock → (v'.ownBlock = v.ownBlock ∨ v'.ownBlock = some w.heap.size) → wpList Tryd.prog ops Q rest (a.put o.dst v') w') :
  wpList Tryd.prog ops Q (o :: rest) a w := by
 rcases hn with ⟨rfl, rfl, c, rfl⟩ | ⟨ad, c, rfl, h1, h2, h3⟩
 ·refine wpList_plain hgd fun K hK => ?_
  have hr : ∃ v', (Builtin.append_ #[25, 25] o.type #[v, .slice none 0 c]).run Tryd.prog w = .ok v' w ∧ w.ownsRow base 28 5 v' (n + 0) (xs ++ []) ∧ v'.ownBlock = v.ownBlock := by
   rcases hown.2 with ⟨rfl, rfl⟩ | ⟨g, cap, cur, rfl, hb, hg, hle, hm, hsz, ht⟩
   ·refine ⟨.slice none 0 0, ?_, by simpa using hown, rfl⟩
    exact Go.Abs.run_app_room (P := Tryd.prog) (n := 0) (news := #[]) (sLen := 0) (sCap := 0) rfl rfl Tryd.un25 (.inl ⟨_, Tryd.un25⟩) Tryd.hi28 (fun w1 => by simp [Builtin.lenOf]) (by simp [Builtin.firstCells]) (Nat.le_refl _) rfl
   ·refine ⟨.slice (some ⟨g, 0, none⟩) n cap, ?_, by simpa using hown, rfl⟩
    exact Go.Abs.run_app_room (P := Tryd.prog) (n := 0) (news := #[]) rfl rfl Tryd.un25 (.inl ⟨_, Tryd.un25⟩) Tryd.hi28 (fun w1 => by simp [Builtin.lenOf]) (by simp [Builtin.firstCells]) (by omega) (by simp [storeCells])
  obtain ⟨v', hr, ho1, ho2⟩ := hr
  unfold Oper.wp execOp
  simp only [ho, resolve, invoke, builtin, Sem.run_bind, Sem.run_pure, Result.andThen_ok, List.map_toArray, List.map_cons, List.map_nil, hs, hx, hr]
  exact hK _ _ (h v' w ho1 ⟨rfl, rfl, rfl, Nat.le_refl _, fun _ _ _ => rfl⟩ (.inl ho2))
 ·exact wpList_append_own_at w hgd s x 25 ho base 28 Tryd.i28 Tryd.z28 5 80 Tryd.un25 Tryd.hi28 Tryd.hz28 Tryd.sz28 Tryd.by28 Tryd.zc28 (by omega) v n xs hs hown ad m c news hx h1 h2 h3 (by unfold maxLen; omega) hbytes hbase fun v' w' g1 g2 _ g3 => h v' w' g1 g2 g3
theorem own_below {B : Nat} {w w' : World} {v : Value} {n : Nat} {xs : List Value} (hB : B ≤ w.heap.size) (h : w.ownsRow B 28 5 v n xs) (hg : w.grownBy w' v.ownBlock) : Below B w w' :=
 ⟨hg.os, hg.tape, hg.output, hg.size, fun k hk => hg.block k (by omega) fun e => by have := (h.lt k e.symm).1; omega⟩
set_option maxHeartbeats 4000000 in
set_option maxRecDepth 100000 in
theorem Tryd.concat (w : World) (b o c : Nat) (a1 a2 : Option Addr) (n1 c1 n2 c2 : Nat) (s1 s2 : List Value)
  (h0 : w.cell? ⟨b, o, none⟩ = some (.slice a1 n1 c1)) (h1 : w.cell? ⟨b, o + 1, none⟩ = some (.slice a2 n2 c2)) (hr : (n1 + n2) * 80 ≤ 140737488355328)
  (hs1 : ∀ w', Below w.heap.size w w' → News w' (.slice a1 n1 c1) n1 s1) (hs2 : ∀ w', Below w.heap.size w w' → News w' (.slice a2 n2 c2) n2 s2)
  (hk : ∀ w', Below w.heap.size w w' → w'.cell? ⟨b, o, none⟩ = some (.slice a1 n1 c1) ∧ w'.cell? ⟨b, o + 1, none⟩ = some (.slice a2 n2 c2)) :
  Calls Tryd.prog 71 #[.slice (some ⟨b, o, none⟩) 2 c] w fun e w' => ∃ v, e = .returned v ∧ w'.ownsRow w.heap.size 28 5 v (n1 + n2) (s1 ++ s2) ∧ Below w.heap.size w w' := by
 go_enter Tryd.func71, (show Tryd.f71.ntmps = 36 by kernel_rfl)
 go_wp2
 refine wp_loop_rounds 3 ?_
 rw [rounds_succ]
 go_wp2
 rw [rounds_succ]
 go_wp2
 rw [rounds_succ]
 have hg := Tryd.grow_own w (n1 + n2) hr
 rw [Int.natCast_add] at hg
 go_wp2_with (go_at_fn 108)
 refine hg.mono ?_
 rintro e w1 ⟨v, rfl, ho1, hb1⟩
 obtain ⟨k0, k1⟩ := hk w1 hb1
 have m1 := hs1 w1 hb1
 go_wp2
 refine wp_loop_rounds 3 ?_
 rw [rounds_succ]
 go_wp2_with (at_builtin; refine Tryd.wpList_two rfl _ _ rfl w.heap.size v _ 0 n1 [] s1 (by rfl) ho1 (by rfl) m1 (by omega) hb1.size ?_)
 intro v2 w2 ho2 hg2 _
 have hb2 := hb1.trans (own_below hb1.size ho1 hg2)
 obtain ⟨_, k2⟩ := hk w2 hb2
 have m2 := hs2 w2 hb2
 go_wp2
 rw [rounds_succ]
 go_wp2_with (at_builtin; refine Tryd.wpList_two rfl _ _ rfl w.heap.size v2 _ n1 n2 s1 s2 (by rfl) ho2 (by rfl) m2 hr hb2.size ?_)
 intro v3 w3 ho3 hg3 _
 have hb3 := hb2.trans (own_below hb2.size ho2 hg3)
 go_wp2
 rw [rounds_succ]
 go_wp2
 go_ret
 exact ⟨_, rfl, ho3, hb3⟩
end Go.Proofs
namespace Go.Abs.T
open Go.Proofs
theorem Re_one {F : Blks} {w : World} {esz : Nat} : ∀ {xs : List D} {ws : List Value}, Re F w esz xs ws → ∀ u ∈ ws, u.oneCell' = true
 | [], ws, h, u, hu => by simp only [Re] at h; subst h; cases hu
 | y :: r, ws, h, u, hu => by
  simp only [Re] at h
  obtain ⟨v, ws', rfl, _, h2, _, h4⟩ := h
  rcases List.mem_append.1 hu with hu | hu
  ·exact List.all_eq_true.1 h2 u hu
  ·exact Re_one h4 u hu
theorem news_of {F : Blks} {w : World} {a : List D} {x : Value} (h : Rv F w (.sl a) x) (hs : allSz 5 a = true) (hF : ∀ b, F b → b < w.heap.size) :
  ∃ p c ws, x = .slice p a.length c ∧ Re F w 5 a ws ∧ ∀ w', RowKit.Below w.heap.size w w' → News w' x a.length ws := by
 simp only [Rv] at h
 obtain ⟨p, c, rfl, hle, h⟩ := h
 cases a with
 | nil =>
  refine ⟨p, c, [], rfl, by simp [Re], fun w' _ => ?_⟩
  cases p with
  | none => exact .inl ⟨rfl, rfl, c, rfl⟩
  | some ad => exact .inr ⟨ad, c, rfl, rfl, by simp, by simp⟩
 | cons y r =>
  rcases h with h | ⟨b, o, esz, ws, rfl, hb, hz, hre, hc⟩
  ·cases h
  ·have h1 := allSz_cons hs
   have hre0 := hre
   simp only [Re] at hre
   obtain ⟨u, ws', hh, g1, g2, g3, g4⟩ := hre
   have := esz_eq g3 (List.all_eq_true.1 g2) g1 h1.2.1
   subst this
   refine ⟨_, c, ws, rfl, hre0, fun w' hw => .inr ⟨_, c, rfl, Re_len hre0, fun j v hj => ?_, fun v hv => Re_one hre0 v hv⟩⟩
   rw [Addr.add_off, World.cell?_of_block (w := w) (w' := w') (a := ⟨b, o + j, none⟩) (hw.block b (hF b hb))]
   exact hc j v hj
theorem concat_keeps : ExtOK Tryd.prog glob 71 ext_zdr := by
 intro vs d he ρ F stk w args hok hG ha
 unfold ext_zdr catD at he
 split at he <;> try (cases he; done)
 rename_i a b
 split at he <;> try (cases he; done)
 rename_i hc
 cases he
 obtain ⟨hroom, hsa, hsb⟩ := hc
 simp only [RVt, RV] at ha
 obtain ⟨u, us, rfl, hu, rfl⟩ := ha
 rw [Rv] at hu
 obtain ⟨p, c, rfl, hle, hu⟩ := hu
 rcases hu with hu | ⟨b0, o, esz, ws, rfl, hb0, hz, hre, hcl⟩
 ·cases hu
 simp only [Re] at hre
 obtain ⟨u1, ws1, rfl, g1, g2, g3, u2, ws2, rfl, g4, g5, g6, rfl⟩ := hre
 obtain ⟨p1, c1, s1, rfl, q1, n1⟩ := news_of g3 hsa hok.lt
 obtain ⟨p2, c2, s2, rfl, q2, n2⟩ := news_of g6 hsb hok.lt
 have e1 : w.cell? ⟨b0, o, none⟩ = some (.slice p1 a.length c1) := hcl 0 _ (by simp [Value.cells])
 have e2 : w.cell? ⟨b0, o + 1, none⟩ = some (.slice p2 b.length c2) := hcl 1 _ (by simp [Value.cells])
 refine (Tryd.concat w b0 o c p1 p2 a.length c1 b.length c2 s1 s2 e1 e2 (by simpa [room] using hroom) n1 n2 fun w' hw => ?_).mono ?_
 ·exact ⟨(World.cell?_of_block (w := w) (w' := w') (a := ⟨b0, o, none⟩) (hw.block b0 (hok.lt b0 hb0))).trans e1, (World.cell?_of_block (w := w) (w' := w') (a := ⟨b0, o + 1, none⟩) (hw.block b0 (hok.lt b0 hb0))).trans e2⟩
 ·rintro en w' ⟨v, rfl, hown, hb⟩
  refine ⟨v, fun k => F k ∨ v.ownBlock = some k, rfl, fun k h => .inl h, fun k h => h.imp id fun h => hown.lt k h, ?_, hb⟩
  have hkp : Keep F (fun k => F k ∨ v.ownBlock = some k) w w' := ⟨fun k h => .inl h, fun k h => hb.block k (hok.lt k h)⟩
  have hre := Re_append (Re.keep hkp 5 _ _ q1) (Re.keep hkp 5 _ _ q2)
  rw [Rv]
  rcases hown.2 with ⟨rfl, h0⟩ | ⟨g, cap, cur, rfl, hbg, hg, hn, hm, hsz, ht⟩
  ·exact ⟨none, 0, by rw [List.length_append, h0], by rw [List.length_append, h0]; exact Nat.le_refl _, .inl (List.length_eq_zero_iff.1 (by rw [List.length_append, h0]))⟩
  ·refine ⟨some ⟨g, 0, none⟩, cap, by rw [List.length_append], by rw [List.length_append]; exact hn, .inr ⟨g, 0, 5, s1 ++ s2, rfl, .inr rfl, by omega, hre, ?_⟩⟩
   have := Cells_of_row (o := 0) (sz := (a.length + b.length) * 5) hg
   rwa [List.drop_zero, ht] at this
end Go.Abs.T
