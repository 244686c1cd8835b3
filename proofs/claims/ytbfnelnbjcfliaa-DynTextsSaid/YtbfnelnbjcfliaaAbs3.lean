import Derived.Test.YtbfnelnbjcfliaaAbs2
import Derived.Laws.AppendOwn
import Derived.LoopN
/-! What data, values and objects stand for in the model's memory. -/
set_option linter.unusedVariables false
set_option linter.unusedSimpArgs false
namespace Go.Abs

/-- Where an object lies; of a slice's array, how many elements there is room for. -/
structure Loc where
  blk : Nat
  cap : Nat
abbrev Rho := Lab → Loc
abbrev Blks := Nat → Prop

def Cells (w : World) (b o : Nat) (ws : List Value) : Prop := ∀ j u, ws[j]? = some u → w.cell? ⟨b, o + j, none⟩ = some u
theorem Cells.eq {w w' : World} {b o : Nat} {ws : List Value} (h : Cells w b o ws) (he : w'.heap[b]? = w.heap[b]?) : Cells w' b o ws := fun j u hj => by
  rw [World.cell?_of_block (w := w) (w' := w') (a := ⟨b, o + j, none⟩) he]; exact h j u hj

mutual
def Rv (F : Blks) (w : World) : D → Value → Prop
  | .any, v => v.oneCell' = true
  | .bool b, v => v = .bool b
  | .int k n, v => v = .int k n
  | .float k n, v => v = .float k n
  | .str s, v => v = .string ⟨⟨s⟩⟩
  | .agg cs, v => ∃ us, v = .agg us ∧ Rl F w cs us.toList
  | .tup vs, v => ∃ us, v = .tuple us ∧ Rt F w vs us.toList
  | .nilp, v => v = .pointer none
  | .iptr cs, v => ∃ b o ws, v = .pointer (some ⟨b, o, none⟩) ∧ F b ∧ Rl F w cs ws ∧ Cells w b o ws
  | .sl xs, v => ∃ a c, v = .slice a xs.length c ∧ xs.length ≤ c ∧ (xs = [] ∨ ∃ b o esz ws, a = some ⟨b, o, none⟩ ∧ F b ∧ 0 < esz ∧ Re F w esz xs ws ∧ Cells w b o ws)
  | .nils, v => v = .slice none 0 0
  | .nilmap, v => v = .map none
  | .map ks vs, v => ∃ r es clock, v = .map (some r) ∧ F r ∧ w.heap[r]? = some (.map es clock) ∧ Rk F w ks es.toList ∧ Rm F w vs es.toList
  | .func fn f c, v => ∃ fs cs, v = .func fn fs cs ∧ Rt F w f fs.toList ∧ Rt F w c cs.toList
  | .nilf, v => v = .nilFunc
  | .iface t x, v => ∃ u, v = .iface t u ∧ Rv F w x u
  | .nili, v => v = .nilIface
/-- Cells, one of each. -/
def Rl (F : Blks) (w : World) : List D → List Value → Prop
  | [], us => us = []
  | x :: r, us => ∃ u us', us = u :: us' ∧ u.oneCell' = true ∧ Rv F w x u ∧ Rl F w r us'
/-- Values. -/
def Rt (F : Blks) (w : World) : List D → List Value → Prop
  | [], us => us = []
  | x :: r, us => ∃ u us', us = u :: us' ∧ Rv F w x u ∧ Rt F w r us'
/-- A row of elements. -/
def Re (F : Blks) (w : World) (esz : Nat) : List D → List Value → Prop
  | [], ws => ws = []
  | x :: r, ws => ∃ u ws', ws = u.cells.toList ++ ws' ∧ u.cells.size = esz ∧ (u.cells.toList.all (·.oneCell')) = true ∧ Rv F w x u ∧ Re F w esz r ws'
def Rk (F : Blks) (w : World) : List D → List MapEntry → Prop
  | [], es => es = []
  | x :: r, es => ∃ e es', es = e :: es' ∧ Rv F w x e.key ∧ Rk F w r es'
def Rm (F : Blks) (w : World) : List D → List MapEntry → Prop
  | [], es => es = []
  | x :: r, es => ∃ e es', es = e :: es' ∧ Rv F w x e.val ∧ Rm F w r es'
end

structure Keep (F F' : Blks) (w w' : World) : Prop where
  sub : ∀ b, F b → F' b
  eq : ∀ b, F b → w'.heap[b]? = w.heap[b]?

mutual
theorem Rv.keep {F F' : Blks} {w w' : World} (h : Keep F F' w w') : ∀ (x : D) (v : Value), Rv F w x v → Rv F' w' x v
  | .any, v, hv | .bool b, v, hv | .int k n, v, hv | .float k n, v, hv | .str s, v, hv | .nilp, v, hv | .nils, v, hv | .nilmap, v, hv | .nilf, v, hv | .nili, v, hv => by
    simp only [Rv] at hv ⊢; exact hv
  | .agg cs, v, hv => by
    simp only [Rv] at hv ⊢
    obtain ⟨us, e, hl⟩ := hv
    exact ⟨us, e, Rl.keep h cs _ hl⟩
  | .tup vs, v, hv => by
    simp only [Rv] at hv ⊢
    obtain ⟨us, e, hl⟩ := hv
    exact ⟨us, e, Rt.keep h vs _ hl⟩
  | .iptr cs, v, hv => by
    simp only [Rv] at hv ⊢
    obtain ⟨b, o, ws, e, hb, hl, hc⟩ := hv
    exact ⟨b, o, ws, e, h.sub b hb, Rl.keep h cs _ hl, hc.eq (h.eq b hb)⟩
  | .sl xs, v, hv => by
    simp only [Rv] at hv ⊢
    obtain ⟨a, c, e, hle, hx⟩ := hv
    refine ⟨a, c, e, hle, hx.imp id ?_⟩
    rintro ⟨b, o, esz, ws, ha, hb, hz, hs, hc⟩
    exact ⟨b, o, esz, ws, ha, h.sub b hb, hz, Re.keep h esz xs _ hs, hc.eq (h.eq b hb)⟩
  | .map ks vs, v, hv => by
    simp only [Rv] at hv ⊢
    obtain ⟨r, es, clock, e, hr, hh, hk, hm⟩ := hv
    exact ⟨r, es, clock, e, h.sub r hr, (h.eq r hr).trans hh, Rk.keep h ks _ hk, Rm.keep h vs _ hm⟩
  | .func fn f c, v, hv => by
    simp only [Rv] at hv ⊢
    obtain ⟨fs, cs, e, h1, h2⟩ := hv
    exact ⟨fs, cs, e, Rt.keep h f _ h1, Rt.keep h c _ h2⟩
  | .iface t x, v, hv => by
    simp only [Rv] at hv ⊢
    obtain ⟨u, e, hx⟩ := hv
    exact ⟨u, e, Rv.keep h x u hx⟩
theorem Rl.keep {F F' : Blks} {w w' : World} (h : Keep F F' w w') : ∀ (xs : List D) (us : List Value), Rl F w xs us → Rl F' w' xs us
  | [], us, hu => by simp only [Rl] at hu ⊢; exact hu
  | x :: r, us, hu => by
    simp only [Rl] at hu ⊢
    obtain ⟨u, us', e, h1, hx, hr⟩ := hu
    exact ⟨u, us', e, h1, Rv.keep h x u hx, Rl.keep h r us' hr⟩
theorem Rt.keep {F F' : Blks} {w w' : World} (h : Keep F F' w w') : ∀ (xs : List D) (us : List Value), Rt F w xs us → Rt F' w' xs us
  | [], us, hu => by simp only [Rt] at hu ⊢; exact hu
  | x :: r, us, hu => by
    simp only [Rt] at hu ⊢
    obtain ⟨u, us', e, hx, hr⟩ := hu
    exact ⟨u, us', e, Rv.keep h x u hx, Rt.keep h r us' hr⟩
theorem Re.keep {F F' : Blks} {w w' : World} (h : Keep F F' w w') (esz : Nat) : ∀ (xs : List D) (ws : List Value), Re F w esz xs ws → Re F' w' esz xs ws
  | [], ws, hu => by simp only [Re] at hu ⊢; exact hu
  | x :: r, ws, hu => by
    simp only [Re] at hu ⊢
    obtain ⟨u, ws', e, h1, h2, hx, hr⟩ := hu
    exact ⟨u, ws', e, h1, h2, Rv.keep h x u hx, Re.keep h esz r ws' hr⟩
theorem Rk.keep {F F' : Blks} {w w' : World} (h : Keep F F' w w') : ∀ (xs : List D) (us : List MapEntry), Rk F w xs us → Rk F' w' xs us
  | [], us, hu => by simp only [Rk] at hu ⊢; exact hu
  | x :: r, us, hu => by
    simp only [Rk] at hu ⊢
    obtain ⟨u, us', e, hx, hr⟩ := hu
    exact ⟨u, us', e, Rv.keep h x _ hx, Rk.keep h r us' hr⟩
theorem Rm.keep {F F' : Blks} {w w' : World} (h : Keep F F' w w') : ∀ (xs : List D) (us : List MapEntry), Rm F w xs us → Rm F' w' xs us
  | [], us, hu => by simp only [Rm] at hu ⊢; exact hu
  | x :: r, us, hu => by
    simp only [Rm] at hu ⊢
    obtain ⟨u, us', e, hx, hr⟩ := hu
    exact ⟨u, us', e, Rv.keep h x _ hx, Rm.keep h r us' hr⟩
end

def O.fixed : O → Bool
  | .arr _ _ _ | .hid _ _ _ => false
  | _ => true
mutual
def RV (ρ : Rho) (F : Blks) (stk : Stk) (w : World) : V → Value → Prop
  | .dead, _ => True
  | .d x, v => Rv F w x v
  | .agg cs, v => ∃ us, v = .agg us ∧ RVl ρ F stk w cs us.toList
  | .tup vs, v => ∃ us, v = .tuple us ∧ RVt ρ F stk w vs us.toList
  | .ref l o, v => v = .pointer (some ⟨(ρ l).blk, o, none⟩) ∧ ∃ ob, getO stk l = some ob ∧ ob.fixed = true
  | .eref l g i o, v => ∃ g' esz xs, getO stk l = some (.arr g' esz xs) ∧ (∃ b o', v = .pointer (some ⟨b, o', none⟩)) ∧ g ≤ g' ∧ (g = g' → v = .pointer (some ⟨(ρ l).blk, i * esz + o, none⟩))
  | .msl l g o n, v => ∃ g' esz xs, getO stk l = some (.arr g' esz xs) ∧ (∃ a c, v = .slice a n c) ∧ g ≤ g' ∧ (g = g' → ∃ a c, v = .slice a n c ∧ n ≤ c ∧ o + c = (ρ l).cap ∧ (0 < c → a = some ⟨(ρ l).blk, o * esz, none⟩))
  | .map l, v => v = .map (some (ρ l).blk) ∧ ∃ ob, getO stk l = some ob ∧ ob.fixed = true
  | .clos fn a b, v => ∃ fs cs, v = .func fn fs cs ∧ RVt ρ F stk w a fs.toList ∧ RVt ρ F stk w b cs.toList
  | .iface t x, v => ∃ u, v = .iface t u ∧ RV ρ F stk w x u
def RVl (ρ : Rho) (F : Blks) (stk : Stk) (w : World) : List V → List Value → Prop
  | [], us => us = []
  | x :: r, us => ∃ u us', us = u :: us' ∧ u.oneCell' = true ∧ RV ρ F stk w x u ∧ RVl ρ F stk w r us'
def RVt (ρ : Rho) (F : Blks) (stk : Stk) (w : World) : List V → List Value → Prop
  | [], us => us = []
  | x :: r, us => ∃ u us', us = u :: us' ∧ RV ρ F stk w x u ∧ RVt ρ F stk w r us'
end
/-- A map's entries. -/
def RE (ρ : Rho) (F : Blks) (stk : Stk) (w : World) : List (D × Nat × V) → List MapEntry → Prop
  | [], es => es = []
  | x :: r, es => ∃ e es', es = e :: es' ∧ Rv F w x.1 e.key ∧ RV ρ F stk w x.2.2 e.val ∧ RE ρ F stk w r es'

/-- A builder's buffer: a row that is hidden behind it; or nobody asks any more. -/
def RB (ρ : Rho) (stk : Stk) : V → Value → Prop
  | .msl l g _ _, u => ∃ te g' s, getO stk l = some (.hid te g' s) ∧ g ≤ g' ∧ (g = g' → ((ρ l).cap = 0 ∧ u = .slice none 0 0) ∨ ((ρ l).cap ≠ 0 ∧ u = .slice (some ⟨(ρ l).blk, 0, none⟩) s.length (ρ l).cap))
  | .dead, _ => True
  | _, _ => False
def noFz (c : Array Value) (fz : Nat × Nat) : Prop := ∀ j, j < c.size → (decide (fz.1 ≤ j) && decide (j < fz.2)) = false
def RO (ρ : Rho) (F : Blks) (stk : Stk) (w : World) (l : Lab) : O → Prop
  | .cells cs => ∃ c e, w.heap[(ρ l).blk]? = some (.cells c e (0, 0)) ∧ RVl ρ F stk w cs c.toList
  | .arr _ esz xs => ((ρ l).cap = 0 ∧ xs = [] ∧ 0 < esz) ∨ ∃ c e fz ws rest, w.heap[(ρ l).blk]? = some (.cells c e fz) ∧ noFz c fz ∧ 0 < esz ∧ Re F w esz xs ws ∧ c.toList = ws ++ rest ∧
      c.size = (ρ l).cap * esz ∧ xs.length ≤ (ρ l).cap
  | .map clock es => ∃ ents, w.heap[(ρ l).blk]? = some (.map ents clock) ∧ RE ρ F stk w es ents.toList
  | .siter s pos => w.heap[(ρ l).blk]? = some (.stringIter ⟨⟨s⟩⟩ pos)
  | .bld ty used v => ∃ u, w.heap[(ρ l).blk]? = some (.cells #[.pointer (if used then some ⟨(ρ l).blk, 0, none⟩ else none), u] ty (0, 0)) ∧ RB ρ stk v u
  | .hid te _ s => ((ρ l).cap = 0 ∧ s = []) ∨ ∃ c, w.heap[(ρ l).blk]? = some (.cells c te (0, 0)) ∧ c.size = (ρ l).cap ∧ c.toList.take s.length = s.map (fun b => .int .u8 b.toNat) ∧ s.length ≤ (ρ l).cap ∧ (ρ l).cap ≤ maxLen

/-- An object that has a block of its own: not the array of a slice without room. -/
def O.real (ρ : Rho) (l : Lab) (o : O) : Prop := o.fixed = true ∨ (ρ l).cap ≠ 0
def has (ρ : Rho) (stk : Stk) (l : Lab) : Prop := ∃ o, getO stk l = some o ∧ o.real ρ l
/-- The levels' numbers fall. -/
def Falls : Stk → Prop
  | [] => True
  | c :: s => (∀ c' ∈ s, c'.n < c.n) ∧ Falls s

structure Ok (ρ : Rho) (F : Blks) (stk : Stk) (w : World) : Prop where
  objs : ∀ l o, getO stk l = some o → RO ρ F stk w l o
  inj : ∀ l l', has ρ stk l → has ρ stk l' → (ρ l).blk = (ρ l').blk → l = l'
  sep : ∀ l, has ρ stk l → ¬ F (ρ l).blk
  lt : ∀ b, F b → b < w.heap.size
  falls : Falls stk
  scope : ∀ l o, getO stk l = some o → ∀ v ∈ o.vals, V.upto l.lv v = true

/-- How an object may have turned. -/
def Turned (ρ ρ' : Rho) (l : Lab) : O → O → Prop
  | .cells _, .cells _ => (ρ' l).blk = (ρ l).blk
  | .arr g esz _, .arr g' esz' _ => g ≤ g' ∧ (g = g' → ρ' l = ρ l ∧ esz' = esz)
  | .map _ _, .map _ _ => (ρ' l).blk = (ρ l).blk
  | .siter _ _, .siter _ _ => (ρ' l).blk = (ρ l).blk
  | .bld _ _ _, .bld _ _ _ => (ρ' l).blk = (ρ l).blk
  | .hid te g s, .hid te' g' s' => te = te' ∧ g ≤ g' ∧ (g = g' → ρ' l = ρ l ∧ s = s')
  | _, _ => False

structure Goes (m : Nat) (ρ : Rho) (F : Blks) (stk : Stk) (w : World) (ρ' : Rho) (F' : Blks) (stk' : Stk) (w' : World) : Prop where
  os : w'.os = w.os
  tape : w'.tape = w.tape
  output : w'.output = w.output
  size : w.heap.size ≤ w'.heap.size
  frame : ∀ b, b < w.heap.size → (∀ l, has ρ stk l → (ρ l).blk ≠ b) → w'.heap[b]? = w.heap[b]?
  sub : ∀ b, F b → F' b
  new : ∀ b, F' b → F b ∨ w.heap.size ≤ b ∨ ∃ l, has ρ stk l ∧ (ρ l).blk = b
  own : ∀ l, has ρ' stk' l → w.heap.size ≤ (ρ' l).blk ∨ ∃ l0, has ρ stk l0 ∧ (ρ l0).blk = (ρ' l).blk
  evol : ∀ l o, l.lv < m → getO stk l = some o → ∃ o', getO stk' l = some o' ∧ Turned ρ ρ' l o o'

theorem Turned.refl (ρ : Rho) (l : Lab) (o : O) : Turned ρ ρ l o o := by cases o <;> simp [Turned]
theorem Turned.trans {ρ ρ' ρ'' : Rho} {l : Lab} {a b c : O} (h : Turned ρ ρ' l a b) (k : Turned ρ' ρ'' l b c) : Turned ρ ρ'' l a c := by
  cases a <;> cases b <;> simp only [Turned] at h <;> cases c <;> simp only [Turned] at k ⊢
  · exact k.trans h
  · refine ⟨Nat.le_trans h.1 k.1, fun e => ?_⟩
    have h1 : _ = _ := Nat.le_antisymm h.1 (e ▸ k.1)
    have := h.2 h1
    have k2 := k.2 (h1 ▸ e)
    exact ⟨k2.1.trans this.1, k2.2.trans this.2⟩
  · exact k.trans h
  · exact k.trans h
  · exact k.trans h
  · obtain ⟨h0, h1, h2⟩ := h
    obtain ⟨k0, k1, k2⟩ := k
    refine ⟨h0.trans k0, Nat.le_trans h1 k1, fun e => ?_⟩
    have e1 := Nat.le_antisymm h1 (e ▸ k1)
    have a1 := h2 e1
    have a2 := k2 (e1 ▸ e)
    exact ⟨a2.1.trans a1.1, a1.2.trans a2.2⟩

theorem Goes.refl (m : Nat) (ρ : Rho) (F : Blks) (stk : Stk) (w : World) : Goes m ρ F stk w ρ F stk w :=
  ⟨rfl, rfl, rfl, Nat.le_refl _, fun _ _ _ => rfl, fun _ h => h, fun _ h => .inl h, fun l h => .inr ⟨l, h, rfl⟩, fun l o _ h => ⟨o, h, Turned.refl ρ l o⟩⟩
theorem Goes.trans {m : Nat} {ρ ρ' ρ'' : Rho} {F F' F'' : Blks} {stk stk' stk'' : Stk} {w w' w'' : World} (h : Goes m ρ F stk w ρ' F' stk' w') (k : Goes m ρ' F' stk' w' ρ'' F'' stk'' w'') :
    Goes m ρ F stk w ρ'' F'' stk'' w'' where
  os := k.os.trans h.os
  tape := k.tape.trans h.tape
  output := k.output.trans h.output
  size := Nat.le_trans h.size k.size
  frame b hb hn := by
    have h1 := h.frame b hb hn
    rw [← h1]
    refine k.frame b (Nat.lt_of_lt_of_le hb h.size) fun l hl e => ?_
    rcases h.own l hl with h2 | ⟨l0, h2, h3⟩
    · omega
    · exact hn l0 h2 (h3.trans e)
  sub b hb := k.sub b (h.sub b hb)
  new b hb := by
    rcases k.new b hb with h1 | h1 | ⟨l, hl, h1⟩
    · exact h.new b h1
    · exact .inr (.inl (Nat.le_trans h.size h1))
    · rcases h.own l hl with h2 | ⟨l0, h2, h3⟩
      · exact .inr (.inl (h1 ▸ h2))
      · exact .inr (.inr ⟨l0, h2, h3.trans h1⟩)
  own l hl := by
    rcases k.own l hl with h1 | ⟨l0, h1, h2⟩
    · exact .inl (Nat.le_trans h.size h1)
    · rcases h.own l0 h1 with h3 | ⟨l1, h3, h4⟩
      · exact .inl (h2 ▸ h3)
      · exact .inr ⟨l1, h3, h4.trans h2⟩
  evol l o hlv hl := by
    obtain ⟨o', h1, h2⟩ := h.evol l o hlv hl
    obtain ⟨o'', h3, h4⟩ := k.evol l o' hlv h1
    exact ⟨o'', h3, h2.trans h4⟩
theorem Goes.weaken {m m' : Nat} {ρ ρ' : Rho} {F F' : Blks} {stk stk' : Stk} {w w' : World} (h : Goes m ρ F stk w ρ' F' stk' w') (hm : m' ≤ m) : Goes m' ρ F stk w ρ' F' stk' w' :=
  { h with evol := fun l o hl hg => h.evol l o (Nat.lt_of_lt_of_le hl hm) hg }

theorem Goes.keep {m : Nat} {ρ ρ' : Rho} {F F' : Blks} {stk stk' : Stk} {w w' : World} (h : Goes m ρ F stk w ρ' F' stk' w') (hok : Ok ρ F stk w) : Keep F F' w w' where
  sub := h.sub
  eq b hb := h.frame b (hok.lt b hb) fun l hl e => hok.sep l hl (e ▸ hb)

/-- Between two states, values of levels below m stay what they stand for. -/
structure Moves (m : Nat) (ρ : Rho) (F : Blks) (stk : Stk) (w : World) (ρ' : Rho) (F' : Blks) (stk' : Stk) (w' : World) : Prop where
  keep : Keep F F' w w'
  evol : ∀ l o, l.lv < m → getO stk l = some o → ∃ o', getO stk' l = some o' ∧ Turned ρ ρ' l o o'
theorem Goes.moves {m : Nat} {ρ ρ' : Rho} {F F' : Blks} {stk stk' : Stk} {w w' : World} (h : Goes m ρ F stk w ρ' F' stk' w') (hok : Ok ρ F stk w) : Moves m ρ F stk w ρ' F' stk' w' := ⟨h.keep hok, h.evol⟩

/-- Labels that stand below m. -/
def below (m : Nat) (v : V) : Prop := V.upto m v = true

theorem leN_iff {a b : Nat} : leN a b = true ↔ a ≤ b := by
  unfold leN
  split
  · simp; omega
  · simp; omega

theorem has_of {ρ : Rho} {stk : Stk} {l : Lab} {o : O} (h : getO stk l = some o) (hr : o.real ρ l) : has ρ stk l := ⟨o, h, hr⟩

section
variable {m : Nat} {ρ ρ' : Rho} {F F' : Blks} {stk stk' : Stk} {w w' : World}
theorem Turned.fixed {ρ ρ' : Rho} {l : Lab} {a b : O} (h : Turned ρ ρ' l a b) (ha : a.fixed = true) : b.fixed = true ∧ (ρ' l).blk = (ρ l).blk := by
  cases a <;> cases b <;> simp only [Turned] at h <;> simp only [O.fixed] at ha ⊢ <;> first | exact ⟨trivial, h⟩ | cases ha
mutual
theorem RV.moves (h : Moves (m + 1) ρ F stk w ρ' F' stk' w') : ∀ (x : V) (v : Value), V.upto m x = true → RV ρ F stk w x v → RV ρ' F' stk' w' x v
  | .dead, v, _, _ => by simp [RV]
  | .d x, v, _, hv => by simp only [RV] at hv ⊢; exact Rv.keep h.keep x v hv
  | .agg cs, v, hu, hv => by
    simp only [RV] at hv ⊢
    simp only [V.upto] at hu
    obtain ⟨us, e, hl⟩ := hv
    exact ⟨us, e, RVl.moves h cs _ hu hl⟩
  | .tup cs, v, hu, hv => by
    simp only [RV] at hv ⊢
    simp only [V.upto] at hu
    obtain ⟨us, e, hl⟩ := hv
    exact ⟨us, e, RVt.moves h cs _ hu hl⟩
  | .ref l o, v, hu, hv => by
    simp only [RV] at hv ⊢
    simp only [V.upto, leN_iff] at hu
    obtain ⟨e, ob, h1, h2⟩ := hv
    obtain ⟨o', h3, h4⟩ := h.evol l _ (by omega) h1
    obtain ⟨h5, h6⟩ := h4.fixed h2
    exact ⟨by rw [h6]; exact e, o', h3, h5⟩
  | .eref l g i o, v, hu, hv => by
    simp only [RV] at hv ⊢
    simp only [V.upto, leN_iff] at hu
    obtain ⟨g', esz, xs, ho, h1c, hle, hv⟩ := hv
    obtain ⟨o', h1, h2⟩ := h.evol l _ (by omega) ho
    cases o' <;> simp only [Turned] at h2
    rename_i g2 esz2 xs2
    refine ⟨g2, esz2, xs2, h1, h1c, by omega, fun e => ?_⟩
    obtain ⟨h3, h4⟩ := h2.2 (by omega)
    rw [h3, h4]
    exact hv (by omega)
  | .msl l g o n, v, hu, hv => by
    simp only [RV] at hv ⊢
    simp only [V.upto, leN_iff] at hu
    obtain ⟨g', esz, xs, ho, h1c, hle, hv⟩ := hv
    obtain ⟨o', h1, h2⟩ := h.evol l _ (by omega) ho
    cases o' <;> simp only [Turned] at h2
    rename_i g2 esz2 xs2
    refine ⟨g2, esz2, xs2, h1, h1c, by omega, fun e => ?_⟩
    obtain ⟨h3, h4⟩ := h2.2 (by omega)
    rw [h3, h4]
    exact hv (by omega)
  | .map l, v, hu, hv => by
    simp only [RV] at hv ⊢
    simp only [V.upto, leN_iff] at hu
    obtain ⟨e, ob, h1, h2⟩ := hv
    obtain ⟨o', h3, h4⟩ := h.evol l _ (by omega) h1
    obtain ⟨h5, h6⟩ := h4.fixed h2
    exact ⟨by rw [h6]; exact e, o', h3, h5⟩
  | .clos fn a b, v, hu, hv => by
    simp only [RV] at hv ⊢
    simp only [V.upto, Bool.and_eq_true] at hu
    obtain ⟨fs, cs, e, h1, h2⟩ := hv
    exact ⟨fs, cs, e, RVt.moves h a _ hu.1 h1, RVt.moves h b _ hu.2 h2⟩
  | .iface t x, v, hu, hv => by
    simp only [RV] at hv ⊢
    simp only [V.upto] at hu
    obtain ⟨u, e, hx⟩ := hv
    exact ⟨u, e, RV.moves h x u hu hx⟩
theorem RVl.moves (h : Moves (m + 1) ρ F stk w ρ' F' stk' w') : ∀ (xs : List V) (us : List Value), uptoL m xs = true → RVl ρ F stk w xs us → RVl ρ' F' stk' w' xs us
  | [], us, _, hu => by simp only [RVl] at hu ⊢; exact hu
  | x :: r, us, hm, hu => by
    simp only [RVl] at hu ⊢
    simp only [uptoL, Bool.and_eq_true] at hm
    obtain ⟨u, us', e, h1, hx, hr⟩ := hu
    exact ⟨u, us', e, h1, RV.moves h x u hm.1 hx, RVl.moves h r us' hm.2 hr⟩
theorem RVt.moves (h : Moves (m + 1) ρ F stk w ρ' F' stk' w') : ∀ (xs : List V) (us : List Value), uptoL m xs = true → RVt ρ F stk w xs us → RVt ρ' F' stk' w' xs us
  | [], us, _, hu => by simp only [RVt] at hu ⊢; exact hu
  | x :: r, us, hm, hu => by
    simp only [RVt] at hu ⊢
    simp only [uptoL, Bool.and_eq_true] at hm
    obtain ⟨u, us', e, hx, hr⟩ := hu
    exact ⟨u, us', e, RV.moves h x u hm.1 hx, RVt.moves h r us' hm.2 hr⟩
end
theorem RE.moves (h : Moves (m + 1) ρ F stk w ρ' F' stk' w') : ∀ (xs : List (D × Nat × V)) (us : List MapEntry), (∀ v ∈ mapVals xs, V.upto m v = true) → RE ρ F stk w xs us → RE ρ' F' stk' w' xs us
  | [], us, _, hu => by simp only [RE] at hu ⊢; exact hu
  | x :: r, us, hm, hu => by
    simp only [RE] at hu ⊢
    obtain ⟨u, us', e, hk, hx, hr⟩ := hu
    refine ⟨u, us', e, Rv.keep h.keep _ _ hk, RV.moves h _ _ (hm _ (by simp [mapVals])) hx, RE.moves h r us' (fun v hv => hm v ?_) hr⟩
    simp only [mapVals, List.map_cons, List.mem_cons] at hv ⊢
    exact .inr hv

/-- A value's labels are in the stack: they stand at its height, or lower. -/
theorem getO_lv : ∀ {stk : Stk} {l : Lab} {o : O}, Falls stk → getO stk l = some o → l.lv ≤ topN stk
  | [], l, o, _, h => by simp [getO] at h
  | c :: s, l, o, hf, h => by
    simp only [getO] at h
    simp only [topN]
    split at h
    · omega
    · have h1 := getO_lv hf.2 h
      cases s with
      | nil => simp [getO] at h
      | cons c' s' =>
        have h2 := hf.1 c' (by simp)
        simp only [topN] at h1
        omega
mutual
theorem RV.upto (hf : Falls stk) : ∀ (x : V) (v : Value), RV ρ F stk w x v → V.upto (topN stk) x = true
  | .dead, v, _ | .d x, v, _ => by simp [V.upto]
  | .agg cs, v, hv => by
    simp only [RV] at hv
    obtain ⟨us, e, hl⟩ := hv
    simp only [V.upto]; exact RVl.upto hf cs _ hl
  | .tup cs, v, hv => by
    simp only [RV] at hv
    obtain ⟨us, e, hl⟩ := hv
    simp only [V.upto]; exact RVt.upto hf cs _ hl
  | .ref l o, v, hv => by
    simp only [RV] at hv
    obtain ⟨_, ob, h1, _⟩ := hv
    simp only [V.upto, leN_iff]; exact getO_lv hf h1
  | .eref l g i o, v, hv => by
    simp only [RV] at hv
    obtain ⟨_, _, _, h1, _⟩ := hv
    simp only [V.upto, leN_iff]; exact getO_lv hf h1
  | .msl l g o n, v, hv => by
    simp only [RV] at hv
    obtain ⟨_, _, _, h1, _⟩ := hv
    simp only [V.upto, leN_iff]; exact getO_lv hf h1
  | .map l, v, hv => by
    simp only [RV] at hv
    obtain ⟨_, ob, h1, _⟩ := hv
    simp only [V.upto, leN_iff]; exact getO_lv hf h1
  | .clos fn a b, v, hv => by
    simp only [RV] at hv
    obtain ⟨fs, cs, e, h1, h2⟩ := hv
    simp only [V.upto, Bool.and_eq_true]; exact ⟨RVt.upto hf a _ h1, RVt.upto hf b _ h2⟩
  | .iface t x, v, hv => by
    simp only [RV] at hv
    obtain ⟨u, e, hx⟩ := hv
    simp only [V.upto]; exact RV.upto hf x u hx
theorem RVl.upto (hf : Falls stk) : ∀ (xs : List V) (us : List Value), RVl ρ F stk w xs us → uptoL (topN stk) xs = true
  | [], us, hu => by simp [uptoL]
  | x :: r, us, hu => by
    simp only [RVl] at hu
    obtain ⟨u, us', e, h1, hx, hr⟩ := hu
    simp only [uptoL, Bool.and_eq_true]; exact ⟨RV.upto hf x u hx, RVl.upto hf r us' hr⟩
theorem RVt.upto (hf : Falls stk) : ∀ (xs : List V) (us : List Value), RVt ρ F stk w xs us → uptoL (topN stk) xs = true
  | [], us, hu => by simp [uptoL]
  | x :: r, us, hu => by
    simp only [RVt] at hu
    obtain ⟨u, us', e, hx, hr⟩ := hu
    simp only [uptoL, Bool.and_eq_true]; exact ⟨RV.upto hf x u hx, RVt.upto hf r us' hr⟩
end
theorem upto_mono {m n : Nat} (h : m ≤ n) : (∀ x : V, V.upto m x = true → V.upto n x = true) ∧ (∀ xs : List V, uptoL m xs = true → uptoL n xs = true) := by
  refine ⟨fun x => ?_, fun xs => ?_⟩
  · exact up1 h x
  · exact up2 h xs
where
  up1 {m n : Nat} (h : m ≤ n) : ∀ x : V, V.upto m x = true → V.upto n x = true
    | .dead, _ | .d _, _ => by simp [V.upto]
    | .agg cs, hx | .tup cs, hx => by simp only [V.upto] at hx ⊢; exact up2 h cs hx
    | .ref l _, hx | .eref l _ _ _, hx | .msl l _ _ _, hx | .map l, hx => by simp only [V.upto, leN_iff] at hx ⊢; omega
    | .clos _ a b, hx => by simp only [V.upto, Bool.and_eq_true] at hx ⊢; exact ⟨up2 h a hx.1, up2 h b hx.2⟩
    | .iface _ v, hx => by simp only [V.upto] at hx ⊢; exact up1 h v hx
  up2 {m n : Nat} (h : m ≤ n) : ∀ xs : List V, uptoL m xs = true → uptoL n xs = true
    | [], _ => by simp [uptoL]
    | x :: r, hx => by simp only [uptoL, Bool.and_eq_true] at hx ⊢; exact ⟨up1 h x hx.1, up2 h r hx.2⟩

theorem RB.moves (h : Moves (m + 1) ρ F stk w ρ' F' stk' w') : ∀ (v : V) (u : Value), V.upto m v = true → RB ρ stk v u → RB ρ' stk' v u := by
  intro v u hu hv
  cases v <;> simp only [RB] at hv ⊢
  case msl l g o n =>
    simp only [V.upto, leN_iff] at hu
    obtain ⟨te, g', s, h1, h2, h3⟩ := hv
    obtain ⟨o', h4, h5⟩ := h.evol l _ (by omega) h1
    cases o' <;> simp only [Turned] at h5
    rename_i te2 g2 s2
    obtain ⟨_, h6, h7⟩ := h5
    refine ⟨te2, g2, s2, h4, by omega, fun e => ?_⟩
    obtain ⟨h8, h9⟩ := h7 (by omega)
    rw [h8, ← h9]
    exact h3 (by omega)
/-- An object that its own level's move leaves as it is still stands for what it stood for. -/
theorem RO.moves (h : Moves (m + 1) ρ F stk w ρ' F' stk' w') {l : Lab} {o : O} (hs : ∀ v ∈ o.vals, V.upto m v = true) (hl : ρ' l = ρ l) (hb : o.real ρ l → w'.heap[(ρ l).blk]? = w.heap[(ρ l).blk]?) (hr : RO ρ F stk w l o) : RO ρ' F' stk' w' l o := by
  have hL : ∀ xs : List V, (∀ v ∈ xs, V.upto m v = true) → uptoL m xs = true := by
    intro xs
    induction xs with
    | nil => intro _; simp [uptoL]
    | cons x r ih => intro hx; simp only [uptoL, Bool.and_eq_true]; exact ⟨hx x (by simp), ih fun v hv => hx v (by simp [hv])⟩
  cases o with
  | cells cs =>
    simp only [RO] at hr ⊢
    obtain ⟨c, e, h1, h2⟩ := hr
    exact ⟨c, e, by rw [hl, hb (.inl rfl)]; exact h1, RVl.moves h cs _ (hL cs hs) h2⟩
  | arr g esz xs =>
    simp only [RO] at hr ⊢
    rcases hr with hr | hr
    · exact .inl (by rw [hl]; exact hr)
    obtain ⟨c, e, fz, ws, rest, h1, h2, h3, h4, h5, h6, h7⟩ := hr
    by_cases hc0 : (ρ l).cap = 0
    · exact .inl ⟨by rw [hl]; exact hc0, List.eq_nil_of_length_eq_zero (by omega), h3⟩
    exact .inr ⟨c, e, fz, ws, rest, by rw [hl, hb (.inr hc0)]; exact h1, h2, h3, Re.keep h.keep esz xs _ h4, h5, by rw [hl]; exact h6, by rw [hl]; exact h7⟩
  | map clock es =>
    simp only [RO] at hr ⊢
    obtain ⟨ents, h1, h2⟩ := hr
    exact ⟨ents, by rw [hl, hb (.inl rfl)]; exact h1, RE.moves h es _ hs h2⟩
  | siter s pos =>
    simp only [RO] at hr ⊢
    rw [hl, hb (.inl rfl)]; exact hr
  | bld ty used v =>
    simp only [RO] at hr ⊢
    obtain ⟨u, h1, h3⟩ := hr
    exact ⟨u, by rw [hl, hb (.inl rfl)]; exact h1, RB.moves h v _ (hs v (by simp [O.vals])) h3⟩
  | hid te g s =>
    simp only [RO] at hr ⊢
    rcases hr with hr | hr
    · exact .inl (by rw [hl]; exact hr)
    obtain ⟨c, h1, h2, h3, h4, h5⟩ := hr
    by_cases hc0 : (ρ l).cap = 0
    · exact .inl ⟨by rw [hl]; exact hc0, List.eq_nil_of_length_eq_zero (by omega)⟩
    exact .inr ⟨c, by rw [hl, hb (.inr hc0)]; exact h1, by rw [hl]; exact h2, h3, by rw [hl]; exact h4, by rw [hl]; exact h5⟩
end

section
variable {ρ : Rho} {F : Blks} {stk : Stk} {w : World}
/-- An array that holds something has a block. -/
theorem RO_arr {l : Lab} {g esz : Nat} {xs : List D} (h : RO ρ F stk w l (.arr g esz xs)) (hx : xs ≠ []) :
    (ρ l).cap ≠ 0 ∧ ∃ c e fz ws rest, w.heap[(ρ l).blk]? = some (.cells c e fz) ∧ noFz c fz ∧ 0 < esz ∧ Re F w esz xs ws ∧ c.toList = ws ++ rest ∧ c.size = (ρ l).cap * esz ∧ xs.length ≤ (ρ l).cap := by
  simp only [RO] at h
  rcases h with ⟨_, h, _⟩ | h
  · exact absurd h hx
  · refine ⟨?_, h⟩
    obtain ⟨c, e, fz, ws, rest, h1, h2, h3, h4, h5, h6, h7⟩ := h
    intro e0
    rw [e0] at h7
    exact hx (List.eq_nil_of_length_eq_zero (by omega))
theorem ne_get {α : Type} {xs : List α} {i : Nat} {x : α} (h : xs[i]? = some x) : xs ≠ [] := by rintro rfl; simp at h
end
/-- A frame. -/
def RFr (ρ : Rho) (F : Blks) (stk : Stk) (w : World) (fr : Fr) (tmps : Array Value) : Prop := ∀ n, RV ρ F stk w (fr.get n) (tmps.getD n undef)
end Go.Abs
