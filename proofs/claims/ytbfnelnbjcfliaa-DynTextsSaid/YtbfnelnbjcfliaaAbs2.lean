import Derived.Test.YtbfnelnbjcfliaaAbs1
/-! The interpreter without a count of steps, and its equations. -/
set_option linter.unusedSimpArgs false
set_option linter.unusedVariables false
namespace Go.Abs

def le {α : Type} (a b : Option α) : Prop := ∀ x, a = some x → b = some x
theorem le_refl {α : Type} (a : Option α) : le a a := fun _ h => h
theorem le_none {α : Type} (b : Option α) : le none b := fun _ h => by cases h
def CallLe (a b : CallF) : Prop := ∀ f vs s, le (a f vs s) (b f vs s)
def IterLe (i j : (St → Rs) → St → Rs) : Prop := ∀ p q, (∀ st, le (p st) (q st)) → ∀ st, le (i p st) (j q st)

section
variable {T : FuncId → Option RF} {G : Nat → Option (List D)} {a b : CallF} {i j : (St → Rs) → St → Rs}

theorem ev_same (fr : Fr) (x : Opd) : x.ev (Sys.real T G a i) fr = x.ev (Sys.real T G b j) fr := by cases x <;> rfl
theorem evL_same (fr : Fr) : ∀ l : List Opd, evL (Sys.real T G a i) fr l = evL (Sys.real T G b j) fr l
  | [] => rfl
  | x :: r => by rw [evL, evL, ev_same (b := b) (j := j), evL_same fr r]
theorem evP_same (fr : Fr) : ∀ l : List (Nat × Nat × Opd), evP (Sys.real T G a i) fr l = evP (Sys.real T G b j) fr l
  | [] => rfl
  | (m, n, x) :: r => by rw [evP, evP, ev_same (b := b) (j := j), evP_same fr r]
theorem evO_same (fr : Fr) (l : Option Opd) : evO (Sys.real T G a i) fr l = evO (Sys.real T G b j) fr l := by
  cases l with
  | none => rfl
  | some x => rw [evO, evO, ev_same (b := b) (j := j)]
theorem eqDL_same : ∀ (ks : List SK) (x y : List D), eqDL (Sys.real T G a i) ks x y = eqDL (Sys.real T G b j) ks x y
  | [], [], [] => rfl
  | [], [], _ :: _ => rfl
  | [], _ :: _, _ => rfl
  | _ :: _, [], _ => rfl
  | _ :: _, _ :: _, [] => rfl
  | k :: ks, x :: r, y :: s => by
    rw [eqDL, eqDL, eqDL_same ks r s]
    cases k <;> cases x <;> cases y <;> rfl
theorem eqV_same (k : EK) (x y : V) : eqV (Sys.real T G a i) k x y = eqV (Sys.real T G b j) k x y := by
  unfold eqV
  split <;> first | rfl | (rw [eqDL_same (b := b) (j := j)])
theorem cellsAt_same (stk : Stk) (sz : Nat) (v : V) : cellsAt (Sys.real T G a i) stk sz v = cellsAt (Sys.real T G b j) stk sz v := rfl
theorem dataOf_same (stk : Stk) (v : V) : dataOf (Sys.real T G a i) stk v = dataOf (Sys.real T G b j) stk v := rfl
theorem evBin_same (op : BinOp) (x y : V) : evBin (Sys.real T G a i) op x y = evBin (Sys.real T G b j) op x y := rfl
theorem evUn_same (op : UnOp) (x : V) : evUn (Sys.real T G a i) op x = evUn (Sys.real T G b j) op x := rfl
theorem asNat_same (v : Option V) (n : Nat) : asNat (Sys.real T G a i) v n = asNat (Sys.real T G b j) v n := rfl
theorem evQ_same (stk : Stk) (fr : Fr) (r : R) : evQ (Sys.real T G a i) stk fr r = evQ (Sys.real T G b j) stk fr r := by
  cases r
  case conv k x => cases k <;> simp only [evQ, ev_same (b := b) (j := j)] <;> rfl
  case mm m l =>
    cases l with
    | nil => rfl
    | cons x l => cases l with
      | nil => rfl
      | cons y l => cases l with
        | nil => simp only [evQ, ev_same (b := b) (j := j)]; rfl
        | cons z l => rfl
  case eq n m x y => simp only [evQ, ev_same (b := b) (j := j), eqV_same (b := b) (j := j)]
  all_goals first
    | rfl
    | (simp only [evQ, ev_same (b := b) (j := j), evL_same (b := b) (j := j), evP_same (b := b) (j := j), evO_same (b := b) (j := j)]; done)
    | (simp only [evQ, ev_same (b := b) (j := j), evL_same (b := b) (j := j), evP_same (b := b) (j := j), evO_same (b := b) (j := j)]; rfl)
mutual
theorem freeze_same (c : Level) : ∀ (n : Nat) (v : V), freeze (Sys.real T G a i) c n v = freeze (Sys.real T G b j) c n v
  | 0, _ => rfl
  | n + 1, v => by
    cases v <;> simp only [freeze] <;> first
      | rfl
      | (rw [freezeL_same c n]; done)
      | (rw [freeze_same c n]; done)
      | (rw [freezeL_same c n, freezeL_same c n]; done)
      | (split
         · split
           · split
             · rw [freezeL_same c n]
             · rfl
           · rfl
         · rfl)
theorem freezeL_same (c : Level) : ∀ (n : Nat) (v : List V), freezeL (Sys.real T G a i) c n v = freezeL (Sys.real T G b j) c n v
  | 0, _ => rfl
  | n + 1, [] => rfl
  | n + 1, v :: r => by simp only [freezeL]; rw [freeze_same c n, freezeL_same c n]
end
mutual
theorem freeze_same0 (c : Level) : ∀ (n : Nat) (v : V), freeze (Sys.real0 T G a i) c n v = freeze (Sys.real T G b j) c n v
  | 0, _ => rfl
  | n + 1, v => by
    cases v <;> simp only [freeze] <;> first
      | rfl
      | (rw [freezeL_same0 c n]; done)
      | (rw [freeze_same0 c n]; done)
      | (rw [freezeL_same0 c n, freezeL_same0 c n]; done)
      | (split
         · split
           · split
             · rw [freezeL_same0 c n]
             · rfl
           · rfl
         · rfl)
theorem freezeL_same0 (c : Level) : ∀ (n : Nat) (v : List V), freezeL (Sys.real0 T G a i) c n v = freezeL (Sys.real T G b j) c n v
  | 0, _ => rfl
  | n + 1, [] => rfl
  | n + 1, v :: r => by simp only [freezeL]; rw [freeze_same0 c n, freezeL_same0 c n]
end
theorem leave_same (m : Mode) (dst : Option Nat) (v : V) (c : Level) (s : Stk) : leave (Sys.real T G a i) m dst v c s = leave (Sys.real T G b j) m dst v c s := by
  cases m with
  | keep ks => rfl
  | pur => rfl
  | eff => rfl
  | own ks => rfl
  | frz => cases v <;> simp only [leave] <;> rw [freeze_same]
theorem freeze_prim (c : Level) (n : Nat) (v : V) : freeze (Sys.real0 T G a i) c n v = freeze (Sys.real T G b j) c n v := freeze_same0 c n v
theorem real_pcall : (Sys.real T G a i).pcall = pcallOf (Sys.real0 T G a i) a := rfl
theorem pcallOf_same {X Y : Sys} (hX : ∀ c n v, freeze X c n v = freeze Y c n v) (f : FuncId) (vs : List V) (stk : Stk) : pcallOf X a f vs stk = pcallOf Y a f vs stk := by
  unfold pcallOf; simp only [hX]
theorem pcallOf_le {X : Sys} (h : CallLe a b) (f : FuncId) (vs : List V) (stk : Stk) : le (pcallOf X a f vs stk) (pcallOf X b f vs stk) := by
  intro x hx
  unfold pcallOf at hx ⊢
  cases hc : a f vs stk with
  | none => rw [hc] at hx; simp at hx
  | some y => rw [h _ _ _ y hc]; rw [hc] at hx; exact hx
theorem pcallOf_fin {X : Sys} {f : Nat → CallF} (hf : ∀ g vs s x, a g vs s = some x → ∃ k, f k g vs s = some x) (g : FuncId) (vs : List V) (stk : Stk) {x : V}
    (hx : pcallOf X a g vs stk = some x) : ∃ k, pcallOf X (f k) g vs stk = some x := by
  unfold pcallOf at hx ⊢
  cases hc : a g vs stk with
  | none => rw [hc] at hx; simp at hx
  | some y =>
    obtain ⟨k, hk⟩ := hf _ _ _ y hc
    refine ⟨k, ?_⟩
    rw [hk]; rw [hc] at hx; exact hx
theorem pcall_le (h : CallLe a b) (f : FuncId) (vs : List V) (stk : Stk) : le ((Sys.real T G a i).pcall f vs stk) ((Sys.real T G b j).pcall f vs stk) := by
  rw [real_pcall, real_pcall, pcallOf_same (X := Sys.real0 T G b j) (Y := Sys.real0 T G a i) (fun c n v => (freeze_prim (b := b) (j := j) c n v).trans (freeze_prim (a := a) (i := i) (b := b) (j := j) c n v).symm)]
  exact pcallOf_le h f vs stk
theorem pcall_fin {f : Nat → CallF} (hf : ∀ g vs s x, a g vs s = some x → ∃ k, f k g vs s = some x) (g : FuncId) (vs : List V) (stk : Stk) {x : V}
    (hx : (Sys.real T G a i).pcall g vs stk = some x) : ∃ k, (Sys.real T G (f k) j).pcall g vs stk = some x := by
  rw [real_pcall] at hx
  obtain ⟨k, hk⟩ := pcallOf_fin hf g vs stk hx
  refine ⟨k, ?_⟩
  rw [real_pcall, pcallOf_same (X := Sys.real0 T G (f k) j) (Y := Sys.real0 T G a i) (fun c n v => (freeze_prim (b := f k) (j := j) c n v).trans (freeze_prim (a := a) (i := i) (b := f k) (j := j) c n v).symm)]
  exact hk

theorem real_fcall : (Sys.real T G a i).fcall = fcallOf (Sys.real0 T G a i) a := rfl
theorem fcallOf_same {X Y : Sys} (hX : ∀ c n v, freeze X c n v = freeze Y c n v) (f : FuncId) (vs : List V) (stk : Stk) : fcallOf X a f vs stk = fcallOf Y a f vs stk := by
  unfold fcallOf; simp only [hX]
theorem fcallOf_le {X : Sys} (h : CallLe a b) (f : FuncId) (vs : List V) (stk : Stk) : le (fcallOf X a f vs stk) (fcallOf X b f vs stk) := by
  intro x hx
  unfold fcallOf at hx ⊢
  cases hc : a f vs stk with
  | none => rw [hc] at hx; simp at hx
  | some y => rw [h _ _ _ y hc]; rw [hc] at hx; exact hx
theorem fcallOf_fin {X : Sys} {f : Nat → CallF} (hf : ∀ g vs s x, a g vs s = some x → ∃ k, f k g vs s = some x) (g : FuncId) (vs : List V) (stk : Stk) {x : V × Stk}
    (hx : fcallOf X a g vs stk = some x) : ∃ k, fcallOf X (f k) g vs stk = some x := by
  unfold fcallOf at hx ⊢
  cases hc : a g vs stk with
  | none => rw [hc] at hx; simp at hx
  | some y =>
    obtain ⟨k, hk⟩ := hf _ _ _ y hc
    refine ⟨k, ?_⟩
    rw [hk]; rw [hc] at hx; exact hx
theorem fcall_le (h : CallLe a b) (f : FuncId) (vs : List V) (stk : Stk) : le ((Sys.real T G a i).fcall f vs stk) ((Sys.real T G b j).fcall f vs stk) := by
  rw [real_fcall, real_fcall, fcallOf_same (X := Sys.real0 T G b j) (Y := Sys.real0 T G a i) (fun c n v => (freeze_prim (b := b) (j := j) c n v).trans (freeze_prim (a := a) (i := i) (b := b) (j := j) c n v).symm)]
  exact fcallOf_le h f vs stk
theorem fcall_fin {f : Nat → CallF} (hf : ∀ g vs s x, a g vs s = some x → ∃ k, f k g vs s = some x) (g : FuncId) (vs : List V) (stk : Stk) {x : V × Stk}
    (hx : (Sys.real T G a i).fcall g vs stk = some x) : ∃ k, (Sys.real T G (f k) j).fcall g vs stk = some x := by
  rw [real_fcall] at hx
  obtain ⟨k, hk⟩ := fcallOf_fin hf g vs stk hx
  refine ⟨k, ?_⟩
  rw [real_fcall, fcallOf_same (X := Sys.real0 T G (f k) j) (Y := Sys.real0 T G a i) (fun c n v => (freeze_prim (b := f k) (j := j) c n v).trans (freeze_prim (a := a) (i := i) (b := f k) (j := j) c n v).symm)]
  exact hk
theorem real_kcall : (Sys.real T G a i).kcall = kcallOf a := rfl
theorem kcall_le (h : CallLe a b) (f : FuncId) (ks : List (List Nat)) (vs : List V) (stk : Stk) : le ((Sys.real T G a i).kcall f ks vs stk) ((Sys.real T G b j).kcall f ks vs stk) := by
  intro x hx
  rw [real_kcall] at hx ⊢
  unfold kcallOf at hx ⊢
  cases hc : a f vs stk with
  | none => rw [hc] at hx; simp at hx
  | some y => rw [h _ _ _ y hc]; rw [hc] at hx; exact hx
theorem kcall_fin {f : Nat → CallF} (hf : ∀ g vs s x, a g vs s = some x → ∃ k, f k g vs s = some x) (g : FuncId) (ks : List (List Nat)) (vs : List V) (stk : Stk) {x : V × Level × Stk}
    (hx : (Sys.real T G a i).kcall g ks vs stk = some x) : ∃ k, (Sys.real T G (f k) j).kcall g ks vs stk = some x := by
  rw [real_kcall] at hx
  unfold kcallOf at hx
  cases hc : a g vs stk with
  | none => rw [hc] at hx; simp at hx
  | some y =>
    obtain ⟨k, hk⟩ := hf _ _ _ y hc
    refine ⟨k, ?_⟩
    rw [real_kcall]
    unfold kcallOf
    rw [hk]; rw [hc] at hx; exact hx
theorem real_call : (Sys.real T G a i).call = a := rfl
theorem real_iter : (Sys.real T G a i).iter = i := rfl
theorem real_R : (Sys.real T G a i).R = T := rfl

theorem evCall_le (h : CallLe a b) (m : Mode) (dst : Option Nat) (f : FuncId) (vs : List V) (stk : Stk) :
    le (evCall (Sys.real T G a i) m dst f vs stk) (evCall (Sys.real T G b j) m dst f vs stk) := by
  intro x hx
  by_cases hm : m = .pur
  · subst hm
    simp only [evCall] at hx ⊢
    cases hc : (Sys.real T G a i).pcall f vs stk with
    | none => rw [hc] at hx; cases hx
    | some y => rw [pcall_le h f vs stk y hc]; rw [hc] at hx; exact hx
  by_cases hm' : m = .eff
  · subst hm'
    simp only [evCall] at hx ⊢
    cases hc : (Sys.real T G a i).fcall f vs stk with
    | none => rw [hc] at hx; cases hx
    | some y => rw [fcall_le h f vs stk y hc]; rw [hc] at hx; exact hx
  by_cases hm'' : ∃ ks, m = .own ks
  · obtain ⟨ks, rfl⟩ := hm''
    simp only [evCall] at hx ⊢
    cases hc : (Sys.real T G a i).kcall f ks vs stk with
    | none => rw [hc] at hx; cases dst <;> simp at hx
    | some y => rw [kcall_le h f ks vs stk y hc]; rw [hc] at hx; exact hx
  have hev : ∀ X : Sys, evCall X m dst f vs stk = match X.call f vs stk with
      | some (.ret v, c :: s) => match leave X m dst v c s with
        | some (v', s') => some (.val v' s')
        | none => none
      | some (.pan x, _ :: s) => some (.pan x s)
      | _ => none := fun X => by cases m <;> first | rfl | exact absurd rfl hm | exact absurd rfl hm' | exact absurd ⟨_, rfl⟩ hm''
  rw [hev] at hx ⊢
  rw [real_call] at hx ⊢
  cases hc : a f vs stk with
  | none => rw [hc] at hx; simp at hx
  | some y =>
    rw [h _ _ _ y hc]
    rw [hc] at hx
    obtain ⟨o, s⟩ := y
    cases o <;> cases s <;> first | exact hx | (simp only [leave_same (b := b) (j := j)] at hx ⊢; exact hx)
theorem evCall_fin {f : Nat → CallF} (hf : ∀ g vs s x, a g vs s = some x → ∃ k, f k g vs s = some x) (m : Mode) (dst : Option Nat) (g : FuncId) (vs : List V) (stk : Stk) {x : Res}
    (hx : evCall (Sys.real T G a i) m dst g vs stk = some x) : ∃ k, evCall (Sys.real T G (f k) j) m dst g vs stk = some x := by
  by_cases hm : m = .pur
  · subst hm
    simp only [evCall] at hx
    cases hc : (Sys.real T G a i).pcall g vs stk with
    | none => rw [hc] at hx; cases hx
    | some y =>
      obtain ⟨k, hk⟩ := pcall_fin (j := j) hf g vs stk hc
      refine ⟨k, ?_⟩
      simp only [evCall]
      rw [hk]; rw [hc] at hx; exact hx
  by_cases hm' : m = .eff
  · subst hm'
    simp only [evCall] at hx
    cases hc : (Sys.real T G a i).fcall g vs stk with
    | none => rw [hc] at hx; cases hx
    | some y =>
      obtain ⟨k, hk⟩ := fcall_fin (j := j) hf g vs stk hc
      refine ⟨k, ?_⟩
      simp only [evCall]
      rw [hk]; rw [hc] at hx; exact hx
  by_cases hm'' : ∃ ks, m = .own ks
  · obtain ⟨ks, rfl⟩ := hm''
    simp only [evCall] at hx
    cases hc : (Sys.real T G a i).kcall g ks vs stk with
    | none => rw [hc] at hx; cases dst <;> simp at hx
    | some y =>
      obtain ⟨k, hk⟩ := kcall_fin (j := j) hf g ks vs stk hc
      refine ⟨k, ?_⟩
      simp only [evCall]
      rw [hk]; rw [hc] at hx; exact hx
  have hev : ∀ X : Sys, evCall X m dst g vs stk = match X.call g vs stk with
      | some (.ret v, c :: s) => match leave X m dst v c s with
        | some (v', s') => some (.val v' s')
        | none => none
      | some (.pan x, _ :: s) => some (.pan x s)
      | _ => none := fun X => by cases m <;> first | rfl | exact absurd rfl hm | exact absurd rfl hm' | exact absurd ⟨_, rfl⟩ hm''
  simp only [hev] at hx ⊢
  rw [real_call] at hx
  cases hc : a g vs stk with
  | none => rw [hc] at hx; simp at hx
  | some y =>
    obtain ⟨k, hk⟩ := hf _ _ _ y hc
    refine ⟨k, ?_⟩
    rw [real_call, hk]
    rw [hc] at hx
    obtain ⟨o, s⟩ := y
    cases o <;> cases s <;> first | exact hx | (simp only [leave_same (b := f k) (j := j)] at hx ⊢; exact hx)
theorem quietCall_le (h : CallLe a b) (f : FuncId) (vs : List V) (stk : Stk) : le (quietCall (Sys.real T G a i) f vs stk) (quietCall (Sys.real T G b j) f vs stk) := by
  intro x hx
  unfold quietCall at hx ⊢
  rw [real_call] at hx ⊢
  cases hc : a f vs stk with
  | none => rw [hc] at hx; simp at hx
  | some y =>
    rw [h _ _ _ y hc]
    rw [hc] at hx
    obtain ⟨o, s⟩ := y
    cases o <;> cases s <;> first | exact hx | (simp only [leave_same (b := b) (j := j)] at hx ⊢; exact hx)
theorem quietCall_fin {f : Nat → CallF} (hf : ∀ g vs s x, a g vs s = some x → ∃ k, f k g vs s = some x) (g : FuncId) (vs : List V) (stk : Stk) {x : V}
    (hx : quietCall (Sys.real T G a i) g vs stk = some x) : ∃ k, quietCall (Sys.real T G (f k) j) g vs stk = some x := by
  unfold quietCall at hx ⊢
  rw [real_call] at hx
  cases hc : a g vs stk with
  | none => rw [hc] at hx; simp at hx
  | some y =>
    obtain ⟨k, hk⟩ := hf _ _ _ y hc
    refine ⟨k, ?_⟩
    rw [real_call, hk]
    rw [hc] at hx
    obtain ⟨o, s⟩ := y
    cases o <;> cases s <;> first | exact hx | (simp only [leave_same (b := f k) (j := j)] at hx ⊢; exact hx)

theorem evR_same (dst : Option Nat) (fr : Fr) (stk : Stk) (r : R) (h1 : ∀ m f as, r ≠ .call m f as) (h2 : ∀ m x as, r ≠ .callv m x as) :
    evR (Sys.real T G a i) dst fr stk r = evR (Sys.real T G b j) dst fr stk r := by
  cases r
  case call m f as => exact absurd rfl (h1 m f as)
  case callv m f as => exact absurd rfl (h2 m f as)
  case conv k x => cases k <;> simp only [evR, ev_same (b := b) (j := j), evQ_same (b := b) (j := j)] <;> rfl
  all_goals first
    | rfl
    | (simp only [evR, ev_same (b := b) (j := j), evL_same (b := b) (j := j), evQ_same (b := b) (j := j)]; done)
    | (simp only [evR, ev_same (b := b) (j := j), evL_same (b := b) (j := j), evQ_same (b := b) (j := j)]; rfl)
theorem evR_le (h : CallLe a b) (dst : Option Nat) (fr : Fr) (stk : Stk) (r : R) : le (evR (Sys.real T G a i) dst fr stk r) (evR (Sys.real T G b j) dst fr stk r) := by
  by_cases h1 : ∃ m f as, r = .call m f as
  · obtain ⟨m, f, as, rfl⟩ := h1
    simp only [evR, evL_same (b := b) (j := j)]
    exact evCall_le h m dst f _ stk
  · by_cases h2 : ∃ m x as, r = .callv m x as
    · obtain ⟨m, x, as, rfl⟩ := h2
      simp only [evR, evL_same (b := b) (j := j), ev_same (b := b) (j := j)]
      split
      · exact evCall_le h m dst _ _ stk
      · exact le_none _
    · rw [evR_same (b := b) (j := j) dst fr stk r (fun m f as e => h1 ⟨m, f, as, e⟩) (fun m x as e => h2 ⟨m, x, as, e⟩)]
      exact le_refl _
theorem evR_fin {f : Nat → CallF} (hf : ∀ g vs s x, a g vs s = some x → ∃ k, f k g vs s = some x) (dst : Option Nat) (fr : Fr) (stk : Stk) (r : R) {x : Res}
    (hx : evR (Sys.real T G a i) dst fr stk r = some x) : ∃ k, evR (Sys.real T G (f k) j) dst fr stk r = some x := by
  by_cases h1 : ∃ m f as, r = .call m f as
  · obtain ⟨m, g, as, rfl⟩ := h1
    simp only [evR] at hx ⊢
    obtain ⟨k, hk⟩ := evCall_fin hf (j := j) m dst g _ stk hx
    exact ⟨k, by rw [evL_same (b := a) (j := i)]; exact hk⟩
  · by_cases h2 : ∃ m x as, r = .callv m x as
    · obtain ⟨m, y, as, rfl⟩ := h2
      simp only [evR] at hx ⊢
      cases hg : callees (y.ev (Sys.real T G a i) fr) (evL (Sys.real T G a i) fr as) with
      | none => rw [hg] at hx; cases hx
      | some p =>
        rw [hg] at hx
        obtain ⟨k, hk⟩ := evCall_fin hf (j := j) m dst p.1 p.2 stk hx
        exact ⟨k, by rw [ev_same (b := a) (j := i), evL_same (b := a) (j := i), hg]; exact hk⟩
    · exact ⟨0, by rw [evR_same (b := a) (j := i) dst fr stk r (fun m f as e => h1 ⟨m, f, as, e⟩) (fun m x as e => h2 ⟨m, x, as, e⟩)]; exact hx⟩

theorem evF_same (stk : Stk) (fr : Fr) (r : R) (h1 : ∀ f as, r ≠ .call .frz f as) (h3 : ∀ f as, r ≠ .call .pur f as) (h2 : ∀ x as, r ≠ .callv .frz x as) (h4 : ∀ x as, r ≠ .callv .pur x as) :
    evF (Sys.real T G a i) stk fr r = evF (Sys.real T G b j) stk fr r := by
  unfold evF
  split
  · rename_i f as; exact absurd rfl (h1 f as)
  · rename_i f as; exact absurd rfl (h3 f as)
  · rename_i x as; exact absurd rfl (h2 x as)
  · rename_i x as; exact absurd rfl (h4 x as)
  · exact evQ_same _ _ _
theorem evF_le (h : CallLe a b) (stk : Stk) (fr : Fr) (r : R) : le (evF (Sys.real T G a i) stk fr r) (evF (Sys.real T G b j) stk fr r) := by
  by_cases h1 : ∃ f as, r = .call .frz f as
  · obtain ⟨f, as, rfl⟩ := h1
    simp only [evF, evL_same (b := b) (j := j)]
    exact quietCall_le h f _ stk
  · by_cases h3 : ∃ f as, r = .call .pur f as
    · obtain ⟨f, as, rfl⟩ := h3
      simp only [evF, evL_same (b := b) (j := j)]
      exact pcall_le h f _ stk
    by_cases h2 : ∃ x as, r = .callv .frz x as
    · obtain ⟨x, as, rfl⟩ := h2
      simp only [evF, evL_same (b := b) (j := j), ev_same (b := b) (j := j)]
      split
      · exact quietCall_le h _ _ stk
      · exact le_none _
    by_cases h4 : ∃ x as, r = .callv .pur x as
    · obtain ⟨x, as, rfl⟩ := h4
      simp only [evF, evL_same (b := b) (j := j), ev_same (b := b) (j := j)]
      split
      · exact pcall_le h _ _ stk
      · exact le_none _
    · rw [evF_same (b := b) (j := j) stk fr r (fun f as e => h1 ⟨f, as, e⟩) (fun f as e => h3 ⟨f, as, e⟩) (fun x as e => h2 ⟨x, as, e⟩) (fun x as e => h4 ⟨x, as, e⟩)]
      exact le_refl _
theorem evF_fin {f : Nat → CallF} (hf : ∀ g vs s x, a g vs s = some x → ∃ k, f k g vs s = some x) (stk : Stk) (fr : Fr) (r : R) {x : V}
    (hx : evF (Sys.real T G a i) stk fr r = some x) : ∃ k, evF (Sys.real T G (f k) j) stk fr r = some x := by
  by_cases h1 : ∃ f as, r = .call .frz f as
  · obtain ⟨g, as, rfl⟩ := h1
    simp only [evF] at hx ⊢
    obtain ⟨k, hk⟩ := quietCall_fin hf (j := j) g _ stk hx
    exact ⟨k, by rw [evL_same (b := a) (j := i)]; exact hk⟩
  · by_cases h3 : ∃ f as, r = .call .pur f as
    · obtain ⟨g, as, rfl⟩ := h3
      simp only [evF] at hx ⊢
      obtain ⟨k, hk⟩ := pcall_fin hf (j := j) g _ stk hx
      exact ⟨k, by rw [evL_same (b := a) (j := i)]; exact hk⟩
    by_cases h2 : ∃ x as, r = .callv .frz x as
    · obtain ⟨y, as, rfl⟩ := h2
      simp only [evF] at hx ⊢
      cases hg : callees (y.ev (Sys.real T G a i) fr) (evL (Sys.real T G a i) fr as) with
      | none => rw [hg] at hx; cases hx
      | some p =>
        rw [hg] at hx
        obtain ⟨k, hk⟩ := quietCall_fin hf (j := j) p.1 p.2 stk hx
        exact ⟨k, by rw [ev_same (b := a) (j := i), evL_same (b := a) (j := i), hg]; exact hk⟩
    by_cases h4 : ∃ x as, r = .callv .pur x as
    · obtain ⟨y, as, rfl⟩ := h4
      simp only [evF] at hx ⊢
      cases hg : callees (y.ev (Sys.real T G a i) fr) (evL (Sys.real T G a i) fr as) with
      | none => rw [hg] at hx; cases hx
      | some p =>
        rw [hg] at hx
        obtain ⟨k, hk⟩ := pcall_fin hf (j := j) p.1 p.2 stk hx
        exact ⟨k, by rw [ev_same (b := a) (j := i), evL_same (b := a) (j := i), hg]; exact hk⟩
    · exact ⟨0, by rw [evF_same (b := a) (j := i) stk fr r (fun f as e => h1 ⟨f, as, e⟩) (fun f as e => h3 ⟨f, as, e⟩) (fun x as e => h2 ⟨x, as, e⟩) (fun x as e => h4 ⟨x, as, e⟩)]; exact hx⟩

theorem evOps_le (h : CallLe a b) : ∀ (l : List ROp) (st : St), le (evOps (Sys.real T G a i) l st) (evOps (Sys.real T G b j) l st)
  | [], st => fun _ hx => hx
  | o :: r, st => by
    intro x hx
    simp only [evOps] at hx ⊢
    cases hw : wants st.fr o.g with
    | none => rw [hw] at hx; cases hx
    | some t =>
      rw [hw] at hx
      cases t with
      | false => exact evOps_le h r _ x hx
      | true =>
        simp only at hx ⊢
        cases hv : evR (Sys.real T G a i) o.dst st.fr st.stk o.r with
        | none => rw [hv] at hx; cases hx
        | some y =>
          rw [evR_le h _ _ _ _ y hv]
          rw [hv] at hx
          cases y with
          | val v s => exact evOps_le h r _ x hx
          | pan v s => exact hx
theorem evFree_le (h : CallLe a b) (stk : Stk) : ∀ (l : List ROp) (fr : Fr), le (evFree (Sys.real T G a i) stk l fr) (evFree (Sys.real T G b j) stk l fr)
  | [], fr => fun _ hx => hx
  | o :: r, fr => by
    intro x hx
    simp only [evFree] at hx ⊢
    cases hw : wants fr o.g with
    | none => rw [hw] at hx; cases hx
    | some t =>
      rw [hw] at hx
      cases t with
      | false => exact evFree_le h stk r _ x hx
      | true =>
        simp only at hx ⊢
        cases hv : evF (Sys.real T G a i) stk fr o.r with
        | none => rw [hv] at hx; cases hx
        | some y =>
          rw [evF_le h _ _ _ y hv]
          rw [hv] at hx
          exact evFree_le h stk r _ x hx
theorem recheck_le (h : CallLe a b) (stk : Stk) (fr : Fr) : ∀ (l : List ROp), recheck (Sys.real T G a i) stk fr l = true → recheck (Sys.real T G b j) stk fr l = true
  | [], _ => rfl
  | o :: r, hx => by
    simp only [recheck] at hx ⊢
    cases hs : o.r.still with
    | true => rw [hs] at hx; exact recheck_le h stk fr r hx
    | false =>
      rw [hs] at hx
      simp only at hx ⊢
      cases hw : wants fr o.g with
      | none => rw [hw] at hx; cases hx
      | some t =>
        rw [hw] at hx
        cases t with
        | false => exact recheck_le h stk fr r hx
        | true =>
          simp only at hx ⊢
          cases hd : o.dst with
          | none =>
            rw [hd] at hx
            simp only at hx ⊢
            cases hv : evF (Sys.real T G a i) stk fr o.r with
            | none => rw [hv] at hx; cases hx
            | some y =>
              rw [evF_le h _ _ _ y hv]
              rw [hv] at hx
              exact recheck_le h stk fr r hx
          | some d =>
            rw [hd] at hx
            simp only at hx ⊢
            cases hv : evF (Sys.real T G a i) stk fr o.r with
            | none => rw [hv] at hx; cases hx
            | some y =>
              rw [evF_le h _ _ _ y hv]
              rw [hv] at hx
              simp only at hx ⊢
              have e : (Sys.real T G b j).samev y (fr.get d) = (Sys.real T G a i).samev y (fr.get d) := rfl
              rw [e]
              cases hq : (Sys.real T G a i).samev y (fr.get d) with
              | false => rw [hq] at hx; cases hx
              | true => rw [hq] at hx; exact recheck_le h stk fr r hx
theorem evDraw_le (h : CallLe a b) (stk : Stk) (l : List ROp) (fr : Fr) : le (evDraw (Sys.real T G a i) stk l fr) (evDraw (Sys.real T G b j) stk l fr) := by
  intro x hx
  unfold evDraw at hx ⊢
  cases hc : cutM l with
  | none =>
    rw [hc] at hx
    simp only at hx ⊢
    cases hv : evFree (Sys.real T G a i) stk l fr with
    | none => rw [hv] at hx; cases hx
    | some y => rw [evFree_le h _ _ _ y hv]; rw [hv] at hx; exact hx
  | some p =>
    obtain ⟨A, m, B⟩ := p
    rw [hc] at hx
    simp only at hx ⊢
    cases h1 : evFree (Sys.real T G a i) stk (A ++ apartM (dstL m.dst) B) fr with
    | none => rw [h1] at hx; cases hx
    | some fr1 =>
      rw [evFree_le h _ _ _ fr1 h1]
      rw [h1] at hx
      simp only at hx ⊢
      cases hg : m.g with
      | some g => rw [hg] at hx; cases hx
      | none =>
        rw [hg] at hx
        simp only at hx ⊢
        cases hv : evR (Sys.real T G a i) m.dst fr1 stk m.r with
        | none => rw [hv] at hx; cases hx
        | some y =>
          rw [evR_le h _ _ _ _ y hv]
          rw [hv] at hx
          cases y with
          | pan v s => cases hx
          | val v s =>
            simp only at hx ⊢
            cases hq : recheck (Sys.real T G a i) s fr1 (A ++ apartM (dstL m.dst) B) with
            | false => rw [hq] at hx; cases hx
            | true =>
              rw [recheck_le h _ _ _ hq]
              rw [hq] at hx
              simp only at hx ⊢
              cases h2 : evFree (Sys.real T G a i) s (hangM (dstL m.dst) B) (fr1.put m.dst v) with
              | none => rw [h2] at hx; cases hx
              | some fr2 => rw [evFree_le h _ _ _ fr2 h2]; rw [h2] at hx; exact hx
theorem tidyOkO_same {X Y : Sys} (h : X.frzM = Y.frzM) (n : Nat) (ks : List (List Nat)) (o : O) : tidyOkO X n ks o = tidyOkO Y n ks o := by
  cases o <;> simp only [tidyOkO, h]
theorem tidyOkL_same {X Y : Sys} (h : X.frzM = Y.frzM) (n : Nat) (ks : List (List Nat)) : ∀ l, tidyOkL X n ks l = tidyOkL Y n ks l
  | [] => rfl
  | (_, o) :: r => by simp only [tidyOkL, tidyOkO_same h, tidyOkL_same h n ks r]
theorem tidy_same {X Y : Sys} (h : X.frzM = Y.frzM) (slots : List Nat) (ks : List (List Nat)) (st : St) : tidy X slots ks st = tidy Y slots ks st := by
  unfold tidy
  split
  · simp only [tidyOkL_same h]
  · rfl
theorem adjust_same (ad : Adj) (st : St) : adjust (Sys.real T G b j) ad st = adjust (Sys.real T G a i) ad st := by
  cases ad with
  | virt key off esz new => rfl
  | frz key off K slots keys =>
    have e : ∀ st', tidy (Sys.real T G b j) slots keys st' = tidy (Sys.real T G a i) slots keys st' := fun st' => tidy_same (X := Sys.real T G b j) (Y := Sys.real T G a i) rfl slots keys st'
    simp only [adjust, e, freeze_same (a := b) (i := j) (b := a) (j := i)]
  | frzs slot K slots keys =>
    have e : ∀ st', tidy (Sys.real T G b j) slots keys st' = tidy (Sys.real T G a i) slots keys st' := fun st' => tidy_same (X := Sys.real T G b j) (Y := Sys.real T G a i) rfl slots keys st'
    simp only [adjust, e, freeze_same (a := b) (i := j) (b := a) (j := i)]
theorem evC_le (h : CallLe a b) (hi : IterLe i j) : ∀ (c : C) (st : St), le (evC (Sys.real T G a i) c st) (evC (Sys.real T G b j) c st)
  | .skip, _ | .exit _, _ | .ret, _ | .bad, _ => fun _ hx => hx
  | .reg ops, st => evOps_le h ops st
  | .dreg free tail, st => by
    intro x hx
    simp only [evC] at hx ⊢
    cases hf : evDraw (Sys.real T G a i) st.stk free st.fr with
    | none => rw [hf] at hx; cases hx
    | some fr => rw [evDraw_le h _ _ _ fr hf]; rw [hf] at hx; exact evOps_le h tail _ x hx
  | .dpan free k tail, st => by
    intro x hx
    simp only [evC] at hx ⊢
    cases hk : nthR free k with
    | none => rw [hk] at hx; cases hx
    | some r =>
      rw [hk] at hx
      cases hf : evFree (Sys.real T G a i) st.stk (othersP free k) st.fr with
      | none => rw [hf] at hx; cases hx
      | some fr2 =>
        rw [evFree_le h _ _ _ fr2 hf]
        rw [hf] at hx
        simp only at hx ⊢
        cases hr : evR (Sys.real T G a i) r.dst fr2 st.stk r.r with
        | none => rw [hr] at hx; cases hx
        | some res =>
          rw [evR_le h _ _ _ _ res hr]
          rw [hr] at hx
          cases res with
          | pan x s => exact hx
          | val v s =>
            simp only at hx ⊢
            cases hd : evDraw (Sys.real T G a i) st.stk free st.fr with
            | none => rw [hd] at hx; cases hx
            | some fr => rw [evDraw_le h _ _ _ fr hd]; rw [hd] at hx; exact evOps_le h tail _ x hx
  | .seq p q, st => by
    intro x hx
    simp only [evC] at hx ⊢
    cases hp : evC (Sys.real T G a i) p st with
    | none => rw [hp] at hx; cases hx
    | some y =>
      rw [evC_le h hi p st y hp]
      rw [hp] at hx
      obtain ⟨e, st'⟩ := y
      cases e <;> first | exact hx | exact evC_le h hi q st' x hx
  | .cond c p q, st => by
    intro x hx
    simp only [evC, ev_same (b := b) (j := j)] at hx ⊢
    split at hx
    · exact evC_le h hi p st x hx
    · exact evC_le h hi q st x hx
    · cases hx
  | .block id c, st => by
    intro x hx
    simp only [evC] at hx ⊢
    cases hp : evC (Sys.real T G a i) c st with
    | none => rw [hp] at hx; cases hx
    | some y => rw [evC_le h hi c st y hp]; rw [hp] at hx; exact hx
  | .loop c, st => hi _ _ (fun st => evC_le h hi c st) st
  | .tidy slots keys c, st => by
    intro x hx
    simp only [evC] at hx ⊢
    cases ht : tidy (Sys.real T G a i) slots keys st with
    | none => rw [ht] at hx; cases hx
    | some st' =>
      have ht' : tidy (Sys.real T G b j) slots keys st = some st' := (tidy_same (X := Sys.real T G b j) (Y := Sys.real T G a i) rfl slots keys st).trans ht
      rw [ht] at hx; rw [ht']; exact evC_le h hi c st' x hx
  | .adj a' c, st => by
    intro x hx
    simp only [evC] at hx ⊢
    cases ht : adjust (Sys.real T G a i) a' st with
    | none => rw [ht] at hx; cases hx
    | some st' =>
      have ht' : adjust (Sys.real T G b j) a' st = some st' := (adjust_same a' st).trans ht
      rw [ht] at hx; rw [ht']; exact evC_le h hi c st' x hx
theorem resV_same (stk : Stk) (fr : Fr) (r : RRes) : resV (Sys.real T G a i) stk fr r = resV (Sys.real T G b j) stk fr r := by cases r <;> rfl
theorem resAll_same (stk : Stk) (fr : Fr) : ∀ l : List RRes, resAll (Sys.real T G a i) stk fr l = resAll (Sys.real T G b j) stk fr l
  | [] => rfl
  | r :: l => by rw [resAll, resAll, resV_same (b := b) (j := j), resAll_same stk fr l]
theorem results_same (stk : Stk) (fr : Fr) (l : List RRes) : results (Sys.real T G a i) stk fr l = results (Sys.real T G b j) stk fr l := by
  rw [results, results, resAll_same]
theorem adjAll_same : ∀ (l : List Adj) (st : St), adjAll (Sys.real T G b j) l st = adjAll (Sys.real T G a i) l st
  | [], _ => rfl
  | ad :: r, st => by
    simp only [adjAll]
    rw [adjust_same (a := a) (i := i)]
    cases adjust (Sys.real T G a i) ad st with
    | none => rfl
    | some st' => exact adjAll_same r st'
theorem endV_le (h : CallLe a b) (x : D) (res : List RRes) (st : St) : le (endV (Sys.real T G a i) x res st) (endV (Sys.real T G b j) x res st) := by
  intro y hy
  unfold endV at hy ⊢
  split at hy
  · rw [adjAll_same (a := a) (i := i) (b := b) (j := j)]
    split at hy <;> try (cases hy; done)
    cases hc : (Sys.real T G a i).fcall _ _ _ with
    | none => rw [hc] at hy; cases hy
    | some z =>
      simp only [fcall_le h _ _ _ z hc]
      rw [hc] at hy
      simp only [results_same (b := b) (j := j)] at hy
      exact hy
  · simp only [results_same (b := b) (j := j)] at hy
    exact hy
theorem evFn0_le (h : CallLe a b) (hi : IterLe i j) (rf : RF) (fr : Fr) (stk : Stk) :
    le (evFn0 (Sys.real T G a i) rf fr stk) (evFn0 (Sys.real T G b j) rf fr stk) := by
  intro x hx
  unfold evFn0 at hx ⊢
  cases hp : evC (Sys.real T G a i) rf.body ⟨fr, push stk⟩ with
  | none => rw [hp] at hx; cases hx
  | some y =>
    rw [evC_le h hi _ _ y hp]
    rw [hp] at hx
    obtain ⟨e, st⟩ := y
    have key : ∀ (d : D) (x : Out × Stk), (match endV (Sys.real T G a i) d rf.res st with | some (v, s) => some (Out.ret v, s) | none => none) = some x → (match endV (Sys.real T G b j) d rf.res st with | some (v, s) => some (Out.ret v, s) | none => none) = some x := by
      intro d x hx
      cases hv : endV (Sys.real T G a i) d rf.res st with
      | none => rw [hv] at hx; cases hx
      | some z => rw [endV_le h d _ _ z hv]; rw [hv] at hx; exact hx
    cases e with
    | normal => exact key _ x hx
    | ret => exact key _ x hx
    | exit k => exact hx
    | pan d =>
      cases hg : isG rf.res with
      | true => simp only [hg] at hx ⊢; exact key d x hx
      | false => simp only [hg] at hx ⊢; exact hx
theorem evFn_le (h : CallLe a b) (hi : IterLe i j) (rf : RF) (args : List V) (stk : Stk) :
    le (evFn (Sys.real T G a i) rf args stk) (evFn (Sys.real T G b j) rf args stk) := by
  intro x hx
  unfold evFn at hx ⊢
  cases hex : rf.ext with
  | some e => rw [hex] at hx; cases e <;> exact hx
  | none =>
  rw [hex] at hx
  simp only at hx ⊢
  cases hh : rf.hnd with
  | none => rw [hh] at hx; exact evFn0_le h hi rf _ stk x hx
  | some tr =>
    rw [hh] at hx
    simp only at hx ⊢
    split at hx
    · exact evFn0_le h hi rf _ stk x hx
    · cases hx
end

theorem iterN_mono (p q : St → Rs) (h : ∀ st, le (p st) (q st)) : ∀ (m n : Nat), m ≤ n → ∀ st, le (iterN m p st) (iterN n q st)
  | 0, _, _, st => le_none _
  | m + 1, 0, hmn, _ => by omega
  | m + 1, n + 1, hmn, st => by
    intro x hx
    simp only [iterN] at hx ⊢
    cases hp : p st with
    | none => rw [hp] at hx; cases hx
    | some y =>
      rw [h st y hp]
      rw [hp] at hx
      obtain ⟨e, st'⟩ := y
      cases e <;> first | exact hx | exact iterN_mono p q h m n (by omega) st' x hx
variable {T : FuncId → Option RF} {G : Nat → Option (List D)}
theorem runF_mono (T : FuncId → Option RF) (G : Nat → Option (List D)) : ∀ (m n : Nat), m ≤ n → CallLe (runF T G m) (runF T G n)
  | 0, _, _ => fun _ _ _ => le_none _
  | m + 1, 0, h => by omega
  | m + 1, n + 1, h => by
    intro f vs s x hx
    simp only [runF] at hx ⊢
    cases hr : T f with
    | none => rw [hr] at hx; cases hx
    | some rf =>
      rw [hr] at hx
      exact evFn_le (runF_mono T G m n (by omega)) (fun p q hpq st => iterN_mono p q hpq m n (by omega) st) rf vs s x hx

/-- What comes of calls and of loops in the end. -/
noncomputable def lim {α : Type} (f : Nat → Option α) : Option α := open Classical in if h : ∃ k x, f k = some x then some h.choose_spec.choose else none
theorem lim_some {α : Type} {f : Nat → Option α} (hm : ∀ m n, m ≤ n → le (f m) (f n)) {x : α} : lim f = some x ↔ ∃ k, f k = some x := by
  unfold lim
  constructor
  · intro h
    split at h
    · rename_i hex
      exact ⟨hex.choose, by rw [hex.choose_spec.choose_spec]; exact h⟩
    · cases h
  · rintro ⟨k, hk⟩
    have hex : ∃ k x, f k = some x := ⟨k, x, hk⟩
    rw [dif_pos hex]
    have h1 := hex.choose_spec.choose_spec
    have h2 := hm _ _ (Nat.le_max_left hex.choose k) _ h1
    have h3 := hm _ _ (Nat.le_max_right hex.choose k) _ hk
    rw [h2] at h3
    exact h3
noncomputable def callW (T : FuncId → Option RF) (G : Nat → Option (List D)) : CallF := fun f vs s => lim fun k => runF T G k f vs s
noncomputable def iterW (p : St → Rs) (st : St) : Rs := lim fun k => iterN k p st
theorem callW_some {f : FuncId} {vs : List V} {s : Stk} {x : Out × Stk} : callW T G f vs s = some x ↔ ∃ k, runF T G k f vs s = some x :=
  lim_some (fun m n h => runF_mono T G m n h f vs s)
theorem iterW_some {p : St → Rs} {st : St} {x : Ex × St} : iterW p st = some x ↔ ∃ k, iterN k p st = some x :=
  lim_some (fun m n h => iterN_mono p p (fun _ => le_refl _) m n h st)
theorem iterW_eq (p : St → Rs) (st : St) : iterW p st = match p st with
    | some (.normal, st') => iterW p st'
    | r => r := by
  apply Option.ext
  intro x
  show iterW p st = some x ↔ _ = some x
  rw [iterW_some]
  cases hp : p st with
  | none =>
    constructor
    · rintro ⟨k, hk⟩; cases k <;> simp [iterN, hp] at hk
    · intro h; cases h
  | some y =>
    obtain ⟨e, st'⟩ := y
    cases e
    case normal =>
      show _ ↔ iterW p st' = some x
      rw [iterW_some]
      constructor
      · rintro ⟨k, hk⟩
        cases k with
        | zero => simp [iterN] at hk
        | succ k => exact ⟨k, by simpa [iterN, hp] using hk⟩
      · rintro ⟨k, hk⟩; exact ⟨k + 1, by simpa [iterN, hp] using hk⟩
    all_goals
      constructor
      · rintro ⟨k, hk⟩
        cases k with
        | zero => simp [iterN] at hk
        | succ k => simpa [iterN, hp] using hk
      · intro h; exact ⟨1, by simpa [iterN, hp] using h⟩
theorem runF_le_callW (k : Nat) : CallLe (runF T G k) (callW T G) := fun _ _ _ _ hx => callW_some.2 ⟨k, hx⟩
theorem iterN_le_iterW (k : Nat) : IterLe (iterN k) iterW := fun p q h st x hx => iterW_some.2 ⟨k, iterN_mono p q h k k (Nat.le_refl _) st x hx⟩
/-- The system whose calls and loops are carried to their ends. -/
noncomputable def Sys.whole (T : FuncId → Option RF) (G : Nat → Option (List D)) : Sys := Sys.real T G (callW T G) iterW
noncomputable def Sys.at (T : FuncId → Option RF) (G : Nat → Option (List D)) (k : Nat) : Sys := Sys.real T G (runF T G k) (iterN k)

/-! What is told in the end is told at some count. -/
theorem callW_fin (g : FuncId) (vs : List V) (s : Stk) (x : Out × Stk) (h : callW T G g vs s = some x) : ∃ k, runF T G k g vs s = some x := callW_some.1 h
theorem evOps_fin : ∀ (l : List ROp) (st : St) {x : Ex × St}, evOps (Sys.whole T G) l st = some x → ∃ k, evOps (Sys.at T G k) l st = some x
  | [], st, x, hx => ⟨0, hx⟩
  | o :: r, st, x, hx => by
    simp only [evOps] at hx ⊢
    cases hw : wants st.fr o.g with
    | none => rw [hw] at hx; cases hx
    | some t =>
      rw [hw] at hx
      cases t with
      | false => exact evOps_fin r _ hx
      | true =>
        simp only at hx ⊢
        cases hv : evR (Sys.whole T G) o.dst st.fr st.stk o.r with
        | none => rw [hv] at hx; cases hx
        | some y =>
          obtain ⟨k1, hk1⟩ := evR_fin (f := runF T G) (j := iterW) callW_fin _ _ _ _ hv
          rw [hv] at hx
          cases y with
          | val v s =>
            obtain ⟨k2, hk2⟩ := evOps_fin r _ hx
            refine ⟨max k1 k2, ?_⟩
            unfold Sys.at
            rw [evR_le (runF_mono T G _ _ (Nat.le_max_left k1 k2)) _ _ _ _ _ hk1]
            exact evOps_le (runF_mono T G _ _ (Nat.le_max_right k1 k2)) r _ _ hk2
          | pan v s =>
            refine ⟨k1, ?_⟩
            unfold Sys.at
            rw [evR_le (j := iterN k1) (fun _ _ _ => le_refl _) _ _ _ _ _ hk1]; exact hx
theorem evFree_fin (stk : Stk) : ∀ (l : List ROp) (fr : Fr) {x : Fr}, evFree (Sys.whole T G) stk l fr = some x → ∃ k, evFree (Sys.at T G k) stk l fr = some x
  | [], fr, x, hx => ⟨0, hx⟩
  | o :: r, fr, x, hx => by
    simp only [evFree] at hx ⊢
    cases hw : wants fr o.g with
    | none => rw [hw] at hx; cases hx
    | some t =>
      rw [hw] at hx
      cases t with
      | false => exact evFree_fin stk r _ hx
      | true =>
        simp only at hx ⊢
        cases hv : evF (Sys.whole T G) stk fr o.r with
        | none => rw [hv] at hx; cases hx
        | some y =>
          obtain ⟨k1, hk1⟩ := evF_fin (f := runF T G) (j := iterW) callW_fin _ _ _ hv
          rw [hv] at hx
          obtain ⟨k2, hk2⟩ := evFree_fin stk r _ hx
          refine ⟨max k1 k2, ?_⟩
          unfold Sys.at
          rw [evF_le (runF_mono T G _ _ (Nat.le_max_left k1 k2)) _ _ _ _ hk1]
          exact evFree_le (runF_mono T G _ _ (Nat.le_max_right k1 k2)) stk r _ _ hk2
theorem recheck_fin (stk : Stk) (fr : Fr) : ∀ (l : List ROp), recheck (Sys.whole T G) stk fr l = true → ∃ k, recheck (Sys.at T G k) stk fr l = true
  | [], _ => ⟨0, rfl⟩
  | o :: r, hx => by
    simp only [recheck] at hx ⊢
    cases hs : o.r.still with
    | true => rw [hs] at hx; exact recheck_fin stk fr r hx
    | false =>
      rw [hs] at hx
      simp only at hx ⊢
      cases hw : wants fr o.g with
      | none => rw [hw] at hx; cases hx
      | some t =>
        rw [hw] at hx
        cases t with
        | false => exact recheck_fin stk fr r hx
        | true =>
          simp only at hx ⊢
          cases hd : o.dst with
          | none =>
            rw [hd] at hx
            simp only at hx
            cases hv : evF (Sys.whole T G) stk fr o.r with
            | none => rw [hv] at hx; cases hx
            | some y =>
              obtain ⟨k1, hk1⟩ := evF_fin (f := runF T G) (j := iterW) callW_fin _ _ _ hv
              rw [hv] at hx
              obtain ⟨k2, hk2⟩ := recheck_fin stk fr r hx
              refine ⟨max k1 k2, ?_⟩
              unfold Sys.at
              simp only
              rw [evF_le (runF_mono T G _ _ (Nat.le_max_left k1 k2)) _ _ _ _ hk1]
              exact recheck_le (runF_mono T G _ _ (Nat.le_max_right k1 k2)) stk fr r hk2
          | some d =>
            rw [hd] at hx
            simp only at hx
            cases hv : evF (Sys.whole T G) stk fr o.r with
            | none => rw [hv] at hx; cases hx
            | some y =>
              obtain ⟨k1, hk1⟩ := evF_fin (f := runF T G) (j := iterW) callW_fin _ _ _ hv
              rw [hv] at hx
              simp only at hx
              cases hq : (Sys.whole T G).samev y (fr.get d) with
              | false => rw [hq] at hx; cases hx
              | true =>
                rw [hq] at hx
                obtain ⟨k2, hk2⟩ := recheck_fin stk fr r hx
                refine ⟨max k1 k2, ?_⟩
                have e : (Sys.at T G (max k1 k2)).samev y (fr.get d) = true := hq
                unfold Sys.at at e ⊢
                simp only
                rw [evF_le (runF_mono T G _ _ (Nat.le_max_left k1 k2)) _ _ _ _ hk1]
                simp only
                rw [e]
                exact recheck_le (runF_mono T G _ _ (Nat.le_max_right k1 k2)) stk fr r hk2
theorem evDraw_fin (stk : Stk) (l : List ROp) (fr : Fr) {x : Fr × Stk} (hx : evDraw (Sys.whole T G) stk l fr = some x) : ∃ k, evDraw (Sys.at T G k) stk l fr = some x := by
  unfold evDraw at hx
  cases hc : cutM l with
  | none =>
    rw [hc] at hx
    simp only at hx
    cases hv : evFree (Sys.whole T G) stk l fr with
    | none => rw [hv] at hx; cases hx
    | some y =>
      obtain ⟨k, hk⟩ := evFree_fin _ _ _ hv
      rw [hv] at hx
      exact ⟨k, by unfold evDraw; rw [hc]; simp only; rw [hk]; exact hx⟩
  | some p =>
    obtain ⟨A, m, B⟩ := p
    rw [hc] at hx
    simp only at hx
    cases h1 : evFree (Sys.whole T G) stk (A ++ apartM (dstL m.dst) B) fr with
    | none => rw [h1] at hx; cases hx
    | some fr1 =>
      obtain ⟨k1, hk1⟩ := evFree_fin _ _ _ h1
      rw [h1] at hx
      simp only at hx
      cases hg : m.g with
      | some g => rw [hg] at hx; cases hx
      | none =>
        rw [hg] at hx
        simp only at hx
        cases hv : evR (Sys.whole T G) m.dst fr1 stk m.r with
        | none => rw [hv] at hx; cases hx
        | some y =>
          obtain ⟨k2, hk2⟩ := evR_fin (f := runF T G) (j := iterW) callW_fin _ _ _ _ hv
          rw [hv] at hx
          cases y with
          | pan v s => cases hx
          | val v s =>
            simp only at hx
            cases hq : recheck (Sys.whole T G) s fr1 (A ++ apartM (dstL m.dst) B) with
            | false => rw [hq] at hx; cases hx
            | true =>
              obtain ⟨k3, hk3⟩ := recheck_fin _ _ _ hq
              rw [hq] at hx
              simp only at hx
              cases h2 : evFree (Sys.whole T G) s (hangM (dstL m.dst) B) (fr1.put m.dst v) with
              | none => rw [h2] at hx; cases hx
              | some fr2 =>
                obtain ⟨k4, hk4⟩ := evFree_fin _ _ _ h2
                rw [h2] at hx
                refine ⟨max (max k1 k2) (max k3 k4), ?_⟩
                unfold Sys.at at hk1 hk3 hk4 ⊢
                unfold evDraw
                rw [hc]
                simp only
                rw [evFree_le (runF_mono T G _ _ (by omega)) _ _ _ _ hk1]
                simp only
                rw [hg]
                simp only
                rw [evR_le (runF_mono T G _ _ (by omega)) _ _ _ _ _ hk2]
                simp only
                rw [recheck_le (runF_mono T G _ _ (by omega)) _ _ _ hk3]
                simp only
                rw [evFree_le (runF_mono T G _ _ (by omega)) _ _ _ _ hk4]
                exact hx
theorem iterN_fin (p : Nat → St → Rs) (q : St → Rs) (hm : ∀ m n, m ≤ n → ∀ st, le (p m st) (p n st)) (hq : ∀ st x, q st = some x → ∃ k, p k st = some x) :
    ∀ (n : Nat) (st : St) {x : Ex × St}, iterN n q st = some x → ∃ k, iterN k (p k) st = some x
  | 0, _, _, hx => by simp [iterN] at hx
  | n + 1, st, x, hx => by
    simp only [iterN] at hx
    cases hp : q st with
    | none => rw [hp] at hx; cases hx
    | some y =>
      obtain ⟨k1, hk1⟩ := hq st y hp
      rw [hp] at hx
      obtain ⟨e, st'⟩ := y
      cases e
      case normal =>
        obtain ⟨k2, hk2⟩ := iterN_fin p q hm hq n st' hx
        refine ⟨max k1 k2 + 1, ?_⟩
        have h1 := hm k1 (max k1 k2 + 1) (by omega) st _ hk1
        have h2 := iterN_mono (p k2) (p (max k1 k2 + 1)) (hm k2 _ (by omega)) k2 (max k1 k2) (by omega) st' _ hk2
        simp only [iterN, h1]
        exact h2
      all_goals exact ⟨k1 + 1, by simp only [iterN, hm k1 (k1 + 1) (by omega) st _ hk1]; exact hx⟩
theorem evC_up (m n : Nat) (h : m ≤ n) (c : C) (st : St) : le (evC (Sys.at T G m) c st) (evC (Sys.at T G n) c st) :=
  evC_le (runF_mono T G m n h) (fun p q hpq st => iterN_mono p q hpq m n h st) c st
theorem evC_fin : ∀ (c : C) (st : St) {x : Ex × St}, evC (Sys.whole T G) c st = some x → ∃ k, evC (Sys.at T G k) c st = some x
  | .skip, _, _, hx | .exit _, _, _, hx | .ret, _, _, hx | .bad, _, _, hx => ⟨0, hx⟩
  | .reg ops, st, x, hx => evOps_fin ops st hx
  | .dreg free tail, st, x, hx => by
    simp only [evC] at hx ⊢
    cases hf : evDraw (Sys.whole T G) st.stk free st.fr with
    | none => rw [hf] at hx; cases hx
    | some fr =>
      obtain ⟨k1, hk1⟩ := evDraw_fin _ _ _ hf
      rw [hf] at hx
      obtain ⟨k2, hk2⟩ := evOps_fin tail _ hx
      refine ⟨max k1 k2, ?_⟩
      unfold Sys.at at hk1 hk2 ⊢
      rw [evDraw_le (runF_mono T G _ _ (Nat.le_max_left k1 k2)) _ _ _ _ hk1]
      exact evOps_le (runF_mono T G _ _ (Nat.le_max_right k1 k2)) tail _ _ hk2
  | .dpan free k tail, st, x, hx => by
    simp only [evC] at hx
    cases hk : nthR free k with
    | none => rw [hk] at hx; cases hx
    | some r =>
      rw [hk] at hx
      cases hf : evFree (Sys.whole T G) st.stk (othersP free k) st.fr with
      | none => rw [hf] at hx; cases hx
      | some fr2 =>
        obtain ⟨k1, hk1⟩ := evFree_fin _ _ _ hf
        rw [hf] at hx
        simp only at hx
        cases hr : evR (Sys.whole T G) r.dst fr2 st.stk r.r with
        | none => rw [hr] at hx; cases hx
        | some res =>
          obtain ⟨k2, hk2⟩ := evR_fin (f := runF T G) (j := iterW) callW_fin _ _ _ _ hr
          rw [hr] at hx
          cases res with
          | pan y s =>
            refine ⟨max k1 k2, ?_⟩
            simp only [evC, hk]
            unfold Sys.at at hk1 ⊢
            simp only [evFree_le (runF_mono T G _ _ (Nat.le_max_left k1 k2)) _ _ _ _ hk1, evR_le (runF_mono T G _ _ (Nat.le_max_right k1 k2)) _ _ _ _ _ hk2]
            exact hx
          | val v s =>
            simp only at hx
            cases hd : evDraw (Sys.whole T G) st.stk free st.fr with
            | none => rw [hd] at hx; cases hx
            | some fr =>
              obtain ⟨k3, hk3⟩ := evDraw_fin _ _ _ hd
              rw [hd] at hx
              obtain ⟨k4, hk4⟩ := evOps_fin tail _ hx
              refine ⟨max (max k1 k2) (max k3 k4), ?_⟩
              simp only [evC, hk]
              unfold Sys.at at hk1 hk3 hk4 ⊢
              simp only [evFree_le (runF_mono T G _ _ (show k1 ≤ max (max k1 k2) (max k3 k4) by omega)) _ _ _ _ hk1, evR_le (runF_mono T G _ _ (show k2 ≤ max (max k1 k2) (max k3 k4) by omega)) _ _ _ _ _ hk2, evDraw_le (runF_mono T G _ _ (show k3 ≤ max (max k1 k2) (max k3 k4) by omega)) _ _ _ _ hk3]
              exact evOps_le (runF_mono T G _ _ (show k4 ≤ max (max k1 k2) (max k3 k4) by omega)) tail _ _ hk4
  | .seq p q, st, x, hx => by
    simp only [evC] at hx ⊢
    cases hp : evC (Sys.whole T G) p st with
    | none => rw [hp] at hx; cases hx
    | some y =>
      obtain ⟨k1, hk1⟩ := evC_fin p st hp
      rw [hp] at hx
      obtain ⟨e, st'⟩ := y
      cases e
      case normal =>
        obtain ⟨k2, hk2⟩ := evC_fin q st' hx
        refine ⟨max k1 k2, ?_⟩
        rw [evC_up k1 _ (Nat.le_max_left k1 k2) p st _ hk1]
        exact evC_up k2 _ (Nat.le_max_right k1 k2) q st' _ hk2
      all_goals exact ⟨k1, by rw [hk1]; exact hx⟩
  | .cond c p q, st, x, hx => by
    simp only [evC] at hx ⊢
    have he : ∀ k, c.ev (Sys.at T G k) st.fr = c.ev (Sys.whole T G) st.fr := fun k => ev_same _ _
    simp only [he]
    split at hx
    · exact evC_fin p st hx
    · exact evC_fin q st hx
    · cases hx
  | .block id c, st, x, hx => by
    simp only [evC] at hx ⊢
    cases hp : evC (Sys.whole T G) c st with
    | none => rw [hp] at hx; cases hx
    | some y => obtain ⟨k, hk⟩ := evC_fin c st hp; exact ⟨k, by rw [hk]; rw [hp] at hx; exact hx⟩
  | .loop c, st, x, hx => by
    obtain ⟨n, hn⟩ := iterW_some.1 (show iterW (evC (Sys.whole T G) c) st = some x from hx)
    exact iterN_fin (fun k => evC (Sys.at T G k) c) _ (fun m n h st => evC_up m n h c st) (fun st x h => evC_fin c st h) n st hn
  | .tidy slots keys c, st, x, hx => by
    simp only [evC] at hx ⊢
    cases ht : tidy (Sys.whole T G) slots keys st with
    | none => rw [ht] at hx; cases hx
    | some st' =>
      rw [ht] at hx
      obtain ⟨k, hk⟩ := evC_fin c st' hx
      have ht' : tidy (Sys.at T G k) slots keys st = some st' := (tidy_same (X := Sys.at T G k) (Y := Sys.whole T G) rfl slots keys st).trans ht
      exact ⟨k, by rw [ht']; exact hk⟩
  | .adj a' c, st, x, hx => by
    simp only [evC] at hx ⊢
    cases ht : adjust (Sys.whole T G) a' st with
    | none => rw [ht] at hx; cases hx
    | some st' =>
      rw [ht] at hx
      obtain ⟨k, hk⟩ := evC_fin c st' hx
      have ht' : adjust (Sys.at T G k) a' st = some st' := (adjust_same a' st).trans ht
      exact ⟨k, by rw [ht']; exact hk⟩

theorem endV_fin (d : D) (res : List RRes) (st : St) {x : V × Stk} (h : endV (Sys.whole T G) d res st = some x) : ∃ k, endV (Sys.at T G k) d res st = some x := by
  unfold endV at h ⊢
  split at h
  · rename_i hh cs as r
    split at h <;> try (cases h; done)
    rename_i st1 had
    cases hc : (Sys.whole T G).fcall hh (.d d :: cs.map st1.fr.get) st1.stk with
    | none => rw [hc] at h; cases h
    | some z =>
      obtain ⟨k, hk⟩ := fcall_fin (f := runF T G) (j := iterW) (fun g vs s x hx => callW_some.1 hx) hh (.d d :: cs.map st1.fr.get) st1.stk hc
      refine ⟨k, ?_⟩
      have hk2 : (Sys.at T G k).fcall hh (.d d :: cs.map st1.fr.get) st1.stk = some z := fcall_le (a := runF T G k) (b := runF T G k) (fun _ _ _ _ h => h) hh _ _ _ hk
      have had2 : adjAll (Sys.at T G k) as ⟨tidyF st.fr (cs ++ cellTs r), st.stk⟩ = some st1 := (adjAll_same _ _).trans had
      simp only [had2, hk2]
      rw [hc] at h
      have hs : ∀ a b l, results (Sys.whole T G) a b l = results (Sys.at T G k) a b l := fun a b l => results_same a b l
      simp only [hs] at h
      exact h
  · refine ⟨0, ?_⟩
    have hs : ∀ a b l, results (Sys.whole T G) a b l = results (Sys.at T G 0) a b l := fun a b l => results_same a b l
    simp only [hs] at h
    exact h
theorem evFn0_fin (rf : RF) (fr : Fr) (stk : Stk) {x : Out × Stk} (h : evFn0 (Sys.whole T G) rf fr stk = some x) : ∃ k, evFn0 (Sys.at T G k) rf fr stk = some x := by
  unfold evFn0 at h
  cases hp : evC (Sys.whole T G) rf.body ⟨fr, push stk⟩ with
  | none => rw [hp] at h; cases h
  | some y =>
    obtain ⟨k, hk⟩ := evC_fin _ _ hp
    rw [hp] at h
    obtain ⟨e, st⟩ := y
    have key : ∀ (d : D) (x : Out × Stk), (match endV (Sys.whole T G) d rf.res st with | some (v, s) => some (Out.ret v, s) | none => none) = some x → ∃ k', (match endV (Sys.at T G k') d rf.res st with | some (v, s) => some (Out.ret v, s) | none => none) = some x := by
      intro d x hx
      cases hv : endV (Sys.whole T G) d rf.res st with
      | none => rw [hv] at hx; cases hx
      | some z =>
        rw [hv] at hx
        obtain ⟨k', hk'⟩ := endV_fin d rf.res st hv
        exact ⟨k', by rw [hk']; exact hx⟩
    have up : ∀ k', evC (Sys.at T G (k + k')) rf.body ⟨fr, push stk⟩ = some (e, st) := fun k' => evC_up _ _ (Nat.le_add_right k k') _ _ _ hk
    have up2 : ∀ k' (d : D) (x : Out × Stk), (match endV (Sys.at T G k') d rf.res st with | some (v, s) => some (Out.ret v, s) | none => none) = some x → (match endV (Sys.at T G (k + k')) d rf.res st with | some (v, s) => some (Out.ret v, s) | none => none) = some x := by
      intro k' d x hx
      cases hv : endV (Sys.at T G k') d rf.res st with
      | none => rw [hv] at hx; cases hx
      | some z => have h2 : endV (Sys.at T G (k + k')) d rf.res st = some z := endV_le (runF_mono T G _ _ (Nat.le_add_left k' k)) d _ _ z hv; rw [h2]; rw [hv] at hx; exact hx
    cases e with
    | normal =>
      obtain ⟨k', h'⟩ := key _ x h
      exact ⟨k + k', by unfold evFn0; rw [up k']; exact up2 k' _ x h'⟩
    | ret =>
      obtain ⟨k', h'⟩ := key _ x h
      exact ⟨k + k', by unfold evFn0; rw [up k']; exact up2 k' _ x h'⟩
    | exit i => cases h
    | pan d =>
      simp only at h
      cases hg : isG rf.res with
      | true =>
        rw [hg] at h
        obtain ⟨k', h'⟩ := key d x h
        exact ⟨k + k', by unfold evFn0; rw [up k']; simp only [hg]; exact up2 k' _ x h'⟩
      | false =>
        rw [hg] at h
        exact ⟨k, by unfold evFn0; rw [hk]; simp only [hg]; exact h⟩

/-- A call's equation. -/
theorem callW_eq (f : FuncId) (args : List V) (stk : Stk) : callW T G f args stk = match T f with
    | some rf => evFn (Sys.whole T G) rf args stk
    | none => none := by
  apply Option.ext
  intro x
  show callW T G f args stk = some x ↔ _ = some x
  rw [callW_some]
  cases hr : T f with
  | none =>
    constructor
    · rintro ⟨k, hk⟩; cases k <;> simp [runF, hr] at hk
    · intro h; cases h
  | some rf =>
    show _ ↔ evFn (Sys.whole T G) rf args stk = some x
    constructor
    · rintro ⟨k, hk⟩
      cases k with
      | zero => simp [runF] at hk
      | succ k =>
        simp only [runF, hr] at hk
        exact evFn_le (runF_le_callW k) (iterN_le_iterW k) rf args stk x hk
    · intro h
      unfold evFn at h
      cases hex : rf.ext with
      | some e =>
        rw [hex] at h
        refine ⟨1, ?_⟩
        simp only [runF, hr, evFn, hex]
        cases e <;> exact h
      | none =>
      rw [hex] at h
      simp only at h
      cases hh : rf.hnd with
      | none =>
        rw [hh] at h
        obtain ⟨k, hk⟩ := evFn0_fin rf _ stk h
        refine ⟨k + 1, ?_⟩
        simp only [runF, hr, evFn, hex, hh]
        exact hk
      | some tr =>
        rw [hh] at h
        simp only at h
        split at h <;> try (cases h; done)
        obtain ⟨k, hk⟩ := evFn0_fin rf _ stk h
        refine ⟨k + 1, ?_⟩
        simp only [runF, hr, evFn, hex, hh]
        exact hk

end Go.Abs
