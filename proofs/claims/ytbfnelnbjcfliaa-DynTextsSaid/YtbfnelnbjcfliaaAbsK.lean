import Derived.Test.YtbfnelnbjcfliaaAbs21
/-! Code in fragments that hand on to each other at their ends. -/
set_option linter.unusedVariables false
set_option linter.unusedSimpArgs false
namespace Go.Abs
/-! Operations, in short. -/
abbrev rq (d : Nat) (r : R) : ROp := { dst := some d, r := r }
abbrev rz (r : R) : ROp := { dst := none, r := r }
abbrev rqg (d g : Nat) (b : Bool) (r : R) : ROp := { dst := some d, g := some (g, b), r := r }
abbrev rzg (g : Nat) (b : Bool) (r : R) : ROp := { dst := none, g := some (g, b), r := r }
/-- Where one goes on: a fragment, and what of the state it looks at. -/
structure Jmp where
  id : Nat
  slots : List Nat
  keys : List (List Nat)
  deriving Inhabited
inductive KC where
  | skip
  | lreg (ops : List ROp)
  | ldreg (free tail : List ROp)
  | ldpan (free : List ROp) (k : Nat) (tail : List ROp)
  | reg (ops : List ROp) (c : KC)
  | dreg (free tail : List ROp) (c : KC)
  | adj (a : Adj) (c : KC)
  | cond (x : Opd) (a b : KC)
  | block (i : Nat) (c : KC)
  | loop (j : Jmp)
  | seq (a : KC) (j : Jmp)
  | exit (i : Nat)
  | ret
  | bad
  deriving Inhabited
inductive K where
  | sub (j : Jmp)
  | blk (i : Nat)
  | lp (j : Jmp)
  deriving Inhabited
structure KF where
  code : List KC
  res : List RRes
  np : Nat
  ext : Option Ext := none
  hnd : Option Nat := none
  deriving Inhabited
def nthC : List KC → Nat → Option KC
  | [], _ => none
  | c :: _, 0 => some c
  | _ :: r, n + 1 => nthC r n
def erase (l : List KC) : Nat → KC → C
  | 0, _ => .bad
  | n + 1, c => match c with
    | .skip => .skip
    | .lreg ops => .reg ops
    | .ldreg f t => .dreg f t
    | .ldpan f k t => .dpan f k t
    | .reg ops c => .seq (.reg ops) (erase l n c)
    | .dreg f t c => .seq (.dreg f t) (erase l n c)
    | .adj a c => .adj a (erase l n c)
    | .cond x a b => .cond x (erase l n a) (erase l n b)
    | .block i c => .block i (erase l n c)
    | .loop j => match nthC l j.id with | some c => .loop (.tidy j.slots j.keys (erase l n c)) | none => .bad
    | .seq a j => match nthC l j.id with | some c => .seq (erase l n a) (.tidy j.slots j.keys (erase l n c)) | none => .bad
    | .exit i => .exit i
    | .ret => .ret
    | .bad => .bad
/-- Is the depth enough? -/
def full (l : List KC) : Nat → KC → Bool
  | 0, _ => false
  | n + 1, c => match c with
    | .reg _ c | .dreg _ _ c | .block _ c | .adj _ c => full l n c
    | .cond _ a b => full l n a && full l n b
    | .loop j => match nthC l j.id with | some c => full l n c | none => false
    | .seq a j => match nthC l j.id with | some c => full l n a && full l n c | none => false
    | _ => true
theorem erase_full (l : List KC) : ∀ (n : Nat) (c : KC), full l n c = true → ∀ m, n ≤ m → erase l m c = erase l n c
  | 0, _, h, _, _ => by simp [full] at h
  | n + 1, c, h, 0, hm => by omega
  | n + 1, c, h, m + 1, hm => by
    have ih := fun c h => erase_full l n c h m (by omega)
    cases c <;> simp only [erase] <;> simp only [full, Bool.and_eq_true] at h
    case reg ops c => rw [ih c h]
    case dreg f t c => rw [ih c h]
    case block i c => rw [ih c h]
    case adj a c => rw [ih c h]
    case cond x a b => rw [ih a h.1, ih b h.2]
    case loop j =>
      cases hn : nthC l j.id with
      | none => rfl
      | some c => rw [hn] at h; simp only at h ⊢; rw [ih c h]
    case seq a j =>
      cases hn : nthC l j.id with
      | none => rfl
      | some c => rw [hn] at h; simp only [Bool.and_eq_true] at h ⊢; rw [ih a h.1, ih c h.2]
def depth : Nat := 400
def eraseF (kf : KF) : RF where
  body := match nthC kf.code 0 with | some c => erase kf.code depth c | none => .bad
  res := kf.res
  np := kf.np
  ext := kf.ext
  hnd := kf.hnd
def KF.ok (kf : KF) : Bool := kf.code.all (full kf.code depth)
theorem nthC_mem : ∀ {l : List KC} {n : Nat} {c : KC}, nthC l n = some c → c ∈ l
  | [], n, c, h => by simp [nthC] at h
  | a :: r, 0, c, h => by simp only [nthC, Option.some.injEq] at h; subst h; simp
  | a :: r, n + 1, c, h => by simp only [nthC] at h; exact List.mem_cons_of_mem _ (nthC_mem h)
theorem KF.ok_at {kf : KF} (h : kf.ok = true) {n : Nat} {c : KC} (hn : nthC kf.code n = some c) : full kf.code depth c = true := List.all_eq_true.1 h c (nthC_mem hn)

/-! ## What it does -/
abbrev Rk' := Option (Out × Stk)
/-- What is told at the end: all as it stands; the result as data, the level taken off; or some objects of the level kept. -/
inductive PM where
  | raw
  | frz
  | keep (ks : List (List Nat))
  deriving Inhabited
abbrev AtF := FuncId → PM → Nat → List K → St → Rk'
/-- At the end: the results; of a pure call as data, and its level is taken off. -/
def doneV (X : Sys) (pu : PM) (v : V) (stk : Stk) : Rk' :=
  match pu with
  | .raw => some (.ret v, stk)
  | .frz => match stk with
    | c :: s => match freeze X c 100 v with
      | some d => some (.ret (.d d), s)
      | none => none
    | [] => none
  | .keep ks => match stk with
    | c :: s => match keepR ks v c s with
      | some (v', c', s') => some (.ret v', c' :: s')
      | none => none
    | [] => none
def doneX (X : Sys) (pu : PM) (x : D) (res : List RRes) (st : St) : Rk' :=
  match endV X x res st with
  | some (v, s) => doneV X pu v s
  | none => none
def doneK (X : Sys) (pu : PM) (res : List RRes) (st : St) : Rk' := doneX X pu .nili res st
def panK (X : Sys) (pu : PM) (res : List RRes) (x : D) (st : St) : Rk' :=
  match isG res with
  | true => doneX X pu x res st
  | false => match pu with
    | .raw => some (.pan x, st.stk)
    | _ => match st.stk with
      | _ :: s => some (.pan x, s)
      | [] => none
def jmp (X : Sys) (at_ : AtF) (f : FuncId) (pu : PM) (j : Jmp) (ks : List K) (st : St) : Rk' :=
  match tidy X j.slots j.keys st with
  | some st' => at_ f pu j.id ks st'
  | none => none
def pop (X : Sys) (at_ : AtF) (f : FuncId) (pu : PM) (res : List RRes) : List K → St → Rk'
  | [], st => doneK X pu res st
  | .sub j :: ks, st => jmp X at_ f pu j ks st
  | .blk _ :: ks, st => pop X at_ f pu res ks st
  | .lp j :: ks, st => jmp X at_ f pu j (.lp j :: ks) st
def brk (X : Sys) (at_ : AtF) (f : FuncId) (pu : PM) (res : List RRes) (i : Nat) : List K → St → Rk'
  | [], _ => none
  | .sub _ :: ks, st => brk X at_ f pu res i ks st
  | .blk k :: ks, st => if i = k then pop X at_ f pu res ks st else brk X at_ f pu res i ks st
  | .lp _ :: ks, st => brk X at_ f pu res i ks st
def other (X : Sys) (at_ : AtF) (f : FuncId) (pu : PM) (res : List RRes) (ks : List K) : Ex → St → Rk'
  | .normal, st => pop X at_ f pu res ks st
  | .exit i, st => brk X at_ f pu res i ks st
  | .ret, st => doneK X pu res st
  | .pan x, st => panK X pu res x st
noncomputable def kv (X : Sys) (at_ : AtF) (f : FuncId) (pu : PM) (res : List RRes) : KC → List K → St → Rk'
  | .skip, ks, st => pop X at_ f pu res ks st
  | .lreg ops, ks, st => match evOps X ops st with
    | some (e, st') => other X at_ f pu res ks e st'
    | none => none
  | .ldreg fr tl, ks, st => match evDraw X st.stk fr st.fr with
    | some (fr', stk') => match evOps X tl ⟨fr', stk'⟩ with
      | some (e, st') => other X at_ f pu res ks e st'
      | none => none
    | none => none
  | .ldpan free k tl, ks, st => match nthR free k, evFree X st.stk (othersP free k) st.fr with
    | some r, some fr2 => match evR X r.dst fr2 st.stk r.r with
      | some (.pan x _) => other X at_ f pu res ks (.pan x) st
      | some (.val _ _) => match evDraw X st.stk free st.fr with
        | some (fr', stk') => match evOps X tl ⟨fr', stk'⟩ with
          | some (e, st') => other X at_ f pu res ks e st'
          | none => none
        | none => none
      | none => none
    | _, _ => none
  | .reg ops c, ks, st => match evOps X ops st with
    | some (.normal, st') => kv X at_ f pu res c ks st'
    | some (e, st') => other X at_ f pu res ks e st'
    | none => none
  | .dreg fr tl c, ks, st => match evDraw X st.stk fr st.fr with
    | some (fr', stk') => match evOps X tl ⟨fr', stk'⟩ with
      | some (.normal, st') => kv X at_ f pu res c ks st'
      | some (e, st') => other X at_ f pu res ks e st'
      | none => none
    | none => none
  | .adj a c, ks, st => match adjust X a st with
    | some st' => kv X at_ f pu res c ks st'
    | none => none
  | .cond x a b, ks, st => match x.ev X st.fr with
    | .d (.bool true) => kv X at_ f pu res a ks st
    | .d (.bool false) => kv X at_ f pu res b ks st
    | _ => none
  | .block i c, ks, st => kv X at_ f pu res c (.blk i :: ks) st
  | .loop j, ks, st => jmp X at_ f pu j (.lp j :: ks) st
  | .seq a j, ks, st => kv X at_ f pu res a (.sub j :: ks) st
  | .exit i, ks, st => brk X at_ f pu res i ks st
  | .ret, _, st => doneK X pu res st
  | .bad, _, _ => none

/-! ## In the terms of the code as a whole -/
def codeJ (l : List KC) (j : Jmp) : C := match nthC l j.id with | some c => .tidy j.slots j.keys (erase l depth c) | none => .bad
noncomputable def plugO (X : Sys) (l : List KC) : List K → Rs → Rs
  | [], r => r
  | .sub j :: ks, r => plugO X l ks (match r with | some (.normal, st) => evC X (codeJ l j) st | r => r)
  | .blk i :: ks, r => plugO X l ks (match r with | some (.exit k, st) => if k = i then some (.normal, st) else some (.exit k, st) | r => r)
  | .lp j :: ks, r => plugO X l ks (match r with | some (.normal, st) => X.iter (evC X (codeJ l j)) st | r => r)
def finishO (X : Sys) (pu : PM) (res : List RRes) : Rs → Rk'
  | some (.normal, st) => doneK X pu res st
  | some (.ret, st) => doneK X pu res st
  | some (.pan x, st) => panK X pu res x st
  | some (.exit _, _) => none
  | none => none
def oldT (T : FuncId → Option KF) : FuncId → Option RF := fun f => match T f with | some kf => some (eraseF kf) | none => none
noncomputable def sysW (T : FuncId → Option KF) (G : Nat → Option (List D)) : Sys := Sys.whole (oldT T) G
noncomputable def atW (T : FuncId → Option KF) (G : Nat → Option (List D)) : AtF := fun f pu id ks st =>
  match T f with
  | some kf => match nthC kf.code id with
    | some c => finishO (sysW T G) pu kf.res (plugO (sysW T G) kf.code ks (evC (sysW T G) (erase kf.code depth c) st))
    | none => none
  | none => none
section
variable {T : FuncId → Option KF} {G : Nat → Option (List D)}
theorem plug_none (X : Sys) (l : List KC) : ∀ ks, plugO X l ks none = none
  | [] => rfl
  | .sub _ :: ks | .blk _ :: ks | .lp _ :: ks => by simp only [plugO]; exact plug_none X l ks
theorem plug_ret (X : Sys) (l : List KC) (st : St) : ∀ ks, plugO X l ks (some (.ret, st)) = some (.ret, st)
  | [] => rfl
  | .sub _ :: ks | .blk _ :: ks | .lp _ :: ks => by simp only [plugO]; exact plug_ret X l st ks
theorem plug_pan (X : Sys) (l : List KC) (x : D) (st : St) : ∀ ks, plugO X l ks (some (.pan x, st)) = some (.pan x, st)
  | [] => rfl
  | .sub _ :: ks | .blk _ :: ks | .lp _ :: ks => by simp only [plugO]; exact plug_pan X l x st ks
theorem jmp_eq {f : FuncId} {kf : KF} (hf : T f = some kf) (pu : PM) (j : Jmp) (ks : List K) (st : St) :
    jmp (sysW T G) (atW T G) f pu j ks st = finishO (sysW T G) pu kf.res (plugO (sysW T G) kf.code ks (evC (sysW T G) (codeJ kf.code j) st)) := by
  unfold jmp codeJ
  cases hn : nthC kf.code j.id with
  | none =>
    simp only [evC, plug_none, finishO]
    split
    · simp only [atW, hf, hn]
    · rfl
  | some c =>
    simp only [evC]
    cases ht : tidy (sysW T G) j.slots j.keys st with
    | none => simp only [plug_none, finishO]
    | some st' => simp only [atW, hf, hn]
theorem iter_codeJ (X : Sys) (hX : ∀ p st, X.iter p st = match p st with | some (.normal, st') => X.iter p st' | r => r) (l : List KC) (j : Jmp) (ks : List K) (st : St) :
    plugO X l ks (X.iter (evC X (codeJ l j)) st) = plugO X l (.lp j :: ks) (evC X (codeJ l j) st) := by
  rw [hX]
  simp only [plugO]
theorem pop_eq {f : FuncId} {kf : KF} (hf : T f = some kf) (pu : PM) : ∀ (ks : List K) (st : St),
    pop (sysW T G) (atW T G) f pu kf.res ks st = finishO (sysW T G) pu kf.res (plugO (sysW T G) kf.code ks (some (.normal, st)))
  | [], st => rfl
  | .sub j :: ks, st => by simp only [pop, plugO]; exact jmp_eq hf pu j ks st
  | .blk i :: ks, st => by simp only [pop, plugO]; exact pop_eq hf pu ks st
  | .lp j :: ks, st => by
    simp only [pop, plugO]
    rw [jmp_eq hf, iter_codeJ _ (fun p st => iterW_eq p st)]
theorem brk_eq {f : FuncId} {kf : KF} (hf : T f = some kf) (pu : PM) (i : Nat) : ∀ (ks : List K) (st : St),
    brk (sysW T G) (atW T G) f pu kf.res i ks st = finishO (sysW T G) pu kf.res (plugO (sysW T G) kf.code ks (some (.exit i, st)))
  | [], st => rfl
  | .sub j :: ks, st => by simp only [brk, plugO]; exact brk_eq hf pu i ks st
  | .blk k :: ks, st => by
    simp only [brk, plugO]
    by_cases e : i = k
    · rw [if_pos e, if_pos e]; exact pop_eq hf pu ks st
    · rw [if_neg e, if_neg e]; exact brk_eq hf pu i ks st
  | .lp j :: ks, st => by simp only [brk, plugO]; exact brk_eq hf pu i ks st
theorem other_eq {f : FuncId} {kf : KF} (hf : T f = some kf) (pu : PM) (ks : List K) (e : Ex) (st : St) :
    other (sysW T G) (atW T G) f pu kf.res ks e st = finishO (sysW T G) pu kf.res (plugO (sysW T G) kf.code ks (some (e, st))) := by
  cases e with
  | normal => exact pop_eq hf pu ks st
  | exit i => exact brk_eq hf pu i ks st
  | ret => simp only [other, plug_ret, finishO]
  | pan x => simp only [other, plug_pan, finishO]
theorem kv_eq {f : FuncId} {kf : KF} (hf : T f = some kf) (hk : kf.ok = true) (pu : PM) : ∀ (n : Nat), n ≤ depth → ∀ (c : KC), full kf.code n c = true → ∀ (ks : List K) (st : St),
    kv (sysW T G) (atW T G) f pu kf.res c ks st = finishO (sysW T G) pu kf.res (plugO (sysW T G) kf.code ks (evC (sysW T G) (erase kf.code n c) st))
  | 0, _, c, h, _, _ => by simp [full] at h
  | n + 1, hn, c, h, ks, st => by
    have ih := fun c h => kv_eq hf hk pu n (by omega) c h
    have hJ : ∀ (j : Jmp) c, nthC kf.code j.id = some c → full kf.code n c = true → codeJ kf.code j = .tidy j.slots j.keys (erase kf.code n c) := fun j c h1 h2 => by
      unfold codeJ; rw [h1]; simp only; rw [erase_full _ n c h2 depth (by omega)]
    cases c <;> simp only [erase] <;> simp only [full, Bool.and_eq_true] at h
    case skip => simp only [kv, evC]; exact pop_eq hf pu ks st
    case lreg ops =>
      simp only [kv, evC]
      cases he : evOps (sysW T G) ops st with
      | none => simp only [plug_none, finishO]
      | some y => obtain ⟨e, st'⟩ := y; exact other_eq hf pu ks e st'
    case ldpan free k tl =>
      simp only [kv, evC]
      cases hk : nthR free k with
      | none => simp only [plug_none, finishO]
      | some r =>
        cases hfree : evFree (sysW T G) st.stk (othersP free k) st.fr with
        | none => simp only [plug_none, finishO]
        | some fr2 =>
          simp only
          cases hr : evR (sysW T G) r.dst fr2 st.stk r.r with
          | none => simp only [plug_none, finishO]
          | some q =>
            cases q with
            | pan x s => exact other_eq hf pu ks _ st
            | val v s =>
              simp only
              cases hd : evDraw (sysW T G) st.stk free st.fr with
              | none => simp only [plug_none, finishO]
              | some q =>
                obtain ⟨fr', stk'⟩ := q
                simp only
                cases he : evOps (sysW T G) tl ⟨fr', stk'⟩ with
                | none => simp only [plug_none, finishO]
                | some y => obtain ⟨e, st'⟩ := y; exact other_eq hf pu ks e st'
    case ldreg fr tl =>
      simp only [kv, evC]
      cases hr : evDraw (sysW T G) st.stk fr st.fr with
      | none => simp only [plug_none, finishO]
      | some q =>
        obtain ⟨fr', stk'⟩ := q
        simp only
        cases he : evOps (sysW T G) tl ⟨fr', stk'⟩ with
        | none => simp only [plug_none, finishO]
        | some y => obtain ⟨e, st'⟩ := y; exact other_eq hf pu ks e st'
    case reg ops c =>
      simp only [kv, evC]
      cases he : evOps (sysW T G) ops st with
      | none => simp only [plug_none, finishO]
      | some y =>
        obtain ⟨e, st'⟩ := y
        cases e with
        | normal => exact ih c h ks st'
        | exit i => exact other_eq hf pu ks _ st'
        | ret => exact other_eq hf pu ks _ st'
        | pan x => exact other_eq hf pu ks _ st'
    case dreg fr tl c =>
      simp only [kv, evC]
      cases hr : evDraw (sysW T G) st.stk fr st.fr with
      | none => simp only [plug_none, finishO]
      | some q =>
        obtain ⟨fr', stk'⟩ := q
        simp only
        cases he : evOps (sysW T G) tl ⟨fr', stk'⟩ with
        | none => simp only [plug_none, finishO]
        | some y =>
          obtain ⟨e, st'⟩ := y
          cases e with
          | normal => exact ih c h ks st'
          | exit i => exact other_eq hf pu ks _ st'
          | ret => exact other_eq hf pu ks _ st'
          | pan x => exact other_eq hf pu ks _ st'
    case adj a c =>
      simp only [kv, evC]
      cases ht : adjust (sysW T G) a st with
      | none => simp only [plug_none, finishO]
      | some st' => exact ih c h ks st'
    case cond x a b =>
      simp only [kv, evC]
      generalize Opd.ev (sysW T G) st.fr x = v
      split
      · exact ih a h.1 ks st
      · exact ih b h.2 ks st
      · split <;> first
          | (exfalso; simp_all; done)
          | simp only [plug_none, finishO]
    case block i c =>
      simp only [kv, evC]
      rw [ih c h (.blk i :: ks) st]
      simp only [plugO]
      congr 2
    case loop j =>
      cases hnj : nthC kf.code j.id with
      | none => rw [hnj] at h; cases h
      | some c =>
        rw [hnj] at h
        simp only at h ⊢
        simp only [kv]
        rw [jmp_eq hf, ← hJ j c hnj h]
        show _ = finishO _ _ _ (plugO _ _ _ ((sysW T G).iter (evC (sysW T G) (codeJ kf.code j)) st))
        rw [iter_codeJ _ (fun p st => iterW_eq p st)]
    case seq a j =>
      cases hnj : nthC kf.code j.id with
      | none => rw [hnj] at h; cases h
      | some c =>
        rw [hnj] at h
        simp only [Bool.and_eq_true] at h ⊢
        simp only [kv]
        rw [ih a h.1 (.sub j :: ks) st]
        rw [← hJ j c hnj h.2]
        simp only [plugO]
        congr 2
    case exit i => simp only [kv, evC]; exact brk_eq hf pu i ks st
    case ret => simp only [kv, evC, plug_ret, finishO]
    case bad => simp only [kv, evC, plug_none, finishO]
/-- A fragment's equation. -/
theorem at_eq (hT : ∀ f kf, T f = some kf → kf.ok = true) (f : FuncId) (pu : PM) (id : Nat) (ks : List K) (st : St) :
    atW T G f pu id ks st = match T f with
      | some kf => match nthC kf.code id with
        | some c => kv (sysW T G) (atW T G) f pu kf.res c ks st
        | none => none
      | none => none := by
  unfold atW
  cases hf : T f with
  | none => rfl
  | some kf =>
    simp only
    cases hn : nthC kf.code id with
    | none => rfl
    | some c => exact (kv_eq hf (hT f kf hf) pu depth (Nat.le_refl _) c ((hT f kf hf).symm ▸ KF.ok_at (hT f kf hf) hn) ks st).symm
theorem evFn0_at {f : FuncId} {kf : KF} (hf : T f = some kf) (fr : Fr) (stk : Stk) : evFn0 (sysW T G) (eraseF kf) fr stk = atW T G f .raw 0 [] ⟨fr, push stk⟩ := by
  unfold atW evFn0
  rw [hf]
  simp only [eraseF, plugO]
  cases hn : nthC kf.code 0 with
  | none => simp [evC]
  | some c =>
    simp only
    cases he : evC (sysW T G) (erase kf.code depth c) ⟨fr, push stk⟩ with
    | none => rfl
    | some y =>
      obtain ⟨e, st⟩ := y
      have key : ∀ x : D, (match endV (sysW T G) x kf.res st with | some (v, s) => some (Out.ret v, s) | none => none) = doneX (sysW T G) .raw x kf.res st := fun x => by
        unfold doneX; cases endV (sysW T G) x kf.res st <;> rfl
      cases e with
      | normal => exact key _
      | exit i => rfl
      | ret => exact key _
      | pan x =>
        simp only [finishO, panK]
        cases isG kf.res with
        | true => exact key x
        | false => rfl
theorem callW_at (f : FuncId) (hx : ∀ kf, T f = some kf → kf.ext = none ∧ kf.hnd = none) (vs : List V) (stk : Stk) : callW (oldT T) G f vs stk = atW T G f .raw 0 [] ⟨frame 0 vs, push stk⟩ := by
  rw [callW_eq]
  cases hf : T f with
  | none => unfold oldT atW; rw [hf]
  | some kf =>
    rw [← evFn0_at hf]
    have h1 : (eraseF kf).ext = none := (hx kf hf).1
    have h2 : (eraseF kf).hnd = none := (hx kf hf).2
    simp only [oldT, hf, evFn, h1, h2]
    rfl
theorem callW_hnd {f : FuncId} {kf : KF} {tr : Nat} (hf : T f = some kf) (hx : kf.ext = none) (hh : kf.hnd = some tr) (x : D) (cs : List V) (stk : Stk) : callW (oldT T) G f (.d x :: cs) stk = atW T G f .raw 0 [] ⟨(tr, .d x) :: frame 0 cs, push stk⟩ := by
  rw [callW_eq, ← evFn0_at hf]
  have h1 : (eraseF kf).ext = none := hx
  have h2 : (eraseF kf).hnd = some tr := hh
  simp only [oldT, hf, evFn, h1, h2]
  rfl
theorem raw_frz (f : FuncId) (st0 : St) : atW T G f .frz 0 [] st0 = match atW T G f .raw 0 [] st0 with
    | some (.ret v, c :: s) => match freeze (sysW T G) c 100 v with
      | some d => some (.ret (.d d), s)
      | none => none
    | some (.pan x, _ :: s) => some (.pan x, s)
    | _ => none := by
  unfold atW
  cases hf : T f with
  | none => rfl
  | some kf =>
    simp only [plugO]
    cases hn : nthC kf.code 0 with
    | none => rfl
    | some c =>
      simp only
      have key : ∀ (x : D) (st : St), doneX (sysW T G) .frz x kf.res st = match doneX (sysW T G) .raw x kf.res st with
          | some (.ret v, c :: s) => match freeze (sysW T G) c 100 v with
            | some d => some (.ret (.d d), s)
            | none => none
          | some (.pan x, _ :: s) => some (.pan x, s)
          | _ => none := by
        intro x st
        unfold doneX
        cases endV (sysW T G) x kf.res st with
        | none => rfl
        | some q =>
          obtain ⟨v, s⟩ := q
          cases s <;> rfl
      cases he : evC (sysW T G) (erase kf.code depth c) st0 with
      | none => rfl
      | some y =>
        obtain ⟨e, st⟩ := y
        cases e with
        | normal => exact key _ st
        | exit i => rfl
        | ret => exact key _ st
        | pan x =>
          simp only [finishO, panK]
          cases isG kf.res with
          | true => exact key x st
          | false => cases st.stk <;> rfl
theorem raw_keep (f : FuncId) (ks : List (List Nat)) (st0 : St) : atW T G f (.keep ks) 0 [] st0 = match atW T G f .raw 0 [] st0 with
    | some (.ret v, c :: s) => match keepR ks v c s with
      | some (v', c', s') => some (.ret v', c' :: s')
      | none => none
    | some (.pan x, _ :: s) => some (.pan x, s)
    | _ => none := by
  unfold atW
  cases hf : T f with
  | none => rfl
  | some kf =>
    simp only [plugO]
    cases hn : nthC kf.code 0 with
    | none => rfl
    | some c =>
      simp only
      have key : ∀ (x : D) (st : St), doneX (sysW T G) (.keep ks) x kf.res st = match doneX (sysW T G) .raw x kf.res st with
          | some (.ret v, c :: s) => match keepR ks v c s with
            | some (v', c', s') => some (.ret v', c' :: s')
            | none => none
          | some (.pan x, _ :: s) => some (.pan x, s)
          | _ => none := by
        intro x st
        unfold doneX
        cases endV (sysW T G) x kf.res st with
        | none => rfl
        | some q =>
          obtain ⟨v, s⟩ := q
          cases s <;> rfl
      cases he : evC (sysW T G) (erase kf.code depth c) st0 with
      | none => rfl
      | some y =>
        obtain ⟨e, st⟩ := y
        cases e with
        | normal => exact key _ st
        | exit i => rfl
        | ret => exact key _ st
        | pan x =>
          simp only [finishO, panK]
          cases isG kf.res with
          | true => exact key x st
          | false => cases st.stk <;> rfl
/-- A pure call's equation. -/
theorem pcallW_at0 (f : FuncId) (hx : ∀ kf, T f = some kf → kf.ext = none ∧ kf.hnd = none) (vs : List V) (stk : Stk) : (sysW T G).pcall f vs stk = match atW T G f .frz 0 [] ⟨frame 0 vs, push stk⟩ with
      | some (.ret v, s) => match sameStk s stk with
        | true => some v
        | false => none
      | _ => none := by
  show pcallOf (Sys.real0 (oldT T) G (callW (oldT T) G) iterW) (callW (oldT T) G) f vs stk = _
  unfold pcallOf
  rw [callW_at f hx, raw_frz]
  cases atW T G f .raw 0 [] ⟨frame 0 vs, push stk⟩ with
  | none => rfl
  | some y =>
    obtain ⟨o, st⟩ := y
    cases o with
    | pan x => cases st <;> rfl
    | ret v =>
      cases st with
      | nil => rfl
      | cons c s =>
        simp only
        have hfz : freeze (Sys.real0 (oldT T) G (callW (oldT T) G) iterW) c 100 v = freeze (sysW T G) c 100 v := freeze_prim c 100 v
        rw [hfz]
        cases freeze (sysW T G) c 100 v with
        | none => cases sameStk s stk <;> rfl
        | some d => rfl
theorem sameStk_self' (s : Stk) : sameStk s s = true := by unfold sameStk; simp
theorem pcallW_at (f : FuncId) (vs : List V) (stk : Stk) (hne : ∀ kf e, T f = some kf → kf.ext ≠ some (.eff e)) (hnh : ∀ kf, T f = some kf → kf.hnd = none) : (sysW T G).pcall f vs stk = match T f with
      | some kf => match kf.ext with
        | some (.pure e) => match e vs with
          | some d => some (.d d)
          | none => none
        | some (.eff _) => none
        | none => match atW T G f .frz 0 [] ⟨frame 0 vs, push stk⟩ with
          | some (.ret v, s) => match sameStk s stk with
            | true => some v
            | false => none
          | _ => none
      | none => none := by
  cases hf : T f with
  | none => rw [pcallW_at0 f (fun kf h => by rw [hf] at h; cases h)]; unfold atW; rw [hf]
  | some kf =>
    simp only
    cases hx : kf.ext with
    | none => exact pcallW_at0 f (fun kf' h => by rw [hf] at h; cases h; exact ⟨hx, hnh kf hf⟩) vs stk
    | some e =>
      cases e with
      | eff e => exact absurd hx (hne kf e hf)
      | pure e =>
      simp only
      show pcallOf (Sys.real0 (oldT T) G (callW (oldT T) G) iterW) (callW (oldT T) G) f vs stk = _
      unfold pcallOf
      rw [callW_eq]
      simp only [oldT, hf, evFn, eraseF, hx]
      cases he : e vs with
      | none => rfl
      | some d => simp only [push, sameStk_self', freeze]
theorem callW_at' (f : FuncId) (hnh : ∀ kf, T f = some kf → kf.hnd = none) (vs : List V) (stk : Stk) : callW (oldT T) G f vs stk = match T f with
      | some kf => match kf.ext with
        | some (.pure e) => match e vs with
          | some d => some (.ret (.d d), push stk)
          | none => none
        | some (.eff e) => match e vs stk with
          | some (v, stk') => some (.ret v, push stk')
          | none => none
        | none => atW T G f .raw 0 [] ⟨frame 0 vs, push stk⟩
      | none => none := by
  cases hf : T f with
  | none => rw [callW_at f (fun kf h => by rw [hf] at h; cases h)]; unfold atW; rw [hf]
  | some kf =>
    simp only
    cases hx : kf.ext with
    | none => exact callW_at f (fun kf' h => by rw [hf] at h; cases h; exact ⟨hx, hnh kf hf⟩) vs stk
    | some e => rw [callW_eq]; simp only [oldT, hf, evFn, eraseF, hx]; cases e <;> rfl
/-- A call's equation, its result as data. -/
theorem fcallW_fr (f : FuncId) (vs : List V) (stk : Stk) (fr : Fr) (hc : callW (oldT T) G f vs stk = atW T G f .raw 0 [] ⟨fr, push stk⟩) : (sysW T G).fcall f vs stk = match atW T G f .frz 0 [] ⟨fr, push stk⟩ with
      | some (.ret v, s) => some (v, s)
      | some (.pan x, s) => some (.tup [.dead, .d x], s)
      | none => none := by
  show fcallOf (Sys.real0 (oldT T) G (callW (oldT T) G) iterW) (callW (oldT T) G) f vs stk = _
  unfold fcallOf
  rw [hc, raw_frz]
  cases atW T G f .raw 0 [] ⟨fr, push stk⟩ with
  | none => rfl
  | some y =>
    obtain ⟨o, st⟩ := y
    cases o with
    | pan x => cases st <;> rfl
    | ret v =>
      cases st with
      | nil => rfl
      | cons c s =>
        simp only
        have hfz : freeze (Sys.real0 (oldT T) G (callW (oldT T) G) iterW) c 100 v = freeze (sysW T G) c 100 v := freeze_prim c 100 v
        rw [hfz]
        cases freeze (sysW T G) c 100 v <;> rfl
theorem fcallW_at (f : FuncId) (hx : ∀ kf, T f = some kf → kf.ext = none ∧ kf.hnd = none) (vs : List V) (stk : Stk) : (sysW T G).fcall f vs stk = match atW T G f .frz 0 [] ⟨frame 0 vs, push stk⟩ with
      | some (.ret v, s) => some (v, s)
      | some (.pan x, s) => some (.tup [.dead, .d x], s)
      | none => none := fcallW_fr f vs stk _ (callW_at f hx vs stk)
/-- A call's equation, some objects kept. -/
theorem kcallW_at (f : FuncId) (ks : List (List Nat)) (hx : ∀ kf, T f = some kf → kf.ext = none ∧ kf.hnd = none) (vs : List V) (stk : Stk) : (sysW T G).kcall f ks vs stk = match atW T G f (.keep ks) 0 [] ⟨frame 0 vs, push stk⟩ with
      | some (.ret v, c :: s) => some (v, c, s)
      | _ => none := by
  show kcallOf (callW (oldT T) G) f ks vs stk = _
  unfold kcallOf
  rw [callW_at f hx, raw_keep]
  cases atW T G f .raw 0 [] ⟨frame 0 vs, push stk⟩ with
  | none => rfl
  | some y =>
    obtain ⟨o, st⟩ := y
    cases o with
    | pan x => cases st <;> rfl
    | ret v =>
      cases st with
      | nil => rfl
      | cons c s =>
        simp only
        cases keepR ks v c s with
        | none => rfl
        | some q => obtain ⟨v', c', s'⟩ := q; rfl
theorem fcall_eff {f : FuncId} {kf : KF} {e : List V → Stk → Option (V × Stk)} {vs : List V} {stk s' : Stk} {d : D} (hf : T f = some kf) (hx : kf.ext = some (.eff e)) (h : e vs stk = some (.d d, s')) : (sysW T G).fcall f vs stk = some (.d d, s') := by
  show fcallOf (Sys.real0 (oldT T) G (callW (oldT T) G) iterW) (callW (oldT T) G) f vs stk = _
  unfold fcallOf
  rw [callW_eq]
  simp only [oldT, hf, evFn, eraseF, hx, h, push, freeze]
theorem fcall_pcall {f : FuncId} {vs : List V} {stk : Stk} {d : D} (h : (sysW T G).fcall f vs stk = some (.d d, stk)) : (sysW T G).pcall f vs stk = some (.d d) := by
  have h' : fcallOf (Sys.real0 (oldT T) G (callW (oldT T) G) iterW) (callW (oldT T) G) f vs stk = some (.d d, stk) := h
  show pcallOf (Sys.real0 (oldT T) G (callW (oldT T) G) iterW) (callW (oldT T) G) f vs stk = _
  unfold fcallOf at h'
  unfold pcallOf
  split at h' <;> try (cases h'; done)
  rename_i v c s hc
  split at h' <;> try (cases h'; done)
  rename_i d' hd
  cases h'
  rw [hc]
  simp only [sameStk_self', hd]
theorem pcall_call {f : FuncId} {vs : List V} {stk : Stk} {b : Bool} (h : (sysW T G).pcall f vs stk = some (.d (.bool b))) : ∃ c, callW (oldT T) G f vs stk = some (.ret (.d (.bool b)), c :: stk) := by
  have h' : pcallOf (Sys.real0 (oldT T) G (callW (oldT T) G) iterW) (callW (oldT T) G) f vs stk = some (.d (.bool b)) := h
  unfold pcallOf at h'
  split at h' <;> try (cases h'; done)
  rename_i v c s hc
  split at h' <;> try (cases h'; done)
  rename_i hs
  have hs' : s = stk := by
    unfold sameStk at hs
    split at hs
    · rename_i e; exact e
    · cases hs
  subst hs'
  split at h' <;> try (cases h'; done)
  rename_i d hd
  cases h'
  refine ⟨c, ?_⟩
  rw [hc]
  have : v = .d (.bool b) := by
    cases v <;> simp only [freeze] at hd <;> first
      | (cases hd; rfl)
      | (cases hd; done)
      | (split at hd <;> cases hd; done)
      | (split at hd <;> try (cases hd; done)
         split at hd <;> try (cases hd; done)
         split at hd <;> try (cases hd; done)
         split at hd <;> cases hd; done)
      | (split at hd <;> try (cases hd; done)
         split at hd <;> try (cases hd; done)
         split at hd <;> try (cases hd; done)
         split at hd <;> try (cases hd; done)
         split at hd <;> cases hd; done)
      | (repeat' (split at hd <;> try (cases hd; done)))
  rw [this]
end
end Go.Abs
