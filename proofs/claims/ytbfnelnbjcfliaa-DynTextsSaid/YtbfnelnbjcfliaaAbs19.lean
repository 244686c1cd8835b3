import Derived.Test.YtbfnelnbjcfliaaAbs18
/-! Regions whose order is drawn. -/
set_option linter.unusedVariables false
set_option linter.unusedSimpArgs false
namespace Go.Abs

/-! ## What comes before what -/
def edgesOf (o : Oper) : List Nat := (o.after.toList.filter fun e => Region.binds .any e).map (·.on)
def maskOf (ms : List Nat) (es : List Nat) : Nat := es.foldl (fun s e => s ||| 1 <<< e ||| ms.getD e 0) 0
def masks : List Oper → List Nat → List Nat
  | [], acc => acc
  | o :: r, acc => masks r (acc ++ [maskOf acc (edgesOf o)])
def edgesLt : Nat → List Oper → Bool
  | _, [] => true
  | i, o :: r => (edgesOf o).all (fun e => decide (e < i)) && edgesLt (i + 1) r
/-- None of these is written behind. -/
def noLater : List ROp → Bool
  | [] => true
  | r :: rest => (match r.dst with | some d => !r.tmps.contains d | none => true) &&
      rest.all (fun q => match q.dst with | some d => !r.tmps.contains d && r.dst != some d | none => true) && noLater rest
/-- The free operation that is the i-th of a region: p of them stand behind the tail of t. -/
def faOf (free : List ROp) (p t i : Nat) : Option ROp := if i < free.length - p then free[i]? else if free.length - p + t ≤ i then free[i - t]? else none
/-- Who writes what is looked at, comes before. -/
def seenOk (M : List Nat) (fa : Nat → Option ROp) (n : Nat) : Bool :=
  (List.range n).all fun i => match fa i with
    | none => true
    | some r => r.tmps.all fun t => (List.range n).all fun j => match fa j with
      | none => true
      | some q => q.dst != some t || (M.getD i 0).testBit j
/-- One that may be carried out ahead of all: a move that nothing comes before. -/
def preB (ops : Array Oper) (i : Nat) : Bool :=
  match ops[i]? with
  | some o => (match o.op with | .move _ => true | _ => false) && (edgesOf o).isEmpty && o.guard.isNone && Region.free .any ops (Array.replicate ops.size false) i
  | none => false
/-- One that may be carried out as soon as what comes before it is: it asks nothing of the memory. -/
def lateB (M : List Nat) (fa : Nat → Option ROp) (ops : Array Oper) (i : Nat) : Bool :=
  match ops[i]? with
  | some o => (match fa i with | some r => (match o.op, r.r with | .move _, .move _ => true | .assign _, .move _ => true | .binOp .., .bin .. => true | .extract .., .extract .. => true | _, _ => false) | none => false) && o.guard.isNone &&
      (List.range ops.size).all fun j => j == i || (M.getD i 0).testBit j || match ops[j]? with
        | some oj => oj.after.any (fun e => Region.binds .any e && e.on == i) || o.apart ops oj
        | none => true
  | none => false
/-- One of these, that comes behind what i comes behind, and others of these. -/
def heldB (M : List Nat) (fa : Nat → Option ROp) (ops : Array Oper) (i : Nat) : Nat → Nat → Bool
  | 0, _ => false
  | n + 1, j => lateB M fa ops j && (match ops[j]? with | some o => (edgesOf o).all (fun e => (M.getD i 0).testBit e || heldB M fa ops i n e) | none => false)
def tailOk (M : List Nat) (fa : Nat → Option ROp) (ops : Array Oper) : Nat → Nat → Bool
  | _, 0 => true
  | i, n + 1 => (List.range ops.size).all (fun j => (match fa j with
      | none => decide (i ≤ j) || (M.getD i 0).testBit j
      | some _ => (M.getD i 0).testBit j || preB ops j || heldB M fa ops i ops.size j)) && tailOk M fa ops (i + 1) n
def mDrawP (P : Program) (nt : Nat) (ops : Array Oper) (free tail : List ROp) (p : Nat) : Bool :=
  decide (p ≤ free.length) && edgesLt 0 ops.toList && mOps P nt ops (ops.toList.take (free.length - p)) (free.take (free.length - p)) && mOps P nt ops ((ops.toList.drop (free.length - p)).take tail.length) tail &&
    mOps P nt ops (ops.toList.drop (free.length - p + tail.length)) (free.drop (free.length - p)) && noLater free &&
    (match masks ops.toList [] with | M => seenOk M (faOf free p tail.length) ops.size && tailOk M (faOf free p tail.length) ops (free.length - p) tail.length && Region.noSelect ops)
/-- The same, with one among the free ones that changes what there is. -/
def hangs (ds : List Nat) (r : ROp) : Bool := r.tmps.any ds.contains
def dstsOf : List ROp → List Nat
  | [] => []
  | o :: r => dstL o.dst ++ dstsOf r
def faM (free : List ROp) (p t k : Nat) (i : Nat) : Option ROp := if i = k then none else faOf free p t i
def mDrawM (P : Program) (nt : Nat) (ops : Array Oper) (free tail : List ROp) (p : Nat) (A : List ROp) (m : ROp) (B : List ROp) : Bool :=
  decide (A.length < free.length - p) && decide (p ≤ free.length) && edgesLt 0 ops.toList && mOps P nt ops (ops.toList.take (free.length - p)) (free.take (free.length - p)) && mOps P nt ops ((ops.toList.drop (free.length - p)).take tail.length) tail &&
    mOps P nt ops (ops.toList.drop (free.length - p + tail.length)) (free.drop (free.length - p)) && Region.noSelect ops && m.g.isNone &&
    (match masks ops.toList [], A ++ apartM (dstL m.dst) B, hangM (dstL m.dst) B with
      | M, I, H => match dstL m.dst ++ dstsOf H with
        | ds => noLater I && noLater H && I.all (fun r => !hangs ds r && (match r.dst with | some d => !ds.contains d | none => true)) && H.all (fun r => hangs ds r && (match r.dst with | some d => m.dst != some d | none => true)) && !hangs ds m &&
          seenOk M (faM free p tail.length A.length) ops.size && tailOk M (faM free p tail.length A.length) ops (free.length - p) tail.length &&
          (List.range ops.size).all (fun i => match faM free p tail.length A.length i with | some r => !hangs ds r || (M.getD i 0).testBit A.length | none => true) &&
          m.tmps.all (fun t => (List.range ops.size).all fun j => match faM free p tail.length A.length j with | none => true | some q => q.dst != some t || (M.getD A.length 0).testBit j))
def mDraw (P : Program) (nt : Nat) (ops : Array Oper) (free tail : List ROp) : Bool := match cutM free with
  | none => (List.range 3).any fun p => mDrawP P nt ops free tail p
  | some (A, m, B) => (List.range 3).any fun p => mDrawM P nt ops free tail p A m B

theorem maskOf_bit {ms : List Nat} {j : Nat} : ∀ {es : List Nat} {s : Nat}, (es.foldl (fun s e => s ||| 1 <<< e ||| ms.getD e 0) s).testBit j = true → s.testBit j = true ∨ ∃ e ∈ es, j = e ∨ (ms.getD e 0).testBit j = true
  | [], s, h => .inl h
  | e :: r, s, h => by
    simp only [List.foldl_cons] at h
    rcases maskOf_bit h with h | ⟨e', h1, h2⟩
    · simp only [Nat.testBit_or, Bool.or_eq_true] at h
      rcases h with (h | h) | h
      · exact .inl h
      · refine .inr ⟨e, by simp, .inl ?_⟩
        rw [Nat.one_shiftLeft, Nat.testBit_two_pow] at h
        exact (of_decide_eq_true h).symm
      · exact .inr ⟨e, by simp, .inr h⟩
    · exact .inr ⟨e', List.mem_cons_of_mem _ h1, h2⟩
theorem masks_spec : ∀ (os : List Oper) (acc : List Nat), ∃ l, masks os acc = acc ++ l ∧ ∀ k o, os[k]? = some o → l[k]? = some (maskOf (acc ++ l.take k) (edgesOf o))
  | [], acc => ⟨[], by simp [masks], fun k o h => by simp at h⟩
  | o :: r, acc => by
    obtain ⟨l, h1, h2⟩ := masks_spec r (acc ++ [maskOf acc (edgesOf o)])
    refine ⟨maskOf acc (edgesOf o) :: l, by simp [masks, h1], fun k o' h => ?_⟩
    cases k with
    | zero => simp only [List.getElem?_cons_zero, Option.some.injEq] at h; subst h; simp
    | succ k =>
      simp only [List.getElem?_cons_succ] at h ⊢
      rw [h2 k o' h]
      simp
theorem edgesLt_spec : ∀ {os : List Oper} {i : Nat}, edgesLt i os = true → ∀ k o, os[k]? = some o → ∀ e ∈ edgesOf o, e < i + k
  | [], _, _, k, o, h => by simp at h
  | o :: r, i, h, k, o', hk => by
    simp only [edgesLt, Bool.and_eq_true] at h
    cases k with
    | zero =>
      simp only [List.getElem?_cons_zero, Option.some.injEq] at hk
      subst hk
      intro e he
      have := List.all_eq_true.1 h.1 e he
      simpa using this
    | succ k =>
      intro e he
      have := edgesLt_spec h.2 k o' (by simpa using hk) e he
      omega
theorem mem_edges {o : Oper} {e : Nat} : e ∈ edgesOf o ↔ ∃ x ∈ o.after, Region.binds .any x = true ∧ x.on = e := by
  simp only [edgesOf, List.mem_map, List.mem_filter, Array.mem_toList_iff]
  constructor
  · rintro ⟨x, ⟨h1, h2⟩, h3⟩; exact ⟨x, h1, h2, h3⟩
  · rintro ⟨x, h1, h2, h3⟩; exact ⟨x, ⟨h1, h2⟩, h3⟩

section
variable {ops : Array Oper} {listed : Array Bool}
def on (listed : Array Bool) (i : Nat) : Prop := listed.getD i false = true
def Closed (ops : Array Oper) (listed : Array Bool) : Prop := ∀ (i : Nat) (o : Oper), ops[i]? = some o → on listed i → ∀ e ∈ edgesOf o, on listed e
theorem anc_on (hE : edgesLt 0 ops.toList = true) (hc : Closed ops listed) : ∀ (i : Nat) (o : Oper), ops[i]? = some o → (∀ e ∈ edgesOf o, on listed e) → ∀ j, ((masks ops.toList []).getD i 0).testBit j = true → on listed j := by
  obtain ⟨l, h1, h2⟩ := masks_spec ops.toList []
  rw [List.nil_append] at h1
  have hl : ∀ k o, ops[k]? = some o → l[k]? = some (maskOf (l.take k) (edgesOf o)) := fun k o h => by simpa using h2 k o (by simpa using h)
  intro i
  induction i using Nat.strongRecOn with
  | _ i ih =>
    intro o ho hed j hj
    rw [h1] at hj
    have := hl i o ho
    rw [List.getD_eq_getElem?_getD, this, Option.getD_some] at hj
    unfold maskOf at hj
    rcases maskOf_bit hj with h | ⟨e, he, h⟩
    · simp at h
    · rcases h with rfl | h
      · exact hed j he
      · have hlt := edgesLt_spec hE i o (by simpa using ho) e he
        rw [Nat.zero_add] at hlt
        have hoi : i < ops.size := (Array.getElem?_eq_some_iff.1 ho).1
        have hoe : ops[e]? = some (ops[e]'(by omega)) := Array.getElem?_eq_getElem (by omega)
        refine ih e hlt _ hoe (hc e _ hoe (hed e he)) j ?_
        rw [h1]
        have e1 : (l.take i).getD e 0 = l.getD e 0 := by
          rw [List.getD_eq_getElem?_getD, List.getD_eq_getElem?_getD, List.getElem?_take, if_pos hlt]
        rw [← e1]; exact h

theorem ready_iff {j : Nat} : j ∈ Region.ready .any ops listed ↔ listed.getD j true = false ∧ ∃ o, ops[j]? = some o ∧ ∀ e ∈ edgesOf o, on listed e := by
  rw [mem_ready]
  constructor
  · rintro ⟨h0, o, ho, h⟩
    refine ⟨h0, o, ho, fun e he => ?_⟩
    obtain ⟨x, h1, h2, rfl⟩ := mem_edges.1 he
    exact h x h1 h2
  · rintro ⟨h0, o, ho, h⟩
    exact ⟨h0, o, ho, fun x h1 h2 => h _ (mem_edges.2 ⟨x, h1, h2, rfl⟩)⟩
theorem on_set {i j : Nat} : on (listed.setIfInBounds i true) j ↔ on listed j ∨ (j = i ∧ i < listed.size) := by
  unfold on
  by_cases e : i = j
  · subst e
    by_cases h : i < listed.size
    · simp [h]
    · simp [h]
  · rw [getD_set_ne false e]
    constructor
    · exact .inl
    · rintro (h | h)
      · exact h
      · exact absurd h.1.symm e
theorem off_iff {i : Nat} (h : i < listed.size) : listed.getD i true = false ↔ ¬ on listed i := by
  unfold on
  simp [h]
def cnt (listed : Array Bool) : Nat := listed.toList.countP (fun b => !b)
theorem cnt_set : ∀ {l : List Bool} {i : Nat}, l[i]? = some false → (l.set i true).countP (fun b => !b) + 1 = l.countP (fun b => !b)
  | [], i, h => by simp at h
  | b :: r, 0, h => by
    simp only [List.getElem?_cons_zero, Option.some.injEq] at h
    subst h
    simp
  | b :: r, i + 1, h => by
    simp only [List.getElem?_cons_succ] at h
    have := cnt_set h
    simp only [List.set_cons_succ, List.countP_cons]
    omega
theorem cnt_off {i : Nat} (h : i < listed.size) (h1 : ¬ on listed i) : cnt (listed.setIfInBounds i true) + 1 = cnt listed := by
  unfold cnt
  rw [Array.toList_setIfInBounds]
  refine cnt_set ?_
  rw [Array.getElem?_toList, Array.getElem?_eq_getElem h]
  unfold on at h1
  simp [h] at h1
  rw [h1]
theorem cnt_zero (h : cnt listed = 0) {i : Nat} (hi : i < listed.size) : on listed i := by
  unfold cnt at h
  rw [List.countP_eq_zero] at h
  have := h listed[i] (by simp)
  unfold on
  simp [hi] at this ⊢
  exact this
end

section
variable {X : Sys} {stk : Stk}
/-- What holds of a free operation, all done. -/
def Good (X : Sys) (stk : Stk) (fr : Fr) (r : ROp) : Prop :=
  (wants fr r.g = some true ∧ ∃ v, evF X stk fr r.r = some v ∧ ∀ d, r.dst = some d → fr.get d = v) ∨ (wants fr r.g = some false ∧ ∀ d, r.dst = some d → fr.get d = undefV)
theorem Good.congr {fr fr' : Fr} {r : ROp} (h : ∀ t ∈ r.tmps, fr.get t = fr'.get t) (hd : ∀ d, r.dst = some d → fr.get d = fr'.get d) (g : Good X stk fr r) : Good X stk fr' r := by
  have h1 : ∀ t ∈ r.r.tmps, fr.get t = fr'.get t := fun t ht => h t (by simp [ROp.tmps, ht])
  have h2 : wants fr r.g = wants fr' r.g := wants_congr fun t b hg => h t (by simp [ROp.tmps, hg])
  rcases g with ⟨g1, v, g2, g3⟩ | ⟨g1, g2⟩
  · exact .inl ⟨h2 ▸ g1, v, by rw [← evF_congr h1]; exact g2, fun d hd' => by rw [← hd d hd']; exact g3 d hd'⟩
  · exact .inr ⟨h2 ▸ g1, fun d hd' => by rw [← hd d hd']; exact g2 d hd'⟩
theorem evFree_spec : ∀ {free : List ROp} {fr fr' : Fr}, evFree X stk free fr = some fr' → noLater free = true → (∀ t, (∀ r ∈ free, r.dst ≠ some t) → fr'.get t = fr.get t) ∧ ∀ r ∈ free, Good X stk fr' r
  | [], fr, fr', h, _ => by
    simp only [evFree, Option.some.injEq] at h
    subst h
    exact ⟨fun _ _ => rfl, fun r hr => by cases hr⟩
  | r :: rest, fr, fr', h, hn => by
    simp only [noLater, Bool.and_eq_true] at hn
    obtain ⟨⟨n1, n2⟩, n3⟩ := hn
    have step : ∀ v, ((wants fr r.g = some true ∧ evF X stk fr r.r = some v) ∨ (wants fr r.g = some false ∧ v = undefV)) → evFree X stk rest (fr.put r.dst v) = some fr' →
        (∀ t, (∀ q ∈ r :: rest, q.dst ≠ some t) → fr'.get t = fr.get t) ∧ ∀ q ∈ r :: rest, Good X stk fr' q := by
      intro v hv hrest
      obtain ⟨i1, i2⟩ := evFree_spec hrest n3
      have keep : ∀ t, t ∈ r.tmps → fr'.get t = fr.get t := fun t ht => by
        rw [i1 t fun q hq hd => ?_, put_get, if_neg]
        · intro hd
          rw [hd] at n1
          simp at n1
          exact n1 ht
        · have := List.all_eq_true.1 n2 q hq
          rw [hd] at this
          simp only [Bool.and_eq_true, Bool.not_eq_true'] at this
          have h3 := this.1
          simp at h3
          exact h3 ht
      have kd : ∀ d, r.dst = some d → fr'.get d = v := fun d hd => by
        rw [i1 d fun q hq hqd => ?_, put_get, if_pos hd]
        have := List.all_eq_true.1 n2 q hq
        rw [hqd] at this
        simp only [Bool.and_eq_true, bne_iff_ne, ne_eq] at this
        exact this.2 hd
      refine ⟨fun t ht => ?_, fun q hq => ?_⟩
      · rw [i1 t fun q hq => ht q (List.mem_cons_of_mem _ hq), put_get, if_neg (ht r (by simp))]
      · rcases List.mem_cons.1 hq with rfl | hq
        · have h1 : ∀ t ∈ q.r.tmps, fr.get t = fr'.get t := fun t ht => (keep t (by simp [ROp.tmps, ht])).symm
          have h2 : wants fr q.g = wants fr' q.g := wants_congr fun t b hg => (keep t (by simp [ROp.tmps, hg])).symm
          rcases hv with ⟨g1, g2⟩ | ⟨g1, rfl⟩
          · exact .inl ⟨h2 ▸ g1, v, by rw [← evF_congr h1]; exact g2, kd⟩
          · exact .inr ⟨h2 ▸ g1, kd⟩
        · exact i2 q hq
    simp only [evFree] at h
    split at h <;> try (cases h; done)
    · rename_i hw
      split at h <;> try (cases h; done)
      rename_i v hv
      exact step v (.inl ⟨hw, hv⟩) h
    · rename_i hw
      exact step undefV (.inr ⟨hw, rfl⟩) h
end
theorem evF_evR {T : FuncId → Option RF} {G : Nat → Option (List D)} {call : CallF} {iter : (St → Rs) → St → Rs} {stk : Stk} {fr : Fr} {r : R} {dst : Option Nat} {v : V} (h : evF (Sys.real T G call iter) stk fr r = some v) : evR (Sys.real T G call iter) dst fr stk r = some (.val v stk) := by
  have quiet : ∀ f vs, quietCall (Sys.real T G call iter) f vs stk = some v → evCall (Sys.real T G call iter) .frz dst f vs stk = some (.val v stk) := by
    intro f vs hq
    unfold quietCall at hq
    rw [evCall_eq (by simp) (by simp) (by simp)]
    split at hq <;> try (cases hq; done)
    rename_i v0 c s hc
    rw [hc]
    split at hq <;> try (cases hq; done)
    rename_i hs
    have hs' : s = stk := by
      unfold sameStk at hs
      split at hs
      · rename_i e; exact e
      · cases hs
    subst hs'
    split at hq <;> try (cases hq; done)
    rename_i v' s' hl
    cases hq
    have e : leave (Sys.real T G call iter) .frz dst v0 c s = leave (Sys.real T G call iter) .frz none v0 c s := rfl
    simp only [e, hl]
    have : s' = s := by
      simp only [leave] at hl
      split at hl
      · cases hl; rfl
      · split at hl <;> try (cases hl; done)
        cases hl; rfl
    rw [this]
  cases r
  case call m f l =>
    cases m
    · simp only [evF] at h; simp only [evR]; exact quiet _ _ h
    · simp only [evF] at h; simp only [evR, evCall, h]
    · simp [evF, evQ] at h
    · simp [evF, evQ] at h
    · simp [evF, evQ] at h
  case callv m x l =>
    cases m
    · simp only [evF] at h
      simp only [evR]
      split at h <;> try (cases h; done)
      exact quiet _ _ h
    · simp only [evF] at h
      simp only [evR]
      split at h <;> try (cases h; done)
      simp only [evCall, h]
    · simp [evF, evQ] at h
    · simp [evF, evQ] at h
    · simp [evF, evQ] at h
  case conv k x =>
    cases k
    case bytes => simp [evF, evQ] at h
    all_goals
      simp only [evF] at h
      simp only [evR, h]
  case tasp ta t x =>
    simp only [evF, evQ] at h
    simp only [evR]
    split at h <;> try (cases h; done)
    rename_i t' u hv
    rw [hv]
    split at h <;> try (cases h; done)
    rename_i e
    cases h
    simp only [if_pos e]
  all_goals first
    | (simp [evF, evQ] at h; done)
    | (simp only [evF] at h; simp only [evR, h])
end Go.Abs
