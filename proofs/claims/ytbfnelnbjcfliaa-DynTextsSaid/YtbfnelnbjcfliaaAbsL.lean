import Derived.Test.YtbfnelnbjcfliaaAbsK
import Derived.Laws.BitsLemmas
/-! The primitives of plain functions, and what a walk may lean on: all of it behind variables, so that evaluation leaves them as they stand. -/
set_option linter.unusedVariables false
set_option linter.unusedSimpArgs false
namespace Go.Abs
namespace Pr
def quo (op : BinOp) (k : IntKind) (a b : Int) : Option Int := if b = 0 then none else some (intAr op k a b)
def shf (op : BinOp) (k : IntKind) (a b : Int) : Option Int := if b < 0 then none else some (intAr op k a b)
def slen (s : Str) : Int := s.length
def sidx (s : Str) (i : Int) : Option Int := if i < 0 then none else (s[i.toNat]?).map fun b => (b.toNat : Int)
def bnd (o : Option Int) (d : Nat) : Option Nat := match o with
  | none => some d
  | some n => if n < 0 then none else some n.toNat
def cutB {α : Type} (xs : List α) (l h : Option Nat) : Option (List α) := match l, h with
  | some l, some h => if l ≤ h then if h ≤ xs.length then some ((xs.take h).drop l) else none else none
  | _, _ => none
def ssub (s : Str) (lo hi : Option Int) : Option Str := cutB s (bnd lo 0) (bnd hi s.length)
def scat (a b : Str) : Option Str := if a.length + b.length ≤ 9223372036854775807 then some (a ++ b) else none
def sit (s : Str) (pos : Nat) : Option (Int × Int × Nat) :=
  if pos + 1 ≤ s.length then some ((pos : Int), ((Utf8.decode ⟨⟨s⟩⟩ pos).1 : Int), pos + (Utf8.decode ⟨⟨s⟩⟩ pos).2) else none
def fit (n b : Nat) : Bool := decide (n * b ≤ room ∧ n ≤ room)
def slist (s : Str) : Option (List Int) := if fit s.length 1 = true then some (s.map fun b => (b.toNat : Int)) else none
def ofBytes (l : List Int) : Str := l.map fun n => UInt8.ofNat n.toNat
def len {α : Type} (l : List α) : Int := l.length
def idx {α : Type} (l : List α) (i : Int) : Option α := if i < 0 then none else l[i.toNat]?
def sub {α : Type} (l : List α) (lo hi : Option Int) : Option (List α) := cutB l (bnd lo 0) (bnd hi l.length)
def app {α : Type} (bytes : Nat) (a b : List α) : Option (List α) := if fit (a.length + b.length) bytes = true then some (a ++ b) else none
def set {α : Type} (l : List α) (i : Int) (x : α) : Option (List α) := if i < 0 then none else if i.toNat < l.length then some (l.set i.toNat x) else none
def make {α : Type} (bytes : Nat) (z : α) (n : Int) : Option (List α) := if n < 0 then none else if fit n.toNat bytes = true then some (List.replicate n.toNat z) else none
def mfind {α : Type} (k : Str) : List (Str × Nat × α) → Option α
  | [] => none
  | (k', _, v) :: r => match k == k' with | true => some v | false => mfind k r
def mput {α : Type} (k : Str) (c : Nat) (v : α) : List (Str × Nat × α) → List (Str × Nat × α)
  | [] => [(k, c, v)]
  | (k', c', v') :: r => match k == k' with | true => (k', c', v) :: r | false => (k', c', v') :: mput k c v r
def loopN {σ ρ : Type} (step : σ → Option (σ ⊕ ρ)) : Nat → σ → Option ρ
  | 0, _ => none
  | k + 1, s => match step s with
    | some (.inl s') => loopN step k s'
    | some (.inr r) => some r
    | none => none
theorem loopN_mono {σ ρ : Type} (step : σ → Option (σ ⊕ ρ)) : ∀ m n, m ≤ n → ∀ s, le (loopN step m s) (loopN step n s)
  | 0, _, _, _ => le_none _
  | m + 1, 0, h, _ => by omega
  | m + 1, n + 1, h, s => by
    intro x hx
    simp only [loopN] at hx ⊢
    cases hs : step s with
    | none => rw [hs] at hx; cases hx
    | some y =>
      rw [hs] at hx
      cases y with
      | inl s' => exact loopN_mono step m n (by omega) s' x hx
      | inr r => exact hx
noncomputable def loop {σ ρ : Type} (step : σ → Option (σ ⊕ ρ)) (s : σ) : Option ρ := lim fun k => loopN step k s
theorem loop_some {σ ρ : Type} {step : σ → Option (σ ⊕ ρ)} {s : σ} {r : ρ} : loop step s = some r ↔ ∃ k, loopN step k s = some r :=
  lim_some fun m n h => loopN_mono step m n h s
theorem loop_eq {σ ρ : Type} (step : σ → Option (σ ⊕ ρ)) (s : σ) : loop step s = match step s with
    | some (.inl s') => loop step s'
    | some (.inr r) => some r
    | none => none := by
  apply Option.ext
  intro x
  show loop step s = some x ↔ _ = some x
  rw [loop_some]
  cases hs : step s with
  | none =>
    constructor
    · rintro ⟨k, hk⟩; cases k <;> simp [loopN, hs] at hk
    · intro h; cases h
  | some y =>
    cases y with
    | inl s' =>
      show _ ↔ loop step s' = some x
      rw [loop_some]
      constructor
      · rintro ⟨k, hk⟩
        cases k with
        | zero => simp [loopN] at hk
        | succ k => exact ⟨k, by simpa [loopN, hs] using hk⟩
      · rintro ⟨k, hk⟩; exact ⟨k + 1, by simpa [loopN, hs] using hk⟩
    | inr r =>
      constructor
      · rintro ⟨k, hk⟩
        cases k with
        | zero => simp [loopN] at hk
        | succ k => simpa [loopN, hs] using hk
      · intro h; exact ⟨1, by simpa [loopN, hs] using h⟩
theorem loop_ind {σ ρ : Type} (step : σ → Option (σ ⊕ ρ)) (C : σ → ρ → Prop) (h1 : ∀ s r, step s = some (.inr r) → C s r) (h2 : ∀ s s' r, step s = some (.inl s') → C s' r → C s r) : ∀ s r, loop step s = some r → C s r := by
  intro s r h
  obtain ⟨k, hk⟩ := loop_some.1 h
  clear h
  induction k generalizing s with
  | zero => simp [loopN] at hk
  | succ k ih =>
    simp only [loopN] at hk
    cases hs : step s with
    | none => rw [hs] at hk; cases hk
    | some y =>
      rw [hs] at hk
      cases y with
      | inl s' => exact h2 s s' r hs (ih s' hk)
      | inr r' => cases hk; exact h1 s r hs
end Pr
def mapE {α : Type} (e : α → D) (l : List (Str × Nat × α)) : List (D × Nat × V) := l.map fun p => (.str p.1, p.2.1, .d (e p.2.2))
theorem mapE_find0 {α : Type} (e : α → D) {k : Str} : ∀ {l : List (Str × Nat × α)}, Pr.mfind k l = none → findE (.str k) (mapE e l) = some none
  | [], _ => rfl
  | (k', c, v) :: r, h => by
    simp only [Pr.mfind] at h
    split at h
    · cases h
    · rename_i hk
      simp only [mapE, List.map_cons, findE, keyEq, hk]
      exact mapE_find0 e h
theorem mapE_find1 {α : Type} (e : α → D) {k : Str} {x : α} : ∀ {l : List (Str × Nat × α)}, Pr.mfind k l = some x → findE (.str k) (mapE e l) = some (some (.d (e x)))
  | [], h => by simp [Pr.mfind] at h
  | (k', c, v) :: r, h => by
    simp only [Pr.mfind] at h
    split at h
    · rename_i hk
      cases h
      simp only [mapE, List.map_cons, findE, keyEq, hk]
    · rename_i hk
      simp only [mapE, List.map_cons, findE, keyEq, hk]
      exact mapE_find1 e h
theorem mapE_frz {α : Type} (e : α → D) : ∀ l : List (Str × Nat × α), frzMap (mapE e l) = some (l.map (fun p => .str p.1), l.map (fun p => e p.2.2))
  | [] => rfl
  | (k, c, v) :: r => by
    have := mapE_frz e r
    simp only [mapE] at this
    simp only [mapE, List.map_cons, frzMap, this]
theorem mapE_put {α : Type} (e : α → D) {k : Str} {c : Nat} {x : α} : ∀ {l : List (Str × Nat × α)}, putE (.str k) c (.d (e x)) (mapE e l) = some (mapE e (Pr.mput k c x l))
  | [] => rfl
  | (k', c', v) :: r => by
    simp only [mapE, List.map_cons, putE, keyEq, Pr.mput]
    cases hk : k == k' with
    | true => simp only [List.map_cons]
    | false =>
      simp only [List.map_cons]
      have := mapE_put e (k := k) (c := c) (x := x) (l := r)
      simp only [mapE] at this
      rw [this]
/-- The primitives of plain functions. -/
structure Prims where
  ar : BinOp → IntKind → Int → Int → Int
  cmp : BinOp → Int → Int → Bool
  wrap : IntKind → Int → Int
  seq : Str → Str → Bool
  slt : Str → Str → Bool
  enc : Int → Str
  quo : BinOp → IntKind → Int → Int → Option Int
  shf : BinOp → IntKind → Int → Int → Option Int
  slen : Str → Int
  sidx : Str → Int → Option Int
  ssub : Str → Option Int → Option Int → Option Str
  scat : Str → Str → Option Str
  sit : Str → Nat → Option (Int × Int × Nat)
  slist : Str → Option (List Int)
  ofBytes : List Int → Str
  len : {α : Type} → List α → Int
  idx : {α : Type} → List α → Int → Option α
  sub : {α : Type} → List α → Option Int → Option Int → Option (List α)
  app : {α : Type} → Nat → List α → List α → Option (List α)
  set : {α : Type} → List α → Int → α → Option (List α)
  make : {α : Type} → Nat → α → Int → Option (List α)
  mfind : {α : Type} → Str → List (Str × Nat × α) → Option α
  mput : {α : Type} → Str → Nat → α → List (Str × Nat × α) → List (Str × Nat × α)
  loop : {σ ρ : Type} → (σ → Option (σ ⊕ ρ)) → σ → Option ρ
noncomputable def Prims.real : Prims where
  ar := intAr
  cmp := intCmp
  wrap := fun k n => k.wrap n
  seq := fun a b => a == b
  slt := fun a b => Op.bytesLess a b
  enc := fun n => (Utf8.encode n).data.toList
  quo := Pr.quo
  shf := Pr.shf
  slen := Pr.slen
  sidx := Pr.sidx
  ssub := Pr.ssub
  scat := Pr.scat
  sit := Pr.sit
  slist := Pr.slist
  ofBytes := Pr.ofBytes
  len := Pr.len
  idx := Pr.idx
  sub := Pr.sub
  app := Pr.app
  set := Pr.set
  make := Pr.make
  mfind := Pr.mfind
  mput := Pr.mput
  loop := Pr.loop
/-- What a walk may lean on. -/
structure KLaws (xR : FuncId → Option RF) (xiter : (St → Rs) → St → Rs) (xG : Nat → Option (List D)) (xcall : CallF) (xpcall : FuncId → List V → Stk → Option V) (xfcall : FuncId → List V → Stk → Option (V × Stk)) (xkcall : FuncId → List (List Nat) → List V → Stk → Option (V × Level × Stk)) (xlen : List D → Nat) (xnth : List D → Nat → Option D) (xcut : List D → Nat → Nat → List D) (xapp : List D → List D → List D) (xset : List D → Nat → D → List D) (xrep : Nat → D → List D) (xallsz : Nat → List D → Bool) (xslen : Str → Nat) (xsnth : Str → Nat → Option UInt8) (xscut : Str → Nat → Nat → Str) (xsapp : Str → Str → Str) (xseq : Str → Str → Bool) (xslt : Str → Str → Bool) (xofStr : Str → List D) (xtoStr : List D → Option Str) (xdec : Str → Nat → Nat × Nat) (xenc : Int → Str) (xar : BinOp → IntKind → Int → Int → Int) (xcmp : BinOp → Int → Int → Bool) (xwrap : IntKind → Int → Int) (xisz : Int → Bool) (xneg : Int → Bool) (xnat : Int → Nat) (xofN : Nat → Int) (xbyte : UInt8 → Int) (xnle : Nat → Nat → Bool) (xnadd : Nat → Nat → Nat) (xnsub : Nat → Nat → Nat) (xfits : Nat → Nat → Bool) (xfind : D → List (D × Nat × V) → Option (Option V)) (xputE : D → Nat → V → List (D × Nat × V) → Option (List (D × Nat × V))) (xfindK : D → List D → List D → Option (Option D)) (xelen : List (D × Nat × V) → Nat) (xfrzM : List (D × Nat × V) → Option (List D × List D)) (xsamev : V → V → Bool) (xat : AtF) (xsetO : Stk → Lab → O → Stk) (xtop : Stk → Nat) (xsame : Stk → Stk → Bool) (xmap : {α : Type} → (α → D) → List α → List D) (xmapE : {α : Type} → (α → D) → List (Str × Nat × α) → List (D × Nat × V)) (pquo : BinOp → IntKind → Int → Int → Option Int) (pshf : BinOp → IntKind → Int → Int → Option Int) (pslen : Str → Int) (psidx : Str → Int → Option Int) (pssub : Str → Option Int → Option Int → Option Str) (pscat : Str → Str → Option Str) (psit : Str → Nat → Option (Int × Int × Nat)) (pslist : Str → Option (List Int)) (pofBytes : List Int → Str) (plen : {α : Type} → List α → Int) (pidx : {α : Type} → List α → Int → Option α) (psub : {α : Type} → List α → Option Int → Option Int → Option (List α)) (papp : {α : Type} → Nat → List α → List α → Option (List α)) (pset : {α : Type} → List α → Int → α → Option (List α)) (pmake : {α : Type} → Nat → α → Int → Option (List α)) (pmfind : {α : Type} → Str → List (Str × Nat × α) → Option α) (pmput : {α : Type} → Str → Nat → α → List (Str × Nat × α) → List (Str × Nat × α)) (ploop : {σ ρ : Type} → (σ → Option (σ ⊕ ρ)) → σ → Option ρ) (xT : FuncId → Option KF) : Prop where
  at_ : ∀ f pu id ks st, xat f pu id ks st = match xT f with
    | some kf => match nthC kf.code id with
      | some c => kv ⟨xR, xG, xcall, xpcall, xfcall, xkcall, xiter, xlen, xnth, xcut, xapp, xset, xrep, xallsz, xslen, xsnth, xscut, xsapp, xseq, xslt, xofStr, xtoStr, xdec, xenc, xar, xcmp, xwrap, xisz, xneg, xnat, xofN, xbyte, xnle, xnadd, xnsub, xfits, xfind, xputE, xfindK, xelen, xfrzM, xsamev⟩ xat f pu kf.res c ks st
      | none => none
    | none => none
  same : ∀ s, xsame s s = true
  samev : ∀ v, xsamev v v = true
  neg_ : xneg = fun n => decide (n < 0)
  nat_ : xnat = fun n => n.toNat
  nle_ : xnle = fun a b => decide (a ≤ b)
  nadd_ : xnadd = fun a b => a + b
  ind : ∀ {σ ρ : Type} (step : σ → Option (σ ⊕ ρ)) (C : σ → ρ → Prop), (∀ s r, step s = some (.inr r) → C s r) → (∀ s s' r, step s = some (.inl s') → C s' r → C s r) → ∀ s r, ploop step s = some r → C s r
  map_nil : ∀ {α : Type} (e : α → D), xmap e [] = []
  map_cons : ∀ {α : Type} (e : α → D) a l, xmap e (a :: l) = e a :: xmap e l
  len : ∀ {α : Type} (e : α → D) l, xofN (xlen (xmap e l)) = plen l
  slen : ∀ s, xofN (xslen s) = pslen s
  sidx : ∀ {s i b}, psidx s i = some b → ∃ c, xneg i = false ∧ xsnth s (xnat i) = some c ∧ xbyte c = b
  ssub2 : ∀ {s a b t}, pssub s (some a) (some b) = some t → xneg a = false ∧ xneg b = false ∧ xnle (xnat a) (xnat b) = true ∧ xnle (xnat b) (xslen s) = true ∧ xscut s (xnat a) (xnat b) = t
  ssub1 : ∀ {s a t}, pssub s (some a) none = some t → xneg a = false ∧ xnle (xnat a) (xslen s) = true ∧ xnle (xslen s) (xslen s) = true ∧ xscut s (xnat a) (xslen s) = t
  ssub0 : ∀ {s b t}, pssub s none (some b) = some t → xneg b = false ∧ xnle 0 (xnat b) = true ∧ xnle (xnat b) (xslen s) = true ∧ xscut s 0 (xnat b) = t
  scat : ∀ {a b t}, pscat a b = some t → xnle (xnadd (xslen a) (xslen b)) 9223372036854775807 = true ∧ xsapp a b = t
  sit1 : ∀ {s pos i r q}, psit s pos = some (i, r, q) → xnle (xnadd pos 1) (xslen s) = true ∧ xofN pos = i ∧ xofN (xdec s pos).1 = r ∧ xnadd pos (xdec s pos).2 = q
  sit0 : ∀ {s pos}, psit s pos = none → xnle (xnadd pos 1) (xslen s) = false
  quo : ∀ {op k a b r}, pquo op k a b = some r → xisz b = false ∧ xar op k a b = r
  shf : ∀ {op k a b r}, pshf op k a b = some r → xneg b = false ∧ xar op k a b = r
  slist : ∀ (e : Int → D), (∀ n, e n = .int .u8 n) → ∀ {s l}, pslist s = some l → xfits (xslen s) 1 = true ∧ xofStr s = xmap e l ∧ xslen s = xlen (xmap e l)
  ofBytes : ∀ (e : Int → D), (∀ n, e n = .int .u8 n) → ∀ l, xtoStr (xmap e l) = some (pofBytes l)
  idx : ∀ {α : Type} (e : α → D) {l i a}, pidx l i = some a → xneg i = false ∧ xnth (xmap e l) (xnat i) = some (e a)
  idxm : ∀ {α : Type} (e : α → D) {l i} {a : α}, pidx l i = some a → xneg i = false ∧ xnle (xnadd (xnat i) 1) (xlen (xmap e l)) = true ∧ xnadd 0 (xnat i) = xnat i ∧ xnth (xmap e l) (xnat i) = some (e a)
  sub2 : ∀ {α : Type} (e : α → D) {l a b t}, psub l (some a) (some b) = some t → xneg a = false ∧ xneg b = false ∧ xnle (xnat a) (xnat b) = true ∧ xnle (xnat b) (xlen (xmap e l)) = true ∧ xcut (xmap e l) (xnat a) (xnat b) = xmap e t
  sub1 : ∀ {α : Type} (e : α → D) {l a t}, psub l (some a) none = some t → xneg a = false ∧ xnle (xnat a) (xlen (xmap e l)) = true ∧ xnle (xlen (xmap e l)) (xlen (xmap e l)) = true ∧ xcut (xmap e l) (xnat a) (xlen (xmap e l)) = xmap e t
  sub0 : ∀ {α : Type} (e : α → D) {l b t}, psub l none (some b) = some t → xneg b = false ∧ xnle 0 (xnat b) = true ∧ xnle (xnat b) (xlen (xmap e l)) = true ∧ xcut (xmap e l) 0 (xnat b) = xmap e t
  app : ∀ {α : Type} (e : α → D) {n a b c ys}, papp n a b = some c → xmap e b = ys → xfits (xlen (xmap e c)) n = true ∧ xapp (xmap e a) ys = xmap e c ∧ xnadd (xlen (xmap e a)) (xlen ys) = xlen (xmap e c)
  app0 : ∀ {α : Type} (e : α → D) {n b c ys}, papp n ([] : List α) b = some c → xmap e b = ys → xfits (xlen ys) n = true ∧ ys = xmap e c ∧ xlen ys = xlen (xmap e c)
  set_ : ∀ {α : Type} (e : α → D) {l i a t}, pset l i a = some t → xneg i = false ∧ xnle (xnadd (xnat i) 1) (xlen (xmap e l)) = true ∧ xnadd 0 (xnat i) = xnat i ∧ (∃ y, xnth (xmap e l) (xnat i) = some (e y)) ∧ xset (xmap e l) (xnat i) (e a) = xmap e t ∧ xlen (xmap e t) = xlen (xmap e l)
  make : ∀ {α : Type} (e : α → D) {n z i t}, pmake n z i = some t → xneg i = false ∧ xnle (xnat i) (xnat i) = true ∧ xfits (xnat i) n = true ∧ xrep (xnat i) (e z) = xmap e t ∧ xnat i = xlen (xmap e t)
  allsz : ∀ {α : Type} (e : α → D) n, (∀ a, (e a).flat = true ∧ (e a).cells.length = n) → ∀ l, xallsz n (xmap e l) = true
  mapE_nil : ∀ {α : Type} (e : α → D), xmapE e [] = []
  mfind0 : ∀ {α : Type} (e : α → D) {k l}, pmfind k l = none → xfind (.str k) (xmapE e l) = some none
  mfind1 : ∀ {α : Type} (e : α → D) {k l} {v : α}, pmfind k l = some v → xfind (.str k) (xmapE e l) = some (some (.d (e v)))
  mput : ∀ {α : Type} (e : α → D) (k : Str) (c : Nat) (v : α) l {d}, e v = d → xputE (.str k) c (.d d) (xmapE e l) = some (xmapE e (pmput k c v l))
  frzM : ∀ {α : Type} (e : α → D) l, xfrzM (xmapE e l) = some (l.map (fun p => .str p.1), l.map (fun p => e p.2.2))
  frzM0 : xfrzM [] = some ([], [])
  melen : ∀ {α : Type} (e : α → D) l, xofN (xelen (xmapE e l)) = plen l
  allsz_nil : ∀ n, xallsz n [] = true
  allsz_cons : ∀ n y l, xallsz n (y :: l) = ((y.flat && decide (y.cells.length = n)) && xallsz n l)
  cut_all : ∀ xs, xcut xs 0 (xlen xs) = xs
  cut_nil : ∀ a b, xcut [] a b = []
  nle_refl : ∀ n, xnle n n = true
  nadd0 : ∀ n, xnadd 0 n = n
  lenEq : ∀ {α : Type} (e : α → D) {a b : List α}, xcmp .eql (plen a) (plen b) = true → xlen (xmap e a) = xlen (xmap e b)
  len_nil : xlen [] = 0
  ofN0 : xofN 0 = 0
  ar : xar = intAr
  cmp : xcmp = intCmp
  gb : ∀ {n m : Nat} {k : List Nat}, n < m → ∀ (os : List (List Nat × O)) (s : Stk), getO (⟨m, os⟩ :: s) ⟨n, k⟩ = getO s ⟨n, k⟩
  gt : ∀ (m : Nat) (os : List (List Nat × O)) (s : Stk) (k : List Nat), getO (⟨m, os⟩ :: s) ⟨m, k⟩ = getK k os
  gs : ∀ {s : Stk} {l : Lab} {x : O}, getO s l = some x → ∀ o, getO (xsetO s l o) l = some o
  gn : ∀ {l l' : Lab}, l ≠ l' → ∀ (s : Stk) (o : O), getO (xsetO s l' o) l = getO s l
  so : ∀ (s : Stk) (l : Lab) (a b : O), xsetO (xsetO s l a) l b = xsetO s l b
  sc : ∀ {l l' : Lab}, l ≠ l' → ∀ (s : Stk) (a b : O), xsetO (xsetO s l' a) l b = xsetO (xsetO s l b) l' a
  ss : ∀ {s : Stk} {l : Lab} {o : O}, getO s l = some o → xsetO s l o = s
  st_ : ∀ (m : Nat) (os : List (List Nat × O)) (s : Stk) (k : List Nat) (o : O), xsetO (⟨m, os⟩ :: s) ⟨m, k⟩ o = ⟨m, putK k o os⟩ :: s
  sb_ : ∀ {n m : Nat} {k : List Nat}, n < m → ∀ (os : List (List Nat × O)) (s : Stk) (o : O), xsetO (⟨m, os⟩ :: s) ⟨n, k⟩ o = ⟨m, os⟩ :: xsetO s ⟨n, k⟩ o
  set_o : ∀ (s : Stk) (l : Lab) (o : O), setO s l o = xsetO s l o
  dl : ∀ {n m : Nat} {k k' : List Nat}, n < m → (⟨n, k⟩ : Lab) ≠ ⟨m, k'⟩
  do_ : ∀ {m : Nat} {k k' : List Nat}, k ≠ k' → (⟨m, k⟩ : Lab) ≠ ⟨m, k'⟩
theorem sameStk_self (s : Stk) : sameStk s s = true := by unfold sameStk; simp
theorem sameV_self (v : V) : sameV v v = true := by unfold sameV; simp
theorem Pr.bnd_some {n : Int} {d k : Nat} (h : Pr.bnd (some n) d = some k) : ¬ n < 0 ∧ n.toNat = k := by
  simp only [Pr.bnd] at h
  split at h <;> simp_all
theorem Pr.cutB_some {α : Type} {xs t : List α} {l h : Option Nat} (e : Pr.cutB xs l h = some t) : ∃ a b, l = some a ∧ h = some b ∧ a ≤ b ∧ b ≤ xs.length ∧ (xs.take b).drop a = t := by
  unfold Pr.cutB at e
  split at e <;> try (cases e; done)
  rename_i a b
  split at e <;> try (cases e; done)
  rename_i h1
  split at e <;> try (cases e; done)
  rename_i h2
  cases e
  exact ⟨a, b, rfl, rfl, h1, h2, rfl⟩
theorem map_cut {α : Type} (e : α → D) (l : List α) (a b : Nat) : ((l.map e).take b).drop a = ((l.take b).drop a).map e := by simp [List.map_take, List.map_drop]
theorem bytesOf_map (l : List Int) : bytesOf (l.map fun n => .int .u8 n) = some (Pr.ofBytes l) := by
  induction l with
  | nil => rfl
  | cons n r ih => simp only [List.map_cons, bytesOf, ih, Pr.ofBytes]
section
variable {T : FuncId → Option KF} {G : Nat → Option (List D)}
set_option maxHeartbeats 1000000 in
theorem KLaws.real (hT : ∀ f kf, T f = some kf → kf.ok = true) : KLaws (oldT T) iterW G (callW (oldT T) G) (sysW T G).pcall (sysW T G).fcall (sysW T G).kcall (List.length) (fun xs i => xs[i]?) (fun xs lo hi => (xs.take hi).drop lo) (fun xs ys => xs ++ ys) (fun xs i x => xs.set i x) (fun n x => List.replicate n x) (allSz) (List.length) (fun s i => s[i]?) (fun s lo hi => (s.take hi).drop lo) (fun a b => a ++ b) (fun a b => a == b) (fun a b => Op.bytesLess a b) (fun s => s.map fun b => .int .u8 b.toNat) (bytesOf) (fun s i => Utf8.decode ⟨⟨s⟩⟩ i) (fun n => (Utf8.encode n).data.toList) (intAr) (intCmp) (fun k n => k.wrap n) (fun n => decide (n = 0)) (fun n => decide (n < 0)) (fun n => n.toNat) (fun (n : Nat) => (n : Int)) (fun (b : UInt8) => (b.toNat : Int)) (fun a b => decide (a ≤ b)) (fun a b => a + b) (fun a b => a - b) (fun n b => decide (n * b ≤ room ∧ n ≤ room)) (findE) (Go.Abs.putE) (Go.Abs.findK) (List.length) (frzMap) (sameV) (atW T G) setO (fun s => topN s + 1) sameStk (fun {_} e l => List.map e l) (fun {_} e l => mapE e l) Pr.quo Pr.shf Pr.slen Pr.sidx Pr.ssub Pr.scat Pr.sit Pr.slist Pr.ofBytes @Pr.len @Pr.idx @Pr.sub @Pr.app @Pr.set @Pr.make @Pr.mfind @Pr.mput @Pr.loop T where
  at_ := at_eq hT
  same := sameStk_self
  samev := sameV_self
  neg_ := rfl
  nat_ := rfl
  nle_ := rfl
  nadd_ := rfl
  ind := Pr.loop_ind
  map_nil e := rfl
  map_cons e a l := rfl
  len e l := by simp [Pr.len]
  slen s := rfl
  sidx {s i b} h := by
    simp only [Pr.sidx] at h
    split at h <;> try (cases h; done)
    rename_i hi
    cases hc : s[i.toNat]? with
    | none => simp [hc] at h
    | some c => simp [hc] at h; exact ⟨c, by simpa using hi, rfl, h⟩
  ssub2 {s a b t} h := by
    obtain ⟨x, y, h1, h2, h3, h4, h5⟩ := Pr.cutB_some h
    obtain ⟨g1, rfl⟩ := Pr.bnd_some h1
    obtain ⟨g2, rfl⟩ := Pr.bnd_some h2
    exact ⟨by simpa using g1, by simpa using g2, by simpa using h3, by simpa using h4, h5⟩
  ssub1 {s a t} h := by
    obtain ⟨x, y, h1, h2, h3, h4, h5⟩ := Pr.cutB_some h
    obtain ⟨g1, rfl⟩ := Pr.bnd_some h1
    cases h2
    exact ⟨by simpa using g1, by simpa using h3, by simp, h5⟩
  ssub0 {s b t} h := by
    obtain ⟨x, y, h1, h2, h3, h4, h5⟩ := Pr.cutB_some h
    obtain ⟨g2, rfl⟩ := Pr.bnd_some h2
    cases h1
    exact ⟨by simpa using g2, by simp, by simpa using h4, h5⟩
  scat {a b t} h := by
    simp only [Pr.scat] at h
    split at h <;> try (cases h; done)
    rename_i hc
    cases h
    exact ⟨by simpa using hc, rfl⟩
  sit1 {s pos i r q} h := by
    simp only [Pr.sit] at h
    split at h <;> try (cases h; done)
    rename_i hc
    cases h
    exact ⟨by simpa using hc, rfl, rfl, rfl⟩
  sit0 {s pos} h := by
    simp only [Pr.sit] at h
    split at h <;> try (cases h; done)
    rename_i hc
    simpa using hc
  quo {op k a b r} h := by
    simp only [Pr.quo] at h
    split at h <;> try (cases h; done)
    rename_i hc
    cases h
    exact ⟨by simpa using hc, rfl⟩
  shf {op k a b r} h := by
    simp only [Pr.shf] at h
    split at h <;> try (cases h; done)
    rename_i hc
    cases h
    exact ⟨by simpa using hc, rfl⟩
  slist e he {s l} h := by
    have : e = fun n => .int .u8 n := funext he
    subst this
    simp only [Pr.slist] at h
    split at h <;> try (cases h; done)
    rename_i hc
    cases h
    refine ⟨by simpa [Pr.fit] using hc, ?_, ?_⟩
    · simp [List.map_map, Function.comp_def]
    · simp
  ofBytes e he l := by
    have : e = fun n => .int .u8 n := funext he
    subst this
    exact bytesOf_map l
  idx {α} e {l i a} h := by
    simp only [Pr.idx] at h
    split at h <;> try (cases h; done)
    rename_i hi
    exact ⟨by simpa using hi, by simp [h]⟩
  idxm {α} e {l i a} h := by
    simp only [Pr.idx] at h
    split at h <;> try (cases h; done)
    rename_i hi
    have := (List.getElem?_eq_some_iff.1 h).1
    exact ⟨by simpa using hi, by simp; omega, by simp, by simp [h]⟩
  sub2 {α} e {s a b t} h := by
    obtain ⟨x, y, h1, h2, h3, h4, h5⟩ := Pr.cutB_some h
    obtain ⟨g1, rfl⟩ := Pr.bnd_some h1
    obtain ⟨g2, rfl⟩ := Pr.bnd_some h2
    exact ⟨by simpa using g1, by simpa using g2, by simpa using h3, by simpa using h4, by rw [map_cut, h5]⟩
  sub1 {α} e {s a t} h := by
    obtain ⟨x, y, h1, h2, h3, h4, h5⟩ := Pr.cutB_some h
    obtain ⟨g1, rfl⟩ := Pr.bnd_some h1
    cases h2
    exact ⟨by simpa using g1, by simpa using h3, by simp, by simp only [List.length_map]; rw [map_cut, h5]⟩
  sub0 {α} e {s b t} h := by
    obtain ⟨x, y, h1, h2, h3, h4, h5⟩ := Pr.cutB_some h
    obtain ⟨g2, rfl⟩ := Pr.bnd_some h2
    cases h1
    exact ⟨by simpa using g2, by simp, by simpa using h4, by rw [map_cut, h5]⟩
  app {α} e {n a b c ys} h hy := by
    subst hy
    simp only [Pr.app] at h
    split at h <;> try (cases h; done)
    rename_i hc
    cases h
    exact ⟨by simpa [Pr.fit] using hc, by simp, by simp⟩
  app0 {α} e {n b c ys} h hy := by
    subst hy
    simp only [Pr.app] at h
    split at h <;> try (cases h; done)
    rename_i hc
    cases h
    exact ⟨by simpa [Pr.fit] using hc, by simp, by simp⟩
  set_ {α} e {l i a t} h := by
    simp only [Pr.set] at h
    split at h <;> try (cases h; done)
    rename_i hi
    split at h <;> try (cases h; done)
    rename_i hl
    cases h
    exact ⟨by simpa using hi, by simp; omega, by simp, ⟨l[i.toNat], by simp [hl]⟩, by simp, by simp⟩
  make {α} e {n z i t} h := by
    simp only [Pr.make] at h
    split at h <;> try (cases h; done)
    rename_i hi
    split at h <;> try (cases h; done)
    rename_i hf
    cases h
    exact ⟨by simpa using hi, by simp, by simpa [Pr.fit] using hf, by simp, by simp⟩
  allsz {α} e n h l := by
    simp only [allSz, List.all_eq_true]
    intro x hx
    obtain ⟨a, _, rfl⟩ := List.mem_map.1 hx
    simp [h a]
  mapE_nil e := rfl
  mfind0 {α} e {k l} h := mapE_find0 e h
  mfind1 {α} e {k l v} h := mapE_find1 e h
  mput {α} e k c v l {d} h := by subst h; exact mapE_put e
  frzM {α} e l := mapE_frz e l
  frzM0 := rfl
  melen e l := by simp [Pr.len, mapE]
  allsz_nil n := rfl
  allsz_cons n y l := rfl
  cut_all xs := by simp
  cut_nil a b := by simp
  nle_refl n := by simp
  nadd0 n := by simp
  lenEq {α} e {a b} h := by
    have h' : (Pr.len a == Pr.len b) = true := h
    simp only [Pr.len, beq_iff_eq] at h'
    simp only [List.length_map]
    omega
  len_nil := rfl
  ofN0 := rfl
  ar := rfl
  cmp := rfl
  gb {n m k} h os s := if_neg (Nat.ne_of_lt h)
  gt m os s k := if_pos rfl
  gs h o := getO_set_same h
  gn h s o := getO_set_ne h
  so := setO_over
  sc h s a b := setO_swap h s a b
  ss := setO_self
  st_ m os s k o := if_pos rfl
  sb_ {n m k} h os s o := if_neg (Nat.ne_of_lt h)
  set_o s l o := rfl
  dl {n m k k'} h e := by cases e; exact Nat.lt_irrefl _ h
  do_ {m k k'} h e := h (by cases e; rfl)
theorem pcall_of {f : FuncId} {kf : KF} {vs : List V} {stk : Stk} {d : D} (hf : T f = some kf) (hx : kf.ext = none) (h : atW T G f .frz 0 [] ⟨frame 0 vs, ⟨topN stk + 1, []⟩ :: stk⟩ = some (.ret (.d d), stk)) (hh : kf.hnd = none := by rfl) : (sysW T G).pcall f vs stk = some (.d d) := by
  rw [pcallW_at f vs stk (fun kf' e h he => by rw [hf] at h; cases h; rw [hx] at he; cases he) (fun kf' h => by rw [hf] at h; cases h; exact hh), hf]
  simp only [hx]
  show (match atW T G f .frz 0 [] ⟨frame 0 vs, ⟨topN stk + 1, []⟩ :: stk⟩ with
    | some (.ret v, s) => match sameStk s stk with
      | true => some v
      | false => none
    | _ => none) = _
  rw [h]
  simp only [sameStk_self]
theorem fcall_of {f : FuncId} {kf : KF} {vs : List V} {stk s' : Stk} {d : D} (hf : T f = some kf) (hx : kf.ext = none) (h : atW T G f .frz 0 [] ⟨frame 0 vs, ⟨topN stk + 1, []⟩ :: stk⟩ = some (.ret (.d d), s')) (hh : kf.hnd = none := by rfl) : (sysW T G).fcall f vs stk = some (.d d, s') := by
  rw [fcallW_at f (fun kf' h => by rw [hf] at h; cases h; exact ⟨hx, hh⟩) vs stk]
  show (match atW T G f .frz 0 [] ⟨frame 0 vs, ⟨topN stk + 1, []⟩ :: stk⟩ with
    | some (.ret v, s) => some (v, s)
    | some (.pan x, s) => some (.tup [.dead, .d x], s)
    | none => none) = _
  rw [h]
theorem fcall_pan {f : FuncId} {kf : KF} {vs : List V} {stk s' : Stk} {x : D} (hf : T f = some kf) (hx : kf.ext = none) (h : atW T G f .frz 0 [] ⟨frame 0 vs, ⟨topN stk + 1, []⟩ :: stk⟩ = some (.pan x, s')) (hh : kf.hnd = none := by rfl) : (sysW T G).fcall f vs stk = some (.tup [.dead, .d x], s') := by
  rw [fcallW_at f (fun kf' h => by rw [hf] at h; cases h; exact ⟨hx, hh⟩) vs stk]
  show (match atW T G f .frz 0 [] ⟨frame 0 vs, ⟨topN stk + 1, []⟩ :: stk⟩ with
    | some (.ret v, s) => some (v, s)
    | some (.pan x, s) => some (.tup [.dead, .d x], s)
    | none => none) = _
  rw [h]
theorem fcall_hnd {f : FuncId} {kf : KF} {tr : Nat} {x : D} {cs : List V} {stk s' : Stk} {d : D} (hf : T f = some kf) (hx : kf.ext = none) (hh : kf.hnd = some tr) (h : atW T G f .frz 0 [] ⟨(tr, .d x) :: frame 0 cs, ⟨topN stk + 1, []⟩ :: stk⟩ = some (.ret (.d d), s')) : (sysW T G).fcall f (.d x :: cs) stk = some (.d d, s') := by
  rw [fcallW_fr f _ stk _ (callW_hnd hf hx hh x cs stk)]
  show (match atW T G f .frz 0 [] ⟨(tr, .d x) :: frame 0 cs, ⟨topN stk + 1, []⟩ :: stk⟩ with
    | some (.ret v, s) => some (v, s)
    | some (.pan x, s) => some (.tup [.dead, .d x], s)
    | none => none) = _
  rw [h]
theorem pf_of {f : FuncId} {kf : KF} {vs : List V} {stk : Stk} {d : D} (hf : T f = some kf) (hx : kf.ext = none) (h : atW T G f .frz 0 [] ⟨frame 0 vs, ⟨topN stk + 1, []⟩ :: stk⟩ = some (.ret (.d d), stk)) (hh : kf.hnd = none := by rfl) :
    (sysW T G).pcall f vs stk = some (.d d) ∧ (sysW T G).fcall f vs stk = some (.d d, stk) := ⟨pcall_of hf hx h hh, fcall_of hf hx h hh⟩
theorem fcall_ext {f : FuncId} {kf : KF} {e : List V → Option D} {vs : List V} {d : D} (hf : T f = some kf) (hx : kf.ext = some (.pure e)) (h : e vs = some d) (stk : Stk) : (sysW T G).fcall f vs stk = some (.d d, stk) := by
  show fcallOf (Sys.real0 (oldT T) G (callW (oldT T) G) iterW) (callW (oldT T) G) f vs stk = _
  unfold fcallOf
  rw [callW_eq]
  simp only [oldT, hf, evFn, eraseF, hx, h, push, freeze]
theorem kcall_of {f : FuncId} {ks : List (List Nat)} {kf : KF} {vs : List V} {stk s' : Stk} {v : V} {c : Level} (hf : T f = some kf) (hx : kf.ext = none) (h : atW T G f (.keep ks) 0 [] ⟨frame 0 vs, ⟨topN stk + 1, []⟩ :: stk⟩ = some (.ret v, c :: s')) (hh : kf.hnd = none := by rfl) : (sysW T G).kcall f ks vs stk = some (v, c, s') := by
  rw [kcallW_at f ks (fun kf' h => by rw [hf] at h; cases h; exact ⟨hx, hh⟩) vs stk]
  show (match atW T G f (.keep ks) 0 [] ⟨frame 0 vs, ⟨topN stk + 1, []⟩ :: stk⟩ with
    | some (.ret v, c :: s) => some (v, c, s)
    | _ => none) = _
  rw [h]
theorem pcall_ext {f : FuncId} {kf : KF} {e : List V → Option D} {vs : List V} {d : D} (hf : T f = some kf) (hx : kf.ext = some (.pure e)) (h : e vs = some d) (stk : Stk) (hh : kf.hnd = none := by rfl) : (sysW T G).pcall f vs stk = some (.d d) := by
  rw [pcallW_at f vs stk (fun kf' e' h he => by rw [hf] at h; cases h; rw [hx] at he; cases he) (fun kf' h => by rw [hf] at h; cases h; exact hh), hf]
  simp only [hx, h]
end
end Go.Abs
