import Derived.Calls
import Derived.Orders
/-! The abstract interpreter: data without memory, objects that are written, and what the operations do to them. -/
namespace Go.Abs
abbrev Str := List UInt8

/-- Data that nobody writes any more. -/
inductive D where
  | any
  | bool (b : Bool)
  | int (k : IntKind) (n : Int)
  | float (k : FloatKind) (bits : Nat)
  | str (s : Str)
  | agg (cs : List D)
  | tup (vs : List D)
  | nilp
  | iptr (cs : List D)
  | sl (xs : List D)
  | nils
  | nilmap
  | map (ks vs : List D)
  | func (fn : Fn) (first cap : List D)
  | nilf
  | iface (t : TypeId) (v : D)
  | nili
  deriving Inhabited

/-- A label: the level's number, and a key in it. -/
structure Lab where
  lv : Nat
  key : List Nat
  deriving DecidableEq, Inhabited

inductive V where
  | dead
  | d (x : D)
  | agg (cs : List V)
  | tup (vs : List V)
  | ref (l : Lab) (off : Nat)
  | eref (l : Lab) (gen i off : Nat)
  | msl (l : Lab) (gen off len : Nat)
  | map (l : Lab)
  | clos (fn : Fn) (first cap : List V)
  | iface (t : TypeId) (v : V)
  deriving Inhabited

/-- An object that is written. -/
inductive O where
  | cells (cs : List V)
  | arr (gen esz : Nat) (xs : List D)
  | map (clock : Nat) (es : List (D × Nat × V))
  | siter (s : Str) (pos : Nat)
  | bld (ty : Nat) (used : Bool) (v : V)
  | hid (te gen : Nat) (s : Str)
  deriving Inhabited

structure Level where
  n : Nat
  os : List (List Nat × O)
  deriving Inhabited
abbrev Stk := List Level
abbrev Fr := List (Nat × V)

def getK (k : List Nat) : List (List Nat × O) → Option O
  | [] => none
  | (k', o) :: r => if k = k' then some o else getK k r
def putK (k : List Nat) (o : O) : List (List Nat × O) → List (List Nat × O)
  | [] => []
  | (k', o') :: r => if k = k' then (k, o) :: r else (k', o') :: putK k o r
def getO : Stk → Lab → Option O
  | [], _ => none
  | c :: s, l => if l.lv = c.n then getK l.key c.os else getO s l
def setO : Stk → Lab → O → Stk
  | [], _, _ => []
  | c :: s, l, o => if l.lv = c.n then ⟨c.n, putK l.key o c.os⟩ :: s else c :: setO s l o
def Fr.get (n : Nat) : Fr → V
  | [] => .dead
  | (m, v) :: r => if n = m then v else Fr.get n r
def Fr.put (dst : Option Nat) (v : V) (fr : Fr) : Fr :=
  match dst with
  | some n => (n, v) :: fr
  | none => fr

def D.cells : D → List D
  | .agg cs => cs
  | x => [x]
def V.cells : V → List V
  | .agg cs => cs
  | .d x => x.cells.map .d
  | v => [v]
/-- What can lie in cells. -/
def D.flat : D → Bool
  | .tup _ => false
  | _ => true
def V.flat : V → Bool
  | .dead | .tup _ => false
  | .d x => x.flat
  | _ => true
def allD : List V → Option (List D)
  | [] => some []
  | .d x :: r => match allD r with
    | some l => some (x :: l)
    | none => none
  | _ :: _ => none
def mkAgg (cs : List V) : V := match allD cs with
  | some l => .d (.agg l)
  | none => .agg cs
def mkTup (cs : List V) : V := match allD cs with
  | some l => .d (.tup l)
  | none => .tup cs
def mkIface (t : TypeId) : V → V
  | .d x => .d (.iface t x)
  | v => .iface t v
def mkFunc (fn : Fn) (a b : List V) : V := match allD a, allD b with
  | some x, some y => .d (.func fn x y)
  | _, _ => .clos fn a b

/-- At most: asked so that a number and itself is told at once. -/
def leN (a b : Nat) : Bool := if a = b then true else decide (a < b)

mutual
/-- Is no label in it above a level? -/
def V.upto (n : Nat) : V → Bool
  | .dead | .d _ => true
  | .agg cs | .tup cs => uptoL n cs
  | .ref l _ | .eref l _ _ _ | .msl l _ _ _ | .map l => leN l.lv n
  | .clos _ a b => uptoL n a && uptoL n b
  | .iface _ v => V.upto n v
def uptoL (n : Nat) : List V → Bool
  | [] => true
  | v :: r => V.upto n v && uptoL n r
end
def hasKey (k : List Nat) : List (List Nat) → Bool
  | [] => false
  | k' :: r => if k = k' then true else hasKey k r
def distinct : List (List Nat) → Bool
  | [] => true
  | k :: r => !hasKey k r && distinct r
mutual
/-- Is each label of a level in it one of those keys? -/
def V.within (n : Nat) (ks : List (List Nat)) : V → Bool
  | .dead | .d _ => true
  | .agg cs | .tup cs => withinL n ks cs
  | .ref l _ | .eref l _ _ _ | .msl l _ _ _ | .map l => if l.lv = n then hasKey l.key ks else true
  | .clos _ a b => withinL n ks a && withinL n ks b
  | .iface _ v => V.within n ks v
def withinL (n : Nat) (ks : List (List Nat)) : List V → Bool
  | [] => true
  | v :: r => V.within n ks v && withinL n ks r
end
def Lab.adopt (m n t : Nat) (l : Lab) : Lab := if l.lv = m then ⟨n, t :: l.key⟩ else l
mutual
/-- The labels of level m moved to level n, their keys behind a number. -/
def V.adopt (m n t : Nat) : V → V
  | .dead => .dead
  | .d x => .d x
  | .agg cs => .agg (adoptL m n t cs)
  | .tup cs => .tup (adoptL m n t cs)
  | .ref l o => .ref (l.adopt m n t) o
  | .eref l g i o => .eref (l.adopt m n t) g i o
  | .msl l g o k => .msl (l.adopt m n t) g o k
  | .map l => .map (l.adopt m n t)
  | .clos f a b => .clos f (adoptL m n t a) (adoptL m n t b)
  | .iface ty v => .iface ty (V.adopt m n t v)
def adoptL (m n t : Nat) : List V → List V
  | [] => []
  | v :: r => V.adopt m n t v :: adoptL m n t r
end
def mapVals (es : List (D × Nat × V)) : List V := es.map (·.2.2)
def O.vals : O → List V
  | .cells cs => cs
  | .arr .. => []
  | .map _ es => mapVals es
  | .siter .. => []
  | .bld _ _ v => [v]
  | .hid .. => []
def O.adopt (m n t : Nat) : O → O
  | .cells cs => .cells (adoptL m n t cs)
  | .map c es => .map c (es.map fun e => (e.1, e.2.1, V.adopt m n t e.2.2))
  | .bld ty u v => .bld ty u (V.adopt m n t v)
  | o => o

/-! ## The code -/
inductive Opd where
  | t (n : Nat)
  | c (x : D)
  | g (n : Nat)
  | f (n : FuncId)
  deriving Inhabited
/-- What becomes of the callee's objects: frozen; or kept, under these keys. -/
inductive Mode where
  | frz
  | pur
  | eff
  | own (ks : List (List Nat))
  | keep (ks : List (List Nat))
  deriving Inhabited
inductive CK where
  | int (k : IntKind)
  | same
  | bytes
  | ofBytes
  | ofRune
  | flt
  deriving Inhabited
/-- What is held against each other. -/
inductive SK where
  | int | str | bool
  deriving DecidableEq, Inhabited
inductive LK where
  | str | sl | map
  deriving DecidableEq, Inhabited
inductive EK where
  | bool | ptr | slice | func | iface
  | struct (ks : List SK)
  deriving Inhabited
inductive R where
  | move (x : Opd)
  | pick (c a b : Opd)
  | alloc (z : List D)
  | allocv (z : List D) (vs : List (Nat × Nat))
  | vnil (esz : Nat)
  | vcut (esz : Nat) (x : Opd)
  | bnew (ty te : Nat)
  | box (x : Opd)
  | ibox (x : Opd)
  | build (z : List D) (ps : List (Nat × Nat × Opd))
  | lit (esz : Nat) (ps : List Opd)
  | ilit (esz : Nat) (ps : List Opd)
  | load (agg : Bool) (sz : Nat) (a : Opd)
  | store (sz : Nat) (a x : Opd)
  | nilCheck (x : Opd)
  | bin (op : BinOp) (x y : Opd)
  | eq (neg : Bool) (k : EK) (x y : Opd)
  | un (op : UnOp) (x : Opd)
  | conv (k : CK) (x : Opd)
  | mkI (t : TypeId) (x : Opd)
  | mkF (fn : Fn) (a b : List Opd)
  | mkMap
  | mkSl (esz bytes : Nat) (z : D) (l c : Opd)
  | slice (esz : Nat) (x : Opd) (lo hi : Option Opd)
  | faddr (off : Nat) (x : Opd)
  | fld (agg : Bool) (off sz : Nat) (x : Opd)
  | iaddr (esz : Nat) (x i : Opd)
  | aaddr (len esz : Nat) (x i : Opd)
  | idx (x i : Opd)
  | lookup (sk : SK) (z : D) (ok : Bool) (m k : Opd)
  | mapUpd (sk : SK) (m k x : Opd)
  | range (x : Opd)
  | next (it : Opd)
  | tassert (z : D) (t : TypeId) (ok : Bool) (x : Opd)
  | tasp (ta t : TypeId) (x : Opd)
  | extract (x : Opd) (i : Nat)
  | call (m : Mode) (f : FuncId) (as : List Opd)
  | callv (m : Mode) (x : Opd) (as : List Opd)
  | app (esz bytes : Nat) (s x : Opd)
  | len (k : LK) (x : Opd)
  | mm (isMax : Bool) (xs : List Opd)
  | panic (x : Opd)
  | bad
  deriving Inhabited
structure ROp where
  dst : Option Nat
  g : Option (Nat × Bool) := none
  r : R
  deriving Inhabited
/-- What is taken otherwise, with nothing done: a nil slice in a cell, as an array without room. -/
inductive Adj where
  | virt (key : List Nat) (off esz : Nat) (new : List Nat)
  | frz (key : List Nat) (off : Nat) (K : List Nat) (slots : List Nat) (keys : List (List Nat))
  | frzs (slot : Nat) (K : List Nat) (slots : List Nat) (keys : List (List Nat))
  deriving Inhabited
inductive C where
  | skip
  | reg (ops : List ROp)
  | dreg (free tail : List ROp)
  | dpan (free : List ROp) (k : Nat) (tail : List ROp)
  | seq (a b : C)
  | cond (c : Opd) (a b : C)
  | block (id : Nat) (c : C)
  | loop (c : C)
  | exit (id : Nat)
  | ret
  | tidy (slots : List Nat) (keys : List (List Nat)) (c : C)
  | adj (a : Adj) (c : C)
  | bad
  deriving Inhabited
inductive RRes where
  | tmp (t : Nat)
  | tmps (t : Nat)
  | cell (t : Nat) (agg : Bool) (sz : Nat)
  | grd (h : FuncId) (cs : List Nat) (as : List Adj)
  deriving Inhabited
/-- What is left to a contract of its own: data of data; or what becomes of the objects, too. -/
inductive Ext where
  | pure (e : List V → Option D)
  | eff (e : List V → Stk → Option (V × Stk))
structure RF where
  body : C
  res : List RRes
  np : Nat
  ext : Option Ext := none
  hnd : Option Nat := none
  deriving Inhabited

/-! ## What the operations do -/
inductive Res where
  | val (v : V) (s : Stk)
  | pan (x : D) (s : Stk)
inductive Out where
  | ret (v : V)
  | pan (x : D)
inductive Ex where
  | normal
  | exit (id : Nat)
  | ret
  | pan (x : D)
structure St where
  fr : Fr
  stk : Stk
abbrev Rs := Option (Ex × St)
/-- A call: the function, its arguments, the stack, the number of the new level. -/
abbrev CallF := FuncId → List V → Stk → Option (Out × Stk)

/-- What is asked of lists, texts, numbers, and of other functions: behind a structure, so that evaluation leaves it as it stands. -/
structure Sys where
  R : FuncId → Option RF
  G : Nat → Option (List D)
  call : CallF
  pcall : FuncId → List V → Stk → Option V
  fcall : FuncId → List V → Stk → Option (V × Stk)
  kcall : FuncId → List (List Nat) → List V → Stk → Option (V × Level × Stk)
  iter : (St → Rs) → St → Rs
  len : List D → Nat
  nth : List D → Nat → Option D
  cut : List D → Nat → Nat → List D
  app : List D → List D → List D
  set : List D → Nat → D → List D
  rep : Nat → D → List D
  allsz : Nat → List D → Bool
  slen : Str → Nat
  snth : Str → Nat → Option UInt8
  scut : Str → Nat → Nat → Str
  sapp : Str → Str → Str
  seq : Str → Str → Bool
  slt : Str → Str → Bool
  ofStr : Str → List D
  toStr : List D → Option Str
  dec : Str → Nat → Nat × Nat
  enc : Int → Str
  ar : BinOp → IntKind → Int → Int → Int
  cmp : BinOp → Int → Int → Bool
  wrap : IntKind → Int → Int
  isz : Int → Bool
  neg : Int → Bool
  nat : Int → Nat
  ofN : Nat → Int
  byte : UInt8 → Int
  nle : Nat → Nat → Bool
  nadd : Nat → Nat → Nat
  nsub : Nat → Nat → Nat
  fits : Nat → Nat → Bool
  find : D → List (D × Nat × V) → Option (Option V)
  putE : D → Nat → V → List (D × Nat × V) → Option (List (D × Nat × V))
  findK : D → List D → List D → Option (Option D)
  elen : List (D × Nat × V) → Nat
  frzM : List (D × Nat × V) → Option (List D × List D)
  samev : V → V → Bool

/-- The bound of what grows. -/
def room : Nat := 140737488355328

def intAr (op : BinOp) (k : IntKind) (a b : Int) : Int :=
  match op with
  | .add => k.wrap (a + b)
  | .sub => k.wrap (a - b)
  | .mul => k.wrap (a * b)
  | .quo => k.wrap (a.tdiv b)
  | .rem => a.tmod b
  | .and => k.wrap (BitVec.ofInt k.bits a &&& BitVec.ofInt k.bits b).toNat
  | .or => k.wrap (BitVec.ofInt k.bits a ||| BitVec.ofInt k.bits b).toNat
  | .xor => k.wrap (BitVec.ofInt k.bits a ^^^ BitVec.ofInt k.bits b).toNat
  | .andNot => k.wrap (BitVec.ofInt k.bits a &&& ~~~BitVec.ofInt k.bits b).toNat
  | .shl => k.wrap (a * 2 ^ (min b.toNat k.bits))
  | .shr => a.fdiv (2 ^ (min b.toNat k.bits))
  | _ => 0
def intCmp (op : BinOp) (a b : Int) : Bool :=
  match op with
  | .eql => a == b
  | .neq => a != b
  | .lss => decide (a < b)
  | .leq => decide (a ≤ b)
  | .gtr => decide (a > b)
  | .geq => decide (a ≥ b)
  | _ => false
def bytesOf : List D → Option Str
  | [] => some []
  | .int .u8 n :: r => match bytesOf r with
    | some l => some (UInt8.ofNat n.toNat :: l)
    | none => none
  | _ :: _ => none
def keyEq : D → D → Option Bool
  | .int k a, .int k' b => if k = k' then some (a == b) else none
  | .str a, .str b => some (a == b)
  | .bool a, .bool b => some (a == b)
  | _, _ => none
def findE (k : D) : List (D × Nat × V) → Option (Option V)
  | [] => some none
  | e :: r => match keyEq k e.1 with
    | some true => some (some e.2.2)
    | some false => findE k r
    | none => none
def findK (k : D) : List D → List D → Option (Option D)
  | [], _ => some none
  | e :: r, v :: s => match keyEq k e with
    | some true => some (some v)
    | some false => findK k r s
    | none => none
  | _, [] => none
def putE (k : D) (clock : Nat) (v : V) : List (D × Nat × V) → Option (List (D × Nat × V))
  | [] => some [(k, clock, v)]
  | e :: r => match keyEq k e.1 with
    | some true => some ((e.1, e.2.1, v) :: r)
    | some false => match putE k clock v r with | some l => some (e :: l) | none => none
    | none => none
def frzMap : List (D × Nat × V) → Option (List D × List D)
  | [] => some ([], [])
  | (k, _, .d v) :: r => match frzMap r with
    | some (ks, vs) => some (k :: ks, v :: vs)
    | none => none
  | _ :: _ => none
def allSz (esz : Nat) (xs : List D) : Bool := xs.all fun x => x.flat && decide (x.cells.length = esz)

/-- The true ones, but for pure calls. -/
noncomputable def sameV (a b : V) : Bool := open Classical in if a = b then true else false
noncomputable def Sys.real0 (R : FuncId → Option RF) (G : Nat → Option (List D)) (call : CallF) (iter : (St → Rs) → St → Rs) : Sys where
  R := R
  G := G
  call := call
  pcall := fun _ _ _ => none
  fcall := fun _ _ _ => none
  kcall := fun _ _ _ _ => none
  iter := iter
  len := List.length
  nth xs i := xs[i]?
  cut xs lo hi := (xs.take hi).drop lo
  app xs ys := xs ++ ys
  set xs i x := xs.set i x
  rep n x := List.replicate n x
  allsz := allSz
  slen := List.length
  snth s i := s[i]?
  scut s lo hi := (s.take hi).drop lo
  sapp a b := a ++ b
  seq a b := a == b
  slt a b := Op.bytesLess a b
  ofStr s := s.map fun b => .int .u8 b.toNat
  toStr := bytesOf
  dec s i := Utf8.decode ⟨⟨s⟩⟩ i
  enc n := (Utf8.encode n).data.toList
  ar := intAr
  cmp := intCmp
  wrap k n := k.wrap n
  isz n := decide (n = 0)
  neg n := decide (n < 0)
  nat n := n.toNat
  ofN n := (n : Int)
  byte b := (b.toNat : Int)
  nle a b := decide (a ≤ b)
  nadd a b := a + b
  nsub a b := a - b
  fits n b := decide (n * b ≤ room ∧ n ≤ room)
  find := findE
  putE := Go.Abs.putE
  findK := Go.Abs.findK
  elen := List.length
  frzM := frzMap
  samev := sameV

def Opd.ev (X : Sys) (fr : Fr) : Opd → V
  | .t n => fr.get n
  | .c x => .d x
  | .g n => match X.G n with | some cs => .d (.iptr cs) | none => .dead
  | .f n => .d (.func (.func n) [] [])
def evL (X : Sys) (fr : Fr) : List Opd → List V
  | [] => []
  | x :: r => x.ev X fr :: evL X fr r

def isCmp : BinOp → Bool
  | .eql | .neq | .lss | .leq | .gtr | .geq => true
  | _ => false
def evBin (X : Sys) (op : BinOp) (x y : V) : Option V :=
  match x, y with
  | .d (.int k a), .d (.int k' b) =>
    match op with
    | .shl | .shr => if X.neg b then none else some (.d (.int k (X.ar op k a b)))
    | .quo | .rem => if k = k' then if X.isz b then none else some (.d (.int k (X.ar op k a b))) else none
    | _ => if k = k' then if isCmp op then some (.d (.bool (X.cmp op a b))) else some (.d (.int k (X.ar op k a b))) else none
  | .d (.str a), .d (.str b) => match op with
    | .add => if X.nle (X.nadd (X.slen a) (X.slen b)) 9223372036854775807 then some (.d (.str (X.sapp a b))) else none
    | .eql => some (.d (.bool (X.seq a b)))
    | .neq => some (.d (.bool (!(X.seq a b))))
    | .lss => some (.d (.bool (X.slt a b)))
    | .leq => some (.d (.bool (X.slt a b || X.seq a b)))
    | .gtr => some (.d (.bool (!(X.slt a b || X.seq a b))))
    | .geq => some (.d (.bool (!(X.slt a b))))
    | _ => none
  | _, _ => none

/-- Equality of data of one comparable type. -/
def eqD1 (X : Sys) : SK → D → D → Option Bool
  | .bool, .bool a, .bool b => some (a == b)
  | .int, .int k a, .int k' b => if k = k' then some (X.cmp .eql a b) else none
  | .str, .str a, .str b => some (X.seq a b)
  | _, _, _ => none
def eqDL (X : Sys) : List SK → List D → List D → Option Bool
  | [], [], [] => some true
  | k :: ks, x :: a, y :: b => match eqD1 X k x y, eqDL X ks a b with
    | some p, some q => some (p && q)
    | _, _ => none
  | _, _, _ => none
def eqV (X : Sys) : EK → V → V → Option Bool
  | .struct ks, .d (.agg a), .d (.agg b) => eqDL X ks a b
  | .bool, .d (.bool a), .d (.bool b) => some (a == b)
  | .ptr, .d .nilp, .d .nilp => some true
  | .ptr, .d (.iptr _), .d .nilp | .ptr, .d .nilp, .d (.iptr _) => some false
  | .ptr, .ref _ _, .d .nilp | .ptr, .d .nilp, .ref _ _ => some false
  | .iface, .d .nili, .d .nili => some true
  | .iface, .d (.iface _ _), .d .nili | .iface, .d .nili, .d (.iface _ _) => some false
  | .iface, .iface _ _, .d .nili | .iface, .d .nili, .iface _ _ => some false
  | .slice, .d .nils, .d .nils => some true
  | .slice, .d (.sl xs), .d .nils => match X.nth xs (X.nat 0) with
    | some _ => some false
    | none => none
  | .func, .d .nilf, .d .nilf => some true
  | .func, .d (.func _ _ _), .d .nilf | .func, .d .nilf, .d (.func _ _ _) => some false
  | .func, .clos _ _ _, .d .nilf | .func, .d .nilf, .clos _ _ _ => some false
  | _, _, _ => none
def evUn (X : Sys) (op : UnOp) : V → Option V
  | .d (.bool b) => match op with | .not => some (.d (.bool (!b))) | _ => none
  | .d (.int k n) => match op with
    | .neg => some (.d (.int k (X.ar .sub k 0 n)))
    | _ => none
  | _ => none

def splice {α : Type} (cs : List α) (off : Nat) (xs : List α) : List α := cs.take off ++ xs ++ cs.drop (off + xs.length)
def fill (cs : List V) : List (Nat × Nat × V) → Option (List V)
  | [] => some cs
  | (off, sz, x) :: r => if V.flat x then if x.cells.length = sz then if off + sz ≤ cs.length then fill (splice cs off x.cells) r else none else none else none
def evP (X : Sys) (fr : Fr) : List (Nat × Nat × Opd) → List (Nat × Nat × V)
  | [] => []
  | (a, b, x) :: r => (a, b, x.ev X fr) :: evP X fr r

def isKey : SK → D → Bool
  | .int, .int _ _ | .str, .str _ | .bool, .bool _ => true
  | _, _ => false
def aggOf : V → Option (List V)
  | .d (.agg cs) => some (cs.map .d)
  | .agg cs => some cs
  | _ => none

def asNat (X : Sys) (v : Option V) (dflt : Nat) : Option Nat :=
  match v with
  | none => some dflt
  | some (.d (.int _ n)) => if X.neg n then none else some (X.nat n)
  | some _ => none
def evO (X : Sys) (fr : Fr) : Option Opd → Option V
  | none => none
  | some x => some (x.ev X fr)

def cellsAt (X : Sys) (stk : Stk) (sz : Nat) : V → Option (List V)
  | .ref l o => match getO stk l with
    | some (.cells cs) => if o + sz ≤ cs.length then some ((cs.drop o).take sz) else none
    | _ => none
  | .eref l g i o => match getO stk l with
    | some (.arr g' _ xs) => if g = g' then match X.nth xs i with
        | some x => if o + sz ≤ x.cells.length then some (((x.cells.drop o).take sz).map .d) else none
        | none => none
      else none
    | _ => none
  | .d (.iptr cs) => if sz ≤ cs.length then some ((cs.take sz).map .d) else none
  | _ => none
def oneOf (agg : Bool) (cs : List V) : Option V :=
  match agg with
  | true => some (mkAgg cs)
  | false => match cs with | [v] => some v | _ => none

mutual
/-- What of the top level a value leads to, as data. -/
def freeze (X : Sys) (c : Level) : Nat → V → Option D
  | 0, _ => none
  | _ + 1, .dead => none
  | _ + 1, .d x => some x
  | k + 1, .agg cs => match freezeL X c k cs with | some l => some (.agg l) | none => none
  | k + 1, .tup cs => match freezeL X c k cs with | some l => some (.tup l) | none => none
  | k + 1, .ref l o => if l.lv = c.n then match getK l.key c.os with
      | some (.cells cs) => if o ≤ cs.length then match freezeL X c k (cs.drop o) with | some l => some (.iptr l) | none => none else none
      | _ => none
    else none
  | _ + 1, .eref l g i o => if l.lv = c.n then match getK l.key c.os with
      | some (.arr g' _ xs) => if g = g' then match X.nth xs i with | some x => if o ≤ x.cells.length then some (.iptr (x.cells.drop o)) else none | none => none else none
      | _ => none
    else none
  | _ + 1, .msl l g o len => if l.lv = c.n then match getK l.key c.os with
      | some (.arr g' _ xs) => if g = g' then if X.nle (X.nadd o len) (X.len xs) then some (.sl (X.cut xs o (X.nadd o len))) else none else none
      | _ => none
    else none
  | _ + 1, .map l => if l.lv = c.n then match getK l.key c.os with
      | some (.map _ es) => match X.frzM es with | some (ks, vs) => some (.map ks vs) | none => none
      | _ => none
    else none
  | k + 1, .clos f a b => match freezeL X c k a, freezeL X c k b with | some x, some y => some (.func f x y) | _, _ => none
  | k + 1, .iface t v => match freeze X c k v with | some x => some (.iface t x) | none => none
def freezeL (X : Sys) (c : Level) : Nat → List V → Option (List D)
  | 0, _ => none
  | _ + 1, [] => some []
  | k + 1, v :: r => match freeze X c k v, freezeL X c k r with | some x, some l => some (x :: l) | _, _ => none
end

/-- A call that leaves the stack as it is, its result as data. -/
noncomputable def sameStk (s t : Stk) : Bool := open Classical in if s = t then true else false
noncomputable def pcallOf (X : Sys) (call : CallF) (f : FuncId) (vs : List V) (stk : Stk) : Option V :=
  match call f vs stk with
  | some (.ret v, c :: s) => match sameStk s stk with
    | true => match freeze X c 100 v with
      | some d => some (.d d)
      | none => none
    | false => none
  | _ => none
/-- A call whose result is data; what becomes of the stack below. -/
def fcallOf (X : Sys) (call : CallF) (f : FuncId) (vs : List V) (stk : Stk) : Option (V × Stk) :=
  match call f vs stk with
  | some (.ret v, c :: s) => match freeze X c 100 v with
    | some d => some (.d d, s)
    | none => none
  | some (.pan x, _ :: s) => some (.tup [.dead, .d x], s)
  | _ => none
def tidyL (c : List (List Nat × O)) : List (List Nat) → List (List Nat × O)
  | [] => []
  | k :: r => match getK k c with
    | some o => (k, o) :: tidyL c r
    | none => tidyL c r
def keptOk (m : Nat) (ks : List (List Nat)) (os : List (List Nat × O)) : List (List Nat) → Bool
  | [] => true
  | k :: r => match getK k os with
    | some o => withinL m ks o.vals && keptOk m ks os r
    | none => false
/-- What is kept of a level: its objects under these keys alone. -/
def keepR (ks : List (List Nat)) (v : V) (c : Level) (s : Stk) : Option (V × Level × Stk) :=
  match V.within c.n ks v && V.upto c.n v && keptOk c.n ks c.os ks && distinct ks with
  | true => some (v, ⟨c.n, tidyL c.os ks⟩, s)
  | false => none
/-- A call of which some objects are kept. -/
def kcallOf (call : CallF) (f : FuncId) (ks : List (List Nat)) (vs : List V) (stk : Stk) : Option (V × Level × Stk) :=
  match call f vs stk with
  | some (.ret v, c :: s) => keepR ks v c s
  | _ => none
/-- The true ones. -/
noncomputable def Sys.real (R : FuncId → Option RF) (G : Nat → Option (List D)) (call : CallF) (iter : (St → Rs) → St → Rs) : Sys where
  R := R
  G := G
  call := call
  pcall := pcallOf (Sys.real0 R G call iter) call
  fcall := fcallOf (Sys.real0 R G call iter) call
  kcall := kcallOf call
  iter := iter
  len := List.length
  nth xs i := xs[i]?
  cut xs lo hi := (xs.take hi).drop lo
  app xs ys := xs ++ ys
  set xs i x := xs.set i x
  rep n x := List.replicate n x
  allsz := allSz
  slen := List.length
  snth s i := s[i]?
  scut s lo hi := (s.take hi).drop lo
  sapp a b := a ++ b
  seq a b := a == b
  slt a b := Op.bytesLess a b
  ofStr s := s.map fun b => .int .u8 b.toNat
  toStr := bytesOf
  dec s i := Utf8.decode ⟨⟨s⟩⟩ i
  enc n := (Utf8.encode n).data.toList
  ar := intAr
  cmp := intCmp
  wrap k n := k.wrap n
  isz n := decide (n = 0)
  neg n := decide (n < 0)
  nat n := n.toNat
  ofN n := (n : Int)
  byte b := (b.toNat : Int)
  nle a b := decide (a ≤ b)
  nadd a b := a + b
  nsub a b := a - b
  fits n b := decide (n * b ≤ room ∧ n ≤ room)
  find := findE
  putE := Go.Abs.putE
  findK := Go.Abs.findK
  elen := List.length
  frzM := frzMap
  samev := sameV

/-- The data of a slice, or of a text. -/
def dataOf (X : Sys) (stk : Stk) : V → Option (List D)
  | .d (.sl ys) => some ys
  | .d .nils => some []
  | .d (.str b) => some (X.ofStr b)
  | .msl l g o n => match getO stk l with
    | some (.arr g' _ xs) => if g = g' then if X.nle (X.nadd o n) (X.len xs) then some (X.cut xs o (X.nadd o n)) else none else none
    | _ => none
  | _ => none

/-- Operations that neither write nor make an object. -/
def evQ (X : Sys) (stk : Stk) (fr : Fr) : R → Option V
  | .move x => some (x.ev X fr)
  | .pick c a b => match c.ev X fr with
    | .d (.bool true) => some (a.ev X fr)
    | .d (.bool false) => some (b.ev X fr)
    | _ => none
  | .ibox x => match x.ev X fr with
    | v => match V.flat v, allD v.cells with
      | true, some l => some (.d (.iptr l))
      | _, _ => none
  | .build z ps => match fill (z.map .d) (evP X fr ps) with
    | some cs => some (mkAgg cs)
    | none => none
  | .ilit esz ps => match allD (evL X fr ps) with
    | some l => if X.allsz esz l then some (.d (.sl l)) else none
    | none => none
  | .load agg sz a => match cellsAt X stk sz (a.ev X fr) with
    | some cs => oneOf agg cs
    | none => none
  | .nilCheck x => match x.ev X fr with
    | .ref l o => some (.ref l o)
    | .eref l g i o => some (.eref l g i o)
    | .d (.iptr cs) => some (.d (.iptr cs))
    | .clos (.func f) a b => some (.clos (.func f) a b)
    | .d (.func (.func f) a b) => some (.d (.func (.func f) a b))
    | _ => none
  | .bin op x y => evBin X op (x.ev X fr) (y.ev X fr)
  | .eq neg k x y => match eqV X k (x.ev X fr) (y.ev X fr) with
    | some b => some (.d (.bool (match neg with | true => !b | false => b)))
    | none => none
  | .un op x => evUn X op (x.ev X fr)
  | .conv (.int k) x => match x.ev X fr with
    | .d (.int _ n) => some (.d (.int k (X.wrap k n)))
    | _ => none
  | .conv .same x => match x.ev X fr with
    | .d (.str s) => some (.d (.str s))
    | _ => none
  | .conv .ofRune x => match x.ev X fr with
    | .d (.int _ n) => some (.d (.str (X.enc n)))
    | _ => none
  | .conv .flt x => match x.ev X fr with
    | .d (.int _ _) => some (.d .any)
    | _ => none
  | .conv .ofBytes x => match dataOf X stk (x.ev X fr) with
    | some l => match X.toStr l with
      | some b => some (.d (.str b))
      | none => none
    | none => none
  | .mkI t x => some (mkIface t (x.ev X fr))
  | .mkF fn a b => some (mkFunc fn (evL X fr a) (evL X fr b))
  | .slice esz x lo hi => match x.ev X fr with
    | .d (.str s) => if esz = 0 then match asNat X (evO X fr lo) 0, asNat X (evO X fr hi) (X.slen s) with
      | some l, some h => if X.nle l h then if X.nle h (X.slen s) then some (.d (.str (X.scut s l h))) else none else none
      | _, _ => none
      else none
    | .d (.sl xs) => if esz = 0 then none else match asNat X (evO X fr lo) 0, asNat X (evO X fr hi) (X.len xs) with
      | some l, some h => if X.nle l h then if X.nle h (X.len xs) then if X.allsz esz xs then some (.d (.sl (X.cut xs l h))) else none else none else none
      | _, _ => none
    | .msl l g o n => if esz = 0 then none else match getO stk l with
      | some (.arr g' esz' _) => if g = g' then if esz = esz' then match asNat X (evO X fr lo) 0, asNat X (evO X fr hi) n with
        | some lo, some hi => if X.nle lo hi then if X.nle hi n then some (.msl l g (X.nadd o lo) (X.nsub hi lo)) else none else none
        | _, _ => none
        else none else none
      | _ => none
    | _ => none
  | .faddr off x => match x.ev X fr with
    | .ref l o => some (.ref l (o + off))
    | .eref l g i o => some (.eref l g i (o + off))
    | .d (.iptr cs) => if off ≤ cs.length then some (.d (.iptr (cs.drop off))) else none
    | _ => none
  | .fld agg off sz x => match aggOf (x.ev X fr) with
    | some cs => if off + sz ≤ cs.length then oneOf agg ((cs.drop off).take sz) else none
    | none => none
  | .iaddr esz x i => match i.ev X fr with
    | .d (.int _ n) => if X.neg n then none else match x.ev X fr with
      | .d (.sl xs) => match X.nth xs (X.nat n) with
        | some y => if y.flat then if y.cells.length = esz then some (.d (.iptr y.cells)) else none else none
        | none => none
      | .msl l g o len => match getO stk l with
        | some (.arr g' esz' _) => if g = g' then if esz = esz' then if X.nle (X.nadd (X.nat n) 1) len then some (.eref l g (X.nadd o (X.nat n)) 0) else none else none else none
        | _ => none
      | _ => none
    | _ => none
  | .aaddr len esz x i => match i.ev X fr with
    | .d (.int _ n) => if X.neg n then none else if X.nle (X.nadd (X.nat n) 1) len then match x.ev X fr with
      | .ref l o => some (.ref l (o + X.nat n * esz))
      | .d (.iptr cs) => if X.nle (X.nat n * esz) cs.length then some (.d (.iptr (X.cut cs (X.nat n * esz) cs.length))) else none
      | _ => none
      else none
    | _ => none
  | .idx x i => match x.ev X fr, i.ev X fr with
    | .d (.str s), .d (.int _ n) => if X.neg n then none else match X.snth s (X.nat n) with
      | some b => some (.d (.int .u8 (X.byte b)))
      | none => none
    | _, _ => none
  | .lookup sk z ok m k => match k.ev X fr with
    | .d kd => match isKey sk kd with
      | true => match m.ev X fr with
        | .map l => match getO stk l with
          | some (.map _ es) => match X.find kd es with
            | some (some v) => some (match ok with | true => mkTup [v, .d (.bool true)] | false => v)
            | some none => some (match ok with | true => .d (.tup [z, .bool false]) | false => .d z)
            | none => none
          | _ => none
        | .d (.map ks vs) => match X.findK kd ks vs with
          | some (some v) => some (match ok with | true => .d (.tup [v, .bool true]) | false => .d v)
          | some none => some (match ok with | true => .d (.tup [z, .bool false]) | false => .d z)
          | none => none
        | .d .nilmap => some (match ok with | true => .d (.tup [z, .bool false]) | false => .d z)
        | _ => none
      | false => none
    | _ => none
  | .tassert z t ok x => match x.ev X fr with
    | .d (.iface t' v) => if t' = t then some (match ok with | true => .d (.tup [v, .bool true]) | false => .d v) else match ok with | true => some (.d (.tup [z, .bool false])) | false => none
    | .iface t' v => if t' = t then some (match ok with | true => mkTup [v, .d (.bool true)] | false => v) else match ok with | true => some (.d (.tup [z, .bool false])) | false => none
    | .d .nili => match ok with | true => some (.d (.tup [z, .bool false])) | false => none
    | _ => none
  | .tasp _ t x => match x.ev X fr with
    | .d (.iface t' v) => if t' = t then some (.d v) else none
    | _ => none
  | .extract x i => match x.ev X fr with
    | .d (.tup vs) => match vs[i]? with | some v => some (.d v) | none => none
    | .tup vs => vs[i]?
    | _ => none
  | .len k x => match k, x.ev X fr with
    | .str, .d (.str s) => some (.d (.int .i64 (X.ofN (X.slen s))))
    | .sl, .d (.sl xs) => some (.d (.int .i64 (X.ofN (X.len xs))))
    | .sl, .d .nils => some (.d (.int .i64 0))
    | .sl, .msl _ _ _ n => some (.d (.int .i64 (X.ofN n)))
    | .map, .d .nilmap => some (.d (.int .i64 0))
    | .map, .map l => match getO stk l with | some (.map _ es) => some (.d (.int .i64 (X.ofN (X.elen es)))) | _ => none
    | .map, .d (.map ks _) => some (.d (.int .i64 (X.ofN (X.len ks))))
    | _, _ => none
  | .mm isMax [x, y] => match x.ev X fr, y.ev X fr with
    | .d (.int k a), .d (.int k' b) => if k = k' then some (.d (.int k (match isMax with
        | true => (match X.cmp .gtr b a with | true => b | false => a)
        | false => (match X.cmp .lss b a with | true => b | false => a)))) else none
    | _, _ => none
  | _ => none

/-- The objects that are kept behind a call. -/
def keepO (m n t : Nat) (os : List (List Nat × O)) : List (List Nat) → Option (List (List Nat × O))
  | [] => some []
  | k :: r => match getK k os, keepO m n t os r with
    | some o, some l => some ((t :: k, o.adopt m n t) :: l)
    | _, _ => none
def adoptOs (m n t : Nat) : List (List Nat × O) → List (List Nat × O)
  | [] => []
  | (k, o) :: r => (t :: k, o.adopt m n t) :: adoptOs m n t r
def freshK (t : Nat) (c0 : List (List Nat × O)) : List (List Nat) → Bool
  | [] => true
  | k :: r => match getK (t :: k) c0 with
    | some _ => false
    | none => freshK t c0 r
/-- Behind a call: the callee's level is taken off. -/
def leave (X : Sys) (m : Mode) (dst : Option Nat) (v : V) (c : Level) (s : Stk) : Option (V × Stk) :=
  match m with
  | .pur => none
  | .eff => none
  | .own _ => none
  | .frz => match v with
    | .d x => some (.d x, s)
    | v => match freeze X c 100 v with
      | some x => some (.d x, s)
      | none => none
  | .keep ks => match dst, s with
    | some t, c0 :: s0 => match keepO c.n c0.n t c.os ks with
      | some l => if V.within c.n ks v && V.upto c.n v && keptOk c.n ks c.os ks && freshK t c0.os ks && distinct ks then
          some (V.adopt c.n c0.n t v, ⟨c0.n, c0.os ++ l⟩ :: s0) else none
      | none => none
    | _, _ => none

/-- Numbers of deferred closures, as functions of what is recovered and of what they have caught. -/
def hB : Nat := 1000000
def callees (x : V) (as : List V) : Option (FuncId × List V) :=
  match x with
  | .d (.func (.func f) a b) => match decide (f < hB) with
    | true => some (f, a.map .d ++ as ++ b.map .d)
    | false => none
  | .clos (.func f) a b => match decide (f < hB) with
    | true => some (f, a ++ as ++ b)
    | false => none
  | _ => none

/-- A new object under a key of the top level. -/
def newO (stk : Stk) (dst : Option Nat) (o : O) (mk : Lab → V) : Option Res :=
  match dst, stk with
  | some t, c :: s => match getK [t] c.os with
    | none => some (.val (mk ⟨c.n, [t]⟩) (⟨c.n, c.os ++ [([t], o)]⟩ :: s))
    | some _ => none
  | _, _ => none
def topN : Stk → Nat
  | [] => 0
  | c :: _ => c.n
/-- Arrays of slices that are nil yet. -/
def virtO (t : Nat) : List (Nat × Nat) → List (List Nat × O) → Option (List (List Nat × O))
  | [], os => some os
  | (p, esz) :: r, os => match getK [t, p] os with
    | none => virtO t r (os ++ [([t, p], .arr 0 esz [])])
    | some _ => none
def virtC (n t : Nat) : List (Nat × Nat) → List V → List V
  | [], cs => cs
  | (p, _) :: r, cs => virtC n t r (cs.set p (.msl ⟨n, [t, p]⟩ 0 0 0))

def evCall (X : Sys) (m : Mode) (dst : Option Nat) (f : FuncId) (vs : List V) (stk : Stk) : Option Res :=
  match m with
  | .pur => match X.pcall f vs stk with
    | some v => some (.val v stk)
    | none => none
  | .eff => match X.fcall f vs stk with
    | some (.tup [.dead, .d x], s) => some (.pan x s)
    | some (v, s) => some (.val v s)
    | none => none
  | .own ks => match dst, X.kcall f ks vs stk with
    | some t, some (v, c, c0 :: s0) => match freshK t c0.os ks with
      | true => some (.val (V.adopt c.n c0.n t v) (⟨c0.n, c0.os ++ adoptOs c.n c0.n t c.os⟩ :: s0))
      | false => none
    | _, _ => none
  | m => match X.call f vs stk with
    | some (.ret v, c :: s) => match leave X m dst v c s with
      | some (v', s') => some (.val v' s')
      | none => none
    | some (.pan x, _ :: s) => some (.pan x s)
    | _ => none

/-- The operations. -/
def evR (X : Sys) (dst : Option Nat) (fr : Fr) (stk : Stk) : R → Option Res
  | .alloc z => newO stk dst (.cells (z.map .d)) (fun l => .ref l 0)
  | .vnil esz => newO stk dst (.arr 0 esz []) (fun l => .msl l 0 0 0)
  | .vcut esz x => match x.ev X fr with
    | .d (.sl _) => newO stk dst (.arr 0 esz []) (fun l => .msl l 0 0 0)
    | _ => none
  | .allocv z vs => match dst, stk with
    | some t, c :: s => match virtO t vs c.os with
      | some os => newO (⟨c.n, os⟩ :: s) (some t) (.cells (virtC c.n t vs (z.map .d))) (fun l => .ref l 0)
      | none => none
    | _, _ => none
  | .bnew ty te => match dst, stk with
    | some t, c :: s => match getK [t, 1] c.os with
      | none => newO (⟨c.n, c.os ++ [([t, 1], .hid te 0 [])]⟩ :: s) (some t) (.bld ty false (.msl ⟨c.n, [t, 1]⟩ 0 0 0)) (fun l => .ref l 0)
      | some _ => none
    | _, _ => none
  | .box x => match x.ev X fr with
    | v => match V.flat v, V.upto (topN stk) v with
      | true, true => newO stk dst (.cells v.cells) (fun l => .ref l 0)
      | _, _ => none
  | .lit esz ps => match allD (evL X fr ps) with
    | some l => if X.allsz esz l then newO stk dst (.arr 0 esz l) (fun lb => .msl lb 0 0 (X.len l)) else none
    | none => none
  | .conv .bytes x => match x.ev X fr with
    | .d (.str b) => if X.fits (X.slen b) 1 then newO stk dst (.arr 0 1 (X.ofStr b)) (fun lb => .msl lb 0 0 (X.slen b)) else none
    | _ => none
  | .store sz a x => match x.ev X fr with
    | v => match v.cells with
      | xs => if V.flat v then if xs.length = sz then match a.ev X fr with
        | .ref l o => match getO stk l with
          | some (.cells cs) => if o + sz ≤ cs.length then match V.upto l.lv v with
              | true => some (.val .dead (setO stk l (.cells (splice cs o xs))))
              | false => none
            else none
          | _ => none
        | .eref l g i o => match getO stk l with
          | some (.arr g' esz ys) => match X.nth ys i, allD xs with
            | some y, some ds => if g = g' then if o + sz ≤ y.cells.length then if y.cells.length = esz then
                some (.val .dead (setO stk l (.arr g esz (X.set ys i (match y with | .agg cs => .agg (splice cs o ds) | _ => ds.headD .any))))) else none else none else none
            | _, _ => none
          | _ => none
        | _ => none
        else none else none
  | .mkMap => newO stk dst (.map 0 []) .map
  | .mkSl esz bytes z l c => match l.ev X fr, c.ev X fr with
    | .d (.int _ n), .d (.int _ m) => if X.neg n then none else if X.neg m then none else if X.nle (X.nat n) (X.nat m) then if X.fits (X.nat m) bytes then
        if X.allsz esz [z] then newO stk dst (.arr 0 esz (X.rep (X.nat n) z)) (fun lb => .msl lb 0 0 (X.nat n)) else none else none else none
    | _, _ => none
  | .mapUpd sk m k x => match m.ev X fr, k.ev X fr with
    | .map l, .d kd => match isKey sk kd, x.ev X fr with
      | true, v => match V.upto l.lv v with
        | true => match getO stk l with
          | some (.map clock es) => match X.find kd es, X.putE kd clock v es with
            | some (some _), some es' => some (.val .dead (setO stk l (.map clock es')))
            | some none, some es' => some (.val .dead (setO stk l (.map (clock + 1) es')))
            | _, _ => none
          | _ => none
        | false => none
      | _, _ => none
    | _, _ => none
  | .range x => match x.ev X fr with
    | .d (.str b) => newO stk dst (.siter b 0) (fun l => .ref l 0)
    | _ => none
  | .next it => match it.ev X fr with
    | .ref l 0 => match getO stk l with
      | some (.siter s pos) =>
        if X.nle (X.nadd pos 1) (X.slen s) then
          some (.val (.d (.tup [.bool true, .int .i64 (X.ofN pos), .int .i32 (X.ofN (X.dec s pos).1)])) (setO stk l (.siter s (X.nadd pos (X.dec s pos).2))))
        else some (.val (.d (.tup [.bool false])) stk)
      | _ => none
    | _ => none
  | .call m f as => evCall X m dst f (evL X fr as) stk
  | .callv m x as => match callees (x.ev X fr) (evL X fr as) with
    | some (f, vs) => evCall X m dst f vs stk
    | none => none
  | .app esz bytes s x => match dataOf X stk (x.ev X fr) with
    | some ys => if X.allsz esz ys then match s.ev X fr with
      | .d .nils => match ys with
        | [] => some (.val (.d .nils) stk)
        | y :: yr => if X.fits (X.len (y :: yr)) bytes then newO stk dst (.arr 0 esz (y :: yr)) (fun lb => .msl lb 0 0 (X.len (y :: yr))) else none
      | .msl l g 0 n => match getO stk l with
        | some (.arr g' esz' xs) => if g = g' then if n = X.len xs then if esz' = esz then if X.fits (X.nadd n (X.len ys)) bytes then
            some (.val (.msl l (g + 1) 0 (X.nadd n (X.len ys))) (setO stk l (.arr (g + 1) esz (X.app xs ys)))) else none else none else none else none
        | _ => none
      | _ => none
      else none
    | none => none
  | .tasp ta t x => match x.ev X fr with
    | .d (.iface t' v) => if t' = t then some (.val (.d v) stk) else some (.pan (.iface ta .any) stk)
    | .d .nili => some (.pan (.iface ta .any) stk)
    | _ => none
  | .panic x => match x.ev X fr with
    | .d (.iface t v) => some (.pan (.iface t v) stk)
    | _ => none
  | r => match evQ X stk fr r with
    | some v => some (.val v stk)
    | none => none

def undefV : V := .d (.tup [])

/-- Is an operation carried out? -/
def wants (fr : Fr) : Option (Nat × Bool) → Option Bool
  | none => some true
  | some (t, b) => match fr.get t, b with
    | .d (.bool p), true => some p
    | .d (.bool p), false => some (!p)
    | .d (.tup []), _ => some false
    | _, _ => none

def evOps (X : Sys) : List ROp → St → Rs
  | [], st => some (.normal, st)
  | o :: r, st => match wants st.fr o.g with
    | some true => match evR X o.dst st.fr st.stk o.r with
      | some (.val v s) => evOps X r ⟨st.fr.put o.dst v, s⟩
      | some (.pan x s) => some (.pan x, ⟨st.fr, s⟩)
      | none => none
    | some false => evOps X r ⟨st.fr.put o.dst undefV, st.stk⟩
    | none => none

/-- A call that leaves the stack as it is. -/
noncomputable def quietCall (X : Sys) (f : FuncId) (vs : List V) (stk : Stk) : Option V :=
  match X.call f vs stk with
  | some (.ret v, c :: s) => match sameStk s stk with
    | true => match leave X .frz none v c stk with
      | some (v', _) => some v'
      | none => none
    | false => none
  | _ => none
/-- Quiet operations, calls among them that leave the stack as it is. -/
noncomputable def evF (X : Sys) (stk : Stk) (fr : Fr) (r : R) : Option V :=
  match r with
  | .call .frz f as => quietCall X f (evL X fr as) stk
  | .call .pur f as => X.pcall f (evL X fr as) stk
  | .callv .frz x as => match callees (x.ev X fr) (evL X fr as) with
    | some (f, vs) => quietCall X f vs stk
    | none => none
  | .callv .pur x as => match callees (x.ev X fr) (evL X fr as) with
    | some (f, vs) => X.pcall f vs stk
    | none => none
  | r => evQ X stk fr r

noncomputable def evFree (X : Sys) (stk : Stk) : List ROp → Fr → Option Fr
  | [], fr => some fr
  | o :: r, fr => match wants fr o.g with
    | some true => match evF X stk fr o.r with
      | some v => evFree X stk r (fr.put o.dst v)
      | none => none
    | some false => evFree X stk r (fr.put o.dst undefV)
    | none => none

/-- The temporaries that are looked at. -/
def Opd.tmp : Opd → List Nat
  | .t n => [n]
  | _ => []
def optTmp : Option Opd → List Nat
  | some x => x.tmp
  | none => []
def opsTmp (l : List Opd) : List Nat := l.flatMap Opd.tmp
def partsTmp (l : List (Nat × Nat × Opd)) : List Nat := l.flatMap fun x => x.2.2.tmp
def R.tmps : R → List Nat
  | .move x | .box x | .ibox x | .load _ _ x | .nilCheck x | .un _ x | .conv _ x | .mkI _ x | .vcut _ x | .faddr _ x | .fld _ _ _ x | .range x | .next x | .tassert _ _ _ x | .tasp _ _ x | .extract x _ | .len _ x | .panic x => x.tmp
  | .pick a b c | .mapUpd _ a b c => a.tmp ++ b.tmp ++ c.tmp
  | .store _ a b | .bin _ a b | .eq _ _ a b | .mkSl _ _ _ a b | .iaddr _ a b | .aaddr _ _ a b | .idx a b | .lookup _ _ _ a b | .app _ _ a b => a.tmp ++ b.tmp
  | .build _ ps => partsTmp ps
  | .lit _ l | .ilit _ l | .mm _ l | .call _ _ l => opsTmp l
  | .mkF _ a b => opsTmp a ++ opsTmp b
  | .callv _ x l => x.tmp ++ opsTmp l
  | .slice _ x a b => x.tmp ++ optTmp a ++ optTmp b
  | .alloc _ | .allocv _ _ | .vnil _ | .bnew _ _ | .mkMap | .bad => []
def ROp.tmps (o : ROp) : List Nat := o.r.tmps ++ (match o.g with | some (t, _) => [t] | none => [])

/-! ## What may be carried out at any time, and one that is not -/
/-- One that changes what there is. -/
def R.isM : R → Bool
  | .call .eff _ _ | .callv .eff _ _ | .alloc _ => true
  | _ => false
def cutM : List ROp → Option (List ROp × ROp × List ROp)
  | [] => none
  | o :: r => match o.r.isM with
    | true => some ([], o, r)
    | false => match cutM r with
      | some (a, m, b) => some (o :: a, m, b)
      | none => none
def dstL : Option Nat → List Nat
  | none => []
  | some d => [d]
/-- Those that hang on what is written there, and the others. -/
def hangM : List Nat → List ROp → List ROp
  | _, [] => []
  | ds, o :: r => match o.tmps.any ds.contains with
    | true => o :: hangM (dstL o.dst ++ ds) r
    | false => hangM ds r
def apartM : List Nat → List ROp → List ROp
  | _, [] => []
  | ds, o :: r => match o.tmps.any ds.contains with
    | true => apartM (dstL o.dst ++ ds) r
    | false => o :: apartM ds r
/-- It asks nothing of the memory. -/
def R.still : R → Bool
  | .move _ | .bin .. | .un .. | .extract .. | .pick .. | .build .. | .mkF .. | .mkI .. | .faddr .. | .fld .. => true
  | _ => false
noncomputable def recheck (X : Sys) (stk : Stk) (fr : Fr) : List ROp → Bool
  | [] => true
  | o :: r => match o.r.still with
    | true => recheck X stk fr r
    | false => match wants fr o.g with
      | some true => match o.dst with
        | some d => match fr.get d with
          | u => match evF X stk fr o.r with
            | some v => match X.samev v u with
              | true => recheck X stk fr r
              | false => false
            | none => false
        | none => match evF X stk fr o.r with
          | some _ => recheck X stk fr r
          | none => false
      | some false => recheck X stk fr r
      | none => false
noncomputable def evDraw (X : Sys) (stk : Stk) (free : List ROp) (fr : Fr) : Option (Fr × Stk) :=
  match cutM free with
  | none => match evFree X stk free fr with
    | some fr' => some (fr', stk)
    | none => none
  | some (A, m, B) => match A ++ apartM (dstL m.dst) B with
    | I => match evFree X stk I fr with
      | none => none
      | some fr1 => match m.g with
        | some _ => none
        | none => match evR X m.dst fr1 stk m.r with
          | some (.val v stk') => match recheck X stk' fr1 I with
            | true => match evFree X stk' (hangM (dstL m.dst) B) (fr1.put m.dst v) with
              | some fr2 => some (fr2, stk')
              | none => none
            | false => none
          | _ => none

def tidyF (fr : Fr) : List Nat → Fr
  | [] => []
  | n :: r => (n, fr.get n) :: tidyF fr r
def tidyOk (n : Nat) (keys : List (List Nat)) : Fr → Bool
  | [] => true
  | (_, v) :: r => V.within n keys v && tidyOk n keys r
/-- What an object leads to; of a map whose values are data: nothing. -/
def tidyOkO (X : Sys) (n : Nat) (keys : List (List Nat)) : O → Bool
  | .map _ es => match X.frzM es with
    | some _ => true
    | none => withinL n keys (mapVals es)
  | o => withinL n keys o.vals
def tidyOkL (X : Sys) (n : Nat) (keys : List (List Nat)) : List (List Nat × O) → Bool
  | [] => true
  | (_, o) :: r => tidyOkO X n keys o && tidyOkL X n keys r
/-- What is looked at no more is forgotten. -/
def tidy (X : Sys) (slots : List Nat) (keys : List (List Nat)) (st : St) : Option St :=
  match st.stk with
  | c :: s => match tidyF st.fr slots, tidyL c.os keys with
    | fr, os => if tidyOk c.n keys fr && tidyOkL X c.n keys os && distinct keys then some ⟨fr, ⟨c.n, os⟩ :: s⟩ else none
  | [] => none

def nthV : List V → Nat → Option V
  | [], _ => none
  | x :: _, 0 => some x
  | _ :: r, n + 1 => nthV r n
def adjust (X : Sys) (a : Adj) (st : St) : Option St :=
  match a with
  | .virt key off esz new => match st.stk with
    | [] => none
    | c :: s => match getK key c.os with
      | some (.cells cs) => match nthV cs off with
        | some (.d .nils) => match getK new c.os with
          | none => match esz with
            | 0 => none
            | esz + 1 => some ⟨st.fr, ⟨c.n, putK key (.cells (cs.set off (.msl ⟨c.n, new⟩ 0 0 0))) c.os ++ [(new, .arr 0 (esz + 1) [])]⟩ :: s⟩
          | some _ => none
        | _ => some st
      | _ => some st
  | .frz key off K slots keys => match st.stk with
    | [] => none
    | c :: s => match getK key c.os with
      | some (.cells cs) => match nthV cs off with
        | some (.msl l g o n) => match freeze X ⟨c.n, tidyL c.os [K]⟩ 100 (.msl l g o n) with
          | some d => match tidy X slots keys ⟨st.fr, ⟨c.n, putK key (.cells (cs.set off .dead)) c.os⟩ :: s⟩ with
            | some st' => match hasKey K keys, st'.stk with
              | false, c' :: s' => match getK key c'.os with
                | some (.cells _) => some ⟨st'.fr, ⟨c'.n, putK key (.cells (cs.set off (.d d))) c'.os⟩ :: s'⟩
                | _ => none
              | _, _ => none
            | none => none
          | none => none
        | _ => some st
      | _ => some st
  | .frzs slot K slots keys => match st.stk with
    | [] => none
    | c :: s => match st.fr.get slot with
      | .msl l g o n => match freeze X ⟨c.n, tidyL c.os [K]⟩ 100 (.msl l g o n) with
        | some d => match tidy X slots keys ⟨st.fr, c :: s⟩ with
          | some st' => match hasKey K keys with
            | false => some ⟨st'.fr.put (some slot) (.d d), st'.stk⟩
            | true => none
          | none => none
        | none => none
      | _ => some st

def nthR : List ROp → Nat → Option ROp
  | [], _ => none
  | o :: _, 0 => some o
  | _ :: r, n + 1 => nthR r n
def dstsP : List ROp → List Nat
  | [] => []
  | o :: r => dstL o.dst ++ dstsP r
/-- What one of them yields, and what hangs on it. -/
def dsP (rp : ROp) (free : List ROp) (k : Nat) : List Nat := dstL rp.dst ++ dstsP (hangM (dstL rp.dst) (free.drop (k + 1)))
def keepP (ds : List Nat) : List ROp → List ROp
  | [] => []
  | o :: r => match o.tmps.any ds.contains with
    | true => keepP ds r
    | false => o :: keepP ds r
/-- The free ones but one, and those that hang on it. -/
def othersP (free : List ROp) (k : Nat) : List ROp := match nthR free k with
  | some r => free.take k ++ keepP (dsP r free k) (free.drop (k + 1))
  | none => []
noncomputable def evC (X : Sys) : C → St → Rs
  | .skip, st => some (.normal, st)
  | .reg ops, st => evOps X ops st
  | .dreg free tail, st => match evDraw X st.stk free st.fr with
    | some (fr, stk) => evOps X tail ⟨fr, stk⟩
    | none => none
  | .dpan free k tail, st => match nthR free k, evFree X st.stk (othersP free k) st.fr with
    | some r, some fr2 => match evR X r.dst fr2 st.stk r.r with
      | some (.pan x _) => some (.pan x, st)
      | some (.val _ _) => match evDraw X st.stk free st.fr with
        | some (fr, stk) => evOps X tail ⟨fr, stk⟩
        | none => none
      | none => none
    | _, _ => none
  | .seq a b, st => match evC X a st with
    | some (.normal, st') => evC X b st'
    | r => r
  | .cond c a b, st => match c.ev X st.fr with
    | .d (.bool true) => evC X a st
    | .d (.bool false) => evC X b st
    | _ => none
  | .block id c, st => match evC X c st with
    | some (.exit i, st') => if i = id then some (.normal, st') else some (.exit i, st')
    | r => r
  | .loop c, st => X.iter (evC X c) st
  | .exit id, st => some (.exit id, st)
  | .ret, st => some (.ret, st)
  | .tidy slots keys c, st => match tidy X slots keys st with
    | some st' => evC X c st'
    | none => none
  | .adj a c, st => match adjust X a st with
    | some st' => evC X c st'
    | none => none
  | .bad, _ => none

def resV (X : Sys) (stk : Stk) (fr : Fr) : RRes → Option V
  | .tmp t => some (fr.get t)
  | .tmps t => match fr.get t with
    | .d .nils => some (.d (.sl []))
    | v => some v
  | .cell t agg sz => match cellsAt X stk sz (fr.get t) with
    | some cs => oneOf agg cs
    | none => none
  | .grd .. => none
def resAll (X : Sys) (stk : Stk) (fr : Fr) : List RRes → Option (List V)
  | [] => some []
  | r :: l => match resV X stk fr r, resAll X stk fr l with
    | some v, some vs => some (v :: vs)
    | _, _ => none
def results (X : Sys) (stk : Stk) (fr : Fr) (l : List RRes) : Option V :=
  match resAll X stk fr l with
  | some [v] => some v
  | some vs => some (mkTup vs)
  | none => none

def frame (n : Nat) : List V → Fr
  | [] => []
  | v :: r => (n, v) :: frame (n + 1) r
def push (stk : Stk) : Stk := ⟨topN stk + 1, []⟩ :: stk

def isG : List RRes → Bool
  | .grd .. :: _ => true
  | _ => false
def cellTs : List RRes → List Nat
  | [] => []
  | .cell t _ _ :: r => t :: cellTs r
  | _ :: r => cellTs r
def adjAll (X : Sys) : List Adj → St → Option St
  | [], st => some st
  | a :: r, st => match adjust X a st with
    | some st' => adjAll X r st'
    | none => none
/-- A function's end: its deferred closure, if it has one, is told what is recovered; then the results are read. -/
def endV (X : Sys) (x : D) (res : List RRes) (st : St) : Option (V × Stk) :=
  match res with
  | .grd h cs as :: r => match adjAll X as ⟨tidyF st.fr (cs ++ cellTs r), st.stk⟩ with
    | some st1 => match X.fcall h (.d x :: cs.map st1.fr.get) st1.stk with
      | some (.d _, s) => match results X s st1.fr r with
        | some v => some (v, s)
        | none => none
      | _ => none
    | none => none
  | r => match results X st.stk st.fr r with
    | some v => some (v, st.stk)
    | none => none
noncomputable def evFn0 (X : Sys) (rf : RF) (fr : Fr) (stk : Stk) : Option (Out × Stk) :=
  match evC X rf.body ⟨fr, push stk⟩ with
  | some (.normal, st) => match endV X .nili rf.res st with
    | some (v, s) => some (.ret v, s)
    | none => none
  | some (.ret, st) => match endV X .nili rf.res st with
    | some (v, s) => some (.ret v, s)
    | none => none
  | some (.pan x, st) => match isG rf.res with
    | true => match endV X x rf.res st with
      | some (v, s) => some (.ret v, s)
      | none => none
    | false => some (.pan x, st.stk)
  | _ => none

/-- A function; one that is left to a contract of its own tells what that says. -/
noncomputable def evFn (X : Sys) (rf : RF) (args : List V) (stk : Stk) : Option (Out × Stk) :=
  match rf.ext with
  | none => match rf.hnd with
    | none => evFn0 X rf (frame 0 args) stk
    | some tr => match args with
      | .d x :: caps => evFn0 X rf ((tr, .d x) :: frame 0 caps) stk
      | _ => none
  | some (.pure e) => match e args with
    | some d => some (.ret (.d d), push stk)
    | none => none
  | some (.eff e) => match e args stk with
    | some (v, stk') => some (.ret v, push stk')
    | none => none

def iterN : Nat → (St → Rs) → St → Rs
  | 0, _, _ => none
  | k + 1, b, st => match b st with
    | some (.normal, st') => iterN k b st'
    | r => r
noncomputable def runF (R : FuncId → Option RF) (G : Nat → Option (List D)) : Nat → CallF
  | 0, _, _, _ => none
  | k + 1, f, args, stk => match R f with
    | some rf => evFn (Sys.real R G (runF R G k) (iterN k)) rf args stk
    | none => none
end Go.Abs
