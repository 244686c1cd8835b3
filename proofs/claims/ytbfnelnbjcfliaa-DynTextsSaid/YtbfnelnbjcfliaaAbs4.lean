import Derived.Test.YtbfnelnbjcfliaaAbs3
/-! The model's operations and the interpreter's: when one is the other's, and what reads memory. -/
set_option linter.unusedVariables false
set_option linter.unusedSimpArgs false
namespace Go.Abs

/-! ## Which operation is which -/
mutual
def isDv : Value → D → Bool
  | .bool a, .bool b => a == b
  | .int k a, .int k' b => decide (k = k') && decide (a = b)
  | .float k a, .float k' b => decide (k = k') && decide (a = b)
  | .string s, .str l => s.data.toList == l
  | .agg us, .agg cs => isDl us.toList cs && us.toList.all (·.oneCell')
  | .tuple us, .tup cs => isDl us.toList cs
  | .pointer none, .nilp => true
  | .slice none n c, .nils => decide (n = 0) && decide (c = 0)
  | .slice none n c, .sl xs => xs.isEmpty && decide (n = 0) && decide (c = 0)
  | .map none, .nilmap => true
  | .nilFunc, .nilf => true
  | .nilIface, .nili => true
  | .iface t v, .iface t' x => decide (t = t') && isDv v x
  | _, _ => false
def isDl : List Value → List D → Bool
  | [], [] => true
  | v :: r, x :: s => isDv v x && isDl r s
  | _, _ => false
end
def mO : Operand → Opd → Bool
  | .tmp t, .t n => t == n
  | .const v, .c x => isDv v x
  | .global g, .g n => g == n
  | .func f, .f n => f == n
  | _, _ => false
def mL : List Operand → List Opd → Bool
  | [], [] => true
  | x :: r, y :: s => mO x y && mL r s
  | _, _ => false
def mOO : Option Operand → Option Opd → Bool
  | none, none => true
  | some x, some y => mO x y
  | _, _ => false
section
variable (P : Program)
def tAgg (t : TypeId) : Bool := match P.underlying t with | some (.struct _) | some (.array ..) => true | _ => false
def tSz (t : TypeId) (n : Nat) : Bool := match P.info? t with | some i => i.size == n | none => false
def tBy (t : TypeId) (n : Nat) : Bool := match P.info? t with | some i => i.bytes == n | none => false
def tKnown (t : TypeId) : Bool := (P.underlying t).isSome
def tZero (t : TypeId) (z : D) : Bool := match P.info? t with
  | some i => match i.zero with
    | some v => isDv v z
    | none => false
  | none => false
def tZeros (t : TypeId) (z : List D) : Bool := match P.info? t with
  | some i => match i.zero with
    | some v => isDl v.cells.toList z && v.cells.toList.all (·.oneCell')
    | none => false
  | none => false
def tScalar (t : TypeId) : Bool := match P.underlying t with | some (.int _) | some .string | some .bool => true | _ => false
def mField (fields : Array Field) : List (Nat × Operand) → List (Nat × Nat × Opd) → Bool
  | [], [] => true
  | (i, x) :: r, (off, sz, y) :: s => (match fields[i]? with | some f => f.offset == off && tSz P f.type sz | none => false) && mO x y && mField fields r s
  | _, _ => false
def mElem (sz : Nat) : List (Nat × Operand) → List (Nat × Nat × Opd) → Bool
  | [], [] => true
  | (i, x) :: r, (off, sz', y) :: s => i * sz == off && sz' == sz && mO x y && mElem sz r s
  | _, _ => false
def mRow (n : Nat) : List (Nat × Operand) → List Opd → Bool
  | [], [] => true
  | (i, x) :: r, y :: s => i == n && mO x y && mRow (n + 1) r s
  | _, _ => false
def skOk (t : TypeId) : SK → Bool
  | .int => (match P.underlying t with | some (.int _) => true | _ => false)
  | .str => (match P.underlying t with | some .string => true | _ => false)
  | .bool => (match P.underlying t with | some .bool => true | _ => false)
def fieldsOk : Nat → List Field → List SK → Bool
  | _, [], [] => true
  | i, f :: r, k :: ks => f.offset == i && skOk P f.type k && f.name != "_" && fieldsOk (i + 1) r ks
  | _, _, _ => false
def cmpOk (t : TypeId) (k : EK) (x y : Operand) : Bool := match P.underlying t, k with
  | some .bool, .bool => true
  | some (.pointer _), .ptr | some (.slice _), .slice | some (.func ..), .func => true
  | some (.interface _), .iface => (x matches .const _) || (y matches .const _)
  | some (.struct fields), .struct ks => !(P.stoodInHeld t) && !(P.eqGuardType P.depth t) && fieldsOk P 0 fields.toList ks
  | _, _ => false
def fnOk (f : FuncId) : Bool := match P.funcs[f]? with | some fn => fn.body.isSome && fn.name != "runtime.NumGoroutine" | none => false

def isNils : Operand → Bool
  | .const (.slice none n c) => decide (n = 0) && decide (c = 0)
  | _ => false
/-- Nought, as it stands in the code. -/
def isZ : Option Operand → Bool
  | some (.const (.int _ n)) => decide (n = 0)
  | _ => false
def nilsAt (z : List D) (p : Nat) : Bool := match z[p]? with
  | some .nils => true
  | _ => false
def mR : Op → R → Bool
  | .move x, .move y | .assign x, .move y => mO x y
  | .move x, .vnil esz | .assign x, .vnil esz => isNils x && decide (0 < esz)
  | .alloc e, .bnew ty te => decide (e = ty) && tZeros P e [.nilp, .nils]
  | .alloc e, .allocv z vs => tZeros P e z && vs.all fun q => decide (0 < q.2) && nilsAt z q.1
  | .pick c a b, .pick c' a' b' => mO c c' && mO a a' && mO b b'
  | .alloc e, .alloc z => tZeros P e z
  | .box _ x, .box y | .box _ x, .ibox y => mO x y
  | .build t ps, .build z qs => tZeros P t z && (match P.underlying t with
      | some (.struct fields) => fields.all (fun f => (P.info? f.type).isSome) && mField P fields ps.toList qs
      | some (.array _ e) => match P.info? e with | some i => mElem i.size ps.toList qs | none => false
      | _ => false)
  | .buildSlice t n ps, .lit esz qs | .buildSlice t n ps, .ilit esz qs => (match P.underlying t with
      | some (.slice e) => tSz P e esz && decide (0 < esz) && decide (n * esz ≤ 16777216) && (match P.info? e with | some i => (match i.zero with | some z => z.cells.size == esz | none => false) | none => false)
      | _ => false) && mRow 0 ps.toList qs && ps.size == n
  | .load t x, .load agg sz y => tAgg P t == agg && tKnown P t && tSz P t sz && (agg || sz == 1) && mO x y
  | .store t a x, .store sz b y => tSz P t sz && mO a b && mO x y
  | .nilCheck x, .nilCheck y => mO x y
  | .binOp op _ x y _, .bin op' x' y' => decide (op = op') && mO x x' && mO y y'
  | .binOp op t x y _, .eq neg k x' y' => decide (op = (if neg then .neq else .eql)) && cmpOk P t k x y && mO x x' && mO y y'
  | .unOp op _ x, .un op' y => decide (op = op') && mO x y
  | .convert s d x, .conv k y => mO x y && tKnown P s && (match k with
      | .int k => (match P.underlying d with | some (.int k') => decide (k = k') | _ => false)
      | .same | .ofRune => (match P.underlying d with | some .string => true | _ => false)
      | .flt => (match P.underlying d with | some (.float _) => true | _ => false)
      | .ofBytes => (match P.underlying s, P.underlying d with | some (.slice e), some .string => (match P.underlying e with | some (.int .u8) => true | _ => false) | _, _ => false)
      | .bytes => (match P.underlying s, P.underlying d with | some .string, some (.slice e) => (match P.underlying e with | some (.int .u8) => true | _ => false) | _, _ => false))
  | .makeInterface t x, .mkI t' y => t == t' && (match P.underlying t with | some (.interface _) => false | some _ => true | none => false) && mO x y
  | .makeFunc (.func f) a b, .mkF (.func f') a' b' => f == f' && mL a.toList a' && mL b.toList b'
  | .makeMap _ none, .mkMap => true
  | .makeSlice t l c, .mkSl esz bytes z l' c' => (match P.underlying t with
      | some (.slice e) => tSz P e esz && tBy P e bytes && tZero P e z && decide (0 < esz)
      | _ => false) && mO l l' && mO c c'
  | .slice t x lo hi mx, .vcut esz y => (lo.isNone || isZ lo) && isZ hi && isZ mx && mO x y && decide (0 < esz) && (match P.underlying t with | some (.slice e) => tSz P e esz | _ => false)
  | .slice t x lo hi none, .slice esz y lo' hi' => (match P.underlying t with
      | some .string => esz == 0
      | some (.slice e) => tSz P e esz && esz != 0
      | _ => false) && mO x y && mOO lo lo' && mOO hi hi'
  | .fieldAddr s x f, .faddr off y => (match P.underlying s with
      | some (.struct fields) => (match fields[f]? with | some fd => fd.offset == off && (match P.info? fd.type with | some i => i.size != 0 | none => false) | none => false)
      | _ => false) && mO x y
  | .field s x f, .fld agg off sz y => (match P.underlying s with
      | some (.struct fields) => (match fields[f]? with | some fd => fd.offset == off && tAgg P fd.type == agg && tKnown P fd.type && tSz P fd.type sz && (agg || sz == 1) | none => false)
      | _ => false) && mO x y
  | .indexAddr t x i, .iaddr esz y j => (match P.underlying t with
      | some (.slice e) => tSz P e esz
      | _ => false) && mO x y && mO i j
  | .indexAddr t x i, .aaddr len esz y j => (match P.underlying t with
      | some (.array n e) => n == len && tSz P e esz
      | _ => false) && mO x y && mO i j
  | .index t x i, .idx y j => (match P.underlying t with | some .string => true | _ => false) && mO x y && mO i j
  | .lookup t m k ok, .lookup sk z ok' m' k' => ok == ok' && (match P.underlying t with
      | some (.map kt e) => skOk P kt sk && tZero P e z
      | _ => false) && mO m m' && mO k k'
  | .mapUpdate t m k x, .mapUpd sk m' k' x' | .insert t m k x, .mapUpd sk m' k' x' => (match P.underlying t with
      | some (.map kt _) => skOk P kt sk
      | _ => false) && mO m m' && mO k k' && mO x x'
  | .range t x, .range y => (match P.underlying t with | some .string => true | _ => false) && mO x y
  | .next it true, .next y => mO it y
  | .typeAssert x _ at_ ok, .tassert z t ok' y => ok == ok' && at_ == t && (match P.underlying at_ with | some (.interface _) => false | some _ => true | none => false) && tZero P at_ z && mO x y
  | .typeAssert x _ at_ false, .tasp ta t y => at_ == t && (match P.underlying at_ with | some (.interface _) => false | some _ => true | none => false) && ta == P.rt.typeAssertionError && (match P.underlying ta with | some (.pointer _) => true | _ => false) && mO x y
  | .extract x i, .extract y j => i == j && mO x y
  | .call { callee := .value (.func f), args, .. }, .call _ f' as => f == f' && (fnOk P f && decide (f < hB)) && mL args.toList as
  | .call { callee := .value x, args, .. }, .callv _ y as => mO x y && mL args.toList as
  | .call { callee := .builtin .append, args, argTypes }, .app esz bytes s x => (match argTypes[0]?, argTypes[1]? with
      | some t, some u => (match P.underlying t, P.underlying u with
        | some (.slice e), some (.slice _) | some (.slice e), some .string => tSz P e esz && tBy P e bytes && decide (0 < esz) && (match P.info? e with | some i => (match i.zero with | some z => z.cells.size == esz | none => false) | none => false)
        | _, _ => false)
      | _, _ => false) && mL args.toList [s, x]
  | .call { callee := .builtin .len, args, argTypes }, .len k x => (match argTypes[0]? with
      | some t => (match P.underlying t, k with | some .string, .str | some (.slice _), .sl | some (.map ..), .map => true | _, _ => false)
      | none => false) && mL args.toList [x]
  | .call { callee := .builtin .min, args, .. }, .mm false xs => mL args.toList xs
  | .call { callee := .builtin .max, args, .. }, .mm true xs => mL args.toList xs
  | .call { callee := .builtin .panic, args, .. }, .panic x => mL args.toList [x]
  | .panic x, .panic y => mO x y
  | _, .bad => true
  | _, _ => false
end

/-! ## Operands -/
mutual
theorem isDv_sound (F : Blks) (w : World) : ∀ (v : Value) (x : D), isDv v x = true → Rv F w x v
  | v, .any, h => by cases v <;> simp [isDv] at h
  | v, .bool b, h => by cases v <;> simp [isDv] at h; simp [Rv, h]
  | v, .int k n, h => by cases v <;> simp [isDv] at h; simp [Rv, h]
  | v, .float k n, h => by cases v <;> simp [isDv] at h; simp [Rv, h]
  | v, .str s, h => by
    cases v <;> simp [isDv] at h
    rename_i b
    simp only [Rv, Value.string.injEq]
    subst h
    rfl
  | v, .agg cs, h => by
    cases v <;> simp only [isDv, Bool.false_eq_true] at h
    rename_i us
    simp only [Bool.and_eq_true] at h
    simp only [Rv]
    exact ⟨us, rfl, isDl_sound F w us.toList cs h.1 h.2⟩
  | v, .tup cs, h => by
    cases v <;> simp only [isDv, Bool.false_eq_true] at h
    rename_i us
    simp only [Rv]
    exact ⟨us, rfl, isDt_sound F w us.toList cs h⟩
  | v, .nilp, h => by
    cases v <;> try (simp only [isDv, Bool.false_eq_true] at h; done)
    rename_i a
    cases a with
    | none => simp [Rv]
    | some _ => simp [isDv] at h
  | v, .iptr cs, h => by cases v <;> simp [isDv] at h
  | v, .sl xs, h => by
    cases v <;> try (simp only [isDv, Bool.false_eq_true] at h; done)
    rename_i a n c
    cases a with
    | none =>
      simp [isDv] at h
      obtain ⟨⟨rfl, rfl⟩, rfl⟩ := h
      simp [Rv]
    | some _ => simp [isDv] at h
  | v, .nils, h => by
    cases v <;> try (simp only [isDv, Bool.false_eq_true] at h; done)
    rename_i a n c
    cases a with
    | none => simp [isDv] at h; simp [Rv, h]
    | some _ => simp [isDv] at h
  | v, .nilmap, h => by
    cases v <;> try (simp only [isDv, Bool.false_eq_true] at h; done)
    rename_i a
    cases a with
    | none => simp [Rv]
    | some _ => simp [isDv] at h
  | v, .map ks vs, h => by cases v <;> simp [isDv] at h
  | v, .func fn a b, h => by cases v <;> simp [isDv] at h
  | v, .nilf, h => by cases v <;> simp [isDv, Rv] at h ⊢
  | v, .iface t x, h => by
    cases v <;> simp only [isDv, Bool.false_eq_true] at h
    rename_i t' u
    simp only [Bool.and_eq_true, decide_eq_true_eq] at h
    simp only [Rv]
    exact ⟨u, by rw [h.1], isDv_sound F w u x h.2⟩
  | v, .nili, h => by cases v <;> simp [isDv, Rv] at h ⊢
theorem isDl_sound (F : Blks) (w : World) : ∀ (us : List Value) (cs : List D), isDl us cs = true → us.all (·.oneCell') = true → Rl F w cs us
  | [], [], _, _ => by simp [Rl]
  | [], _ :: _, h, _ => by simp [isDl] at h
  | _ :: _, [], h, _ => by simp [isDl] at h
  | u :: r, x :: s, h, h1 => by
    simp only [isDl, Bool.and_eq_true] at h
    simp only [List.all_cons, Bool.and_eq_true] at h1
    simp only [Rl]
    exact ⟨u, r, rfl, h1.1, isDv_sound F w u x h.1, isDl_sound F w r s h.2 h1.2⟩
theorem isDt_sound (F : Blks) (w : World) : ∀ (us : List Value) (cs : List D), isDl us cs = true → Rt F w cs us
  | [], [], _ => by simp [Rt]
  | [], _ :: _, h => by simp [isDl] at h
  | _ :: _, [], h => by simp [isDl] at h
  | u :: r, x :: s, h => by
    simp only [isDl, Bool.and_eq_true] at h
    simp only [Rt]
    exact ⟨u, r, rfl, isDv_sound F w u x h.1, isDt_sound F w r s h.2⟩
end

/-- What the package's variables hold. -/

def exactD : List D → Bool
  | .int .u64 _ :: _ => true
  | _ => false
/-- A variable of one number, of which nothing else is told. -/
def anyD : List D → Bool
  | [.any] => true
  | _ => false
def Glob (G : Nat → Option (List D)) (F : Blks) (w : World) : Prop := ∀ g cs, G g = some cs → F g ∧ ∃ ws, Rl F w cs ws ∧ Cells w g 0 ws ∧ (exactD cs = true → ∃ e fz, w.heap[g]? = some (.cells ws.toArray e fz)) ∧ (anyD cs = true → ∃ m, ws = [.int .i64 m])
theorem Glob.keep {G : Nat → Option (List D)} {F F' : Blks} {w w' : World} (h : Glob G F w) (k : Keep F F' w w') : Glob G F' w' := fun g cs hg => by
  obtain ⟨h1, ws, h2, h3, h4, h5⟩ := h g cs hg
  exact ⟨k.sub g h1, ws, Rl.keep k cs ws h2, h3.eq (k.eq g h1), fun he => by rw [k.eq g h1]; exact h4 he, h5⟩

section
variable {P : Program} {T : FuncId → Option RF} {G : Nat → Option (List D)} {call : CallF} {iter : (St → Rs) → St → Rs} {ρ : Rho} {F : Blks} {stk : Stk} {w : World} {fr : Fr} {a : Act}

theorem ev_sound (hG : Glob G F w) (hfr : RFr ρ F stk w fr a.tmps) {x : Operand} {y : Opd} (h : mO x y = true) : RV ρ F stk w (y.ev (Sys.real T G call iter) fr) (a.eval x) := by
  cases x <;> cases y <;> simp only [mO, Bool.false_eq_true, beq_iff_eq] at h
  · subst h; exact hfr _
  · simp only [Opd.ev, Act.eval, RV]; exact isDv_sound F w _ _ h
  · subst h
    rename_i g
    simp only [Opd.ev, Act.eval]
    cases hg : (Sys.real T G call iter).G g with
    | none => simp [RV]
    | some cs =>
      obtain ⟨h1, ws, h2, h3, _⟩ := hG g cs hg
      simp only [RV, Rv]
      exact ⟨g, 0, ws, rfl, h1, h2, h3⟩
  · subst h
    simp only [Opd.ev, Act.eval, RV, Rv]
    exact ⟨#[], #[], rfl, by simp [Rt], by simp [Rt]⟩
theorem evL_sound (hG : Glob G F w) (hfr : RFr ρ F stk w fr a.tmps) : ∀ {xs : List Operand} {ys : List Opd}, mL xs ys = true → RVt ρ F stk w (evL (Sys.real T G call iter) fr ys) (xs.map a.eval)
  | [], [], _ => by simp [evL, RVt]
  | [], _ :: _, h => by simp [mL] at h
  | _ :: _, [], h => by simp [mL] at h
  | x :: r, y :: s, h => by
    simp only [mL, Bool.and_eq_true] at h
    simp only [evL, List.map_cons, RVt]
    exact ⟨_, _, rfl, ev_sound hG hfr h.1, evL_sound hG hfr h.2⟩

/-! ## Cells -/
theorem Rv_one {x : D} {v : Value} (h : Rv F w x v) (ha : ∀ cs, x ≠ .agg cs) (ht : ∀ cs, x ≠ .tup cs) : v.oneCell' = true := by
  cases x <;> simp only [Rv] at h
  case any => exact h
  case agg cs => exact absurd rfl (ha cs)
  case tup cs => exact absurd rfl (ht cs)
  case iptr => obtain ⟨b, o, ws, rfl, _⟩ := h; rfl
  case sl => obtain ⟨b, o, rfl, _⟩ := h; rfl
  case map => obtain ⟨r, es, c, rfl, _⟩ := h; rfl
  case func => obtain ⟨r, es, rfl, _⟩ := h; rfl
  case iface => obtain ⟨r, rfl, _⟩ := h; rfl
  all_goals subst h; rfl
theorem Rl_len : ∀ {xs : List D} {us : List Value}, Rl F w xs us → us.length = xs.length
  | [], us, h => by simp only [Rl] at h; simp [h]
  | x :: r, us, h => by
    simp only [Rl] at h
    obtain ⟨u, us', rfl, _, _, hr⟩ := h
    simp [Rl_len hr]
theorem Rl_one : ∀ {xs : List D} {us : List Value}, Rl F w xs us → ∀ u ∈ us, u.oneCell' = true
  | [], us, h => by simp only [Rl] at h; simp [h]
  | x :: r, us, h => by
    simp only [Rl] at h
    obtain ⟨u, us', rfl, h1, _, hr⟩ := h
    intro v hv
    rcases List.mem_cons.1 hv with rfl | hv
    · exact h1
    · exact Rl_one hr v hv
theorem Rl_drop : ∀ (n : Nat) {xs : List D} {us : List Value}, Rl F w xs us → Rl F w (xs.drop n) (us.drop n)
  | 0, xs, us, h => by simpa using h
  | n + 1, [], us, h => by simp only [Rl] at h; subst h; simp [Rl]
  | n + 1, x :: r, us, h => by
    simp only [Rl] at h
    obtain ⟨u, us', rfl, _, _, hr⟩ := h
    simpa using Rl_drop n hr
theorem Rl_take : ∀ (n : Nat) {xs : List D} {us : List Value}, Rl F w xs us → Rl F w (xs.take n) (us.take n)
  | 0, xs, us, h => by simp [Rl]
  | n + 1, [], us, h => by simp only [Rl] at h; subst h; simp [Rl]
  | n + 1, x :: r, us, h => by
    simp only [Rl] at h
    obtain ⟨u, us', rfl, h1, h2, hr⟩ := h
    simp only [List.take_succ_cons, Rl]
    exact ⟨u, _, rfl, h1, h2, Rl_take n hr⟩
theorem Rl_append : ∀ {xs ys : List D} {us vs : List Value}, Rl F w xs us → Rl F w ys vs → Rl F w (xs ++ ys) (us ++ vs)
  | [], ys, us, vs, h, k => by simp only [Rl] at h; subst h; simpa using k
  | x :: r, ys, us, vs, h, k => by
    simp only [Rl] at h
    obtain ⟨u, us', rfl, h1, h2, hr⟩ := h
    simp only [List.cons_append, Rl]
    exact ⟨u, _, rfl, h1, h2, Rl_append hr k⟩
theorem RVl_of_Rl : ∀ {xs : List D} {us : List Value}, Rl F w xs us → RVl ρ F stk w (xs.map .d) us
  | [], us, h => by simp only [Rl] at h; simp [RVl, h]
  | x :: r, us, h => by
    simp only [Rl] at h
    obtain ⟨u, us', rfl, h1, h2, hr⟩ := h
    simp only [List.map_cons, RVl, RV]
    exact ⟨u, us', rfl, h1, h2, RVl_of_Rl hr⟩
theorem RVl_len : ∀ {xs : List V} {us : List Value}, RVl ρ F stk w xs us → us.length = xs.length
  | [], us, h => by simp only [RVl] at h; simp [h]
  | x :: r, us, h => by
    simp only [RVl] at h
    obtain ⟨u, us', rfl, _, _, hr⟩ := h
    simp [RVl_len hr]
theorem RVl_one : ∀ {xs : List V} {us : List Value}, RVl ρ F stk w xs us → ∀ u ∈ us, u.oneCell' = true
  | [], us, h => by simp only [RVl] at h; simp [h]
  | x :: r, us, h => by
    simp only [RVl] at h
    obtain ⟨u, us', rfl, h1, _, hr⟩ := h
    intro v hv
    rcases List.mem_cons.1 hv with rfl | hv
    · exact h1
    · exact RVl_one hr v hv
theorem RVl_drop : ∀ (n : Nat) {xs : List V} {us : List Value}, RVl ρ F stk w xs us → RVl ρ F stk w (xs.drop n) (us.drop n)
  | 0, xs, us, h => by simpa using h
  | n + 1, [], us, h => by simp only [RVl] at h; subst h; simp [RVl]
  | n + 1, x :: r, us, h => by
    simp only [RVl] at h
    obtain ⟨u, us', rfl, _, _, hr⟩ := h
    simpa using RVl_drop n hr
theorem RVl_take : ∀ (n : Nat) {xs : List V} {us : List Value}, RVl ρ F stk w xs us → RVl ρ F stk w (xs.take n) (us.take n)
  | 0, xs, us, h => by simp [RVl]
  | n + 1, [], us, h => by simp only [RVl] at h; subst h; simp [RVl]
  | n + 1, x :: r, us, h => by
    simp only [RVl] at h
    obtain ⟨u, us', rfl, h1, h2, hr⟩ := h
    simp only [List.take_succ_cons, RVl]
    exact ⟨u, _, rfl, h1, h2, RVl_take n hr⟩
theorem RVl_append : ∀ {xs ys : List V} {us vs : List Value}, RVl ρ F stk w xs us → RVl ρ F stk w ys vs → RVl ρ F stk w (xs ++ ys) (us ++ vs)
  | [], ys, us, vs, h, k => by simp only [RVl] at h; subst h; simpa using k
  | x :: r, ys, us, vs, h, k => by
    simp only [RVl] at h
    obtain ⟨u, us', rfl, h1, h2, hr⟩ := h
    simp only [List.cons_append, RVl]
    exact ⟨u, _, rfl, h1, h2, RVl_append hr k⟩
theorem Rl_of_allD : ∀ {xs : List V} {ds : List D} {us : List Value}, allD xs = some ds → RVl ρ F stk w xs us → Rl F w ds us
  | [], ds, us, h, k => by simp only [allD, Option.some.injEq] at h; subst h; simp only [RVl] at k; simp [Rl, k]
  | x :: r, ds, us, h, k => by
    simp only [RVl] at k
    obtain ⟨u, us', rfl, h1, h2, hr⟩ := k
    cases x <;> simp only [allD] at h <;> try (cases h; done)
    split at h <;> try (cases h; done)
    rename_i l hl
    cases h
    simp only [Rl]
    exact ⟨u, us', rfl, h1, by simpa [RV] using h2, Rl_of_allD hl hr⟩
theorem Rt_of_allD : ∀ {xs : List V} {ds : List D} {us : List Value}, allD xs = some ds → RVt ρ F stk w xs us → Rt F w ds us
  | [], ds, us, h, k => by simp only [allD, Option.some.injEq] at h; subst h; simp only [RVt] at k; simp [Rt, k]
  | x :: r, ds, us, h, k => by
    simp only [RVt] at k
    obtain ⟨u, us', rfl, h2, hr⟩ := k
    cases x <;> simp only [allD] at h <;> try (cases h; done)
    split at h <;> try (cases h; done)
    rename_i l hl
    cases h
    simp only [Rt]
    exact ⟨u, us', rfl, by simpa [RV] using h2, Rt_of_allD hl hr⟩
theorem mkAgg_sound {cs : List V} {us : List Value} (h : RVl ρ F stk w cs us) : RV ρ F stk w (mkAgg cs) (.agg us.toArray) := by
  unfold mkAgg
  split
  · rename_i l hl
    simp only [RV, Rv]
    exact ⟨us.toArray, rfl, by simpa using Rl_of_allD hl h⟩
  · simp only [RV]
    exact ⟨us.toArray, rfl, by simpa using h⟩
theorem mkTup_sound {cs : List V} {us : List Value} (h : RVt ρ F stk w cs us) : RV ρ F stk w (mkTup cs) (.tuple us.toArray) := by
  unfold mkTup
  split
  · rename_i l hl
    simp only [RV, Rv]
    exact ⟨us.toArray, rfl, by simpa using Rt_of_allD hl h⟩
  · simp only [RV]
    exact ⟨us.toArray, rfl, by simpa using h⟩
/-- A value's cells, where it has cells. -/
theorem RV_cells {x : V} {v : Value} (h : RV ρ F stk w x v) (h1 : ∀ u ∈ v.cells.toList, u.oneCell' = true) : RVl ρ F stk w x.cells v.cells.toList ∨ x = .dead := by
  have one : v.oneCell' = true → v.cells.toList = [v] := by cases v <;> simp [Value.oneCell', Value.cells]
  cases x
  case dead => exact .inr rfl
  case d x =>
    left
    simp only [RV] at h
    simp only [V.cells]
    apply RVl_of_Rl
    cases x
    case agg cs =>
      simp only [Rv] at h
      obtain ⟨us, rfl, hl⟩ := h
      simpa [D.cells, Value.cells] using hl
    case tup cs =>
      simp only [Rv] at h
      obtain ⟨us, rfl, hl⟩ := h
      have := h1 (.tuple us) (by simp [Value.cells])
      simp [Value.oneCell'] at this
    all_goals
      have hone := Rv_one h (by simp) (by simp)
      simp only [D.cells, one hone, Rl]
      exact ⟨v, [], rfl, hone, h, rfl⟩
  case agg cs =>
    left
    simp only [RV] at h
    obtain ⟨us, rfl, hl⟩ := h
    simpa [V.cells, Value.cells] using hl
  case tup cs =>
    simp only [RV] at h
    obtain ⟨us, rfl, hl⟩ := h
    have := h1 (.tuple us) (by simp [Value.cells])
    simp [Value.oneCell'] at this
  all_goals
    left
    have hone : v.oneCell' = true := by
      simp only [RV] at h
      first
        | (obtain ⟨rfl, _⟩ := h; rfl)
        | (obtain ⟨_, rfl, _⟩ := h; rfl)
        | (obtain ⟨_, _, rfl, _⟩ := h; rfl)
        | (obtain ⟨_, _, _, _, ⟨_, _, rfl⟩, _⟩ := h; rfl)
    simp only [V.cells, one hone, RVl]
    exact ⟨v, [], rfl, hone, h, rfl⟩
end
end Go.Abs
