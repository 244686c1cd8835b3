import Derived.Test.YtbfnelnbjcfliaaAbs6
import Derived.Laws.StructEq
/-! The quiet operations, third part. -/
set_option linter.unusedVariables false
set_option linter.unusedSimpArgs false
namespace Go.Abs
section
variable {P : Program} {T : FuncId → Option RF} {G : Nat → Option (List D)} {call : CallF} {iter : (St → Rs) → St → Rs} {ρ : Rho} {F : Blks} {stk : Stk} {w : World} {fr : Fr} {a : Act}

theorem scalar_known {t : TypeId} (h : tScalar P t = true) : tAgg P t = false ∧ tKnown P t = true := by
  unfold tScalar at h
  unfold tAgg tKnown
  split at h <;> rename_i hu <;> first | (cases h; done) | (rw [hu]; exact ⟨rfl, rfl⟩)
theorem run_part1 {t : TypeId} {us : Array Value} {off : Nat} {u : Value} (h : tScalar P t = true) (hu : us[off]? = some u) : (part t us off).run P w = .ok u w := by
  obtain ⟨h1, h2⟩ := scalar_known h
  unfold part
  rw [Sem.run_bind, run_isAgg h1 h2]
  simp [hu]
/-- Two scalars that the interpreter can compare, of a type that is theirs. -/
theorem eqD1_run (d : Nat) {t : TypeId} {k : SK} {x y : D} {u v : Value} {b : Bool} (hx : Rv F w x u) (hy : Rv F w y v) (he : eqD1 (Sys.real T G call iter) k x y = some b) (ht : skOk P t k = true) :
    (Op.equalIn (d + 1) t u v).run P w = .ok b w ∧ tScalar P t = true := by
  unfold tScalar
  cases k <;> simp only [skOk] at ht <;> split at ht <;> try (cases ht; done)
  · rename_i hu
    cases x <;> cases y <;> simp only [eqD1] at he <;> try (cases he; done)
    split at he <;> try (cases he; done)
    rename_i hk
    subst hk
    cases he
    simp only [Rv] at hx hy
    subst hx; subst hy
    rw [run_equalIn_int w d t _ _ _ _ hu, hu]
    exact ⟨rfl, rfl⟩
  · rename_i hu
    cases x <;> cases y <;> simp only [eqD1] at he <;> try (cases he; done)
    cases he
    simp only [Rv] at hx hy
    subst hx; subst hy
    rw [run_equalIn_string w d t _ _ hu, toL, toL, hu]
    exact ⟨rfl, rfl⟩
  · rename_i hu
    cases x <;> cases y <;> simp only [eqD1] at he <;> try (cases he; done)
    cases he
    simp only [Rv] at hx hy
    subst hx; subst hy
    rw [run_equalIn_bool' w d t _ _ hu, hu]
    exact ⟨rfl, rfl⟩
theorem eqDL_run (d : Nat) : ∀ (ks : List SK) (xs ys : List D) (fs : List Field) (i : Nat) (us vs : Array Value) (b : Bool), fieldsOk P i fs ks = true → eqDL (Sys.real T G call iter) ks xs ys = some b →
    Rl F w xs (us.toList.drop i) → Rl F w ys (vs.toList.drop i) → (Op.eqFields (d + 1) us vs fs).run P w = .ok b w
  | [], xs, ys, fs, i, us, vs, b, hf, he, hx, hy => by
    cases fs <;> simp only [fieldsOk, Bool.false_eq_true] at hf
    cases xs <;> cases ys <;> simp only [eqDL] at he <;> try (cases he; done)
    cases he
    simp [Op.eqFields]
  | k :: ks, xs, ys, fs, i, us, vs, b, hf, he, hx, hy => by
    cases fs <;> simp only [fieldsOk, Bool.false_eq_true] at hf
    rename_i f r
    simp only [Bool.and_eq_true, beq_iff_eq, bne_iff_ne] at hf
    obtain ⟨⟨⟨h1, h2⟩, h3⟩, h4⟩ := hf
    cases xs <;> cases ys <;> simp only [eqDL] at he <;> try (cases he; done)
    rename_i x xs y ys
    split at he <;> try (cases he; done)
    rename_i p q hp hq
    cases he
    simp only [Rl] at hx hy
    obtain ⟨u, us', e1, _, hu, hx'⟩ := hx
    obtain ⟨v, vs', e2, _, hv, hy'⟩ := hy
    have g1 : us[i]? = some u := by
      have := congrArg (·[0]?) e1
      simpa [List.getElem?_drop] using this
    have g2 : vs[i]? = some v := by
      have := congrArg (·[0]?) e2
      simpa [List.getElem?_drop] using this
    have d1 : us.toList.drop (i + 1) = us' := by
      have := congrArg (List.drop 1) e1
      simpa [List.drop_drop, Nat.add_comm] using this
    have d2 : vs.toList.drop (i + 1) = vs' := by
      have := congrArg (List.drop 1) e2
      simpa [List.drop_drop, Nat.add_comm] using this
    obtain ⟨r1, r2⟩ := eqD1_run (P := P) d hu hv hp h2
    have ih := eqDL_run d ks xs ys r (i + 1) us vs q h4 hq (by rw [d1]; exact hx') (by rw [d2]; exact hy')
    simp only [Op.eqFields]
    rw [if_pos h3]
    simp only [Sem.run_bind, h1, run_part1 r2 g1, run_part1 r2 g2, Result.andThen_ok, r1]
    cases p with
    | false => simp
    | true => simp [ih]

def sgn (neg b : Bool) : Bool := match neg with | true => !b | false => b
theorem eqI_ptr {t e : TypeId} (d : Nat) (hu : P.underlying t = some (.pointer e)) (p q : Option Addr) (h : p = none ∨ q = none) : (Op.equalIn (d + 1) t (.pointer p) (.pointer q)).run P w = .ok (p.isNone && q.isNone) w := by
  simp only [Op.equalIn, Sem.run_bind, run_underlying hu, Result.andThen_ok]
  rcases p with _ | p <;> rcases q with _ | q
  · rfl
  · rfl
  · rfl
  · rcases h with h | h <;> cases h
theorem eqI_slice {t e : TypeId} (d : Nat) (hu : P.underlying t = some (.slice e)) : (Op.equalIn (d + 1) t (.slice none 0 0) (.slice none 0 0)).run P w = .ok true w := by
  simp only [Op.equalIn, Sem.run_bind, run_underlying hu, Result.andThen_ok]
  rfl
theorem eqI_slice1 {t e : TypeId} (d : Nat) {a : Addr} {n c : Nat} (hu : P.underlying t = some (.slice e)) : (Op.equalIn (d + 1) t (.slice (some a) n c) (.slice none 0 0)).run P w = .ok false w := by
  simp only [Op.equalIn, Sem.run_bind, run_underlying hu, Result.andThen_ok]
  rfl
theorem eqI_func {t : TypeId} (d : Nat) {x y z} (hu : P.underlying t = some (.func x y z)) :
    (Op.equalIn (d + 1) t .nilFunc .nilFunc).run P w = .ok true w ∧ (∀ f a b, (Op.equalIn (d + 1) t .nilFunc (.func f a b)).run P w = .ok false w) ∧ (∀ f a b, (Op.equalIn (d + 1) t (.func f a b) .nilFunc).run P w = .ok false w) := by
  simp only [Op.equalIn, Sem.run_bind, run_underlying hu, Result.andThen_ok]
  exact ⟨rfl, fun _ _ _ => rfl, fun _ _ _ => rfl⟩
theorem eqI_iface {t : TypeId} (d : Nat) {x} (hu : P.underlying t = some (.interface x)) :
    (Op.equalIn (d + 1) t .nilIface .nilIface).run P w = .ok true w ∧ (∀ a b, (Op.equalIn (d + 1) t .nilIface (.iface a b)).run P w = .ok false w) ∧ (∀ a b, (Op.equalIn (d + 1) t (.iface a b) .nilIface).run P w = .ok false w) := by
  simp only [Op.equalIn, Sem.run_bind, run_underlying hu, Result.andThen_ok]
  exact ⟨rfl, fun _ _ => rfl, fun _ _ => rfl⟩

/-- What is enough. -/
structure EqOk (P : Program) (w : World) (t : TypeId) (x1 x2 : Operand) (u v : Value) (b : Bool) : Prop where
  run : (Op.equalIn 10000 t u v).run P w = .ok b w
  guard : ∀ op, (op = .eql ∨ op = .neq) → (eqGuard op t x1 x2 u v).run P w = .ok () w
  bin : ∀ op, (op = .eql ∨ op = .neq) → binOp op t u v = (do let r ← Op.equal t u v; pure (.bool (if op = .neq then !r else r)))
def plain : Value → Value → Bool
  | .nilIface, .nilIface => false
  | .agg _, .agg _ => false
  | .int .., .int .. => false
  | .float .., .float .. => false
  | .complex .., .complex .. => false
  | .string _, .string _ => false
  | _, _ => true
theorem EqOk.of {t : TypeId} {x1 x2 : Operand} {u v : Value} {b : Bool} (hp : plain u v = true) (h : (Op.equalIn (9999 + 1) t u v).run P w = .ok b w) : EqOk P w t x1 x2 u v b where
  run := h
  guard op hop := by
    unfold eqGuard
    rcases hop with rfl | rfl <;> cases u <;> cases v <;> first | (cases hp; done) | rfl
  bin op hop := by
    rcases hop with rfl | rfl <;> cases u <;> cases v <;> first | (cases hp; done) | rfl

theorem eqV_ok {k : EK} {vy vz : V} {u v : Value} {b : Bool} {t : TypeId} {x1 x2 : Operand} (hx : RV ρ F stk w vy u) (hy : RV ρ F stk w vz v) (hc : cmpOk P t k x1 x2 = true)
    (hb : eqV (Sys.real T G call iter) k vy vz = some b) : EqOk P w t x1 x2 u v b := by
  cases hu : P.underlying t with
  | none => simp [cmpOk, hu] at hc
  | some d =>
    unfold eqV at hb
    split at hb <;> (try (cases hb; done)) <;> cases d <;> simp only [cmpOk, hu, Bool.false_eq_true] at hc <;> simp only [RV, Rv] at hx hy
    · rename_i ks xs ys fields
      simp only [Bool.and_eq_true, Bool.not_eq_true'] at hc
      obtain ⟨⟨c1, c2⟩, c3⟩ := hc
      obtain ⟨us, rfl, l1⟩ := hx
      obtain ⟨vs, rfl, l2⟩ := hy
      have hfo : P.fieldsOf t = fields := by simp [Program.fieldsOf, hu]
      refine ⟨?_, fun op hop => run_eqGuard_agg w op t x1 x2 us vs c2, ?_⟩
      · rw [run_equalIn_struct w 9999 t us vs (by rw [hfo]; exact hu) c1, hfo]
        exact eqDL_run 9998 ks xs ys fields.toList 0 us vs b c3 hb (by simpa using l1) (by simpa using l2)
      · intro op hop
        rcases hop with rfl | rfl <;> rfl
    · cases hb; subst hx; subst hy
      exact .of rfl (run_equalIn_bool' w 9999 t _ _ hu)
    · cases hb; subst hx; subst hy
      exact .of rfl (eqI_ptr 9999 hu _ _ (.inl rfl))
    · cases hb; subst hy
      obtain ⟨_, _, _, rfl, _⟩ := hx
      exact .of rfl (eqI_ptr 9999 hu _ _ (.inr rfl))
    · cases hb; subst hx
      obtain ⟨_, _, _, rfl, _⟩ := hy
      exact .of rfl (eqI_ptr 9999 hu _ _ (.inl rfl))
    · cases hb; subst hy
      obtain ⟨rfl, _⟩ := hx
      exact .of rfl (eqI_ptr 9999 hu _ _ (.inr rfl))
    · cases hb; subst hx
      obtain ⟨rfl, _⟩ := hy
      exact .of rfl (eqI_ptr 9999 hu _ _ (.inl rfl))
    · cases hb; subst hx; subst hy
      refine ⟨(eqI_iface 9999 hu).1, ?_, ?_⟩
      · intro op hop
        unfold eqGuard
        rcases hop with rfl | rfl <;> cases x1 <;> cases x2 <;> first | (cases hc; done) | rfl
      · intro op hop
        rcases hop with rfl | rfl <;> rfl
    · cases hb; subst hy
      obtain ⟨_, rfl, _⟩ := hx
      exact .of rfl ((eqI_iface 9999 hu).2.2 _ _)
    · cases hb; subst hx
      obtain ⟨_, rfl, _⟩ := hy
      exact .of rfl ((eqI_iface 9999 hu).2.1 _ _)
    · cases hb; subst hy
      obtain ⟨_, rfl, _⟩ := hx
      exact .of rfl ((eqI_iface 9999 hu).2.2 _ _)
    · cases hb; subst hx
      obtain ⟨_, rfl, _⟩ := hy
      exact .of rfl ((eqI_iface 9999 hu).2.1 _ _)
    · cases hb; subst hx; subst hy
      exact .of rfl (eqI_slice 9999 hu)
    · split at hb <;> try (cases hb; done)
      rename_i xs _ _ hn
      cases hb; subst hy
      obtain ⟨a0, c, rfl, hlc, hq⟩ := hx
      rcases hq with rfl | ⟨b, o, esz, ws, rfl, _⟩
      · simp [Sys.real] at hn
      · exact .of rfl (eqI_slice1 9999 hu)
    · cases hb; subst hx; subst hy
      exact .of rfl (eqI_func 9999 hu).1
    · cases hb; subst hy
      obtain ⟨_, _, rfl, _⟩ := hx
      exact .of rfl ((eqI_func 9999 hu).2.2 _ _ _)
    · cases hb; subst hx
      obtain ⟨_, _, rfl, _⟩ := hy
      exact .of rfl ((eqI_func 9999 hu).2.1 _ _ _)
    · cases hb; subst hy
      obtain ⟨_, _, rfl, _⟩ := hx
      exact .of rfl ((eqI_func 9999 hu).2.2 _ _ _)
    · cases hb; subst hx
      obtain ⟨_, _, rfl, _⟩ := hy
      exact .of rfl ((eqI_func 9999 hu).2.1 _ _ _)

theorem q_eq (hok : Ok ρ F stk w) (hG : Glob G F w) (hfr : RFr ρ F stk w fr a.tmps) {o : Oper} {neg : Bool} {k : EK} {y z : Opd} (hm : mR P o.op (.eq neg k y z) = true) {v : V}
    (he : evQ (Sys.real T G call iter) stk fr (.eq neg k y z) = some v) : QR P ρ F stk w v (execOp a.eval o) := by
  obtain ⟨dst, op', type, pos, after, guard⟩ := o
  cases op' <;> simp only [mR, Bool.false_eq_true] at hm
  rename_i op' t x1 x2 t2
  simp only [Bool.and_eq_true, decide_eq_true_eq] at hm
  obtain ⟨⟨⟨hop, hc⟩, h2⟩, h3⟩ := hm
  have hx := ev_sound (T := T) (call := call) (iter := iter) hG hfr h2
  have hy := ev_sound (T := T) (call := call) (iter := iter) hG hfr h3
  simp only [evQ] at he
  split at he <;> try (cases he; done)
  rename_i b hb
  have hE := eqV_ok hx hy hc hb
  have hop2 : op' = .eql ∨ op' = .neq := by cases neg <;> simp at hop <;> simp [hop]
  have hv : v = .d (.bool (sgn neg b)) := by
    simp only [Option.some.injEq] at he
    exact he.symm
  subst hv
  refine QR.same hok (v' := .bool (sgn neg b)) ?_ (by simp [RV, Rv])
  simp only [execOp, Sem.run_bind, hE.guard op' hop2, Result.andThen_ok]
  rw [hE.bin op' hop2]
  simp only [Sem.run_bind, Op.equal, Op.maxDepth, hE.run, Result.andThen_ok, Sem.run_pure]
  cases neg <;> simp at hop <;> simp [hop, sgn]
end
end Go.Abs
