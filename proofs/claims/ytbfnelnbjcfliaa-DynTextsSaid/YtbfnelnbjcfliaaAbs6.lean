import Derived.Test.YtbfnelnbjcfliaaAbs5
import Derived.Laws.Strings
import Derived.Laws.BytesString
/-! The quiet operations, second part. -/
set_option linter.unusedVariables false
set_option linter.unusedSimpArgs false
namespace Go.Abs
section
variable {P : Program} {T : FuncId → Option RF} {G : Nat → Option (List D)} {call : CallF} {iter : (St → Rs) → St → Rs} {ρ : Rho} {F : Blks} {stk : Stk} {w : World} {fr : Fr} {a : Act}

theorem toL (s : Str) : (⟨⟨s⟩⟩ : ByteArray).toList = s := by rw [ByteArray.toList_eq]

theorem bin_str {op : BinOp} (s t : Str) {v : V} (h : evBin (Sys.real T G call iter) op (.d (.str s)) (.d (.str t)) = some v) :
    ∃ v', (Op.stringOp op ⟨⟨s⟩⟩ ⟨⟨t⟩⟩).run P w = .ok v' w ∧ RV ρ F stk w v v' := by
  have hs := toL s
  have ht := toL t
  have hsz : ∀ l : Str, (⟨⟨l⟩⟩ : ByteArray).size = l.length := fun l => rfl
  cases op <;> simp only [evBin] at h <;> try (cases h; done)
  case add =>
    split at h <;> try (cases h; done)
    rename_i hle
    cases h
    have hle' : s.length + t.length ≤ 9223372036854775807 := by simpa [Sys.real] using hle
    refine ⟨.string (⟨⟨s⟩⟩ ++ ⟨⟨t⟩⟩), ?_, ?_⟩
    · simp only [Op.stringOp, hsz]
      rw [if_neg (by rw [IntKind.max_i64]; omega)]
      rfl
    · simp only [RV, Rv, Sys.real]
      first | done | rfl | (congr 1; done) | (congr 1; apply ByteArray.ext; apply Array.ext'; simp)
  all_goals
    cases h
    refine ⟨_, by simp only [Op.stringOp, hs, ht]; rfl, ?_⟩
    simp only [RV, Rv, Sys.real]

theorem bin_int {op : BinOp} {k k' : IntKind} (m n : Int) {v : V} (h : evBin (Sys.real T G call iter) op (.d (.int k m)) (.d (.int k' n)) = some v) (t : TypeId) :
    ∃ v', (binOp op t (.int k m) (.int k' n)).run P w = .ok v' w ∧ RV ρ F stk w v v' := by
  cases op <;> simp only [evBin] at h
  case shl =>
    split at h <;> try (cases h; done)
    rename_i hn
    cases h
    have hn' : ¬ n < 0 := by simpa [Sys.real] using hn
    exact ⟨_, by simp only [binOp, Op.shift, if_neg hn']; rfl, by simp only [RV, Rv, Sys.real, intAr]⟩
  case shr =>
    split at h <;> try (cases h; done)
    rename_i hn
    cases h
    have hn' : ¬ n < 0 := by simpa [Sys.real] using hn
    exact ⟨_, by simp only [binOp, Op.shift, if_neg hn']; rfl, by simp only [RV, Rv, Sys.real, intAr]⟩
  case quo =>
    split at h <;> try (cases h; done)
    rename_i hk
    subst hk
    split at h <;> try (cases h; done)
    rename_i hn
    cases h
    have hn' : ¬ n = 0 := by simpa [Sys.real] using hn
    exact ⟨_, by simp only [binOp, ne_eq, not_true_eq_false, if_false, Op.intDiv, if_neg hn']; rfl, by simp only [RV, Rv, Sys.real, intAr]⟩
  case rem =>
    split at h <;> try (cases h; done)
    rename_i hk
    subst hk
    split at h <;> try (cases h; done)
    rename_i hn
    cases h
    have hn' : ¬ n = 0 := by simpa [Sys.real] using hn
    exact ⟨_, by simp only [binOp, ne_eq, not_true_eq_false, if_false, Op.intDiv, if_neg hn']; rfl, by simp only [RV, Rv, Sys.real, intAr]⟩
  all_goals
    split at h <;> try (cases h; done)
    rename_i hk
    subst hk
    simp only [isCmp, if_true, Bool.false_eq_true, if_false, Option.some.injEq] at h
    subst h
    refine ⟨_, by simp only [binOp, ne_eq, not_true_eq_false, if_false]; rfl, ?_⟩
    simp only [RV, Rv, Sys.real, intAr, intCmp]

theorem q_bin (hok : Ok ρ F stk w) (hG : Glob G F w) (hfr : RFr ρ F stk w fr a.tmps) {o : Oper} {op : BinOp} {y z : Opd} (hm : mR P o.op (.bin op y z) = true) {v : V}
    (he : evQ (Sys.real T G call iter) stk fr (.bin op y z) = some v) : QR P ρ F stk w v (execOp a.eval o) := by
  obtain ⟨dst, op', type, pos, after, guard⟩ := o
  cases op' <;> simp only [mR, Bool.false_eq_true] at hm
  rename_i op' t x1 x2 t2
  simp only [Bool.and_eq_true, decide_eq_true_eq] at hm
  obtain ⟨⟨rfl, h2⟩, h3⟩ := hm
  have hx := ev_sound (T := T) (call := call) (iter := iter) hG hfr h2
  have hy := ev_sound (T := T) (call := call) (iter := iter) hG hfr h3
  simp only [evQ] at he
  generalize y.ev (Sys.real T G call iter) fr = vy at he hx
  generalize z.ev (Sys.real T G call iter) fr = vz at he hy
  have hint : ∀ k m k' n, vy = .d (.int k m) → vz = .d (.int k' n) → QR P ρ F stk w v (execOp a.eval ⟨dst, .binOp op' t x1 x2 t2, type, pos, after, guard⟩) := by
    rintro k m k' n rfl rfl
    simp only [RV, Rv] at hx hy
    obtain ⟨v', h4, h5⟩ := bin_int (P := P) (w := w) (ρ := ρ) (F := F) (stk := stk) m n he t
    refine QR.same hok (v' := v') ?_ h5
    have hg : (eqGuard op' t x1 x2 (.int k m) (.int k' n)).run P w = .ok () w := by
      unfold eqGuard
      cases op' <;> rfl
    simp only [execOp, hx, hy, Sem.run_bind, hg, Result.andThen_ok, h4, Sem.run_pure]
  have hstr : ∀ s u, vy = .d (.str s) → vz = .d (.str u) → QR P ρ F stk w v (execOp a.eval ⟨dst, .binOp op' t x1 x2 t2, type, pos, after, guard⟩) := by
    rintro s u rfl rfl
    simp only [RV, Rv] at hx hy
    obtain ⟨v', h4, h5⟩ := bin_str (P := P) (w := w) (ρ := ρ) (F := F) (stk := stk) s u he
    refine QR.same hok (v' := v') ?_ h5
    have hg : (eqGuard op' t x1 x2 (.string ⟨⟨s⟩⟩) (.string ⟨⟨u⟩⟩)).run P w = .ok () w := by
      unfold eqGuard
      cases op' <;> rfl
    have hb : binOp op' t (.string ⟨⟨s⟩⟩) (.string ⟨⟨u⟩⟩) = Op.stringOp op' ⟨⟨s⟩⟩ ⟨⟨u⟩⟩ := by cases op' <;> rfl
    simp only [execOp, hx, hy, Sem.run_bind, hg, Result.andThen_ok, hb, h4, Sem.run_pure]
  unfold evBin at he
  split at he
  · exact hint _ _ _ _ rfl rfl
  · exact hstr _ _ rfl rfl
  · cases he

theorem q_un (hok : Ok ρ F stk w) (hG : Glob G F w) (hfr : RFr ρ F stk w fr a.tmps) {o : Oper} {op : UnOp} {y : Opd} (hm : mR P o.op (.un op y) = true) {v : V}
    (he : evQ (Sys.real T G call iter) stk fr (.un op y) = some v) : QR P ρ F stk w v (execOp a.eval o) := by
  obtain ⟨dst, op', type, pos, after, guard⟩ := o
  cases op' <;> simp only [mR, Bool.false_eq_true] at hm
  rename_i op' t x
  simp only [Bool.and_eq_true, decide_eq_true_eq] at hm
  obtain ⟨rfl, h3⟩ := hm
  have hx := ev_sound (T := T) (call := call) (iter := iter) hG hfr h3
  simp only [evQ] at he
  unfold evUn at he
  split at he
  · rename_i b hb
    rw [hb] at hx
    simp only [RV, Rv] at hx
    cases op' <;> simp only at he <;> try (cases he; done)
    cases he
    exact QR.same hok (v' := .bool (!b)) (by simp [execOp, hx, Op.unary]) (by simp [RV, Rv])
  · rename_i k n hb
    rw [hb] at hx
    simp only [RV, Rv] at hx
    cases op' <;> simp only at he <;> try (cases he; done)
    cases he
    exact QR.same hok (v' := .int k (k.wrap (0 - n))) (by simp [execOp, hx, Op.unary, Op.intArith]) (by simp [RV, Rv, Sys.real, intAr])
  · cases he

theorem Re_take {esz : Nat} : ∀ (n : Nat) {xs : List D} {ws : List Value}, Re F w esz xs ws → Re F w esz (xs.take n) (ws.take (n * esz))
  | 0, xs, ws, h => by simp [Re]
  | n + 1, [], ws, h => by simp only [Re] at h; subst h; simp [Re]
  | n + 1, y :: r, ws, h => by
    simp only [Re] at h
    obtain ⟨u, ws', rfl, h1, h2, h3, h4⟩ := h
    simp only [List.take_succ_cons, Re]
    refine ⟨u, ws'.take (n * esz), ?_, h1, h2, h3, Re_take n h4⟩
    have hl : u.cells.toList.length = esz := by simpa using h1
    rw [List.take_append, hl, List.take_of_length_le (by rw [hl, Nat.add_mul]; omega)]
    congr 2
    rw [Nat.add_mul]; omega
theorem Re_drop {esz : Nat} : ∀ (n : Nat) {xs : List D} {ws : List Value}, Re F w esz xs ws → Re F w esz (xs.drop n) (ws.drop (n * esz))
  | 0, xs, ws, h => by simpa using h
  | n + 1, [], ws, h => by simp only [Re] at h; subst h; simp [Re]
  | n + 1, y :: r, ws, h => by
    simp only [Re] at h
    obtain ⟨u, ws', rfl, h1, h2, h3, h4⟩ := h
    simp only [List.drop_succ_cons]
    have hl : u.cells.toList.length = esz := by simpa using h1
    have : (u.cells.toList ++ ws').drop ((n + 1) * esz) = ws'.drop (n * esz) := by
      rw [List.drop_append, hl, List.drop_eq_nil_of_le (by rw [hl, Nat.add_mul]; omega), List.nil_append]
      congr 1
      rw [Nat.add_mul]; omega
    rw [this]
    exact Re_drop n h4
theorem Re_append {esz : Nat} : ∀ {xs ys : List D} {us vs : List Value}, Re F w esz xs us → Re F w esz ys vs → Re F w esz (xs ++ ys) (us ++ vs)
  | [], ys, us, vs, h, k => by simp only [Re] at h; subst h; simpa using k
  | y :: r, ys, us, vs, h, k => by
    simp only [Re] at h
    obtain ⟨u, ws', rfl, h1, h2, h3, h4⟩ := h
    simp only [List.cons_append, Re]
    exact ⟨u, ws' ++ vs, by simp, h1, h2, h3, Re_append h4 k⟩
theorem cut_eq {α : Type} (xs : List α) (o n : Nat) : (xs.take (o + n)).drop o = (xs.drop o).take n := by
  rw [List.drop_take]; congr 1; omega

theorem Re_of_data {x : V} {val : Value} {ys : List D} (hok : Ok ρ F stk w) (hv : RV ρ F stk w x val) (h : dataOf (Sys.real T G call iter) stk x = some ys) :
    (∃ s, val = .string ⟨⟨s⟩⟩ ∧ ys = s.map fun b => .int .u8 b.toNat) ∨
    (∃ a c, val = .slice a ys.length c ∧ ys.length ≤ c ∧ (ys = [] ∨ ∃ b o esz ws, a = some ⟨b, o, none⟩ ∧ 0 < esz ∧ Re F w esz ys ws ∧ Cells w b o ws)) := by
  unfold dataOf at h
  split at h
  · cases h
    simp only [RV, Rv] at hv
    obtain ⟨a, c, rfl, hle, hx⟩ := hv
    refine .inr ⟨a, c, rfl, hle, hx.imp id ?_⟩
    rintro ⟨b, o, esz, ws, ha, _, hz, hs, hc⟩
    exact ⟨b, o, esz, ws, ha, hz, hs, hc⟩
  · cases h
    simp only [RV, Rv] at hv
    exact .inr ⟨none, 0, hv, Nat.le_refl _, .inl rfl⟩
  · cases h
    simp only [RV, Rv] at hv
    exact .inl ⟨_, hv, rfl⟩
  · rename_i l g o n
    split at h <;> try (cases h; done)
    rename_i g' esz xs hg
    split at h <;> try (cases h; done)
    rename_i heq
    subst heq
    split at h <;> try (cases h; done)
    rename_i hle
    cases h
    have hle' : o + n ≤ xs.length := by simpa [Sys.real] using hle
    simp only [RV] at hv
    obtain ⟨g', esz', xs', hg', _, _, hp⟩ := hv
    rw [hg] at hg'
    simp only [Option.some.injEq, O.arr.injEq] at hg'
    obtain ⟨rfl, rfl, rfl⟩ := hg'
    obtain ⟨a, c, rfl, h1, h2, h3⟩ := hp rfl
    have hcut : (Sys.real T G call iter).cut xs o ((Sys.real T G call iter).nadd o n) = (xs.drop o).take n := cut_eq xs o n
    rw [hcut]
    have hlen : ((xs.drop o).take n).length = n := by simp; omega
    refine .inr ⟨a, c, by rw [hlen], by rw [hlen]; exact h1, ?_⟩
    by_cases hn : n = 0
    · subst hn; simp
    · right
      obtain ⟨_, c0, e, fz, ws, rest, k1, k2, k3, k4, k5, k6, k7⟩ := RO_arr (hok.objs l _ hg) (by rintro rfl; simp at hle'; omega)
      have hws := Re_len k4
      refine ⟨(ρ l).blk, o * esz, esz, (ws.drop (o * esz)).take (n * esz), h3 (by omega), k3, Re_take n (Re_drop o k4), ?_⟩
      have hc := Cells_of_row (o := o * esz) (sz := n * esz) k1
      rw [k5] at hc
      have hmul : (o + n) * esz ≤ xs.length * esz := Nat.mul_le_mul_right _ hle'
      rw [Nat.add_mul] at hmul
      rwa [List.drop_append_of_le_length (by omega), List.take_append_of_le_length (by simp; omega)] at hc
  · cases h

/-- The bytes of a row. -/
theorem bytes_row : ∀ {ys : List D} {b : Str} {ws : List Value} {esz : Nat}, bytesOf ys = some b → Re F w esz ys ws →
    ∃ ns : List Int, ws = ns.map (Value.int .u8) ∧ b = ns.map (fun n => UInt8.ofNat n.toNat) ∧ ns.length = ys.length
  | [], b, ws, esz, h, hr => by
    simp only [bytesOf, Option.some.injEq] at h
    subst h
    simp only [Re] at hr
    subst hr
    exact ⟨[], rfl, rfl, rfl⟩
  | y :: r, b, ws, esz, h, hr => by
    have hy : ∃ n, y = .int .u8 n := by
      cases y <;> try (simp [bytesOf] at h; done)
      rename_i k n
      cases k <;> try (simp [bytesOf] at h; done)
      exact ⟨n, rfl⟩
    obtain ⟨n, rfl⟩ := hy
    simp only [bytesOf] at h
    split at h <;> try (cases h; done)
    rename_i l hl
    cases h
    simp only [Re] at hr
    obtain ⟨u, ws', rfl, h1, h2, h3, h4⟩ := hr
    simp only [Rv] at h3
    subst h3
    obtain ⟨ns, g1, g2, g3⟩ := bytes_row hl h4
    exact ⟨n :: ns, by simp [Value.cells, g1], by simp [g2], by simp [g3]⟩
theorem push_all : ∀ (ns : List Int) (s : ByteArray), ns.foldl (fun r n => r.push (UInt8.ofNat n.toNat)) s = ⟨⟨s.data.toList ++ ns.map fun n => UInt8.ofNat n.toNat⟩⟩
  | [], s => by simp
  | n :: ns, s => by
    rw [List.foldl_cons, push_all ns]
    simp

theorem q_conv (hok : Ok ρ F stk w) (hG : Glob G F w) (hfr : RFr ρ F stk w fr a.tmps) {o : Oper} {k : CK} {y : Opd} (hm : mR P o.op (.conv k y) = true) {v : V}
    (he : evQ (Sys.real T G call iter) stk fr (.conv k y) = some v) : QR P ρ F stk w v (execOp a.eval o) := by
  obtain ⟨dst, op', type, pos, after, guard⟩ := o
  cases op' <;> simp only [mR, Bool.false_eq_true] at hm
  rename_i s d x
  simp only [Bool.and_eq_true] at hm
  obtain ⟨⟨h1, h2⟩, h3⟩ := hm
  have hx := ev_sound (T := T) (call := call) (iter := iter) hG hfr h1
  obtain ⟨ds, hs⟩ := Option.isSome_iff_exists.1 h2
  cases k <;> simp only [evQ] at he
  case int k =>
    split at he <;> try (cases he; done)
    rename_i k0 n hn
    cases he
    rw [hn] at hx
    simp only [RV, Rv] at hx
    cases hd : P.underlying d with
    | none => simp [hd] at h3
    | some dd =>
      cases dd <;> simp only [hd, Bool.false_eq_true, decide_eq_true_eq] at h3
      subst h3
      refine QR.same hok (v' := .int k (k.wrap n)) ?_ (by simp [RV, Rv, Sys.real])
      simp only [execOp, hx, convert, Sem.run_bind, run_underlying hs, run_underlying hd, Result.andThen_ok]
      cases ds <;> rfl
  case same =>
    split at he <;> try (cases he; done)
    rename_i l hn
    cases he
    rw [hn] at hx
    simp only [RV, Rv] at hx
    cases hd : P.underlying d with
    | none => simp [hd] at h3
    | some dd =>
      cases dd <;> simp only [hd, Bool.false_eq_true] at h3
      refine QR.same hok (v' := .string ⟨⟨l⟩⟩) ?_ (by simp [RV, Rv])
      simp only [execOp, hx, convert, Sem.run_bind, run_underlying hs, run_underlying hd, Result.andThen_ok]
      cases ds <;> rfl
  case ofRune =>
    split at he <;> try (cases he; done)
    rename_i k0 n hn
    cases he
    rw [hn] at hx
    simp only [RV, Rv] at hx
    cases hd : P.underlying d with
    | none => simp [hd] at h3
    | some dd =>
      cases dd <;> simp only [hd, Bool.false_eq_true] at h3
      refine QR.same hok (v' := .string (Utf8.encode n)) ?_ ?_
      · simp only [execOp, hx, convert, Sem.run_bind, run_underlying hs, run_underlying hd, Result.andThen_ok]
        cases ds <;> rfl
      · simp only [RV, Rv, Sys.real]
  case flt =>
    split at he <;> try (cases he; done)
    rename_i k0 n hn
    cases he
    rw [hn] at hx
    simp only [RV, Rv] at hx
    cases hd : P.underlying d with
    | none => simp [hd] at h3
    | some dd =>
      cases dd <;> simp only [hd, Bool.false_eq_true] at h3
      rename_i fk
      refine QR.same hok (v' := .float fk (fk.nearest n)) ?_ (by simp [RV, Rv, Value.oneCell'])
      simp only [execOp, hx, convert, Sem.run_bind, run_underlying hs, run_underlying hd, Result.andThen_ok]
      cases ds <;> rfl
  case ofBytes =>
    split at he <;> try (cases he; done)
    rename_i ys hys
    split at he <;> try (cases he; done)
    rename_i b hb
    cases he
    have hb' : bytesOf ys = some b := hb
    cases hd : P.underlying s with
    | none => simp [hd] at h3
    | some dd =>
      cases dd <;> simp only [hd, Bool.false_eq_true] at h3
      rename_i e
      cases hd2 : P.underlying d with
      | none => simp [hd2] at h3
      | some d2 =>
        cases d2 <;> simp only [hd2, Bool.false_eq_true] at h3
        cases he : P.underlying e with
        | none => simp [he] at h3
        | some d3 =>
          cases d3 <;> simp only [he, Bool.false_eq_true] at h3
          rename_i k3
          cases k3 <;> simp only [Bool.false_eq_true] at h3
          rcases Re_of_data hok hx hys with ⟨s', hs', hy'⟩ | ⟨a0, c, hv0, hle, hx0⟩
          · rw [hs'] at hx
            subst hy'
            have hbb : b = s' := by
              have : ∀ (l m : Str), bytesOf (l.map fun b => D.int .u8 b.toNat) = some m → m = l := by
                intro l
                induction l with
                | nil => intro m hm; simpa [bytesOf, eq_comm] using hm
                | cons x r ih =>
                  intro m hm
                  simp only [List.map_cons, bytesOf] at hm
                  split at hm <;> try (cases hm; done)
                  rename_i l hl
                  cases hm
                  rw [ih l hl]
                  simp
              exact this s' b hb'
            subst hbb
            refine QR.same hok (v' := .string ⟨⟨b⟩⟩) ?_ (by simp [RV, Rv])
            simp only [execOp, hs', convert, Sem.run_bind, run_underlying hd, run_underlying hd2, Result.andThen_ok]
            rfl
          · refine QR.same hok (v' := .string ⟨⟨b⟩⟩) ?_ (by simp [RV, Rv])
            simp only [execOp, hv0, Sem.run_bind, run_convert_bytes_string w s d e _ _ _ hd he hd2]
            rcases hx0 with hnil | ⟨blk, off, esz, ws, rfl, hz, hre, hcl⟩
            · subst hnil
              simp only [bytesOf, Option.some.injEq] at hb'
              subst hb'
              cases a0 with
              | none => rfl
              | some ad =>
                have := run_bytesToString (P := P) w ad 0 c [] (by simp [loadCells, loadCellsFrom])
                simp only [List.length_nil]
                rw [this]
                rfl
            · obtain ⟨ns, g1, g2, g3⟩ := bytes_row hb' hre
              have hl := run_loadC (P := P) hcl
              have hlen : ws.length = ys.length := by rw [g1, List.length_map, g3]
              rw [hlen, g1] at hl
              have := run_bytesToString (P := P) w ⟨blk, off, none⟩ ys.length c ns hl
              rw [this, push_all, g2]
              simp
  case bytes => cases he
end
end Go.Abs
