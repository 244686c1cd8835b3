import Derived.Test.YtbfnelnbjcfliaaAbs11
import Derived.Laws.MakeOwn
import Derived.Laws.RangeAny
/-! The operations that make objects or write them. -/
set_option linter.unusedVariables false
set_option linter.unusedSimpArgs false
namespace Go.Abs
section
variable {P : Program} {T : FuncId → Option RF} {G : Nat → Option (List D)} {call : CallF} {iter : (St → Rs) → St → Rs} {ρ : Rho} {F : Blks} {stk : Stk} {w : World} {fr : Fr} {a : Act}

/-! ### Blocks that are written -/
def putB (w : World) (g : Nat) (ob : Obj) : World := { w with heap := w.heap.setIfInBounds g ob }
theorem putB_same {g : Nat} {ob ob' : Obj} (h : w.heap[g]? = some ob) : (putB w g ob').heap[g]? = some ob' := by
  have := (Array.getElem?_eq_some_iff.1 h).1
  simp [putB, this]
theorem putB_ne {g b : Nat} {ob' : Obj} (h : b ≠ g) : (putB w g ob').heap[b]? = w.heap[b]? := by
  simp [putB, Array.getElem?_setIfInBounds_ne (Ne.symm h)]
theorem putB_size {g : Nat} {ob' : Obj} : (putB w g ob').heap.size = w.heap.size := by simp [putB]
theorem putB_put {g : Nat} {o1 o2 : Obj} : putB (putB w g o1) g o2 = putB w g o2 := by simp [putB]
theorem putB_self {g : Nat} {ob : Obj} (h : w.heap[g]? = some ob) : putB w g ob = w := by
  unfold putB
  have hlt := (Array.getElem?_eq_some_iff.1 h).1
  have : w.heap.setIfInBounds g ob = w.heap := by
    apply Array.ext_getElem?
    intro i
    by_cases e : i = g
    · subst e; simp [hlt, h]
      have := (Array.getElem?_eq_some_iff.1 h).2
      exact this.symm
    · rw [Array.getElem?_setIfInBounds_ne (Ne.symm e)]
  rw [this]
theorem setCell_putB {g o : Nat} {c : Array Value} {t : TypeId} {fz : Nat × Nat} {v : Value} (h : w.heap[g]? = some (.cells c t fz)) : w.setCell ⟨g, o, none⟩ v = putB w g (.cells (c.setIfInBounds o v) t fz) := by
  have hlt := (Array.getElem?_eq_some_iff.1 h).1
  have he := (Array.getElem?_eq_some_iff.1 h).2
  unfold World.setCell putB
  congr 1
  apply Array.ext_getElem?
  intro i
  by_cases e : i = g
  · subst e
    rw [Array.getElem?_modify, if_pos rfl, h]
    simp [hlt]
  · rw [Array.getElem?_setIfInBounds_ne (Ne.symm e)]
    simp [Array.getElem?_modify, Ne.symm e]
theorem run_storeAt (g o : Nat) (t : TypeId) (fz : Nat × Nat) : ∀ (vs : List Value) (i : Nat) (cur : Array Value) (w : World), w.heap[g]? = some (.cells cur t fz) → noFz cur fz → o + i + vs.length ≤ cur.size → (∀ v ∈ vs, v.oneCell' = true) →
    ∃ new : Array Value, (storeCells ⟨g, o, none⟩ vs i).run P w = .ok () (putB w g (.cells new t fz)) ∧ new.toList = splice cur.toList (o + i) vs
  | [], i, cur, w, hg, _, _, _ => by
    refine ⟨cur, ?_, by simp [splice]⟩
    rw [putB_self hg]
    rfl
  | v :: rest, i, cur, w, hg, hf, hl, h1 => by
    have hi : o + i < cur.size := by simp at hl; omega
    have hadd : (⟨g, o, none⟩ : Addr).add i = ⟨g, o + i, none⟩ := Addr.add_off g o i
    have hcell : w.cell? ⟨g, o + i, none⟩ = some cur[o + i] := by simp [World.cell?, hg, hi]
    have hfro : w.frozen? ⟨g, o + i, none⟩ = false := by
      obtain ⟨lo, hi'⟩ := fz
      simp only [World.frozen?, hg]
      exact hf (o + i) hi
    have hst : (store ((⟨g, o, none⟩ : Addr).add i) v).run P w = .ok () (putB w g (.cells (cur.setIfInBounds (o + i) v) t fz)) := by
      rw [hadd, run_store P w _ v _ (h1 v (by simp)), hcell]
      simp only [hfro, Bool.false_eq_true, if_false]
      rw [setCell_putB hg]
    obtain ⟨new, h2, h3⟩ := run_storeAt g o t fz rest (i + 1) (cur.setIfInBounds (o + i) v) (putB w g (.cells (cur.setIfInBounds (o + i) v) t fz)) (putB_same hg) (fun j hj => hf j (by simpa using hj)) (by simp at hl ⊢; omega) (fun x hx => h1 x (by simp [hx]))
    refine ⟨new, ?_, ?_⟩
    · simp only [storeCells, Sem.run_bind, hst, Result.andThen_ok, h2, putB_put]
    · rw [h3]
      have e := list_seg_step cur.toList (o + i) v rest (by simp at hl ⊢; omega)
      simp only [splice]
      simpa [Array.toList_setIfInBounds, Nat.add_assoc, Nat.add_comm, Nat.add_left_comm] using e

theorem alloc_at (w : World) (ob : Obj) : (w.alloc ob).heap[w.heap.size]? = some ob := by simp only [World.alloc, Array.getElem?_push_size]
/-! ### Results -/
theorem OV.of_run {o : Oper} {v : V} {stk' : Stk} {n : Next} {w' : World} {ρ' : Rho} {F' : Blks} {v' : Value} (hr : (execOp a.eval o).run P w = .ok n w') (hn : n = .value v' ∨ (n = .skip ∧ v' = undef))
    (hs : nums stk' = nums stk) (hgo : Goes (topN stk + 1) ρ F stk w ρ' F' stk' w') (hok : Ok ρ' F' stk' w') (hv : RV ρ' F' stk' w' v v') : OV P ρ F stk w a o v stk' where
  nums := hs
  wp K Q h := by
    unfold Oper.wp
    rw [hr]
    rcases hn with rfl | ⟨rfl, rfl⟩
    · exact h _ _ _ hgo hok _ hv
    · exact h _ _ _ hgo hok _ hv
theorem OV.of_QR {o : Oper} {v : V} (h : QR P ρ F stk w v (execOp a.eval o)) : OV P ρ F stk w a o v stk := by
  obtain ⟨F', w', v', h1, h2, h3, h4⟩ := h
  exact .of_run h1 (.inl rfl) rfl (h2 _) h3 h4

theorem newO_inv {stk : Stk} {dst : Option Nat} {o : O} {mk : Lab → V} {r : Res} (h : newO stk dst o mk = some r) :
    ∃ t c s, dst = some t ∧ stk = c :: s ∧ getK [t] c.os = none ∧ r = .val (mk ⟨c.n, [t]⟩) (⟨c.n, c.os ++ [([t], o)]⟩ :: s) := by
  unfold newO at h
  split at h
  · rename_i t c s
    split at h
    · rename_i hk
      cases h
      exact ⟨t, c, s, rfl, rfl, hk, rfl⟩
    · cases h
  · cases h
/-- A new object, by the run. -/
theorem new_res (hok : Ok ρ F stk w) {o : Oper} {ob0 : O} {mk : Lab → V} {r : Res} (h : newO stk o.dst ob0 mk = some r) {w0 w' : World} {val : Value} {cap : Nat}
    (hr : (execOp a.eval o).run P w = .ok (.value val) w')
    (h0 : w0.heap = w.heap) (h1 : w0.os = w.os) (h2 : w0.tape = w.tape) (h3 : w0.output = w.output)
    (hw1 : w'.os = w0.os) (hw2 : w'.tape = w0.tape) (hw3 : w'.output = w0.output) (hw4 : w'.heap.size = w.heap.size + 1) (hw5 : ∀ b, b < w.heap.size → w'.heap[b]? = w.heap[b]?)
    (hs : ∀ v ∈ ob0.vals, V.upto (topN stk) v = true)
    (hro : ∀ l stk' ρ', (∀ m, Moves m ρ F stk w ρ' F stk' w') → ρ' l = ⟨w.heap.size, cap⟩ → RO ρ' F stk' w' l ob0)
    (hv : ∀ l stk' ρ', ρ' l = ⟨w.heap.size, cap⟩ → getO stk' l = some ob0 → RV ρ' F stk' w' (mk l) val) : ORes P ρ F stk w a o r := by
  obtain ⟨t, c, s, e1, e2, e3, rfl⟩ := newO_inv h
  obtain ⟨g1, g2, g3⟩ := new_sound (o := ob0) (cap := cap) (w0 := w0) (w' := w') (ob := .cells #[] 0 (0, 0)) hok e2 e3 h0 h1 h2 h3 hw1 hw2 hw3 hw4 hw5 (by subst e2; exact hs)
    (fun hm => hro _ _ _ hm (by simp [upd]))
  exact OV.of_run hr (.inl rfl) (by subst e2; simp [nums]) (g1 _) g2 (hv _ _ _ (by simp [upd]) g3)

theorem r_alloc (hok : Ok ρ F stk w) (hG : Glob G F w) (hfr : RFr ρ F stk w fr a.tmps) {o : Oper} {z : List D} (hm : mR P o.op (.alloc z) = true) {r : Res}
    (he : evR (Sys.real T G call iter) o.dst fr stk (.alloc z) = some r) : ORes P ρ F stk w a o r := by
  simp only [evR] at he
  cases hop : o.op <;> rw [hop] at hm <;> simp only [mR, Bool.false_eq_true] at hm
  rename_i e
  obtain ⟨v, hz, hl⟩ := run_zeros (w := w) F hm
  refine new_res (cap := 0) (w0 := w) (w' := w.alloc (.cells v.cells e)) (val := .pointer (some ⟨w.heap.size, 0, none⟩)) hok he ?_ rfl rfl rfl rfl rfl rfl rfl (by simp) (fun b hb => heap_alloc_old w _ b hb) ?_ ?_ ?_
  · simp [execOp, hop, Instr.alloc, hz, newVar, newRow]
  · intro v hv
    simp only [O.vals, List.mem_map] at hv
    obtain ⟨x, _, rfl⟩ := hv
    simp [V.upto]
  · intro l stk' ρ' hmv hρ
    simp only [RO, hρ]
    exact ⟨v.cells, e, alloc_at w _, RVl_of_Rl (Rl.keep (hmv 0).keep z _ hl)⟩
  · intro l stk' ρ' hρ hg
    simp only [RV, hρ]
    exact ⟨trivial, _, hg, rfl⟩
theorem r_box (hok : Ok ρ F stk w) (hG : Glob G F w) (hfr : RFr ρ F stk w fr a.tmps) {o : Oper} {y : Opd} (hm : mR P o.op (.box y) = true) {r : Res}
    (he : evR (Sys.real T G call iter) o.dst fr stk (.box y) = some r) : ORes P ρ F stk w a o r := by
  simp only [evR] at he
  split at he <;> try (cases he; done)
  rename_i hf hu
  cases hop : o.op <;> rw [hop] at hm <;> simp only [mR, Bool.false_eq_true] at hm
  rename_i e x
  have hx := ev_sound (T := T) (call := call) (iter := iter) hG hfr hm
  have hl := flat_cells hf hx
  have hup : ∀ v ∈ (y.ev (Sys.real T G call iter) fr).cells, V.upto (topN stk) v = true := by
    generalize y.ev (Sys.real T G call iter) fr = vy at hu hf
    intro v hv
    cases vy
    case d x =>
      simp only [V.cells, List.mem_map] at hv
      obtain ⟨x, _, rfl⟩ := hv
      simp [V.upto]
    case agg cs =>
      simp only [V.cells] at hv
      simp only [V.upto] at hu
      have : ∀ {cs : List V}, uptoL (topN stk) cs = true → ∀ v ∈ cs, V.upto (topN stk) v = true := by
        intro cs
        induction cs with
        | nil => intro _ v hv; cases hv
        | cons x r ih =>
          intro h v hv
          simp only [uptoL, Bool.and_eq_true] at h
          rcases List.mem_cons.1 hv with rfl | hv
          · exact h.1
          · exact ih h.2 v hv
      exact this hu v hv
    all_goals
      simp only [V.cells, List.mem_singleton] at hv
      subst hv
      exact hu
  refine new_res (cap := 0) (w0 := w) (w' := w.alloc (.cells (a.eval x).cells e)) (val := .pointer (some ⟨w.heap.size, 0, none⟩)) hok he ?_ rfl rfl rfl rfl rfl rfl rfl (by simp) (fun b hb => heap_alloc_old w _ b hb) hup ?_ ?_
  · simp [execOp, hop, Instr.box, newVar, newRow]
  · intro l stk' ρ' hmv hρ
    simp only [RO, hρ]
    refine ⟨(a.eval x).cells, e, alloc_at w _, RVl.moves (hmv (topN stk + 1)) _ _ ?_ hl⟩
    have : ∀ {cs : List V}, (∀ v ∈ cs, V.upto (topN stk) v = true) → uptoL (topN stk) cs = true := by
      intro cs
      induction cs with
      | nil => intro _; simp [uptoL]
      | cons x r ih => intro h; simp only [uptoL, Bool.and_eq_true]; exact ⟨h x (by simp), ih fun v hv => h v (by simp [hv])⟩
    exact this hup
  · intro l stk' ρ' hρ hg
    simp only [RV, hρ]
    exact ⟨trivial, _, hg, rfl⟩

theorem noFz_zero {c : Array Value} : noFz c (0, 0) := by intro j hj; simp
theorem lit_ilit {P : Program} {op : Op} {esz : Nat} {ys : List Opd} (h : mR P op (.lit esz ys) = true) : mR P op (.ilit esz ys) = true := by
  cases op <;> simp only [mR, Bool.false_eq_true] at h ⊢ <;> exact h
theorem r_lit (hok : Ok ρ F stk w) (hG : Glob G F w) (hfr : RFr ρ F stk w fr a.tmps) {o : Oper} {esz : Nat} {ys : List Opd} (hm : mR P o.op (.lit esz ys) = true) {r : Res}
    (he : evR (Sys.real T G call iter) o.dst fr stk (.lit esz ys) = some r) : ORes P ρ F stk w a o r := by
  simp only [evR] at he
  split at he <;> try (cases he; done)
  rename_i ds hd
  split at he <;> try (cases he; done)
  rename_i hs
  obtain ⟨ws, e, h1, h2, h3⟩ := lit_run (P := P) hG hfr (lit_ilit hm) hd hs
  have hlen := Re_len h3
  refine new_res (cap := ds.length) (w0 := w) hok he h1 rfl rfl rfl rfl rfl rfl rfl (by simp) (fun b hb => heap_alloc_old w _ b hb) (by intro v hv; cases hv) ?_ ?_
  · intro l stk' ρ' hmv hρ
    simp only [RO, hρ]
    exact .inr ⟨ws, e, (0, 0), ws.toList, [], alloc_at w _, noFz_zero, h2, Re.keep (hmv 0).keep esz ds _ h3, by simp, by simpa using hlen, Nat.le_refl _⟩
  · intro l stk' ρ' hρ hg
    simp only [RV, hρ]
    refine ⟨0, esz, ds, hg, ⟨_, _, rfl⟩, Nat.le_refl _, fun _ => ⟨_, _, rfl, Nat.le_refl _, by simp, fun _ => by simp⟩⟩

theorem r_mkMap (hok : Ok ρ F stk w) (hG : Glob G F w) (hfr : RFr ρ F stk w fr a.tmps) {o : Oper} (hm : mR P o.op .mkMap = true) {r : Res}
    (he : evR (Sys.real T G call iter) o.dst fr stk .mkMap = some r) : ORes P ρ F stk w a o r := by
  simp only [evR] at he
  cases hop : o.op <;> rw [hop] at hm <;> (try (simp only [mR, Bool.false_eq_true] at hm; done))
  rename_i t rv
  cases rv <;> simp only [mR, Bool.false_eq_true] at hm
  refine new_res (cap := 0) (w0 := w) (w' := w.alloc (.map #[] 0)) (val := .map (some w.heap.size)) hok he ?_ rfl rfl rfl rfl rfl rfl rfl (by simp) (fun b hb => heap_alloc_old w _ b hb) (by intro v hv; cases hv) ?_ ?_
  · simp [execOp, hop, Instr.makeMap]
  · intro l stk' ρ' hmv hρ
    simp only [RO, hρ]
    exact ⟨#[], alloc_at w _, by simp [RE]⟩
  · intro l stk' ρ' hρ hg
    simp only [RV, hρ]
    exact ⟨trivial, _, hg, rfl⟩
theorem r_range (hok : Ok ρ F stk w) (hG : Glob G F w) (hfr : RFr ρ F stk w fr a.tmps) {o : Oper} {y : Opd} (hm : mR P o.op (.range y) = true) {r : Res}
    (he : evR (Sys.real T G call iter) o.dst fr stk (.range y) = some r) : ORes P ρ F stk w a o r := by
  simp only [evR] at he
  cases hop : o.op <;> rw [hop] at hm <;> simp only [mR, Bool.false_eq_true] at hm
  rename_i t x
  simp only [Bool.and_eq_true] at hm
  have hx := ev_sound (T := T) (call := call) (iter := iter) hG hfr hm.2
  cases hu : P.underlying t with
  | none => simp [hu] at hm
  | some d =>
    cases d <;> simp [hu] at hm
    split at he <;> try (cases he; done)
    rename_i s hs
    rw [hs] at hx
    simp only [RV, Rv] at hx
    refine new_res (cap := 0) (w0 := w) (w' := w.alloc (.stringIter ⟨⟨s⟩⟩ 0)) (val := .pointer (some ⟨w.heap.size, 0, none⟩)) hok he ?_ rfl rfl rfl rfl rfl rfl rfl (by simp) (fun b hb => heap_alloc_old w _ b hb) (by intro v hv; cases hv) ?_ ?_
    · simp [execOp, hop, Instr.range, run_underlying hu, hx]
    · intro l stk' ρ' hmv hρ
      simp only [RO, hρ]
      exact alloc_at w _
    · intro l stk' ρ' hρ hg
      simp only [RV, hρ]
      exact ⟨trivial, _, hg, rfl⟩

theorem made_take {zv : Value} {esz : Nat} {z : D} (h0 : 0 < esz) (hz : Rv F w z zv) (h1 : ∀ c ∈ zv.cells.toList, c.oneCell' = true) (hs : zv.cells.size = esz) : ∀ (n k : Nat), n ≤ k →
    ∃ ws rest, (madeCells zv.cells (k * esz)).toList = ws ++ rest ∧ Re F w esz (List.replicate n z) ws := by
  intro n k hk
  have hall : ∀ n, (madeCells zv.cells (n * esz)).toList = (List.replicate n zv).flatMap fun v => v.cells.toList := by
    intro n
    apply List.ext_getElem?
    intro i
    rw [Great.flat_get h0 _ (fun v hv => by rw [(List.mem_replicate.1 hv).2]; exact hs)]
    simp only [madeCells, Array.toList_map, List.getElem?_map, Array.toList_range, List.getElem?_range']
    by_cases hi : i < n * esz
    · have h2 : i / esz < n := (Nat.div_lt_iff_lt_mul h0).2 hi
      have h3 : i % esz < zv.cells.size := by rw [hs]; exact Nat.mod_lt _ h0
      rw [List.getElem?_range hi]
      simp only [Option.map_some, List.getElem?_replicate, h2, if_true, Option.bind_some, hs]
      rw [getElem!_pos zv.cells (i % esz) h3, Array.getElem?_eq_getElem h3]
    · have h2 : ¬ i / esz < n := fun h => hi ((Nat.div_lt_iff_lt_mul h0).1 h)
      rw [List.getElem?_eq_none (by simpa using Nat.le_of_not_lt hi)]
      simp [List.getElem?_replicate, h2]
  have hre : ∀ n, Re F w esz (List.replicate n z) ((List.replicate n zv).flatMap fun v => v.cells.toList) := by
    intro n
    induction n with
    | zero => simp [Re]
    | succ n ih =>
      simp only [List.replicate_succ, Re, List.flatMap_cons]
      exact ⟨zv, _, rfl, hs, List.all_eq_true.2 h1, hz, ih⟩
  refine ⟨(List.replicate n zv).flatMap (fun v => v.cells.toList), (List.replicate (k - n) zv).flatMap (fun v => v.cells.toList), ?_, hre n⟩
  rw [hall k, ← List.flatMap_append, List.replicate_append_replicate]
  congr 2; omega
theorem r_mkSl (hok : Ok ρ F stk w) (hG : Glob G F w) (hfr : RFr ρ F stk w fr a.tmps) {o : Oper} {esz bytes : Nat} {z : D} {l c : Opd} (hm : mR P o.op (.mkSl esz bytes z l c) = true) {r : Res}
    (he : evR (Sys.real T G call iter) o.dst fr stk (.mkSl esz bytes z l c) = some r) : ORes P ρ F stk w a o r := by
  simp only [evR] at he
  cases hop : o.op <;> rw [hop] at hm <;> simp only [mR, Bool.false_eq_true] at hm
  rename_i t lv cv
  simp only [Bool.and_eq_true] at hm
  obtain ⟨⟨h1, h2⟩, h3⟩ := hm
  have hl := ev_sound (T := T) (call := call) (iter := iter) hG hfr h2
  have hc := ev_sound (T := T) (call := call) (iter := iter) hG hfr h3
  cases hu : P.underlying t with
  | none => simp [hu] at h1
  | some d =>
    cases d <;> simp only [hu, Bool.false_eq_true] at h1
    rename_i e
    simp only [Bool.and_eq_true, decide_eq_true_eq] at h1
    obtain ⟨⟨⟨h4, h5⟩, h6⟩, h7⟩ := h1
    split at he <;> try (cases he; done)
    rename_i kl n kc m hn hm'
    rw [hn] at hl
    rw [hm'] at hc
    simp only [RV, Rv] at hl hc
    split at he <;> try (cases he; done)
    rename_i hneg
    split at he <;> try (cases he; done)
    rename_i hneg2
    split at he <;> try (cases he; done)
    rename_i hle
    split at he <;> try (cases he; done)
    rename_i hfit
    split at he <;> try (cases he; done)
    rename_i hall
    have hneg' : ¬ n < 0 := by simpa [Sys.real] using hneg
    have hneg2' : ¬ m < 0 := by simpa [Sys.real] using hneg2
    have hle' : n.toNat ≤ m.toNat := by simpa [Sys.real] using hle
    have hfit' : m.toNat * bytes ≤ room ∧ m.toNat ≤ room := by simpa [Sys.real] using hfit
    obtain ⟨a1, a2, _⟩ := allSz_cons (show allSz esz [z] = true from hall)
    obtain ⟨ie, g1, g2⟩ := tSz_info h4
    obtain ⟨zv, g3, g4⟩ : ∃ zv, ie.zero = some zv ∧ isDv zv z = true := by
      unfold tZero at h6
      simp only [g1] at h6
      cases hz : ie.zero with
      | none => simp [hz] at h6
      | some zv => simp only [hz] at h6; exact ⟨zv, rfl, h6⟩
    have hby : ie.bytes = bytes := by
      unfold tBy at h5
      simpa [g1] using h5
    have hzv := isDv_sound F w _ _ g4
    have hcl := dflat_cells a1 hzv
    have hsz : zv.cells.size = esz := by have := Rl_len hcl; simp at this; omega
    subst g2
    have hrun := run_make (P := P) w t e ie zv hu g1 g3 kl kc n m (by omega) (by omega) (by
      rw [hby]
      have : m = (m.toNat : Int) := by omega
      rw [this, ← Int.natCast_mul, Nat.mul_comm]
      have := hfit'.1
      simp only [room] at this
      omega) (by have := hfit'.2; simp only [room] at this; omega)
    obtain ⟨ws, rest, k1, k2⟩ := made_take h7 hzv (Rl_one hcl) hsz n.toNat m.toNat hle'
    refine new_res (cap := m.toNat) (w0 := w) hok he ?_ rfl rfl rfl rfl rfl rfl rfl (by simp) (fun b hb => heap_alloc_old w _ b hb) (by intro v hv; cases hv) ?_ ?_ (w' := w.alloc (.cells (madeCells zv.cells (m.toNat * ie.size)) e)) (val := .slice (some ⟨w.heap.size, 0, none⟩) n.toNat m.toNat)
    · simp only [execOp, hop, hl, hc, Sem.run_bind, hrun, Result.andThen_ok]; rfl
    · intro lb stk' ρ' hmv hρ
      simp only [RO, hρ]
      exact .inr ⟨_, e, (0, 0), ws, rest, alloc_at w _, noFz_zero, h7, Re.keep (hmv 0).keep _ _ _ k2, k1, by simp [size_madeCells], by show (List.replicate n.toNat z).length ≤ _; simpa using hle'⟩
    · intro lb stk' ρ' hρ hg
      simp only [RV, hρ]
      refine ⟨0, _, _, hg, ⟨_, _, rfl⟩, Nat.le_refl _, fun _ => ⟨_, _, rfl, hle', by simp, fun _ => by simp⟩⟩

/-! ### Stores -/
theorem uptoL_mem {n : Nat} : ∀ {cs : List V}, uptoL n cs = true ↔ ∀ v ∈ cs, V.upto n v = true
  | [] => by simp [uptoL]
  | x :: r => by simp [uptoL, uptoL_mem (cs := r)]
theorem cells_upto {n : Nat} {v : V} (h : V.upto n v = true) : ∀ x ∈ v.cells, V.upto n x = true := by
  intro x hx
  cases v
  case d x =>
    simp only [V.cells, List.mem_map] at hx
    obtain ⟨x, _, rfl⟩ := hx
    simp [V.upto]
  case agg cs =>
    simp only [V.cells] at hx
    simp only [V.upto] at h
    exact uptoL_mem.1 h x hx
  all_goals
    simp only [V.cells, List.mem_singleton] at hx
    subst hx
    exact h
theorem mem_splice {α : Type} {cs xs : List α} {off : Nat} {x : α} (h : x ∈ splice cs off xs) : x ∈ cs ∨ x ∈ xs := by
  unfold splice at h
  rcases List.mem_append.1 h with h | h
  · rcases List.mem_append.1 h with h | h
    · exact .inl (List.mem_of_mem_take h)
    · exact .inr h
  · exact .inl (List.mem_of_mem_drop h)
theorem splice_length {α : Type} {cs xs : List α} {off : Nat} (h : off + xs.length ≤ cs.length) : (splice cs off xs).length = cs.length := by
  unfold splice; simp; omega
theorem Rl_splice {cs xs : List D} {us vs : List Value} (h : Rl F w cs us) (k : Rl F w xs vs) (off : Nat) : Rl F w (splice cs off xs) (splice us off vs) := by
  unfold splice
  rw [Rl_len k]
  exact Rl_append (Rl_append (Rl_take off h) k) (Rl_drop _ h)
theorem Re_set {esz : Nat} {x' : D} {u' : Value} (h1 : u'.cells.size = esz) (h2 : ∀ c ∈ u'.cells.toList, c.oneCell' = true) (h3 : Rv F w x' u') : ∀ {xs : List D} {ws : List Value} {i : Nat}, Re F w esz xs ws → i < xs.length →
    Re F w esz (xs.set i x') (splice ws (i * esz) u'.cells.toList)
  | [], ws, i, h, hi => by simp at hi
  | y :: r, ws, 0, h, hi => by
    simp only [Re] at h
    obtain ⟨u, ws', rfl, g1, g2, g3, g4⟩ := h
    simp only [List.set_cons_zero, Re]
    refine ⟨u', ws', ?_, h1, List.all_eq_true.2 h2, h3, g4⟩
    have e1 : u.cells.toList.length = u'.cells.toList.length := by simp [g1, h1]
    simp [splice, ← e1]
  | y :: r, ws, i + 1, h, hi => by
    simp only [Re] at h
    obtain ⟨u, ws', rfl, g1, g2, g3, g4⟩ := h
    simp only [List.set_cons_succ, Re]
    refine ⟨u, splice ws' (i * esz) u'.cells.toList, ?_, g1, g2, g3, Re_set h1 h2 h3 g4 (by simpa using hi)⟩
    have e1 : u.cells.toList.length = esz := by simp [g1]
    have e2 : (i + 1) * esz = esz + i * esz := by rw [Nat.add_mul]; omega
    unfold splice
    rw [e2, List.take_append, e1, List.drop_append, e1, List.take_of_length_le (by omega), List.drop_eq_nil_of_le (by omega)]
    simp only [List.nil_append, List.append_assoc]
    congr 2
    · congr 1; omega
    · congr 1
      congr 1; omega
theorem run_storeV {t : TypeId} {b o : Nat} {u : Value} {sz : Nat} {cur : Array Value} {e : TypeId} {fz : Nat × Nat} (hs : tSz P t sz = true) (hu : u.cells.size = sz) (hg : w.heap[b]? = some (.cells cur e fz)) (hf : noFz cur fz) (hle : o + sz ≤ cur.size) (h1 : ∀ v ∈ u.cells.toList, v.oneCell' = true) :
    ∃ new : Array Value, (storeVar t ⟨b, o, none⟩ u).run P w = .ok () (putB w b (.cells new e fz)) ∧ new.toList = splice cur.toList o u.cells.toList := by
  obtain ⟨new, h2, h3⟩ := run_storeAt (P := P) b o e fz u.cells.toList 0 cur w hg hf (by simp; omega) h1
  refine ⟨new, ?_, by simpa using h3⟩
  simp only [storeVar, Sem.run_bind, run_size hs, Result.andThen_ok, hu, ne_eq, not_true_eq_false, if_false, Sem.run_pure, h2]
theorem splice_splice {α : Type} {cs xs : List α} {o p n : Nat} (hn : p + xs.length ≤ n) (hc : o + n ≤ cs.length) : splice cs o (splice ((cs.drop o).take n) p xs) = splice cs (o + p) xs := by
  unfold splice
  apply List.ext_getElem?
  intro i
  simp only [List.getElem?_append, List.getElem?_take, List.getElem?_drop, List.length_append, List.length_take, List.length_drop]
  repeat' split
  all_goals first
    | (exfalso; omega; done)
    | (congr 1; omega; done)
    | (rfl; done)

def putElem (y : D) (off : Nat) (ds : List D) : D := match y with | .agg cs => .agg (splice cs off ds) | _ => ds.headD .any
theorem r_store (hok : Ok ρ F stk w) (hG : Glob G F w) (hfr : RFr ρ F stk w fr a.tmps) {o : Oper} {sz : Nat} {p y : Opd} (hm : mR P o.op (.store sz p y) = true) {r : Res}
    (he : evR (Sys.real T G call iter) o.dst fr stk (.store sz p y) = some r) : ORes P ρ F stk w a o r := by
  simp only [evR] at he
  split at he <;> try (cases he; done)
  rename_i hf
  split at he <;> try (cases he; done)
  rename_i hsz
  cases hop : o.op <;> rw [hop] at hm <;> simp only [mR, Bool.false_eq_true] at hm
  rename_i t pa x
  simp only [Bool.and_eq_true] at hm
  obtain ⟨⟨h1, h2⟩, h3⟩ := hm
  have hp := ev_sound (T := T) (call := call) (iter := iter) hG hfr h2
  have hx := ev_sound (T := T) (call := call) (iter := iter) hG hfr h3
  have hc := flat_cells hf hx
  generalize y.ev (Sys.real T G call iter) fr = vy at *
  have hlen := RVl_len hc
  have hone := RVl_one hc
  simp only [Array.length_toList] at hlen
  have hus : (a.eval x).cells.size = sz := by omega
  have run : ∀ b off w', (storeVar t ⟨b, off, none⟩ (a.eval x)).run P w = .ok () w' → a.eval pa = .pointer (some ⟨b, off, none⟩) → (execOp a.eval o).run P w = .ok .skip w' := by
    intro b off w' h4 h5
    simp only [execOp, hop, Instr.storeAt, h5, Instr.sureAddr, Sem.run_bind, Sem.run_pure, Result.andThen_ok, h4]
  split at he <;> try (cases he; done)
  · rename_i l off hv
    rw [hv] at hp
    simp only [RV] at hp
    split at he <;> try (cases he; done)
    rename_i cs hg
    split at he <;> try (cases he; done)
    rename_i hle
    split at he <;> try (cases he; done)
    rename_i hup
    cases he
    obtain ⟨c, e, k1, k2⟩ := hok.objs l _ hg
    have hcl := RVl_len k2
    simp only [Array.length_toList] at hcl
    obtain ⟨new, k3, k4⟩ := run_storeV (P := P) (o := off) (sz := sz) h1 hus k1 noFz_zero (by omega) hone
    obtain ⟨g1, g2⟩ := set_sound (o' := .cells (splice cs off vy.cells)) (w' := putB w (ρ l).blk (.cells new e (0, 0))) (ρ' := ρ) hok hg rfl rfl rfl (by rw [putB_size]; exact Nat.le_refl _) (fun b _ hb => putB_ne (hb (.inl rfl))) (fun _ _ => rfl) (fun _ => .inl ⟨rfl, .inl rfl⟩) (by simp [Turned]) (fun v hv => by
        rcases mem_splice hv with h | h
        · exact hok.scope l _ hg v h
        · exact cells_upto hup v h) (fun hmv => by
        simp only [RO]
        refine ⟨new, e, putB_same k1, ?_⟩
        rw [k4]
        have hlv := getO_lv hok.falls hg
        exact RVl_splice (RVl.moves (hmv (topN stk + 1)) _ _ (uptoL_mem.2 fun v hv => (upto_mono hlv).1 v (hok.scope l _ hg v hv)) k2)
          (RVl.moves (hmv (topN stk + 1)) _ _ (uptoL_mem.2 fun v hv => (upto_mono hlv).1 v (cells_upto hup v hv)) hc) off)
    exact OV.of_run (run _ _ _ k3 hp.1) (.inr ⟨rfl, rfl⟩) nums_set (g1 _) g2 trivial
  · rename_i l g i off hv
    rw [hv] at hp
    simp only [RV] at hp
    split at he <;> try (cases he; done)
    rename_i g' esz ys hg
    split at he <;> try (cases he; done)
    rename_i y0 ds hy hds
    split at he <;> try (cases he; done)
    rename_i hgg
    subst hgg
    split at he <;> try (cases he; done)
    rename_i hle
    split at he <;> try (cases he; done)
    rename_i hye
    cases he
    obtain ⟨g', esz', xs', hg', _, _, hpt⟩ := hp
    rw [hg] at hg'
    simp only [Option.some.injEq, O.arr.injEq] at hg'
    obtain ⟨rfl, rfl, rfl⟩ := hg'
    have hpt := hpt rfl
    obtain ⟨k0, c, e, fz, ws, rest, k1, k2, k3, k4, k5, k6, k7⟩ := RO_arr (hok.objs l _ hg) (ne_get hy)
    have hy' : ys[i]? = some y0 := hy
    have hi : i < ys.length := (List.getElem?_eq_some_iff.1 hy').1
    obtain ⟨u, q1, q2, q3, q4⟩ := Re_at k4 hy'
    have hdl := Rl_of_allD hds hc
    have hdlen := Rl_len hdl
    simp only [Array.length_toList] at hdlen
    have hws := Re_len k4
    have hmul : (i + 1) * esz ≤ ys.length * esz := Nat.mul_le_mul_right _ hi
    rw [Nat.add_mul, Nat.one_mul] at hmul
    have hcsz : ws.length ≤ c.size := by
      have : c.toList.length = ws.length + rest.length := by rw [k5]; simp
      simp only [Array.length_toList] at this; omega
    obtain ⟨new, k8, k9⟩ := run_storeV (P := P) (o := i * esz + off) h1 hus k1 k2 (by omega) hone
    -- the element behind
    have hel : ∃ u', u'.cells.toList = splice u.cells.toList off (a.eval x).cells.toList ∧ Rv F w (putElem y0 off ds) u' := by
      have hcy := Rv_cells q3 q2
      by_cases hagg : ∃ cs, y0 = .agg cs
      · obtain ⟨cs, rfl⟩ := hagg
        simp only [Rv] at q3
        obtain ⟨us, rfl, hl⟩ := q3
        refine ⟨.agg (splice us.toList off (a.eval x).cells.toList).toArray, by simp [Value.cells], ?_⟩
        show Rv F w (.agg (splice cs off ds)) _
        simp only [Rv]
        exact ⟨_, rfl, by simpa using Rl_splice hl hdl off⟩
      · have hcell : y0.cells = [y0] := by
          cases y0 <;> first | rfl | exact absurd ⟨_, rfl⟩ hagg
        rw [hcell] at hcy hye hle
        simp only [Rl] at hcy
        obtain ⟨u0, us', hu0, ho0, hr0, hnil⟩ := hcy
        subst hnil
        simp only [List.length_singleton] at hle hye
        -- either nothing is written, or the whole
        by_cases hs0 : sz = 0
        · have hx0 : (a.eval x).cells.toList = [] := List.eq_nil_of_length_eq_zero (by rw [Array.length_toList]; omega)
          have hd0 : ds = [] := List.eq_nil_of_length_eq_zero (by omega)
          subst hd0
          refine ⟨u0, ?_, ?_⟩
          · have : u0.cells.toList = [u0] := by cases u0 <;> first | rfl | (cases ho0)
            rw [this, hx0, hu0]
            simp [splice]
          · have : putElem y0 off [] = .any := by
              cases y0 <;> first | exact absurd ⟨_, rfl⟩ hagg | rfl
            rw [this]
            simpa [Rv] using ho0
        · have hs1 : sz = 1 := by omega
          have ho : off = 0 := by omega
          subst ho
          have hdl1 : ds.length = 1 := by omega
          obtain ⟨d, rfl⟩ := List.length_eq_one_iff.1 hdl1
          simp only [Rl] at hdl
          obtain ⟨u1, us1, hu1, ho1, hr1, hnil1⟩ := hdl
          subst hnil1
          refine ⟨u1, ?_, ?_⟩
          · have : u1.cells.toList = [u1] := by cases u1 <;> first | rfl | (cases ho1)
            rw [this, hu1, hu0]
            simp [splice]
          · cases y0 <;> first | exact absurd ⟨_, rfl⟩ hagg | exact hr1
    obtain ⟨u', hu1, hu2⟩ := hel
    have hu'sz : u'.cells.size = esz := by
      have : u'.cells.toList.length = esz := by rw [hu1, splice_length (by simp; omega)]; simpa using q1
      simpa using this
    have hu'one : ∀ c ∈ u'.cells.toList, c.oneCell' = true := by
      intro c hc
      rw [hu1] at hc
      rcases mem_splice hc with h | h
      · exact q2 c h
      · exact hone c h
    have hrow := Re_set hu'sz hu'one hu2 k4 hi
    have hsp : splice ws (i * esz) u'.cells.toList = splice ws (i * esz + off) (a.eval x).cells.toList := by
      rw [hu1, ← q4]
      exact splice_splice (by simp; omega) (by omega)
    have hnew : new.toList = splice ws (i * esz) u'.cells.toList ++ rest := by
      rw [k9, hsp, k5]
      unfold splice
      have hl2 : (a.eval x).cells.toList.length = sz := by simpa using hus
      rw [List.take_append_of_le_length (by omega), List.drop_append_of_le_length (by omega)]
      simp
    obtain ⟨g1, g2⟩ := set_sound (o' := .arr g esz (ys.set i (putElem y0 off ds))) (w' := putB w (ρ l).blk (.cells new e fz)) (ρ' := ρ) hok hg rfl rfl rfl (by rw [putB_size]; exact Nat.le_refl _) (fun b _ hb => putB_ne (hb (.inr k0))) (fun _ _ => rfl) (fun _ => .inl ⟨rfl, .inr k0⟩) (by simp [Turned]) (fun v hv => by cases hv) (fun hmv => by
        simp only [RO]
        have hns : new.size = c.size := by
          have h1 := congrArg List.length k9
          rw [splice_length (by simp; omega)] at h1
          simpa using h1
        refine .inr ⟨new, e, fz, _, rest, putB_same k1, fun j hj => k2 j (by omega), k3, Re.keep (hmv 0).keep esz _ _ hrow, hnew, by rw [hns]; exact k6, by rw [List.length_set]; exact k7⟩)
    exact OV.of_run (run _ _ _ k8 hpt) (.inr ⟨rfl, rfl⟩) nums_set (g1 _) g2 trivial
end
end Go.Abs
