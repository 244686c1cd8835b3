import Derived.Test.YtcoajejhnlcmmaaMP3
/-! A stream of which one byte was turned: the law's function. -/
set_option linter.unusedVariables false
set_option linter.unusedSimpArgs false
namespace Go.Abs.P
open M
/-! ### Numbers in digits -/
theorem ofBytes_dch {d : Nat} (h : d < 10) : Prims.real.ofBytes [Prims.real.wrap .u8 (Prims.real.ar .add .i64 48 (d : Int))] = [dch d] := by
  rw [r_add (by unfold fit64; omega), r_wrap8 (by omega) (by omega), r_ofBytes]
  simp only [List.map_cons, List.map_nil, dch]
  congr 2
theorem num_end (s g : Str) (k : Nat) (hk : k ≤ 20) (hs : s.length ≤ 20) (hg : g.length ≤ 20) : p_cascaderef05_Number_3 0 s g (k : Int) = some (g ++ s) := by
  rw [u_cascaderef05_Number_3]
  unfold b_cascaderef05_Number_3
  have e : p_cascaderef05_Number_7 s g = some (g ++ s) := by
    unfold p_cascaderef05_Number_7 b_cascaderef05_Number_7
    rw [r_scat (by omega)]
  by_cases c : k < 20
  · rw [lss_t (by omega), neq_f rfl]
    simp only [e]
  · rw [lss_f (by omega)]
    simp only [e]
theorem num_step (n : Nat) (s g : Str) (k : Nat) (hn : 1 ≤ n) (hn2 : n < 1000) (hk : k < 20) (hs : s.length ≤ 20) : p_cascaderef05_Number_3 (n : Int) s g (k : Int) = p_cascaderef05_Number_3 ((n / 10 : Nat) : Int) (dch (n % 10) :: s) g ((k + 1 : Nat) : Int) := by
  rw [u_cascaderef05_Number_3]
  unfold b_cascaderef05_Number_3
  rw [lss_t (by omega), neq_t (by omega), r_rem (by omega) (by omega)]
  simp only
  rw [lss_f (by omega)]
  simp only
  have e : p_cascaderef05_Number_5 (n : Int) s g (k : Int) ((n : Int) % 10) = some (.inl (((n / 10 : Nat) : Int), dch (n % 10) :: s, g, ((k + 1 : Nat) : Int))) := by
    unfold p_cascaderef05_Number_5 b_cascaderef05_Number_5
    rw [show (n : Int) % 10 = ((n % 10 : Nat) : Int) by omega, ofBytes_dch (by omega), r_scat (by simp; omega)]
    simp only
    rw [r_quo (by omega) (by omega) (by omega), r_add (by unfold fit64; omega)]
    simp only [List.singleton_append]
    congr 2
  simp only [e]
theorem number (n : Nat) (hn : n < 1000) : p_cascaderef05_Number (n : Int) = some (decS n) := by
  unfold p_cascaderef05_Number p_cascaderef05_Number_0 b_cascaderef05_Number_0
  by_cases h0 : n = 0
  · subst h0
    rw [eql_t (by omega)]
    rfl
  · rw [eql_f (by omega), lss_f (by omega)]
    simp only
    unfold p_cascaderef05_Number_2 b_cascaderef05_Number_2
    rw [show (0 : Int) = ((0 : Nat) : Int) from rfl, num_step n [] [] 0 (by omega) hn (by omega) (by simp)]
    unfold decS
    by_cases h1 : n < 10
    · rw [if_pos h1, show n / 10 = 0 by omega, show n % 10 = n by omega]
      exact num_end _ _ _ (by omega) (by simp) (by simp)
    · rw [if_neg h1, num_step (n / 10) _ _ _ (by omega) (by omega) (by omega) (by simp)]
      by_cases h2 : n < 100
      · rw [if_pos h2, show n / 10 / 10 = 0 by omega, show n / 10 % 10 = n / 10 by omega]
        exact num_end _ _ _ (by omega) (by simp) (by simp)
      · rw [if_neg h2, num_step (n / 10 / 10) _ _ _ (by omega) (by omega) (by omega) (by simp), show n / 10 / 10 / 10 = 0 by omega, show n / 10 / 10 % 10 = n / 100 by omega]
        exact num_end _ _ _ (by omega) (by simp) (by simp)
theorem refPart (b : Str) (h : b.length < 1000) : p_cascaderef28_Part b = some (part28 b) := by
  have := decS_len b.length
  unfold p_cascaderef28_Part p_cascaderef28_Part_0 b_cascaderef28_Part_0
  rw [r_slen, number _ h]
  simp only
  rw [r_scat (by simp; omega)]
  simp only
  rw [r_scat (by simp; omega)]
  simp only
  rw [r_scat (by simp; omega)]
  simp only
  rw [r_scat (by simp; omega)]
  simp only [part28, Option.some.injEq, List.append_assoc]
  rfl
def parts28 : List Str → Str
  | [] => []
  | b :: l => part28 b ++ parts28 l
theorem whole_app : ∀ (p l : List Str), whole28 (p ++ l) = parts28 p ++ whole28 l
  | [], l => rfl
  | b :: p, l => by show part28 b ++ whole28 (p ++ l) = _; rw [whole_app p l, parts28, List.append_assoc]
theorem parts_snoc : ∀ (p : List Str) (b : Str), parts28 (p ++ [b]) = parts28 p ++ part28 b
  | [], b => by simp [parts28]
  | c :: p, b => by show part28 c ++ parts28 (p ++ [b]) = _; rw [parts_snoc p b, parts28, List.append_assoc]
theorem part_len (b : Str) (h : b.length ≤ 300) : (part28 b).length ≤ 400 := by
  have := part28_len b; have := decS_len b.length; omega
theorem parts_len : ∀ (l : List Str), (∀ b ∈ l, b.length ≤ 300) → (parts28 l).length ≤ l.length * 400
  | [], _ => by simp [parts28]
  | b :: l, h => by
    have := part_len b (h b (by simp))
    have := parts_len l fun x hx => h x (by simp [hx])
    simp only [parts28, List.length_append, List.length_cons]; omega
theorem refWhole_1 (l : List Str) (hl : l.length ≤ 1000) (h : ∀ b ∈ l, b.length ≤ 300) : ∀ (k : Nat) (p q : List Str), q.length = k → l = p ++ q → p_cascaderef28_Whole_1 l (parts28 p) (p.length : Int) = some (whole28 l)
  | 0, p, q, hk, e => by
    have : q = [] := List.length_eq_zero_iff.1 hk
    subst this
    have hp := parts_len l h
    rw [List.append_nil] at e
    subst e
    rw [u_cascaderef28_Whole_1]
    unfold b_cascaderef28_Whole_1
    rw [r_len, lss_f (by omega)]
    simp only
    rw [r_scat (by simp; omega)]
    have := whole_app l []
    rw [List.append_nil] at this
    rw [this]
    rfl
  | k + 1, p, q, hk, e => by
    cases q with
    | nil => simp at hk
    | cons b q =>
      have hp := parts_len l h
      have hll := congrArg List.length e
      simp only [List.length_append, List.length_cons] at hll
      rw [u_cascaderef28_Whole_1]
      unfold b_cascaderef28_Whole_1
      rw [r_len, lss_t (by omega), r_idx (b := b) (by rw [e]; simp)]
      have hb : b.length ≤ 300 := h b (by rw [e]; simp)
      simp only [refPart b (by omega)]
      have := part_len b hb
      have hpp := parts_len p fun x hx => h x (by rw [e]; simp [hx])
      rw [r_scat (by omega)]
      simp only
      rw [r_add (by unfold fit64; omega), ← parts_snoc]
      have := refWhole_1 l hl h k (p ++ [b]) q (by simpa using hk) (by simp [e])
      simpa using this
theorem refWhole (l : List Str) (hl : l.length ≤ 1000) (h : ∀ b ∈ l, b.length ≤ 300) : p_cascaderef28_Whole l = some (whole28 l) := by
  unfold p_cascaderef28_Whole p_cascaderef28_Whole_0 b_cascaderef28_Whole_0
  exact refWhole_1 l hl h _ [] l rfl rfl
/-! ### Few -/
theorem few_loop (l : List Str) (n z : Int) : ∀ (k i : Nat), 100 - i ≤ k → i ≤ 100 → p_cascadelaw28_few_1 l n z (i : Int) = some false ∨ (p_cascadelaw28_few_1 l n z (i : Int) = some (decide ((l.length : Int) ≤ n)) ∧ ∀ j x, i ≤ j → j < 100 → l[j]? = some x → (x.length : Int) ≤ z)
  | k, i, hk, hi => by
    rw [u_cascadelaw28_few_1]
    unfold b_cascadelaw28_few_1
    have e : p_cascadelaw28_few_4 l n = some (decide ((l.length : Int) ≤ n)) := by
      unfold p_cascadelaw28_few_4 b_cascadelaw28_few_4
      rw [r_len, r_leq]
    rw [r_len]
    by_cases c : i < l.length
    · rw [lss_t (by omega)]
      simp only
      by_cases c2 : i < 100
      · rw [lss_t (by omega)]
        simp only [r_idx (List.getElem?_eq_getElem c), r_slen]
        by_cases c3 : z < (l[i].length : Int)
        · rw [gtr_t c3]; exact .inl rfl
        · rw [gtr_f (by omega), r_add (by unfold fit64; omega)]
          simp only
          cases k with
          | zero => omega
          | succ k =>
            rcases few_loop l n z k (i + 1) (by omega) (by omega) with h | ⟨h1, h2⟩
            · exact .inl h
            · refine .inr ⟨h1, fun j x hj hj2 hx => ?_⟩
              by_cases ej : j = i
              · subst ej
                rw [List.getElem?_eq_getElem c, Option.some.injEq] at hx
                subst hx; omega
              · exact h2 j x (by omega) hj2 hx
      · rw [lss_f (by omega)]
        simp only [e]
        exact .inr ⟨by first | trivial | rfl, fun j x h1 h2 => by omega⟩
    · rw [lss_f (by omega)]
      simp only [e]
      exact .inr ⟨by first | trivial | rfl, fun j x h1 h2 h3 => by rw [List.getElem?_eq_none (by omega)] at h3; cases h3⟩
theorem few (l : List Str) (n z : Nat) (hn : n ≤ 100) : p_cascadelaw28_few l (n : Int) (z : Int) = some false ∨ (p_cascadelaw28_few l (n : Int) (z : Int) = some true ∧ l.length ≤ n ∧ ∀ x ∈ l, x.length ≤ z) := by
  unfold p_cascadelaw28_few p_cascadelaw28_few_0 b_cascadelaw28_few_0
  rcases few_loop l n z 100 0 (by omega) (by omega) with h | ⟨h1, h2⟩
  · exact .inl h
  · by_cases c : l.length ≤ n
    · refine .inr ⟨?_, c, fun x hx => ?_⟩
      · rw [Int.natCast_zero] at h1
        rw [h1, decide_eq_true (by omega)]
      · obtain ⟨j, hj⟩ := List.getElem?_of_mem hx
        have := (List.getElem?_eq_some_iff.1 hj).1
        have := h2 j x (by omega) (by omega) hj
        omega
    · refine .inl ?_
      rw [Int.natCast_zero] at h1
      rw [h1, decide_eq_false (by omega)]
/-! ### The same names -/
theorem same_loop (a b : List Str) (hab : a.length = b.length) (ha : a.length ≤ 1000000000) : ∀ (k i : Nat), a.length - i ≤ k → i ≤ a.length → p_cascaderef12_SameNames_2 a b (i : Int) = some (decide (a.drop i = b.drop i))
  | k, i, hk, hi => by
    rw [u_cascaderef12_SameNames_2]
    unfold b_cascaderef12_SameNames_2
    rw [r_len]
    by_cases c : i < a.length
    · rw [lss_t (by omega)]
      simp only [r_idx (List.getElem?_eq_getElem c), r_idx (List.getElem?_eq_getElem (show i < b.length by omega))]
      rw [List.drop_eq_getElem_cons c, List.drop_eq_getElem_cons (show i < b.length by omega)]
      by_cases e : a[i] = b[i]
      · rw [seq_t e, r_add (by unfold fit64; omega)]
        simp only
        cases k with
        | zero => omega
        | succ k =>
          rw [show ((i : Int) + 1) = ((i + 1 : Nat) : Int) by omega, same_loop a b hab ha k (i + 1) (by omega) (by omega)]
          simp only [e, List.cons.injEq, true_and]
      · rw [seq_f e]
        simp only [List.cons.injEq, e, false_and, decide_false]
    · rw [lss_f (by omega), List.drop_eq_nil_of_le (by omega), List.drop_eq_nil_of_le (by omega)]
      simp
theorem sameNames (a b : List Str) (ha : a.length ≤ 1000000000) : p_cascaderef12_SameNames a b = some (decide (a = b)) := by
  unfold p_cascaderef12_SameNames p_cascaderef12_SameNames_0 b_cascaderef12_SameNames_0
  rw [r_len, r_len]
  by_cases e : a.length = b.length
  · rw [neq_f (by omega)]
    have := same_loop a b e ha _ 0 (Nat.le_refl _) (by omega)
    simpa using this
  · rw [neq_t (by omega), decide_eq_false (fun h => e (by rw [h]))]
/-! ### All bodies that a reader tells -/
def Rd.lies (r : Rd) : Prop := r.at_ + r.rest.length ≤ 1000000000 ∧ r.bad ≤ 1000000001
theorem Rd.lies.fits {r : Rd} (h : r.lies) : r.fits := by
  obtain ⟨h1, h2⟩ := h
  exact ⟨by omega, by omega, by omega⟩
theorem stopS_lies {r : Rd} (h : r.lies) : (stopS r).lies := by
  obtain ⟨h1, h2⟩ := h
  unfold stopS
  split
  · exact ⟨h1, h2⟩
  · exact ⟨h1, by simp only; omega⟩
theorem nextS_lies {r : Rd} (h : r.lies) : (nextS r).2.2.lies := by
  have hh := h
  obtain ⟨h1, h2⟩ := h
  unfold nextS
  split
  · exact hh
  · split
    · exact ⟨h1, by simp only; omega⟩
    · have := partS_le r.rest
      simp only
      split
      · exact ⟨h1, by simp only; omega⟩
      · split
        · exact hh
        · split
          · exact ⟨by simp only [List.length_drop]; omega, h2⟩
          · exact stopS_lies ⟨by simp only [List.length_drop]; omega, by simp⟩
theorem drain_6 : ∀ (k i g : Nat) (out : List Str) (r : Rd), i + k = 500 → r.lies → out.length ≤ 100000 + i →
    p_cascadelaw28_drain__0_6 g out (i : Int) r.rest r.at_ r.over r.bad = some (out ++ (drainS k r).1, (drainS k r).2.rest, ((drainS k r).2.at_ : Int), (drainS k r).2.over, ((drainS k r).2.bad : Int))
  | 0, i, g, out, r, hi, hr, ho => by
    rw [u_cascadelaw28_drain__0_6]
    unfold b_cascadelaw28_drain__0_6
    rw [lss_f (by omega)]
    simp only [p_cascadelaw28_drain__0_8, b_cascadelaw28_drain__0_8, drainS, List.append_nil]
  | k + 1, i, g, out, r, hi, hr, ho => by
    rw [u_cascadelaw28_drain__0_6]
    unfold b_cascadelaw28_drain__0_6
    rw [lss_t (by omega)]
    simp only [p_cascadelaw28_drain__0_7, b_cascadelaw28_drain__0_7, next r hr.fits]
    cases hn : (nextS r).2.1 with
    | false =>
      simp only [drainS, hn, Bool.false_eq_true, if_false, List.append_nil]
    | true =>
      simp only [p_cascadelaw28_drain__0_9, b_cascadelaw28_drain__0_9]
      rw [M.r_app (by simp only [List.length_cons, List.length_nil, room]; omega) (by simp only [List.length_cons, List.length_nil, room]; omega)]
      simp only [p_cascadelaw28_drain__0_10, b_cascadelaw28_drain__0_10]
      rw [r_add (by unfold fit64; omega)]
      have := drain_6 k (i + 1) (g + 1) (out ++ [(nextS r).1]) (nextS r).2.2 (by omega) (nextS_lies hr) (by simp; omega)
      rw [show ((i : Int) + 1) = ((i + 1 : Nat) : Int) by omega]
      simp only [drainS, hn, if_true]
      simpa using this
theorem drainS_succ (n : Nat) (r : Rd) : drainS (n + 1) r = if (nextS r).2.1 = true then ((nextS r).1 :: (drainS n (nextS r).2.2).1, (drainS n (nextS r).2.2).2) else ([], (nextS r).2.2) := by rw [drainS]
theorem drain (r : Rd) (hr : r.lies) : p_cascadelaw28_drain__0 r.rest r.at_ r.over r.bad = some ((drainS 500 r).1, (drainS 500 r).2.rest, ((drainS 500 r).2.at_ : Int), (drainS 500 r).2.over, ((drainS 500 r).2.bad : Int)) := by
  unfold p_cascadelaw28_drain__0 p_cascadelaw28_drain__0_0 b_cascadelaw28_drain__0_0
  rw [u_cascadelaw28_drain__0_1]
  unfold b_cascadelaw28_drain__0_1
  rw [lss_t (by omega)]
  have h6 := fun (r : Rd) (out : List Str) (h : r.lies) (ho : out.length ≤ 100001) => drain_6 499 1 0 out r (by omega) h ho
  have h500 := drainS_succ 499 r
  rw [show 499 + 1 = 500 from rfl] at h500
  simp only [p_cascadelaw28_drain__0_2, b_cascadelaw28_drain__0_2, next r hr.fits]
  cases hn : (nextS r).2.1 with
  | false =>
    rw [hn, if_neg (by simp)] at h500
    rw [h500]
  | true =>
    rw [hn, if_pos rfl] at h500
    rw [h500]
    simp only [p_cascadelaw28_drain__0_3, b_cascadelaw28_drain__0_3]
    rw [M.r_app (by simp [room]) (by simp [room])]
    simp only [p_cascadelaw28_drain__0_4, b_cascadelaw28_drain__0_4]
    rw [r_add (by unfold fit64; omega)]
    have := h6 (nextS r).2.2 [(nextS r).1] (nextS_lies hr) (by simp)
    rw [show ((0 : Int) + 1) = ((1 : Nat) : Int) from rfl]
    simp only [List.nil_append, this, List.singleton_append]
/-! ### The law -/
theorem xor_ne {c : UInt8} {y : Int} (h1 : 0 < y) (h2 : y < 256) : UInt8.ofNat (Prims.real.ar .xor .u8 (c.toNat : Int) y).toNat ≠ c := by
  intro e
  have e2 := congrArg UInt8.toNat e
  have hx : Prims.real.ar .xor .u8 (c.toNat : Int) y = ((BitVec.ofInt 8 (c.toNat : Int) ^^^ BitVec.ofInt 8 y).toNat : Int) := by
    show IntKind.u8.wrap _ = _
    have := (BitVec.ofInt 8 (c.toNat : Int) ^^^ BitVec.ofInt 8 y).isLt
    rw [IntKind.wrap_u8]
    show (((BitVec.ofInt 8 (c.toNat : Int) ^^^ BitVec.ofInt 8 y).toNat : Int)) % 256 = _
    omega
  have hlt := (BitVec.ofInt 8 (c.toNat : Int) ^^^ BitVec.ofInt 8 y).isLt
  rw [hx, Int.toNat_natCast, UInt8.toNat_ofNat', Nat.mod_eq_of_lt hlt] at e2
  have hc : (BitVec.ofInt 8 (c.toNat : Int)).toNat = c.toNat := by
    have := UInt8.toNat_lt c
    rw [BitVec.toNat_ofInt]; omega
  have h3 : BitVec.ofInt 8 (c.toNat : Int) ^^^ BitVec.ofInt 8 y = BitVec.ofInt 8 (c.toNat : Int) := BitVec.eq_of_toNat_eq (e2.trans hc.symm)
  have h4 : BitVec.ofInt 8 y = 0#8 := by
    have := congrArg (BitVec.ofInt 8 (c.toNat : Int) ^^^ ·) h3
    simp only [← BitVec.xor_assoc, BitVec.xor_self, BitVec.zero_xor] at this
    exact this
  have h5 := congrArg BitVec.toNat h4
  rw [BitVec.toNat_ofInt] at h5
  simp at h5
  omega
theorem bent_end (l : List Str) (y : Int) (hy : 0 < y ∧ y < 256) (k : Nat) (f : Int) (i : Nat) (hi : i = l.length) (hl : l.length ≤ 10) (h : ∀ b ∈ l, b.length ≤ 100) (hk : k < (whole28 l).length) (hf : freeAt l k) :
    p_cascadelaw28_PartsBent_2 l y (whole28 l) (k : Int) f (i : Int) = some true := by
  have hw : (whole28 l).length ≤ 5000 := by
    have := whole_app l []
    rw [List.append_nil] at this
    rw [this]
    have := parts_len l fun x hx => Nat.le_trans (h x hx) (by omega)
    simp only [whole28, List.length_append, lm28]
    simp; omega
  rw [u_cascadelaw28_PartsBent_2]
  unfold b_cascadelaw28_PartsBent_2
  rw [r_len, lss_f (by omega)]
  simp only
  have e1 : Prims.real.slist (whole28 l) = some ((whole28 l).map fun b => (b.toNat : Int)) := by
    show Pr.slist _ = _
    unfold Pr.slist Pr.fit
    rw [if_pos (by simp [room]; omega)]
  have hx : (whole28 l)[k]? = some (whole28 l)[k] := List.getElem?_eq_getElem hk
  simp only [e1]
  rw [r_idx (b := ((whole28 l)[k].toNat : Int)) (by rw [List.getElem?_map, hx]; rfl)]
  simp only
  generalize hv : Prims.real.ar .xor .u8 ((whole28 l)[k].toNat : Int) y = v
  have e2 : Prims.real.set ((whole28 l).map fun b => (b.toNat : Int)) (k : Int) v = some (((whole28 l).map fun b => (b.toNat : Int)).set k v) := by
    rw [show Prims.real.set ((whole28 l).map fun b => (b.toNat : Int)) (k : Int) v = Pr.set ((whole28 l).map fun b => (b.toNat : Int)) (k : Int) v from rfl]
    unfold Pr.set
    rw [if_neg (by omega), if_pos (by simp; omega)]
    simp
  simp only [e2]
  have e3 : Prims.real.ofBytes (((whole28 l).map fun b => (b.toNat : Int)).set k v) = (whole28 l).set k (UInt8.ofNat v.toNat) := by
    rw [r_ofBytes, List.map_set, List.map_map]
    congr 1
    conv => rhs; rw [← List.map_id (whole28 l)]
    refine List.map_congr_left fun b _ => ?_
    simp
  have hne : (whole28 l)[k]? ≠ some (UInt8.ofNat v.toNat) := by
    rw [hx, ← hv]
    intro e
    exact xor_ne hy.1 hy.2 (Option.some.inj e).symm
  simp only [e3, p_parts_New__0, p_parts_New__0_0, b_parts_New__0_0]
  rw [feed _ _ _ _ _ (by simp; omega)]
  simp only [List.nil_append]
  obtain ⟨m, m1, m2, m3⟩ := bent l 0 k (UInt8.ofNat v.toNat) 500 (fun b hb => by have := h b hb; omega) hk hne hf (by omega)
  have hlie : (⟨(whole28 l).set k (UInt8.ofNat v.toNat), 0, false, 0⟩ : Rd).lies := ⟨by simp; omega, by simp⟩
  have hd := drain _ hlie
  simp only [Int.natCast_zero] at hd
  simp only [hd, m2]
  have hb : ∀ (n : Nat) (r : Rd), r.lies → (drainS n r).2.lies := by
    intro n
    induction n with
    | zero => intro r hr; exact hr
    | succ n ih =>
      intro r hr
      rw [drainS]
      split
      · exact ih _ (nextS_lies hr)
      · exact nextS_lies hr
  have hlies := hb 500 _ hlie
  rw [r_len, gtr_f (by simp; omega)]
  simp only
  have e4 : Prims.real.sub l none (some ((l.take m).length : Int)) = some (l.take m) := by
    rw [r_sub]
    unfold Pr.sub
    rw [bnd_nat]
    unfold Pr.bnd Pr.cutB
    simp only
    rw [if_pos (by omega), if_pos (by simp; omega)]
    simp [Nat.min_eq_left m1]
  simp only [e4]
  rw [sameNames _ _ (by simp; omega), decide_eq_true rfl]
  simp only
  rw [badR _ _ _ _ (by have := hlies.2; omega)]
  simp only
  rw [geq_t (by omega)]
theorem bent_loop (l : List Str) (y : Int) (hy : 0 < y ∧ y < 256) (k : Nat) (hl : l.length ≤ 10) (h : ∀ b ∈ l, b.length ≤ 100) (hk : k < (whole28 l).length) : ∀ (n : Nat) (p q : List Str), q.length = n → l = p ++ q →
    ((∀ m, m ≤ k → (parts28 p).length ≤ k → freeAt q (k - (parts28 p).length) → freeAt l k) → ((parts28 p).length ≤ k ∨ freeAt l k) →
    p_cascadelaw28_PartsBent_2 l y (whole28 l) (k : Int) ((parts28 p).length : Int) (p.length : Int) = some true)
  | 0, p, q, hn, e, hm, hf0 => by
    have : q = [] := List.length_eq_zero_iff.1 hn
    subst this
    rw [List.append_nil] at e
    have hf : freeAt l k := by
      rcases hf0 with h | h
      · exact hm k (Nat.le_refl _) h trivial
      · exact h
    exact bent_end l y hy k _ _ (by rw [e]) hl h hk hf
  | n + 1, p, [], hn, e, hm, hf0 => by simp at hn
  | n + 1, p, b :: q, hn, e, hm, hf0 => by
    have hll := congrArg List.length e
    simp only [List.length_append, List.length_cons] at hll
    have hb : b.length ≤ 100 := h b (by rw [e]; simp)
    have hpl := part28_len b
    have hdl := decS_len b.length
    have hpp := parts_len p fun x hx => Nat.le_trans (h x (by rw [e]; simp [hx])) (by omega)
    have hkl : k ≤ 10000 := by
      have := whole_app l []
      rw [List.append_nil] at this
      rw [this] at hk
      have := parts_len l fun x hx => Nat.le_trans (h x hx) (by omega)
      simp only [whole28, List.length_append, lm28] at hk
      simp at hk; omega
    rw [u_cascadelaw28_PartsBent_2]
    unfold b_cascadelaw28_PartsBent_2
    rw [r_len, lss_t (by omega), r_idx (b := b) (by rw [e]; simp)]
    simp only [refPart b (by omega), r_slen]
    have eb : Prims.real.ar .sub .i64 (Prims.real.ar .sub .i64 (Prims.real.ar .add .i64 ((parts28 p).length : Int) ((part28 b).length : Int)) 2) (b.length : Int) = (((parts28 p).length + (55 + (decS b.length).length + 4) : Nat) : Int) := by
      rw [r_add (by unfold fit64; omega), r_sub64 (b := 2) (by unfold fit64; omega), r_sub64 (by unfold fit64; omega)]
      omega
    simp only [eb]
    have e5 : p_cascadelaw28_PartsBent_5 l y (whole28 l) (k : Int) ((parts28 p).length : Int) (p.length : Int) (part28 b) = some (.inl (l, y, whole28 l, (k : Int), ((parts28 (p ++ [b])).length : Int), ((p ++ [b]).length : Int))) := by
      unfold p_cascadelaw28_PartsBent_5 b_cascadelaw28_PartsBent_5
      rw [r_slen, r_add (by unfold fit64; omega), r_add (by unfold fit64; omega), parts_snoc]
      simp
    have hget : ∀ j, (parts28 p).length ≤ j → j < (parts28 p).length + (part28 b).length → (whole28 l)[j]? = (part28 b)[j - (parts28 p).length]? := fun j h1 h2 => by
      rw [e, whole_app, List.getElem?_append_right h1]
      show (part28 b ++ whole28 q)[_]? = _
      rw [List.getElem?_append_left (by omega)]
    -- it goes on
    have on_ : (((parts28 p).length ≤ k) → ¬ (55 + (decS b.length).length + 4 ≤ k - (parts28 p).length ∧ k - (parts28 p).length < 55 + (decS b.length).length + 4 + b.length) ∧ (k - (parts28 p).length < 55 + (decS b.length).length + 4 → ∀ c, (part28 b)[k - (parts28 p).length]? = some c → dg c = false)) →
        p_cascadelaw28_PartsBent_2 l y (whole28 l) (k : Int) ((parts28 (p ++ [b])).length : Int) ((p ++ [b]).length : Int) = some true := by
      intro hfree
      have hps : (parts28 (p ++ [b])).length = (parts28 p).length + (part28 b).length := by rw [parts_snoc, List.length_append]
      refine bent_loop l y hy k hl h hk n (p ++ [b]) q (by simpa using hn) (by simp [e]) (fun m h1 h2 h3 => ?_) ?_
      · have hle : (parts28 p).length ≤ k := by omega
        refine hm k (Nat.le_refl _) hle ⟨(hfree hle).1, (hfree hle).2, fun _ => ?_⟩
        rw [hps] at h3
        rw [show k - (parts28 p).length - (part28 b).length = k - ((parts28 p).length + (part28 b).length) by omega]
        exact h3
      · by_cases c : (parts28 (p ++ [b])).length ≤ k
        · exact .inl c
        · refine .inr ?_
          rcases hf0 with h | h
          · exact hm k (Nat.le_refl _) h ⟨(hfree h).1, (hfree h).2, fun h' => by omega⟩
          · exact h
    have four : ((parts28 p).length ≤ k → ¬ (55 + (decS b.length).length + 4 ≤ k - (parts28 p).length ∧ k - (parts28 p).length < 55 + (decS b.length).length + 4 + b.length)) →
        (match p_cascadelaw28_PartsBent_4 l y (whole28 l) (k : Int) ((parts28 p).length : Int) (p.length : Int) (part28 b) (((parts28 p).length + (55 + (decS b.length).length + 4) : Nat) : Int) with
          | some (.inl (v0', v2', v7', v8', v9', v10')) => p_cascadelaw28_PartsBent_2 v0' v2' v7' v8' v9' v10'
          | some (.inr r) => some r
          | none => none) = some true := by
      intro hbody
      unfold p_cascadelaw28_PartsBent_4 b_cascadelaw28_PartsBent_4
      by_cases c1 : (parts28 p).length ≤ k
      · rw [geq_t (by omega)]
        simp only
        by_cases c2 : k < (parts28 p).length + (55 + (decS b.length).length + 4)
        · rw [lss_t (by omega)]
          have hx : (whole28 l)[k]? = some (whole28 l)[k] := List.getElem?_eq_getElem hk
          simp only [r_sidx hx]
          have hx2 : (part28 b)[k - (parts28 p).length]? = some (whole28 l)[k] := by rw [← hget k c1 (by omega), hx]
          by_cases c3 : 48 ≤ (whole28 l)[k].toNat
          · rw [geq_t (by omega)]
            simp only
            by_cases c4 : (whole28 l)[k].toNat ≤ 57
            · rw [leq_t (by omega)]
            · rw [leq_f (by omega)]
              simp only [e5]
              exact on_ fun hle => ⟨hbody hle, fun _ c hc => by rw [hx2] at hc; cases hc; unfold dg; simp; omega⟩
          · rw [geq_f (by omega)]
            simp only [e5]
            exact on_ fun hle => ⟨hbody hle, fun _ c hc => by rw [hx2] at hc; cases hc; unfold dg; simp; omega⟩
        · rw [lss_f (by omega)]
          simp only [e5]
          exact on_ fun hle => ⟨hbody hle, fun h' => by omega⟩
      · rw [geq_f (by omega)]
        simp only [e5]
        exact on_ fun hle => by omega
    by_cases c1 : (parts28 p).length + (55 + (decS b.length).length + 4) ≤ k
    · rw [geq_t (by omega)]
      simp only
      rw [r_add (by unfold fit64; omega)]
      by_cases c2 : k < (parts28 p).length + (55 + (decS b.length).length + 4) + b.length
      · rw [lss_t (by omega)]
      · rw [lss_f (by omega)]
        exact four fun _ hc => by omega
    · rw [geq_f (by omega)]
      exact four fun _ hc => by omega
theorem PartsBent (l : List Str) (n y : Int) (hn : 0 ≤ n ∧ n < 65536) (hy : 0 ≤ y ∧ y < 256) : p_cascadelaw28_PartsBent l n y = some true := by
  unfold p_cascadelaw28_PartsBent p_cascadelaw28_PartsBent_0 b_cascadelaw28_PartsBent_0
  simp only [awake28]
  rcases few l 10 100 (by omega) with h | ⟨h1, h2, h3⟩
  · rw [show ((10 : Nat) : Int) = 10 from rfl, show ((100 : Nat) : Int) = 100 from rfl] at h
    simp only [h]
  · rw [show ((10 : Nat) : Int) = 10 from rfl, show ((100 : Nat) : Int) = 100 from rfl] at h1
    simp only [h1]
    by_cases c : y = 0
    · rw [eql_t c]
    · rw [eql_f c, refWhole l (by omega) (fun b hb => by have := h3 b hb; omega)]
      have hpos : 0 < (whole28 l).length := by
        have := whole_app l []
        rw [List.append_nil] at this
        rw [this]; simp [whole28]
      simp only
      rw [r_slen, r_wrap64 (by unfold fit64; omega), r_rem (by omega) (by omega)]
      simp only
      have hm := Int.emod_nonneg n (show ((whole28 l).length : Int) ≠ 0 by omega)
      have hm2 := Int.emod_lt_of_pos n (show 0 < ((whole28 l).length : Int) by omega)
      obtain ⟨k, hk⟩ := Int.eq_ofNat_of_zero_le hm
      rw [hk] at hm2 ⊢
      have := bent_loop l y ⟨by omega, by omega⟩ k h2 h3 (by omega) _ [] l rfl rfl (fun m _ _ hf => by simpa [parts28] using hf) (.inl (by simp [parts28]))
      simpa [parts28] using this
end Go.Abs.P
