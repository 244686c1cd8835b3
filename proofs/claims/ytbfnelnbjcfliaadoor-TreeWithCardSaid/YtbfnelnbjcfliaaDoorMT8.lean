import Derived.Test.YtbfnelnbjcfliaaDoorMT7
/-! The reference's object with a key, and the law. -/
set_option linter.unusedVariables false
set_option linter.unusedSimpArgs false
namespace Go.Abs.T
open M
def replS (k : Str) (x : Val) : List Par → List Par
  | [] => []
  | .mk kx v :: r => (if kx = k then .mk kx x else .mk kx v) :: replS k x r
def hasS (k : Str) : List Par → Bool
  | [] => false
  | .mk kx _ :: r => decide (kx = k) || hasS k r
theorem keysS_not : ∀ (f : List Par) (seen : List Str) (k : Str), k ∈ seen → keysS seen f = true → hasS k f = false ∧ ∀ x, replS k x f = f
  | [], seen, k, _, _ => ⟨rfl, fun _ => rfl⟩
  | ⟨kx, v⟩ :: r, seen, k, hk, h => by
    simp only [keysS, keyOf_mk, Bool.and_eq_true, Bool.not_eq_true', List.contains_eq_mem, decide_eq_false_iff_not] at h
    have hne : ¬ kx = k := fun e => h.1.1 (e ▸ hk)
    obtain ⟨h1, h2⟩ := keysS_not r (seen ++ [kx]) k (List.mem_append_left _ hk) h.2
    exact ⟨by simp [hasS, hne, h1], fun x => by simp [replS, hne, h2 x]⟩
theorem putS_repl (k : Str) (x : Val) : ∀ (f : List Par) (seen : List Str), keysS seen f = true → putS k x f = replS k x f ++ (if hasS k f = true then [] else [.mk k x])
  | [], _, _ => by simp [putS, replS, hasS]
  | ⟨kx, v⟩ :: r, seen, h => by
    simp only [keysS, keyOf_mk, Bool.and_eq_true] at h
    by_cases e : kx = k
    · subst e
      obtain ⟨h1, h2⟩ := keysS_not r (seen ++ [kx]) kx (by simp) h.2
      rw [putS_yes rfl]
      simp [replS, hasS, h2 x]
    · rw [putS_no e, putS_repl k x r _ h.2]
      simp [replS, hasS, e]
theorem refWith_1 (k : Str) (a b : Int) (s : Str) (l : List Val) (f : List Par) (hf : f.length ≤ 1000) (x0 x1 : Int) (x2 : Str) (x3 : List Val) (x4 : List Par) (o0 o1 : Int) (o2 : Str) (o3 : List Val) (o4 : List Par) (c d : Int) (e : Str) (n : List Val) :
    ∀ (m i g : Nat) (had : Bool) (acc : List Par), f.length - i ≤ m → i ≤ f.length → acc.length ≤ i →
    p_cascaderef03_With_1 k a b s l f x0 x1 x2 x3 x4 had (i : Int) o0 o1 o2 o3 o4 c d e n g acc = some (.mk c d e n (acc ++ replS k (.mk x0 x1 x2 x3 x4) (f.drop i) ++ (if (had || hasS k (f.drop i)) = true then [] else [.mk k (.mk x0 x1 x2 x3 x4)])))
  | m, i, g, had, acc, hm, hi, ha => by
    rw [u_cascaderef03_With_1]
    unfold b_cascaderef03_With_1
    rw [r_len]
    by_cases h : i < f.length
    · rw [lss_t (by omega), r_idx (List.getElem?_eq_getElem h), List.drop_eq_getElem_cons h]
      generalize f[i] = y
      obtain ⟨ky, ⟨y0, y1, y2, y3, y4⟩⟩ := y
      cases m with
      | zero => omega
      | succ m =>
        by_cases hk : ky = k
        · simp only
          rw [seq_t hk]
          simp only [p_cascaderef03_With_3, b_cascaderef03_With_3]
          rw [M.r_app (by simp [room]; omega) (by simp [room]; omega)]
          simp only
          rw [r_add (by unfold fit64; omega), show ((i : Int) + 1) = ((i + 1 : Nat) : Int) by omega, refWith_1 k a b s l f hf x0 x1 x2 x3 x4 o0 o1 o2 o3 o4 c d e n m (i + 1) _ true _ (by omega) (by omega) (by simp; omega)]
          simp [replS, hasS, hk]
        · simp only
          rw [seq_f hk]
          simp only [p_cascaderef03_With_3, b_cascaderef03_With_3]
          rw [M.r_app (by simp [room]; omega) (by simp [room]; omega)]
          simp only
          rw [r_add (by unfold fit64; omega), show ((i : Int) + 1) = ((i + 1 : Nat) : Int) by omega, refWith_1 k a b s l f hf x0 x1 x2 x3 x4 o0 o1 o2 o3 o4 c d e n m (i + 1) _ had _ (by omega) (by omega) (by simp; omega)]
          simp [replS, hasS, hk]
    · rw [lss_f (by omega), List.drop_eq_nil_of_le (by omega)]
      cases had with
      | true => simp [p_cascaderef03_With_6, b_cascaderef03_With_6, replS]
      | false =>
        simp only
        rw [M.r_app (by simp [room]; omega) (by simp [room]; omega)]
        simp [p_cascaderef03_With_6, b_cascaderef03_With_6, replS, hasS]
theorem refWith (a b : Int) (s : Str) (l : List Val) (f : List Par) (k : Str) (x : Val) (hf : f.length ≤ 1000) (hk : keysS [] f = true) : p_cascaderef03_With (.mk a b s l f) k x = some (.mk 5 0 [] [] (putS k x f)) := by
  obtain ⟨x0, x1, x2, x3, x4⟩ := x
  show p_cascaderef03_With_0 a b s l f k x0 x1 x2 x3 x4 = _
  unfold p_cascaderef03_With_0 b_cascaderef03_With_0
  have := refWith_1 k a b s l f hf x0 x1 x2 x3 x4 0 0 [] [] [] 5 0 [] [] _ 0 0 false [] (Nat.le_refl _) (by omega) (by simp)
  rw [Int.natCast_zero, List.drop_zero] at this
  rw [this, putS_repl k _ f [] hk]
  simp
/-- A right object has nothing but its pairs. -/
theorem right_obj {b : Int} {s : Str} {l : List Val} {f : List Par} (h : rR 12 (.mk 5 b s l f) = true) : b = 0 ∧ s = [] ∧ l = [] ∧ keysS [] f = true := by
  rw [rR] at h
  simp only [Bool.and_eq_true, headOk, decide_eq_true_eq] at h
  obtain ⟨⟨⟨⟨h1, _⟩, _⟩, h2⟩, _⟩ := h
  refine ⟨by omega, ?_, List.length_eq_zero_iff.1 (by omega), h2⟩
  rcases h1.2.2.1 with h | h
  · omega
  · exact h
theorem TreeWith (v : Val) (k : Str) (x : Val) : p_cascadelaw03_TreeWith v k x = some true := by
  obtain ⟨a, b, s, l, f⟩ := v
  obtain ⟨x0, x1, x2, x3, x4⟩ := x
  show p_cascadelaw03_TreeWith_0 a b s l f k x0 x1 x2 x3 x4 = _
  unfold p_cascadelaw03_TreeWith_0 b_cascadelaw03_TreeWith_0
  simp only [awake03]
  rcases Few (.mk a b s l f) 60 (by omega) with h | ⟨h, hc, hs⟩
  · rw [show ((60 : Nat) : Int) = 60 from rfl] at h
    simp only [h]
  rw [show ((60 : Nat) : Int) = 60 from rfl] at h
  simp only [h]
  rcases Few (.mk x0 x1 x2 x3 x4) 60 (by omega) with h | ⟨h, hcx, hsx⟩
  · rw [show ((60 : Nat) : Int) = 60 from rfl] at h
    simp only [h]
  rw [show ((60 : Nat) : Int) = 60 from rfl] at h
  simp only [h, r_slen]
  by_cases hk : k.length ≤ 500
  · rw [gtr_f (by omega)]
    have hz := zero_zero
    have hf : cntF f ≤ 60 := by simp only [cnt] at hc; omega
    have hlen := cntF_len f
    simp only [tree_With a b s l f k (.mk x0 x1 x2 x3 x4) hc hs hk hcx hsx, refRight _ (show cnt (.mk a b s l f) ≤ 200 by omega) hs, refRight _ (show cnt (.mk x0 x1 x2 x3 x4) ≤ 200 by omega) hsx, ref_isT k (by omega)]
    by_cases e5 : a = 5
    · subst e5
      cases e1 : rR 12 (.mk 5 b s l f) with
      | false =>
        rw [if_neg (by simp)]
        simp only [neq_f, eql_t, hz]
      | true =>
        obtain ⟨rfl, rfl, rfl, hkeys⟩ := right_obj e1
        cases e3 : rR 12 (.mk x0 x1 x2 x3 x4) with
        | false =>
          rw [if_neg (by simp)]
          simp only [neq_f, eql_t, hz]
        | true =>
          cases e2 : isT k with
          | false =>
            rw [if_neg (by simp)]
            simp only [neq_f, eql_t, hz]
          | true =>
            rw [if_pos (by simp)]
            obtain ⟨q1, q2⟩ := putS_len k (.mk x0 x1 x2 x3 x4) f
            have hco : cnt (.mk 5 0 [] [] (putS k (.mk x0 x1 x2 x3 x4) f)) ≤ 200 := by simp only [cnt] at hc ⊢; omega
            have hso : strs (.mk 5 0 [] [] (putS k (.mk x0 x1 x2 x3 x4) f)) = true := by
              simp only [strs, Bool.and_eq_true] at hs ⊢
              exact ⟨hs.1, q2 hs.2 hk hsx⟩
            have hR := refRight _ hco hso
            have hS := Same_self _ hco
            have hW := refWith 5 0 [] [] f k (.mk x0 x1 x2 x3 x4) (by omega) hkeys
            cases e4 : rR 12 (.mk 5 0 [] [] (putS k (.mk x0 x1 x2 x3 x4) f)) with
            | false =>
              rw [e4] at hR
              rw [if_neg (by simp)]
              simp only [neq_f, eql_t, hz, hW, hR]
            | true =>
              rw [e4] at hR
              rw [if_pos rfl]
              simp only [neq_f, eql_t, hW, hR, hS]
    · rw [if_neg (fun h => e5 h.1)]
      simp only
      rw [neq_t e5]
      simp only [eql_t, hz]
  · rw [gtr_t (by omega)]
end Go.Abs.T
