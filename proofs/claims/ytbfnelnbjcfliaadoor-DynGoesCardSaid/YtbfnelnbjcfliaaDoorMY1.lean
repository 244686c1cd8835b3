import Derived.Test.YtbfnelnbjcfliaaDoorMT6
/-! Loose values: what stands for a value, and what it stands for. -/
set_option linter.unusedVariables false
set_option linter.unusedSimpArgs false
namespace Go.Abs.T
open M
abbrev Any := S_any
abbrev Mem := S_dyn_Member
mutual
def tos : Val → Any
  | .mk k n s l f => if k = 1 then .c4 (decide (n = 1)) else if k = 2 then .c2 n else if k = 3 then .c9 s else if k = 4 then .c66 (tosL l) else if k = 5 then .c68 (tosF f) else .n
def tosP : Par → Mem
  | .mk k v => .mk k (tos v)
def tosL : List Val → List Any
  | [] => []
  | v :: r => tos v :: tosL r
def tosF : List Par → List Mem
  | [] => []
  | p :: r => tosP p :: tosF r
end
mutual
def odds : Val → Any
  | .mk k n s l f => if k = 4 then .c66 (oddsL l) else if k = 5 then .c68 (oddsF f) else if k = 9 then .c3 n else if k = 10 then .c71 else if k = 11 then .c66 [] else if k = 12 then .c68 [] else tos (.mk k n s l f)
def oddsP : Par → Mem
  | .mk k v => .mk k (odds v)
def oddsL : List Val → List Any
  | [] => []
  | v :: r => odds v :: oddsL r
def oddsF : List Par → List Mem
  | [] => []
  | p :: r => oddsP p :: oddsF r
end
mutual
/-- What it stands for, by the reference. -/
def stn : Val → Val × Bool
  | .mk k n s l f => if k = 1 then (.mk 1 (if n = 1 then n else 0) [] [] [], true) else if k = 2 then (.mk 2 n [] [] [], true) else if k = 3 then (.mk 3 0 s [] [], true) else if k = 4 then (.mk 4 0 [] (stnL l).1 [], (stnL l).2) else if k = 5 then (.mk 5 0 [] [] (stnF f).1, (stnF f).2)
    else if k = 9 then (.mk 2 n [] [] [], true) else if k = 10 then (zv, false) else if k = 11 then (.mk 4 0 [] [] [], true) else if k = 12 then (.mk 5 0 [] [] [], true) else (zv, true)
def stnP : Par → Par × Bool
  | .mk k v => (.mk k (stn v).1, (stn v).2)
def stnL : List Val → List Val × Bool
  | [] => ([], true)
  | v :: r => ((stn v).1 :: (stnL r).1, (stn v).2 && (stnL r).2)
def stnF : List Par → List Par × Bool
  | [] => ([], true)
  | p :: r => ((stnP p).1 :: (stnF r).1, (stnP p).2 && (stnF r).2)
end
mutual
def cntA : Any → Nat
  | .n => 1
  | .c2 _ => 1
  | .c3 _ => 1
  | .c4 _ => 1
  | .c9 _ => 1
  | .c66 l => cntAL l + 1
  | .c68 l => cntAM l + 1
  | .c71 => 1
def cntM : Mem → Nat
  | .mk _ v => cntA v
def cntAL : List Any → Nat
  | [] => 0
  | x :: r => cntA x + cntAL r
def cntAM : List Mem → Nat
  | [] => 0
  | x :: r => cntM x + cntAM r
end
def keyM : Mem → Str | .mk k _ => k
def valM : Mem → Any | .mk _ v => v
theorem cntA_pos (x : Any) : 1 ≤ cntA x := by cases x <;> simp [cntA]
theorem cntM_eq (p : Mem) : cntM p = cntA (valM p) := by cases p; simp [cntM, valM]
theorem cntAL_len : ∀ l : List Any, l.length ≤ cntAL l
  | [] => by simp
  | x :: r => by have := cntAL_len r; have := cntA_pos x; simp only [List.length_cons, cntAL]; omega
theorem cntAM_len : ∀ l : List Mem, l.length ≤ cntAM l
  | [] => by simp
  | x :: r => by have := cntAM_len r; have := cntA_pos (valM x); simp only [List.length_cons, cntAM, cntM_eq]; omega
theorem cntAL_mem : ∀ {l : List Any} {v : Any}, v ∈ l → cntA v ≤ cntAL l
  | [], _, h => by simp at h
  | x :: r, v, h => by
    simp only [cntAL]
    rcases List.mem_cons.1 h with rfl | h
    · omega
    · have := cntAL_mem h; omega
theorem cntAM_mem : ∀ {l : List Mem} {v : Mem}, v ∈ l → cntA (valM v) ≤ cntAM l
  | [], _, h => by simp at h
  | x :: r, v, h => by
    simp only [cntAM, cntM_eq]
    rcases List.mem_cons.1 h with rfl | h
    · omega
    · have := cntAM_mem h; omega
mutual
theorem cnt_tos : ∀ v : Val, cntA (tos v) ≤ cnt v
  | .mk k n s l f => by
    have h1 := cnt_tosL l
    have h2 := cnt_tosF f
    simp only [tos, cnt]
    repeat' split
    all_goals simp only [cntA]; omega
theorem cnt_tosL : ∀ l : List Val, cntAL (tosL l) ≤ cntL l
  | [] => by simp [tosL, cntAL]
  | v :: r => by have := cnt_tos v; have := cnt_tosL r; simp only [tosL, cntAL, cntL]; omega
theorem cnt_tosF : ∀ l : List Par, cntAM (tosF l) ≤ cntF l
  | [] => by simp [tosF, cntAM]
  | .mk k v :: r => by have := cnt_tos v; have := cnt_tosF r; simp only [tosF, tosP, cntAM, cntM, cntF, cntP]; omega
end
mutual
theorem cnt_odds : ∀ v : Val, cntA (odds v) ≤ cnt v
  | .mk k n s l f => by
    have h1 := cnt_oddsL l
    have h2 := cnt_oddsF f
    have h3 := cnt_tos (.mk k n s l f)
    simp only [cnt] at h3 ⊢
    rw [odds]
    repeat' split
    all_goals try simp only [cntA, cntAL, cntAM]
    all_goals omega
theorem cnt_oddsL : ∀ l : List Val, cntAL (oddsL l) ≤ cntL l
  | [] => by simp [oddsL, cntAL]
  | v :: r => by have := cnt_odds v; have := cnt_oddsL r; simp only [oddsL, cntAL, cntL]; omega
theorem cnt_oddsF : ∀ l : List Par, cntAM (oddsF l) ≤ cntF l
  | [] => by simp [oddsF, cntAM]
  | .mk k v :: r => by have := cnt_odds v; have := cnt_oddsF r; simp only [oddsF, oddsP, cntAM, cntM, cntF, cntP]; omega
end
theorem tosL_map : ∀ l, tosL l = l.map tos
  | [] => rfl
  | v :: r => by simp only [tosL, List.map_cons, tosL_map r]
theorem tosF_map : ∀ l, tosF l = l.map tosP
  | [] => rfl
  | v :: r => by simp only [tosF, List.map_cons, tosF_map r]
theorem oddsL_map : ∀ l, oddsL l = l.map odds
  | [] => rfl
  | v :: r => by simp only [oddsL, List.map_cons, oddsL_map r]
theorem oddsF_map : ∀ l, oddsF l = l.map oddsP
  | [] => rfl
  | v :: r => by simp only [oddsF, List.map_cons, oddsF_map r]
/-! ## The walk: to, Odd -/
theorem to_1 (c : Val → Option Any) (g : Val → Any) (l : List Val) (hc : ∀ v ∈ l, c v = some (g v)) (hl : l.length ≤ 1000) : ∀ (m i q : Nat) (acc : List Any), l.length - i ≤ m → i ≤ l.length → acc.length ≤ i →
    p_dyn_to_1 c q acc l (l.length : Int) (i : Int) = some (.c66 (acc ++ (l.drop i).map g))
  | m, i, q, acc, hm, hi, ha => by
    rw [u_dyn_to_1]
    unfold b_dyn_to_1
    by_cases h : i < l.length
    · have hx := hc _ (List.getElem_mem h)
      rw [lss_t (by omega), r_idx (List.getElem?_eq_getElem h), List.drop_eq_getElem_cons h]
      generalize l[i] = y at hx
      obtain ⟨y0, y1, y2, y3, y4⟩ := y
      simp only [hx]
      rw [M.r_app (by simp [room]; omega) (by simp [room]; omega)]
      simp only
      rw [r_add (by unfold fit64; omega)]
      cases m with
      | zero => omega
      | succ m =>
        rw [show ((i : Int) + 1) = ((i + 1 : Nat) : Int) by omega, to_1 c g l hc hl m (i + 1) _ _ (by omega) (by omega) (by simp; omega)]
        simp
    · rw [lss_f (by omega), List.drop_eq_nil_of_le (by omega)]
      simp
theorem to_5 (c : Val → Option Any) (g : Val → Any) (f : List Par) (hc : ∀ p ∈ f, c (valOf p) = some (g (valOf p))) (hl : f.length ≤ 1000) : ∀ (m i q : Nat) (acc : List Mem), f.length - i ≤ m → i ≤ f.length → acc.length ≤ i →
    p_dyn_to_5 c q acc f (f.length : Int) (i : Int) = some (.c68 (acc ++ (f.drop i).map fun p => .mk (keyOf p) (g (valOf p))))
  | m, i, q, acc, hm, hi, ha => by
    rw [u_dyn_to_5]
    unfold b_dyn_to_5
    by_cases h : i < f.length
    · have hx := hc _ (List.getElem_mem h)
      rw [lss_t (by omega), r_idx (List.getElem?_eq_getElem h), List.drop_eq_getElem_cons h]
      generalize f[i] = y at hx
      obtain ⟨ky, ⟨y0, y1, y2, y3, y4⟩⟩ := y
      simp only [valOf_mk] at hx
      simp only [hx]
      rw [M.r_app (by simp [room]; omega) (by simp [room]; omega)]
      simp only
      rw [r_add (by unfold fit64; omega)]
      cases m with
      | zero => omega
      | succ m =>
        rw [show ((i : Int) + 1) = ((i + 1 : Nat) : Int) by omega, to_5 c g f hc hl m (i + 1) _ _ (by omega) (by omega) (by simp; omega)]
        simp [keyOf_mk, valOf_mk]
    · rw [lss_f (by omega), List.drop_eq_nil_of_le (by omega)]
      simp
theorem odd_1 : @p_dyn_Odd_1 = @p_dyn_to_1 := rfl
theorem odd_5 : @p_dyn_Odd_5 = @p_dyn_to_5 := rfl
theorem tosP_eq : tosP = fun p => .mk (keyOf p) (tos (valOf p)) := by funext p; cases p; rfl
theorem oddsP_eq : oddsP = fun p => .mk (keyOf p) (odds (valOf p)) := by funext p; cases p; rfl
theorem to_k : ∀ (k : Nat) (v : Val), cnt v < k → cnt v ≤ 200 → pk_dyn_to k v = some (tos v)
  | 0, v, h, _ => by omega
  | k + 1, ⟨a, b, s, l, f⟩, h, hc => by
    simp only [cnt] at h hc
    have hlen := cntL_len l
    have hfen := cntF_len f
    show p_dyn_to_0 (pk_dyn_to k) a b s l f = _
    unfold p_dyn_to_0 b_dyn_to_0
    have h1 := to_1 (pk_dyn_to k) tos l (fun v hv => to_k k v (by have := cntL_mem hv; omega) (by have := cntL_mem hv; omega)) (by omega) _ 0 0 [] (Nat.le_refl _) (by omega) (by simp)
    have h5 := to_5 (pk_dyn_to k) tos f (fun p hp => to_k k _ (by have := cntF_mem hp; omega) (by have := cntF_mem hp; omega)) (by omega) _ 0 0 [] (Nat.le_refl _) (by omega) (by simp)
    rw [Int.natCast_zero, List.drop_zero, List.nil_append] at h1 h5
    rw [← tosP_eq] at h5
    simp only [r_len, h1, h5, tos, tosL_map, tosF_map]
    have hq : ∀ x, Prims.real.cmp .eql a x = decide (a = x) := fun x => by rw [r_eql]; rfl
    have hn : Prims.real.cmp .eql b 1 = decide (b = 1) := by rw [r_eql]; rfl
    simp only [hq, hn]
    by_cases e1 : a = 1
    · simp [e1]
    · by_cases e2 : a = 2
      · simp [e2]
      · by_cases e3 : a = 3
        · simp [e3]
        · by_cases e4 : a = 4
          · simp [e4]
          · by_cases e5 : a = 5
            · simp [e5]
            · simp [e1, e2, e3, e4, e5]
theorem dyn_to (v : Val) (hc : cnt v ≤ 200) : p_dyn_to v = some (tos v) := to_k 1000000 v (by omega) hc
theorem odd_k : ∀ (k : Nat) (v : Val), cnt v < k → cnt v ≤ 200 → pk_dyn_Odd k v = some (odds v)
  | 0, v, h, _ => by omega
  | k + 1, ⟨a, b, s, l, f⟩, h, hc => by
    have hto := dyn_to (.mk a b s l f) hc
    simp only [cnt] at h hc
    have hlen := cntL_len l
    have hfen := cntF_len f
    show p_dyn_Odd_0 (pk_dyn_Odd k) a b s l f = _
    unfold p_dyn_Odd_0 b_dyn_Odd_0
    have h1 := to_1 (pk_dyn_Odd k) odds l (fun v hv => odd_k k v (by have := cntL_mem hv; omega) (by have := cntL_mem hv; omega)) (by omega) _ 0 0 [] (Nat.le_refl _) (by omega) (by simp)
    have h5 := to_5 (pk_dyn_Odd k) odds f (fun p hp => odd_k k _ (by have := cntF_mem hp; omega) (by have := cntF_mem hp; omega)) (by omega) _ 0 0 [] (Nat.le_refl _) (by omega) (by simp)
    rw [Int.natCast_zero, List.drop_zero, List.nil_append] at h1 h5
    rw [← oddsP_eq] at h5
    rw [odds]
    simp only [r_len, odd_1, odd_5, h1, h5, oddsL_map, oddsF_map, hto]
    have hq : ∀ x, Prims.real.cmp .eql a x = decide (a = x) := fun x => by rw [r_eql]; rfl
    simp only [hq]
    by_cases e1 : a = 4
    · simp [e1]
    · by_cases e2 : a = 5
      · simp [e2]
      · by_cases e3 : a = 9
        · simp [e3]
        · by_cases e4 : a = 10
          · simp [e4]
          · by_cases e5 : a = 11
            · simp [e5]
            · by_cases e6 : a = 12
              · simp [e6]
              · simp [e1, e2, e3, e4, e5, e6]
theorem dyn_Odd (v : Val) (hc : cnt v ≤ 200) : p_dyn_Odd v = some (odds v) := odd_k 1000000 v (by omega) hc
/-! ## from -/
def optL {α β : Type} (g : α → Option β) : List α → Option (List β)
  | [] => some []
  | x :: r => match g x, optL g r with
    | some y, some l => some (y :: l)
    | _, _ => none
def knd : Any → Int
  | .n => 0
  | .c2 _ => 2
  | .c3 _ => 2
  | .c4 _ => 1
  | .c9 _ => 3
  | .c66 _ => 4
  | .c68 _ => 5
  | .c71 => -1
theorem dyn_Kind (x : Any) : p_dyn_Kind x = some (knd x) := by cases x <;> rfl
def gM (g : Any → Option Val) (m : Mem) : Option Par := match g (valM m) with
  | some v => some (.mk (keyM m) v)
  | none => none
theorem gM_mk (g : Any → Option Val) (k : Str) (x : Any) : gM g (.mk k x) = match g x with | some v => some (S_api_Pair.mk k v) | none => none := rfl
def frA : Nat → Any → Option Val
  | 0, _ => none
  | d + 1, x => match x with
    | .n => some zv
    | .c2 n => some (.mk 2 n [] [] [])
    | .c3 n => some (.mk 2 n [] [] [])
    | .c4 b => some (.mk 1 (if b = true then 1 else 0) [] [] [])
    | .c9 s => some (.mk 3 0 s [] [])
    | .c66 l => match optL (frA d) l with
      | some l' => some (.mk 4 0 [] l' [])
      | none => none
    | .c68 l => match optL (gM (frA d)) l with
      | some l' => some (.mk 5 0 [] [] l')
      | none => none
    | .c71 => none
theorem from_1 (c : Any → Int → Option (Val × Bool)) (d : Nat) (hd : d ≤ 100) (g : Any → Option Val) (l : List Any) (hc : ∀ x ∈ l, ∃ w b, c x d = some (w, b) ∧ (b = true → g x = some w) ∧ (b = false → g x = none)) (hl : l.length ≤ 1000)
    (o0 o1 : Int) (o2 : Str) (o3 : List Val) (o4 : List Par) (a b : Int) (s : Str) (q' : Nat) (f : List Par) : ∀ (m i q : Nat) (ok : Bool) (acc : List Val), l.length - i ≤ m → i ≤ l.length → acc.length ≤ i →
    ∃ w r, p_dyn_from_1 c ((d : Int) + 1) ok l (i : Int) o0 o1 o2 o3 o4 a b s q acc q' f = some (w, r) ∧ (r = true → ok = true ∧ ∃ l', optL g (l.drop i) = some l' ∧ w = .mk a b s (acc ++ l') f) ∧ (r = false → ok = false ∨ optL g (l.drop i) = none)
  | m, i, q, ok, acc, hm, hi, ha => by
    rw [u_dyn_from_1]
    unfold b_dyn_from_1
    rw [r_len]
    by_cases h : i < l.length
    · rw [lss_t (by omega)]
      cases ok with
      | false =>
        simp only [p_dyn_from_7, b_dyn_from_7]
        exact ⟨_, false, rfl, by simp, by simp⟩
      | true =>
        have hx := hc _ (List.getElem_mem h)
        rw [r_idx (List.getElem?_eq_getElem h), List.drop_eq_getElem_cons h]
        generalize l[i] = y at hx
        obtain ⟨w, b1, g1, g2, g3⟩ := hx
        simp only
        rw [r_sub64 (by unfold fit64; omega), show (d : Int) + 1 - 1 = d by omega]
        simp only [g1]
        obtain ⟨w0, w1, w2, w3, w4⟩ := w
        simp only
        rw [M.r_app (by simp [room]; omega) (by simp [room]; omega)]
        simp only
        rw [r_add (by unfold fit64; omega), show ((i : Int) + 1) = ((i + 1 : Nat) : Int) by omega]
        cases m with
        | zero => omega
        | succ m =>
          obtain ⟨w, r, k1, k2, k3⟩ := from_1 c d hd g l hc hl o0 o1 o2 o3 o4 a b s q' f m (i + 1) (q + 1) b1 (acc ++ [.mk w0 w1 w2 w3 w4]) (by omega) (by omega) (by simp; omega)
          refine ⟨w, r, k1, fun hr => ⟨trivial, ?_⟩, fun hr => .inr ?_⟩
          · obtain ⟨e1, l', e2, e3⟩ := k2 hr
            exact ⟨.mk w0 w1 w2 w3 w4 :: l', by simp only [optL, g2 e1, e2], by rw [e3]; simp⟩
          · rcases k3 hr with e | e
            · simp only [optL, g3 e]
            · simp only [optL, e]
              split <;> simp_all
    · rw [lss_f (by omega), List.drop_eq_nil_of_le (by omega)]
      simp only [p_dyn_from_7, b_dyn_from_7]
      exact ⟨_, ok, rfl, fun h => ⟨h, [], rfl, by simp⟩, fun h => .inl h⟩
theorem from_4 (c : Any → Int → Option (Val × Bool)) (d : Nat) (hd : d ≤ 100) (g : Any → Option Val) (l : List Mem) (hc : ∀ x ∈ l, ∃ w b, c (valM x) d = some (w, b) ∧ (b = true → g (valM x) = some w) ∧ (b = false → g (valM x) = none)) (hl : l.length ≤ 1000)
    (o0 o1 : Int) (o2 : Str) (o3 : List Val) (o4 : List Par) (a b : Int) (s : Str) (q' : Nat) (f : List Val) : ∀ (m i q : Nat) (ok : Bool) (acc : List Par), l.length - i ≤ m → i ≤ l.length → acc.length ≤ i →
    ∃ w r, p_dyn_from_4 c ((d : Int) + 1) ok l (i : Int) o0 o1 o2 o3 o4 a b s q' f q acc = some (w, r) ∧ (r = true → ok = true ∧ ∃ l', optL (gM g) (l.drop i) = some l' ∧ w = .mk a b s f (acc ++ l')) ∧ (r = false → ok = false ∨ optL (gM g) (l.drop i) = none)
  | m, i, q, ok, acc, hm, hi, ha => by
    rw [u_dyn_from_4]
    unfold b_dyn_from_4
    rw [r_len]
    by_cases h : i < l.length
    · rw [lss_t (by omega)]
      cases ok with
      | false =>
        simp only [p_dyn_from_7, b_dyn_from_7]
        exact ⟨_, false, rfl, by simp, by simp⟩
      | true =>
        have hx := hc _ (List.getElem_mem h)
        rw [r_idx (List.getElem?_eq_getElem h), List.drop_eq_getElem_cons h]
        generalize l[i] = y at hx
        obtain ⟨ky, y⟩ := y
        obtain ⟨w, b1, g1, g2, g3⟩ := hx
        replace g1 : c y d = some (w, b1) := g1
        replace g2 : b1 = true → g y = some w := g2
        replace g3 : b1 = false → g y = none := g3
        simp only
        rw [r_sub64 (by unfold fit64; omega), show (d : Int) + 1 - 1 = d by omega]
        simp only [g1]
        obtain ⟨w0, w1, w2, w3, w4⟩ := w
        simp only
        rw [M.r_app (by simp [room]; omega) (by simp [room]; omega)]
        simp only
        rw [r_add (by unfold fit64; omega), show ((i : Int) + 1) = ((i + 1 : Nat) : Int) by omega]
        cases m with
        | zero => omega
        | succ m =>
          obtain ⟨w, r, k1, k2, k3⟩ := from_4 c d hd g l hc hl o0 o1 o2 o3 o4 a b s q' f m (i + 1) (q + 1) b1 (acc ++ [.mk ky (.mk w0 w1 w2 w3 w4)]) (by omega) (by omega) (by simp; omega)
          refine ⟨w, r, k1, fun hr => ⟨trivial, ?_⟩, fun hr => .inr ?_⟩
          · obtain ⟨e1, l', e2, e3⟩ := k2 hr
            exact ⟨.mk ky (.mk w0 w1 w2 w3 w4) :: l', by simp only [optL, gM_mk, g2 e1, e2], by rw [e3]; simp⟩
          · rcases k3 hr with e | e
            · simp only [optL, gM_mk, g3 e]
            · simp only [optL, e]
              split <;> simp_all
    · rw [lss_f (by omega), List.drop_eq_nil_of_le (by omega)]
      simp only [p_dyn_from_7, b_dyn_from_7]
      exact ⟨_, ok, rfl, fun h => ⟨h, [], rfl, by simp⟩, fun h => .inl h⟩
theorem from_k : ∀ (d k : Nat) (x : Any), d < k → d ≤ 100 → cntA x ≤ 200 → ∃ w b, pk_dyn_from k x (d : Int) = some (w, b) ∧ (b = true → frA d x = some w) ∧ (b = false → frA d x = none)
  | d, 0, x, h, _, _ => by omega
  | 0, k + 1, x, h, hd, hc => by
    show ∃ w b, p_dyn_from_0 (pk_dyn_from k) x ((0 : Nat) : Int) = some (w, b) ∧ _
    unfold p_dyn_from_0 b_dyn_from_0
    simp only [dyn_Kind]
    rw [gtr_f (by omega)]
    have key : ∀ y, y = false → (∃ w b, (match y with | false => p_dyn_from_0 (pk_dyn_from k) x ((0 : Nat) : Int) | true => p_dyn_from_0 (pk_dyn_from k) x ((0 : Nat) : Int)) = some (w, b) ∧ (b = true → frA 0 x = some w) ∧ (b = false → frA 0 x = none)) → True := fun _ _ _ => trivial
    cases x with
    | c66 l =>
      rw [geq_t (by simp [knd])]
      simp only
      rw [u_dyn_from_1]
      unfold b_dyn_from_1
      simp only [p_dyn_from_7, b_dyn_from_7]
      cases Prims.real.cmp .lss 0 (Prims.real.len l) <;> exact ⟨_, false, rfl, by simp, by simp [frA]⟩
    | c68 l =>
      rw [geq_t (by simp [knd])]
      simp only
      rw [u_dyn_from_4]
      unfold b_dyn_from_4
      simp only [p_dyn_from_7, b_dyn_from_7]
      cases Prims.real.cmp .lss 0 (Prims.real.len l) <;> exact ⟨_, false, rfl, by simp, by simp [frA]⟩
    | c4 b => 
      rw [geq_t (by simp [knd])]
      simp only [p_dyn_from_7, b_dyn_from_7]
      cases b <;> exact ⟨_, false, rfl, by simp, by simp [frA]⟩
    | c71 =>
      rw [geq_f (by simp [knd])]
      simp only [p_dyn_from_7, b_dyn_from_7]
      exact ⟨_, false, rfl, by simp, by simp [frA]⟩
    | _ =>
      rw [geq_t (by simp [knd])]
      simp only [p_dyn_from_7, b_dyn_from_7]
      exact ⟨_, false, rfl, by simp, by simp [frA]⟩
  | d + 1, k + 1, x, h, hd, hc => by
    show ∃ w b, p_dyn_from_0 (pk_dyn_from k) x ((d + 1 : Nat) : Int) = some (w, b) ∧ _
    unfold p_dyn_from_0 b_dyn_from_0
    simp only [dyn_Kind]
    rw [gtr_t (by omega), show ((d + 1 : Nat) : Int) = (d : Int) + 1 by omega]
    cases x with
    | c66 l =>
      simp only [cntA] at hc
      have hlen := cntAL_len l
      rw [geq_t (by simp [knd])]
      simp only [knd]
      obtain ⟨w, r, k1, k2, k3⟩ := from_1 (pk_dyn_from k) d (by omega) (frA d) l (fun x hx => from_k d k x (by omega) (by omega) (by have := cntAL_mem hx; omega)) (by omega) 0 0 [] [] [] 4 0 [] 0 [] _ 0 0 true [] (Nat.le_refl _) (by omega) (by simp)
      rw [List.drop_zero] at k2 k3
      refine ⟨w, r, k1, fun hr => ?_, fun hr => ?_⟩
      · obtain ⟨_, l', e1, e2⟩ := k2 hr
        simp only [frA, e1, e2, List.nil_append]
      · rcases k3 hr with e | e
        · cases e
        · simp only [frA, e]
    | c68 l =>
      simp only [cntA] at hc
      have hlen := cntAM_len l
      rw [geq_t (by simp [knd])]
      simp only [knd]
      obtain ⟨w, r, k1, k2, k3⟩ := from_4 (pk_dyn_from k) d (by omega) (frA d) l (fun x hx => from_k d k _ (by omega) (by omega) (by have := cntAM_mem hx; omega)) (by omega) 0 0 [] [] [] 5 0 [] 0 [] _ 0 0 true [] (Nat.le_refl _) (by omega) (by simp)
      rw [List.drop_zero] at k2 k3
      refine ⟨w, r, k1, fun hr => ?_, fun hr => ?_⟩
      · obtain ⟨_, l', e1, e2⟩ := k2 hr
        simp only [frA, e1, e2, List.nil_append]
      · rcases k3 hr with e | e
        · cases e
        · simp only [frA, e]
    | c4 b =>
      rw [geq_t (by simp [knd])]
      simp only [p_dyn_from_7, b_dyn_from_7]
      cases b <;> exact ⟨_, true, rfl, by simp [frA, knd], by simp⟩
    | c71 =>
      rw [geq_f (by simp [knd])]
      simp only [p_dyn_from_7, b_dyn_from_7]
      exact ⟨_, false, rfl, by simp, by simp [frA]⟩
    | _ =>
      rw [geq_t (by simp [knd])]
      simp only [p_dyn_from_7, b_dyn_from_7]
      exact ⟨_, true, rfl, by simp [frA, knd], by simp⟩
end Go.Abs.T
