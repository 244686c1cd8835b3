import Derived.Test.YtncemafmkkphjaaDoorMQ2
/-! What is quoted is read again. -/
set_option linter.unusedVariables false
namespace Go.Abs.A
open M
theorem esc_read : ∀ i : Fin 128, esc (UInt8.ofNat i.val) ≠ [UInt8.ofNat i.val] →
    (∃ y, esc (UInt8.ofNat i.val) = [92, y] ∧ shortS y.toNat = ((i.val : Int), true)) ∨
    (∃ c d, esc (UInt8.ofNat i.val) = [92, 117, 48, 48, c, d] ∧ four 48 48 c d = (i.val : Int)) := by
  intro i h
  by_cases c : plainS i.val ≠ 0
  · left
    refine ⟨UInt8.ofNat (plainS i.val), ?_, ?_⟩
    · have : (UInt8.ofNat i.val).toNat = i.val := by simp; omega
      unfold esc; rw [this, if_pos c]
    · revert c; revert i; decide +kernel
  · right
    have hi : (UInt8.ofNat i.val).toNat = i.val := by simp; omega
    by_cases c2 : i.val < 32
    · refine ⟨hexc (i.val / 16), hexc (i.val % 16), ?_, ?_⟩
      · unfold esc; rw [hi, if_neg c, if_pos c2]
      · have : ∀ j : Fin 32, four 48 48 (hexc (j.val / 16)) (hexc (j.val % 16)) = (j.val : Int) := by decide +kernel
        exact this ⟨i.val, c2⟩
    · exfalso
      apply h
      unfold esc
      rw [hi, if_neg c, if_neg c2]
theorem escS_short {y : UInt8} {n : Int} (rest : Str) (h : shortS y.toNat = (n, true)) : escS (92 :: y :: rest) = (n, 2) := by
  simp only [escS, h, if_true]
theorem escS_hex {c d : UInt8} {n : Int} (rest : Str) (h : four 48 48 c d = n) (h0 : 0 ≤ n) (h1 : n < 128) : escS (92 :: 117 :: 48 :: 48 :: c :: d :: rest) = (n, 6) := by
  have hu : unitS (92 :: 117 :: 48 :: 48 :: c :: d :: rest) = n := by simp only [unitS, and_self, if_true, h]
  have hs : (shortS (117 : UInt8).toNat).2 = false := by decide
  simp only [escS, hs, Bool.false_eq_true, if_false]
  unfold escU
  rw [hu, if_neg (by omega), if_pos (by omega)]
theorem esc_plain : ∀ i : Fin 128, esc (UInt8.ofNat i.val) = [UInt8.ofNat i.val] → 32 ≤ i.val ∧ i.val ≠ 34 ∧ i.val ≠ 92 := by decide +kernel
/-- Reading goes through what was written. -/
theorem U_back (s behind full : Str) (hs : s.length ≤ 1000000) : ∀ (k i p : Nat) (acc : Str), s.length - i ≤ k → i ≤ s.length → p ≤ full.length → badAt s i = -1 → full.drop p = (s.drop i).flatMap esc ++ 34 :: behind →
    U full acc p = (acc ++ s.drop i, (p : Int) + ((s.drop i).flatMap esc).length + 1, 0)
  | k, i, p, acc, hk, hi, hpf, hb, hd => by
    have hpl : p < full.length := by
      have := congrArg List.length hd
      simp at this
      omega
    by_cases hi' : i < s.length
    · obtain ⟨h1, h2⟩ := size_at hi'
      rw [badAt_at hi'] at hb
      by_cases c : dec (s.drop i) = (65533, 1)
      · rw [if_pos c] at hb; omega
      rw [if_neg c] at hb
      have hne : s.drop i ≠ [] := by simp; omega
      have hv := dec_vr (l := s.drop i)
      have he := enc_dec hne c
      have hds : s.drop i = enc ((dec (s.drop i)).1 : Int) ++ s.drop (i + (dec (s.drop i)).2) := by
        rw [he, ← List.drop_drop, List.take_append_drop]
      cases k with
      | zero => omega
      | succ k =>
        rw [U, dif_pos hpl]
        by_cases hr : (dec (s.drop i)).1 < 128
        · have hel := enc_low (r := ((dec (s.drop i)).1 : Int)) (by omega) (by omega)
          simp only [Int.toNat_natCast] at hel
          generalize hrr : (dec (s.drop i)).1 = r at hr hel hds hv he
          have hfl : (s.drop i).flatMap esc = esc (UInt8.ofNat r) ++ (s.drop (i + (dec (s.drop i)).2)).flatMap esc := by
            conv => lhs; rw [hds]
            rw [hel, List.flatMap_append]
            simp
          rw [hfl] at hd ⊢
          have hds' : s.drop i = [UInt8.ofNat r] ++ s.drop (i + (dec (s.drop i)).2) := by rw [← hel]; exact hds
          by_cases ce : esc (UInt8.ofNat r) = [UInt8.ofNat r]
          · rw [ce] at hd ⊢
            obtain ⟨q1, q2, q3⟩ := esc_plain ⟨r, hr⟩ ce
            simp only at q1 q2 q3
            have hb0 : byteAt (full.drop p) 0 = r := by rw [hd]; simp [byteAt]; omega
            have hdec := dec_ascii (l := full.drop p) (by omega)
            rw [hb0] at hdec
            rw [hb0, if_neg q2, if_neg (by omega), if_neg q3, hdec, if_neg (by intro e; have := congrArg Prod.fst e; simp at this; omega)]
            have ht : (full.drop p).take 1 = [UInt8.ofNat r] := by rw [hd]; rfl
            rw [ht]
            have hd2 : full.drop (p + 1) = (s.drop (i + (dec (s.drop i)).2)).flatMap esc ++ 34 :: behind := by
              rw [← List.drop_drop, hd]; rfl
            rw [U_back s behind full hs k _ _ _ (by omega) (by omega) (by omega) hb hd2]
            refine Prod.ext ?_ (Prod.ext ?_ rfl)
            · simp only
              conv => rhs; rw [hds']
              simp
            · simp only [List.length_append, List.length_cons, List.length_nil]
              omega
          · have hfin : ∀ (n : Nat), (n : Int) = (escS (full.drop p)).2 → (esc (UInt8.ofNat r)).length = n → (escS (full.drop p)).1 = (r : Int) → byteAt (full.drop p) 0 = 92 → 0 < n →
                (if byteAt (full.drop p) 0 = 34 then (acc, (p : Int) + 1, (0 : Int)) else if byteAt (full.drop p) 0 < 32 then (([] : Str), (p : Int), (4 : Int)) else if byteAt (full.drop p) 0 = 92 then
                  if hz : (escS (full.drop p)).2 = 0 then (([] : Str), (p : Int), (4 : Int)) else U full (acc ++ enc (escS (full.drop p)).1) (p + (escS (full.drop p)).2.toNat)
                  else if dec (full.drop p) = (65533, 1) then (([] : Str), (p : Int), (2 : Int)) else U full (acc ++ (full.drop p).take (dec (full.drop p)).2) (p + (dec (full.drop p)).2)) =
                (acc ++ s.drop i, (p : Int) + (esc (UInt8.ofNat r) ++ (s.drop (i + (dec (s.drop i)).2)).flatMap esc).length + 1, 0) := by
              intro n e1 e2 e3 e4 e5
              rw [e4, if_neg (by omega), if_neg (by omega), if_pos rfl, dif_neg (by omega), e3, hel, ← e1, Int.toNat_natCast]
              have hd2 : full.drop (p + n) = (s.drop (i + (dec (s.drop i)).2)).flatMap esc ++ 34 :: behind := by
                rw [← List.drop_drop, hd, List.append_assoc, ← e2, List.drop_left]
              have hpn : p + n ≤ full.length := by
                have := congrArg List.length hd
                simp only [List.length_drop, List.length_append] at this
                omega
              rw [U_back s behind full hs k _ _ _ (by omega) (by omega) hpn hb hd2]
              refine Prod.ext ?_ (Prod.ext ?_ rfl)
              · simp only
                conv => rhs; rw [hds']
                simp
              · simp only [List.length_append, e2]
                omega
            rcases esc_read ⟨r, hr⟩ ce with ⟨y, q1, q2⟩ | ⟨c1, d1, q1, q2⟩
            · simp only at q1 q2
              have hx : full.drop p = 92 :: y :: ((s.drop (i + (dec (s.drop i)).2)).flatMap esc ++ 34 :: behind) := by rw [hd, q1]; rfl
              have hes : escS (full.drop p) = ((r : Int), 2) := by rw [hx]; exact escS_short _ q2
              exact hfin 2 (by rw [hes]; rfl) (by rw [q1]; rfl) (by rw [hes]) (by rw [hx]; rfl) (by omega)
            · simp only at q1 q2
              have hx : full.drop p = 92 :: 117 :: 48 :: 48 :: c1 :: d1 :: ((s.drop (i + (dec (s.drop i)).2)).flatMap esc ++ 34 :: behind) := by rw [hd, q1]; rfl
              have hes : escS (full.drop p) = ((r : Int), 6) := by rw [hx]; exact escS_hex _ q2 (by omega) (by omega)
              exact hfin 6 (by rw [hes]; rfl) (by rw [q1]; rfl) (by rw [hes]) (by rw [hx]; rfl) (by omega)
        · have hfl : (s.drop i).flatMap esc = enc ((dec (s.drop i)).1 : Int) ++ (s.drop (i + (dec (s.drop i)).2)).flatMap esc := by
            conv => lhs; rw [hds]
            rw [List.flatMap_append, esc_enc hv (by omega)]
          rw [hfl] at hd ⊢
          rw [List.append_assoc] at hd
          have h3 := dec_enc ((s.drop (i + (dec (s.drop i)).2)).flatMap esc ++ 34 :: behind) hv
          have h4 := dec_enc_ok ((s.drop (i + (dec (s.drop i)).2)).flatMap esc ++ 34 :: behind) hv
          rw [← hd] at h3 h4
          have hel : (enc ((dec (s.drop i)).1 : Int)).length = (dec (s.drop i)).2 := by
            rw [he]; simp; omega
          have hneF : full.drop p ≠ [] := by simp; omega
          have h128 : 128 ≤ byteAt (full.drop p) 0 := by
            rcases Nat.lt_or_ge (byteAt (full.drop p) 0) 128 with hlt | hge
            · rw [dec_ascii hlt] at h3
              have := congrArg Prod.fst h3
              simp at this
              omega
            · exact hge
          rw [if_neg (by omega), if_neg (by omega), if_neg (by omega), if_neg h4, h3, hel]
          have ht : (full.drop p).take (dec (s.drop i)).2 = (s.drop i).take (dec (s.drop i)).2 := by
            have h5 : (full.drop p).take (enc ((dec (s.drop i)).1 : Int)).length = enc ((dec (s.drop i)).1 : Int) := by rw [hd, List.take_left]
            rw [hel] at h5
            rw [h5, he]
          simp only
          rw [ht]
          have hd2 : full.drop (p + (dec (s.drop i)).2) = (s.drop (i + (dec (s.drop i)).2)).flatMap esc ++ 34 :: behind := by
            rw [← List.drop_drop, hd, ← hel, List.drop_left]
          have hpn : p + (dec (s.drop i)).2 ≤ full.length := by
            have := congrArg List.length hd
            simp only [List.length_drop, List.length_append] at this
            omega
          rw [U_back s behind full hs k _ _ _ (by omega) (by omega) hpn hb hd2]
          refine Prod.ext ?_ (Prod.ext ?_ rfl)
          · simp only
            rw [← List.drop_drop, List.append_assoc, List.take_append_drop]
          · simp only [List.length_append, hel]
            omega
    · have hnil : s.drop i = [] := List.drop_eq_nil_of_le (by omega)
      rw [hnil] at hd ⊢
      simp only [List.flatMap_nil, List.nil_append] at hd
      rw [U, dif_pos hpl, hd, byteAt0, if_pos (by decide)]
      simp
theorem UQ_back (s behind : Str) (hs : s.length ≤ 1000000) (hb : badAt s 0 = -1) : UQ (Q s ++ behind) = (s, ((Q s).length : Int), 0) := by
  unfold UQ
  have h0 : byteAt (Q s ++ behind) 0 = 34 := rfl
  rw [if_pos h0, U_back s behind (Q s ++ behind) hs _ 0 1 [] (Nat.le_refl _) (Nat.zero_le _) (by simp [Q]) hb (by simp [Q])]
  refine Prod.ext (by simp) (Prod.ext ?_ rfl)
  simp only [Q, List.drop_zero, List.length_cons, List.length_append, List.length_nil]
  omega
theorem Q_len (s : Str) : s.length + 2 ≤ (Q s).length ∧ (Q s).length ≤ 6 * s.length + 2 := by
  have := flat_len s
  simp only [Q, List.cons_append, List.length_cons, List.length_append, List.length_nil]
  omega
theorem QuoteBack (s t : Str) : p_cascadelaw02_QuoteBack s t = some true := by
  unfold p_cascadelaw02_QuoteBack p_cascadelaw02_QuoteBack_0 b_cascadelaw02_QuoteBack_0
  simp only [awake02, r_slen]
  by_cases hl : s.length ≤ 200
  · rw [gtr_f (by omega)]
    simp only
    by_cases hm : t.length ≤ 200
    · rw [gtr_f (by omega)]
      simp only [ref_Right s (by omega)]
      by_cases c : badAt s 0 = -1
      · rw [show (badAt s 0 == -1) = true by simpa using c]
        simp only [quote_Quote s (by omega), if_pos c]
        have hq := Q_len s
        rw [r_scat (by omega)]
        simp only
        rw [quote_Unquote _ (by simp only [List.length_append]; omega), UQ_back s t (by omega) c]
        simp only
        rw [eql_t rfl, seq_t rfl, eql_t rfl]
      · rw [show (badAt s 0 == -1) = false by simpa using c]
    · rw [gtr_t (by omega)]
  · rw [gtr_t (by omega)]
theorem Q_inj {s t : Str} (hs : s.length ≤ 1000000) (ht : t.length ≤ 1000000) (h1 : badAt s 0 = -1) (h2 : badAt t 0 = -1) (h : Q s = Q t) : s = t := by
  have e1 := UQ_back s [] hs h1
  have e2 := UQ_back t [] ht h2
  rw [h, e2] at e1
  exact (congrArg Prod.fst e1).symm
/-- What is looked at of a quoted text. -/
def okAt : Str → Bool
  | [] => true
  | [_] => true
  | b :: c :: r => decide (32 ≤ b.toNat) && (b != 34) && (if b = 92 then okAt r else okAt (c :: r))
theorem esc_forms : ∀ i : Fin 256, (esc (UInt8.ofNat i.val) = [UInt8.ofNat i.val] ∧ 32 ≤ i.val ∧ i.val ≠ 34 ∧ i.val ≠ 92) ∨
    (∃ y : Fin 256, esc (UInt8.ofNat i.val) = [92, UInt8.ofNat y.val]) ∨ (∃ c d : Fin 16, esc (UInt8.ofNat i.val) = [92, 117, 48, 48, hexc c.val, hexc d.val]) := by
  intro i
  have hi : (UInt8.ofNat i.val).toNat = i.val := by simp
  unfold esc
  rw [hi]
  by_cases c : plainS i.val ≠ 0
  · rw [if_pos c]
    exact .inr (.inl ⟨⟨plainS i.val, plainS_le i⟩, rfl⟩)
  · rw [if_neg c]
    by_cases c2 : i.val < 32
    · rw [if_pos c2]
      exact .inr (.inr ⟨⟨i.val / 16, by omega⟩, ⟨i.val % 16, by omega⟩, rfl⟩)
    · rw [if_neg c2]
      refine .inl ⟨rfl, by omega, ?_, ?_⟩
      · intro e; rw [e] at c; exact c (by decide)
      · intro e; rw [e] at c; exact c (by decide)
theorem hexc_ok : ∀ c : Fin 16, 32 ≤ (hexc c.val).toNat ∧ hexc c.val ≠ 34 ∧ hexc c.val ≠ 92 := by decide +kernel
theorem okAt_flat (l : Str) : okAt (l.flatMap esc ++ [34]) = true := by
  induction l with
  | nil => rfl
  | cons b l ih =>
    rw [List.flatMap_cons, List.append_assoc]
    obtain ⟨x, r, hx⟩ : ∃ x r, l.flatMap esc ++ [34] = x :: r := by
      cases h : l.flatMap esc ++ [34] with
      | nil => simp at h
      | cons x r => exact ⟨x, r, rfl⟩
    rw [hx] at ih ⊢
    have hb : UInt8.ofNat b.toNat = b := by simp
    have key := esc_forms ⟨b.toNat, b.toNat_lt⟩
    simp only [hb] at key
    rcases key with ⟨e, h1, h2, h3⟩ | ⟨y, e⟩ | ⟨c, d, e⟩
    · rw [e]
      have h2' : b ≠ 34 := fun h => h2 (by rw [h]; rfl)
      have h3' : b ≠ 92 := fun h => h3 (by rw [h]; rfl)
      simp [okAt, h1, h2', h3', ih]
    · rw [e]
      simp [okAt, ih]
    · rw [e]
      obtain ⟨c1, c2, c3⟩ := hexc_ok c
      obtain ⟨d1, d2, d3⟩ := hexc_ok d
      simp [okAt, ih, c1, c2, c3, d1, d2, d3]
theorem One_6 (a : Str) (p : Nat) (hp : p ≤ 1000000) : p_cascadelaw02_QuoteOne_6 a (p : Int) = some (.inl (a, ((p + 1 : Nat) : Int))) := by
  unfold p_cascadelaw02_QuoteOne_6 b_cascadelaw02_QuoteOne_6
  rw [r_add (by unfold fit64; omega)]
  rfl
theorem One_loop (a : Str) (ha : a.length ≤ 100000) : ∀ (k p : Nat), a.length - p ≤ k → p ≤ a.length + 1 → okAt (a.drop p) = true → p_cascadelaw02_QuoteOne_3 a (p : Int) = some true
  | k, p, hk, hp, ho => by
    rw [u_cascadelaw02_QuoteOne_3]
    unfold b_cascadelaw02_QuoteOne_3
    rw [r_slen, r_sub64 (by unfold fit64; omega)]
    by_cases h : p + 1 < a.length
    · rw [lss_t (by omega)]
      have hx : a[p]? = some a[p] := List.getElem?_eq_getElem (by omega)
      have hd : a.drop p = a[p] :: a[p + 1] :: a.drop (p + 2) := by
        rw [List.drop_eq_getElem_cons (by omega), List.drop_eq_getElem_cons (i := p + 1) (by omega)]
      have hd1 : a.drop (p + 1) = a[p + 1] :: a.drop (p + 2) := by
        rw [List.drop_eq_getElem_cons (i := p + 1) (by omega)]
      rw [hd] at ho
      simp only [okAt, Bool.and_eq_true, decide_eq_true_eq, bne_iff_ne, ne_eq] at ho
      obtain ⟨⟨o1, o2⟩, o3⟩ := ho
      rw [r_sidx hx]
      simp only
      rw [lss_f (by omega), eql_f (b := 34) (by intro e; exact o2 (UInt8.toNat_inj.1 (show a[p].toNat = 34 by omega)))]
      simp only
      cases k with
      | zero => omega
      | succ k =>
        by_cases c : a[p] = 92
        · rw [if_pos c] at o3
          rw [eql_t (by rw [c]; rfl), r_add (by unfold fit64; omega), show (p : Int) + 1 = ((p + 1 : Nat) : Int) by omega]
          simp only [One_6 a (p + 1) (by omega)]
          exact One_loop a ha k (p + 2) (by omega) (by omega) o3
        · rw [if_neg c, ← hd1] at o3
          rw [eql_f (by intro e; exact c (UInt8.toNat_inj.1 (show a[p].toNat = 92 by omega)))]
          simp only [One_6 a p (by omega)]
          exact One_loop a ha k (p + 1) (by omega) (by omega) o3
    · rw [lss_f (by omega)]
theorem One_2 (s : Str) (hs : s.length ≤ 1000) : p_cascadelaw02_QuoteOne_2 (Q s) = some true := by
  unfold p_cascadelaw02_QuoteOne_2 b_cascadelaw02_QuoteOne_2
  have hq := Q_len s
  exact One_loop (Q s) (by omega) _ 1 (Nat.le_refl _) (by omega) (okAt_flat s)
theorem QuoteOne (s t : Str) : p_cascadelaw02_QuoteOne s t = some true := by
  unfold p_cascadelaw02_QuoteOne p_cascadelaw02_QuoteOne_0 b_cascadelaw02_QuoteOne_0
  simp only [awake02, r_slen]
  by_cases hl : s.length ≤ 200
  · rw [gtr_f (by omega)]
    simp only
    by_cases hm : t.length ≤ 200
    · rw [gtr_f (by omega)]
      simp only [ref_Right s (by omega), ref_Right t (by omega)]
      by_cases c : badAt s 0 = -1
      · rw [show (badAt s 0 == -1) = true by simpa using c]
        simp only
        by_cases d : badAt t 0 = -1
        · rw [show (badAt t 0 == -1) = true by simpa using d]
          simp only [quote_Quote s (by omega), quote_Quote t (by omega), if_pos c, if_pos d]
          have hq := Q_len s
          have hx0 : (Q s)[0]? = some 34 := rfl
          have hxl : (Q s)[(Q s).length - 1]? = some 34 := by
            have : Q s = (34 :: s.flatMap esc) ++ [34] := rfl
            rw [this]; simp
          have rest : (match Prims.real.cmp .lss ((Q s).length : Int) 2 with
              | false => match Prims.real.sidx (Q s) 0 with
                | none => none
                | some b27 => match Prims.real.cmp .neq b27 34 with
                  | false => match Prims.real.sidx (Q s) (Prims.real.ar .sub .i64 ((Q s).length : Int) 1) with
                    | none => none
                    | some b30 => match Prims.real.cmp .neq b30 34 with
                      | false => p_cascadelaw02_QuoteOne_2 (Q s)
                      | true => some false
                  | true => some false
              | true => some false) = some true := by
            rw [lss_f (by omega), r_sidx' (n := 0) 0 rfl hx0, r_sub64 (by unfold fit64; omega), r_sidx' ((Q s).length - 1) (by omega) hxl]
            simp only
            rw [neq_f (by decide)]
            simp only
            exact One_2 s (by omega)
          by_cases e : s = t
          · subst e
            rw [seq_t rfl, seq_t rfl]
            exact rest
          · rw [seq_f (fun h => e (Q_inj (by omega) (by omega) c d h)), seq_f e]
            exact rest
        · rw [show (badAt t 0 == -1) = false by simpa using d]
      · rw [show (badAt s 0 == -1) = false by simpa using c]
    · rw [gtr_t (by omega)]
  · rw [gtr_t (by omega)]
/-- A sign that stands for itself. -/
def ownS (b : UInt8) : Bool := decide (32 ≤ b.toNat ∧ b.toNat ≤ 126 ∧ b.toNat ≠ 34 ∧ b.toNat ≠ 92)
theorem esc_own : ∀ i : Fin 256, ownS (UInt8.ofNat i.val) = true → esc (UInt8.ofNat i.val) = [UInt8.ofNat i.val] := by decide +kernel
theorem flat_own (l : Str) (h : l.all ownS = true) : l.flatMap esc = l := by
  induction l with
  | nil => rfl
  | cons b l ih =>
    simp only [List.all_cons, Bool.and_eq_true] at h
    have hb : UInt8.ofNat b.toNat = b := by simp
    have := esc_own ⟨b.toNat, b.toNat_lt⟩
    simp only [hb] at this
    rw [List.flatMap_cons, this h.1, ih h.2]
    rfl
theorem own_bad (s : Str) : ∀ (k p : Nat), s.length - p ≤ k → (s.drop p).all ownS = true → badAt s p = -1
  | k, p, hk, h => by
    by_cases hp : p < s.length
    · have hd : s.drop p = s[p] :: s.drop (p + 1) := List.drop_eq_getElem_cons hp
      have h' := h
      rw [hd] at h'
      simp only [List.all_cons, Bool.and_eq_true, ownS, decide_eq_true_eq] at h'
      have hb : byteAt (s.drop p) 0 = s[p].toNat := by rw [hd]; rfl
      have hdec := dec_ascii (l := s.drop p) (by omega)
      rw [badAt_at hp, hdec, hb, if_neg (by intro e; have := congrArg Prod.fst e; simp at this; omega)]
      cases k with
      | zero => omega
      | succ k =>
        refine own_bad s k (p + 1) (by omega) ?_
        have := h'.2
        simpa [ownS] using this
    · exact badAt_end (by omega)
theorem U_own (t : Str) : ∀ (k p : Nat) (acc : Str), t.length - p ≤ k → (t.drop p).all ownS = true → U t acc p = ([], (t.length : Int), 4)
  | k, p, acc, hk, h => by
    by_cases hp : p < t.length
    · have hd : t.drop p = t[p] :: t.drop (p + 1) := List.drop_eq_getElem_cons hp
      have h' := h
      rw [hd] at h'
      simp only [List.all_cons, Bool.and_eq_true] at h'
      have ho := h'.1
      simp only [ownS, decide_eq_true_eq] at ho
      have hb : byteAt (t.drop p) 0 = t[p].toNat := by rw [hd]; rfl
      have hdec := dec_ascii (l := t.drop p) (by omega)
      rw [U, dif_pos hp, hb, if_neg (by omega), if_neg (by omega), if_neg (by omega), hdec, hb, if_neg (by intro e; have := congrArg Prod.fst e; simp at this; omega)]
      cases k with
      | zero => omega
      | succ k => exact U_own t k (p + 1) _ (by omega) h'.2
    · rw [U, dif_neg hp]
theorem Cuts_end (s : Str) (n : Int) (hs : s.length ≤ 200) (hn : 0 ≤ n ∧ n ≤ 65535) (ho : s.all ownS = true) : b_cascadelaw02_QuoteCuts_2 Prims.real p_cascadelaw02_awake p_quote_Quote p_quote_Unquote s n (s.length : Int) = some (.inr true) := by
  unfold b_cascadelaw02_QuoteCuts_2
  have hb := own_bad s _ 0 (Nat.le_refl _) (by simpa using ho)
  have hq := Q_len s
  simp only [r_slen]
  rw [lss_f (by omega)]
  simp only [quote_Quote s (by omega), if_pos hb]
  rw [eql_f (by omega), r_wrap64 (by unfold fit64; omega), r_rem (by omega) (by omega)]
  simp only
  obtain ⟨k, hk⟩ := Int.eq_ofNat_of_zero_le (Int.emod_nonneg n (show ((Q s).length : Int) ≠ 0 by omega))
  have hlt := Int.emod_lt_of_pos n (show 0 < ((Q s).length : Int) by omega)
  rw [hk] at hlt ⊢
  rw [r_ssub_to (by omega)]
  simp only
  have hQ : Q s = 34 :: s ++ [34] := by unfold Q; rw [flat_own s ho]
  rw [quote_Unquote _ (by simp; omega)]
  have hu : UQ ((Q s).take k) = ([], (k : Int), 4) := by
    unfold UQ
    cases k with
    | zero => simp [byteAt]
    | succ j =>
      have hlen := congrArg List.length hQ
      simp only [List.cons_append, List.length_cons, List.length_append, List.length_nil] at hlen
      have e : (Q s).take (j + 1) = 34 :: s.take j := by
        rw [hQ]
        simp only [List.cons_append, List.take_succ_cons]
        rw [List.take_append_of_le_length (by omega)]
      rw [e, if_pos (by rfl), U_own _ _ 1 _ (Nat.le_refl _)]
      · simp; omega
      · simp only [List.drop_succ_cons, List.drop_zero]
        rw [List.all_eq_true] at ho ⊢
        intro x hx
        exact ho x (List.mem_of_mem_take hx)
  rw [hu]
  simp only
  rw [seq_t rfl, eql_t rfl]
  simp only
  rw [eql_t rfl]
theorem Cuts_loop (s : Str) (n : Int) (hs : s.length ≤ 200) (hn : 0 ≤ n ∧ n ≤ 65535) : ∀ (k p : Nat), s.length - p ≤ k → p ≤ s.length → (s.take p).all ownS = true → p_cascadelaw02_QuoteCuts_2 s n (p : Int) = some true
  | k, p, hk, hp, ho => by
    rw [u_cascadelaw02_QuoteCuts_2]
    by_cases h : p < s.length
    · unfold b_cascadelaw02_QuoteCuts_2
      rw [r_slen, lss_true h]
      have hx : s[p]? = some s[p] := List.getElem?_eq_getElem h
      rw [r_sidx hx]
      simp only
      by_cases c1 : s[p].toNat < 32
      · rw [lss_t (by omega)]
      rw [lss_f (by omega)]
      simp only
      by_cases c2 : 126 < s[p].toNat
      · rw [gtr_t (by omega)]
      rw [gtr_f (by omega)]
      simp only
      by_cases c3 : s[p].toNat = 34
      · rw [eql_t (by omega)]
      rw [eql_f (by omega)]
      simp only
      by_cases c4 : s[p].toNat = 92
      · rw [eql_t (by omega)]
      rw [eql_f (by omega), r_add (by unfold fit64; omega)]
      simp only
      cases k with
      | zero => omega
      | succ k =>
        refine Cuts_loop s n hs hn k (p + 1) (by omega) (by omega) ?_
        rw [List.take_succ_eq_append_getElem h, List.all_append, ho]
        simp [ownS]
        omega
    · have : p = s.length := by omega
      subst this
      rw [Cuts_end s n hs hn (by simpa using ho)]
theorem QuoteCuts (s : Str) (n : Int) (hn : 0 ≤ n ∧ n ≤ 65535) : p_cascadelaw02_QuoteCuts s n = some true := by
  unfold p_cascadelaw02_QuoteCuts p_cascadelaw02_QuoteCuts_0 b_cascadelaw02_QuoteCuts_0
  simp only [awake02, r_slen]
  by_cases hl : s.length ≤ 200
  · rw [gtr_f (by omega)]
    exact Cuts_loop s n hl hn _ 0 (Nat.le_refl _) (Nat.zero_le _) (by simp)
  · rw [gtr_t (by omega)]
end Go.Abs.A
