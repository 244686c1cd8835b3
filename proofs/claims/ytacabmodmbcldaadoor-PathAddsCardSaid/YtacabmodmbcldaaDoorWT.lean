import Derived.Test.YtacabmodmbcldaaDoorDfT
set_option linter.unusedSimpArgs false
set_option linter.unusedVariables false
set_option linter.unusedSectionVars false
namespace Go.Abs.T
set_option maxRecDepth 100000
section
variable {PP : Prims} {xR : FuncId → Option RF} {xiter : (St → Rs) → St → Rs} {xG : Nat → Option (List D)} {xcall : CallF} {xpcall : FuncId → List V → Stk → Option V} {xfcall : FuncId → List V → Stk → Option (V × Stk)} {xkcall : FuncId → List (List Nat) → List V → Stk → Option (V × Level × Stk)} {xlen : List D → Nat} {xnth : List D → Nat → Option D} {xcut : List D → Nat → Nat → List D} {xapp : List D → List D → List D} {xset : List D → Nat → D → List D} {xrep : Nat → D → List D} {xallsz : Nat → List D → Bool} {xslen : Str → Nat} {xsnth : Str → Nat → Option UInt8} {xscut : Str → Nat → Nat → Str} {xsapp : Str → Str → Str} {xseq : Str → Str → Bool} {xslt : Str → Str → Bool} {xofStr : Str → List D} {xtoStr : List D → Option Str} {xdec : Str → Nat → Nat × Nat} {xenc : Int → Str} {xar : BinOp → IntKind → Int → Int → Int} {xcmp : BinOp → Int → Int → Bool} {xwrap : IntKind → Int → Int} {xisz : Int → Bool} {xneg : Int → Bool} {xnat : Int → Nat} {xofN : Nat → Int} {xbyte : UInt8 → Int} {xnle : Nat → Nat → Bool} {xnadd : Nat → Nat → Nat} {xnsub : Nat → Nat → Nat} {xfits : Nat → Nat → Bool} {xfind : D → List (D × Nat × V) → Option (Option V)} {xputE : D → Nat → V → List (D × Nat × V) → Option (List (D × Nat × V))} {xfindK : D → List D → List D → Option (Option D)} {xelen : List (D × Nat × V) → Nat} {xfrzM : List (D × Nat × V) → Option (List D × List D)} {xsamev : V → V → Bool} {xat : AtF} {xsetO : Stk → Lab → O → Stk} {xtop : Stk → Nat} {xsame : Stk → Stk → Bool} {xmap : {α : Type} → (α → D) → List α → List D} {xmapE : {α : Type} → (α → D) → List (Str × Nat × α) → List (D × Nat × V)} {pquo : BinOp → IntKind → Int → Int → Option Int} {pshf : BinOp → IntKind → Int → Int → Option Int} {pslen : Str → Int} {psidx : Str → Int → Option Int} {pssub : Str → Option Int → Option Int → Option Str} {pscat : Str → Str → Option Str} {psit : Str → Nat → Option (Int × Int × Nat)} {pslist : Str → Option (List Int)} {pofBytes : List Int → Str} {plen : {α : Type} → List α → Int} {pidx : {α : Type} → List α → Int → Option α} {psub : {α : Type} → List α → Option Int → Option Int → Option (List α)} {papp : {α : Type} → Nat → List α → List α → Option (List α)} {pset : {α : Type} → List α → Int → α → Option (List α)} {pmake : {α : Type} → Nat → α → Int → Option (List α)} {pmfind : {α : Type} → Str → List (Str × Nat × α) → Option α} {pmput : {α : Type} → Str → Nat → α → List (Str × Nat × α) → List (Str × Nat × α)} {ploop : {σ ρ : Type} → (σ → Option (σ ⊕ ρ)) → σ → Option ρ} {xT : FuncId → Option KF}
  (h : KLaws xR xiter xG xcall xpcall xfcall xkcall xlen xnth xcut xapp xset xrep xallsz xslen xsnth xscut xsapp xseq xslt xofStr xtoStr xdec xenc xar xcmp xwrap xisz xneg xnat xofN xbyte xnle xnadd xnsub xfits xfind xputE xfindK xelen xfrzM xsamev xat xsetO xtop xsame @xmap @xmapE pquo pshf pslen psidx pssub pscat psit pslist pofBytes @plen @pidx @psub @papp @pset @pmake @pmfind @pmput @ploop xT) (hT : xT = table) (hPP : PP = ⟨xar, xcmp, xwrap, xseq, xslt, xenc, pquo, pshf, pslen, psidx, pssub, pscat, psit, pslist, pofBytes, @plen, @pidx, @psub, @papp, @pset, @pmake, @pmfind, @pmput, @ploop⟩)
variable {e_e4 : S1_ → D} {e_e5 : S2_ → D} {e_e1 : S0_ → D} {e_e8 : Int → D} {e_e0 : Ls0 → D} (hA : (∀ (x_0 : Str) (x_1 : Int) (x_2 : Bool), e_e4 ⟨x_0, x_1, x_2⟩ = (.agg [(.str x_0), (.int .i64 x_1), (.bool x_2)])) ∧ (∀ (x_0 x_1 : Int) (x_2 : Str) (x_3 : Ls0) (x_4 : Ls1), e_e5 ⟨x_0, x_1, x_2, x_3, x_4⟩ = (.agg [(.int .i64 x_0), (.int .i64 x_1), (.str x_2), (.sl (xmap e_e5 x_3)), (.sl (xmap e_e1 x_4))])) ∧ (∀ (x_0 : Str) (x_1_0 x_1_1 : Int) (x_1_2 : Str) (x_1_3 : Ls0) (x_1_4 : Ls1), e_e1 ⟨x_0, ⟨x_1_0, x_1_1, x_1_2, x_1_3, x_1_4⟩⟩ = (.agg [(.str x_0), (.int .i64 x_1_0), (.int .i64 x_1_1), (.str x_1_2), (.sl (xmap e_e5 x_1_3)), (.sl (xmap e_e1 x_1_4))])) ∧ (∀ (x : Int), e_e8 x = (.int .i64 x)) ∧ (∀ (x : Ls0), e_e0 x = (.sl (xmap e_e5 x)))) (hZ : (∀ l, xallsz 3 (xmap e_e4 l) = true) ∧ (∀ l, xallsz 5 (xmap e_e5 l) = true) ∧ (∀ l, xallsz 6 (xmap e_e1 l) = true) ∧ (∀ l, xallsz 1 (xmap e_e8 l) = true) ∧ (∀ l, xallsz 1 (xmap e_e0 l) = true))
include h hT hPP hA hZ
def b_zcs_0 (P : Prims) : T_zcs_0 → Option R_zcs
 | v0 =>
 some ⟨[], v0, true⟩
section
variable (m : Nat)
include m
theorem o_zcs_0 : H_zcs_0 xat m (b_zcs_0 PP ) := by
 rintro v0 out hp stk
 subst hPP
 simp only [b_zcs_0] at hp
 simp only [A_zcs_0]
 rw [h.at_, hT]
 cbv
 cases hp
 all_goals first | rfl | (cbv; done)
end
def b_ze3_0 (P : Prims) (c_zfl : Y_zfl) (l_1 : T_ze3_1 → Option R_ze3) : T_ze3_0 → Option R_ze3
 | v0 =>
 l_1 (v0, v0, 0)
section
variable (c_zfl : Y_zfl) (h_zfl : (C_zfl xpcall xfcall c_zfl)) (m : Nat)
include c_zfl h_zfl m
theorem o_ze3_0 {l_1 : T_ze3_1 → Option R_ze3} (h_l_1 : H_ze3_1 xat m l_1) : H_ze3_0 xat m (b_ze3_0 PP c_zfl l_1) := by
 rintro v0 out hp stk
 subst hPP
 simp only [b_ze3_0] at hp
 simp only [A_ze3_0]
 rw [h.at_, hT]
 cbv
 first | exact h_l_1 hp stk | (have q := h_l_1 hp stk; simp only [A_ze3_1, h.lits, hA] at q; first | exact q | (cbv; exact q))
def b_ze3_1 (P : Prims) (c_zfl : Y_zfl) : T_ze3_1 → Option (T_ze3_1 ⊕ R_ze3)
 | (v0, o8_s, o8_p) =>
 match P.sit o8_s o8_p with
 | none =>
  some (.inr (-1))
 | some (i1, r2, n3) =>
  match P.cmp .neq r2 65533 with
  | false =>
   match P.ssub v0 (some i1) none with
   | none => none
   | some s5 =>
    match c_zfl s5 with
    | none => none
    | some (r7_0, r7_1) =>
     match P.cmp .eql r7_1 1 with
     | false =>
      some (.inl (v0, o8_s, n3))
     | true =>
      some (.inr i1)
  | true =>
   some (.inl (v0, o8_s, n3))
theorem o_ze3_1 : Hd (b_ze3_1 PP c_zfl ) (A_ze3_1 xat m ) (el (A_ze3_1 xat m ) (O_ze3 m )) := by
 rintro ⟨v0, o8_s, o8_p⟩ out hp stk
 subst hPP
 simp only [b_ze3_1] at hp
 simp only [A_ze3_1]
 rw [h.at_, hT]
 cbv
 cases c11 : psit o8_s o8_p with
 | none =>
  simp only [c11] at hp
  have q1 := h.sit0 c11
  simp only [q1, Bool.false_eq_true, if_false]
  cbv
  rw [h.at_, hT]
  cbv
  cases hp
  all_goals first | rfl | (cbv; done)
 | some y12 =>
  obtain ⟨i1, r2, n3⟩ := y12
  simp only [c11] at hp
  obtain ⟨q1, q2, q3, q4⟩ := h.sit1 c11
  simp only [q1, q2, q3, q4, if_true]
  cbv
  rw [h.at_, hT]
  cbv
  cases c4 : xcmp .neq r2 65533 with
  | false =>
   simp only [c4] at hp ⊢
   cbv
   rw [h.at_, hT]
   cbv
   cases c6 : pssub v0 (some i1) none with
   | none => simp only [c6] at hp; cases hp
   | some s5 =>
    simp only [c6] at hp
    obtain ⟨q0, q1, q2, q3⟩ := h.ssub1 c6
    simp only [q0, q1, q2, q3, Bool.false_eq_true, if_false, if_true]
    cbv
    try simp only [q0, q1, q2, q3, if_true]
    cbv
    cases c8 : c_zfl s5 with
    | none => simp only [c8] at hp; cases hp
    | some y10 =>
     obtain ⟨r7_0, r7_1⟩ := y10
     simp only [c8] at hp
     have qc := fun s => (h_zfl c8 s).1
     simp only [qc]
     cbv
     cases c9 : xcmp .eql r7_1 1 with
     | false =>
      simp only [c9] at hp ⊢
      cbv
      cases hp
      all_goals first | rfl | (cbv; done)
     | true =>
      simp only [c9] at hp ⊢
      cbv
      cases hp
      all_goals first | rfl | (cbv; done)
  | true =>
   simp only [c4] at hp ⊢
   cbv
   cases hp
   all_goals first | rfl | (cbv; done)
end
def b_ze5_0 (P : Prims) (c_ze3 : Y_ze3) : T_ze5_0 → Option R_ze5
 | v0 =>
 match c_ze3 v0 with
 | none => none
 | some r1_0 =>
  some (P.cmp .lss r1_0 0)
section
variable (c_ze3 : Y_ze3) (h_ze3 : (C_ze3 xpcall xfcall c_ze3)) (m : Nat)
include c_ze3 h_ze3 m
theorem o_ze5_0 : H_ze5_0 xat m (b_ze5_0 PP c_ze3 ) := by
 rintro v0 out hp stk
 subst hPP
 simp only [b_ze5_0] at hp
 simp only [A_ze5_0]
 rw [h.at_, hT]
 cbv
 cases c2 : c_ze3 v0 with
 | none => simp only [c2] at hp; cases hp
 | some r1_0 =>
  simp only [c2] at hp
  have qc := fun s => (h_ze3 c2 s).1
  simp only [qc]
  cbv
  cases hp
  all_goals first | rfl | (cbv; done)
end
def b_zc8_0 (P : Prims) (c_ze5 : Y_ze5) : T_zc8_0 → Option R_zc8
 | (v0_0, v0_1, v0_2) =>
 match v0_2 with
 | false =>
  match P.cmp .eql v0_1 0 with
  | false =>
   some false
  | true =>
   match c_ze5 v0_0 with
   | none => none
   | some r5_0 =>
    some r5_0
 | true =>
  match P.seq v0_0 [] with
  | false =>
   some false
  | true =>
   match P.cmp .geq v0_1 0 with
   | false =>
    some false
   | true =>
    some (P.cmp .leq v0_1 9007199254740991)
section
variable (c_ze5 : Y_ze5) (h_ze5 : (C_ze5 xpcall xfcall c_ze5)) (m : Nat)
include c_ze5 h_ze5 m
theorem o_zc8_0 : H_zc8_0 xat m (b_zc8_0 PP c_ze5 ) := by
 rintro ⟨v0_0, v0_1, v0_2⟩ out hp stk
 subst hPP
 simp only [b_zc8_0] at hp
 simp only [A_zc8_0]
 rw [h.at_, hT]
 cbv
 cases v0_2 with
 | false =>
  simp only at hp
  cbv
  rw [h.at_, hT]
  cbv
  cases c4 : xcmp .eql v0_1 0 with
  | false =>
   simp only [c4] at hp ⊢
   cbv
   cases hp
   all_goals first | rfl | (cbv; done)
  | true =>
   simp only [c4] at hp ⊢
   cbv
   cases c6 : c_ze5 v0_0 with
   | none => simp only [c6] at hp; cases hp
   | some r5_0 =>
    simp only [c6] at hp
    have qc := fun s => (h_ze5 c6 s).1
    simp only [qc]
    cbv
    cases hp
    all_goals first | rfl | (cbv; done)
 | true =>
  simp only at hp
  cbv
  cases c2 : xseq v0_0 [] with
  | false =>
   simp only [c2] at hp ⊢
   cbv
   cases hp
   all_goals first | rfl | (cbv; done)
  | true =>
   simp only [c2] at hp ⊢
   cbv
   cases c3 : xcmp .geq v0_1 0 with
   | false =>
    simp only [c3] at hp ⊢
    cbv
    cases hp
    all_goals first | rfl | (cbv; done)
   | true =>
    simp only [c3] at hp ⊢
    cbv
    cases hp
    all_goals first | rfl | (cbv; done)
end
def b_zcw_0 (P : Prims) (c_zc8 : Y_zc8) : T_zcw_0 → Option R_zcw
 | (v0_0, v0_1, v0_2) =>
 match c_zc8 ⟨v0_0, v0_1, v0_2⟩ with
 | none => none
 | some r1_0 =>
  match r1_0 with
  | false =>
   some true
  | true =>
   some false
section
variable (c_zc8 : Y_zc8) (h_zc8 : (C_zc8 xpcall xfcall c_zc8)) (m : Nat)
include c_zc8 h_zc8 m
theorem o_zcw_0 : H_zcw_0 xat m (b_zcw_0 PP c_zc8 ) := by
 rintro ⟨v0_0, v0_1, v0_2⟩ out hp stk
 subst hPP
 simp only [b_zcw_0] at hp
 simp only [A_zcw_0]
 rw [h.at_, hT]
 cbv
 cases c2 : c_zc8 ⟨v0_0, v0_1, v0_2⟩ with
 | none => simp only [c2] at hp; cases hp
 | some r1_0 =>
  simp only [c2] at hp
  have qc := fun s => (h_zc8 c2 s).1
  simp only [qc]
  cbv
  cases r1_0 with
  | false =>
   simp only at hp
   cbv
   cases hp
   all_goals first | rfl | (cbv; done)
  | true =>
   simp only at hp
   cbv
   cases hp
   all_goals first | rfl | (cbv; done)
end
def b_zd6_0 (P : Prims) (c_zcw : Y_zcw) (l_1 : T_zd6_1 → Option R_zd6) : T_zd6_0 → Option R_zd6
 | v0 =>
 l_1 (v0, P.len v0, 0)
section
variable (c_zcw : Y_zcw) (h_zcw : (C_zcw xpcall xfcall c_zcw)) (m : Nat)
include c_zcw h_zcw m
theorem o_zd6_0 {l_1 : T_zd6_1 → Option R_zd6} (h_l_1 : H_zd6_1 xat @xmap e_e4 m l_1) : H_zd6_0 xat @xmap e_e4 m (b_zd6_0 PP c_zcw l_1) := by
 rintro v0 out hp stk
 subst hPP
 simp only [b_zd6_0] at hp
 simp only [A_zd6_0]
 rw [h.at_, hT]
 cbv
 try simp only [h.len]
 first | exact h_l_1 hp stk | (have q := h_l_1 hp stk; simp only [A_zd6_1, h.lits, hA] at q; first | exact q | (cbv; exact q))
def b_zd6_1 (P : Prims) (c_zcw : Y_zcw) : T_zd6_1 → Option (T_zd6_1 ⊕ R_zd6)
 | (v0, v7, v8) =>
 match P.cmp .lss v8 v7 with
 | false =>
  some (.inr (-1))
 | true =>
  match P.idx v0 v8 with
  | none => none
  | some ⟨a2_0, a2_1, a2_2⟩ =>
   match c_zcw ⟨a2_0, a2_1, a2_2⟩ with
   | none => none
   | some r4_0 =>
    match r4_0 with
    | false =>
     some (.inl (v0, v7, P.ar .add .i64 v8 1))
    | true =>
     some (.inr v8)
theorem o_zd6_1 : Hd (b_zd6_1 PP c_zcw ) (A_zd6_1 xat @xmap e_e4 m ) (el (A_zd6_1 xat @xmap e_e4 m ) (O_zd6 m )) := by
 rintro ⟨v0, v7, v8⟩ out hp stk
 subst hPP
 simp only [b_zd6_1] at hp
 simp only [A_zd6_1]
 rw [h.at_, hT]
 cbv
 cases c1 : xcmp .lss v8 v7 with
 | false =>
  simp only [c1] at hp ⊢
  cbv
  rw [h.at_, hT]
  cbv
  cases hp
  all_goals first | rfl | (cbv; done)
 | true =>
  simp only [c1] at hp ⊢
  cbv
  rw [h.at_, hT]
  cbv
  cases c3 : pidx v0 v8 with
  | none => simp only [c3] at hp; cases hp
  | some y7 =>
   obtain ⟨a2_0, a2_1, a2_2⟩ := y7
   simp only [c3] at hp
   obtain ⟨q1, q2⟩ := h.idx e_e4 c3
   try simp only [hA.1] at q2
   simp only [q1, Bool.false_eq_true, if_false]
   cbv
   try simp only [q2]
   cbv
   cases c5 : c_zcw ⟨a2_0, a2_1, a2_2⟩ with
   | none => simp only [c5] at hp; cases hp
   | some r4_0 =>
    simp only [c5] at hp
    have qc := fun s => (h_zcw c5 s).1
    simp only [qc]
    cbv
    cases r4_0 with
    | false =>
     simp only at hp
     cbv
     rw [h.at_, hT]
     cbv
     cases hp
     all_goals first | rfl | (cbv; done)
    | true =>
     simp only at hp
     cbv
     cases hp
     all_goals first | rfl | (cbv; done)
end
def b_zdv_0 (P : Prims) (c_zd6 : Y_zd6) : T_zdv_0 → Option R_zdv
 | v0 =>
 match c_zd6 v0 with
 | none => none
 | some r1_0 =>
  some (P.cmp .geq r1_0 0)
section
variable (c_zd6 : Y_zd6) (h_zd6 : (C_zd6 xpcall xfcall @xmap e_e4 c_zd6)) (m : Nat)
include c_zd6 h_zd6 m
theorem o_zdv_0 : H_zdv_0 xat @xmap e_e4 m (b_zdv_0 PP c_zd6 ) := by
 rintro v0 out hp stk
 subst hPP
 simp only [b_zdv_0] at hp
 simp only [A_zdv_0]
 rw [h.at_, hT]
 cbv
 cases c2 : c_zd6 v0 with
 | none => simp only [c2] at hp; cases hp
 | some r1_0 =>
  simp only [c2] at hp
  have qc := fun s => (h_zd6 c2 s).1
  simp only [qc]
  cbv
  cases hp
  all_goals first | rfl | (cbv; done)
end
def b_zcv_0 (P : Prims) (c_zdv : Y_zdv) : T_zcv_0 → Option R_zcv
 | v0 =>
 match P.cmp .leq (P.len v0) 30 with
 | false =>
  some false
 | true =>
  match c_zdv v0 with
  | none => none
  | some r2_0 =>
   match r2_0 with
   | false =>
    some true
   | true =>
    some false
section
variable (c_zdv : Y_zdv) (h_zdv : (C_zdv xpcall xfcall @xmap e_e4 c_zdv)) (m : Nat)
include c_zdv h_zdv m
theorem o_zcv_0 : H_zcv_0 xat @xmap e_e4 m (b_zcv_0 PP c_zdv ) := by
 rintro v0 out hp stk
 subst hPP
 simp only [b_zcv_0] at hp
 simp only [A_zcv_0]
 rw [h.at_, hT]
 cbv
 try simp only [h.len]
 cases c1 : xcmp .leq (plen v0) 30 with
 | false =>
  simp only [c1] at hp ⊢
  cbv
  cases hp
  all_goals first | rfl | (cbv; done)
 | true =>
  simp only [c1] at hp ⊢
  cbv
  cases c3 : c_zdv v0 with
  | none => simp only [c3] at hp; cases hp
  | some r2_0 =>
   simp only [c3] at hp
   have qc := fun s => (h_zdv c3 s).1
   simp only [qc]
   cbv
   cases r2_0 with
   | false =>
    simp only at hp
    cbv
    cases hp
    all_goals first | rfl | (cbv; done)
   | true =>
    simp only at hp
    cbv
    cases hp
    all_goals first | rfl | (cbv; done)
end
def b_zcz_0 (P : Prims) (c_zcv : Y_zcv) (l_2 : T_zcz_2 → Option R_zcz) : T_zcz_0 → Option R_zcz
 | v0 =>
 match c_zcv v0 with
 | none => none
 | some r1_0 =>
  match r1_0 with
  | false =>
   some (⟨0, 0, [], [], []⟩, 1)
  | true =>
   l_2 (v0, P.len v0, 0, 0, 0, [], [], [], 4, 0, [], 0, [], [])
section
variable (c_zcv : Y_zcv) (h_zcv : (C_zcv xpcall xfcall @xmap e_e4 c_zcv)) (m : Nat)
include c_zcv h_zcv m
theorem o_zcz_0 {l_2 : T_zcz_2 → Option R_zcz} (h_l_2 : H_zcz_2 xat @xmap xlen e_e4 e_e5 e_e1 m l_2) : H_zcz_0 xat @xmap e_e4 e_e5 e_e1 m (b_zcz_0 PP c_zcv l_2) := by
 rintro v0 out hp stk
 subst hPP
 simp only [b_zcz_0] at hp
 simp only [A_zcz_0]
 rw [h.at_, hT]
 cbv
 cases c2 : c_zcv v0 with
 | none => simp only [c2] at hp; cases hp
 | some r1_0 =>
  simp only [c2] at hp
  have qc := fun s => (h_zcv c2 s).1
  simp only [qc]
  cbv
  cases r1_0 with
  | false =>
   simp only at hp
   cbv
   cases hp
   all_goals first | rfl | (cbv; done) | (simp only [h.lits, hA, el, O_zcz, if_true]; first | done | rfl | (cbv; done) | (cbv; simp only [h.lits, hA, el, O_zcz]; done))
  | true =>
   simp only at hp
   cbv
   rw [h.at_, hT]
   cbv
   try simp only [h.len]
   first | exact h_l_2 hp stk | (have q := h_l_2 hp stk; simp only [A_zcz_2, h.lits, hA] at q; first | exact q | (cbv; exact q))
def b_zcz_2 (P : Prims) (c_zcv : Y_zcv) (l_4 : T_zcz_4 → Option (T_zcz_2 ⊕ R_zcz)) : T_zcz_2 → Option (T_zcz_2 ⊕ R_zcz)
 | (v12, v13, v14, o2_0, o2_1, o2_2, o2_3, o2_4, o4_0, o4_1, o4_2, o4_3_g, o4_3, o4_4) =>
 match P.cmp .lss v14 v13 with
 | false =>
  some (.inr (⟨o4_0, o4_1, o4_2, o4_3, o4_4⟩, 0))
 | true =>
  match P.idx v12 v14 with
  | none => none
  | some ⟨a5_0, a5_1, a5_2⟩ =>
   match a5_2 with
   | false =>
    match P.app 80 o4_3 [⟨3, 0, a5_0, [], []⟩] with
    | none => none
    | some l10 =>
     l_4 (v12, v13, v14, o2_0, o2_1, o2_2, o2_3, o2_4, o4_0, o4_1, o4_2, o4_3_g + 1, l10, o4_4)
   | true =>
    match P.app 80 o4_3 [⟨2, a5_1, [], [], []⟩] with
    | none => none
    | some l8 =>
     l_4 (v12, v13, v14, o2_0, o2_1, o2_2, o2_3, o2_4, o4_0, o4_1, o4_2, o4_3_g + 1, l8, o4_4)
theorem o_zcz_2 {l_4 : T_zcz_4 → Option (T_zcz_2 ⊕ R_zcz)} (h_l_4 : H_zcz_4 xat @xmap xlen e_e4 e_e5 e_e1 m l_4) : Hd (b_zcz_2 PP c_zcv l_4) (A_zcz_2 xat @xmap xlen e_e4 e_e5 e_e1 m ) (el (A_zcz_2 xat @xmap xlen e_e4 e_e5 e_e1 m ) (O_zcz @xmap e_e5 e_e1 m )) := by
 rintro ⟨v12, v13, v14, o2_0, o2_1, o2_2, o2_3, o2_4, o4_0, o4_1, o4_2, o4_3_g, o4_3, o4_4⟩ out hp stk
 subst hPP
 simp only [b_zcz_2] at hp
 simp only [A_zcz_2]
 rw [h.at_, hT]
 cbv
 cases c4 : xcmp .lss v14 v13 with
 | false =>
  simp only [c4] at hp ⊢
  cbv
  rw [h.at_, hT]
  cbv
  cases hp
  all_goals first | rfl | (cbv; done) | (simp only [h.lits, hA, el, O_zcz, A_zcz_2, if_true]; first | done | rfl | (cbv; done) | (cbv; simp only [h.lits, hA, el, O_zcz, A_zcz_2]; done))
 | true =>
  simp only [c4] at hp ⊢
  cbv
  rw [h.at_, hT]
  cbv
  cases c6 : pidx v12 v14 with
  | none => simp only [c6] at hp; cases hp
  | some y12 =>
   obtain ⟨a5_0, a5_1, a5_2⟩ := y12
   simp only [c6] at hp
   obtain ⟨q1, q2⟩ := h.idx e_e4 c6
   try simp only [hA.1] at q2
   simp only [q1, Bool.false_eq_true, if_false]
   cbv
   try simp only [q2]
   cbv
   cases a5_2 with
   | false =>
    simp only at hp
    cbv
    simp only [h.allsz_nil, h.allsz_cons]
    cbv
    simp only [h.allsz_nil, h.allsz_cons]
    cbv
    cases c11 : papp 80 o4_3 [⟨3, 0, a5_0, [], []⟩] with
    | none => simp only [c11] at hp; cases hp
    | some l10 =>
     simp only [c11] at hp
     obtain ⟨q1, q2, q3⟩ := h.app e_e5 c11 rfl
     simp only [h.map_cons, h.map_nil, h.len_nil, hA.2.1] at q1 q2 q3
     try simp only [h.len_nil]
     cbv
     simp only [q1, q2, q3, if_true]
     cbv
     first | exact h_l_4 hp stk | (have q := h_l_4 hp stk; simp only [A_zcz_4, h.lits, hA] at q; first | exact q | (cbv; exact q))
   | true =>
    simp only at hp
    cbv
    simp only [h.allsz_nil, h.allsz_cons]
    cbv
    simp only [h.allsz_nil, h.allsz_cons]
    cbv
    cases c9 : papp 80 o4_3 [⟨2, a5_1, [], [], []⟩] with
    | none => simp only [c9] at hp; cases hp
    | some l8 =>
     simp only [c9] at hp
     obtain ⟨q1, q2, q3⟩ := h.app e_e5 c9 rfl
     simp only [h.map_cons, h.map_nil, h.len_nil, hA.2.1] at q1 q2 q3
     try simp only [h.len_nil]
     cbv
     simp only [q1, q2, q3, if_true]
     cbv
     first | exact h_l_4 hp stk | (have q := h_l_4 hp stk; simp only [A_zcz_4, h.lits, hA] at q; first | exact q | (cbv; exact q))
def b_zcz_4 (P : Prims) (c_zcv : Y_zcv) : T_zcz_4 → Option (T_zcz_2 ⊕ R_zcz)
 | (v12, v13, v14, o2_0, o2_1, o2_2, o2_3, o2_4, o4_0, o4_1, o4_2, o4_3_g, o4_3, o4_4) =>
 some (.inl (v12, v13, P.ar .add .i64 v14 1, o2_0, o2_1, o2_2, o2_3, o2_4, o4_0, o4_1, o4_2, o4_3_g, o4_3, o4_4))
theorem o_zcz_4 : H_zcz_4 xat @xmap xlen e_e4 e_e5 e_e1 m (b_zcz_4 PP c_zcv ) := by
 rintro ⟨v12, v13, v14, o2_0, o2_1, o2_2, o2_3, o2_4, o4_0, o4_1, o4_2, o4_3_g, o4_3, o4_4⟩ out hp stk
 subst hPP
 simp only [b_zcz_4] at hp
 simp only [A_zcz_4]
 rw [h.at_, hT]
 cbv
 cases hp
 all_goals first | rfl | (cbv; done) | (simp only [h.lits, hA, el, O_zcz, A_zcz_2, if_true]; first | done | rfl | (cbv; done) | (cbv; simp only [h.lits, hA, el, O_zcz, A_zcz_2]; done))
end
def b_zo_0 (P : Prims) (c_zcs : Y_zcs) (c_zcz : Y_zcz) : T_zo_0 → Option R_zo
 | () =>
 match c_zcs 3 with
 | none => none
 | some ⟨r1_0_0, r1_0_1, r1_0_2⟩ =>
  match c_zcz [⟨r1_0_0, r1_0_1, r1_0_2⟩] with
  | none => none
  | some (⟨r3_0_0, r3_0_1, r3_0_2, r3_0_3, r3_0_4⟩, r3_1) =>
   match P.cmp .eql r3_1 0 with
   | false =>
    some false
   | true =>
    match P.cmp .eql (P.len r3_0_3) 1 with
    | false =>
     some false
    | true =>
     match P.idx r3_0_3 0 with
     | none => none
     | some ⟨a7_0, a7_1, a7_2, a7_3, a7_4⟩ =>
      some (P.cmp .eql a7_1 3)
section
variable (c_zcs : Y_zcs) (c_zcz : Y_zcz) (h_zcs : (C_zcs xpcall xfcall c_zcs)) (h_zcz : (C_zcz xpcall xfcall @xmap e_e4 e_e5 e_e1 c_zcz)) (m : Nat)
include c_zcs c_zcz h_zcs h_zcz m
theorem o_zo_0 : H_zo_0 xat m (b_zo_0 PP c_zcs c_zcz ) := by
 rintro ⟨⟩ out hp stk
 subst hPP
 simp only [b_zo_0] at hp
 simp only [A_zo_0]
 rw [h.at_, hT]
 cbv
 cases c2 : c_zcs 3 with
 | none => simp only [c2] at hp; cases hp
 | some y11 =>
  obtain ⟨r1_0_0, r1_0_1, r1_0_2⟩ := y11
  simp only [c2] at hp
  have qc := fun s => (h_zcs c2 s).1
  simp only [qc]
  cbv
  simp only [h.allsz_nil, h.allsz_cons]
  cbv
  cases c4 : c_zcz [⟨r1_0_0, r1_0_1, r1_0_2⟩] with
  | none => simp only [c4] at hp; cases hp
  | some y10 =>
   obtain ⟨⟨r3_0_0, r3_0_1, r3_0_2, r3_0_3, r3_0_4⟩, r3_1⟩ := y10
   simp only [c4] at hp
   have qc := fun s => (h_zcz c4 s).1
   try simp only [h.map_cons, h.map_nil, hA.1] at qc
   simp only [qc]
   cbv
   cases c5 : xcmp .eql r3_1 0 with
   | false =>
    simp only [c5] at hp ⊢
    cbv
    cases hp
    all_goals first | rfl | (cbv; done)
   | true =>
    simp only [c5] at hp ⊢
    cbv
    try simp only [h.len]
    cases c6 : xcmp .eql (plen r3_0_3) 1 with
    | false =>
     simp only [c6] at hp ⊢
     cbv
     cases hp
     all_goals first | rfl | (cbv; done)
    | true =>
     simp only [c6] at hp ⊢
     cbv
     cases c8 : pidx r3_0_3 0 with
     | none => simp only [c8] at hp; cases hp
     | some y9 =>
      obtain ⟨a7_0, a7_1, a7_2, a7_3, a7_4⟩ := y9
      simp only [c8] at hp
      obtain ⟨q1, q2⟩ := h.idx e_e5 c8
      try simp only [hA.2.1] at q2
      simp only [q1, Bool.false_eq_true, if_false]
      cbv
      try simp only [q2]
      cbv
      cases hp
      all_goals first | rfl | (cbv; done)
end
def b_z4_0 (P : Prims) (c_z4 : Y_z4) (l_2 : T_z4_2 → Option R_z4) : T_z4_0 → Option R_z4
 | (v0_0, v0_1, v0_2, v0_3, v0_4, v1) =>
 match P.cmp .lss v1 1 with
 | false =>
  match P.cmp .gtr (P.slen v0_2) 500 with
  | false =>
   l_2 (P.ar .sub .i64 v1 1, v0_0, v0_1, v0_2, v0_3, v0_4, 0)
  | true =>
   some (-1)
 | true =>
  some (-1)
section
variable (c_z4 : Y_z4) (h_z4 : (C_z4 xpcall xfcall @xmap e_e5 e_e1 c_z4)) (m : Nat)
include c_z4 h_z4 m
theorem o_z4_0 {l_2 : T_z4_2 → Option R_z4} (h_l_2 : H_z4_2 xat @xmap e_e5 e_e1 m l_2) : H_z4_0 xat @xmap e_e5 e_e1 m (b_z4_0 PP c_z4 l_2) := by
 rintro ⟨v0_0, v0_1, v0_2, v0_3, v0_4, v1⟩ out hp stk
 subst hPP
 simp only [b_z4_0] at hp
 simp only [A_z4_0]
 rw [h.at_, hT]
 cbv
 cases c1 : xcmp .lss v1 1 with
 | false =>
  simp only [c1] at hp ⊢
  cbv
  try simp only [h.slen]
  cases c2 : xcmp .gtr (pslen v0_2) 500 with
  | false =>
   simp only [c2] at hp ⊢
   cbv
   rw [h.at_, hT]
   cbv
   first | exact h_l_2 hp stk | (have q := h_l_2 hp stk; simp only [A_z4_2, h.lits, hA] at q; first | exact q | (cbv; exact q))
  | true =>
   simp only [c2] at hp ⊢
   cbv
   cases hp
   all_goals first | rfl | (cbv; done)
 | true =>
  simp only [c1] at hp ⊢
  cbv
  cases hp
  all_goals first | rfl | (cbv; done)
def b_z4_2 (P : Prims) (c_z4 : Y_z4) (l_5 : T_z4_5 → Option R_z4) : T_z4_2 → Option (T_z4_2 ⊕ R_z4)
 | (v1, v2_0, v2_1, v2_2, v2_3, v2_4, v5) =>
 match P.cmp .lss v5 (P.len v2_3) with
 | false =>
  match l_5 (v1, v2_0, v2_1, v2_2, v2_3, v2_4) with | none => none | some o11 => some (.inr o11)
 | true =>
  match P.cmp .geq v1 0 with
  | false =>
   match l_5 (v1, v2_0, v2_1, v2_2, v2_3, v2_4) with | none => none | some o10 => some (.inr o10)
  | true =>
   match P.idx v2_3 v5 with
   | none => none
   | some ⟨a5_0, a5_1, a5_2, a5_3, a5_4⟩ =>
    match c_z4 ⟨a5_0, a5_1, a5_2, a5_3, a5_4⟩ v1 with
    | none => none
    | some r7_0 =>
     some (.inl (r7_0, v2_0, v2_1, v2_2, v2_3, v2_4, P.ar .add .i64 v5 1))
theorem o_z4_2 {l_5 : T_z4_5 → Option R_z4} (h_l_5 : H_z4_5 xat @xmap e_e5 e_e1 m l_5) : Hd (b_z4_2 PP c_z4 l_5) (A_z4_2 xat @xmap e_e5 e_e1 m ) (el (A_z4_2 xat @xmap e_e5 e_e1 m ) (O_z4 m )) := by
 rintro ⟨v1, v2_0, v2_1, v2_2, v2_3, v2_4, v5⟩ out hp stk
 subst hPP
 simp only [b_z4_2] at hp
 simp only [A_z4_2]
 rw [h.at_, hT]
 cbv
 try simp only [h.len]
 cases c3 : xcmp .lss v5 (plen v2_3) with
 | false =>
  simp only [c3] at hp ⊢
  cbv
  cases c : l_5 (v1, v2_0, v2_1, v2_2, v2_3, v2_4) with
  | none => simp only [c] at hp; cases hp
  | some o11 =>
   simp only [c] at hp
   cases hp
   first | exact h_l_5 c stk | (have q := h_l_5 c stk; simp only [A_z4_5, h.lits, hA] at q; first | exact q | (cbv; exact q))
 | true =>
  simp only [c3] at hp ⊢
  cbv
  cases c4 : xcmp .geq v1 0 with
  | false =>
   simp only [c4] at hp ⊢
   cbv
   cases c : l_5 (v1, v2_0, v2_1, v2_2, v2_3, v2_4) with
   | none => simp only [c] at hp; cases hp
   | some o10 =>
    simp only [c] at hp
    cases hp
    first | exact h_l_5 c stk | (have q := h_l_5 c stk; simp only [A_z4_5, h.lits, hA] at q; first | exact q | (cbv; exact q))
  | true =>
   simp only [c4] at hp ⊢
   cbv
   rw [h.at_, hT]
   cbv
   cases c6 : pidx v2_3 v5 with
   | none => simp only [c6] at hp; cases hp
   | some y9 =>
    obtain ⟨a5_0, a5_1, a5_2, a5_3, a5_4⟩ := y9
    simp only [c6] at hp
    obtain ⟨q1, q2⟩ := h.idx e_e5 c6
    try simp only [hA.2.1] at q2
    simp only [q1, Bool.false_eq_true, if_false]
    cbv
    try simp only [q2]
    cbv
    cases c8 : c_z4 ⟨a5_0, a5_1, a5_2, a5_3, a5_4⟩ v1 with
    | none => simp only [c8] at hp; cases hp
    | some r7_0 =>
     simp only [c8] at hp
     have qc := fun s => (h_z4 c8 s).1
     simp only [qc]
     cbv
     rw [h.at_, hT]
     cbv
     cases hp
     all_goals first | rfl | (cbv; done)
def b_z4_5 (P : Prims) (c_z4 : Y_z4) (l_6 : T_z4_6 → Option R_z4) : T_z4_5 → Option R_z4
 | (v1, v2_0, v2_1, v2_2, v2_3, v2_4) =>
 l_6 (v1, v2_0, v2_1, v2_2, v2_3, v2_4, 0)
theorem o_z4_5 {l_6 : T_z4_6 → Option R_z4} (h_l_6 : H_z4_6 xat @xmap e_e5 e_e1 m l_6) : H_z4_5 xat @xmap e_e5 e_e1 m (b_z4_5 PP c_z4 l_6) := by
 rintro ⟨v1, v2_0, v2_1, v2_2, v2_3, v2_4⟩ out hp stk
 subst hPP
 simp only [b_z4_5] at hp
 simp only [A_z4_5]
 rw [h.at_, hT]
 cbv
 first | exact h_l_6 hp stk | (have q := h_l_6 hp stk; simp only [A_z4_6, h.lits, hA] at q; first | exact q | (cbv; exact q))
def b_z4_6 (P : Prims) (c_z4 : Y_z4) (l_10 : T_z4_10 → Option R_z4) : T_z4_6 → Option (T_z4_6 ⊕ R_z4)
 | (v1, v2_0, v2_1, v2_2, v2_3, v2_4, v6) =>
 match P.cmp .lss v6 (P.len v2_4) with
 | false =>
  match l_10 v1 with | none => none | some o21 => some (.inr o21)
 | true =>
  match P.cmp .geq v1 0 with
  | false =>
   match l_10 v1 with | none => none | some o20 => some (.inr o20)
  | true =>
   match P.idx v2_4 v6 with
   | none => none
   | some ⟨a14_0, ⟨a14_1_0, a14_1_1, a14_1_2, a14_1_3, a14_1_4⟩⟩ =>
    match P.cmp .gtr (P.slen a14_0) 500 with
    | false =>
     match c_z4 ⟨a14_1_0, a14_1_1, a14_1_2, a14_1_3, a14_1_4⟩ v1 with
     | none => none
     | some r17_0 =>
      some (.inl (r17_0, v2_0, v2_1, v2_2, v2_3, v2_4, P.ar .add .i64 v6 1))
    | true =>
     some (.inr (-1))
theorem o_z4_6 {l_10 : T_z4_10 → Option R_z4} (h_l_10 : H_z4_10 xat m l_10) : Hd (b_z4_6 PP c_z4 l_10) (A_z4_6 xat @xmap e_e5 e_e1 m ) (el (A_z4_6 xat @xmap e_e5 e_e1 m ) (O_z4 m )) := by
 rintro ⟨v1, v2_0, v2_1, v2_2, v2_3, v2_4, v6⟩ out hp stk
 subst hPP
 simp only [b_z4_6] at hp
 simp only [A_z4_6]
 rw [h.at_, hT]
 cbv
 try simp only [h.len]
 cases c12 : xcmp .lss v6 (plen v2_4) with
 | false =>
  simp only [c12] at hp ⊢
  cbv
  cases c : l_10 v1 with
  | none => simp only [c] at hp; cases hp
  | some o21 =>
   simp only [c] at hp
   cases hp
   first | exact h_l_10 c stk | (have q := h_l_10 c stk; simp only [A_z4_10, h.lits, hA] at q; first | exact q | (cbv; exact q))
 | true =>
  simp only [c12] at hp ⊢
  cbv
  cases c13 : xcmp .geq v1 0 with
  | false =>
   simp only [c13] at hp ⊢
   cbv
   cases c : l_10 v1 with
   | none => simp only [c] at hp; cases hp
   | some o20 =>
    simp only [c] at hp
    cases hp
    first | exact h_l_10 c stk | (have q := h_l_10 c stk; simp only [A_z4_10, h.lits, hA] at q; first | exact q | (cbv; exact q))
  | true =>
   simp only [c13] at hp ⊢
   cbv
   rw [h.at_, hT]
   cbv
   cases c15 : pidx v2_4 v6 with
   | none => simp only [c15] at hp; cases hp
   | some y19 =>
    obtain ⟨a14_0, ⟨a14_1_0, a14_1_1, a14_1_2, a14_1_3, a14_1_4⟩⟩ := y19
    simp only [c15] at hp
    obtain ⟨q1, q2⟩ := h.idx e_e1 c15
    try simp only [hA.2.2.1] at q2
    simp only [q1, Bool.false_eq_true, if_false]
    cbv
    try simp only [q2]
    cbv
    try simp only [h.slen]
    cases c16 : xcmp .gtr (pslen a14_0) 500 with
    | false =>
     simp only [c16] at hp ⊢
     cbv
     rw [h.at_, hT]
     cbv
     obtain ⟨q1, q2⟩ := h.idx e_e1 c15
     try simp only [hA.2.2.1] at q2
     simp only [q1, Bool.false_eq_true, if_false]
     cbv
     try simp only [q2]
     cbv
     cases c18 : c_z4 ⟨a14_1_0, a14_1_1, a14_1_2, a14_1_3, a14_1_4⟩ v1 with
     | none => simp only [c18] at hp; cases hp
     | some r17_0 =>
      simp only [c18] at hp
      have qc := fun s => (h_z4 c18 s).1
      simp only [qc]
      cbv
      rw [h.at_, hT]
      cbv
      cases hp
      all_goals first | rfl | (cbv; done)
    | true =>
     simp only [c16] at hp ⊢
     cbv
     cases hp
     all_goals first | rfl | (cbv; done)
def b_z4_10 (P : Prims) (c_z4 : Y_z4) : T_z4_10 → Option R_z4
 | v1 =>
 some v1
theorem o_z4_10 : H_z4_10 xat m (b_z4_10 PP c_z4 ) := by
 rintro v1 out hp stk
 subst hPP
 simp only [b_z4_10] at hp
 simp only [A_z4_10]
 rw [h.at_, hT]
 cbv
 cases hp
 all_goals first | rfl | (cbv; done)
end
def b_z0_0 (P : Prims) (c_z4 : Y_z4) : T_z0_0 → Option R_z0
 | (v0_0, v0_1, v0_2, v0_3, v0_4, v1) =>
 match c_z4 ⟨v0_0, v0_1, v0_2, v0_3, v0_4⟩ v1 with
 | none => none
 | some r1_0 =>
  some (P.cmp .geq r1_0 0)
section
variable (c_z4 : Y_z4) (h_z4 : (C_z4 xpcall xfcall @xmap e_e5 e_e1 c_z4)) (m : Nat)
include c_z4 h_z4 m
theorem o_z0_0 : H_z0_0 xat @xmap e_e5 e_e1 m (b_z0_0 PP c_z4 ) := by
 rintro ⟨v0_0, v0_1, v0_2, v0_3, v0_4, v1⟩ out hp stk
 subst hPP
 simp only [b_z0_0] at hp
 simp only [A_z0_0]
 rw [h.at_, hT]
 cbv
 cases c2 : c_z4 ⟨v0_0, v0_1, v0_2, v0_3, v0_4⟩ v1 with
 | none => simp only [c2] at hp; cases hp
 | some r1_0 =>
  simp only [c2] at hp
  have qc := fun s => (h_z4 c2 s).1
  simp only [qc]
  cbv
  cases hp
  all_goals first | rfl | (cbv; done)
end
def b_z7_0 (P : Prims) (l_1 : T_z7_1 → Option R_z7) : T_z7_0 → Option R_z7
 | v0 =>
 l_1 (v0, 0)
section
variable (m : Nat)
include m
theorem o_z7_0 {l_1 : T_z7_1 → Option R_z7} (h_l_1 : H_z7_1 xat @xmap e_e4 m l_1) : H_z7_0 xat @xmap e_e4 m (b_z7_0 PP l_1) := by
 rintro v0 out hp stk
 subst hPP
 simp only [b_z7_0] at hp
 simp only [A_z7_0]
 rw [h.at_, hT]
 cbv
 first | exact h_l_1 hp stk | (have q := h_l_1 hp stk; simp only [A_z7_1, h.lits, hA] at q; first | exact q | (cbv; exact q))
def b_z7_1 (P : Prims) (l_4 : T_z7_4 → Option R_z7) : T_z7_1 → Option (T_z7_1 ⊕ R_z7)
 | (v0, v3) =>
 match P.cmp .lss v3 (P.len v0) with
 | false =>
  match l_4 v0 with | none => none | some o8 => some (.inr o8)
 | true =>
  match P.cmp .lss v3 50 with
  | false =>
   match l_4 v0 with | none => none | some o7 => some (.inr o7)
  | true =>
   match P.idx v0 v3 with
   | none => none
   | some ⟨a3_0, a3_1, a3_2⟩ =>
    match P.cmp .gtr (P.slen a3_0) 200 with
    | false =>
     some (.inl (v0, P.ar .add .i64 v3 1))
    | true =>
     some (.inr false)
theorem o_z7_1 {l_4 : T_z7_4 → Option R_z7} (h_l_4 : H_z7_4 xat @xmap e_e4 m l_4) : Hd (b_z7_1 PP l_4) (A_z7_1 xat @xmap e_e4 m ) (el (A_z7_1 xat @xmap e_e4 m ) (O_z7 m )) := by
 rintro ⟨v0, v3⟩ out hp stk
 subst hPP
 simp only [b_z7_1] at hp
 simp only [A_z7_1]
 rw [h.at_, hT]
 cbv
 try simp only [h.len]
 cases c1 : xcmp .lss v3 (plen v0) with
 | false =>
  simp only [c1] at hp ⊢
  cbv
  cases c : l_4 v0 with
  | none => simp only [c] at hp; cases hp
  | some o8 =>
   simp only [c] at hp
   cases hp
   first | exact h_l_4 c stk | (have q := h_l_4 c stk; simp only [A_z7_4, h.lits, hA] at q; first | exact q | (cbv; exact q))
 | true =>
  simp only [c1] at hp ⊢
  cbv
  cases c2 : xcmp .lss v3 50 with
  | false =>
   simp only [c2] at hp ⊢
   cbv
   cases c : l_4 v0 with
   | none => simp only [c] at hp; cases hp
   | some o7 =>
    simp only [c] at hp
    cases hp
    first | exact h_l_4 c stk | (have q := h_l_4 c stk; simp only [A_z7_4, h.lits, hA] at q; first | exact q | (cbv; exact q))
  | true =>
   simp only [c2] at hp ⊢
   cbv
   rw [h.at_, hT]
   cbv
   cases c4 : pidx v0 v3 with
   | none => simp only [c4] at hp; cases hp
   | some y6 =>
    obtain ⟨a3_0, a3_1, a3_2⟩ := y6
    simp only [c4] at hp
    obtain ⟨q1, q2⟩ := h.idx e_e4 c4
    try simp only [hA.1] at q2
    simp only [q1, Bool.false_eq_true, if_false]
    cbv
    try simp only [q2]
    cbv
    try simp only [h.slen]
    cases c5 : xcmp .gtr (pslen a3_0) 200 with
    | false =>
     simp only [c5] at hp ⊢
     cbv
     rw [h.at_, hT]
     cbv
     cases hp
     all_goals first | rfl | (cbv; done)
    | true =>
     simp only [c5] at hp ⊢
     cbv
     cases hp
     all_goals first | rfl | (cbv; done)
def b_z7_4 (P : Prims) : T_z7_4 → Option R_z7
 | v0 =>
 some (P.cmp .leq (P.len v0) 40)
theorem o_z7_4 : H_z7_4 xat @xmap e_e4 m (b_z7_4 PP ) := by
 rintro v0 out hp stk
 subst hPP
 simp only [b_z7_4] at hp
 simp only [A_z7_4]
 rw [h.at_, hT]
 cbv
 try simp only [h.len]
 cases hp
 all_goals first | rfl | (cbv; done)
end
def b_zfk_0 (P : Prims) : T_zfk_0 → Option R_zfk
 | (v0_0, v0_1, v0_2, v0_3, v0_4) =>
 match P.cmp .eql v0_0 1 with
 | false =>
  match P.cmp .eql v0_0 2 with
  | false =>
   match P.cmp .eql v0_1 0 with
   | false =>
    some false
   | true =>
    match P.cmp .eql v0_0 3 with
    | false =>
     match P.seq v0_2 [] with
     | false =>
      some false
     | true =>
      match P.cmp .eql v0_0 4 with
      | false =>
       match P.cmp .eql (P.len v0_3) 0 with
       | false =>
        some false
       | true =>
        match P.cmp .eql v0_0 5 with
        | false =>
         some (P.cmp .eql (P.len v0_4) 0)
        | true =>
         some true
      | true =>
       match P.cmp .eql v0_0 5 with
       | false =>
        some (P.cmp .eql (P.len v0_4) 0)
       | true =>
        some true
    | true =>
     match P.cmp .eql v0_0 4 with
     | false =>
      match P.cmp .eql (P.len v0_3) 0 with
      | false =>
       some false
      | true =>
       match P.cmp .eql v0_0 5 with
       | false =>
        some (P.cmp .eql (P.len v0_4) 0)
       | true =>
        some true
     | true =>
      match P.cmp .eql v0_0 5 with
      | false =>
       some (P.cmp .eql (P.len v0_4) 0)
      | true =>
       some true
  | true =>
   match P.cmp .eql v0_0 3 with
   | false =>
    match P.seq v0_2 [] with
    | false =>
     some false
    | true =>
     match P.cmp .eql v0_0 4 with
     | false =>
      match P.cmp .eql (P.len v0_3) 0 with
      | false =>
       some false
      | true =>
       match P.cmp .eql v0_0 5 with
       | false =>
        some (P.cmp .eql (P.len v0_4) 0)
       | true =>
        some true
     | true =>
      match P.cmp .eql v0_0 5 with
      | false =>
       some (P.cmp .eql (P.len v0_4) 0)
      | true =>
       some true
   | true =>
    match P.cmp .eql v0_0 4 with
    | false =>
     match P.cmp .eql (P.len v0_3) 0 with
     | false =>
      some false
     | true =>
      match P.cmp .eql v0_0 5 with
      | false =>
       some (P.cmp .eql (P.len v0_4) 0)
      | true =>
       some true
    | true =>
     match P.cmp .eql v0_0 5 with
     | false =>
      some (P.cmp .eql (P.len v0_4) 0)
     | true =>
      some true
 | true =>
  match P.cmp .eql v0_0 3 with
  | false =>
   match P.seq v0_2 [] with
   | false =>
    some false
   | true =>
    match P.cmp .eql v0_0 4 with
    | false =>
     match P.cmp .eql (P.len v0_3) 0 with
     | false =>
      some false
     | true =>
      match P.cmp .eql v0_0 5 with
      | false =>
       some (P.cmp .eql (P.len v0_4) 0)
      | true =>
       some true
    | true =>
     match P.cmp .eql v0_0 5 with
     | false =>
      some (P.cmp .eql (P.len v0_4) 0)
     | true =>
      some true
  | true =>
   match P.cmp .eql v0_0 4 with
   | false =>
    match P.cmp .eql (P.len v0_3) 0 with
    | false =>
     some false
    | true =>
     match P.cmp .eql v0_0 5 with
     | false =>
      some (P.cmp .eql (P.len v0_4) 0)
     | true =>
      some true
   | true =>
    match P.cmp .eql v0_0 5 with
    | false =>
     some (P.cmp .eql (P.len v0_4) 0)
    | true =>
     some true
section
variable (m : Nat)
include m
theorem o_zfk_0 : H_zfk_0 xat @xmap e_e5 e_e1 m (b_zfk_0 PP ) := by
 rintro ⟨v0_0, v0_1, v0_2, v0_3, v0_4⟩ out hp stk
 subst hPP
 simp only [b_zfk_0] at hp
 simp only [A_zfk_0]
 rw [h.at_, hT]
 cbv
 cases c1 : xcmp .eql v0_0 1 with
 | false =>
  simp only [c1] at hp ⊢
  cbv
  cases c12 : xcmp .eql v0_0 2 with
  | false =>
   simp only [c12] at hp ⊢
   cbv
   cases c23 : xcmp .eql v0_1 0 with
   | false =>
    simp only [c23] at hp ⊢
    cbv
    cases hp
    all_goals first | rfl | (cbv; done)
   | true =>
    simp only [c23] at hp ⊢
    cbv
    cases c24 : xcmp .eql v0_0 3 with
    | false =>
     simp only [c24] at hp ⊢
     cbv
     cases c29 : xseq v0_2 [] with
     | false =>
      simp only [c29] at hp ⊢
      cbv
      cases hp
      all_goals first | rfl | (cbv; done)
     | true =>
      simp only [c29] at hp ⊢
      cbv
      cases c30 : xcmp .eql v0_0 4 with
      | false =>
       simp only [c30] at hp ⊢
       cbv
       try simp only [h.len]
       cases c32 : xcmp .eql (plen v0_3) 0 with
       | false =>
        simp only [c32] at hp ⊢
        cbv
        cases hp
        all_goals first | rfl | (cbv; done)
       | true =>
        simp only [c32] at hp ⊢
        cbv
        cases c33 : xcmp .eql v0_0 5 with
        | false =>
         simp only [c33] at hp ⊢
         cbv
         try simp only [h.len]
         cases hp
         all_goals first | rfl | (cbv; done)
        | true =>
         simp only [c33] at hp ⊢
         cbv
         cases hp
         all_goals first | rfl | (cbv; done)
      | true =>
       simp only [c30] at hp ⊢
       cbv
       cases c31 : xcmp .eql v0_0 5 with
       | false =>
        simp only [c31] at hp ⊢
        cbv
        try simp only [h.len]
        cases hp
        all_goals first | rfl | (cbv; done)
       | true =>
        simp only [c31] at hp ⊢
        cbv
        cases hp
        all_goals first | rfl | (cbv; done)
    | true =>
     simp only [c24] at hp ⊢
     cbv
     cases c25 : xcmp .eql v0_0 4 with
     | false =>
      simp only [c25] at hp ⊢
      cbv
      try simp only [h.len]
      cases c27 : xcmp .eql (plen v0_3) 0 with
      | false =>
       simp only [c27] at hp ⊢
       cbv
       cases hp
       all_goals first | rfl | (cbv; done)
      | true =>
       simp only [c27] at hp ⊢
       cbv
       cases c28 : xcmp .eql v0_0 5 with
       | false =>
        simp only [c28] at hp ⊢
        cbv
        try simp only [h.len]
        cases hp
        all_goals first | rfl | (cbv; done)
       | true =>
        simp only [c28] at hp ⊢
        cbv
        cases hp
        all_goals first | rfl | (cbv; done)
     | true =>
      simp only [c25] at hp ⊢
      cbv
      cases c26 : xcmp .eql v0_0 5 with
      | false =>
       simp only [c26] at hp ⊢
       cbv
       try simp only [h.len]
       cases hp
       all_goals first | rfl | (cbv; done)
      | true =>
       simp only [c26] at hp ⊢
       cbv
       cases hp
       all_goals first | rfl | (cbv; done)
  | true =>
   simp only [c12] at hp ⊢
   cbv
   cases c13 : xcmp .eql v0_0 3 with
   | false =>
    simp only [c13] at hp ⊢
    cbv
    cases c18 : xseq v0_2 [] with
    | false =>
     simp only [c18] at hp ⊢
     cbv
     cases hp
     all_goals first | rfl | (cbv; done)
    | true =>
     simp only [c18] at hp ⊢
     cbv
     cases c19 : xcmp .eql v0_0 4 with
     | false =>
      simp only [c19] at hp ⊢
      cbv
      try simp only [h.len]
      cases c21 : xcmp .eql (plen v0_3) 0 with
      | false =>
       simp only [c21] at hp ⊢
       cbv
       cases hp
       all_goals first | rfl | (cbv; done)
      | true =>
       simp only [c21] at hp ⊢
       cbv
       cases c22 : xcmp .eql v0_0 5 with
       | false =>
        simp only [c22] at hp ⊢
        cbv
        try simp only [h.len]
        cases hp
        all_goals first | rfl | (cbv; done)
       | true =>
        simp only [c22] at hp ⊢
        cbv
        cases hp
        all_goals first | rfl | (cbv; done)
     | true =>
      simp only [c19] at hp ⊢
      cbv
      cases c20 : xcmp .eql v0_0 5 with
      | false =>
       simp only [c20] at hp ⊢
       cbv
       try simp only [h.len]
       cases hp
       all_goals first | rfl | (cbv; done)
      | true =>
       simp only [c20] at hp ⊢
       cbv
       cases hp
       all_goals first | rfl | (cbv; done)
   | true =>
    simp only [c13] at hp ⊢
    cbv
    cases c14 : xcmp .eql v0_0 4 with
    | false =>
     simp only [c14] at hp ⊢
     cbv
     try simp only [h.len]
     cases c16 : xcmp .eql (plen v0_3) 0 with
     | false =>
      simp only [c16] at hp ⊢
      cbv
      cases hp
      all_goals first | rfl | (cbv; done)
     | true =>
      simp only [c16] at hp ⊢
      cbv
      cases c17 : xcmp .eql v0_0 5 with
      | false =>
       simp only [c17] at hp ⊢
       cbv
       try simp only [h.len]
       cases hp
       all_goals first | rfl | (cbv; done)
      | true =>
       simp only [c17] at hp ⊢
       cbv
       cases hp
       all_goals first | rfl | (cbv; done)
    | true =>
     simp only [c14] at hp ⊢
     cbv
     cases c15 : xcmp .eql v0_0 5 with
     | false =>
      simp only [c15] at hp ⊢
      cbv
      try simp only [h.len]
      cases hp
      all_goals first | rfl | (cbv; done)
     | true =>
      simp only [c15] at hp ⊢
      cbv
      cases hp
      all_goals first | rfl | (cbv; done)
 | true =>
  simp only [c1] at hp ⊢
  cbv
  cases c2 : xcmp .eql v0_0 3 with
  | false =>
   simp only [c2] at hp ⊢
   cbv
   cases c7 : xseq v0_2 [] with
   | false =>
    simp only [c7] at hp ⊢
    cbv
    cases hp
    all_goals first | rfl | (cbv; done)
   | true =>
    simp only [c7] at hp ⊢
    cbv
    cases c8 : xcmp .eql v0_0 4 with
    | false =>
     simp only [c8] at hp ⊢
     cbv
     try simp only [h.len]
     cases c10 : xcmp .eql (plen v0_3) 0 with
     | false =>
      simp only [c10] at hp ⊢
      cbv
      cases hp
      all_goals first | rfl | (cbv; done)
     | true =>
      simp only [c10] at hp ⊢
      cbv
      cases c11 : xcmp .eql v0_0 5 with
      | false =>
       simp only [c11] at hp ⊢
       cbv
       try simp only [h.len]
       cases hp
       all_goals first | rfl | (cbv; done)
      | true =>
       simp only [c11] at hp ⊢
       cbv
       cases hp
       all_goals first | rfl | (cbv; done)
    | true =>
     simp only [c8] at hp ⊢
     cbv
     cases c9 : xcmp .eql v0_0 5 with
     | false =>
      simp only [c9] at hp ⊢
      cbv
      try simp only [h.len]
      cases hp
      all_goals first | rfl | (cbv; done)
     | true =>
      simp only [c9] at hp ⊢
      cbv
      cases hp
      all_goals first | rfl | (cbv; done)
  | true =>
   simp only [c2] at hp ⊢
   cbv
   cases c3 : xcmp .eql v0_0 4 with
   | false =>
    simp only [c3] at hp ⊢
    cbv
    try simp only [h.len]
    cases c5 : xcmp .eql (plen v0_3) 0 with
    | false =>
     simp only [c5] at hp ⊢
     cbv
     cases hp
     all_goals first | rfl | (cbv; done)
    | true =>
     simp only [c5] at hp ⊢
     cbv
     cases c6 : xcmp .eql v0_0 5 with
     | false =>
      simp only [c6] at hp ⊢
      cbv
      try simp only [h.len]
      cases hp
      all_goals first | rfl | (cbv; done)
     | true =>
      simp only [c6] at hp ⊢
      cbv
      cases hp
      all_goals first | rfl | (cbv; done)
   | true =>
    simp only [c3] at hp ⊢
    cbv
    cases c4 : xcmp .eql v0_0 5 with
    | false =>
     simp only [c4] at hp ⊢
     cbv
     try simp only [h.len]
     cases hp
     all_goals first | rfl | (cbv; done)
    | true =>
     simp only [c4] at hp ⊢
     cbv
     cases hp
     all_goals first | rfl | (cbv; done)
end
def b_zfi_0 (P : Prims) (c_ze5 : Y_ze5) (l_1 : T_zfi_1 → Option R_zfi) : T_zfi_0 → Option R_zfi
 | v0 =>
 l_1 (v0, P.len v0, 0, 0, [])
section
variable (c_ze5 : Y_ze5) (h_ze5 : (C_ze5 xpcall xfcall c_ze5)) (m : Nat)
include c_ze5 h_ze5 m
theorem o_zfi_0 {l_1 : T_zfi_1 → Option R_zfi} (h_l_1 : H_zfi_1 xat @xmap @xmapE e_e1 e_e8 m l_1) : H_zfi_0 xat @xmap e_e1 m (b_zfi_0 PP c_ze5 l_1) := by
 rintro v0 out hp stk
 subst hPP
 simp only [b_zfi_0] at hp
 simp only [A_zfi_0]
 rw [h.at_, hT]
 cbv
 try simp only [h.len]
 simp only [h.frzM0]
 cbv
 first | exact h_l_1 hp stk | (have q := h_l_1 hp stk; simp only [A_zfi_1, h.lits, hA] at q; first | exact q | (cbv; exact q))
def b_zfi_1 (P : Prims) (c_ze5 : Y_ze5) (l_3 : T_zfi_3 → Option (T_zfi_1 ⊕ R_zfi)) : T_zfi_1 → Option (T_zfi_1 ⊕ R_zfi)
 | (v7, v8, v9, o6_c, o6) =>
 match P.cmp .lss v9 v8 with
 | false =>
  some (.inr true)
 | true =>
  match P.idx v7 v9 with
  | none => none
  | some ⟨a2_0, ⟨a2_1_0, a2_1_1, a2_1_2, a2_1_3, a2_1_4⟩⟩ =>
   match P.mfind a2_0 o6 with
   | none =>
    match P.mfind a2_0 (P.mput a2_0 o6_c (P.ar .add .i64 0 1) o6) with
    | none =>
     match P.cmp .gtr 0 1 with
     | false =>
      match c_ze5 a2_0 with
      | none => none
      | some r32_0 =>
       match r32_0 with
       | false =>
        some (.inr false)
       | true =>
        l_3 (v7, v8, v9, o6_c + 1, P.mput a2_0 o6_c (P.ar .add .i64 0 1) o6)
     | true =>
      some (.inr false)
    | some f25 =>
     match P.cmp .gtr f25 1 with
     | false =>
      match c_ze5 a2_0 with
      | none => none
      | some r28_0 =>
       match r28_0 with
       | false =>
        some (.inr false)
       | true =>
        l_3 (v7, v8, v9, o6_c + 1, P.mput a2_0 o6_c (P.ar .add .i64 0 1) o6)
     | true =>
      some (.inr false)
   | some f5 =>
    match P.mfind a2_0 (P.mput a2_0 o6_c (P.ar .add .i64 f5 1) o6) with
    | none =>
     match P.cmp .gtr 0 1 with
     | false =>
      match c_ze5 a2_0 with
      | none => none
      | some r18_0 =>
       match r18_0 with
       | false =>
        some (.inr false)
       | true =>
        l_3 (v7, v8, v9, o6_c, P.mput a2_0 o6_c (P.ar .add .i64 f5 1) o6)
     | true =>
      some (.inr false)
    | some f11 =>
     match P.cmp .gtr f11 1 with
     | false =>
      match c_ze5 a2_0 with
      | none => none
      | some r14_0 =>
       match r14_0 with
       | false =>
        some (.inr false)
       | true =>
        l_3 (v7, v8, v9, o6_c, P.mput a2_0 o6_c (P.ar .add .i64 f5 1) o6)
     | true =>
      some (.inr false)
theorem o_zfi_1 {l_3 : T_zfi_3 → Option (T_zfi_1 ⊕ R_zfi)} (h_l_3 : H_zfi_3 xat @xmap @xmapE e_e1 e_e8 m l_3) : Hd (b_zfi_1 PP c_ze5 l_3) (A_zfi_1 xat @xmap @xmapE e_e1 e_e8 m ) (el (A_zfi_1 xat @xmap @xmapE e_e1 e_e8 m ) (O_zfi m )) := by
 rintro ⟨v7, v8, v9, o6_c, o6⟩ out hp stk
 subst hPP
 simp only [b_zfi_1] at hp
 simp only [A_zfi_1]
 rw [h.at_, hT]
 cbv
 cases c1 : xcmp .lss v9 v8 with
 | false =>
  simp only [c1] at hp ⊢
  cbv
  rw [h.at_, hT]
  cbv
  cases hp
  all_goals first | rfl | (cbv; done)
 | true =>
  simp only [c1] at hp ⊢
  cbv
  simp only [h.frzM]
  cbv
  rw [h.at_, hT]
  cbv
  cases c3 : pidx v7 v9 with
  | none => simp only [c3] at hp; cases hp
  | some y35 =>
   obtain ⟨a2_0, ⟨a2_1_0, a2_1_1, a2_1_2, a2_1_3, a2_1_4⟩⟩ := y35
   simp only [c3] at hp
   obtain ⟨q1, q2⟩ := h.idx e_e1 c3
   try simp only [hA.2.2.1] at q2
   simp only [q1, Bool.false_eq_true, if_false]
   cbv
   try simp only [q2]
   cbv
   cases c4 : pmfind a2_0 o6 with
   | none =>
    simp only [c4] at hp
    have q1 := h.mfind0 e_e8 c4
    simp only [q1]
    cbv
    have q1 := h.mfind0 e_e8 c4
    have q2 := h.mput e_e8 a2_0 o6_c (xar .add .i64 0 1) o6 (hA.2.2.2.1 _)
    simp only [q1, q2]
    cbv
    cases c24 : pmfind a2_0 (pmput a2_0 o6_c (xar .add .i64 0 1) o6) with
    | none =>
     simp only [c24] at hp
     have q1 := h.mfind0 e_e8 c24
     simp only [q1]
     cbv
     cases c31 : xcmp .gtr 0 1 with
     | false =>
      simp only [c31] at hp ⊢
      cbv
      cases c33 : c_ze5 a2_0 with
      | none => simp only [c33] at hp; cases hp
      | some r32_0 =>
       simp only [c33] at hp
       have qc := fun s => (h_ze5 c33 s).1
       simp only [qc]
       cbv
       cases r32_0 with
       | false =>
        simp only at hp
        cbv
        cases hp
        all_goals first | rfl | (cbv; done)
       | true =>
        simp only at hp
        cbv
        simp only [h.frzM]
        cbv
        first | exact h_l_3 hp stk | (have q := h_l_3 hp stk; simp only [A_zfi_3, h.lits, hA] at q; first | exact q | (cbv; exact q))
     | true =>
      simp only [c31] at hp ⊢
      cbv
      cases hp
      all_goals first | rfl | (cbv; done)
    | some f25 =>
     simp only [c24] at hp
     have q1 := h.mfind1 e_e8 c24
     simp only [hA.2.2.2.1] at q1
     simp only [q1]
     cbv
     cases c27 : xcmp .gtr f25 1 with
     | false =>
      simp only [c27] at hp ⊢
      cbv
      cases c29 : c_ze5 a2_0 with
      | none => simp only [c29] at hp; cases hp
      | some r28_0 =>
       simp only [c29] at hp
       have qc := fun s => (h_ze5 c29 s).1
       simp only [qc]
       cbv
       cases r28_0 with
       | false =>
        simp only at hp
        cbv
        cases hp
        all_goals first | rfl | (cbv; done)
       | true =>
        simp only at hp
        cbv
        simp only [h.frzM]
        cbv
        first | exact h_l_3 hp stk | (have q := h_l_3 hp stk; simp only [A_zfi_3, h.lits, hA] at q; first | exact q | (cbv; exact q))
     | true =>
      simp only [c27] at hp ⊢
      cbv
      cases hp
      all_goals first | rfl | (cbv; done)
   | some f5 =>
    simp only [c4] at hp
    have q1 := h.mfind1 e_e8 c4
    simp only [hA.2.2.2.1] at q1
    simp only [q1]
    cbv
    have q1 := h.mfind1 e_e8 c4
    have q2 := h.mput e_e8 a2_0 o6_c (xar .add .i64 f5 1) o6 (hA.2.2.2.1 _)
    simp only [q1, q2]
    cbv
    cases c10 : pmfind a2_0 (pmput a2_0 o6_c (xar .add .i64 f5 1) o6) with
    | none =>
     simp only [c10] at hp
     have q1 := h.mfind0 e_e8 c10
     simp only [q1]
     cbv
     cases c17 : xcmp .gtr 0 1 with
     | false =>
      simp only [c17] at hp ⊢
      cbv
      cases c19 : c_ze5 a2_0 with
      | none => simp only [c19] at hp; cases hp
      | some r18_0 =>
       simp only [c19] at hp
       have qc := fun s => (h_ze5 c19 s).1
       simp only [qc]
       cbv
       cases r18_0 with
       | false =>
        simp only at hp
        cbv
        cases hp
        all_goals first | rfl | (cbv; done)
       | true =>
        simp only at hp
        cbv
        simp only [h.frzM]
        cbv
        first | exact h_l_3 hp stk | (have q := h_l_3 hp stk; simp only [A_zfi_3, h.lits, hA] at q; first | exact q | (cbv; exact q))
     | true =>
      simp only [c17] at hp ⊢
      cbv
      cases hp
      all_goals first | rfl | (cbv; done)
    | some f11 =>
     simp only [c10] at hp
     have q1 := h.mfind1 e_e8 c10
     simp only [hA.2.2.2.1] at q1
     simp only [q1]
     cbv
     cases c13 : xcmp .gtr f11 1 with
     | false =>
      simp only [c13] at hp ⊢
      cbv
      cases c15 : c_ze5 a2_0 with
      | none => simp only [c15] at hp; cases hp
      | some r14_0 =>
       simp only [c15] at hp
       have qc := fun s => (h_ze5 c15 s).1
       simp only [qc]
       cbv
       cases r14_0 with
       | false =>
        simp only at hp
        cbv
        cases hp
        all_goals first | rfl | (cbv; done)
       | true =>
        simp only at hp
        cbv
        simp only [h.frzM]
        cbv
        first | exact h_l_3 hp stk | (have q := h_l_3 hp stk; simp only [A_zfi_3, h.lits, hA] at q; first | exact q | (cbv; exact q))
     | true =>
      simp only [c13] at hp ⊢
      cbv
      cases hp
      all_goals first | rfl | (cbv; done)
def b_zfi_3 (P : Prims) (c_ze5 : Y_ze5) : T_zfi_3 → Option (T_zfi_1 ⊕ R_zfi)
 | (v7, v8, v9, o6_c, o6) =>
 some (.inl (v7, v8, P.ar .add .i64 v9 1, o6_c, o6))
theorem o_zfi_3 : H_zfi_3 xat @xmap @xmapE e_e1 e_e8 m (b_zfi_3 PP c_ze5 ) := by
 rintro ⟨v7, v8, v9, o6_c, o6⟩ out hp stk
 subst hPP
 simp only [b_zfi_3] at hp
 simp only [A_zfi_3]
 rw [h.at_, hT]
 cbv
 cases hp
 simp only [h.frzM]
 cbv
 all_goals first | rfl | (cbv; done) | (simp only [h.lits, hA, el, O_zfi, A_zfi_1, if_true]; first | done | rfl | (cbv; done) | (cbv; simp only [h.lits, hA, el, O_zfi, A_zfi_1]; done))
end
def b_zfd_0 (P : Prims) (c_zfg : Y_zfg) : T_zfd_0 → Option R_zfd
 | (v0_0, v0_1, v0_2, v0_3, v0_4, v2_0) =>
 match c_zfg ⟨v0_0, v0_1, v0_2, v0_3, v0_4⟩ (P.ar .sub .i64 v2_0 1) with
 | none => none
 | some r1_0 =>
  match r1_0 with
  | false =>
   some true
  | true =>
   some false
section
variable (c_zfg : Y_zfg) (h_zfg : (C_zfg xpcall xfcall @xmap e_e5 e_e1 c_zfg)) (m : Nat) (n0 : Nat) (k0 : Kl) (hl0 : n0 < m)
include c_zfg h_zfg m n0 k0 hl0
theorem o_zfd_0 : H_zfd_0 xat @xmap e_e5 e_e1 m n0 k0 (b_zfd_0 PP c_zfg ) := by
 rintro ⟨v0_0, v0_1, v0_2, v0_3, v0_4, v2_0⟩ out hp stk ⟨hg0, _⟩
 have hn := nlt hl0
 have lw := And.intro hn (hg0)
 subst hPP
 simp only [b_zfd_0] at hp
 simp only [A_zfd_0]
 rw [h.at_, hT]
 cbv
 simp only [if_false, if_true, lw]
 cbv
 cases c2 : c_zfg ⟨v0_0, v0_1, v0_2, v0_3, v0_4⟩ (xar .sub .i64 v2_0 1) with
 | none => simp only [c2] at hp; cases hp
 | some r1_0 =>
  simp only [c2] at hp
  have qc := (h_zfg c2 (⟨m, []⟩ :: stk) n0 k0 ((h.gb hl0 _ _).trans (hg0)) (Nat.le_of_lt hl0)).1
  simp only [qc]
  cbv
  cases r1_0 with
  | false =>
   simp only at hp
   cbv
   cases hp
   try simp only [if_false, if_true, hn]
   all_goals first | rfl | (cbv; done)
  | true =>
   simp only at hp
   cbv
   cases hp
   try simp only [if_false, if_true, hn]
   all_goals first | rfl | (cbv; done)
end
def b_zfg_0 (P : Prims) (c_zfk : Y_zfk) (c_ze5 : Y_ze5) (c_zdx : Y_zdx) (c_zfi : Y_zfi) (c_zdt : Y_zdt) : T_zfg_0 → Option R_zfg
 | (v0_0, v0_1, v0_2, v0_3, v0_4, v1) =>
 match P.cmp .lss v1 1 with
 | false =>
  match c_zfk ⟨v0_0, v0_1, v0_2, v0_3, v0_4⟩ with
  | none => none
  | some r2_0 =>
   match r2_0 with
   | false =>
    some false
   | true =>
    match P.cmp .eql v0_0 0 with
    | false =>
     match P.cmp .eql v0_0 1 with
     | false =>
      match P.cmp .eql v0_0 2 with
      | false =>
       match P.cmp .eql v0_0 3 with
       | false =>
        match P.cmp .eql v0_0 4 with
        | false =>
         match P.cmp .eql v0_0 5 with
         | false =>
          some false
         | true =>
          match c_zfi v0_4 with
          | none => none
          | some r18_0 =>
           match r18_0 with
           | false =>
            some false
           | true =>
            match c_zdt v0_4 v1 with
            | none => none
            | some r21_0 =>
             match r21_0 with
             | false =>
              some true
             | true =>
              some false
        | true =>
         match c_zdx v0_3 v1 with
         | none => none
         | some r14_0 =>
          match r14_0 with
          | false =>
           some true
          | true =>
           some false
       | true =>
        match c_ze5 v0_2 with
        | none => none
        | some r11_0 =>
         some r11_0
      | true =>
       match P.cmp .geq v0_1 (-9007199254740991) with
       | false =>
        some false
       | true =>
        some (P.cmp .leq v0_1 9007199254740991)
     | true =>
      match P.cmp .eql v0_1 0 with
      | false =>
       some (P.cmp .eql v0_1 1)
      | true =>
       some true
    | true =>
     some true
 | true =>
  some false
section
variable (c_zfk : Y_zfk) (c_ze5 : Y_ze5) (c_zdx : Y_zdx) (c_zfi : Y_zfi) (c_zdt : Y_zdt) (h_zfk : (C_zfk xpcall xfcall @xmap e_e5 e_e1 c_zfk)) (h_ze5 : (C_ze5 xpcall xfcall c_ze5)) (h_zdx : (C_zdx xpcall xfcall @xmap e_e5 c_zdx)) (h_zfi : (C_zfi xpcall xfcall @xmap e_e1 c_zfi)) (h_zdt : (C_zdt xpcall xfcall @xmap e_e1 c_zdt)) (m : Nat) (n0 : Nat) (k0 : Kl) (hl0 : n0 < m)
include c_zfk c_ze5 c_zdx c_zfi c_zdt h_zfk h_ze5 h_zdx h_zfi h_zdt m n0 k0 hl0
theorem o_zfg_0 : H_zfg_0 xat @xmap e_e5 e_e1 m n0 k0 (b_zfg_0 PP c_zfk c_ze5 c_zdx c_zfi c_zdt ) := by
 rintro ⟨v0_0, v0_1, v0_2, v0_3, v0_4, v1⟩ out hp stk ⟨hg0, _⟩
 have hn := nlt hl0
 subst hPP
 simp only [b_zfg_0] at hp
 simp only [A_zfg_0]
 rw [h.at_, hT]
 cbv
 cases c1 : xcmp .lss v1 1 with
 | false =>
  simp only [c1] at hp ⊢
  cbv
  cases c3 : c_zfk ⟨v0_0, v0_1, v0_2, v0_3, v0_4⟩ with
  | none => simp only [c3] at hp; cases hp
  | some r2_0 =>
   simp only [c3] at hp
   have qc := fun s => (h_zfk c3 s).1
   simp only [qc]
   cbv
   cases r2_0 with
   | false =>
    simp only at hp
    cbv
    cases hp
    try simp only [if_false, if_true, hn]
    all_goals first | rfl | (cbv; done)
   | true =>
    simp only at hp
    cbv
    try simp only [if_false, if_true, hn]
    try cbv
    try simp only [if_false, if_true, hn]
    try cbv
    rw [h.at_, hT]
    cbv
    cases c5 : xcmp .eql v0_0 0 with
    | false =>
     simp only [c5] at hp ⊢
     cbv
     cases c6 : xcmp .eql v0_0 1 with
     | false =>
      simp only [c6] at hp ⊢
      cbv
      cases c8 : xcmp .eql v0_0 2 with
      | false =>
       simp only [c8] at hp ⊢
       cbv
       cases c10 : xcmp .eql v0_0 3 with
       | false =>
        simp only [c10] at hp ⊢
        cbv
        cases c13 : xcmp .eql v0_0 4 with
        | false =>
         simp only [c13] at hp ⊢
         cbv
         cases c17 : xcmp .eql v0_0 5 with
         | false =>
          simp only [c17] at hp ⊢
          cbv
          try simp only [if_false, if_true, hn]
          try cbv
          try simp only [if_false, if_true, hn]
          try cbv
          rw [h.at_, hT]
          cbv
          cases hp
          try simp only [if_false, if_true, hn]
          all_goals first | rfl | (cbv; done)
         | true =>
          simp only [c17] at hp ⊢
          cbv
          cases c19 : c_zfi v0_4 with
          | none => simp only [c19] at hp; cases hp
          | some r18_0 =>
           simp only [c19] at hp
           have qc := fun s => (h_zfi c19 s).1
           simp only [qc]
           cbv
           cases r18_0 with
           | false =>
            simp only at hp
            cbv
            cases hp
            try simp only [if_false, if_true, hn]
            all_goals first | rfl | (cbv; done)
           | true =>
            simp only at hp
            cbv
            cases c22 : c_zdt v0_4 v1 with
            | none => simp only [c22] at hp; cases hp
            | some r21_0 =>
             simp only [c22] at hp
             have qc := (h_zdt c22 (⟨m, []⟩ :: stk) n0 k0 ((h.gb hl0 _ _).trans (hg0)) (Nat.le_of_lt hl0)).1
             simp only [qc]
             cbv
             cases r21_0 with
             | false =>
              simp only at hp
              cbv
              cases hp
              try simp only [if_false, if_true, hn]
              all_goals first | rfl | (cbv; done)
             | true =>
              simp only at hp
              cbv
              cases hp
              try simp only [if_false, if_true, hn]
              all_goals first | rfl | (cbv; done)
        | true =>
         simp only [c13] at hp ⊢
         cbv
         cases c15 : c_zdx v0_3 v1 with
         | none => simp only [c15] at hp; cases hp
         | some r14_0 =>
          simp only [c15] at hp
          have qc := (h_zdx c15 (⟨m, []⟩ :: stk) n0 k0 ((h.gb hl0 _ _).trans (hg0)) (Nat.le_of_lt hl0)).1
          simp only [qc]
          cbv
          cases r14_0 with
          | false =>
           simp only at hp
           cbv
           cases hp
           try simp only [if_false, if_true, hn]
           all_goals first | rfl | (cbv; done)
          | true =>
           simp only at hp
           cbv
           cases hp
           try simp only [if_false, if_true, hn]
           all_goals first | rfl | (cbv; done)
       | true =>
        simp only [c10] at hp ⊢
        cbv
        cases c12 : c_ze5 v0_2 with
        | none => simp only [c12] at hp; cases hp
        | some r11_0 =>
         simp only [c12] at hp
         have qc := fun s => (h_ze5 c12 s).1
         simp only [qc]
         cbv
         cases hp
         try simp only [if_false, if_true, hn]
         all_goals first | rfl | (cbv; done)
      | true =>
       simp only [c8] at hp ⊢
       cbv
       cases c9 : xcmp .geq v0_1 (-9007199254740991) with
       | false =>
        simp only [c9] at hp ⊢
        cbv
        cases hp
        try simp only [if_false, if_true, hn]
        all_goals first | rfl | (cbv; done)
       | true =>
        simp only [c9] at hp ⊢
        cbv
        cases hp
        try simp only [if_false, if_true, hn]
        all_goals first | rfl | (cbv; done)
     | true =>
      simp only [c6] at hp ⊢
      cbv
      cases c7 : xcmp .eql v0_1 0 with
      | false =>
       simp only [c7] at hp ⊢
       cbv
       cases hp
       try simp only [if_false, if_true, hn]
       all_goals first | rfl | (cbv; done)
      | true =>
       simp only [c7] at hp ⊢
       cbv
       cases hp
       try simp only [if_false, if_true, hn]
       all_goals first | rfl | (cbv; done)
    | true =>
     simp only [c5] at hp ⊢
     cbv
     cases hp
     try simp only [if_false, if_true, hn]
     all_goals first | rfl | (cbv; done)
 | true =>
  simp only [c1] at hp ⊢
  cbv
  cases hp
  try simp only [if_false, if_true, hn]
  all_goals first | rfl | (cbv; done)
end
def b_zdx_0 (P : Prims) (c_zd8 : Y_zd8) : T_zdx_0 → Option R_zdx
 | (v0, v1_c1_0) =>
 match c_zd8 v0 v1_c1_0 with
 | none => none
 | some r1_0 =>
  some (P.cmp .geq r1_0 0)
section
variable (c_zd8 : Y_zd8) (h_zd8 : (C_zd8 xpcall xfcall @xmap e_e5 c_zd8)) (m : Nat) (n0 : Nat) (k0 : Kl) (hl0 : n0 < m)
include c_zd8 h_zd8 m n0 k0 hl0
theorem o_zdx_0 : H_zdx_0 xat @xmap e_e5 m n0 k0 (b_zdx_0 PP c_zd8 ) := by
 rintro ⟨v0, v1_c1_0⟩ out hp stk ⟨hg0, _⟩
 have hn := nlt hl0
 subst hPP
 simp only [b_zdx_0] at hp
 simp only [A_zdx_0]
 rw [h.at_, hT]
 cbv
 cases c2 : c_zd8 v0 v1_c1_0 with
 | none => simp only [c2] at hp; cases hp
 | some r1_0 =>
  simp only [c2] at hp
  have qc := (h_zd8 c2 (⟨m, []⟩ :: stk) n0 k0 ((h.gb hl0 _ _).trans (hg0)) (Nat.le_of_lt hl0)).1
  simp only [qc]
  cbv
  cases hp
  try simp only [if_false, if_true, hn]
  all_goals first | rfl | (cbv; done)
end
def b_zd8_0 (P : Prims) (c_zfd : Y_zfd) (l_1 : T_zd8_1 → Option R_zd8) : T_zd8_0 → Option R_zd8
 | (v0, v1_c1_0) =>
 l_1 (v0, v1_c1_0, P.len v0, 0)
section
variable (c_zfd : Y_zfd) (h_zfd : (C_zfd xpcall xfcall @xmap e_e5 e_e1 c_zfd)) (m : Nat) (n0 : Nat) (k0 : Kl) (hl0 : n0 < m)
include c_zfd h_zfd m n0 k0 hl0
theorem o_zd8_0 {l_1 : T_zd8_1 → Option R_zd8} (h_l_1 : H_zd8_1 xat @xmap e_e5 m n0 k0 l_1) : H_zd8_0 xat @xmap e_e5 m n0 k0 (b_zd8_0 PP c_zfd l_1) := by
 rintro ⟨v0, v1_c1_0⟩ out hp stk ⟨hg0, _⟩
 have hn := nlt hl0
 subst hPP
 simp only [b_zd8_0] at hp
 simp only [A_zd8_0]
 rw [h.at_, hT]
 cbv
 try simp only [h.len]
 try simp only [if_false, if_true, hn]
 first | exact h_l_1 hp stk ⟨hg0, trivial⟩ | (have q := h_l_1 hp stk ⟨hg0, trivial⟩; simp only [A_zd8_1, h.lits, hA] at q; first | exact q | (cbv; exact q))
def b_zd8_1 (P : Prims) (c_zfd : Y_zfd) : T_zd8_1 → Option (T_zd8_1 ⊕ R_zd8)
 | (v0, v1_c1_0, v7, v8) =>
 match P.cmp .lss v8 v7 with
 | false =>
  some (.inr (-1))
 | true =>
  match P.idx v0 v8 with
  | none => none
  | some ⟨a2_0, a2_1, a2_2, a2_3, a2_4⟩ =>
   match c_zfd ⟨a2_0, a2_1, a2_2, a2_3, a2_4⟩ v1_c1_0 with
   | none => none
   | some r4_0 =>
    match r4_0 with
    | false =>
     some (.inl (v0, v1_c1_0, v7, P.ar .add .i64 v8 1))
    | true =>
     some (.inr v8)
theorem o_zd8_1 : HdS (G_zd8 n0 k0 ) (b_zd8_1 PP c_zfd ) (A_zd8_1 xat @xmap e_e5 m n0 k0 ) (el (A_zd8_1 xat @xmap e_e5 m n0 k0 ) (O_zd8 m n0 k0 )) := by
 rintro ⟨v0, v1_c1_0, v7, v8⟩ out hp stk ⟨hg0, _⟩
 have hn := nlt hl0
 subst hPP
 simp only [b_zd8_1] at hp
 simp only [A_zd8_1]
 rw [h.at_, hT]
 cbv
 cases c1 : xcmp .lss v8 v7 with
 | false =>
  simp only [c1] at hp ⊢
  cbv
  try simp only [if_false, if_true, hn]
  try cbv
  try simp only [if_false, if_true, hn]
  try cbv
  rw [h.at_, hT]
  cbv
  cases hp
  try simp only [if_false, if_true, hn]
  all_goals first | rfl | (cbv; done)
 | true =>
  simp only [c1] at hp ⊢
  cbv
  try simp only [if_false, if_true, hn]
  try cbv
  try simp only [if_false, if_true, hn]
  try cbv
  rw [h.at_, hT]
  cbv
  cases c3 : pidx v0 v8 with
  | none => simp only [c3] at hp; cases hp
  | some y7 =>
   obtain ⟨a2_0, a2_1, a2_2, a2_3, a2_4⟩ := y7
   simp only [c3] at hp
   obtain ⟨q1, q2⟩ := h.idx e_e5 c3
   try simp only [hA.2.1] at q2
   simp only [q1, Bool.false_eq_true, if_false]
   cbv
   try simp only [q2]
   cbv
   cases c5 : c_zfd ⟨a2_0, a2_1, a2_2, a2_3, a2_4⟩ v1_c1_0 with
   | none => simp only [c5] at hp; cases hp
   | some r4_0 =>
    simp only [c5] at hp
    have qc := (h_zfd c5 (⟨m, []⟩ :: stk) n0 k0 ((h.gb hl0 _ _).trans (hg0)) (Nat.le_of_lt hl0)).1
    simp only [qc]
    cbv
    cases r4_0 with
    | false =>
     simp only at hp
     cbv
     try simp only [if_false, if_true, hn]
     try cbv
     try simp only [if_false, if_true, hn]
     try cbv
     rw [h.at_, hT]
     cbv
     cases hp
     try simp only [if_false, if_true, hn]
     all_goals first | rfl | (cbv; done)
    | true =>
     simp only at hp
     cbv
     cases hp
     try simp only [if_false, if_true, hn]
     all_goals first | rfl | (cbv; done)
end
def b_zdt_0 (P : Prims) (c_zd3 : Y_zd3) : T_zdt_0 → Option R_zdt
 | (v0, v1_c1_0) =>
 match c_zd3 v0 v1_c1_0 with
 | none => none
 | some r1_0 =>
  some (P.cmp .geq r1_0 0)
section
variable (c_zd3 : Y_zd3) (h_zd3 : (C_zd3 xpcall xfcall @xmap e_e1 c_zd3)) (m : Nat) (n0 : Nat) (k0 : Kl) (hl0 : n0 < m)
include c_zd3 h_zd3 m n0 k0 hl0
theorem o_zdt_0 : H_zdt_0 xat @xmap e_e1 m n0 k0 (b_zdt_0 PP c_zd3 ) := by
 rintro ⟨v0, v1_c1_0⟩ out hp stk ⟨hg0, _⟩
 have hn := nlt hl0
 subst hPP
 simp only [b_zdt_0] at hp
 simp only [A_zdt_0]
 rw [h.at_, hT]
 cbv
 cases c2 : c_zd3 v0 v1_c1_0 with
 | none => simp only [c2] at hp; cases hp
 | some r1_0 =>
  simp only [c2] at hp
  have qc := (h_zd3 c2 (⟨m, []⟩ :: stk) n0 k0 ((h.gb hl0 _ _).trans (hg0)) (Nat.le_of_lt hl0)).1
  simp only [qc]
  cbv
  cases hp
  try simp only [if_false, if_true, hn]
  all_goals first | rfl | (cbv; done)
end
def b_zd3_0 (P : Prims) (c_zff : Y_zff) (l_1 : T_zd3_1 → Option R_zd3) : T_zd3_0 → Option R_zd3
 | (v0, v1_c1_0) =>
 l_1 (v0, v1_c1_0, P.len v0, 0)
section
variable (c_zff : Y_zff) (h_zff : (C_zff xpcall xfcall @xmap e_e5 e_e1 c_zff)) (m : Nat) (n0 : Nat) (k0 : Kl) (hl0 : n0 < m)
include c_zff h_zff m n0 k0 hl0
theorem o_zd3_0 {l_1 : T_zd3_1 → Option R_zd3} (h_l_1 : H_zd3_1 xat @xmap e_e1 m n0 k0 l_1) : H_zd3_0 xat @xmap e_e1 m n0 k0 (b_zd3_0 PP c_zff l_1) := by
 rintro ⟨v0, v1_c1_0⟩ out hp stk ⟨hg0, _⟩
 have hn := nlt hl0
 subst hPP
 simp only [b_zd3_0] at hp
 simp only [A_zd3_0]
 rw [h.at_, hT]
 cbv
 try simp only [h.len]
 try simp only [if_false, if_true, hn]
 first | exact h_l_1 hp stk ⟨hg0, trivial⟩ | (have q := h_l_1 hp stk ⟨hg0, trivial⟩; simp only [A_zd3_1, h.lits, hA] at q; first | exact q | (cbv; exact q))
def b_zd3_1 (P : Prims) (c_zff : Y_zff) : T_zd3_1 → Option (T_zd3_1 ⊕ R_zd3)
 | (v0, v1_c1_0, v7, v8) =>
 match P.cmp .lss v8 v7 with
 | false =>
  some (.inr (-1))
 | true =>
  match P.idx v0 v8 with
  | none => none
  | some ⟨a2_0, ⟨a2_1_0, a2_1_1, a2_1_2, a2_1_3, a2_1_4⟩⟩ =>
   match c_zff ⟨a2_0, ⟨a2_1_0, a2_1_1, a2_1_2, a2_1_3, a2_1_4⟩⟩ v1_c1_0 with
   | none => none
   | some r4_0 =>
    match r4_0 with
    | false =>
     some (.inl (v0, v1_c1_0, v7, P.ar .add .i64 v8 1))
    | true =>
     some (.inr v8)
theorem o_zd3_1 : HdS (G_zd3 n0 k0 ) (b_zd3_1 PP c_zff ) (A_zd3_1 xat @xmap e_e1 m n0 k0 ) (el (A_zd3_1 xat @xmap e_e1 m n0 k0 ) (O_zd3 m n0 k0 )) := by
 rintro ⟨v0, v1_c1_0, v7, v8⟩ out hp stk ⟨hg0, _⟩
 have hn := nlt hl0
 subst hPP
 simp only [b_zd3_1] at hp
 simp only [A_zd3_1]
 rw [h.at_, hT]
 cbv
 cases c1 : xcmp .lss v8 v7 with
 | false =>
  simp only [c1] at hp ⊢
  cbv
  try simp only [if_false, if_true, hn]
  try cbv
  try simp only [if_false, if_true, hn]
  try cbv
  rw [h.at_, hT]
  cbv
  cases hp
  try simp only [if_false, if_true, hn]
  all_goals first | rfl | (cbv; done)
 | true =>
  simp only [c1] at hp ⊢
  cbv
  try simp only [if_false, if_true, hn]
  try cbv
  try simp only [if_false, if_true, hn]
  try cbv
  rw [h.at_, hT]
  cbv
  cases c3 : pidx v0 v8 with
  | none => simp only [c3] at hp; cases hp
  | some y7 =>
   obtain ⟨a2_0, ⟨a2_1_0, a2_1_1, a2_1_2, a2_1_3, a2_1_4⟩⟩ := y7
   simp only [c3] at hp
   obtain ⟨q1, q2⟩ := h.idx e_e1 c3
   try simp only [hA.2.2.1] at q2
   simp only [q1, Bool.false_eq_true, if_false]
   cbv
   try simp only [q2]
   cbv
   cases c5 : c_zff ⟨a2_0, ⟨a2_1_0, a2_1_1, a2_1_2, a2_1_3, a2_1_4⟩⟩ v1_c1_0 with
   | none => simp only [c5] at hp; cases hp
   | some r4_0 =>
    simp only [c5] at hp
    have qc := (h_zff c5 (⟨m, []⟩ :: stk) n0 k0 ((h.gb hl0 _ _).trans (hg0)) (Nat.le_of_lt hl0)).1
    simp only [qc]
    cbv
    cases r4_0 with
    | false =>
     simp only at hp
     cbv
     try simp only [if_false, if_true, hn]
     try cbv
     try simp only [if_false, if_true, hn]
     try cbv
     rw [h.at_, hT]
     cbv
     cases hp
     try simp only [if_false, if_true, hn]
     all_goals first | rfl | (cbv; done)
    | true =>
     simp only at hp
     cbv
     cases hp
     try simp only [if_false, if_true, hn]
     all_goals first | rfl | (cbv; done)
end
def b_zff_0 (P : Prims) (c_zfg : Y_zfg) : T_zff_0 → Option R_zff
 | (v0_0, v0_1_0, v0_1_1, v0_1_2, v0_1_3, v0_1_4, v2_0) =>
 match c_zfg ⟨v0_1_0, v0_1_1, v0_1_2, v0_1_3, v0_1_4⟩ (P.ar .sub .i64 v2_0 1) with
 | none => none
 | some r1_0 =>
  match r1_0 with
  | false =>
   some true
  | true =>
   some false
section
variable (c_zfg : Y_zfg) (h_zfg : (C_zfg xpcall xfcall @xmap e_e5 e_e1 c_zfg)) (m : Nat) (n0 : Nat) (k0 : Kl) (hl0 : n0 < m)
include c_zfg h_zfg m n0 k0 hl0
theorem o_zff_0 : H_zff_0 xat @xmap e_e5 e_e1 m n0 k0 (b_zff_0 PP c_zfg ) := by
 rintro ⟨v0_0, v0_1_0, v0_1_1, v0_1_2, v0_1_3, v0_1_4, v2_0⟩ out hp stk ⟨hg0, _⟩
 have hn := nlt hl0
 have lw := And.intro hn (hg0)
 subst hPP
 simp only [b_zff_0] at hp
 simp only [A_zff_0]
 rw [h.at_, hT]
 cbv
 simp only [if_false, if_true, lw]
 cbv
 cases c2 : c_zfg ⟨v0_1_0, v0_1_1, v0_1_2, v0_1_3, v0_1_4⟩ (xar .sub .i64 v2_0 1) with
 | none => simp only [c2] at hp; cases hp
 | some r1_0 =>
  simp only [c2] at hp
  have qc := (h_zfg c2 (⟨m, []⟩ :: stk) n0 k0 ((h.gb hl0 _ _).trans (hg0)) (Nat.le_of_lt hl0)).1
  simp only [qc]
  cbv
  cases r1_0 with
  | false =>
   simp only at hp
   cbv
   cases hp
   try simp only [if_false, if_true, hn]
   all_goals first | rfl | (cbv; done)
  | true =>
   simp only at hp
   cbv
   cases hp
   try simp only [if_false, if_true, hn]
   all_goals first | rfl | (cbv; done)
end
def b_zfa_0 (P : Prims) (c_zfg : Y_zfg) : T_zfa_0 → Option R_zfa
 | (v0_0, v0_1, v0_2, v0_3, v0_4) =>
 match c_zfg ⟨v0_0, v0_1, v0_2, v0_3, v0_4⟩ 12 with
 | none => none
 | some r1_0 =>
  some r1_0
section
variable (c_zfg : Y_zfg) (h_zfg : (C_zfg xpcall xfcall @xmap e_e5 e_e1 c_zfg)) (m : Nat)
include c_zfg h_zfg m
theorem o_zfa_0 : H_zfa_0 xat @xmap e_e5 e_e1 m (b_zfa_0 PP c_zfg ) := by
 rintro ⟨v0_0, v0_1, v0_2, v0_3, v0_4⟩ out hp stk
 subst hPP
 simp only [b_zfa_0] at hp
 simp only [A_zfa_0]
 rw [h.at_, hT]
 cbv
 cases c2 : c_zfg ⟨v0_0, v0_1, v0_2, v0_3, v0_4⟩ 12 with
 | none => simp only [c2] at hp; cases hp
 | some r1_0 =>
  simp only [c2] at hp
  have qc := (h_zfg c2 (⟨m, [([3], (.cells [(.clos (.func F.zfb) [] [(.ref ⟨m, [3]⟩ 0)])]))]⟩ :: stk) m [3] (h.gt _ _ _ _) (Nat.le_refl _)).1
  simp only [qc]
  cbv
  cases hp
  all_goals first | rfl | (cbv; done)
end
def b_zcg_0 (P : Prims) (c_zfa : Y_zfa) : T_zcg_0 → Option R_zcg
 | (v0_0, v0_1, v0_2, v0_3, v0_4) =>
 match c_zfa ⟨v0_0, v0_1, v0_2, v0_3, v0_4⟩ with
 | none => none
 | some r1_0 =>
  match r1_0 with
  | false =>
   some true
  | true =>
   some false
section
variable (c_zfa : Y_zfa) (h_zfa : (C_zfa xpcall xfcall @xmap e_e5 e_e1 c_zfa)) (m : Nat)
include c_zfa h_zfa m
theorem o_zcg_0 : H_zcg_0 xat @xmap e_e5 e_e1 m (b_zcg_0 PP c_zfa ) := by
 rintro ⟨v0_0, v0_1, v0_2, v0_3, v0_4⟩ out hp stk
 subst hPP
 simp only [b_zcg_0] at hp
 simp only [A_zcg_0]
 rw [h.at_, hT]
 cbv
 cases c2 : c_zfa ⟨v0_0, v0_1, v0_2, v0_3, v0_4⟩ with
 | none => simp only [c2] at hp; cases hp
 | some r1_0 =>
  simp only [c2] at hp
  have qc := fun s => (h_zfa c2 s).1
  simp only [qc]
  cbv
  cases r1_0 with
  | false =>
   simp only at hp
   cbv
   cases hp
   all_goals first | rfl | (cbv; done)
  | true =>
   simp only at hp
   cbv
   cases hp
   all_goals first | rfl | (cbv; done)
end
def b_zd9_0 (P : Prims) (c_zcg : Y_zcg) (l_1 : T_zd9_1 → Option R_zd9) : T_zd9_0 → Option R_zd9
 | v0 =>
 l_1 (v0, P.len v0, 0)
section
variable (c_zcg : Y_zcg) (h_zcg : (C_zcg xpcall xfcall @xmap e_e5 e_e1 c_zcg)) (m : Nat)
include c_zcg h_zcg m
theorem o_zd9_0 {l_1 : T_zd9_1 → Option R_zd9} (h_l_1 : H_zd9_1 xat @xmap e_e5 m l_1) : H_zd9_0 xat @xmap e_e5 m (b_zd9_0 PP c_zcg l_1) := by
 rintro v0 out hp stk
 subst hPP
 simp only [b_zd9_0] at hp
 simp only [A_zd9_0]
 rw [h.at_, hT]
 cbv
 try simp only [h.len]
 first | exact h_l_1 hp stk | (have q := h_l_1 hp stk; simp only [A_zd9_1, h.lits, hA] at q; first | exact q | (cbv; exact q))
def b_zd9_1 (P : Prims) (c_zcg : Y_zcg) : T_zd9_1 → Option (T_zd9_1 ⊕ R_zd9)
 | (v0, v7, v8) =>
 match P.cmp .lss v8 v7 with
 | false =>
  some (.inr (-1))
 | true =>
  match P.idx v0 v8 with
  | none => none
  | some ⟨a2_0, a2_1, a2_2, a2_3, a2_4⟩ =>
   match c_zcg ⟨a2_0, a2_1, a2_2, a2_3, a2_4⟩ with
   | none => none
   | some r4_0 =>
    match r4_0 with
    | false =>
     some (.inl (v0, v7, P.ar .add .i64 v8 1))
    | true =>
     some (.inr v8)
theorem o_zd9_1 : Hd (b_zd9_1 PP c_zcg ) (A_zd9_1 xat @xmap e_e5 m ) (el (A_zd9_1 xat @xmap e_e5 m ) (O_zd9 m )) := by
 rintro ⟨v0, v7, v8⟩ out hp stk
 subst hPP
 simp only [b_zd9_1] at hp
 simp only [A_zd9_1]
 rw [h.at_, hT]
 cbv
 cases c1 : xcmp .lss v8 v7 with
 | false =>
  simp only [c1] at hp ⊢
  cbv
  rw [h.at_, hT]
  cbv
  cases hp
  all_goals first | rfl | (cbv; done)
 | true =>
  simp only [c1] at hp ⊢
  cbv
  rw [h.at_, hT]
  cbv
  cases c3 : pidx v0 v8 with
  | none => simp only [c3] at hp; cases hp
  | some y7 =>
   obtain ⟨a2_0, a2_1, a2_2, a2_3, a2_4⟩ := y7
   simp only [c3] at hp
   obtain ⟨q1, q2⟩ := h.idx e_e5 c3
   try simp only [hA.2.1] at q2
   simp only [q1, Bool.false_eq_true, if_false]
   cbv
   try simp only [q2]
   cbv
   cases c5 : c_zcg ⟨a2_0, a2_1, a2_2, a2_3, a2_4⟩ with
   | none => simp only [c5] at hp; cases hp
   | some r4_0 =>
    simp only [c5] at hp
    have qc := fun s => (h_zcg c5 s).1
    simp only [qc]
    cbv
    cases r4_0 with
    | false =>
     simp only at hp
     cbv
     rw [h.at_, hT]
     cbv
     cases hp
     all_goals first | rfl | (cbv; done)
    | true =>
     simp only at hp
     cbv
     cases hp
     all_goals first | rfl | (cbv; done)
end
def b_zdy_0 (P : Prims) (c_zd9 : Y_zd9) : T_zdy_0 → Option R_zdy
 | v0 =>
 match c_zd9 v0 with
 | none => none
 | some r1_0 =>
  some (P.cmp .geq r1_0 0)
section
variable (c_zd9 : Y_zd9) (h_zd9 : (C_zd9 xpcall xfcall @xmap e_e5 c_zd9)) (m : Nat)
include c_zd9 h_zd9 m
theorem o_zdy_0 : H_zdy_0 xat @xmap e_e5 m (b_zdy_0 PP c_zd9 ) := by
 rintro v0 out hp stk
 subst hPP
 simp only [b_zdy_0] at hp
 simp only [A_zdy_0]
 rw [h.at_, hT]
 cbv
 cases c2 : c_zd9 v0 with
 | none => simp only [c2] at hp; cases hp
 | some r1_0 =>
  simp only [c2] at hp
  have qc := fun s => (h_zd9 c2 s).1
  simp only [qc]
  cbv
  cases hp
  all_goals first | rfl | (cbv; done)
end
def b_zci_0 (P : Prims) (c_zdr : Y_zdr) : T_zci_0 → Option R_zci
 | (v0_0, v0_1, v0_2, v0_3, v0_4, v1_0) =>
 match P.cmp .neq v0_0 4 with
 | false =>
  match c_zdr [v0_3, v1_0] with
  | none => none
  | some r2_0 =>
   some (⟨v0_0, v0_1, v0_2, r2_0, v0_4⟩, 0)
 | true =>
  some (⟨0, 0, [], [], []⟩, 9)
section
variable (c_zdr : Y_zdr) (h_zdr : (C_zdr xpcall xfcall @xmap e_e5 e_e0 c_zdr)) (m : Nat)
include c_zdr h_zdr m
theorem o_zci_0 : H_zci_0 xat @xmap e_e5 e_e1 m (b_zci_0 PP c_zdr ) := by
 rintro ⟨v0_0, v0_1, v0_2, v0_3, v0_4, v1_0⟩ out hp stk
 subst hPP
 simp only [b_zci_0] at hp
 simp only [A_zci_0]
 rw [h.at_, hT]
 cbv
 cases c1 : xcmp .neq v0_0 4 with
 | false =>
  simp only [c1] at hp ⊢
  cbv
  rw [h.at_, hT]
  cbv
  simp only [h.allsz_nil, h.allsz_cons]
  cbv
  cases c3 : c_zdr [v0_3, v1_0] with
  | none => simp only [c3] at hp; cases hp
  | some r2_0 =>
   simp only [c3] at hp
   have qc := fun s => (h_zdr c3 s).1
   try simp only [h.map_cons, h.map_nil, hA.2.2.2.2] at qc
   simp only [qc]
   cbv
   cases hp
   all_goals first | rfl | (cbv; done)
 | true =>
  simp only [c1] at hp ⊢
  cbv
  cases hp
  all_goals first | rfl | (cbv; done) | (simp only [h.lits, hA, el, O_zci, if_true]; first | done | rfl | (cbv; done) | (cbv; simp only [h.lits, hA, el, O_zci]; done))
end
def b_zdo_0 (P : Prims) : T_zdo_0 → Option R_zdo
 | v0 =>
 match P.idx v0 0 with
 | none => none
 | some a1 =>
  match P.app 80 ([] : List S2_) v0 with
  | none => none
  | some l3 =>
   some (1, l3)
section
variable (m : Nat)
include m
theorem o_zdo_0 : H_zdo_0 xat @xmap xlen e_e5 m (b_zdo_0 PP ) := by
 rintro v0 out hp stk
 subst hPP
 simp only [b_zdo_0] at hp
 simp only [A_zdo_0]
 rw [h.at_, hT]
 cbv
 cases c2 : pidx v0 0 with
 | none => simp only [c2] at hp; cases hp
 | some a1 =>
  simp only [c2] at hp
  obtain ⟨q1, q2⟩ := h.idx e_e5 c2
  simp only [q2]
  cbv
  rw [h.at_, hT]
  cbv
  try simp only [h.allsz_nil, h.allsz_cons, if_true, h.len_nil]
  cbv
  try simp only [h.allsz_nil, if_true]
  try cbv
  try simp only [hZ.2.1, if_true]
  cbv
  cases c4 : papp 80 ([] : List S2_) v0 with
  | none => simp only [c4] at hp; cases hp
  | some l3 =>
   simp only [c4] at hp
   obtain ⟨q1, q2, q3⟩ := h.app e_e5 c4 rfl
   simp only [h.map_cons, h.map_nil, h.len_nil, hA.2.1] at q1 q2 q3
   try simp only [h.len_nil]
   cbv
   simp only [q1, q2, q3, if_true]
   cbv
   cases hp
   all_goals first | rfl | (cbv; done) | (simp only [h.lits, hA, el, O_zdo, if_true]; first | done | rfl | (cbv; done) | (cbv; simp only [h.lits, hA, el, O_zdo]; done))
end
def b_zc2_0 (P : Prims) (L0_0 : Str) (L0_1 : Int) (L0_2 : Bool) : T_zc2_0 → Option R_zc2
 | (v0_0, v0_1_0, v0_1_1, v0_1_2, v0_1_3, v0_1_4) =>
 some (P.seq v0_0 L0_0)
section
variable (m : Nat) (n0 : Nat) (k0 : Kl) (L0_0 : Str) (L0_1 : Int) (L0_2 : Bool) (hl0 : n0 < m)
include m n0 k0 L0_0 L0_1 L0_2 hl0
theorem o_zc2_0 : H_zc2_0 xat @xmap e_e5 e_e1 m n0 k0 L0_0 L0_1 L0_2 (b_zc2_0 PP L0_0 L0_1 L0_2 ) := by
 rintro ⟨v0_0, v0_1_0, v0_1_1, v0_1_2, v0_1_3, v0_1_4⟩ out hp stk ⟨hg0, _⟩
 have hn := nlt hl0
 have lw := And.intro hn (hg0)
 subst hPP
 simp only [b_zc2_0] at hp
 simp only [A_zc2_0]
 rw [h.at_, hT]
 cbv
 simp only [if_false, if_true, lw]
 cbv
 cases hp
 try simp only [if_false, if_true, hn]
 all_goals first | rfl | (cbv; done)
end
def b_zd4_0 (P : Prims) (c_zc2 : Y_zc2) (L0_0 : Str) (L0_1 : Int) (L0_2 : Bool) (l_1 : T_zd4_1 → Option R_zd4) : T_zd4_0 → Option R_zd4
 | v0 =>
 l_1 (v0, P.len v0, 0)
section
variable (c_zc2 : Y_zc2) (h_zc2 : (C_zc2 xpcall xfcall @xmap e_e5 e_e1 c_zc2)) (m : Nat) (n0 : Nat) (k0 : Kl) (L0_0 : Str) (L0_1 : Int) (L0_2 : Bool) (hl0 : n0 < m)
include c_zc2 h_zc2 m n0 k0 L0_0 L0_1 L0_2 hl0
theorem o_zd4_0 {l_1 : T_zd4_1 → Option R_zd4} (h_l_1 : H_zd4_1 xat @xmap e_e1 m n0 k0 L0_0 L0_1 L0_2 l_1) : H_zd4_0 xat @xmap e_e1 m n0 k0 L0_0 L0_1 L0_2 (b_zd4_0 PP c_zc2 L0_0 L0_1 L0_2 l_1) := by
 rintro v0 out hp stk ⟨hg0, _⟩
 have hn := nlt hl0
 subst hPP
 simp only [b_zd4_0] at hp
 simp only [A_zd4_0]
 rw [h.at_, hT]
 cbv
 try simp only [h.len]
 try simp only [if_false, if_true, hn]
 first | exact h_l_1 hp stk ⟨hg0, trivial⟩ | (have q := h_l_1 hp stk ⟨hg0, trivial⟩; simp only [A_zd4_1, h.lits, hA] at q; first | exact q | (cbv; exact q))
def b_zd4_1 (P : Prims) (c_zc2 : Y_zc2) (L0_0 : Str) (L0_1 : Int) (L0_2 : Bool) : T_zd4_1 → Option (T_zd4_1 ⊕ R_zd4)
 | (v0, v7, v8) =>
 match P.cmp .lss v8 v7 with
 | false =>
  some (.inr (-1))
 | true =>
  match P.idx v0 v8 with
  | none => none
  | some ⟨a2_0, ⟨a2_1_0, a2_1_1, a2_1_2, a2_1_3, a2_1_4⟩⟩ =>
   match c_zc2 ⟨a2_0, ⟨a2_1_0, a2_1_1, a2_1_2, a2_1_3, a2_1_4⟩⟩ L0_0 L0_1 L0_2 with
   | none => none
   | some r4_0 =>
    match r4_0 with
    | false =>
     some (.inl (v0, v7, P.ar .add .i64 v8 1))
    | true =>
     some (.inr v8)
theorem o_zd4_1 : HdS (G_zd4 n0 k0 L0_0 L0_1 L0_2) (b_zd4_1 PP c_zc2 L0_0 L0_1 L0_2 ) (A_zd4_1 xat @xmap e_e1 m n0 k0 L0_0 L0_1 L0_2) (el (A_zd4_1 xat @xmap e_e1 m n0 k0 L0_0 L0_1 L0_2) (O_zd4 m n0 k0 L0_0 L0_1 L0_2)) := by
 rintro ⟨v0, v7, v8⟩ out hp stk ⟨hg0, _⟩
 have hn := nlt hl0
 subst hPP
 simp only [b_zd4_1] at hp
 simp only [A_zd4_1]
 rw [h.at_, hT]
 cbv
 cases c1 : xcmp .lss v8 v7 with
 | false =>
  simp only [c1] at hp ⊢
  cbv
  try simp only [if_false, if_true, hn]
  try cbv
  try simp only [if_false, if_true, hn]
  try cbv
  rw [h.at_, hT]
  cbv
  cases hp
  try simp only [if_false, if_true, hn]
  all_goals first | rfl | (cbv; done)
 | true =>
  simp only [c1] at hp ⊢
  cbv
  try simp only [if_false, if_true, hn]
  try cbv
  try simp only [if_false, if_true, hn]
  try cbv
  rw [h.at_, hT]
  cbv
  cases c3 : pidx v0 v8 with
  | none => simp only [c3] at hp; cases hp
  | some y7 =>
   obtain ⟨a2_0, ⟨a2_1_0, a2_1_1, a2_1_2, a2_1_3, a2_1_4⟩⟩ := y7
   simp only [c3] at hp
   obtain ⟨q1, q2⟩ := h.idx e_e1 c3
   try simp only [hA.2.2.1] at q2
   simp only [q1, Bool.false_eq_true, if_false]
   cbv
   try simp only [q2]
   cbv
   cases c5 : c_zc2 ⟨a2_0, ⟨a2_1_0, a2_1_1, a2_1_2, a2_1_3, a2_1_4⟩⟩ L0_0 L0_1 L0_2 with
   | none => simp only [c5] at hp; cases hp
   | some r4_0 =>
    simp only [c5] at hp
    have qc := (h_zc2 c5 (⟨m, []⟩ :: stk) n0 k0 ((h.gb hl0 _ _).trans (hg0)) (Nat.le_of_lt hl0)).1
    simp only [qc]
    cbv
    cases r4_0 with
    | false =>
     simp only at hp
     cbv
     try simp only [if_false, if_true, hn]
     try cbv
     try simp only [if_false, if_true, hn]
     try cbv
     rw [h.at_, hT]
     cbv
     cases hp
     try simp only [if_false, if_true, hn]
     all_goals first | rfl | (cbv; done)
    | true =>
     simp only at hp
     cbv
     cases hp
     try simp only [if_false, if_true, hn]
     all_goals first | rfl | (cbv; done)
end
def b_zdm_0 (P : Prims) : T_zdm_0 → Option R_zdm
 | v0 =>
 match P.idx v0 0 with
 | none => none
 | some a1 =>
  match P.app 96 ([] : List S0_) v0 with
  | none => none
  | some l3 =>
   some (1, l3)
section
variable (m : Nat)
include m
theorem o_zdm_0 : H_zdm_0 xat @xmap xlen e_e1 m (b_zdm_0 PP ) := by
 rintro v0 out hp stk
 subst hPP
 simp only [b_zdm_0] at hp
 simp only [A_zdm_0]
 rw [h.at_, hT]
 cbv
 cases c2 : pidx v0 0 with
 | none => simp only [c2] at hp; cases hp
 | some a1 =>
  simp only [c2] at hp
  obtain ⟨q1, q2⟩ := h.idx e_e1 c2
  simp only [q2]
  cbv
  rw [h.at_, hT]
  cbv
  try simp only [h.allsz_nil, h.allsz_cons, if_true, h.len_nil]
  cbv
  try simp only [h.allsz_nil, if_true]
  try cbv
  try simp only [hZ.2.2.1, if_true]
  cbv
  cases c4 : papp 96 ([] : List S0_) v0 with
  | none => simp only [c4] at hp; cases hp
  | some l3 =>
   simp only [c4] at hp
   obtain ⟨q1, q2, q3⟩ := h.app e_e1 c4 rfl
   simp only [h.map_cons, h.map_nil, h.len_nil, hA.2.2.1] at q1 q2 q3
   try simp only [h.len_nil]
   cbv
   simp only [q1, q2, q3, if_true]
   cbv
   cases hp
   all_goals first | rfl | (cbv; done) | (simp only [h.lits, hA, el, O_zdm, if_true]; first | done | rfl | (cbv; done) | (cbv; simp only [h.lits, hA, el, O_zdm]; done))
end
def b_zc3_0 (P : Prims) (c_zci : Y_zci) (c_zdo : Y_zdo) (c_zc3 : Y_zc3) (c_zd4 : Y_zd4) (c_zdm : Y_zdm) (l_2 : T_zc3_2 → Option R_zc3) : T_zc3_0 → Option R_zc3
 | (v0_0, v0_1, v0_2, v0_3, v0_4, v1, v2_c0_0) =>
 match P.cmp .eql (P.len v1) 0 with
 | false =>
  match P.idx v1 0 with
  | none => none
  | some ⟨a5_0, a5_1, a5_2⟩ =>
   match a5_2 with
   | false =>
    match P.cmp .eql v0_0 5 with
    | false =>
     l_2 (0, 0, [], [], [])
    | true =>
     match c_zd4 v0_4 a5_0 a5_1 false with
     | none => none
     | some r26_0 =>
      match P.cmp .geq r26_0 0 with
      | false =>
       l_2 (0, 0, [], [], [])
      | true =>
       match c_zdm v0_4 with
       | none => none
       | some (r29_0, r29_1) =>
        match P.idx r29_1 r26_0 with
        | none => none
        | some ⟨a32_0, ⟨a32_1_0, a32_1_1, a32_1_2, a32_1_3, a32_1_4⟩⟩ =>
         match P.sub v1 (some 1) none with
         | none => none
         | some s34 =>
          match c_zc3 ⟨a32_1_0, a32_1_1, a32_1_2, a32_1_3, a32_1_4⟩ s34 v2_c0_0 with
          | none => none
          | some (⟨r36_0_0, r36_0_1, r36_0_2, r36_0_3, r36_0_4⟩, r36_1) =>
           match P.set r29_1 r26_0 ⟨a32_0, ⟨r36_0_0, r36_0_1, r36_0_2, r36_0_3, r36_0_4⟩⟩ with
           | none => none
           | some l39 =>
            some (⟨v0_0, v0_1, v0_2, v0_3, l39⟩, r36_1)
   | true =>
    match P.cmp .eql v0_0 4 with
    | false =>
     l_2 (0, 0, [], [], [])
    | true =>
     match P.cmp .lss a5_1 (P.len v0_3) with
     | false =>
      l_2 (0, 0, [], [], [])
     | true =>
      match c_zdo v0_3 with
      | none => none
      | some (r10_0, r10_1) =>
       match P.idx r10_1 a5_1 with
       | none => none
       | some ⟨a13_0, a13_1, a13_2, a13_3, a13_4⟩ =>
        match P.sub v1 (some 1) none with
        | none => none
        | some s15 =>
         match c_zc3 ⟨a13_0, a13_1, a13_2, a13_3, a13_4⟩ s15 v2_c0_0 with
         | none => none
         | some (⟨r17_0_0, r17_0_1, r17_0_2, r17_0_3, r17_0_4⟩, r17_1) =>
          match P.set r10_1 a5_1 ⟨r17_0_0, r17_0_1, r17_0_2, r17_0_3, r17_0_4⟩ with
          | none => none
          | some l20 =>
           some (⟨v0_0, v0_1, v0_2, l20, v0_4⟩, r17_1)
 | true =>
  match c_zci ⟨v0_0, v0_1, v0_2, v0_3, v0_4⟩ v2_c0_0 with
  | none => none
  | some (⟨r2_0_0, r2_0_1, r2_0_2, r2_0_3, r2_0_4⟩, r2_1) =>
   some (⟨r2_0_0, r2_0_1, r2_0_2, r2_0_3, r2_0_4⟩, r2_1)
section
variable (c_zci : Y_zci) (c_zdo : Y_zdo) (c_zc3 : Y_zc3) (c_zd4 : Y_zd4) (c_zdm : Y_zdm) (h_zci : (C_zci xpcall xfcall @xmap e_e5 e_e1 c_zci)) (h_zdo : (C_zdo xkcall @xmap xlen e_e5 c_zdo)) (h_zc3 : (C_zc3 xpcall xfcall @xmap e_e4 e_e5 e_e1 c_zc3)) (h_zd4 : (C_zd4 xpcall xfcall @xmap e_e1 c_zd4)) (h_zdm : (C_zdm xkcall @xmap xlen e_e1 c_zdm)) (m : Nat)
include c_zci c_zdo c_zc3 c_zd4 c_zdm h_zci h_zdo h_zc3 h_zd4 h_zdm m
theorem o_zc3_0 {l_2 : T_zc3_2 → Option R_zc3} (h_l_2 : H_zc3_2 xat @xmap e_e5 e_e1 m l_2) : H_zc3_0 xat @xmap e_e4 e_e5 e_e1 m (b_zc3_0 PP c_zci c_zdo c_zc3 c_zd4 c_zdm l_2) := by
 rintro ⟨v0_0, v0_1, v0_2, v0_3, v0_4, v1, v2_c0_0⟩ out hp stk
 subst hPP
 simp only [b_zc3_0] at hp
 simp only [A_zc3_0]
 rw [h.at_, hT]
 cbv
 try simp only [h.len]
 cases c1 : xcmp .eql (plen v1) 0 with
 | false =>
  simp only [c1] at hp ⊢
  cbv
  rw [h.at_, hT]
  cbv
  cases c6 : pidx v1 0 with
  | none => simp only [c6] at hp; cases hp
  | some y44 =>
   obtain ⟨a5_0, a5_1, a5_2⟩ := y44
   simp only [c6] at hp
   obtain ⟨q1, q2⟩ := h.idx e_e4 c6
   try simp only [hA.1] at q2
   simp only [q1, Bool.false_eq_true, if_false]
   cbv
   try simp only [q2]
   cbv
   cases a5_2 with
   | false =>
    simp only at hp
    cbv
    cases c25 : xcmp .eql v0_0 5 with
    | false =>
     simp only [c25] at hp ⊢
     cbv
     first | exact h_l_2 hp stk | (have q := h_l_2 hp stk; simp only [A_zc3_2, h.lits, hA] at q; first | exact q | (cbv; exact q))
    | true =>
     simp only [c25] at hp ⊢
     cbv
     cases c27 : c_zd4 v0_4 a5_0 a5_1 false with
     | none => simp only [c27] at hp; cases hp
     | some r26_0 =>
      simp only [c27] at hp
      have qc := (h_zd4 c27 (⟨m, [([3], (.cells [(.d (.int .i64 v0_0)), (.d (.int .i64 v0_1)), (.d (.str v0_2)), (.d (.sl (xmap e_e5 v0_3))), (.d (.sl (xmap e_e1 v0_4)))])), ([6], (.cells [(.d (.int .i64 0)), (.d (.int .i64 0)), (.d (.str [])), (.d (.sl [])), (.d (.sl []))])), ([8], (.cells [(.d (.str a5_0)), (.d (.int .i64 a5_1)), (.d (.bool false))]))]⟩ :: stk) m [8] (h.gt _ _ _ _) (Nat.le_refl _)).1
      simp only [qc]
      cbv
      cases c28 : xcmp .geq r26_0 0 with
      | false =>
       simp only [c28] at hp ⊢
       cbv
       first | exact h_l_2 hp stk | (have q := h_l_2 hp stk; simp only [A_zc3_2, h.lits, hA] at q; first | exact q | (cbv; exact q))
      | true =>
       simp only [c28] at hp ⊢
       cbv
       cases c30 : c_zdm v0_4 with
       | none => simp only [c30] at hp; cases hp
       | some y43 =>
        obtain ⟨r29_0, r29_1⟩ := y43
        simp only [c30] at hp
        have qc := h_zdm c30 (⟨m, [([3], (.cells [(.d (.int .i64 v0_0)), (.d (.int .i64 v0_1)), (.d (.str v0_2)), (.d (.sl (xmap e_e5 v0_3))), (.d (.sl (xmap e_e1 v0_4)))])), ([6], (.cells [(.d (.int .i64 0)), (.d (.int .i64 0)), (.d (.str [])), (.d (.sl [])), (.d (.sl []))])), ([8], (.cells [(.d (.str a5_0)), (.d (.int .i64 a5_1)), (.d (.bool false))]))]⟩ :: stk) (m + 1) rfl
        simp only [qc]
        cbv
        cases c33 : pidx r29_1 r26_0 with
        | none => simp only [c33] at hp; cases hp
        | some y42 =>
         obtain ⟨a32_0, ⟨a32_1_0, a32_1_1, a32_1_2, a32_1_3, a32_1_4⟩⟩ := y42
         simp only [c33] at hp
         obtain ⟨q1, q2, q3, w31⟩ := h.idxm e_e1 c33
         try simp only [hA.2.2.1] at w31
         simp only [q1, Bool.false_eq_true, if_false]
         cbv
         simp only [q2, q3, if_true]
         cbv
         simp only [w31]
         cbv
         cases c35 : psub v1 (some 1) none with
         | none => simp only [c35] at hp; cases hp
         | some s34 =>
          simp only [c35] at hp
          obtain ⟨q0, q1, q2, q3⟩ := h.sub1 e_e4 c35
          simp only [q0, q1, q2, q3, Bool.false_eq_true, if_false, if_true, hZ.1]
          cbv
          try simp only [q0, q1, q2, q3, if_true, hZ.1]
          cbv
          cases c37 : c_zc3 ⟨a32_1_0, a32_1_1, a32_1_2, a32_1_3, a32_1_4⟩ s34 v2_c0_0 with
          | none => simp only [c37] at hp; cases hp
          | some y41 =>
           obtain ⟨⟨r36_0_0, r36_0_1, r36_0_2, r36_0_3, r36_0_4⟩, r36_1⟩ := y41
           simp only [c37] at hp
           have qc := fun s => (h_zc3 c37 s).1
           simp only [qc]
           cbv
           obtain ⟨q1, q2, q3, w38⟩ := h.idxm e_e1 c33
           try simp only [hA.2.2.1] at w38
           simp only [q1, Bool.false_eq_true, if_false]
           cbv
           simp only [q2, q3, if_true]
           cbv
           cases c40 : pset r29_1 r26_0 ⟨a32_0, ⟨r36_0_0, r36_0_1, r36_0_2, r36_0_3, r36_0_4⟩⟩ with
           | none => simp only [c40] at hp; cases hp
           | some l39 =>
            simp only [c40] at hp
            obtain ⟨q1, q2, q3, ⟨y, q4⟩, q5, q6⟩ := h.set_ e_e1 c40
            simp only [hA.2.2.1] at q5
            simp only [w38]
            cbv
            try simp only [w38]
            try simp only [List.headD, splice, List.take_succ_cons, List.take_zero, List.drop_succ_cons, List.drop_zero, List.cons_append, List.nil_append, List.length_cons, List.length_nil, Nat.zero_add, Nat.reduceAdd]
            simp only [q5]
            try simp only [← q6]
            cbv
            cases hp
            all_goals first | rfl | (cbv; done) | (simp only [h.lits, hA, el, O_zc3, if_true]; first | done | rfl | (cbv; done) | (cbv; simp only [h.lits, hA, el, O_zc3]; done))
   | true =>
    simp only at hp
    cbv
    cases c8 : xcmp .eql v0_0 4 with
    | false =>
     simp only [c8] at hp ⊢
     cbv
     first | exact h_l_2 hp stk | (have q := h_l_2 hp stk; simp only [A_zc3_2, h.lits, hA] at q; first | exact q | (cbv; exact q))
    | true =>
     simp only [c8] at hp ⊢
     cbv
     try simp only [h.len]
     cases c9 : xcmp .lss a5_1 (plen v0_3) with
     | false =>
      simp only [c9] at hp ⊢
      cbv
      first | exact h_l_2 hp stk | (have q := h_l_2 hp stk; simp only [A_zc3_2, h.lits, hA] at q; first | exact q | (cbv; exact q))
     | true =>
      simp only [c9] at hp ⊢
      cbv
      cases c11 : c_zdo v0_3 with
      | none => simp only [c11] at hp; cases hp
      | some y24 =>
       obtain ⟨r10_0, r10_1⟩ := y24
       simp only [c11] at hp
       have qc := h_zdo c11 (⟨m, [([3], (.cells [(.d (.int .i64 v0_0)), (.d (.int .i64 v0_1)), (.d (.str v0_2)), (.d (.sl (xmap e_e5 v0_3))), (.d (.sl (xmap e_e1 v0_4)))])), ([6], (.cells [(.d (.int .i64 0)), (.d (.int .i64 0)), (.d (.str [])), (.d (.sl [])), (.d (.sl []))])), ([8], (.cells [(.d (.str a5_0)), (.d (.int .i64 a5_1)), (.d (.bool true))]))]⟩ :: stk) (m + 1) rfl
       simp only [qc]
       cbv
       cases c14 : pidx r10_1 a5_1 with
       | none => simp only [c14] at hp; cases hp
       | some y23 =>
        obtain ⟨a13_0, a13_1, a13_2, a13_3, a13_4⟩ := y23
        simp only [c14] at hp
        obtain ⟨q1, q2, q3, w12⟩ := h.idxm e_e5 c14
        try simp only [hA.2.1] at w12
        simp only [q1, Bool.false_eq_true, if_false]
        cbv
        simp only [q2, q3, if_true]
        cbv
        simp only [w12]
        cbv
        cases c16 : psub v1 (some 1) none with
        | none => simp only [c16] at hp; cases hp
        | some s15 =>
         simp only [c16] at hp
         obtain ⟨q0, q1, q2, q3⟩ := h.sub1 e_e4 c16
         simp only [q0, q1, q2, q3, Bool.false_eq_true, if_false, if_true, hZ.1]
         cbv
         try simp only [q0, q1, q2, q3, if_true, hZ.1]
         cbv
         cases c18 : c_zc3 ⟨a13_0, a13_1, a13_2, a13_3, a13_4⟩ s15 v2_c0_0 with
         | none => simp only [c18] at hp; cases hp
         | some y22 =>
          obtain ⟨⟨r17_0_0, r17_0_1, r17_0_2, r17_0_3, r17_0_4⟩, r17_1⟩ := y22
          simp only [c18] at hp
          have qc := fun s => (h_zc3 c18 s).1
          simp only [qc]
          cbv
          obtain ⟨q1, q2, q3, w19⟩ := h.idxm e_e5 c14
          try simp only [hA.2.1] at w19
          simp only [q1, Bool.false_eq_true, if_false]
          cbv
          simp only [q2, q3, if_true]
          cbv
          cases c21 : pset r10_1 a5_1 ⟨r17_0_0, r17_0_1, r17_0_2, r17_0_3, r17_0_4⟩ with
          | none => simp only [c21] at hp; cases hp
          | some l20 =>
           simp only [c21] at hp
           obtain ⟨q1, q2, q3, ⟨y, q4⟩, q5, q6⟩ := h.set_ e_e5 c21
           simp only [hA.2.1] at q5
           simp only [w19]
           cbv
           try simp only [w19]
           try simp only [List.headD, splice, List.take_succ_cons, List.take_zero, List.drop_succ_cons, List.drop_zero, List.cons_append, List.nil_append, List.length_cons, List.length_nil, Nat.zero_add, Nat.reduceAdd]
           simp only [q5]
           try simp only [← q6]
           cbv
           cases hp
           all_goals first | rfl | (cbv; done) | (simp only [h.lits, hA, el, O_zc3, if_true]; first | done | rfl | (cbv; done) | (cbv; simp only [h.lits, hA, el, O_zc3]; done))
 | true =>
  simp only [c1] at hp ⊢
  cbv
  cases c3 : c_zci ⟨v0_0, v0_1, v0_2, v0_3, v0_4⟩ v2_c0_0 with
  | none => simp only [c3] at hp; cases hp
  | some y4 =>
   obtain ⟨⟨r2_0_0, r2_0_1, r2_0_2, r2_0_3, r2_0_4⟩, r2_1⟩ := y4
   simp only [c3] at hp
   have qc := fun s => (h_zci c3 s).1
   simp only [qc]
   cbv
   cases hp
   all_goals first | rfl | (cbv; done)
def b_zc3_2 (P : Prims) (c_zci : Y_zci) (c_zdo : Y_zdo) (c_zc3 : Y_zc3) (c_zd4 : Y_zd4) (c_zdm : Y_zdm) : T_zc3_2 → Option R_zc3
 | (o6_0, o6_1, o6_2, o6_3, o6_4) =>
 some (⟨0, 0, [], [], []⟩, 8)
theorem o_zc3_2 : H_zc3_2 xat @xmap e_e5 e_e1 m (b_zc3_2 PP c_zci c_zdo c_zc3 c_zd4 c_zdm ) := by
 rintro ⟨o6_0, o6_1, o6_2, o6_3, o6_4⟩ out hp stk
 subst hPP
 simp only [b_zc3_2] at hp
 simp only [A_zc3_2]
 rw [h.at_, hT]
 cbv
 cases hp
 all_goals first | rfl | (cbv; done) | (simp only [h.lits, hA, el, O_zc3, if_true]; first | done | rfl | (cbv; done) | (cbv; simp only [h.lits, hA, el, O_zc3]; done))
end
def b_zfh_0 (P : Prims) (c_zfh : Y_zfh) (l_1 : T_zfh_1 → Option R_zfh) : T_zfh_0 → Option R_zfh
 | (v0_0, v0_1, v0_2, v0_3, v0_4) =>
 l_1 (v0_0, v0_1, v0_2, v0_3, v0_4, v0_3, P.len v0_3, 0, 0, 0, [], [], [], v0_0, v0_1, v0_2, 0, [], 0, [])
section
variable (c_zfh : Y_zfh) (h_zfh : (C_zfh xpcall xfcall @xmap e_e5 e_e1 c_zfh)) (m : Nat)
include c_zfh h_zfh m
theorem o_zfh_0 {l_1 : T_zfh_1 → Option R_zfh} (h_l_1 : H_zfh_1 xat @xmap xlen e_e5 e_e1 m l_1) : H_zfh_0 xat @xmap e_e5 e_e1 m (b_zfh_0 PP c_zfh l_1) := by
 rintro ⟨v0_0, v0_1, v0_2, v0_3, v0_4⟩ out hp stk
 subst hPP
 simp only [b_zfh_0] at hp
 simp only [A_zfh_0]
 rw [h.at_, hT]
 cbv
 try simp only [h.len]
 first | exact h_l_1 hp stk | (have q := h_l_1 hp stk; simp only [A_zfh_1, h.lits, hA] at q; first | exact q | (cbv; exact q))
def b_zfh_1 (P : Prims) (c_zfh : Y_zfh) (l_5 : T_zfh_5 → Option R_zfh) : T_zfh_1 → Option (T_zfh_1 ⊕ R_zfh)
 | (v1_0, v1_1, v1_2, v1_3, v1_4, v16, v17, v18, o2_0, o2_1, o2_2, o2_3, o2_4, o3_0, o3_1, o3_2, o3_3_g, o3_3, o3_4_g, o3_4) =>
 match P.cmp .lss v18 v17 with
 | false =>
  match l_5 (v1_4, P.len v1_4, 0, o2_0, o2_1, o2_2, o2_3, o2_4, o3_0, o3_1, o3_2, o3_3_g, o3_3, o3_4_g, o3_4) with | none => none | some o10 => some (.inr o10)
 | true =>
  match P.idx v16 v18 with
  | none => none
  | some ⟨a2_0, a2_1, a2_2, a2_3, a2_4⟩ =>
   match c_zfh ⟨a2_0, a2_1, a2_2, a2_3, a2_4⟩ with
   | none => none
   | some ⟨r4_0_0, r4_0_1, r4_0_2, r4_0_3, r4_0_4⟩ =>
    match P.app 80 o3_3 [⟨r4_0_0, r4_0_1, r4_0_2, r4_0_3, r4_0_4⟩] with
    | none => none
    | some l6 =>
     some (.inl (v1_0, v1_1, v1_2, v1_3, v1_4, v16, v17, P.ar .add .i64 v18 1, o2_0, o2_1, o2_2, o2_3, o2_4, o3_0, o3_1, o3_2, o3_3_g + 1, l6, o3_4_g, o3_4))
theorem o_zfh_1 {l_5 : T_zfh_5 → Option R_zfh} (h_l_5 : H_zfh_5 xat @xmap xlen e_e5 e_e1 m l_5) : Hd (b_zfh_1 PP c_zfh l_5) (A_zfh_1 xat @xmap xlen e_e5 e_e1 m ) (el (A_zfh_1 xat @xmap xlen e_e5 e_e1 m ) (O_zfh @xmap e_e5 e_e1 m )) := by
 rintro ⟨v1_0, v1_1, v1_2, v1_3, v1_4, v16, v17, v18, o2_0, o2_1, o2_2, o2_3, o2_4, o3_0, o3_1, o3_2, o3_3_g, o3_3, o3_4_g, o3_4⟩ out hp stk
 subst hPP
 simp only [b_zfh_1] at hp
 simp only [A_zfh_1]
 rw [h.at_, hT]
 cbv
 cases c1 : xcmp .lss v18 v17 with
 | false =>
  simp only [c1] at hp ⊢
  cbv
  rw [h.at_, hT]
  cbv
  try simp only [h.len]
  cases c : l_5 (v1_4, plen v1_4, 0, o2_0, o2_1, o2_2, o2_3, o2_4, o3_0, o3_1, o3_2, o3_3_g, o3_3, o3_4_g, o3_4) with
  | none => simp only [c] at hp; cases hp
  | some o10 =>
   simp only [c] at hp
   cases hp
   first | exact h_l_5 c stk | (have q := h_l_5 c stk; simp only [A_zfh_5, h.lits, hA] at q; first | exact q | (cbv; exact q))
 | true =>
  simp only [c1] at hp ⊢
  cbv
  rw [h.at_, hT]
  cbv
  cases c3 : pidx v16 v18 with
  | none => simp only [c3] at hp; cases hp
  | some y9 =>
   obtain ⟨a2_0, a2_1, a2_2, a2_3, a2_4⟩ := y9
   simp only [c3] at hp
   obtain ⟨q1, q2⟩ := h.idx e_e5 c3
   try simp only [hA.2.1] at q2
   simp only [q1, Bool.false_eq_true, if_false]
   cbv
   try simp only [q2]
   cbv
   cases c5 : c_zfh ⟨a2_0, a2_1, a2_2, a2_3, a2_4⟩ with
   | none => simp only [c5] at hp; cases hp
   | some y8 =>
    obtain ⟨r4_0_0, r4_0_1, r4_0_2, r4_0_3, r4_0_4⟩ := y8
    simp only [c5] at hp
    have qc := fun s => (h_zfh c5 s).1
    simp only [qc]
    cbv
    simp only [h.allsz_nil, h.allsz_cons]
    cbv
    simp only [h.allsz_nil, h.allsz_cons]
    cbv
    cases c7 : papp 80 o3_3 [⟨r4_0_0, r4_0_1, r4_0_2, r4_0_3, r4_0_4⟩] with
    | none => simp only [c7] at hp; cases hp
    | some l6 =>
     simp only [c7] at hp
     obtain ⟨q1, q2, q3⟩ := h.app e_e5 c7 rfl
     simp only [h.map_cons, h.map_nil, h.len_nil, hA.2.1] at q1 q2 q3
     try simp only [h.len_nil]
     cbv
     simp only [q1, q2, q3, if_true]
     cbv
     rw [h.at_, hT]
     cbv
     cases hp
     all_goals first | rfl | (cbv; done) | (simp only [h.lits, hA, el, O_zfh, A_zfh_1, if_true]; first | done | rfl | (cbv; done) | (cbv; simp only [h.lits, hA, el, O_zfh, A_zfh_1]; done))
def b_zfh_5 (P : Prims) (c_zfh : Y_zfh) : T_zfh_5 → Option (T_zfh_5 ⊕ R_zfh)
 | (v31, v32, v33, o2_0, o2_1, o2_2, o2_3, o2_4, o3_0, o3_1, o3_2, o3_3_g, o3_3, o3_4_g, o3_4) =>
 match P.cmp .lss v33 v32 with
 | false =>
  some (.inr ⟨o3_0, o3_1, o3_2, o3_3, o3_4⟩)
 | true =>
  match P.idx v31 v33 with
  | none => none
  | some ⟨a12_0, ⟨a12_1_0, a12_1_1, a12_1_2, a12_1_3, a12_1_4⟩⟩ =>
   match c_zfh ⟨a12_1_0, a12_1_1, a12_1_2, a12_1_3, a12_1_4⟩ with
   | none => none
   | some ⟨r14_0_0, r14_0_1, r14_0_2, r14_0_3, r14_0_4⟩ =>
    match P.app 96 o3_4 [⟨a12_0, ⟨r14_0_0, r14_0_1, r14_0_2, r14_0_3, r14_0_4⟩⟩] with
    | none => none
    | some l16 =>
     some (.inl (v31, v32, P.ar .add .i64 v33 1, o2_0, o2_1, o2_2, o2_3, o2_4, o3_0, o3_1, o3_2, o3_3_g, o3_3, o3_4_g + 1, l16))
theorem o_zfh_5 : Hd (b_zfh_5 PP c_zfh ) (A_zfh_5 xat @xmap xlen e_e5 e_e1 m ) (el (A_zfh_5 xat @xmap xlen e_e5 e_e1 m ) (O_zfh @xmap e_e5 e_e1 m )) := by
 rintro ⟨v31, v32, v33, o2_0, o2_1, o2_2, o2_3, o2_4, o3_0, o3_1, o3_2, o3_3_g, o3_3, o3_4_g, o3_4⟩ out hp stk
 subst hPP
 simp only [b_zfh_5] at hp
 simp only [A_zfh_5]
 rw [h.at_, hT]
 cbv
 cases c11 : xcmp .lss v33 v32 with
 | false =>
  simp only [c11] at hp ⊢
  cbv
  rw [h.at_, hT]
  cbv
  cases hp
  all_goals first | rfl | (cbv; done) | (simp only [h.lits, hA, el, O_zfh, A_zfh_5, if_true]; first | done | rfl | (cbv; done) | (cbv; simp only [h.lits, hA, el, O_zfh, A_zfh_5]; done))
 | true =>
  simp only [c11] at hp ⊢
  cbv
  rw [h.at_, hT]
  cbv
  cases c13 : pidx v31 v33 with
  | none => simp only [c13] at hp; cases hp
  | some y19 =>
   obtain ⟨a12_0, ⟨a12_1_0, a12_1_1, a12_1_2, a12_1_3, a12_1_4⟩⟩ := y19
   simp only [c13] at hp
   obtain ⟨q1, q2⟩ := h.idx e_e1 c13
   try simp only [hA.2.2.1] at q2
   simp only [q1, Bool.false_eq_true, if_false]
   cbv
   try simp only [q2]
   cbv
   cases c15 : c_zfh ⟨a12_1_0, a12_1_1, a12_1_2, a12_1_3, a12_1_4⟩ with
   | none => simp only [c15] at hp; cases hp
   | some y18 =>
    obtain ⟨r14_0_0, r14_0_1, r14_0_2, r14_0_3, r14_0_4⟩ := y18
    simp only [c15] at hp
    have qc := fun s => (h_zfh c15 s).1
    simp only [qc]
    cbv
    simp only [h.allsz_nil, h.allsz_cons]
    cbv
    simp only [h.allsz_nil, h.allsz_cons]
    cbv
    cases c17 : papp 96 o3_4 [⟨a12_0, ⟨r14_0_0, r14_0_1, r14_0_2, r14_0_3, r14_0_4⟩⟩] with
    | none => simp only [c17] at hp; cases hp
    | some l16 =>
     simp only [c17] at hp
     obtain ⟨q1, q2, q3⟩ := h.app e_e1 c17 rfl
     simp only [h.map_cons, h.map_nil, h.len_nil, hA.2.2.1] at q1 q2 q3
     try simp only [h.len_nil]
     cbv
     simp only [q1, q2, q3, if_true]
     cbv
     rw [h.at_, hT]
     cbv
     cases hp
     all_goals first | rfl | (cbv; done) | (simp only [h.lits, hA, el, O_zfh, A_zfh_5, if_true]; first | done | rfl | (cbv; done) | (cbv; simp only [h.lits, hA, el, O_zfh, A_zfh_5]; done))
end
def b_ze6_0 (P : Prims) (c_zfa : Y_zfa) (c_zfh : Y_zfh) : T_ze6_0 → Option R_ze6
 | (v0_0, v0_1, v0_2, v0_3, v0_4) =>
 match c_zfa ⟨v0_0, v0_1, v0_2, v0_3, v0_4⟩ with
 | none => none
 | some r1_0 =>
  match r1_0 with
  | false =>
   some ⟨0, 0, [], [], []⟩
  | true =>
   match c_zfh ⟨v0_0, v0_1, v0_2, v0_3, v0_4⟩ with
   | none => none
   | some ⟨r4_0_0, r4_0_1, r4_0_2, r4_0_3, r4_0_4⟩ =>
    some ⟨r4_0_0, r4_0_1, r4_0_2, r4_0_3, r4_0_4⟩
section
variable (c_zfa : Y_zfa) (c_zfh : Y_zfh) (h_zfa : (C_zfa xpcall xfcall @xmap e_e5 e_e1 c_zfa)) (h_zfh : (C_zfh xpcall xfcall @xmap e_e5 e_e1 c_zfh)) (m : Nat)
include c_zfa c_zfh h_zfa h_zfh m
theorem o_ze6_0 : H_ze6_0 xat @xmap e_e5 e_e1 m (b_ze6_0 PP c_zfa c_zfh ) := by
 rintro ⟨v0_0, v0_1, v0_2, v0_3, v0_4⟩ out hp stk
 subst hPP
 simp only [b_ze6_0] at hp
 simp only [A_ze6_0]
 rw [h.at_, hT]
 cbv
 cases c2 : c_zfa ⟨v0_0, v0_1, v0_2, v0_3, v0_4⟩ with
 | none => simp only [c2] at hp; cases hp
 | some r1_0 =>
  simp only [c2] at hp
  have qc := fun s => (h_zfa c2 s).1
  simp only [qc]
  cbv
  cases r1_0 with
  | false =>
   simp only at hp
   cbv
   cases hp
   all_goals first | rfl | (cbv; done) | (simp only [h.lits, hA, el, O_ze6, if_true]; first | done | rfl | (cbv; done) | (cbv; simp only [h.lits, hA, el, O_ze6]; done))
  | true =>
   simp only at hp
   cbv
   rw [h.at_, hT]
   cbv
   cases c5 : c_zfh ⟨v0_0, v0_1, v0_2, v0_3, v0_4⟩ with
   | none => simp only [c5] at hp; cases hp
   | some y6 =>
    obtain ⟨r4_0_0, r4_0_1, r4_0_2, r4_0_3, r4_0_4⟩ := y6
    simp only [c5] at hp
    have qc := fun s => (h_zfh c5 s).1
    simp only [qc]
    cbv
    cases hp
    all_goals first | rfl | (cbv; done)
end
def b_zc5_0 (P : Prims) (c_zc3 : Y_zc3) (c_zfa : Y_zfa) (c_ze6 : Y_ze6) : T_zc5_0 → Option R_zc5
 | (v0_0, v0_1, v0_2, v0_3, v0_4, v1, v2_c0_0) =>
 match c_zc3 ⟨v0_0, v0_1, v0_2, v0_3, v0_4⟩ v1 v2_c0_0 with
 | none => none
 | some (⟨r1_0_0, r1_0_1, r1_0_2, r1_0_3, r1_0_4⟩, r1_1) =>
  match P.cmp .neq r1_1 0 with
  | false =>
   match c_zfa ⟨r1_0_0, r1_0_1, r1_0_2, r1_0_3, r1_0_4⟩ with
   | none => none
   | some r4_0 =>
    match r4_0 with
    | false =>
     some (⟨0, 0, [], [], []⟩, 5)
    | true =>
     match c_ze6 ⟨r1_0_0, r1_0_1, r1_0_2, r1_0_3, r1_0_4⟩ with
     | none => none
     | some ⟨r7_0_0, r7_0_1, r7_0_2, r7_0_3, r7_0_4⟩ =>
      some (⟨r7_0_0, r7_0_1, r7_0_2, r7_0_3, r7_0_4⟩, 0)
  | true =>
   some (⟨0, 0, [], [], []⟩, r1_1)
section
variable (c_zc3 : Y_zc3) (c_zfa : Y_zfa) (c_ze6 : Y_ze6) (h_zc3 : (C_zc3 xpcall xfcall @xmap e_e4 e_e5 e_e1 c_zc3)) (h_zfa : (C_zfa xpcall xfcall @xmap e_e5 e_e1 c_zfa)) (h_ze6 : (C_ze6 xpcall xfcall @xmap e_e5 e_e1 c_ze6)) (m : Nat)
include c_zc3 c_zfa c_ze6 h_zc3 h_zfa h_ze6 m
theorem o_zc5_0 : H_zc5_0 xat @xmap e_e4 e_e5 e_e1 m (b_zc5_0 PP c_zc3 c_zfa c_ze6 ) := by
 rintro ⟨v0_0, v0_1, v0_2, v0_3, v0_4, v1, v2_c0_0⟩ out hp stk
 subst hPP
 simp only [b_zc5_0] at hp
 simp only [A_zc5_0]
 rw [h.at_, hT]
 cbv
 cases c2 : c_zc3 ⟨v0_0, v0_1, v0_2, v0_3, v0_4⟩ v1 v2_c0_0 with
 | none => simp only [c2] at hp; cases hp
 | some y10 =>
  obtain ⟨⟨r1_0_0, r1_0_1, r1_0_2, r1_0_3, r1_0_4⟩, r1_1⟩ := y10
  simp only [c2] at hp
  have qc := fun s => (h_zc3 c2 s).1
  simp only [qc]
  cbv
  cases c3 : xcmp .neq r1_1 0 with
  | false =>
   simp only [c3] at hp ⊢
   cbv
   cases c5 : c_zfa ⟨r1_0_0, r1_0_1, r1_0_2, r1_0_3, r1_0_4⟩ with
   | none => simp only [c5] at hp; cases hp
   | some r4_0 =>
    simp only [c5] at hp
    have qc := fun s => (h_zfa c5 s).1
    simp only [qc]
    cbv
    cases r4_0 with
    | false =>
     simp only at hp
     cbv
     cases hp
     all_goals first | rfl | (cbv; done) | (simp only [h.lits, hA, el, O_zc5, if_true]; first | done | rfl | (cbv; done) | (cbv; simp only [h.lits, hA, el, O_zc5]; done))
    | true =>
     simp only at hp
     cbv
     rw [h.at_, hT]
     cbv
     cases c8 : c_ze6 ⟨r1_0_0, r1_0_1, r1_0_2, r1_0_3, r1_0_4⟩ with
     | none => simp only [c8] at hp; cases hp
     | some y9 =>
      obtain ⟨r7_0_0, r7_0_1, r7_0_2, r7_0_3, r7_0_4⟩ := y9
      simp only [c8] at hp
      have qc := fun s => (h_ze6 c8 s).1
      simp only [qc]
      cbv
      cases hp
      all_goals first | rfl | (cbv; done)
  | true =>
   simp only [c3] at hp ⊢
   cbv
   cases hp
   all_goals first | rfl | (cbv; done) | (simp only [h.lits, hA, el, O_zc5, if_true]; first | done | rfl | (cbv; done) | (cbv; simp only [h.lits, hA, el, O_zc5]; done))
end
def b_zcf_0 (P : Prims) (c_zfa : Y_zfa) (c_zcv : Y_zcv) (c_zdy : Y_zdy) (c_zc5 : Y_zc5) : T_zcf_0 → Option R_zcf
 | (v0_0, v0_1, v0_2, v0_3, v0_4, v1, v2) =>
 match c_zfa ⟨v0_0, v0_1, v0_2, v0_3, v0_4⟩ with
 | none => none
 | some r1_0 =>
  match r1_0 with
  | false =>
   some (⟨0, 0, [], [], []⟩, 1)
  | true =>
   match c_zcv v1 with
   | none => none
   | some r4_0 =>
    match r4_0 with
    | false =>
     some (⟨0, 0, [], [], []⟩, 1)
    | true =>
     match c_zdy v2 with
     | none => none
     | some r7_0 =>
      match r7_0 with
      | false =>
       match c_zc5 ⟨v0_0, v0_1, v0_2, v0_3, v0_4⟩ v1 v2 with
       | none => none
       | some (⟨r10_0_0, r10_0_1, r10_0_2, r10_0_3, r10_0_4⟩, r10_1) =>
        some (⟨r10_0_0, r10_0_1, r10_0_2, r10_0_3, r10_0_4⟩, r10_1)
      | true =>
       some (⟨0, 0, [], [], []⟩, 1)
section
variable (c_zfa : Y_zfa) (c_zcv : Y_zcv) (c_zdy : Y_zdy) (c_zc5 : Y_zc5) (h_zfa : (C_zfa xpcall xfcall @xmap e_e5 e_e1 c_zfa)) (h_zcv : (C_zcv xpcall xfcall @xmap e_e4 c_zcv)) (h_zdy : (C_zdy xpcall xfcall @xmap e_e5 c_zdy)) (h_zc5 : (C_zc5 xpcall xfcall @xmap e_e4 e_e5 e_e1 c_zc5)) (m : Nat)
include c_zfa c_zcv c_zdy c_zc5 h_zfa h_zcv h_zdy h_zc5 m
theorem o_zcf_0 : H_zcf_0 xat @xmap e_e4 e_e5 e_e1 m (b_zcf_0 PP c_zfa c_zcv c_zdy c_zc5 ) := by
 rintro ⟨v0_0, v0_1, v0_2, v0_3, v0_4, v1, v2⟩ out hp stk
 subst hPP
 simp only [b_zcf_0] at hp
 simp only [A_zcf_0]
 rw [h.at_, hT]
 cbv
 cases c2 : c_zfa ⟨v0_0, v0_1, v0_2, v0_3, v0_4⟩ with
 | none => simp only [c2] at hp; cases hp
 | some r1_0 =>
  simp only [c2] at hp
  have qc := fun s => (h_zfa c2 s).1
  simp only [qc]
  cbv
  cases r1_0 with
  | false =>
   simp only at hp
   cbv
   cases hp
   all_goals first | rfl | (cbv; done) | (simp only [h.lits, hA, el, O_zcf, if_true]; first | done | rfl | (cbv; done) | (cbv; simp only [h.lits, hA, el, O_zcf]; done))
  | true =>
   simp only at hp
   cbv
   cases c5 : c_zcv v1 with
   | none => simp only [c5] at hp; cases hp
   | some r4_0 =>
    simp only [c5] at hp
    have qc := fun s => (h_zcv c5 s).1
    simp only [qc]
    cbv
    cases r4_0 with
    | false =>
     simp only at hp
     cbv
     cases hp
     all_goals first | rfl | (cbv; done) | (simp only [h.lits, hA, el, O_zcf, if_true]; first | done | rfl | (cbv; done) | (cbv; simp only [h.lits, hA, el, O_zcf]; done))
    | true =>
     simp only at hp
     cbv
     cases c8 : c_zdy v2 with
     | none => simp only [c8] at hp; cases hp
     | some r7_0 =>
      simp only [c8] at hp
      have qc := fun s => (h_zdy c8 s).1
      simp only [qc]
      cbv
      cases r7_0 with
      | false =>
       simp only at hp
       cbv
       rw [h.at_, hT]
       cbv
       cases c11 : c_zc5 ⟨v0_0, v0_1, v0_2, v0_3, v0_4⟩ v1 v2 with
       | none => simp only [c11] at hp; cases hp
       | some y12 =>
        obtain ⟨⟨r10_0_0, r10_0_1, r10_0_2, r10_0_3, r10_0_4⟩, r10_1⟩ := y12
        simp only [c11] at hp
        have qc := fun s => (h_zc5 c11 s).1
        simp only [qc]
        cbv
        cases hp
        all_goals first | rfl | (cbv; done)
      | true =>
       simp only at hp
       cbv
       cases hp
       all_goals first | rfl | (cbv; done) | (simp only [h.lits, hA, el, O_zcf, if_true]; first | done | rfl | (cbv; done) | (cbv; simp only [h.lits, hA, el, O_zcf]; done))
end
def b_zy_0 (P : Prims) (l_2 : T_zy_2 → Option R_zy) : T_zy_0 → Option R_zy
 | (v0, v1) =>
 match P.sidx v0 v1 with
 | none => none
 | some b1 =>
  match P.cmp .lss (P.wrap .i64 b1) 128 with
  | false =>
   match P.cmp .geq (P.wrap .i64 b1) 194 with
   | false =>
    l_2 (v0, v1, P.wrap .i64 b1, 0, 0, 0)
   | true =>
    match P.cmp .lss (P.wrap .i64 b1) 224 with
    | false =>
     l_2 (v0, v1, P.wrap .i64 b1, 0, 0, 0)
    | true =>
     l_2 (v0, v1, P.wrap .i64 b1, 2, P.ar .sub .i64 (P.wrap .i64 b1) 192, 128)
  | true =>
   some (1, P.wrap .i32 (P.wrap .i64 b1))
section
variable (m : Nat)
include m
theorem o_zy_0 {l_2 : T_zy_2 → Option R_zy} (h_l_2 : H_zy_2 xat m l_2) : H_zy_0 xat m (b_zy_0 PP l_2) := by
 rintro ⟨v0, v1⟩ out hp stk
 subst hPP
 simp only [b_zy_0] at hp
 simp only [A_zy_0]
 rw [h.at_, hT]
 cbv
 cases c2 : psidx v0 v1 with
 | none => simp only [c2] at hp; cases hp
 | some b1 =>
  simp only [c2] at hp
  obtain ⟨w, q1, q2, q3⟩ := h.sidx c2
  simp only [q1, q2, q3, Bool.false_eq_true, if_false]
  cbv
  cases c3 : xcmp .lss (xwrap .i64 b1) 128 with
  | false =>
   simp only [c3] at hp ⊢
   cbv
   rw [h.at_, hT]
   cbv
   cases c4 : xcmp .geq (xwrap .i64 b1) 194 with
   | false =>
    simp only [c4] at hp ⊢
    cbv
    first | exact h_l_2 hp stk | (have q := h_l_2 hp stk; simp only [A_zy_2, h.lits, hA] at q; first | exact q | (cbv; exact q))
   | true =>
    simp only [c4] at hp ⊢
    cbv
    cases c5 : xcmp .lss (xwrap .i64 b1) 224 with
    | false =>
     simp only [c5] at hp ⊢
     cbv
     first | exact h_l_2 hp stk | (have q := h_l_2 hp stk; simp only [A_zy_2, h.lits, hA] at q; first | exact q | (cbv; exact q))
    | true =>
     simp only [c5] at hp ⊢
     cbv
     first | exact h_l_2 hp stk | (have q := h_l_2 hp stk; simp only [A_zy_2, h.lits, hA] at q; first | exact q | (cbv; exact q))
  | true =>
   simp only [c3] at hp ⊢
   cbv
   cases hp
   all_goals first | rfl | (cbv; done)
def b_zy_2 (P : Prims) (l_3 : T_zy_3 → Option R_zy) : T_zy_2 → Option R_zy
 | (v0, v1, v6, v7, v8, v9) =>
 match P.cmp .geq v6 224 with
 | false =>
  l_3 (v0, v1, v6, v7, v8, v9)
 | true =>
  match P.cmp .lss v6 240 with
  | false =>
   l_3 (v0, v1, v6, v7, v8, v9)
  | true =>
   l_3 (v0, v1, v6, 3, P.ar .sub .i64 v6 224, 2048)
theorem o_zy_2 {l_3 : T_zy_3 → Option R_zy} (h_l_3 : H_zy_3 xat m l_3) : H_zy_2 xat m (b_zy_2 PP l_3) := by
 rintro ⟨v0, v1, v6, v7, v8, v9⟩ out hp stk
 subst hPP
 simp only [b_zy_2] at hp
 simp only [A_zy_2]
 rw [h.at_, hT]
 cbv
 cases c6 : xcmp .geq v6 224 with
 | false =>
  simp only [c6] at hp ⊢
  cbv
  first | exact h_l_3 hp stk | (have q := h_l_3 hp stk; simp only [A_zy_3, h.lits, hA] at q; first | exact q | (cbv; exact q))
 | true =>
  simp only [c6] at hp ⊢
  cbv
  cases c7 : xcmp .lss v6 240 with
  | false =>
   simp only [c7] at hp ⊢
   cbv
   first | exact h_l_3 hp stk | (have q := h_l_3 hp stk; simp only [A_zy_3, h.lits, hA] at q; first | exact q | (cbv; exact q))
  | true =>
   simp only [c7] at hp ⊢
   cbv
   first | exact h_l_3 hp stk | (have q := h_l_3 hp stk; simp only [A_zy_3, h.lits, hA] at q; first | exact q | (cbv; exact q))
def b_zy_3 (P : Prims) (l_4 : T_zy_4 → Option R_zy) : T_zy_3 → Option R_zy
 | (v0, v1, v6, v7, v8, v9) =>
 match P.cmp .geq v6 240 with
 | false =>
  l_4 (v0, v1, v7, v8, v9)
 | true =>
  match P.cmp .lss v6 245 with
  | false =>
   l_4 (v0, v1, v7, v8, v9)
  | true =>
   l_4 (v0, v1, 4, P.ar .sub .i64 v6 240, 65536)
theorem o_zy_3 {l_4 : T_zy_4 → Option R_zy} (h_l_4 : H_zy_4 xat m l_4) : H_zy_3 xat m (b_zy_3 PP l_4) := by
 rintro ⟨v0, v1, v6, v7, v8, v9⟩ out hp stk
 subst hPP
 simp only [b_zy_3] at hp
 simp only [A_zy_3]
 rw [h.at_, hT]
 cbv
 cases c8 : xcmp .geq v6 240 with
 | false =>
  simp only [c8] at hp ⊢
  cbv
  first | exact h_l_4 hp stk | (have q := h_l_4 hp stk; simp only [A_zy_4, h.lits, hA] at q; first | exact q | (cbv; exact q))
 | true =>
  simp only [c8] at hp ⊢
  cbv
  cases c9 : xcmp .lss v6 245 with
  | false =>
   simp only [c9] at hp ⊢
   cbv
   first | exact h_l_4 hp stk | (have q := h_l_4 hp stk; simp only [A_zy_4, h.lits, hA] at q; first | exact q | (cbv; exact q))
  | true =>
   simp only [c9] at hp ⊢
   cbv
   first | exact h_l_4 hp stk | (have q := h_l_4 hp stk; simp only [A_zy_4, h.lits, hA] at q; first | exact q | (cbv; exact q))
def b_zy_4 (P : Prims) (l_6 : T_zy_6 → Option R_zy) : T_zy_4 → Option R_zy
 | (v0, v1, v7, v8, v9) =>
 match P.cmp .eql v7 0 with
 | false =>
  match P.cmp .geq v1 (P.ar .add .i64 (P.ar .sub .i64 (P.slen v0) v7) 1) with
  | false =>
   l_6 (v0, v1, v7, v8, v9, 1)
  | true =>
   some (0, 0)
 | true =>
  some (0, 0)
theorem o_zy_4 {l_6 : T_zy_6 → Option R_zy} (h_l_6 : H_zy_6 xat m l_6) : H_zy_4 xat m (b_zy_4 PP l_6) := by
 rintro ⟨v0, v1, v7, v8, v9⟩ out hp stk
 subst hPP
 simp only [b_zy_4] at hp
 simp only [A_zy_4]
 rw [h.at_, hT]
 cbv
 cases c10 : xcmp .eql v7 0 with
 | false =>
  simp only [c10] at hp ⊢
  cbv
  try simp only [h.slen]
  cases c11 : xcmp .geq v1 (xar .add .i64 (xar .sub .i64 (pslen v0) v7) 1) with
  | false =>
   simp only [c11] at hp ⊢
   cbv
   rw [h.at_, hT]
   cbv
   first | exact h_l_6 hp stk | (have q := h_l_6 hp stk; simp only [A_zy_6, h.lits, hA] at q; first | exact q | (cbv; exact q))
  | true =>
   simp only [c11] at hp ⊢
   cbv
   cases hp
   all_goals first | rfl | (cbv; done)
 | true =>
  simp only [c10] at hp ⊢
  cbv
  cases hp
  all_goals first | rfl | (cbv; done)
def b_zy_6 (P : Prims) (l_11 : T_zy_11 → Option R_zy) : T_zy_6 → Option (T_zy_6 ⊕ R_zy)
 | (v0, v1, v7, v8, v9, v10) =>
 match P.cmp .lss v10 v7 with
 | false =>
  match P.cmp .lss v8 v9 with
  | false =>
   match P.cmp .gtr v8 1114111 with
   | false =>
    match P.cmp .geq v8 55296 with
    | false =>
     match l_11 (v7, v8) with | none => none | some o22 => some (.inr o22)
    | true =>
     match P.cmp .lss v8 57344 with
     | false =>
      match l_11 (v7, v8) with | none => none | some o21 => some (.inr o21)
     | true =>
      some (.inr (0, 0))
   | true =>
    some (.inr (0, 0))
  | true =>
   some (.inr (0, 0))
 | true =>
  match P.sidx v0 (P.ar .add .i64 v1 v10) with
  | none => none
  | some b13 =>
   match P.cmp .lss (P.wrap .i64 b13) 128 with
   | false =>
    match P.cmp .geq (P.wrap .i64 b13) 192 with
    | false =>
     some (.inl (v0, v1, v7, P.ar .sub .i64 (P.ar .add .i64 (P.ar .mul .i64 v8 64) (P.wrap .i64 b13)) 128, v9, P.ar .add .i64 v10 1))
    | true =>
     some (.inr (0, 0))
   | true =>
    some (.inr (0, 0))
theorem o_zy_6 {l_11 : T_zy_11 → Option R_zy} (h_l_11 : H_zy_11 xat m l_11) : Hd (b_zy_6 PP l_11) (A_zy_6 xat m ) (el (A_zy_6 xat m ) (O_zy m )) := by
 rintro ⟨v0, v1, v7, v8, v9, v10⟩ out hp stk
 subst hPP
 simp only [b_zy_6] at hp
 simp only [A_zy_6]
 rw [h.at_, hT]
 cbv
 cases c12 : xcmp .lss v10 v7 with
 | false =>
  simp only [c12] at hp ⊢
  cbv
  rw [h.at_, hT]
  cbv
  cases c17 : xcmp .lss v8 v9 with
  | false =>
   simp only [c17] at hp ⊢
   cbv
   cases c18 : xcmp .gtr v8 1114111 with
   | false =>
    simp only [c18] at hp ⊢
    cbv
    cases c19 : xcmp .geq v8 55296 with
    | false =>
     simp only [c19] at hp ⊢
     cbv
     cases c : l_11 (v7, v8) with
     | none => simp only [c] at hp; cases hp
     | some o22 =>
      simp only [c] at hp
      cases hp
      first | exact h_l_11 c stk | (have q := h_l_11 c stk; simp only [A_zy_11, h.lits, hA] at q; first | exact q | (cbv; exact q))
    | true =>
     simp only [c19] at hp ⊢
     cbv
     cases c20 : xcmp .lss v8 57344 with
     | false =>
      simp only [c20] at hp ⊢
      cbv
      cases c : l_11 (v7, v8) with
      | none => simp only [c] at hp; cases hp
      | some o21 =>
       simp only [c] at hp
       cases hp
       first | exact h_l_11 c stk | (have q := h_l_11 c stk; simp only [A_zy_11, h.lits, hA] at q; first | exact q | (cbv; exact q))
     | true =>
      simp only [c20] at hp ⊢
      cbv
      cases hp
      all_goals first | rfl | (cbv; done)
   | true =>
    simp only [c18] at hp ⊢
    cbv
    cases hp
    all_goals first | rfl | (cbv; done)
  | true =>
   simp only [c17] at hp ⊢
   cbv
   cases hp
   all_goals first | rfl | (cbv; done)
 | true =>
  simp only [c12] at hp ⊢
  cbv
  rw [h.at_, hT]
  cbv
  cases c14 : psidx v0 (xar .add .i64 v1 v10) with
  | none => simp only [c14] at hp; cases hp
  | some b13 =>
   simp only [c14] at hp
   obtain ⟨w, q1, q2, q3⟩ := h.sidx c14
   simp only [q1, q2, q3, Bool.false_eq_true, if_false]
   cbv
   cases c15 : xcmp .lss (xwrap .i64 b13) 128 with
   | false =>
    simp only [c15] at hp ⊢
    cbv
    cases c16 : xcmp .geq (xwrap .i64 b13) 192 with
    | false =>
     simp only [c16] at hp ⊢
     cbv
     rw [h.at_, hT]
     cbv
     rw [h.at_, hT]
     cbv
     cases hp
     all_goals first | rfl | (cbv; done)
    | true =>
     simp only [c16] at hp ⊢
     cbv
     cases hp
     all_goals first | rfl | (cbv; done)
   | true =>
    simp only [c15] at hp ⊢
    cbv
    cases hp
    all_goals first | rfl | (cbv; done)
def b_zy_11 (P : Prims) : T_zy_11 → Option R_zy
 | (v7, v8) =>
 some (v7, P.wrap .i32 v8)
theorem o_zy_11 : H_zy_11 xat m (b_zy_11 PP ) := by
 rintro ⟨v7, v8⟩ out hp stk
 subst hPP
 simp only [b_zy_11] at hp
 simp only [A_zy_11]
 rw [h.at_, hT]
 cbv
 cases hp
 all_goals first | rfl | (cbv; done)
end
def b_zv_0 (P : Prims) (c_zy : Y_zy) (l_1 : T_zv_1 → Option R_zv) : T_zv_0 → Option R_zv
 | v0 =>
 l_1 (v0, 0)
section
variable (c_zy : Y_zy) (h_zy : (C_zy xpcall xfcall c_zy)) (m : Nat)
include c_zy h_zy m
theorem o_zv_0 {l_1 : T_zv_1 → Option R_zv} (h_l_1 : H_zv_1 xat m l_1) : H_zv_0 xat m (b_zv_0 PP c_zy l_1) := by
 rintro v0 out hp stk
 subst hPP
 simp only [b_zv_0] at hp
 simp only [A_zv_0]
 rw [h.at_, hT]
 cbv
 first | exact h_l_1 hp stk | (have q := h_l_1 hp stk; simp only [A_zv_1, h.lits, hA] at q; first | exact q | (cbv; exact q))
def b_zv_1 (P : Prims) (c_zy : Y_zy) : T_zv_1 → Option (T_zv_1 ⊕ R_zv)
 | (v0, v3) =>
 match P.cmp .lss v3 (P.slen v0) with
 | false =>
  some (.inr (-1))
 | true =>
  match c_zy v0 v3 with
  | none => none
  | some (r2_0, r2_1) =>
   match P.cmp .eql r2_0 0 with
   | false =>
    some (.inl (v0, P.ar .add .i64 v3 r2_0))
   | true =>
    some (.inr v3)
theorem o_zv_1 : Hd (b_zv_1 PP c_zy ) (A_zv_1 xat m ) (el (A_zv_1 xat m ) (O_zv m )) := by
 rintro ⟨v0, v3⟩ out hp stk
 subst hPP
 simp only [b_zv_1] at hp
 simp only [A_zv_1]
 rw [h.at_, hT]
 cbv
 try simp only [h.slen]
 cases c1 : xcmp .lss v3 (pslen v0) with
 | false =>
  simp only [c1] at hp ⊢
  cbv
  rw [h.at_, hT]
  cbv
  cases hp
  all_goals first | rfl | (cbv; done)
 | true =>
  simp only [c1] at hp ⊢
  cbv
  rw [h.at_, hT]
  cbv
  cases c3 : c_zy v0 v3 with
  | none => simp only [c3] at hp; cases hp
  | some y5 =>
   obtain ⟨r2_0, r2_1⟩ := y5
   simp only [c3] at hp
   have qc := fun s => (h_zy c3 s).1
   simp only [qc]
   cbv
   cases c4 : xcmp .eql r2_0 0 with
   | false =>
    simp only [c4] at hp ⊢
    cbv
    rw [h.at_, hT]
    cbv
    cases hp
    all_goals first | rfl | (cbv; done)
   | true =>
    simp only [c4] at hp ⊢
    cbv
    cases hp
    all_goals first | rfl | (cbv; done)
end
def b_zx_0 (P : Prims) (c_zv : Y_zv) : T_zx_0 → Option R_zx
 | v0 =>
 match c_zv v0 with
 | none => none
 | some r1_0 =>
  some (P.cmp .eql r1_0 (-1))
section
variable (c_zv : Y_zv) (h_zv : (C_zv xpcall xfcall c_zv)) (m : Nat)
include c_zv h_zv m
theorem o_zx_0 : H_zx_0 xat m (b_zx_0 PP c_zv ) := by
 rintro v0 out hp stk
 subst hPP
 simp only [b_zx_0] at hp
 simp only [A_zx_0]
 rw [h.at_, hT]
 cbv
 cases c2 : c_zv v0 with
 | none => simp only [c2] at hp; cases hp
 | some r1_0 =>
  simp only [c2] at hp
  have qc := fun s => (h_zv c2 s).1
  simp only [qc]
  cbv
  cases hp
  all_goals first | rfl | (cbv; done)
end
def b_z5_0 (P : Prims) (c_zx : Y_zx) (c_z5 : Y_z5) (l_2 : T_z5_2 → Option R_z5) : T_z5_0 → Option R_z5
 | (v0_0, v0_1, v0_2, v0_3, v0_4, v1) =>
 match P.cmp .lss v1 1 with
 | false =>
  match P.cmp .lss v0_0 0 with
  | false =>
   match P.cmp .gtr v0_0 5 with
   | false =>
    match P.cmp .neq v0_0 1 with
    | false =>
     match P.cmp .neq v0_0 3 with
     | false =>
      match P.cmp .neq v0_0 4 with
      | false =>
       match P.cmp .neq v0_0 5 with
       | false =>
        l_2 (v1, v0_0, v0_1, v0_2, v0_3, v0_4)
       | true =>
        match P.cmp .gtr (P.len v0_4) 0 with
        | false =>
         l_2 (v1, v0_0, v0_1, v0_2, v0_3, v0_4)
        | true =>
         some false
      | true =>
       match P.cmp .gtr (P.len v0_3) 0 with
       | false =>
        match P.cmp .neq v0_0 5 with
        | false =>
         l_2 (v1, v0_0, v0_1, v0_2, v0_3, v0_4)
        | true =>
         match P.cmp .gtr (P.len v0_4) 0 with
         | false =>
          l_2 (v1, v0_0, v0_1, v0_2, v0_3, v0_4)
         | true =>
          some false
       | true =>
        some false
     | true =>
      match P.seq v0_2 [] with
      | false =>
       some false
      | true =>
       match P.cmp .neq v0_0 4 with
       | false =>
        match P.cmp .neq v0_0 5 with
        | false =>
         l_2 (v1, v0_0, v0_1, v0_2, v0_3, v0_4)
        | true =>
         match P.cmp .gtr (P.len v0_4) 0 with
         | false =>
          l_2 (v1, v0_0, v0_1, v0_2, v0_3, v0_4)
         | true =>
          some false
       | true =>
        match P.cmp .gtr (P.len v0_3) 0 with
        | false =>
         match P.cmp .neq v0_0 5 with
         | false =>
          l_2 (v1, v0_0, v0_1, v0_2, v0_3, v0_4)
         | true =>
          match P.cmp .gtr (P.len v0_4) 0 with
          | false =>
           l_2 (v1, v0_0, v0_1, v0_2, v0_3, v0_4)
          | true =>
           some false
        | true =>
         some false
    | true =>
     match P.cmp .neq v0_0 2 with
     | false =>
      match P.cmp .neq v0_0 3 with
      | false =>
       match P.cmp .neq v0_0 4 with
       | false =>
        match P.cmp .neq v0_0 5 with
        | false =>
         l_2 (v1, v0_0, v0_1, v0_2, v0_3, v0_4)
        | true =>
         match P.cmp .gtr (P.len v0_4) 0 with
         | false =>
          l_2 (v1, v0_0, v0_1, v0_2, v0_3, v0_4)
         | true =>
          some false
       | true =>
        match P.cmp .gtr (P.len v0_3) 0 with
        | false =>
         match P.cmp .neq v0_0 5 with
         | false =>
          l_2 (v1, v0_0, v0_1, v0_2, v0_3, v0_4)
         | true =>
          match P.cmp .gtr (P.len v0_4) 0 with
          | false =>
           l_2 (v1, v0_0, v0_1, v0_2, v0_3, v0_4)
          | true =>
           some false
        | true =>
         some false
      | true =>
       match P.seq v0_2 [] with
       | false =>
        some false
       | true =>
        match P.cmp .neq v0_0 4 with
        | false =>
         match P.cmp .neq v0_0 5 with
         | false =>
          l_2 (v1, v0_0, v0_1, v0_2, v0_3, v0_4)
         | true =>
          match P.cmp .gtr (P.len v0_4) 0 with
          | false =>
           l_2 (v1, v0_0, v0_1, v0_2, v0_3, v0_4)
          | true =>
           some false
        | true =>
         match P.cmp .gtr (P.len v0_3) 0 with
         | false =>
          match P.cmp .neq v0_0 5 with
          | false =>
           l_2 (v1, v0_0, v0_1, v0_2, v0_3, v0_4)
          | true =>
           match P.cmp .gtr (P.len v0_4) 0 with
           | false =>
            l_2 (v1, v0_0, v0_1, v0_2, v0_3, v0_4)
           | true =>
            some false
         | true =>
          some false
     | true =>
      match P.cmp .neq v0_1 0 with
      | false =>
       match P.cmp .neq v0_0 3 with
       | false =>
        match P.cmp .neq v0_0 4 with
        | false =>
         match P.cmp .neq v0_0 5 with
         | false =>
          l_2 (v1, v0_0, v0_1, v0_2, v0_3, v0_4)
         | true =>
          match P.cmp .gtr (P.len v0_4) 0 with
          | false =>
           l_2 (v1, v0_0, v0_1, v0_2, v0_3, v0_4)
          | true =>
           some false
        | true =>
         match P.cmp .gtr (P.len v0_3) 0 with
         | false =>
          match P.cmp .neq v0_0 5 with
          | false =>
           l_2 (v1, v0_0, v0_1, v0_2, v0_3, v0_4)
          | true =>
           match P.cmp .gtr (P.len v0_4) 0 with
           | false =>
            l_2 (v1, v0_0, v0_1, v0_2, v0_3, v0_4)
           | true =>
            some false
         | true =>
          some false
       | true =>
        match P.seq v0_2 [] with
        | false =>
         some false
        | true =>
         match P.cmp .neq v0_0 4 with
         | false =>
          match P.cmp .neq v0_0 5 with
          | false =>
           l_2 (v1, v0_0, v0_1, v0_2, v0_3, v0_4)
          | true =>
           match P.cmp .gtr (P.len v0_4) 0 with
           | false =>
            l_2 (v1, v0_0, v0_1, v0_2, v0_3, v0_4)
           | true =>
            some false
         | true =>
          match P.cmp .gtr (P.len v0_3) 0 with
          | false =>
           match P.cmp .neq v0_0 5 with
           | false =>
            l_2 (v1, v0_0, v0_1, v0_2, v0_3, v0_4)
           | true =>
            match P.cmp .gtr (P.len v0_4) 0 with
            | false =>
             l_2 (v1, v0_0, v0_1, v0_2, v0_3, v0_4)
            | true =>
             some false
          | true =>
           some false
      | true =>
       some false
   | true =>
    some false
  | true =>
   some false
 | true =>
  some false
section
variable (c_zx : Y_zx) (c_z5 : Y_z5) (h_zx : (C_zx xpcall xfcall c_zx)) (h_z5 : (C_z5 xpcall xfcall @xmap e_e5 e_e1 c_z5)) (m : Nat)
include c_zx c_z5 h_zx h_z5 m
theorem o_z5_0 {l_2 : T_z5_2 → Option R_z5} (h_l_2 : H_z5_2 xat @xmap e_e5 e_e1 m l_2) : H_z5_0 xat @xmap e_e5 e_e1 m (b_z5_0 PP c_zx c_z5 l_2) := by
 rintro ⟨v0_0, v0_1, v0_2, v0_3, v0_4, v1⟩ out hp stk
 subst hPP
 simp only [b_z5_0] at hp
 simp only [A_z5_0]
 rw [h.at_, hT]
 cbv
 cases c1 : xcmp .lss v1 1 with
 | false =>
  simp only [c1] at hp ⊢
  cbv
  cases c2 : xcmp .lss v0_0 0 with
  | false =>
   simp only [c2] at hp ⊢
   cbv
   cases c3 : xcmp .gtr v0_0 5 with
   | false =>
    simp only [c3] at hp ⊢
    cbv
    rw [h.at_, hT]
    cbv
    cases c4 : xcmp .neq v0_0 1 with
    | false =>
     simp only [c4] at hp ⊢
     cbv
     cases c35 : xcmp .neq v0_0 3 with
     | false =>
      simp only [c35] at hp ⊢
      cbv
      cases c43 : xcmp .neq v0_0 4 with
      | false =>
       simp only [c43] at hp ⊢
       cbv
       cases c47 : xcmp .neq v0_0 5 with
       | false =>
        simp only [c47] at hp ⊢
        cbv
        first | exact h_l_2 hp stk | (have q := h_l_2 hp stk; simp only [A_z5_2, h.lits, hA] at q; first | exact q | (cbv; exact q))
       | true =>
        simp only [c47] at hp ⊢
        cbv
        try simp only [h.len]
        cases c48 : xcmp .gtr (plen v0_4) 0 with
        | false =>
         simp only [c48] at hp ⊢
         cbv
         first | exact h_l_2 hp stk | (have q := h_l_2 hp stk; simp only [A_z5_2, h.lits, hA] at q; first | exact q | (cbv; exact q))
        | true =>
         simp only [c48] at hp ⊢
         cbv
         cases hp
         all_goals first | rfl | (cbv; done)
      | true =>
       simp only [c43] at hp ⊢
       cbv
       try simp only [h.len]
       cases c44 : xcmp .gtr (plen v0_3) 0 with
       | false =>
        simp only [c44] at hp ⊢
        cbv
        cases c45 : xcmp .neq v0_0 5 with
        | false =>
         simp only [c45] at hp ⊢
         cbv
         first | exact h_l_2 hp stk | (have q := h_l_2 hp stk; simp only [A_z5_2, h.lits, hA] at q; first | exact q | (cbv; exact q))
        | true =>
         simp only [c45] at hp ⊢
         cbv
         try simp only [h.len]
         cases c46 : xcmp .gtr (plen v0_4) 0 with
         | false =>
          simp only [c46] at hp ⊢
          cbv
          first | exact h_l_2 hp stk | (have q := h_l_2 hp stk; simp only [A_z5_2, h.lits, hA] at q; first | exact q | (cbv; exact q))
         | true =>
          simp only [c46] at hp ⊢
          cbv
          cases hp
          all_goals first | rfl | (cbv; done)
       | true =>
        simp only [c44] at hp ⊢
        cbv
        cases hp
        all_goals first | rfl | (cbv; done)
     | true =>
      simp only [c35] at hp ⊢
      cbv
      cases c36 : xseq v0_2 [] with
      | false =>
       simp only [c36] at hp ⊢
       cbv
       cases hp
       all_goals first | rfl | (cbv; done)
      | true =>
       simp only [c36] at hp ⊢
       cbv
       cases c37 : xcmp .neq v0_0 4 with
       | false =>
        simp only [c37] at hp ⊢
        cbv
        cases c41 : xcmp .neq v0_0 5 with
        | false =>
         simp only [c41] at hp ⊢
         cbv
         first | exact h_l_2 hp stk | (have q := h_l_2 hp stk; simp only [A_z5_2, h.lits, hA] at q; first | exact q | (cbv; exact q))
        | true =>
         simp only [c41] at hp ⊢
         cbv
         try simp only [h.len]
         cases c42 : xcmp .gtr (plen v0_4) 0 with
         | false =>
          simp only [c42] at hp ⊢
          cbv
          first | exact h_l_2 hp stk | (have q := h_l_2 hp stk; simp only [A_z5_2, h.lits, hA] at q; first | exact q | (cbv; exact q))
         | true =>
          simp only [c42] at hp ⊢
          cbv
          cases hp
          all_goals first | rfl | (cbv; done)
       | true =>
        simp only [c37] at hp ⊢
        cbv
        try simp only [h.len]
        cases c38 : xcmp .gtr (plen v0_3) 0 with
        | false =>
         simp only [c38] at hp ⊢
         cbv
         cases c39 : xcmp .neq v0_0 5 with
         | false =>
          simp only [c39] at hp ⊢
          cbv
          first | exact h_l_2 hp stk | (have q := h_l_2 hp stk; simp only [A_z5_2, h.lits, hA] at q; first | exact q | (cbv; exact q))
         | true =>
          simp only [c39] at hp ⊢
          cbv
          try simp only [h.len]
          cases c40 : xcmp .gtr (plen v0_4) 0 with
          | false =>
           simp only [c40] at hp ⊢
           cbv
           first | exact h_l_2 hp stk | (have q := h_l_2 hp stk; simp only [A_z5_2, h.lits, hA] at q; first | exact q | (cbv; exact q))
          | true =>
           simp only [c40] at hp ⊢
           cbv
           cases hp
           all_goals first | rfl | (cbv; done)
        | true =>
         simp only [c38] at hp ⊢
         cbv
         cases hp
         all_goals first | rfl | (cbv; done)
    | true =>
     simp only [c4] at hp ⊢
     cbv
     cases c5 : xcmp .neq v0_0 2 with
     | false =>
      simp only [c5] at hp ⊢
      cbv
      cases c21 : xcmp .neq v0_0 3 with
      | false =>
       simp only [c21] at hp ⊢
       cbv
       cases c29 : xcmp .neq v0_0 4 with
       | false =>
        simp only [c29] at hp ⊢
        cbv
        cases c33 : xcmp .neq v0_0 5 with
        | false =>
         simp only [c33] at hp ⊢
         cbv
         first | exact h_l_2 hp stk | (have q := h_l_2 hp stk; simp only [A_z5_2, h.lits, hA] at q; first | exact q | (cbv; exact q))
        | true =>
         simp only [c33] at hp ⊢
         cbv
         try simp only [h.len]
         cases c34 : xcmp .gtr (plen v0_4) 0 with
         | false =>
          simp only [c34] at hp ⊢
          cbv
          first | exact h_l_2 hp stk | (have q := h_l_2 hp stk; simp only [A_z5_2, h.lits, hA] at q; first | exact q | (cbv; exact q))
         | true =>
          simp only [c34] at hp ⊢
          cbv
          cases hp
          all_goals first | rfl | (cbv; done)
       | true =>
        simp only [c29] at hp ⊢
        cbv
        try simp only [h.len]
        cases c30 : xcmp .gtr (plen v0_3) 0 with
        | false =>
         simp only [c30] at hp ⊢
         cbv
         cases c31 : xcmp .neq v0_0 5 with
         | false =>
          simp only [c31] at hp ⊢
          cbv
          first | exact h_l_2 hp stk | (have q := h_l_2 hp stk; simp only [A_z5_2, h.lits, hA] at q; first | exact q | (cbv; exact q))
         | true =>
          simp only [c31] at hp ⊢
          cbv
          try simp only [h.len]
          cases c32 : xcmp .gtr (plen v0_4) 0 with
          | false =>
           simp only [c32] at hp ⊢
           cbv
           first | exact h_l_2 hp stk | (have q := h_l_2 hp stk; simp only [A_z5_2, h.lits, hA] at q; first | exact q | (cbv; exact q))
          | true =>
           simp only [c32] at hp ⊢
           cbv
           cases hp
           all_goals first | rfl | (cbv; done)
        | true =>
         simp only [c30] at hp ⊢
         cbv
         cases hp
         all_goals first | rfl | (cbv; done)
      | true =>
       simp only [c21] at hp ⊢
       cbv
       cases c22 : xseq v0_2 [] with
       | false =>
        simp only [c22] at hp ⊢
        cbv
        cases hp
        all_goals first | rfl | (cbv; done)
       | true =>
        simp only [c22] at hp ⊢
        cbv
        cases c23 : xcmp .neq v0_0 4 with
        | false =>
         simp only [c23] at hp ⊢
         cbv
         cases c27 : xcmp .neq v0_0 5 with
         | false =>
          simp only [c27] at hp ⊢
          cbv
          first | exact h_l_2 hp stk | (have q := h_l_2 hp stk; simp only [A_z5_2, h.lits, hA] at q; first | exact q | (cbv; exact q))
         | true =>
          simp only [c27] at hp ⊢
          cbv
          try simp only [h.len]
          cases c28 : xcmp .gtr (plen v0_4) 0 with
          | false =>
           simp only [c28] at hp ⊢
           cbv
           first | exact h_l_2 hp stk | (have q := h_l_2 hp stk; simp only [A_z5_2, h.lits, hA] at q; first | exact q | (cbv; exact q))
          | true =>
           simp only [c28] at hp ⊢
           cbv
           cases hp
           all_goals first | rfl | (cbv; done)
        | true =>
         simp only [c23] at hp ⊢
         cbv
         try simp only [h.len]
         cases c24 : xcmp .gtr (plen v0_3) 0 with
         | false =>
          simp only [c24] at hp ⊢
          cbv
          cases c25 : xcmp .neq v0_0 5 with
          | false =>
           simp only [c25] at hp ⊢
           cbv
           first | exact h_l_2 hp stk | (have q := h_l_2 hp stk; simp only [A_z5_2, h.lits, hA] at q; first | exact q | (cbv; exact q))
          | true =>
           simp only [c25] at hp ⊢
           cbv
           try simp only [h.len]
           cases c26 : xcmp .gtr (plen v0_4) 0 with
           | false =>
            simp only [c26] at hp ⊢
            cbv
            first | exact h_l_2 hp stk | (have q := h_l_2 hp stk; simp only [A_z5_2, h.lits, hA] at q; first | exact q | (cbv; exact q))
           | true =>
            simp only [c26] at hp ⊢
            cbv
            cases hp
            all_goals first | rfl | (cbv; done)
         | true =>
          simp only [c24] at hp ⊢
          cbv
          cases hp
          all_goals first | rfl | (cbv; done)
     | true =>
      simp only [c5] at hp ⊢
      cbv
      cases c6 : xcmp .neq v0_1 0 with
      | false =>
       simp only [c6] at hp ⊢
       cbv
       cases c7 : xcmp .neq v0_0 3 with
       | false =>
        simp only [c7] at hp ⊢
        cbv
        cases c15 : xcmp .neq v0_0 4 with
        | false =>
         simp only [c15] at hp ⊢
         cbv
         cases c19 : xcmp .neq v0_0 5 with
         | false =>
          simp only [c19] at hp ⊢
          cbv
          first | exact h_l_2 hp stk | (have q := h_l_2 hp stk; simp only [A_z5_2, h.lits, hA] at q; first | exact q | (cbv; exact q))
         | true =>
          simp only [c19] at hp ⊢
          cbv
          try simp only [h.len]
          cases c20 : xcmp .gtr (plen v0_4) 0 with
          | false =>
           simp only [c20] at hp ⊢
           cbv
           first | exact h_l_2 hp stk | (have q := h_l_2 hp stk; simp only [A_z5_2, h.lits, hA] at q; first | exact q | (cbv; exact q))
          | true =>
           simp only [c20] at hp ⊢
           cbv
           cases hp
           all_goals first | rfl | (cbv; done)
        | true =>
         simp only [c15] at hp ⊢
         cbv
         try simp only [h.len]
         cases c16 : xcmp .gtr (plen v0_3) 0 with
         | false =>
          simp only [c16] at hp ⊢
          cbv
          cases c17 : xcmp .neq v0_0 5 with
          | false =>
           simp only [c17] at hp ⊢
           cbv
           first | exact h_l_2 hp stk | (have q := h_l_2 hp stk; simp only [A_z5_2, h.lits, hA] at q; first | exact q | (cbv; exact q))
          | true =>
           simp only [c17] at hp ⊢
           cbv
           try simp only [h.len]
           cases c18 : xcmp .gtr (plen v0_4) 0 with
           | false =>
            simp only [c18] at hp ⊢
            cbv
            first | exact h_l_2 hp stk | (have q := h_l_2 hp stk; simp only [A_z5_2, h.lits, hA] at q; first | exact q | (cbv; exact q))
           | true =>
            simp only [c18] at hp ⊢
            cbv
            cases hp
            all_goals first | rfl | (cbv; done)
         | true =>
          simp only [c16] at hp ⊢
          cbv
          cases hp
          all_goals first | rfl | (cbv; done)
       | true =>
        simp only [c7] at hp ⊢
        cbv
        cases c8 : xseq v0_2 [] with
        | false =>
         simp only [c8] at hp ⊢
         cbv
         cases hp
         all_goals first | rfl | (cbv; done)
        | true =>
         simp only [c8] at hp ⊢
         cbv
         cases c9 : xcmp .neq v0_0 4 with
         | false =>
          simp only [c9] at hp ⊢
          cbv
          cases c13 : xcmp .neq v0_0 5 with
          | false =>
           simp only [c13] at hp ⊢
           cbv
           first | exact h_l_2 hp stk | (have q := h_l_2 hp stk; simp only [A_z5_2, h.lits, hA] at q; first | exact q | (cbv; exact q))
          | true =>
           simp only [c13] at hp ⊢
           cbv
           try simp only [h.len]
           cases c14 : xcmp .gtr (plen v0_4) 0 with
           | false =>
            simp only [c14] at hp ⊢
            cbv
            first | exact h_l_2 hp stk | (have q := h_l_2 hp stk; simp only [A_z5_2, h.lits, hA] at q; first | exact q | (cbv; exact q))
           | true =>
            simp only [c14] at hp ⊢
            cbv
            cases hp
            all_goals first | rfl | (cbv; done)
         | true =>
          simp only [c9] at hp ⊢
          cbv
          try simp only [h.len]
          cases c10 : xcmp .gtr (plen v0_3) 0 with
          | false =>
           simp only [c10] at hp ⊢
           cbv
           cases c11 : xcmp .neq v0_0 5 with
           | false =>
            simp only [c11] at hp ⊢
            cbv
            first | exact h_l_2 hp stk | (have q := h_l_2 hp stk; simp only [A_z5_2, h.lits, hA] at q; first | exact q | (cbv; exact q))
           | true =>
            simp only [c11] at hp ⊢
            cbv
            try simp only [h.len]
            cases c12 : xcmp .gtr (plen v0_4) 0 with
            | false =>
             simp only [c12] at hp ⊢
             cbv
             first | exact h_l_2 hp stk | (have q := h_l_2 hp stk; simp only [A_z5_2, h.lits, hA] at q; first | exact q | (cbv; exact q))
            | true =>
             simp only [c12] at hp ⊢
             cbv
             cases hp
             all_goals first | rfl | (cbv; done)
          | true =>
           simp only [c10] at hp ⊢
           cbv
           cases hp
           all_goals first | rfl | (cbv; done)
      | true =>
       simp only [c6] at hp ⊢
       cbv
       cases hp
       all_goals first | rfl | (cbv; done)
   | true =>
    simp only [c3] at hp ⊢
    cbv
    cases hp
    all_goals first | rfl | (cbv; done)
  | true =>
   simp only [c2] at hp ⊢
   cbv
   cases hp
   all_goals first | rfl | (cbv; done)
 | true =>
  simp only [c1] at hp ⊢
  cbv
  cases hp
  all_goals first | rfl | (cbv; done)
def b_z5_2 (P : Prims) (c_zx : Y_zx) (c_z5 : Y_z5) (l_3 : T_z5_3 → Option R_z5) : T_z5_2 → Option R_z5
 | (v1, v2_0, v2_1, v2_2, v2_3, v2_4) =>
 match P.cmp .eql v2_0 1 with
 | false =>
  match P.cmp .gtr v2_1 9007199254740991 with
  | false =>
   match P.cmp .lss v2_1 (-9007199254740991) with
   | false =>
    match c_zx v2_2 with
    | none => none
    | some r64_0 =>
     match r64_0 with
     | false =>
      some false
     | true =>
      l_3 (v1, v2_0, v2_1, v2_2, v2_3, v2_4)
   | true =>
    some false
  | true =>
   some false
 | true =>
  match P.cmp .neq v2_1 0 with
  | false =>
   match P.cmp .gtr v2_1 9007199254740991 with
   | false =>
    match P.cmp .lss v2_1 (-9007199254740991) with
    | false =>
     match c_zx v2_2 with
     | none => none
     | some r59_0 =>
      match r59_0 with
      | false =>
       some false
      | true =>
       l_3 (v1, v2_0, v2_1, v2_2, v2_3, v2_4)
    | true =>
     some false
   | true =>
    some false
  | true =>
   match P.cmp .neq v2_1 1 with
   | false =>
    match P.cmp .gtr v2_1 9007199254740991 with
    | false =>
     match P.cmp .lss v2_1 (-9007199254740991) with
     | false =>
      match c_zx v2_2 with
      | none => none
      | some r54_0 =>
       match r54_0 with
       | false =>
        some false
       | true =>
        l_3 (v1, v2_0, v2_1, v2_2, v2_3, v2_4)
     | true =>
      some false
    | true =>
     some false
   | true =>
    some false
theorem o_z5_2 {l_3 : T_z5_3 → Option R_z5} (h_l_3 : H_z5_3 xat @xmap e_e5 e_e1 m l_3) : H_z5_2 xat @xmap e_e5 e_e1 m (b_z5_2 PP c_zx c_z5 l_3) := by
 rintro ⟨v1, v2_0, v2_1, v2_2, v2_3, v2_4⟩ out hp stk
 subst hPP
 simp only [b_z5_2] at hp
 simp only [A_z5_2]
 rw [h.at_, hT]
 cbv
 cases c49 : xcmp .eql v2_0 1 with
 | false =>
  simp only [c49] at hp ⊢
  cbv
  cases c62 : xcmp .gtr v2_1 9007199254740991 with
  | false =>
   simp only [c62] at hp ⊢
   cbv
   cases c63 : xcmp .lss v2_1 (-9007199254740991) with
   | false =>
    simp only [c63] at hp ⊢
    cbv
    cases c65 : c_zx v2_2 with
    | none => simp only [c65] at hp; cases hp
    | some r64_0 =>
     simp only [c65] at hp
     have qc := fun s => (h_zx c65 s).1
     simp only [qc]
     cbv
     cases r64_0 with
     | false =>
      simp only at hp
      cbv
      cases hp
      all_goals first | rfl | (cbv; done)
     | true =>
      simp only at hp
      cbv
      first | exact h_l_3 hp stk | (have q := h_l_3 hp stk; simp only [A_z5_3, h.lits, hA] at q; first | exact q | (cbv; exact q))
   | true =>
    simp only [c63] at hp ⊢
    cbv
    cases hp
    all_goals first | rfl | (cbv; done)
  | true =>
   simp only [c62] at hp ⊢
   cbv
   cases hp
   all_goals first | rfl | (cbv; done)
 | true =>
  simp only [c49] at hp ⊢
  cbv
  cases c50 : xcmp .neq v2_1 0 with
  | false =>
   simp only [c50] at hp ⊢
   cbv
   cases c57 : xcmp .gtr v2_1 9007199254740991 with
   | false =>
    simp only [c57] at hp ⊢
    cbv
    cases c58 : xcmp .lss v2_1 (-9007199254740991) with
    | false =>
     simp only [c58] at hp ⊢
     cbv
     cases c60 : c_zx v2_2 with
     | none => simp only [c60] at hp; cases hp
     | some r59_0 =>
      simp only [c60] at hp
      have qc := fun s => (h_zx c60 s).1
      simp only [qc]
      cbv
      cases r59_0 with
      | false =>
       simp only at hp
       cbv
       cases hp
       all_goals first | rfl | (cbv; done)
      | true =>
       simp only at hp
       cbv
       first | exact h_l_3 hp stk | (have q := h_l_3 hp stk; simp only [A_z5_3, h.lits, hA] at q; first | exact q | (cbv; exact q))
    | true =>
     simp only [c58] at hp ⊢
     cbv
     cases hp
     all_goals first | rfl | (cbv; done)
   | true =>
    simp only [c57] at hp ⊢
    cbv
    cases hp
    all_goals first | rfl | (cbv; done)
  | true =>
   simp only [c50] at hp ⊢
   cbv
   cases c51 : xcmp .neq v2_1 1 with
   | false =>
    simp only [c51] at hp ⊢
    cbv
    cases c52 : xcmp .gtr v2_1 9007199254740991 with
    | false =>
     simp only [c52] at hp ⊢
     cbv
     cases c53 : xcmp .lss v2_1 (-9007199254740991) with
     | false =>
      simp only [c53] at hp ⊢
      cbv
      cases c55 : c_zx v2_2 with
      | none => simp only [c55] at hp; cases hp
      | some r54_0 =>
       simp only [c55] at hp
       have qc := fun s => (h_zx c55 s).1
       simp only [qc]
       cbv
       cases r54_0 with
       | false =>
        simp only at hp
        cbv
        cases hp
        all_goals first | rfl | (cbv; done)
       | true =>
        simp only at hp
        cbv
        first | exact h_l_3 hp stk | (have q := h_l_3 hp stk; simp only [A_z5_3, h.lits, hA] at q; first | exact q | (cbv; exact q))
     | true =>
      simp only [c53] at hp ⊢
      cbv
      cases hp
      all_goals first | rfl | (cbv; done)
    | true =>
     simp only [c52] at hp ⊢
     cbv
     cases hp
     all_goals first | rfl | (cbv; done)
   | true =>
    simp only [c51] at hp ⊢
    cbv
    cases hp
    all_goals first | rfl | (cbv; done)
def b_z5_3 (P : Prims) (c_zx : Y_zx) (c_z5 : Y_z5) (l_4 : T_z5_4 → Option R_z5) : T_z5_3 → Option R_z5
 | (v1, v2_0, v2_1, v2_2, v2_3, v2_4) =>
 l_4 (v1, v2_0, v2_1, v2_2, v2_3, v2_4, 0)
theorem o_z5_3 {l_4 : T_z5_4 → Option R_z5} (h_l_4 : H_z5_4 xat @xmap e_e5 e_e1 m l_4) : H_z5_3 xat @xmap e_e5 e_e1 m (b_z5_3 PP c_zx c_z5 l_4) := by
 rintro ⟨v1, v2_0, v2_1, v2_2, v2_3, v2_4⟩ out hp stk
 subst hPP
 simp only [b_z5_3] at hp
 simp only [A_z5_3]
 rw [h.at_, hT]
 cbv
 first | exact h_l_4 hp stk | (have q := h_l_4 hp stk; simp only [A_z5_4, h.lits, hA] at q; first | exact q | (cbv; exact q))
def b_z5_4 (P : Prims) (c_zx : Y_zx) (c_z5 : Y_z5) (l_8 : T_z5_8 → Option R_z5) : T_z5_4 → Option (T_z5_4 ⊕ R_z5)
 | (v1, v2_0, v2_1, v2_2, v2_3, v2_4, v5) =>
 match P.cmp .lss v5 (P.len v2_3) with
 | false =>
  match l_8 (v1, v2_0, v2_1, v2_2, v2_3, v2_4, 0) with | none => none | some o74 => some (.inr o74)
 | true =>
  match P.idx v2_3 v5 with
  | none => none
  | some ⟨a68_0, a68_1, a68_2, a68_3, a68_4⟩ =>
   match c_z5 ⟨a68_0, a68_1, a68_2, a68_3, a68_4⟩ (P.ar .sub .i64 v1 1) with
   | none => none
   | some r70_0 =>
    match r70_0 with
    | false =>
     some (.inr false)
    | true =>
     some (.inl (v1, v2_0, v2_1, v2_2, v2_3, v2_4, P.ar .add .i64 v5 1))
theorem o_z5_4 {l_8 : T_z5_8 → Option R_z5} (h_l_8 : H_z5_8 xat @xmap e_e5 e_e1 m l_8) : Hd (b_z5_4 PP c_zx c_z5 l_8) (A_z5_4 xat @xmap e_e5 e_e1 m ) (el (A_z5_4 xat @xmap e_e5 e_e1 m ) (O_z5 m )) := by
 rintro ⟨v1, v2_0, v2_1, v2_2, v2_3, v2_4, v5⟩ out hp stk
 subst hPP
 simp only [b_z5_4] at hp
 simp only [A_z5_4]
 rw [h.at_, hT]
 cbv
 try simp only [h.len]
 cases c67 : xcmp .lss v5 (plen v2_3) with
 | false =>
  simp only [c67] at hp ⊢
  cbv
  rw [h.at_, hT]
  cbv
  cases c : l_8 (v1, v2_0, v2_1, v2_2, v2_3, v2_4, 0) with
  | none => simp only [c] at hp; cases hp
  | some o74 =>
   simp only [c] at hp
   cases hp
   first | exact h_l_8 c stk | (have q := h_l_8 c stk; simp only [A_z5_8, h.lits, hA] at q; first | exact q | (cbv; exact q))
 | true =>
  simp only [c67] at hp ⊢
  cbv
  rw [h.at_, hT]
  cbv
  cases c69 : pidx v2_3 v5 with
  | none => simp only [c69] at hp; cases hp
  | some y73 =>
   obtain ⟨a68_0, a68_1, a68_2, a68_3, a68_4⟩ := y73
   simp only [c69] at hp
   obtain ⟨q1, q2⟩ := h.idx e_e5 c69
   try simp only [hA.2.1] at q2
   simp only [q1, Bool.false_eq_true, if_false]
   cbv
   try simp only [q2]
   cbv
   cases c71 : c_z5 ⟨a68_0, a68_1, a68_2, a68_3, a68_4⟩ (xar .sub .i64 v1 1) with
   | none => simp only [c71] at hp; cases hp
   | some r70_0 =>
    simp only [c71] at hp
    have qc := fun s => (h_z5 c71 s).1
    simp only [qc]
    cbv
    cases r70_0 with
    | false =>
     simp only at hp
     cbv
     cases hp
     all_goals first | rfl | (cbv; done)
    | true =>
     simp only at hp
     cbv
     rw [h.at_, hT]
     cbv
     cases hp
     all_goals first | rfl | (cbv; done)
def b_z5_8 (P : Prims) (c_zx : Y_zx) (c_z5 : Y_z5) (l_11 : T_z5_11 → Option (T_z5_8 ⊕ R_z5)) : T_z5_8 → Option (T_z5_8 ⊕ R_z5)
 | (v1, v2_0, v2_1, v2_2, v2_3, v2_4, v6) =>
 match P.cmp .lss v6 (P.len v2_4) with
 | false =>
  some (.inr true)
 | true =>
  match P.idx v2_4 v6 with
  | none => none
  | some ⟨a76_0, ⟨a76_1_0, a76_1_1, a76_1_2, a76_1_3, a76_1_4⟩⟩ =>
   match c_zx a76_0 with
   | none => none
   | some r78_0 =>
    match r78_0 with
    | false =>
     some (.inr false)
    | true =>
     match c_z5 ⟨a76_1_0, a76_1_1, a76_1_2, a76_1_3, a76_1_4⟩ (P.ar .sub .i64 v1 1) with
     | none => none
     | some r81_0 =>
      match r81_0 with
      | false =>
       some (.inr false)
      | true =>
       l_11 (v1, v2_0, v2_1, v2_2, v2_3, v2_4, v6, 0)
theorem o_z5_8 {l_11 : T_z5_11 → Option (T_z5_8 ⊕ R_z5)} (h_l_11 : H_z5_11 xat @xmap e_e5 e_e1 m l_11) : Hd (b_z5_8 PP c_zx c_z5 l_11) (A_z5_8 xat @xmap e_e5 e_e1 m ) (el (A_z5_8 xat @xmap e_e5 e_e1 m ) (O_z5 m )) := by
 rintro ⟨v1, v2_0, v2_1, v2_2, v2_3, v2_4, v6⟩ out hp stk
 subst hPP
 simp only [b_z5_8] at hp
 simp only [A_z5_8]
 rw [h.at_, hT]
 cbv
 try simp only [h.len]
 cases c75 : xcmp .lss v6 (plen v2_4) with
 | false =>
  simp only [c75] at hp ⊢
  cbv
  rw [h.at_, hT]
  cbv
  cases hp
  all_goals first | rfl | (cbv; done)
 | true =>
  simp only [c75] at hp ⊢
  cbv
  rw [h.at_, hT]
  cbv
  cases c77 : pidx v2_4 v6 with
  | none => simp only [c77] at hp; cases hp
  | some y84 =>
   obtain ⟨a76_0, ⟨a76_1_0, a76_1_1, a76_1_2, a76_1_3, a76_1_4⟩⟩ := y84
   simp only [c77] at hp
   obtain ⟨q1, q2⟩ := h.idx e_e1 c77
   try simp only [hA.2.2.1] at q2
   simp only [q1, Bool.false_eq_true, if_false]
   cbv
   try simp only [q2]
   cbv
   cases c79 : c_zx a76_0 with
   | none => simp only [c79] at hp; cases hp
   | some r78_0 =>
    simp only [c79] at hp
    have qc := fun s => (h_zx c79 s).1
    simp only [qc]
    cbv
    cases r78_0 with
    | false =>
     simp only at hp
     cbv
     cases hp
     all_goals first | rfl | (cbv; done)
    | true =>
     simp only at hp
     cbv
     obtain ⟨q1, q2⟩ := h.idx e_e1 c77
     try simp only [hA.2.2.1] at q2
     simp only [q1, Bool.false_eq_true, if_false]
     cbv
     try simp only [q2]
     cbv
     cases c82 : c_z5 ⟨a76_1_0, a76_1_1, a76_1_2, a76_1_3, a76_1_4⟩ (xar .sub .i64 v1 1) with
     | none => simp only [c82] at hp; cases hp
     | some r81_0 =>
      simp only [c82] at hp
      have qc := fun s => (h_z5 c82 s).1
      simp only [qc]
      cbv
      cases r81_0 with
      | false =>
       simp only at hp
       cbv
       cases hp
       all_goals first | rfl | (cbv; done)
      | true =>
       simp only at hp
       cbv
       rw [h.at_, hT]
       cbv
       first | exact h_l_11 hp stk | (have q := h_l_11 hp stk; simp only [A_z5_11, h.lits, hA] at q; first | exact q | (cbv; exact q))
def b_z5_11 (P : Prims) (c_zx : Y_zx) (c_z5 : Y_z5) : T_z5_11 → Option (T_z5_11 ⊕ (T_z5_8 ⊕ R_z5))
 | (v1, v2_0, v2_1, v2_2, v2_3, v2_4, v6, v7) =>
 match P.cmp .lss v7 v6 with
 | false =>
  some (.inr (.inl (v1, v2_0, v2_1, v2_2, v2_3, v2_4, P.ar .add .i64 v6 1)))
 | true =>
  match P.idx v2_4 v7 with
  | none => none
  | some ⟨a86_0, ⟨a86_1_0, a86_1_1, a86_1_2, a86_1_3, a86_1_4⟩⟩ =>
   match P.idx v2_4 v6 with
   | none => none
   | some ⟨a88_0, ⟨a88_1_0, a88_1_1, a88_1_2, a88_1_3, a88_1_4⟩⟩ =>
    match P.seq a86_0 a88_0 with
    | false =>
     some (.inl (v1, v2_0, v2_1, v2_2, v2_3, v2_4, v6, P.ar .add .i64 v7 1))
    | true =>
     some (.inr (.inr false))
theorem o_z5_11 : Hd (b_z5_11 PP c_zx c_z5 ) (A_z5_11 xat @xmap e_e5 e_e1 m ) (el (A_z5_11 xat @xmap e_e5 e_e1 m ) (el (A_z5_8 xat @xmap e_e5 e_e1 m ) (O_z5 m ))) := by
 rintro ⟨v1, v2_0, v2_1, v2_2, v2_3, v2_4, v6, v7⟩ out hp stk
 subst hPP
 simp only [b_z5_11] at hp
 simp only [A_z5_11]
 rw [h.at_, hT]
 cbv
 cases c85 : xcmp .lss v7 v6 with
 | false =>
  simp only [c85] at hp ⊢
  cbv
  rw [h.at_, hT]
  cbv
  cases hp
  all_goals first | rfl | (cbv; done)
 | true =>
  simp only [c85] at hp ⊢
  cbv
  rw [h.at_, hT]
  cbv
  cases c87 : pidx v2_4 v7 with
  | none => simp only [c87] at hp; cases hp
  | some y92 =>
   obtain ⟨a86_0, ⟨a86_1_0, a86_1_1, a86_1_2, a86_1_3, a86_1_4⟩⟩ := y92
   simp only [c87] at hp
   obtain ⟨q1, q2⟩ := h.idx e_e1 c87
   try simp only [hA.2.2.1] at q2
   simp only [q1, Bool.false_eq_true, if_false]
   cbv
   try simp only [q2]
   cbv
   cases c89 : pidx v2_4 v6 with
   | none => simp only [c89] at hp; cases hp
   | some y91 =>
    obtain ⟨a88_0, ⟨a88_1_0, a88_1_1, a88_1_2, a88_1_3, a88_1_4⟩⟩ := y91
    simp only [c89] at hp
    obtain ⟨q1, q2⟩ := h.idx e_e1 c89
    try simp only [hA.2.2.1] at q2
    simp only [q1, Bool.false_eq_true, if_false]
    cbv
    try simp only [q2]
    cbv
    cases c90 : xseq a86_0 a88_0 with
    | false =>
     simp only [c90] at hp ⊢
     cbv
     rw [h.at_, hT]
     cbv
     cases hp
     all_goals first | rfl | (cbv; done)
    | true =>
     simp only [c90] at hp ⊢
     cbv
     cases hp
     all_goals first | rfl | (cbv; done)
end
def b_z2_0 (P : Prims) (c_z5 : Y_z5) : T_z2_0 → Option R_z2
 | (v0_0, v0_1, v0_2, v0_3, v0_4) =>
 match c_z5 ⟨v0_0, v0_1, v0_2, v0_3, v0_4⟩ 12 with
 | none => none
 | some r1_0 =>
  some r1_0
section
variable (c_z5 : Y_z5) (h_z5 : (C_z5 xpcall xfcall @xmap e_e5 e_e1 c_z5)) (m : Nat)
include c_z5 h_z5 m
theorem o_z2_0 : H_z2_0 xat @xmap e_e5 e_e1 m (b_z2_0 PP c_z5 ) := by
 rintro ⟨v0_0, v0_1, v0_2, v0_3, v0_4⟩ out hp stk
 subst hPP
 simp only [b_z2_0] at hp
 simp only [A_z2_0]
 rw [h.at_, hT]
 cbv
 cases c2 : c_z5 ⟨v0_0, v0_1, v0_2, v0_3, v0_4⟩ 12 with
 | none => simp only [c2] at hp; cases hp
 | some r1_0 =>
  simp only [c2] at hp
  have qc := fun s => (h_z5 c2 s).1
  simp only [qc]
  cbv
  cases hp
  all_goals first | rfl | (cbv; done)
end
def b_zbd_0 (P : Prims) (c_zx : Y_zx) (l_1 : T_zbd_1 → Option R_zbd) : T_zbd_0 → Option R_zbd
 | v0 =>
 l_1 (v0, 0)
section
variable (c_zx : Y_zx) (h_zx : (C_zx xpcall xfcall c_zx)) (m : Nat)
include c_zx h_zx m
theorem o_zbd_0 {l_1 : T_zbd_1 → Option R_zbd} (h_l_1 : H_zbd_1 xat @xmap e_e4 m l_1) : H_zbd_0 xat @xmap e_e4 m (b_zbd_0 PP c_zx l_1) := by
 rintro v0 out hp stk
 subst hPP
 simp only [b_zbd_0] at hp
 simp only [A_zbd_0]
 rw [h.at_, hT]
 cbv
 first | exact h_l_1 hp stk | (have q := h_l_1 hp stk; simp only [A_zbd_1, h.lits, hA] at q; first | exact q | (cbv; exact q))
def b_zbd_1 (P : Prims) (c_zx : Y_zx) (l_3 : T_zbd_3 → Option (T_zbd_1 ⊕ R_zbd)) (l_4 : T_zbd_4 → Option R_zbd) : T_zbd_1 → Option (T_zbd_1 ⊕ R_zbd)
 | (v0, v3) =>
 match P.cmp .lss v3 (P.len v0) with
 | false =>
  match l_4 v0 with | none => none | some o15 => some (.inr o15)
 | true =>
  match P.cmp .lss v3 40 with
  | false =>
   match l_4 v0 with | none => none | some o14 => some (.inr o14)
  | true =>
   match P.idx v0 v3 with
   | none => none
   | some ⟨a3_0, a3_1, a3_2⟩ =>
    match a3_2 with
    | false =>
     match P.cmp .neq a3_1 0 with
     | false =>
      match c_zx a3_0 with
      | none => none
      | some r10_0 =>
       match r10_0 with
       | false =>
        some (.inr false)
       | true =>
        l_3 (v0, v3)
     | true =>
      some (.inr false)
    | true =>
     match P.seq a3_0 [] with
     | false =>
      some (.inr false)
     | true =>
      match P.cmp .lss a3_1 0 with
      | false =>
       match P.cmp .gtr a3_1 9007199254740991 with
       | false =>
        l_3 (v0, v3)
       | true =>
        some (.inr false)
      | true =>
       some (.inr false)
theorem o_zbd_1 {l_3 : T_zbd_3 → Option (T_zbd_1 ⊕ R_zbd)} {l_4 : T_zbd_4 → Option R_zbd} (h_l_3 : H_zbd_3 xat @xmap e_e4 m l_3) (h_l_4 : H_zbd_4 xat @xmap e_e4 m l_4) : Hd (b_zbd_1 PP c_zx l_3 l_4) (A_zbd_1 xat @xmap e_e4 m ) (el (A_zbd_1 xat @xmap e_e4 m ) (O_zbd m )) := by
 rintro ⟨v0, v3⟩ out hp stk
 subst hPP
 simp only [b_zbd_1] at hp
 simp only [A_zbd_1]
 rw [h.at_, hT]
 cbv
 try simp only [h.len]
 cases c1 : xcmp .lss v3 (plen v0) with
 | false =>
  simp only [c1] at hp ⊢
  cbv
  cases c : l_4 v0 with
  | none => simp only [c] at hp; cases hp
  | some o15 =>
   simp only [c] at hp
   cases hp
   first | exact h_l_4 c stk | (have q := h_l_4 c stk; simp only [A_zbd_4, h.lits, hA] at q; first | exact q | (cbv; exact q))
 | true =>
  simp only [c1] at hp ⊢
  cbv
  cases c2 : xcmp .lss v3 40 with
  | false =>
   simp only [c2] at hp ⊢
   cbv
   cases c : l_4 v0 with
   | none => simp only [c] at hp; cases hp
   | some o14 =>
    simp only [c] at hp
    cases hp
    first | exact h_l_4 c stk | (have q := h_l_4 c stk; simp only [A_zbd_4, h.lits, hA] at q; first | exact q | (cbv; exact q))
  | true =>
   simp only [c2] at hp ⊢
   cbv
   rw [h.at_, hT]
   cbv
   cases c4 : pidx v0 v3 with
   | none => simp only [c4] at hp; cases hp
   | some y13 =>
    obtain ⟨a3_0, a3_1, a3_2⟩ := y13
    simp only [c4] at hp
    obtain ⟨q1, q2⟩ := h.idx e_e4 c4
    try simp only [hA.1] at q2
    simp only [q1, Bool.false_eq_true, if_false]
    cbv
    try simp only [q2]
    cbv
    cases a3_2 with
    | false =>
     simp only at hp
     cbv
     cases c9 : xcmp .neq a3_1 0 with
     | false =>
      simp only [c9] at hp ⊢
      cbv
      cases c11 : c_zx a3_0 with
      | none => simp only [c11] at hp; cases hp
      | some r10_0 =>
       simp only [c11] at hp
       have qc := fun s => (h_zx c11 s).1
       simp only [qc]
       cbv
       cases r10_0 with
       | false =>
        simp only at hp
        cbv
        cases hp
        all_goals first | rfl | (cbv; done)
       | true =>
        simp only at hp
        cbv
        first | exact h_l_3 hp stk | (have q := h_l_3 hp stk; simp only [A_zbd_3, h.lits, hA] at q; first | exact q | (cbv; exact q))
     | true =>
      simp only [c9] at hp ⊢
      cbv
      cases hp
      all_goals first | rfl | (cbv; done)
    | true =>
     simp only at hp
     cbv
     cases c6 : xseq a3_0 [] with
     | false =>
      simp only [c6] at hp ⊢
      cbv
      cases hp
      all_goals first | rfl | (cbv; done)
     | true =>
      simp only [c6] at hp ⊢
      cbv
      cases c7 : xcmp .lss a3_1 0 with
      | false =>
       simp only [c7] at hp ⊢
       cbv
       cases c8 : xcmp .gtr a3_1 9007199254740991 with
       | false =>
        simp only [c8] at hp ⊢
        cbv
        first | exact h_l_3 hp stk | (have q := h_l_3 hp stk; simp only [A_zbd_3, h.lits, hA] at q; first | exact q | (cbv; exact q))
       | true =>
        simp only [c8] at hp ⊢
        cbv
        cases hp
        all_goals first | rfl | (cbv; done)
      | true =>
       simp only [c7] at hp ⊢
       cbv
       cases hp
       all_goals first | rfl | (cbv; done)
def b_zbd_3 (P : Prims) (c_zx : Y_zx) : T_zbd_3 → Option (T_zbd_1 ⊕ R_zbd)
 | (v0, v3) =>
 some (.inl (v0, P.ar .add .i64 v3 1))
theorem o_zbd_3 : H_zbd_3 xat @xmap e_e4 m (b_zbd_3 PP c_zx ) := by
 rintro ⟨v0, v3⟩ out hp stk
 subst hPP
 simp only [b_zbd_3] at hp
 simp only [A_zbd_3]
 rw [h.at_, hT]
 cbv
 cases hp
 all_goals first | rfl | (cbv; done)
def b_zbd_4 (P : Prims) (c_zx : Y_zx) : T_zbd_4 → Option R_zbd
 | v0 =>
 some (P.cmp .leq (P.len v0) 30)
theorem o_zbd_4 : H_zbd_4 xat @xmap e_e4 m (b_zbd_4 PP c_zx ) := by
 rintro v0 out hp stk
 subst hPP
 simp only [b_zbd_4] at hp
 simp only [A_zbd_4]
 rw [h.at_, hT]
 cbv
 try simp only [h.len]
 cases hp
 all_goals first | rfl | (cbv; done)
end
def b_zz_0 (P : Prims) (l_1 : T_zz_1 → Option R_zz) : T_zz_0 → Option R_zz
 | (v0_0, v0_1, v0_2, v0_3, v0_4, v1) =>
 l_1 (v1, v0_0, v0_1, v0_2, v0_3, v0_4, 0)
section
variable (m : Nat)
include m
theorem o_zz_0 {l_1 : T_zz_1 → Option R_zz} (h_l_1 : H_zz_1 xat @xmap e_e5 e_e1 m l_1) : H_zz_0 xat @xmap e_e5 e_e1 m (b_zz_0 PP l_1) := by
 rintro ⟨v0_0, v0_1, v0_2, v0_3, v0_4, v1⟩ out hp stk
 subst hPP
 simp only [b_zz_0] at hp
 simp only [A_zz_0]
 rw [h.at_, hT]
 cbv
 first | exact h_l_1 hp stk | (have q := h_l_1 hp stk; simp only [A_zz_1, h.lits, hA] at q; first | exact q | (cbv; exact q))
def b_zz_1 (P : Prims) : T_zz_1 → Option (T_zz_1 ⊕ R_zz)
 | (v1, v2_0, v2_1, v2_2, v2_3, v2_4, v5) =>
 match P.cmp .lss v5 (P.len v2_4) with
 | false =>
  some (.inr (-1))
 | true =>
  match P.idx v2_4 v5 with
  | none => none
  | some ⟨a2_0, ⟨a2_1_0, a2_1_1, a2_1_2, a2_1_3, a2_1_4⟩⟩ =>
   match P.seq a2_0 v1 with
   | false =>
    some (.inl (v1, v2_0, v2_1, v2_2, v2_3, v2_4, P.ar .add .i64 v5 1))
   | true =>
    some (.inr v5)
theorem o_zz_1 : Hd (b_zz_1 PP ) (A_zz_1 xat @xmap e_e5 e_e1 m ) (el (A_zz_1 xat @xmap e_e5 e_e1 m ) (O_zz m )) := by
 rintro ⟨v1, v2_0, v2_1, v2_2, v2_3, v2_4, v5⟩ out hp stk
 subst hPP
 simp only [b_zz_1] at hp
 simp only [A_zz_1]
 rw [h.at_, hT]
 cbv
 try simp only [h.len]
 cases c1 : xcmp .lss v5 (plen v2_4) with
 | false =>
  simp only [c1] at hp ⊢
  cbv
  rw [h.at_, hT]
  cbv
  cases hp
  all_goals first | rfl | (cbv; done)
 | true =>
  simp only [c1] at hp ⊢
  cbv
  rw [h.at_, hT]
  cbv
  cases c3 : pidx v2_4 v5 with
  | none => simp only [c3] at hp; cases hp
  | some y5 =>
   obtain ⟨a2_0, ⟨a2_1_0, a2_1_1, a2_1_2, a2_1_3, a2_1_4⟩⟩ := y5
   simp only [c3] at hp
   obtain ⟨q1, q2⟩ := h.idx e_e1 c3
   try simp only [hA.2.2.1] at q2
   simp only [q1, Bool.false_eq_true, if_false]
   cbv
   try simp only [q2]
   cbv
   cases c4 : xseq a2_0 v1 with
   | false =>
    simp only [c4] at hp ⊢
    cbv
    rw [h.at_, hT]
    cbv
    cases hp
    all_goals first | rfl | (cbv; done)
   | true =>
    simp only [c4] at hp ⊢
    cbv
    cases hp
    all_goals first | rfl | (cbv; done)
end
def b_zbj_0 (P : Prims) (c_zz : Y_zz) (l_1 : T_zbj_1 → Option R_zbj) : T_zbj_0 → Option R_zbj
 | (v0_0, v0_1, v0_2, v0_3, v0_4, v1_0, v1_1, v1_2) =>
 match v1_2 with
 | false =>
  match P.cmp .neq v0_0 5 with
  | false =>
   match c_zz ⟨v0_0, v0_1, v0_2, v0_3, v0_4⟩ v1_0 with
   | none => none
   | some r5_0 =>
    some r5_0
  | true =>
   some (-1)
 | true =>
  match P.cmp .eql v0_0 4 with
  | false =>
   l_1 ()
  | true =>
   match P.cmp .lss v1_1 (P.len v0_3) with
   | false =>
    l_1 ()
   | true =>
    some v1_1
section
variable (c_zz : Y_zz) (h_zz : (C_zz xpcall xfcall @xmap e_e5 e_e1 c_zz)) (m : Nat)
include c_zz h_zz m
theorem o_zbj_0 {l_1 : T_zbj_1 → Option R_zbj} (h_l_1 : H_zbj_1 xat m l_1) : H_zbj_0 xat @xmap e_e5 e_e1 m (b_zbj_0 PP c_zz l_1) := by
 rintro ⟨v0_0, v0_1, v0_2, v0_3, v0_4, v1_0, v1_1, v1_2⟩ out hp stk
 subst hPP
 simp only [b_zbj_0] at hp
 simp only [A_zbj_0]
 rw [h.at_, hT]
 cbv
 cases v1_2 with
 | false =>
  simp only at hp
  cbv
  rw [h.at_, hT]
  cbv
  cases c4 : xcmp .neq v0_0 5 with
  | false =>
   simp only [c4] at hp ⊢
   cbv
   rw [h.at_, hT]
   cbv
   cases c6 : c_zz ⟨v0_0, v0_1, v0_2, v0_3, v0_4⟩ v1_0 with
   | none => simp only [c6] at hp; cases hp
   | some r5_0 =>
    simp only [c6] at hp
    have qc := fun s => (h_zz c6 s).1
    simp only [qc]
    cbv
    cases hp
    all_goals first | rfl | (cbv; done)
  | true =>
   simp only [c4] at hp ⊢
   cbv
   cases hp
   all_goals first | rfl | (cbv; done)
 | true =>
  simp only at hp
  cbv
  cases c2 : xcmp .eql v0_0 4 with
  | false =>
   simp only [c2] at hp ⊢
   cbv
   first | exact h_l_1 hp stk | (have q := h_l_1 hp stk; simp only [A_zbj_1, h.lits, hA] at q; first | exact q | (cbv; exact q))
  | true =>
   simp only [c2] at hp ⊢
   cbv
   try simp only [h.len]
   cases c3 : xcmp .lss v1_1 (plen v0_3) with
   | false =>
    simp only [c3] at hp ⊢
    cbv
    first | exact h_l_1 hp stk | (have q := h_l_1 hp stk; simp only [A_zbj_1, h.lits, hA] at q; first | exact q | (cbv; exact q))
   | true =>
    simp only [c3] at hp ⊢
    cbv
    cases hp
    all_goals first | rfl | (cbv; done)
def b_zbj_1 (P : Prims) (c_zz : Y_zz) : T_zbj_1 → Option R_zbj
 | () =>
 some (-1)
theorem o_zbj_1 : H_zbj_1 xat m (b_zbj_1 PP c_zz ) := by
 rintro ⟨⟩ out hp stk
 subst hPP
 simp only [b_zbj_1] at hp
 simp only [A_zbj_1]
 rw [h.at_, hT]
 cbv
 cases hp
 all_goals first | rfl | (cbv; done)
end
def b_z8_0 (P : Prims) (c_zbj : Y_zbj) (l_1 : T_z8_1 → Option R_z8) : T_z8_0 → Option R_z8
 | (v0_0, v0_1, v0_2, v0_3, v0_4, v1) =>
 l_1 (v1, 0, v0_0, v0_1, v0_2, v0_3, v0_4, 0, 0, [], [], [])
section
variable (c_zbj : Y_zbj) (h_zbj : (C_zbj xpcall xfcall @xmap e_e5 e_e1 c_zbj)) (m : Nat)
include c_zbj h_zbj m
theorem o_z8_0 {l_1 : T_z8_1 → Option R_z8} (h_l_1 : H_z8_1 xat @xmap e_e4 e_e5 e_e1 m l_1) : H_z8_0 xat @xmap e_e4 e_e5 e_e1 m (b_z8_0 PP c_zbj l_1) := by
 rintro ⟨v0_0, v0_1, v0_2, v0_3, v0_4, v1⟩ out hp stk
 subst hPP
 simp only [b_z8_0] at hp
 simp only [A_z8_0]
 rw [h.at_, hT]
 cbv
 first | exact h_l_1 hp stk | (have q := h_l_1 hp stk; simp only [A_z8_1, h.lits, hA] at q; first | exact q | (cbv; exact q))
def b_z8_1 (P : Prims) (c_zbj : Y_zbj) (l_4 : T_z8_4 → Option (T_z8_1 ⊕ R_z8)) : T_z8_1 → Option (T_z8_1 ⊕ R_z8)
 | (v1, v6, o2_0, o2_1, o2_2, o2_3, o2_4, o4_0, o4_1, o4_2, o4_3, o4_4) =>
 match P.cmp .lss v6 (P.len v1) with
 | false =>
  some (.inr (⟨o2_0, o2_1, o2_2, o2_3, o2_4⟩, true))
 | true =>
  match P.idx v1 v6 with
  | none => none
  | some ⟨a2_0, a2_1, a2_2⟩ =>
   match c_zbj ⟨o2_0, o2_1, o2_2, o2_3, o2_4⟩ ⟨a2_0, a2_1, a2_2⟩ with
   | none => none
   | some r4_0 =>
    match P.cmp .lss r4_0 0 with
    | false =>
     match a2_2 with
     | false =>
      match P.idx o2_4 r4_0 with
      | none => none
      | some ⟨a11_0, ⟨a11_1_0, a11_1_1, a11_1_2, a11_1_3, a11_1_4⟩⟩ =>
       l_4 (v1, v6, a11_1_0, a11_1_1, a11_1_2, a11_1_3, a11_1_4, o4_0, o4_1, o4_2, o4_3, o4_4)
     | true =>
      match P.idx o2_3 r4_0 with
      | none => none
      | some ⟨a8_0, a8_1, a8_2, a8_3, a8_4⟩ =>
       l_4 (v1, v6, a8_0, a8_1, a8_2, a8_3, a8_4, o4_0, o4_1, o4_2, o4_3, o4_4)
    | true =>
     some (.inr (⟨0, 0, [], [], []⟩, false))
theorem o_z8_1 {l_4 : T_z8_4 → Option (T_z8_1 ⊕ R_z8)} (h_l_4 : H_z8_4 xat @xmap e_e4 e_e5 e_e1 m l_4) : Hd (b_z8_1 PP c_zbj l_4) (A_z8_1 xat @xmap e_e4 e_e5 e_e1 m ) (el (A_z8_1 xat @xmap e_e4 e_e5 e_e1 m ) (O_z8 @xmap e_e5 e_e1 m )) := by
 rintro ⟨v1, v6, o2_0, o2_1, o2_2, o2_3, o2_4, o4_0, o4_1, o4_2, o4_3, o4_4⟩ out hp stk
 subst hPP
 simp only [b_z8_1] at hp
 simp only [A_z8_1]
 rw [h.at_, hT]
 cbv
 try simp only [h.len]
 cases c1 : xcmp .lss v6 (plen v1) with
 | false =>
  simp only [c1] at hp ⊢
  cbv
  rw [h.at_, hT]
  cbv
  cases hp
  all_goals first | rfl | (cbv; done)
 | true =>
  simp only [c1] at hp ⊢
  cbv
  rw [h.at_, hT]
  cbv
  cases c3 : pidx v1 v6 with
  | none => simp only [c3] at hp; cases hp
  | some y14 =>
   obtain ⟨a2_0, a2_1, a2_2⟩ := y14
   simp only [c3] at hp
   obtain ⟨q1, q2⟩ := h.idx e_e4 c3
   try simp only [hA.1] at q2
   simp only [q1, Bool.false_eq_true, if_false]
   cbv
   try simp only [q2]
   cbv
   cases c5 : c_zbj ⟨o2_0, o2_1, o2_2, o2_3, o2_4⟩ ⟨a2_0, a2_1, a2_2⟩ with
   | none => simp only [c5] at hp; cases hp
   | some r4_0 =>
    simp only [c5] at hp
    have qc := fun s => (h_zbj c5 s).1
    simp only [qc]
    cbv
    cases c6 : xcmp .lss r4_0 0 with
    | false =>
     simp only [c6] at hp ⊢
     cbv
     rw [h.at_, hT]
     cbv
     obtain ⟨q1, q2⟩ := h.idx e_e4 c3
     try simp only [hA.1] at q2
     simp only [q1, Bool.false_eq_true, if_false]
     cbv
     try simp only [q2]
     cbv
     cases a2_2 with
     | false =>
      simp only at hp
      cbv
      cases c12 : pidx o2_4 r4_0 with
      | none => simp only [c12] at hp; cases hp
      | some y13 =>
       obtain ⟨a11_0, ⟨a11_1_0, a11_1_1, a11_1_2, a11_1_3, a11_1_4⟩⟩ := y13
       simp only [c12] at hp
       obtain ⟨q1, q2⟩ := h.idx e_e1 c12
       try simp only [hA.2.2.1] at q2
       simp only [q1, Bool.false_eq_true, if_false]
       cbv
       try simp only [q2]
       cbv
       first | exact h_l_4 hp stk | (have q := h_l_4 hp stk; simp only [A_z8_4, h.lits, hA] at q; first | exact q | (cbv; exact q))
     | true =>
      simp only at hp
      cbv
      cases c9 : pidx o2_3 r4_0 with
      | none => simp only [c9] at hp; cases hp
      | some y10 =>
       obtain ⟨a8_0, a8_1, a8_2, a8_3, a8_4⟩ := y10
       simp only [c9] at hp
       obtain ⟨q1, q2⟩ := h.idx e_e5 c9
       try simp only [hA.2.1] at q2
       simp only [q1, Bool.false_eq_true, if_false]
       cbv
       try simp only [q2]
       cbv
       first | exact h_l_4 hp stk | (have q := h_l_4 hp stk; simp only [A_z8_4, h.lits, hA] at q; first | exact q | (cbv; exact q))
    | true =>
     simp only [c6] at hp ⊢
     cbv
     cases hp
     all_goals first | rfl | (cbv; done) | (simp only [h.lits, hA, el, O_z8, A_z8_1, if_true]; first | done | rfl | (cbv; done) | (cbv; simp only [h.lits, hA, el, O_z8, A_z8_1]; done))
def b_z8_4 (P : Prims) (c_zbj : Y_zbj) : T_z8_4 → Option (T_z8_1 ⊕ R_z8)
 | (v1, v6, o2_0, o2_1, o2_2, o2_3, o2_4, o4_0, o4_1, o4_2, o4_3, o4_4) =>
 some (.inl (v1, P.ar .add .i64 v6 1, o2_0, o2_1, o2_2, o2_3, o2_4, o4_0, o4_1, o4_2, o4_3, o4_4))
theorem o_z8_4 : H_z8_4 xat @xmap e_e4 e_e5 e_e1 m (b_z8_4 PP c_zbj ) := by
 rintro ⟨v1, v6, o2_0, o2_1, o2_2, o2_3, o2_4, o4_0, o4_1, o4_2, o4_3, o4_4⟩ out hp stk
 subst hPP
 simp only [b_z8_4] at hp
 simp only [A_z8_4]
 rw [h.at_, hT]
 cbv
 cases hp
 all_goals first | rfl | (cbv; done)
end
def b_zbi_0 (P : Prims) (c_z2 : Y_z2) (c_zbd : Y_zbd) (c_z8 : Y_z8) : T_zbi_0 → Option R_zbi
 | (v0_0, v0_1, v0_2, v0_3, v0_4, v1) =>
 match c_z2 ⟨v0_0, v0_1, v0_2, v0_3, v0_4⟩ with
 | none => none
 | some r1_0 =>
  match r1_0 with
  | false =>
   some (⟨0, 0, [], [], []⟩, 1)
  | true =>
   match c_zbd v1 with
   | none => none
   | some r4_0 =>
    match r4_0 with
    | false =>
     some (⟨0, 0, [], [], []⟩, 1)
    | true =>
     match c_z8 ⟨v0_0, v0_1, v0_2, v0_3, v0_4⟩ v1 with
     | none => none
     | some (⟨r7_0_0, r7_0_1, r7_0_2, r7_0_3, r7_0_4⟩, r7_1) =>
      match r7_1 with
      | false =>
       some (⟨0, 0, [], [], []⟩, 8)
      | true =>
       some (⟨r7_0_0, r7_0_1, r7_0_2, r7_0_3, r7_0_4⟩, 0)
section
variable (c_z2 : Y_z2) (c_zbd : Y_zbd) (c_z8 : Y_z8) (h_z2 : (C_z2 xpcall xfcall @xmap e_e5 e_e1 c_z2)) (h_zbd : (C_zbd xpcall xfcall @xmap e_e4 c_zbd)) (h_z8 : (C_z8 xpcall xfcall @xmap e_e4 e_e5 e_e1 c_z8)) (m : Nat)
include c_z2 c_zbd c_z8 h_z2 h_zbd h_z8 m
theorem o_zbi_0 : H_zbi_0 xat @xmap e_e4 e_e5 e_e1 m (b_zbi_0 PP c_z2 c_zbd c_z8 ) := by
 rintro ⟨v0_0, v0_1, v0_2, v0_3, v0_4, v1⟩ out hp stk
 subst hPP
 simp only [b_zbi_0] at hp
 simp only [A_zbi_0]
 rw [h.at_, hT]
 cbv
 cases c2 : c_z2 ⟨v0_0, v0_1, v0_2, v0_3, v0_4⟩ with
 | none => simp only [c2] at hp; cases hp
 | some r1_0 =>
  simp only [c2] at hp
  have qc := fun s => (h_z2 c2 s).1
  simp only [qc]
  cbv
  cases r1_0 with
  | false =>
   simp only at hp
   cbv
   cases hp
   all_goals first | rfl | (cbv; done) | (simp only [h.lits, hA, el, O_zbi, if_true]; first | done | rfl | (cbv; done) | (cbv; simp only [h.lits, hA, el, O_zbi]; done))
  | true =>
   simp only at hp
   cbv
   cases c5 : c_zbd v1 with
   | none => simp only [c5] at hp; cases hp
   | some r4_0 =>
    simp only [c5] at hp
    have qc := fun s => (h_zbd c5 s).1
    simp only [qc]
    cbv
    cases r4_0 with
    | false =>
     simp only at hp
     cbv
     cases hp
     all_goals first | rfl | (cbv; done) | (simp only [h.lits, hA, el, O_zbi, if_true]; first | done | rfl | (cbv; done) | (cbv; simp only [h.lits, hA, el, O_zbi]; done))
    | true =>
     simp only at hp
     cbv
     rw [h.at_, hT]
     cbv
     cases c8 : c_z8 ⟨v0_0, v0_1, v0_2, v0_3, v0_4⟩ v1 with
     | none => simp only [c8] at hp; cases hp
     | some y10 =>
      obtain ⟨⟨r7_0_0, r7_0_1, r7_0_2, r7_0_3, r7_0_4⟩, r7_1⟩ := y10
      simp only [c8] at hp
      have qc := fun s => (h_z8 c8 s).1
      simp only [qc]
      cbv
      cases r7_1 with
      | false =>
       simp only at hp
       cbv
       cases hp
       all_goals first | rfl | (cbv; done) | (simp only [h.lits, hA, el, O_zbi, if_true]; first | done | rfl | (cbv; done) | (cbv; simp only [h.lits, hA, el, O_zbi]; done))
      | true =>
       simp only at hp
       cbv
       rw [h.at_, hT]
       cbv
       cases hp
       all_goals first | rfl | (cbv; done)
end
def b_zbb_0 (P : Prims) (c_zbj : Y_zbj) (c_zbb : Y_zbb) (l_2 : T_zbb_2 → Option R_zbb) : T_zbb_0 → Option R_zbb
 | (v0_0, v0_1, v0_2, v0_3, v0_4, v1, v2_0, v2_1, v2_2, v2_3, v2_4) =>
 match P.cmp .eql (P.len v1) 0 with
 | false =>
  match P.idx v1 0 with
  | none => none
  | some ⟨a2_0, a2_1, a2_2⟩ =>
   match c_zbj ⟨v0_0, v0_1, v0_2, v0_3, v0_4⟩ ⟨a2_0, a2_1, a2_2⟩ with
   | none => none
   | some r4_0 =>
    l_2 (v1, v0_0, v0_1, v0_2, v0_3, v0_4, v2_0, v2_1, v2_2, v2_3, v2_4, r4_0, 0, 0, 0, [], [], [], v0_0, 0, [], 0, [], 0, [])
 | true =>
  some ⟨v2_0, v2_1, v2_2, v2_3, v2_4⟩
section
variable (c_zbj : Y_zbj) (c_zbb : Y_zbb) (h_zbj : (C_zbj xpcall xfcall @xmap e_e5 e_e1 c_zbj)) (h_zbb : (C_zbb xpcall xfcall @xmap e_e4 e_e5 e_e1 c_zbb)) (m : Nat)
include c_zbj c_zbb h_zbj h_zbb m
theorem o_zbb_0 {l_2 : T_zbb_2 → Option R_zbb} (h_l_2 : H_zbb_2 xat @xmap xlen e_e4 e_e5 e_e1 m l_2) : H_zbb_0 xat @xmap e_e4 e_e5 e_e1 m (b_zbb_0 PP c_zbj c_zbb l_2) := by
 rintro ⟨v0_0, v0_1, v0_2, v0_3, v0_4, v1, v2_0, v2_1, v2_2, v2_3, v2_4⟩ out hp stk
 subst hPP
 simp only [b_zbb_0] at hp
 simp only [A_zbb_0]
 rw [h.at_, hT]
 cbv
 try simp only [h.len]
 cases c1 : xcmp .eql (plen v1) 0 with
 | false =>
  simp only [c1] at hp ⊢
  cbv
  rw [h.at_, hT]
  cbv
  cases c3 : pidx v1 0 with
  | none => simp only [c3] at hp; cases hp
  | some y6 =>
   obtain ⟨a2_0, a2_1, a2_2⟩ := y6
   simp only [c3] at hp
   obtain ⟨q1, q2⟩ := h.idx e_e4 c3
   try simp only [hA.1] at q2
   simp only [q1, Bool.false_eq_true, if_false]
   cbv
   try simp only [q2]
   cbv
   cases c5 : c_zbj ⟨v0_0, v0_1, v0_2, v0_3, v0_4⟩ ⟨a2_0, a2_1, a2_2⟩ with
   | none => simp only [c5] at hp; cases hp
   | some r4_0 =>
    simp only [c5] at hp
    have qc := fun s => (h_zbj c5 s).1
    simp only [qc]
    cbv
    first | exact h_l_2 hp stk | (have q := h_l_2 hp stk; simp only [A_zbb_2, h.lits, hA] at q; first | exact q | (cbv; exact q))
 | true =>
  simp only [c1] at hp ⊢
  cbv
  cases hp
  all_goals first | rfl | (cbv; done)
def b_zbb_2 (P : Prims) (c_zbj : Y_zbj) (c_zbb : Y_zbb) (l_4 : T_zbb_4 → Option (T_zbb_2 ⊕ R_zbb)) (l_7 : T_zbb_7 → Option R_zbb) : T_zbb_2 → Option (T_zbb_2 ⊕ R_zbb)
 | (v1, v3_0, v3_1, v3_2, v3_3, v3_4, v5_0, v5_1, v5_2, v5_3, v5_4, v7, v9, o6_0, o6_1, o6_2, o6_3, o6_4, o8_0, o8_1, o8_2, o8_3_g, o8_3, o8_4_g, o8_4) =>
 match P.cmp .lss v9 (P.len v3_3) with
 | false =>
  match l_7 (v1, v3_0, v3_1, v3_2, v3_3, v3_4, v5_0, v5_1, v5_2, v5_3, v5_4, v7, 0, o6_0, o6_1, o6_2, o6_3, o6_4, o8_0, o8_1, o8_2, o8_3_g, o8_3, o8_4_g, o8_4) with | none => none | some o17 => some (.inr o17)
 | true =>
  match P.idx v3_3 v9 with
  | none => none
  | some ⟨a8_0, a8_1, a8_2, a8_3, a8_4⟩ =>
   match P.cmp .eql v9 v7 with
   | false =>
    l_4 (v1, v3_0, v3_1, v3_2, v3_3, v3_4, v5_0, v5_1, v5_2, v5_3, v5_4, v7, v9, o6_0, o6_1, o6_2, o6_3, o6_4, o8_0, o8_1, o8_2, o8_3_g, o8_3, o8_4_g, o8_4, a8_0, a8_1, a8_2, a8_3, a8_4)
   | true =>
    match P.sub v1 (some 1) none with
    | none => none
    | some s11 =>
     match c_zbb ⟨a8_0, a8_1, a8_2, a8_3, a8_4⟩ s11 ⟨v5_0, v5_1, v5_2, v5_3, v5_4⟩ with
     | none => none
     | some ⟨r13_0_0, r13_0_1, r13_0_2, r13_0_3, r13_0_4⟩ =>
      l_4 (v1, v3_0, v3_1, v3_2, v3_3, v3_4, v5_0, v5_1, v5_2, v5_3, v5_4, v7, v9, o6_0, o6_1, o6_2, o6_3, o6_4, o8_0, o8_1, o8_2, o8_3_g, o8_3, o8_4_g, o8_4, r13_0_0, r13_0_1, r13_0_2, r13_0_3, r13_0_4)
theorem o_zbb_2 {l_4 : T_zbb_4 → Option (T_zbb_2 ⊕ R_zbb)} {l_7 : T_zbb_7 → Option R_zbb} (h_l_4 : H_zbb_4 xat @xmap xlen e_e4 e_e5 e_e1 m l_4) (h_l_7 : H_zbb_7 xat @xmap xlen e_e4 e_e5 e_e1 m l_7) : Hd (b_zbb_2 PP c_zbj c_zbb l_4 l_7) (A_zbb_2 xat @xmap xlen e_e4 e_e5 e_e1 m ) (el (A_zbb_2 xat @xmap xlen e_e4 e_e5 e_e1 m ) (O_zbb @xmap e_e5 e_e1 m )) := by
 rintro ⟨v1, v3_0, v3_1, v3_2, v3_3, v3_4, v5_0, v5_1, v5_2, v5_3, v5_4, v7, v9, o6_0, o6_1, o6_2, o6_3, o6_4, o8_0, o8_1, o8_2, o8_3_g, o8_3, o8_4_g, o8_4⟩ out hp stk
 subst hPP
 simp only [b_zbb_2] at hp
 simp only [A_zbb_2]
 rw [h.at_, hT]
 cbv
 try simp only [h.len]
 cases c7 : xcmp .lss v9 (plen v3_3) with
 | false =>
  simp only [c7] at hp ⊢
  cbv
  rw [h.at_, hT]
  cbv
  cases c : l_7 (v1, v3_0, v3_1, v3_2, v3_3, v3_4, v5_0, v5_1, v5_2, v5_3, v5_4, v7, 0, o6_0, o6_1, o6_2, o6_3, o6_4, o8_0, o8_1, o8_2, o8_3_g, o8_3, o8_4_g, o8_4) with
  | none => simp only [c] at hp; cases hp
  | some o17 =>
   simp only [c] at hp
   cases hp
   first | exact h_l_7 c stk | (have q := h_l_7 c stk; simp only [A_zbb_7, h.lits, hA] at q; first | exact q | (cbv; exact q))
 | true =>
  simp only [c7] at hp ⊢
  cbv
  rw [h.at_, hT]
  cbv
  cases c9 : pidx v3_3 v9 with
  | none => simp only [c9] at hp; cases hp
  | some y16 =>
   obtain ⟨a8_0, a8_1, a8_2, a8_3, a8_4⟩ := y16
   simp only [c9] at hp
   obtain ⟨q1, q2⟩ := h.idx e_e5 c9
   try simp only [hA.2.1] at q2
   simp only [q1, Bool.false_eq_true, if_false]
   cbv
   try simp only [q2]
   cbv
   cases c10 : xcmp .eql v9 v7 with
   | false =>
    simp only [c10] at hp ⊢
    cbv
    first | exact h_l_4 hp stk | (have q := h_l_4 hp stk; simp only [A_zbb_4, h.lits, hA] at q; first | exact q | (cbv; exact q))
   | true =>
    simp only [c10] at hp ⊢
    cbv
    cases c12 : psub v1 (some 1) none with
    | none => simp only [c12] at hp; cases hp
    | some s11 =>
     simp only [c12] at hp
     obtain ⟨q0, q1, q2, q3⟩ := h.sub1 e_e4 c12
     simp only [q0, q1, q2, q3, Bool.false_eq_true, if_false, if_true, hZ.1]
     cbv
     try simp only [q0, q1, q2, q3, if_true, hZ.1]
     cbv
     cases c14 : c_zbb ⟨a8_0, a8_1, a8_2, a8_3, a8_4⟩ s11 ⟨v5_0, v5_1, v5_2, v5_3, v5_4⟩ with
     | none => simp only [c14] at hp; cases hp
     | some y15 =>
      obtain ⟨r13_0_0, r13_0_1, r13_0_2, r13_0_3, r13_0_4⟩ := y15
      simp only [c14] at hp
      have qc := fun s => (h_zbb c14 s).1
      simp only [qc]
      cbv
      first | exact h_l_4 hp stk | (have q := h_l_4 hp stk; simp only [A_zbb_4, h.lits, hA] at q; first | exact q | (cbv; exact q))
def b_zbb_4 (P : Prims) (c_zbj : Y_zbj) (c_zbb : Y_zbb) : T_zbb_4 → Option (T_zbb_2 ⊕ R_zbb)
 | (v1, v3_0, v3_1, v3_2, v3_3, v3_4, v5_0, v5_1, v5_2, v5_3, v5_4, v7, v9, o6_0, o6_1, o6_2, o6_3, o6_4, o8_0, o8_1, o8_2, o8_3_g, o8_3, o8_4_g, o8_4, o10_0, o10_1, o10_2, o10_3, o10_4) =>
 match P.app 80 o8_3 [⟨o10_0, o10_1, o10_2, o10_3, o10_4⟩] with
 | none => none
 | some l18 =>
  some (.inl (v1, v3_0, v3_1, v3_2, v3_3, v3_4, v5_0, v5_1, v5_2, v5_3, v5_4, v7, P.ar .add .i64 v9 1, o6_0, o6_1, o6_2, o6_3, o6_4, o8_0, o8_1, o8_2, o8_3_g + 1, l18, o8_4_g, o8_4))
theorem o_zbb_4 : H_zbb_4 xat @xmap xlen e_e4 e_e5 e_e1 m (b_zbb_4 PP c_zbj c_zbb ) := by
 rintro ⟨v1, v3_0, v3_1, v3_2, v3_3, v3_4, v5_0, v5_1, v5_2, v5_3, v5_4, v7, v9, o6_0, o6_1, o6_2, o6_3, o6_4, o8_0, o8_1, o8_2, o8_3_g, o8_3, o8_4_g, o8_4, o10_0, o10_1, o10_2, o10_3, o10_4⟩ out hp stk
 subst hPP
 simp only [b_zbb_4] at hp
 simp only [A_zbb_4]
 rw [h.at_, hT]
 cbv
 simp only [h.allsz_nil, h.allsz_cons]
 cbv
 simp only [h.allsz_nil, h.allsz_cons]
 cbv
 cases c19 : papp 80 o8_3 [⟨o10_0, o10_1, o10_2, o10_3, o10_4⟩] with
 | none => simp only [c19] at hp; cases hp
 | some l18 =>
  simp only [c19] at hp
  obtain ⟨q1, q2, q3⟩ := h.app e_e5 c19 rfl
  simp only [h.map_cons, h.map_nil, h.len_nil, hA.2.1] at q1 q2 q3
  try simp only [h.len_nil]
  cbv
  simp only [q1, q2, q3, if_true]
  cbv
  rw [h.at_, hT]
  cbv
  cases hp
  all_goals first | rfl | (cbv; done) | (simp only [h.lits, hA, el, O_zbb, A_zbb_2, if_true]; first | done | rfl | (cbv; done) | (cbv; simp only [h.lits, hA, el, O_zbb, A_zbb_2]; done))
def b_zbb_7 (P : Prims) (c_zbj : Y_zbj) (c_zbb : Y_zbb) (l_9 : T_zbb_9 → Option (T_zbb_7 ⊕ R_zbb)) : T_zbb_7 → Option (T_zbb_7 ⊕ R_zbb)
 | (v1, v3_0, v3_1, v3_2, v3_3, v3_4, v5_0, v5_1, v5_2, v5_3, v5_4, v7, v11, o6_0, o6_1, o6_2, o6_3, o6_4, o8_0, o8_1, o8_2, o8_3_g, o8_3, o8_4_g, o8_4) =>
 match P.cmp .lss v11 (P.len v3_4) with
 | false =>
  some (.inr ⟨o8_0, o8_1, o8_2, o8_3, o8_4⟩)
 | true =>
  match P.idx v3_4 v11 with
  | none => none
  | some ⟨a21_0, ⟨a21_1_0, a21_1_1, a21_1_2, a21_1_3, a21_1_4⟩⟩ =>
   match P.cmp .eql v11 v7 with
   | false =>
    l_9 (v1, v3_0, v3_1, v3_2, v3_3, v3_4, v5_0, v5_1, v5_2, v5_3, v5_4, v7, v11, o6_0, o6_1, o6_2, o6_3, o6_4, o8_0, o8_1, o8_2, o8_3_g, o8_3, o8_4_g, o8_4, a21_0, a21_1_0, a21_1_1, a21_1_2, a21_1_3, a21_1_4)
   | true =>
    match P.sub v1 (some 1) none with
    | none => none
    | some s24 =>
     match c_zbb ⟨a21_1_0, a21_1_1, a21_1_2, a21_1_3, a21_1_4⟩ s24 ⟨v5_0, v5_1, v5_2, v5_3, v5_4⟩ with
     | none => none
     | some ⟨r26_0_0, r26_0_1, r26_0_2, r26_0_3, r26_0_4⟩ =>
      l_9 (v1, v3_0, v3_1, v3_2, v3_3, v3_4, v5_0, v5_1, v5_2, v5_3, v5_4, v7, v11, o6_0, o6_1, o6_2, o6_3, o6_4, o8_0, o8_1, o8_2, o8_3_g, o8_3, o8_4_g, o8_4, a21_0, r26_0_0, r26_0_1, r26_0_2, r26_0_3, r26_0_4)
theorem o_zbb_7 {l_9 : T_zbb_9 → Option (T_zbb_7 ⊕ R_zbb)} (h_l_9 : H_zbb_9 xat @xmap xlen e_e4 e_e5 e_e1 m l_9) : Hd (b_zbb_7 PP c_zbj c_zbb l_9) (A_zbb_7 xat @xmap xlen e_e4 e_e5 e_e1 m ) (el (A_zbb_7 xat @xmap xlen e_e4 e_e5 e_e1 m ) (O_zbb @xmap e_e5 e_e1 m )) := by
 rintro ⟨v1, v3_0, v3_1, v3_2, v3_3, v3_4, v5_0, v5_1, v5_2, v5_3, v5_4, v7, v11, o6_0, o6_1, o6_2, o6_3, o6_4, o8_0, o8_1, o8_2, o8_3_g, o8_3, o8_4_g, o8_4⟩ out hp stk
 subst hPP
 simp only [b_zbb_7] at hp
 simp only [A_zbb_7]
 rw [h.at_, hT]
 cbv
 try simp only [h.len]
 cases c20 : xcmp .lss v11 (plen v3_4) with
 | false =>
  simp only [c20] at hp ⊢
  cbv
  rw [h.at_, hT]
  cbv
  cases hp
  all_goals first | rfl | (cbv; done) | (simp only [h.lits, hA, el, O_zbb, A_zbb_7, if_true]; first | done | rfl | (cbv; done) | (cbv; simp only [h.lits, hA, el, O_zbb, A_zbb_7]; done))
 | true =>
  simp only [c20] at hp ⊢
  cbv
  rw [h.at_, hT]
  cbv
  cases c22 : pidx v3_4 v11 with
  | none => simp only [c22] at hp; cases hp
  | some y29 =>
   obtain ⟨a21_0, ⟨a21_1_0, a21_1_1, a21_1_2, a21_1_3, a21_1_4⟩⟩ := y29
   simp only [c22] at hp
   obtain ⟨q1, q2⟩ := h.idx e_e1 c22
   try simp only [hA.2.2.1] at q2
   simp only [q1, Bool.false_eq_true, if_false]
   cbv
   try simp only [q2]
   cbv
   cases c23 : xcmp .eql v11 v7 with
   | false =>
    simp only [c23] at hp ⊢
    cbv
    first | exact h_l_9 hp stk | (have q := h_l_9 hp stk; simp only [A_zbb_9, h.lits, hA] at q; first | exact q | (cbv; exact q))
   | true =>
    simp only [c23] at hp ⊢
    cbv
    cases c25 : psub v1 (some 1) none with
    | none => simp only [c25] at hp; cases hp
    | some s24 =>
     simp only [c25] at hp
     obtain ⟨q0, q1, q2, q3⟩ := h.sub1 e_e4 c25
     simp only [q0, q1, q2, q3, Bool.false_eq_true, if_false, if_true, hZ.1]
     cbv
     try simp only [q0, q1, q2, q3, if_true, hZ.1]
     cbv
     cases c27 : c_zbb ⟨a21_1_0, a21_1_1, a21_1_2, a21_1_3, a21_1_4⟩ s24 ⟨v5_0, v5_1, v5_2, v5_3, v5_4⟩ with
     | none => simp only [c27] at hp; cases hp
     | some y28 =>
      obtain ⟨r26_0_0, r26_0_1, r26_0_2, r26_0_3, r26_0_4⟩ := y28
      simp only [c27] at hp
      have qc := fun s => (h_zbb c27 s).1
      simp only [qc]
      cbv
      first | exact h_l_9 hp stk | (have q := h_l_9 hp stk; simp only [A_zbb_9, h.lits, hA] at q; first | exact q | (cbv; exact q))
def b_zbb_9 (P : Prims) (c_zbj : Y_zbj) (c_zbb : Y_zbb) : T_zbb_9 → Option (T_zbb_7 ⊕ R_zbb)
 | (v1, v3_0, v3_1, v3_2, v3_3, v3_4, v5_0, v5_1, v5_2, v5_3, v5_4, v7, v11, o6_0, o6_1, o6_2, o6_3, o6_4, o8_0, o8_1, o8_2, o8_3_g, o8_3, o8_4_g, o8_4, o12_0, o12_1, o12_2, o12_3, o12_4, o12_5) =>
 match P.app 96 o8_4 [⟨o12_0, ⟨o12_1, o12_2, o12_3, o12_4, o12_5⟩⟩] with
 | none => none
 | some l30 =>
  some (.inl (v1, v3_0, v3_1, v3_2, v3_3, v3_4, v5_0, v5_1, v5_2, v5_3, v5_4, v7, P.ar .add .i64 v11 1, o6_0, o6_1, o6_2, o6_3, o6_4, o8_0, o8_1, o8_2, o8_3_g, o8_3, o8_4_g + 1, l30))
theorem o_zbb_9 : H_zbb_9 xat @xmap xlen e_e4 e_e5 e_e1 m (b_zbb_9 PP c_zbj c_zbb ) := by
 rintro ⟨v1, v3_0, v3_1, v3_2, v3_3, v3_4, v5_0, v5_1, v5_2, v5_3, v5_4, v7, v11, o6_0, o6_1, o6_2, o6_3, o6_4, o8_0, o8_1, o8_2, o8_3_g, o8_3, o8_4_g, o8_4, o12_0, o12_1, o12_2, o12_3, o12_4, o12_5⟩ out hp stk
 subst hPP
 simp only [b_zbb_9] at hp
 simp only [A_zbb_9]
 rw [h.at_, hT]
 cbv
 simp only [h.allsz_nil, h.allsz_cons]
 cbv
 simp only [h.allsz_nil, h.allsz_cons]
 cbv
 cases c31 : papp 96 o8_4 [⟨o12_0, ⟨o12_1, o12_2, o12_3, o12_4, o12_5⟩⟩] with
 | none => simp only [c31] at hp; cases hp
 | some l30 =>
  simp only [c31] at hp
  obtain ⟨q1, q2, q3⟩ := h.app e_e1 c31 rfl
  simp only [h.map_cons, h.map_nil, h.len_nil, hA.2.2.1] at q1 q2 q3
  try simp only [h.len_nil]
  cbv
  simp only [q1, q2, q3, if_true]
  cbv
  rw [h.at_, hT]
  cbv
  cases hp
  all_goals first | rfl | (cbv; done) | (simp only [h.lits, hA, el, O_zbb, A_zbb_7, if_true]; first | done | rfl | (cbv; done) | (cbv; simp only [h.lits, hA, el, O_zbb, A_zbb_7]; done))
end
def b_zbh_0 (P : Prims) (c_zbb : Y_zbb) (c_z2 : Y_z2) : T_zbh_0 → Option R_zbh
 | (v0_0, v0_1, v0_2, v0_3, v0_4, v1, v2_0, v2_1, v2_2, v2_3, v2_4) =>
 match c_zbb ⟨v0_0, v0_1, v0_2, v0_3, v0_4⟩ v1 ⟨v2_0, v2_1, v2_2, v2_3, v2_4⟩ with
 | none => none
 | some ⟨r1_0_0, r1_0_1, r1_0_2, r1_0_3, r1_0_4⟩ =>
  match c_z2 ⟨r1_0_0, r1_0_1, r1_0_2, r1_0_3, r1_0_4⟩ with
  | none => none
  | some r3_0 =>
   match r3_0 with
   | false =>
    some (⟨0, 0, [], [], []⟩, 5)
   | true =>
    some (⟨r1_0_0, r1_0_1, r1_0_2, r1_0_3, r1_0_4⟩, 0)
section
variable (c_zbb : Y_zbb) (c_z2 : Y_z2) (h_zbb : (C_zbb xpcall xfcall @xmap e_e4 e_e5 e_e1 c_zbb)) (h_z2 : (C_z2 xpcall xfcall @xmap e_e5 e_e1 c_z2)) (m : Nat)
include c_zbb c_z2 h_zbb h_z2 m
theorem o_zbh_0 : H_zbh_0 xat @xmap e_e4 e_e5 e_e1 m (b_zbh_0 PP c_zbb c_z2 ) := by
 rintro ⟨v0_0, v0_1, v0_2, v0_3, v0_4, v1, v2_0, v2_1, v2_2, v2_3, v2_4⟩ out hp stk
 subst hPP
 simp only [b_zbh_0] at hp
 simp only [A_zbh_0]
 rw [h.at_, hT]
 cbv
 cases c2 : c_zbb ⟨v0_0, v0_1, v0_2, v0_3, v0_4⟩ v1 ⟨v2_0, v2_1, v2_2, v2_3, v2_4⟩ with
 | none => simp only [c2] at hp; cases hp
 | some y6 =>
  obtain ⟨r1_0_0, r1_0_1, r1_0_2, r1_0_3, r1_0_4⟩ := y6
  simp only [c2] at hp
  have qc := fun s => (h_zbb c2 s).1
  simp only [qc]
  cbv
  cases c4 : c_z2 ⟨r1_0_0, r1_0_1, r1_0_2, r1_0_3, r1_0_4⟩ with
  | none => simp only [c4] at hp; cases hp
  | some r3_0 =>
   simp only [c4] at hp
   have qc := fun s => (h_z2 c4 s).1
   simp only [qc]
   cbv
   cases r3_0 with
   | false =>
    simp only at hp
    cbv
    cases hp
    all_goals first | rfl | (cbv; done) | (simp only [h.lits, hA, el, O_zbh, if_true]; first | done | rfl | (cbv; done) | (cbv; simp only [h.lits, hA, el, O_zbh]; done))
   | true =>
    simp only at hp
    cbv
    rw [h.at_, hT]
    cbv
    cases hp
    all_goals first | rfl | (cbv; done)
end
def b_z6_0 (P : Prims) (c_z2 : Y_z2) (c_zbi : Y_zbi) (c_zbh : Y_zbh) (l_1 : T_z6_1 → Option R_z6) : T_z6_0 → Option R_z6
 | (v0_0, v0_1, v0_2, v0_3, v0_4, v1, v2) =>
 l_1 (v1, v2, v0_0, v0_1, v0_2, v0_3, v0_4, 0, 0, 0, [], [], [])
section
variable (c_z2 : Y_z2) (c_zbi : Y_zbi) (c_zbh : Y_zbh) (h_z2 : (C_z2 xpcall xfcall @xmap e_e5 e_e1 c_z2)) (h_zbi : (C_zbi xpcall xfcall @xmap e_e4 e_e5 e_e1 c_zbi)) (h_zbh : (C_zbh xpcall xfcall @xmap e_e4 e_e5 e_e1 c_zbh)) (m : Nat)
include c_z2 c_zbi c_zbh h_z2 h_zbi h_zbh m
theorem o_z6_0 {l_1 : T_z6_1 → Option R_z6} (h_l_1 : H_z6_1 xat @xmap e_e4 e_e5 e_e1 m l_1) : H_z6_0 xat @xmap e_e4 e_e5 e_e1 m (b_z6_0 PP c_z2 c_zbi c_zbh l_1) := by
 rintro ⟨v0_0, v0_1, v0_2, v0_3, v0_4, v1, v2⟩ out hp stk
 subst hPP
 simp only [b_z6_0] at hp
 simp only [A_z6_0]
 rw [h.at_, hT]
 cbv
 first | exact h_l_1 hp stk | (have q := h_l_1 hp stk; simp only [A_z6_1, h.lits, hA] at q; first | exact q | (cbv; exact q))
def b_z6_1 (P : Prims) (c_z2 : Y_z2) (c_zbi : Y_zbi) (c_zbh : Y_zbh) : T_z6_1 → Option (T_z6_1 ⊕ R_z6)
 | (v1, v2, v3_0, v3_1, v3_2, v3_3, v3_4, v8, o6_0, o6_1, o6_2, o6_3, o6_4) =>
 match P.cmp .lss v8 (P.len v2) with
 | false =>
  match c_zbi ⟨v3_0, v3_1, v3_2, v3_3, v3_4⟩ v1 with
  | none => none
  | some (⟨r8_0_0, r8_0_1, r8_0_2, r8_0_3, r8_0_4⟩, r8_1) =>
   match P.cmp .neq r8_1 0 with
   | false =>
    match P.cmp .neq r8_0_0 4 with
    | false =>
     match P.app 80 ([] : List S2_) r8_0_3 with
     | none => none
     | some l12 =>
      match P.app 80 l12 v2 with
      | none => none
      | some l14 =>
       match c_zbh ⟨v3_0, v3_1, v3_2, v3_3, v3_4⟩ v1 ⟨4, 0, [], l14, []⟩ with
       | none => none
       | some (⟨r16_0_0, r16_0_1, r16_0_2, r16_0_3, r16_0_4⟩, r16_1) =>
        some (.inr (⟨r16_0_0, r16_0_1, r16_0_2, r16_0_3, r16_0_4⟩, r16_1))
    | true =>
     some (.inr (⟨0, 0, [], [], []⟩, 9))
   | true =>
    some (.inr (⟨0, 0, [], [], []⟩, r8_1))
 | true =>
  match P.idx v2 v8 with
  | none => none
  | some ⟨a2_0, a2_1, a2_2, a2_3, a2_4⟩ =>
   match c_z2 ⟨a2_0, a2_1, a2_2, a2_3, a2_4⟩ with
   | none => none
   | some r4_0 =>
    match r4_0 with
    | false =>
     some (.inr (⟨0, 0, [], [], []⟩, 1))
    | true =>
     some (.inl (v1, v2, v3_0, v3_1, v3_2, v3_3, v3_4, P.ar .add .i64 v8 1, o6_0, o6_1, o6_2, o6_3, o6_4))
theorem o_z6_1 : Hd (b_z6_1 PP c_z2 c_zbi c_zbh ) (A_z6_1 xat @xmap e_e4 e_e5 e_e1 m ) (el (A_z6_1 xat @xmap e_e4 e_e5 e_e1 m ) (O_z6 @xmap e_e5 e_e1 m )) := by
 rintro ⟨v1, v2, v3_0, v3_1, v3_2, v3_3, v3_4, v8, o6_0, o6_1, o6_2, o6_3, o6_4⟩ out hp stk
 subst hPP
 simp only [b_z6_1] at hp
 simp only [A_z6_1]
 rw [h.at_, hT]
 cbv
 try simp only [h.len]
 cases c1 : xcmp .lss v8 (plen v2) with
 | false =>
  simp only [c1] at hp ⊢
  cbv
  rw [h.at_, hT]
  cbv
  cases c9 : c_zbi ⟨v3_0, v3_1, v3_2, v3_3, v3_4⟩ v1 with
  | none => simp only [c9] at hp; cases hp
  | some y19 =>
   obtain ⟨⟨r8_0_0, r8_0_1, r8_0_2, r8_0_3, r8_0_4⟩, r8_1⟩ := y19
   simp only [c9] at hp
   have qc := fun s => (h_zbi c9 s).1
   simp only [qc]
   cbv
   cases c10 : xcmp .neq r8_1 0 with
   | false =>
    simp only [c10] at hp ⊢
    cbv
    rw [h.at_, hT]
    cbv
    cases c11 : xcmp .neq r8_0_0 4 with
    | false =>
     simp only [c11] at hp ⊢
     cbv
     rw [h.at_, hT]
     cbv
     try simp only [hZ.2.1, if_true]
     cbv
     cases c13 : papp 80 ([] : List S2_) r8_0_3 with
     | none => simp only [c13] at hp; cases hp
     | some l12 =>
      simp only [c13] at hp
      obtain ⟨q1, q2, q3⟩ := h.app e_e5 c13 rfl
      simp only [h.map_cons, h.map_nil, h.len_nil, hA.2.1] at q1 q2 q3
      try simp only [h.len_nil]
      cbv
      simp only [q1, q2, q3, if_true]
      cbv
      try simp only [hZ.2.1, if_true]
      cbv
      cases c15 : papp 80 l12 v2 with
      | none => simp only [c15] at hp; cases hp
      | some l14 =>
       simp only [c15] at hp
       obtain ⟨q1, q2, q3⟩ := h.app e_e5 c15 rfl
       try simp only [h.len_nil]
       cbv
       simp only [q1, q2, q3, if_true]
       cbv
       simp only [h.nadd0, h.nle_refl, h.cut_all, if_true]
       cbv
       cases c17 : c_zbh ⟨v3_0, v3_1, v3_2, v3_3, v3_4⟩ v1 ⟨4, 0, [], l14, []⟩ with
       | none => simp only [c17] at hp; cases hp
       | some y18 =>
        obtain ⟨⟨r16_0_0, r16_0_1, r16_0_2, r16_0_3, r16_0_4⟩, r16_1⟩ := y18
        simp only [c17] at hp
        have qc := fun s => (h_zbh c17 s).1
        try simp only [h.map_nil] at qc
        simp only [qc]
        cbv
        cases hp
        all_goals first | rfl | (cbv; done)
    | true =>
     simp only [c11] at hp ⊢
     cbv
     cases hp
     all_goals first | rfl | (cbv; done) | (simp only [h.lits, hA, el, O_z6, A_z6_1, if_true]; first | done | rfl | (cbv; done) | (cbv; simp only [h.lits, hA, el, O_z6, A_z6_1]; done))
   | true =>
    simp only [c10] at hp ⊢
    cbv
    cases hp
    all_goals first | rfl | (cbv; done) | (simp only [h.lits, hA, el, O_z6, A_z6_1, if_true]; first | done | rfl | (cbv; done) | (cbv; simp only [h.lits, hA, el, O_z6, A_z6_1]; done))
 | true =>
  simp only [c1] at hp ⊢
  cbv
  rw [h.at_, hT]
  cbv
  cases c3 : pidx v2 v8 with
  | none => simp only [c3] at hp; cases hp
  | some y7 =>
   obtain ⟨a2_0, a2_1, a2_2, a2_3, a2_4⟩ := y7
   simp only [c3] at hp
   obtain ⟨q1, q2⟩ := h.idx e_e5 c3
   try simp only [hA.2.1] at q2
   simp only [q1, Bool.false_eq_true, if_false]
   cbv
   try simp only [q2]
   cbv
   cases c5 : c_z2 ⟨a2_0, a2_1, a2_2, a2_3, a2_4⟩ with
   | none => simp only [c5] at hp; cases hp
   | some r4_0 =>
    simp only [c5] at hp
    have qc := fun s => (h_z2 c5 s).1
    simp only [qc]
    cbv
    cases r4_0 with
    | false =>
     simp only at hp
     cbv
     cases hp
     all_goals first | rfl | (cbv; done) | (simp only [h.lits, hA, el, O_z6, A_z6_1, if_true]; first | done | rfl | (cbv; done) | (cbv; simp only [h.lits, hA, el, O_z6, A_z6_1]; done))
    | true =>
     simp only at hp
     cbv
     rw [h.at_, hT]
     cbv
     cases hp
     all_goals first | rfl | (cbv; done)
end
def b_z3_0 (P : Prims) (c_z3 : Y_z3) (l_2 : T_z3_2 → Option R_z3) : T_z3_0 → Option R_z3
 | (v0_0, v0_1, v0_2, v0_3, v0_4, v1_0, v1_1, v1_2, v1_3, v1_4) =>
 match P.cmp .neq v0_0 v1_0 with
 | false =>
  match P.cmp .neq v0_1 v1_1 with
  | false =>
   match P.seq v0_2 v1_2 with
   | false =>
    some false
   | true =>
    match P.cmp .neq (P.len v0_3) (P.len v1_3) with
    | false =>
     match P.cmp .neq (P.len v0_4) (P.len v1_4) with
     | false =>
      l_2 (v0_0, v0_1, v0_2, v0_3, v0_4, v1_0, v1_1, v1_2, v1_3, v1_4, 0)
     | true =>
      some false
    | true =>
     some false
  | true =>
   some false
 | true =>
  some false
section
variable (c_z3 : Y_z3) (h_z3 : (C_z3 xpcall xfcall @xmap e_e5 e_e1 c_z3)) (m : Nat)
include c_z3 h_z3 m
theorem o_z3_0 {l_2 : T_z3_2 → Option R_z3} (h_l_2 : H_z3_2 xat @xmap e_e5 e_e1 m l_2) : H_z3_0 xat @xmap e_e5 e_e1 m (b_z3_0 PP c_z3 l_2) := by
 rintro ⟨v0_0, v0_1, v0_2, v0_3, v0_4, v1_0, v1_1, v1_2, v1_3, v1_4⟩ out hp stk
 subst hPP
 simp only [b_z3_0] at hp
 simp only [A_z3_0]
 rw [h.at_, hT]
 cbv
 cases c1 : xcmp .neq v0_0 v1_0 with
 | false =>
  simp only [c1] at hp ⊢
  cbv
  cases c2 : xcmp .neq v0_1 v1_1 with
  | false =>
   simp only [c2] at hp ⊢
   cbv
   cases c3 : xseq v0_2 v1_2 with
   | false =>
    simp only [c3] at hp ⊢
    cbv
    cases hp
    all_goals first | rfl | (cbv; done)
   | true =>
    simp only [c3] at hp ⊢
    cbv
    try simp only [h.len]
    try simp only [h.len]
    cases c4 : xcmp .neq (plen v0_3) (plen v1_3) with
    | false =>
     simp only [c4] at hp ⊢
     cbv
     try simp only [h.len]
     try simp only [h.len]
     cases c5 : xcmp .neq (plen v0_4) (plen v1_4) with
     | false =>
      simp only [c5] at hp ⊢
      cbv
      rw [h.at_, hT]
      cbv
      first | exact h_l_2 hp stk | (have q := h_l_2 hp stk; simp only [A_z3_2, h.lits, hA] at q; first | exact q | (cbv; exact q))
     | true =>
      simp only [c5] at hp ⊢
      cbv
      cases hp
      all_goals first | rfl | (cbv; done)
    | true =>
     simp only [c4] at hp ⊢
     cbv
     cases hp
     all_goals first | rfl | (cbv; done)
  | true =>
   simp only [c2] at hp ⊢
   cbv
   cases hp
   all_goals first | rfl | (cbv; done)
 | true =>
  simp only [c1] at hp ⊢
  cbv
  cases hp
  all_goals first | rfl | (cbv; done)
def b_z3_2 (P : Prims) (c_z3 : Y_z3) (l_6 : T_z3_6 → Option R_z3) : T_z3_2 → Option (T_z3_2 ⊕ R_z3)
 | (v2_0, v2_1, v2_2, v2_3, v2_4, v3_0, v3_1, v3_2, v3_3, v3_4, v5) =>
 match P.cmp .lss v5 (P.len v2_3) with
 | false =>
  match l_6 (v2_0, v2_1, v2_2, v2_3, v2_4, v3_0, v3_1, v3_2, v3_3, v3_4, 0) with | none => none | some o16 => some (.inr o16)
 | true =>
  match P.idx v2_3 v5 with
  | none => none
  | some ⟨a7_0, a7_1, a7_2, a7_3, a7_4⟩ =>
   match P.idx v3_3 v5 with
   | none => none
   | some ⟨a9_0, a9_1, a9_2, a9_3, a9_4⟩ =>
    match c_z3 ⟨a7_0, a7_1, a7_2, a7_3, a7_4⟩ ⟨a9_0, a9_1, a9_2, a9_3, a9_4⟩ with
    | none => none
    | some r11_0 =>
     match r11_0 with
     | false =>
      some (.inr false)
     | true =>
      some (.inl (v2_0, v2_1, v2_2, v2_3, v2_4, v3_0, v3_1, v3_2, v3_3, v3_4, P.ar .add .i64 v5 1))
theorem o_z3_2 {l_6 : T_z3_6 → Option R_z3} (h_l_6 : H_z3_6 xat @xmap e_e5 e_e1 m l_6) : Hd (b_z3_2 PP c_z3 l_6) (A_z3_2 xat @xmap e_e5 e_e1 m ) (el (A_z3_2 xat @xmap e_e5 e_e1 m ) (O_z3 m )) := by
 rintro ⟨v2_0, v2_1, v2_2, v2_3, v2_4, v3_0, v3_1, v3_2, v3_3, v3_4, v5⟩ out hp stk
 subst hPP
 simp only [b_z3_2] at hp
 simp only [A_z3_2]
 rw [h.at_, hT]
 cbv
 try simp only [h.len]
 cases c6 : xcmp .lss v5 (plen v2_3) with
 | false =>
  simp only [c6] at hp ⊢
  cbv
  rw [h.at_, hT]
  cbv
  cases c : l_6 (v2_0, v2_1, v2_2, v2_3, v2_4, v3_0, v3_1, v3_2, v3_3, v3_4, 0) with
  | none => simp only [c] at hp; cases hp
  | some o16 =>
   simp only [c] at hp
   cases hp
   first | exact h_l_6 c stk | (have q := h_l_6 c stk; simp only [A_z3_6, h.lits, hA] at q; first | exact q | (cbv; exact q))
 | true =>
  simp only [c6] at hp ⊢
  cbv
  rw [h.at_, hT]
  cbv
  cases c8 : pidx v2_3 v5 with
  | none => simp only [c8] at hp; cases hp
  | some y15 =>
   obtain ⟨a7_0, a7_1, a7_2, a7_3, a7_4⟩ := y15
   simp only [c8] at hp
   obtain ⟨q1, q2⟩ := h.idx e_e5 c8
   try simp only [hA.2.1] at q2
   simp only [q1, Bool.false_eq_true, if_false]
   cbv
   try simp only [q2]
   cbv
   cases c10 : pidx v3_3 v5 with
   | none => simp only [c10] at hp; cases hp
   | some y14 =>
    obtain ⟨a9_0, a9_1, a9_2, a9_3, a9_4⟩ := y14
    simp only [c10] at hp
    obtain ⟨q1, q2⟩ := h.idx e_e5 c10
    try simp only [hA.2.1] at q2
    simp only [q1, Bool.false_eq_true, if_false]
    cbv
    try simp only [q2]
    cbv
    cases c12 : c_z3 ⟨a7_0, a7_1, a7_2, a7_3, a7_4⟩ ⟨a9_0, a9_1, a9_2, a9_3, a9_4⟩ with
    | none => simp only [c12] at hp; cases hp
    | some r11_0 =>
     simp only [c12] at hp
     have qc := fun s => (h_z3 c12 s).1
     simp only [qc]
     cbv
     cases r11_0 with
     | false =>
      simp only at hp
      cbv
      cases hp
      all_goals first | rfl | (cbv; done)
     | true =>
      simp only at hp
      cbv
      rw [h.at_, hT]
      cbv
      cases hp
      all_goals first | rfl | (cbv; done)
def b_z3_6 (P : Prims) (c_z3 : Y_z3) : T_z3_6 → Option (T_z3_6 ⊕ R_z3)
 | (v2_0, v2_1, v2_2, v2_3, v2_4, v3_0, v3_1, v3_2, v3_3, v3_4, v6) =>
 match P.cmp .lss v6 (P.len v2_4) with
 | false =>
  some (.inr true)
 | true =>
  match P.idx v2_4 v6 with
  | none => none
  | some ⟨a18_0, ⟨a18_1_0, a18_1_1, a18_1_2, a18_1_3, a18_1_4⟩⟩ =>
   match P.idx v3_4 v6 with
   | none => none
   | some ⟨a20_0, ⟨a20_1_0, a20_1_1, a20_1_2, a20_1_3, a20_1_4⟩⟩ =>
    match P.seq a18_0 a20_0 with
    | false =>
     some (.inr false)
    | true =>
     match c_z3 ⟨a18_1_0, a18_1_1, a18_1_2, a18_1_3, a18_1_4⟩ ⟨a20_1_0, a20_1_1, a20_1_2, a20_1_3, a20_1_4⟩ with
     | none => none
     | some r23_0 =>
      match r23_0 with
      | false =>
       some (.inr false)
      | true =>
       some (.inl (v2_0, v2_1, v2_2, v2_3, v2_4, v3_0, v3_1, v3_2, v3_3, v3_4, P.ar .add .i64 v6 1))
theorem o_z3_6 : Hd (b_z3_6 PP c_z3 ) (A_z3_6 xat @xmap e_e5 e_e1 m ) (el (A_z3_6 xat @xmap e_e5 e_e1 m ) (O_z3 m )) := by
 rintro ⟨v2_0, v2_1, v2_2, v2_3, v2_4, v3_0, v3_1, v3_2, v3_3, v3_4, v6⟩ out hp stk
 subst hPP
 simp only [b_z3_6] at hp
 simp only [A_z3_6]
 rw [h.at_, hT]
 cbv
 try simp only [h.len]
 cases c17 : xcmp .lss v6 (plen v2_4) with
 | false =>
  simp only [c17] at hp ⊢
  cbv
  rw [h.at_, hT]
  cbv
  cases hp
  all_goals first | rfl | (cbv; done)
 | true =>
  simp only [c17] at hp ⊢
  cbv
  rw [h.at_, hT]
  cbv
  cases c19 : pidx v2_4 v6 with
  | none => simp only [c19] at hp; cases hp
  | some y27 =>
   obtain ⟨a18_0, ⟨a18_1_0, a18_1_1, a18_1_2, a18_1_3, a18_1_4⟩⟩ := y27
   simp only [c19] at hp
   obtain ⟨q1, q2⟩ := h.idx e_e1 c19
   try simp only [hA.2.2.1] at q2
   simp only [q1, Bool.false_eq_true, if_false]
   cbv
   try simp only [q2]
   cbv
   cases c21 : pidx v3_4 v6 with
   | none => simp only [c21] at hp; cases hp
   | some y26 =>
    obtain ⟨a20_0, ⟨a20_1_0, a20_1_1, a20_1_2, a20_1_3, a20_1_4⟩⟩ := y26
    simp only [c21] at hp
    obtain ⟨q1, q2⟩ := h.idx e_e1 c21
    try simp only [hA.2.2.1] at q2
    simp only [q1, Bool.false_eq_true, if_false]
    cbv
    try simp only [q2]
    cbv
    cases c22 : xseq a18_0 a20_0 with
    | false =>
     simp only [c22] at hp ⊢
     cbv
     cases hp
     all_goals first | rfl | (cbv; done)
    | true =>
     simp only [c22] at hp ⊢
     cbv
     obtain ⟨q1, q2⟩ := h.idx e_e1 c19
     try simp only [hA.2.2.1] at q2
     simp only [q1, Bool.false_eq_true, if_false]
     cbv
     try simp only [q2]
     cbv
     obtain ⟨q1, q2⟩ := h.idx e_e1 c21
     try simp only [hA.2.2.1] at q2
     simp only [q1, Bool.false_eq_true, if_false]
     cbv
     try simp only [q2]
     cbv
     cases c24 : c_z3 ⟨a18_1_0, a18_1_1, a18_1_2, a18_1_3, a18_1_4⟩ ⟨a20_1_0, a20_1_1, a20_1_2, a20_1_3, a20_1_4⟩ with
     | none => simp only [c24] at hp; cases hp
     | some r23_0 =>
      simp only [c24] at hp
      have qc := fun s => (h_z3 c24 s).1
      simp only [qc]
      cbv
      cases r23_0 with
      | false =>
       simp only at hp
       cbv
       cases hp
       all_goals first | rfl | (cbv; done)
      | true =>
       simp only at hp
       cbv
       rw [h.at_, hT]
       cbv
       cases hp
       all_goals first | rfl | (cbv; done)
end
end
end Go.Abs.T
