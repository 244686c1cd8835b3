import Derived.Test.YtbfnelnbjcfliaaDoorDfT
set_option linter.unusedSimpArgs false
set_option linter.unusedVariables false
set_option linter.unusedSectionVars false
namespace Go.Abs.T
set_option maxRecDepth 100000
section
variable {PP : Prims} {xR : FuncId → Option RF} {xiter : (St → Rs) → St → Rs} {xG : Nat → Option (List D)} {xcall : CallF} {As : FuncId → List V → Stk → Option V} {Am : FuncId → List V → Stk → Option (V × Stk)} {Eq : FuncId → List (List Nat) → List V → Stk → Option (V × Level × Stk)} {Aw : List D → Nat} {xnth : List D → Nat → Option D} {xcut : List D → Nat → Nat → List D} {xapp : List D → List D → List D} {xset : List D → Nat → D → List D} {xrep : Nat → D → List D} {xallsz : Nat → List D → Bool} {xslen : Str → Nat} {xsnth : Str → Nat → Option UInt8} {xscut : Str → Nat → Nat → Str} {xsapp : Str → Str → Str} {xseq : Str → Str → Bool} {xslt : Str → Str → Bool} {xofStr : Str → List D} {xtoStr : List D → Option Str} {xdec : Str → Nat → Nat × Nat} {xenc : Int → Str} {xar : BinOp → IntKind → Int → Int → Int} {xcmp : BinOp → Int → Int → Bool} {xwrap : IntKind → Int → Int} {xisz : Int → Bool} {xneg : Int → Bool} {xnat : Int → Nat} {xofN : Nat → Int} {xbyte : UInt8 → Int} {xnle : Nat → Nat → Bool} {xnadd : Nat → Nat → Nat} {xnsub : Nat → Nat → Nat} {xfits : Nat → Nat → Bool} {xfind : D → List (D × Nat × V) → Option (Option V)} {xputE : D → Nat → V → List (D × Nat × V) → Option (List (D × Nat × V))} {xfindK : D → List D → List D → Option (Option D)} {xelen : List (D × Nat × V) → Nat} {xfrzM : List (D × Nat × V) → Option (List D × List D)} {xsamev : V → V → Bool} {Ap : AtF} {Ay : Stk → Lab → O → Stk} {xtop : Stk → Nat} {xsame : Stk → Stk → Bool} {Ab : {α : Type} → (α → D) → List α → List D} {Av : {α : Type} → (α → D) → List (Str × Nat × α) → List (D × Nat × V)} {pquo : BinOp → IntKind → Int → Int → Option Int} {pshf : BinOp → IntKind → Int → Int → Option Int} {pslen : Str → Int} {psidx : Str → Int → Option Int} {pssub : Str → Option Int → Option Int → Option Str} {pscat : Str → Str → Option Str} {psit : Str → Nat → Option (Int × Int × Nat)} {pslist : Str → Option (List Int)} {pofBytes : List Int → Str} {plen : {α : Type} → List α → Int} {pidx : {α : Type} → List α → Int → Option α} {psub : {α : Type} → List α → Option Int → Option Int → Option (List α)} {papp : {α : Type} → Nat → List α → List α → Option (List α)} {pset : {α : Type} → List α → Int → α → Option (List α)} {pmake : {α : Type} → Nat → α → Int → Option (List α)} {pmfind : {α : Type} → Str → List (Str × Nat × α) → Option α} {pmput : {α : Type} → Str → Nat → α → List (Str × Nat × α) → List (Str × Nat × α)} {ploop : {σ ρ : Type} → (σ → Option (σ ⊕ ρ)) → σ → Option ρ} {xT : FuncId → Option KF}
  (h : KLaws xR xiter xG xcall As Am Eq Aw xnth xcut xapp xset xrep xallsz xslen xsnth xscut xsapp xseq xslt xofStr xtoStr xdec xenc xar xcmp xwrap xisz xneg xnat xofN xbyte xnle xnadd xnsub xfits xfind xputE xfindK xelen xfrzM xsamev Ap Ay xtop xsame @Ab @Av pquo pshf pslen psidx pssub pscat psit pslist pofBytes @plen @pidx @psub @papp @pset @pmake @pmfind @pmput @ploop xT) (hT : xT = table) (hPP : PP = ⟨xar, xcmp, xwrap, xseq, xslt, xenc, pquo, pshf, pslen, psidx, pssub, pscat, psit, pslist, pofBytes, @plen, @pidx, @psub, @papp, @pset, @pmake, @pmfind, @pmput, @ploop⟩)
variable {Ag : S1_ → D} {Ac : S0_ → D} {A0 : Int → D} {Ax : Str → D} (hA : (∀ (x_0 x_1 : Int) (x_2 : Str) (x_3 : Ls0) (x_4 : Ls1), Ag ⟨x_0, x_1, x_2, x_3, x_4⟩ = (.agg [(.int .i64 x_0), (.int .i64 x_1), (.str x_2), (.sl (Ab Ag x_3)), (.sl (Ab Ac x_4))])) ∧ (∀ (x_0 : Str) (x_1_0 x_1_1 : Int) (x_1_2 : Str) (x_1_3 : Ls0) (x_1_4 : Ls1), Ac ⟨x_0, ⟨x_1_0, x_1_1, x_1_2, x_1_3, x_1_4⟩⟩ = (.agg [(.str x_0), (.int .i64 x_1_0), (.int .i64 x_1_1), (.str x_1_2), (.sl (Ab Ag x_1_3)), (.sl (Ab Ac x_1_4))])) ∧ (∀ (x : Int), A0 x = (.int .i64 x)) ∧ (∀ (x : Str), Ax x = (.str x))) (hZ : (∀ l, xallsz 5 (Ab Ag l) = true) ∧ (∀ l, xallsz 6 (Ab Ac l) = true) ∧ (∀ l, xallsz 1 (Ab A0 l) = true) ∧ (∀ l, xallsz 1 (Ab Ax l) = true))
include h hT hPP hA hZ
def b_zdi_0 (P : Prims) : T_zdi_0 → Option R_zdi
 | (Af, Ak, Aj, Ah, Ai) =>
 match P.cmp .eql Af 1 with
 | false =>
  match P.cmp .eql Af 2 with
  | false =>
   match P.cmp .eql Ak 0 with
   | false =>
    some false
   | true =>
    match P.cmp .eql Af 3 with
    | false =>
     match P.seq Aj [] with
     | false =>
      some false
     | true =>
      match P.cmp .eql Af 4 with
      | false =>
       match P.cmp .eql (P.len Ah) 0 with
       | false =>
        some false
       | true =>
        match P.cmp .eql Af 5 with
        | false =>
         some (P.cmp .eql (P.len Ai) 0)
        | true =>
         some true
      | true =>
       match P.cmp .eql Af 5 with
       | false =>
        some (P.cmp .eql (P.len Ai) 0)
       | true =>
        some true
    | true =>
     match P.cmp .eql Af 4 with
     | false =>
      match P.cmp .eql (P.len Ah) 0 with
      | false =>
       some false
      | true =>
       match P.cmp .eql Af 5 with
       | false =>
        some (P.cmp .eql (P.len Ai) 0)
       | true =>
        some true
     | true =>
      match P.cmp .eql Af 5 with
      | false =>
       some (P.cmp .eql (P.len Ai) 0)
      | true =>
       some true
  | true =>
   match P.cmp .eql Af 3 with
   | false =>
    match P.seq Aj [] with
    | false =>
     some false
    | true =>
     match P.cmp .eql Af 4 with
     | false =>
      match P.cmp .eql (P.len Ah) 0 with
      | false =>
       some false
      | true =>
       match P.cmp .eql Af 5 with
       | false =>
        some (P.cmp .eql (P.len Ai) 0)
       | true =>
        some true
     | true =>
      match P.cmp .eql Af 5 with
      | false =>
       some (P.cmp .eql (P.len Ai) 0)
      | true =>
       some true
   | true =>
    match P.cmp .eql Af 4 with
    | false =>
     match P.cmp .eql (P.len Ah) 0 with
     | false =>
      some false
     | true =>
      match P.cmp .eql Af 5 with
      | false =>
       some (P.cmp .eql (P.len Ai) 0)
      | true =>
       some true
    | true =>
     match P.cmp .eql Af 5 with
     | false =>
      some (P.cmp .eql (P.len Ai) 0)
     | true =>
      some true
 | true =>
  match P.cmp .eql Af 3 with
  | false =>
   match P.seq Aj [] with
   | false =>
    some false
   | true =>
    match P.cmp .eql Af 4 with
    | false =>
     match P.cmp .eql (P.len Ah) 0 with
     | false =>
      some false
     | true =>
      match P.cmp .eql Af 5 with
      | false =>
       some (P.cmp .eql (P.len Ai) 0)
      | true =>
       some true
    | true =>
     match P.cmp .eql Af 5 with
     | false =>
      some (P.cmp .eql (P.len Ai) 0)
     | true =>
      some true
  | true =>
   match P.cmp .eql Af 4 with
   | false =>
    match P.cmp .eql (P.len Ah) 0 with
    | false =>
     some false
    | true =>
     match P.cmp .eql Af 5 with
     | false =>
      some (P.cmp .eql (P.len Ai) 0)
     | true =>
      some true
   | true =>
    match P.cmp .eql Af 5 with
    | false =>
     some (P.cmp .eql (P.len Ai) 0)
    | true =>
     some true
section
variable (m : Nat)
include m
theorem o_zdi_0 : H_zdi_0 Ap @Ab Ag Ac m (b_zdi_0 PP ) := by
 rintro ⟨Af, Ak, Aj, Ah, Ai⟩ out hp stk
 subst hPP
 simp only [b_zdi_0] at hp
 simp only [A_zdi_0]
 rw [h.at_, hT]
 cbv
 cases c1 : xcmp .eql Af 1 with
 | false =>
  simp only [c1] at hp ⊢
  cbv
  cases c12 : xcmp .eql Af 2 with
  | false =>
   simp only [c12] at hp ⊢
   cbv
   cases c23 : xcmp .eql Ak 0 with
   | false =>
    simp only [c23] at hp ⊢
    cbv
    cases hp
    all_goals first | rfl | cbv
   | true =>
    simp only [c23] at hp ⊢
    cbv
    cases c24 : xcmp .eql Af 3 with
    | false =>
     simp only [c24] at hp ⊢
     cbv
     cases c29 : xseq Aj [] with
     | false =>
      simp only [c29] at hp ⊢
      cbv
      cases hp
      all_goals first | rfl | cbv
     | true =>
      simp only [c29] at hp ⊢
      cbv
      cases c30 : xcmp .eql Af 4 with
      | false =>
       simp only [c30] at hp ⊢
       cbv
       try simp only [h.len]
       cases c32 : xcmp .eql (plen Ah) 0 with
       | false =>
        simp only [c32] at hp ⊢
        cbv
        cases hp
        all_goals first | rfl | cbv
       | true =>
        simp only [c32] at hp ⊢
        cbv
        cases c33 : xcmp .eql Af 5 with
        | false =>
         simp only [c33] at hp ⊢
         cbv
         try simp only [h.len]
         cases hp
         all_goals first | rfl | cbv
        | true =>
         simp only [c33] at hp ⊢
         cbv
         cases hp
         all_goals first | rfl | cbv
      | true =>
       simp only [c30] at hp ⊢
       cbv
       cases c31 : xcmp .eql Af 5 with
       | false =>
        simp only [c31] at hp ⊢
        cbv
        try simp only [h.len]
        cases hp
        all_goals first | rfl | cbv
       | true =>
        simp only [c31] at hp ⊢
        cbv
        cases hp
        all_goals first | rfl | cbv
    | true =>
     simp only [c24] at hp ⊢
     cbv
     cases c25 : xcmp .eql Af 4 with
     | false =>
      simp only [c25] at hp ⊢
      cbv
      try simp only [h.len]
      cases c27 : xcmp .eql (plen Ah) 0 with
      | false =>
       simp only [c27] at hp ⊢
       cbv
       cases hp
       all_goals first | rfl | cbv
      | true =>
       simp only [c27] at hp ⊢
       cbv
       cases c28 : xcmp .eql Af 5 with
       | false =>
        simp only [c28] at hp ⊢
        cbv
        try simp only [h.len]
        cases hp
        all_goals first | rfl | cbv
       | true =>
        simp only [c28] at hp ⊢
        cbv
        cases hp
        all_goals first | rfl | cbv
     | true =>
      simp only [c25] at hp ⊢
      cbv
      cases c26 : xcmp .eql Af 5 with
      | false =>
       simp only [c26] at hp ⊢
       cbv
       try simp only [h.len]
       cases hp
       all_goals first | rfl | cbv
      | true =>
       simp only [c26] at hp ⊢
       cbv
       cases hp
       all_goals first | rfl | cbv
  | true =>
   simp only [c12] at hp ⊢
   cbv
   cases c13 : xcmp .eql Af 3 with
   | false =>
    simp only [c13] at hp ⊢
    cbv
    cases c18 : xseq Aj [] with
    | false =>
     simp only [c18] at hp ⊢
     cbv
     cases hp
     all_goals first | rfl | cbv
    | true =>
     simp only [c18] at hp ⊢
     cbv
     cases c19 : xcmp .eql Af 4 with
     | false =>
      simp only [c19] at hp ⊢
      cbv
      try simp only [h.len]
      cases c21 : xcmp .eql (plen Ah) 0 with
      | false =>
       simp only [c21] at hp ⊢
       cbv
       cases hp
       all_goals first | rfl | cbv
      | true =>
       simp only [c21] at hp ⊢
       cbv
       cases c22 : xcmp .eql Af 5 with
       | false =>
        simp only [c22] at hp ⊢
        cbv
        try simp only [h.len]
        cases hp
        all_goals first | rfl | cbv
       | true =>
        simp only [c22] at hp ⊢
        cbv
        cases hp
        all_goals first | rfl | cbv
     | true =>
      simp only [c19] at hp ⊢
      cbv
      cases c20 : xcmp .eql Af 5 with
      | false =>
       simp only [c20] at hp ⊢
       cbv
       try simp only [h.len]
       cases hp
       all_goals first | rfl | cbv
      | true =>
       simp only [c20] at hp ⊢
       cbv
       cases hp
       all_goals first | rfl | cbv
   | true =>
    simp only [c13] at hp ⊢
    cbv
    cases c14 : xcmp .eql Af 4 with
    | false =>
     simp only [c14] at hp ⊢
     cbv
     try simp only [h.len]
     cases c16 : xcmp .eql (plen Ah) 0 with
     | false =>
      simp only [c16] at hp ⊢
      cbv
      cases hp
      all_goals first | rfl | cbv
     | true =>
      simp only [c16] at hp ⊢
      cbv
      cases c17 : xcmp .eql Af 5 with
      | false =>
       simp only [c17] at hp ⊢
       cbv
       try simp only [h.len]
       cases hp
       all_goals first | rfl | cbv
      | true =>
       simp only [c17] at hp ⊢
       cbv
       cases hp
       all_goals first | rfl | cbv
    | true =>
     simp only [c14] at hp ⊢
     cbv
     cases c15 : xcmp .eql Af 5 with
     | false =>
      simp only [c15] at hp ⊢
      cbv
      try simp only [h.len]
      cases hp
      all_goals first | rfl | cbv
     | true =>
      simp only [c15] at hp ⊢
      cbv
      cases hp
      all_goals first | rfl | cbv
 | true =>
  simp only [c1] at hp ⊢
  cbv
  cases c2 : xcmp .eql Af 3 with
  | false =>
   simp only [c2] at hp ⊢
   cbv
   cases c7 : xseq Aj [] with
   | false =>
    simp only [c7] at hp ⊢
    cbv
    cases hp
    all_goals first | rfl | cbv
   | true =>
    simp only [c7] at hp ⊢
    cbv
    cases c8 : xcmp .eql Af 4 with
    | false =>
     simp only [c8] at hp ⊢
     cbv
     try simp only [h.len]
     cases c10 : xcmp .eql (plen Ah) 0 with
     | false =>
      simp only [c10] at hp ⊢
      cbv
      cases hp
      all_goals first | rfl | cbv
     | true =>
      simp only [c10] at hp ⊢
      cbv
      cases c11 : xcmp .eql Af 5 with
      | false =>
       simp only [c11] at hp ⊢
       cbv
       try simp only [h.len]
       cases hp
       all_goals first | rfl | cbv
      | true =>
       simp only [c11] at hp ⊢
       cbv
       cases hp
       all_goals first | rfl | cbv
    | true =>
     simp only [c8] at hp ⊢
     cbv
     cases c9 : xcmp .eql Af 5 with
     | false =>
      simp only [c9] at hp ⊢
      cbv
      try simp only [h.len]
      cases hp
      all_goals first | rfl | cbv
     | true =>
      simp only [c9] at hp ⊢
      cbv
      cases hp
      all_goals first | rfl | cbv
  | true =>
   simp only [c2] at hp ⊢
   cbv
   cases c3 : xcmp .eql Af 4 with
   | false =>
    simp only [c3] at hp ⊢
    cbv
    try simp only [h.len]
    cases c5 : xcmp .eql (plen Ah) 0 with
    | false =>
     simp only [c5] at hp ⊢
     cbv
     cases hp
     all_goals first | rfl | cbv
    | true =>
     simp only [c5] at hp ⊢
     cbv
     cases c6 : xcmp .eql Af 5 with
     | false =>
      simp only [c6] at hp ⊢
      cbv
      try simp only [h.len]
      cases hp
      all_goals first | rfl | cbv
     | true =>
      simp only [c6] at hp ⊢
      cbv
      cases hp
      all_goals first | rfl | cbv
   | true =>
    simp only [c3] at hp ⊢
    cbv
    cases c4 : xcmp .eql Af 5 with
    | false =>
     simp only [c4] at hp ⊢
     cbv
     try simp only [h.len]
     cases hp
     all_goals first | rfl | cbv
    | true =>
     simp only [c4] at hp ⊢
     cbv
     cases hp
     all_goals first | rfl | cbv
end
def b_zco_0 (P : Prims) (c_zdj : Y_zdj) (l_1 : T_zco_1 → Option R_zco) : T_zco_0 → Option R_zco
 | v0 =>
 l_1 (v0, v0, 0)
section
variable (c_zdj : Y_zdj) (h_zdj : (C_zdj As Am c_zdj)) (m : Nat)
include c_zdj h_zdj m
theorem o_zco_0 {l_1 : T_zco_1 → Option R_zco} (h_l_1 : H_zco_1 Ap m l_1) : H_zco_0 Ap m (b_zco_0 PP c_zdj l_1) := by
 rintro v0 out hp stk
 subst hPP
 simp only [b_zco_0] at hp
 simp only [A_zco_0]
 rw [h.at_, hT]
 cbv
 first | exact h_l_1 hp stk | (have q := h_l_1 hp stk; simp only [A_zco_1, h.lits, hA] at q; first | exact q | (cbv; exact q))
def b_zco_1 (P : Prims) (c_zdj : Y_zdj) : T_zco_1 → Option (T_zco_1 ⊕ R_zco)
 | (v0, G9, Hv) =>
 match P.sit G9 Hv with
 | none =>
  some (.inr (-1))
 | some (i1, r2, n3) =>
  match P.cmp .neq r2 65533 with
  | false =>
   match P.ssub v0 (some i1) none with
   | none => none
   | some s5 =>
    match c_zdj s5 with
    | none => none
    | some (Cd, Jp) =>
     match P.cmp .eql Jp 1 with
     | false =>
      some (.inl (v0, G9, n3))
     | true =>
      some (.inr i1)
  | true =>
   some (.inl (v0, G9, n3))
theorem o_zco_1 : Hd (b_zco_1 PP c_zdj ) (A_zco_1 Ap m ) (el (A_zco_1 Ap m ) (O_zco m )) := by
 rintro ⟨v0, G9, Hv⟩ out hp stk
 subst hPP
 simp only [b_zco_1] at hp
 simp only [A_zco_1]
 rw [h.at_, hT]
 cbv
 cases c11 : psit G9 Hv with
 | none =>
  simp only [c11] at hp
  have q1 := h.sit0 c11
  simp only [q1, Bool.false_eq_true, if_false]
  cbv
  rw [h.at_, hT]
  cbv
  cases hp
  all_goals first | rfl | cbv
 | some y12 =>
  obtain ⟨i1, r2, n3⟩ := y12
  simp only [c11] at hp
  obtain ⟨q1, q2, q3, q4⟩ := h.sit1 c11
  simp only [q1, q2, q3, q4, if_true]
  cbv
  rw [h.at_, hT]
  cbv
  cases c4 : xcmp .neq r2 65533 with
  | false =>
   simp only [c4] at hp ⊢
   cbv
   rw [h.at_, hT]
   cbv
   cases c6 : pssub v0 (some i1) none with
   | none => simp only [c6] at hp; cases hp
   | some s5 =>
    simp only [c6] at hp
    obtain ⟨q0, q1, q2, q3⟩ := h.ssub1 c6
    simp only [q0, q1, q2, q3, Bool.false_eq_true, if_false, if_true]
    cbv
    try simp only [q0, q1, q2, q3, if_true]
    cbv
    cases c8 : c_zdj s5 with
    | none => simp only [c8] at hp; cases hp
    | some y10 =>
     obtain ⟨Cd, Jp⟩ := y10
     simp only [c8] at hp
     have qc := fun s => (h_zdj c8 s).1
     simp only [qc]
     cbv
     cases c9 : xcmp .eql Jp 1 with
     | false =>
      simp only [c9] at hp ⊢
      cbv
      cases hp
      all_goals first | rfl | cbv
     | true =>
      simp only [c9] at hp ⊢
      cbv
      cases hp
      all_goals first | rfl | cbv
  | true =>
   simp only [c4] at hp ⊢
   cbv
   cases hp
   all_goals first | rfl | cbv
end
def b_zcp_0 (P : Prims) (c_zco : Y_zco) : T_zcp_0 → Option R_zcp
 | v0 =>
 match c_zco v0 with
 | none => none
 | some Bi =>
  some (P.cmp .lss Bi 0)
section
variable (c_zco : Y_zco) (h_zco : (C_zco As Am c_zco)) (m : Nat)
include c_zco h_zco m
theorem o_zcp_0 : H_zcp_0 Ap m (b_zcp_0 PP c_zco ) := by
 rintro v0 out hp stk
 subst hPP
 simp only [b_zcp_0] at hp
 simp only [A_zcp_0]
 rw [h.at_, hT]
 cbv
 cases c2 : c_zco v0 with
 | none => simp only [c2] at hp; cases hp
 | some Bi =>
  simp only [c2] at hp
  have qc := fun s => (h_zco c2 s).1
  simp only [qc]
  cbv
  cases hp
  all_goals first | rfl | cbv
end
def b_zde_0 (P : Prims) (c_zcp : Y_zcp) (l_1 : T_zde_1 → Option R_zde) : T_zde_0 → Option R_zde
 | v0 =>
 l_1 (v0, P.len v0, 0, 0, [])
section
variable (c_zcp : Y_zcp) (h_zcp : (C_zcp As Am c_zcp)) (m : Nat)
include c_zcp h_zcp m
theorem o_zde_0 {l_1 : T_zde_1 → Option R_zde} (h_l_1 : H_zde_1 Ap @Ab @Av Ac A0 m l_1) : H_zde_0 Ap @Ab Ac m (b_zde_0 PP c_zcp l_1) := by
 rintro v0 out hp stk
 subst hPP
 simp only [b_zde_0] at hp
 simp only [A_zde_0]
 rw [h.at_, hT]
 cbv
 try simp only [h.len]
 simp only [h.frzM0]
 cbv
 first | exact h_l_1 hp stk | (have q := h_l_1 hp stk; simp only [A_zde_1, h.lits, hA] at q; first | exact q | (cbv; exact q))
def b_zde_1 (P : Prims) (c_zcp : Y_zcp) (l_3 : T_zde_3 → Option (T_zde_1 ⊕ R_zde)) : T_zde_1 → Option (T_zde_1 ⊕ R_zde)
 | (v7, v8, v9, Cz, o6) =>
 match P.cmp .lss v9 v8 with
 | false =>
  some (.inr true)
 | true =>
  match P.idx v7 v9 with
  | none => none
  | some ⟨Bq, ⟨C1, C2, C3, C4, C5⟩⟩ =>
   match P.mfind Bq o6 with
   | none =>
    match P.mfind Bq (P.mput Bq Cz (P.ar .add .i64 0 1) o6) with
    | none =>
     match P.cmp .gtr 0 1 with
     | false =>
      match c_zcp Bq with
      | none => none
      | some Hw =>
       match Hw with
       | false =>
        some (.inr false)
       | true =>
        l_3 (v7, v8, v9, Cz + 1, P.mput Bq Cz (P.ar .add .i64 0 1) o6)
     | true =>
      some (.inr false)
    | some f25 =>
     match P.cmp .gtr f25 1 with
     | false =>
      match c_zcp Bq with
      | none => none
      | some Hx =>
       match Hx with
       | false =>
        some (.inr false)
       | true =>
        l_3 (v7, v8, v9, Cz + 1, P.mput Bq Cz (P.ar .add .i64 0 1) o6)
     | true =>
      some (.inr false)
   | some f5 =>
    match P.mfind Bq (P.mput Bq Cz (P.ar .add .i64 f5 1) o6) with
    | none =>
     match P.cmp .gtr 0 1 with
     | false =>
      match c_zcp Bq with
      | none => none
      | some Eu =>
       match Eu with
       | false =>
        some (.inr false)
       | true =>
        l_3 (v7, v8, v9, Cz, P.mput Bq Cz (P.ar .add .i64 f5 1) o6)
     | true =>
      some (.inr false)
    | some f11 =>
     match P.cmp .gtr f11 1 with
     | false =>
      match c_zcp Bq with
      | none => none
      | some C0 =>
       match C0 with
       | false =>
        some (.inr false)
       | true =>
        l_3 (v7, v8, v9, Cz, P.mput Bq Cz (P.ar .add .i64 f5 1) o6)
     | true =>
      some (.inr false)
theorem o_zde_1 {l_3 : T_zde_3 → Option (T_zde_1 ⊕ R_zde)} (h_l_3 : H_zde_3 Ap @Ab @Av Ac A0 m l_3) : Hd (b_zde_1 PP c_zcp l_3) (A_zde_1 Ap @Ab @Av Ac A0 m ) (el (A_zde_1 Ap @Ab @Av Ac A0 m ) (O_zde m )) := by
 rintro ⟨v7, v8, v9, Cz, o6⟩ out hp stk
 subst hPP
 simp only [b_zde_1] at hp
 simp only [A_zde_1]
 rw [h.at_, hT]
 cbv
 cases c1 : xcmp .lss v9 v8 with
 | false =>
  simp only [c1] at hp ⊢
  cbv
  rw [h.at_, hT]
  cbv
  cases hp
  all_goals first | rfl | cbv
 | true =>
  simp only [c1] at hp ⊢
  cbv
  simp only [h.frzM]
  cbv
  rw [h.at_, hT]
  cbv
  cases c3 : pidx v7 v9 with
  | none => simp only [c3] at hp; cases hp
  | some y35 =>
   obtain ⟨Bq, ⟨C1, C2, C3, C4, C5⟩⟩ := y35
   simp only [c3] at hp
   obtain ⟨q1, q2⟩ := h.idx Ac c3
   try simp only [hA.2.1] at q2
   simp only [q1, Bool.false_eq_true, if_false]
   cbv
   try simp only [q2]
   cbv
   cases c4 : pmfind Bq o6 with
   | none =>
    simp only [c4] at hp
    have q1 := h.mfind0 A0 c4
    simp only [q1]
    cbv
    have q1 := h.mfind0 A0 c4
    have q2 := h.mput A0 Bq Cz (xar .add .i64 0 1) o6 (hA.2.2.1 _)
    simp only [q1, q2]
    cbv
    cases c24 : pmfind Bq (pmput Bq Cz (xar .add .i64 0 1) o6) with
    | none =>
     simp only [c24] at hp
     have q1 := h.mfind0 A0 c24
     simp only [q1]
     cbv
     cases c31 : xcmp .gtr 0 1 with
     | false =>
      simp only [c31] at hp ⊢
      cbv
      cases c33 : c_zcp Bq with
      | none => simp only [c33] at hp; cases hp
      | some Hw =>
       simp only [c33] at hp
       have qc := fun s => (h_zcp c33 s).1
       simp only [qc]
       cbv
       cases Hw with
       | false =>
        simp only at hp
        cbv
        cases hp
        all_goals first | rfl | cbv
       | true =>
        simp only at hp
        cbv
        simp only [h.frzM]
        cbv
        first | exact h_l_3 hp stk | (have q := h_l_3 hp stk; simp only [A_zde_3, h.lits, hA] at q; first | exact q | (cbv; exact q))
     | true =>
      simp only [c31] at hp ⊢
      cbv
      cases hp
      all_goals first | rfl | cbv
    | some f25 =>
     simp only [c24] at hp
     have q1 := h.mfind1 A0 c24
     simp only [hA.2.2.1] at q1
     simp only [q1]
     cbv
     cases c27 : xcmp .gtr f25 1 with
     | false =>
      simp only [c27] at hp ⊢
      cbv
      cases c29 : c_zcp Bq with
      | none => simp only [c29] at hp; cases hp
      | some Hx =>
       simp only [c29] at hp
       have qc := fun s => (h_zcp c29 s).1
       simp only [qc]
       cbv
       cases Hx with
       | false =>
        simp only at hp
        cbv
        cases hp
        all_goals first | rfl | cbv
       | true =>
        simp only at hp
        cbv
        simp only [h.frzM]
        cbv
        first | exact h_l_3 hp stk | (have q := h_l_3 hp stk; simp only [A_zde_3, h.lits, hA] at q; first | exact q | (cbv; exact q))
     | true =>
      simp only [c27] at hp ⊢
      cbv
      cases hp
      all_goals first | rfl | cbv
   | some f5 =>
    simp only [c4] at hp
    have q1 := h.mfind1 A0 c4
    simp only [hA.2.2.1] at q1
    simp only [q1]
    cbv
    have q1 := h.mfind1 A0 c4
    have q2 := h.mput A0 Bq Cz (xar .add .i64 f5 1) o6 (hA.2.2.1 _)
    simp only [q1, q2]
    cbv
    cases c10 : pmfind Bq (pmput Bq Cz (xar .add .i64 f5 1) o6) with
    | none =>
     simp only [c10] at hp
     have q1 := h.mfind0 A0 c10
     simp only [q1]
     cbv
     cases c17 : xcmp .gtr 0 1 with
     | false =>
      simp only [c17] at hp ⊢
      cbv
      cases c19 : c_zcp Bq with
      | none => simp only [c19] at hp; cases hp
      | some Eu =>
       simp only [c19] at hp
       have qc := fun s => (h_zcp c19 s).1
       simp only [qc]
       cbv
       cases Eu with
       | false =>
        simp only at hp
        cbv
        cases hp
        all_goals first | rfl | cbv
       | true =>
        simp only at hp
        cbv
        simp only [h.frzM]
        cbv
        first | exact h_l_3 hp stk | (have q := h_l_3 hp stk; simp only [A_zde_3, h.lits, hA] at q; first | exact q | (cbv; exact q))
     | true =>
      simp only [c17] at hp ⊢
      cbv
      cases hp
      all_goals first | rfl | cbv
    | some f11 =>
     simp only [c10] at hp
     have q1 := h.mfind1 A0 c10
     simp only [hA.2.2.1] at q1
     simp only [q1]
     cbv
     cases c13 : xcmp .gtr f11 1 with
     | false =>
      simp only [c13] at hp ⊢
      cbv
      cases c15 : c_zcp Bq with
      | none => simp only [c15] at hp; cases hp
      | some C0 =>
       simp only [c15] at hp
       have qc := fun s => (h_zcp c15 s).1
       simp only [qc]
       cbv
       cases C0 with
       | false =>
        simp only at hp
        cbv
        cases hp
        all_goals first | rfl | cbv
       | true =>
        simp only at hp
        cbv
        simp only [h.frzM]
        cbv
        first | exact h_l_3 hp stk | (have q := h_l_3 hp stk; simp only [A_zde_3, h.lits, hA] at q; first | exact q | (cbv; exact q))
     | true =>
      simp only [c13] at hp ⊢
      cbv
      cases hp
      all_goals first | rfl | cbv
def b_zde_3 (P : Prims) (c_zcp : Y_zcp) : T_zde_3 → Option (T_zde_1 ⊕ R_zde)
 | (v7, v8, v9, Cz, o6) =>
 some (.inl (v7, v8, P.ar .add .i64 v9 1, Cz, o6))
theorem o_zde_3 : H_zde_3 Ap @Ab @Av Ac A0 m (b_zde_3 PP c_zcp ) := by
 rintro ⟨v7, v8, v9, Cz, o6⟩ out hp stk
 subst hPP
 simp only [b_zde_3] at hp
 simp only [A_zde_3]
 rw [h.at_, hT]
 cbv
 cases hp
 simp only [h.frzM]
 cbv
 all_goals first | rfl | (cbv; done) | (simp only [h.lits, hA, el, O_zde, A_zde_1, if_true]; first | done | rfl | (cbv; done) | (cbv; simp only [h.lits, hA, el, O_zde, A_zde_1]; done))
end
def b_zc2_0 (P : Prims) (c_zc5 : Y_zc5) : T_zc2_0 → Option R_zc2
 | (Af, Ak, Aj, Ah, Ai, A1) =>
 match c_zc5 ⟨Af, Ak, Aj, Ah, Ai⟩ (P.ar .sub .i64 A1 1) with
 | none => none
 | some Bi =>
  match Bi with
  | false =>
   some true
  | true =>
   some false
section
variable (c_zc5 : Y_zc5) (h_zc5 : (C_zc5 As Am @Ab Ag Ac c_zc5)) (m : Nat) (n0 : Nat) (k0 : Kl) (hl0 : n0 < m)
include c_zc5 h_zc5 m n0 k0 hl0
theorem o_zc2_0 : H_zc2_0 Ap @Ab Ag Ac m n0 k0 (b_zc2_0 PP c_zc5 ) := by
 rintro ⟨Af, Ak, Aj, Ah, Ai, A1⟩ out hp stk ⟨hg0, _⟩
 have hn := nlt hl0
 have lw := And.intro hn (hg0)
 subst hPP
 simp only [b_zc2_0] at hp
 simp only [A_zc2_0]
 rw [h.at_, hT]
 cbv
 simp only [if_false, if_true, lw]
 cbv
 cases c2 : c_zc5 ⟨Af, Ak, Aj, Ah, Ai⟩ (xar .sub .i64 A1 1) with
 | none => simp only [c2] at hp; cases hp
 | some Bi =>
  simp only [c2] at hp
  have qc := (h_zc5 c2 (⟨m, []⟩ :: stk) n0 k0 ((h.gb hl0 _ _).trans (hg0)) (Nat.le_of_lt hl0)).1
  simp only [qc]
  cbv
  cases Bi with
  | false =>
   simp only at hp
   cbv
   cases hp
   try simp only [if_false, if_true, hn]
   all_goals first | rfl | cbv
  | true =>
   simp only at hp
   cbv
   cases hp
   try simp only [if_false, if_true, hn]
   all_goals first | rfl | cbv
end
def b_zc5_0 (P : Prims) (c_zdi : Y_zdi) (c_zcp : Y_zcp) (c_zb2 : Y_zb2) (c_zde : Y_zde) (c_zb0 : Y_zb0) : T_zc5_0 → Option R_zc5
 | (Af, Ak, Aj, Ah, Ai, v1) =>
 match P.cmp .lss v1 1 with
 | false =>
  match c_zdi ⟨Af, Ak, Aj, Ah, Ai⟩ with
  | none => none
  | some Eg =>
   match Eg with
   | false =>
    some false
   | true =>
    match P.cmp .eql Af 0 with
    | false =>
     match P.cmp .eql Af 1 with
     | false =>
      match P.cmp .eql Af 2 with
      | false =>
       match P.cmp .eql Af 3 with
       | false =>
        match P.cmp .eql Af 4 with
        | false =>
         match P.cmp .eql Af 5 with
         | false =>
          some false
         | true =>
          match c_zde Ai with
          | none => none
          | some Eu =>
           match Eu with
           | false =>
            some false
           | true =>
            match c_zb0 Ai v1 with
            | none => none
            | some Hy =>
             match Hy with
             | false =>
              some true
             | true =>
              some false
        | true =>
         match c_zb2 Ah v1 with
         | none => none
         | some C0 =>
          match C0 with
          | false =>
           some true
          | true =>
           some false
       | true =>
        match c_zcp Aj with
        | none => none
        | some Eh =>
         some Eh
      | true =>
       match P.cmp .geq Ak (-9007199254740991) with
       | false =>
        some false
       | true =>
        some (P.cmp .leq Ak 9007199254740991)
     | true =>
      match P.cmp .eql Ak 0 with
      | false =>
       some (P.cmp .eql Ak 1)
      | true =>
       some true
    | true =>
     some true
 | true =>
  some false
section
variable (c_zdi : Y_zdi) (c_zcp : Y_zcp) (c_zb2 : Y_zb2) (c_zde : Y_zde) (c_zb0 : Y_zb0) (h_zdi : (C_zdi As Am @Ab Ag Ac c_zdi)) (h_zcp : (C_zcp As Am c_zcp)) (h_zb2 : (C_zb2 As Am @Ab Ag c_zb2)) (h_zde : (C_zde As Am @Ab Ac c_zde)) (h_zb0 : (C_zb0 As Am @Ab Ac c_zb0)) (m : Nat) (n0 : Nat) (k0 : Kl) (hl0 : n0 < m)
include c_zdi c_zcp c_zb2 c_zde c_zb0 h_zdi h_zcp h_zb2 h_zde h_zb0 m n0 k0 hl0
theorem o_zc5_0 : H_zc5_0 Ap @Ab Ag Ac m n0 k0 (b_zc5_0 PP c_zdi c_zcp c_zb2 c_zde c_zb0 ) := by
 rintro ⟨Af, Ak, Aj, Ah, Ai, v1⟩ out hp stk ⟨hg0, _⟩
 have hn := nlt hl0
 subst hPP
 simp only [b_zc5_0] at hp
 simp only [A_zc5_0]
 rw [h.at_, hT]
 cbv
 cases c1 : xcmp .lss v1 1 with
 | false =>
  simp only [c1] at hp ⊢
  cbv
  cases c3 : c_zdi ⟨Af, Ak, Aj, Ah, Ai⟩ with
  | none => simp only [c3] at hp; cases hp
  | some Eg =>
   simp only [c3] at hp
   have qc := fun s => (h_zdi c3 s).1
   simp only [qc]
   cbv
   cases Eg with
   | false =>
    simp only at hp
    cbv
    cases hp
    try simp only [if_false, if_true, hn]
    all_goals first | rfl | cbv
   | true =>
    simp only at hp
    cbv
    try simp only [if_false, if_true, hn]
    try cbv
    try simp only [if_false, if_true, hn]
    try cbv
    rw [h.at_, hT]
    cbv
    cases c5 : xcmp .eql Af 0 with
    | false =>
     simp only [c5] at hp ⊢
     cbv
     cases c6 : xcmp .eql Af 1 with
     | false =>
      simp only [c6] at hp ⊢
      cbv
      cases c8 : xcmp .eql Af 2 with
      | false =>
       simp only [c8] at hp ⊢
       cbv
       cases c10 : xcmp .eql Af 3 with
       | false =>
        simp only [c10] at hp ⊢
        cbv
        cases c13 : xcmp .eql Af 4 with
        | false =>
         simp only [c13] at hp ⊢
         cbv
         cases c17 : xcmp .eql Af 5 with
         | false =>
          simp only [c17] at hp ⊢
          cbv
          try simp only [if_false, if_true, hn]
          try cbv
          try simp only [if_false, if_true, hn]
          try cbv
          rw [h.at_, hT]
          cbv
          cases hp
          try simp only [if_false, if_true, hn]
          all_goals first | rfl | cbv
         | true =>
          simp only [c17] at hp ⊢
          cbv
          cases c19 : c_zde Ai with
          | none => simp only [c19] at hp; cases hp
          | some Eu =>
           simp only [c19] at hp
           have qc := fun s => (h_zde c19 s).1
           simp only [qc]
           cbv
           cases Eu with
           | false =>
            simp only at hp
            cbv
            cases hp
            try simp only [if_false, if_true, hn]
            all_goals first | rfl | cbv
           | true =>
            simp only at hp
            cbv
            cases c22 : c_zb0 Ai v1 with
            | none => simp only [c22] at hp; cases hp
            | some Hy =>
             simp only [c22] at hp
             have qc := (h_zb0 c22 (⟨m, []⟩ :: stk) n0 k0 ((h.gb hl0 _ _).trans (hg0)) (Nat.le_of_lt hl0)).1
             simp only [qc]
             cbv
             cases Hy with
             | false =>
              simp only at hp
              cbv
              cases hp
              try simp only [if_false, if_true, hn]
              all_goals first | rfl | cbv
             | true =>
              simp only at hp
              cbv
              cases hp
              try simp only [if_false, if_true, hn]
              all_goals first | rfl | cbv
        | true =>
         simp only [c13] at hp ⊢
         cbv
         cases c15 : c_zb2 Ah v1 with
         | none => simp only [c15] at hp; cases hp
         | some C0 =>
          simp only [c15] at hp
          have qc := (h_zb2 c15 (⟨m, []⟩ :: stk) n0 k0 ((h.gb hl0 _ _).trans (hg0)) (Nat.le_of_lt hl0)).1
          simp only [qc]
          cbv
          cases C0 with
          | false =>
           simp only at hp
           cbv
           cases hp
           try simp only [if_false, if_true, hn]
           all_goals first | rfl | cbv
          | true =>
           simp only at hp
           cbv
           cases hp
           try simp only [if_false, if_true, hn]
           all_goals first | rfl | cbv
       | true =>
        simp only [c10] at hp ⊢
        cbv
        cases c12 : c_zcp Aj with
        | none => simp only [c12] at hp; cases hp
        | some Eh =>
         simp only [c12] at hp
         have qc := fun s => (h_zcp c12 s).1
         simp only [qc]
         cbv
         cases hp
         try simp only [if_false, if_true, hn]
         all_goals first | rfl | cbv
      | true =>
       simp only [c8] at hp ⊢
       cbv
       cases c9 : xcmp .geq Ak (-9007199254740991) with
       | false =>
        simp only [c9] at hp ⊢
        cbv
        cases hp
        try simp only [if_false, if_true, hn]
        all_goals first | rfl | cbv
       | true =>
        simp only [c9] at hp ⊢
        cbv
        cases hp
        try simp only [if_false, if_true, hn]
        all_goals first | rfl | cbv
     | true =>
      simp only [c6] at hp ⊢
      cbv
      cases c7 : xcmp .eql Ak 0 with
      | false =>
       simp only [c7] at hp ⊢
       cbv
       cases hp
       try simp only [if_false, if_true, hn]
       all_goals first | rfl | cbv
      | true =>
       simp only [c7] at hp ⊢
       cbv
       cases hp
       try simp only [if_false, if_true, hn]
       all_goals first | rfl | cbv
    | true =>
     simp only [c5] at hp ⊢
     cbv
     cases hp
     try simp only [if_false, if_true, hn]
     all_goals first | rfl | cbv
 | true =>
  simp only [c1] at hp ⊢
  cbv
  cases hp
  try simp only [if_false, if_true, hn]
  all_goals first | rfl | cbv
end
def b_zb2_0 (P : Prims) (c_zcb : Y_zcb) : T_zb2_0 → Option R_zb2
 | (v0, Az) =>
 match c_zcb v0 Az with
 | none => none
 | some Bi =>
  some (P.cmp .geq Bi 0)
section
variable (c_zcb : Y_zcb) (h_zcb : (C_zcb As Am @Ab Ag c_zcb)) (m : Nat) (n0 : Nat) (k0 : Kl) (hl0 : n0 < m)
include c_zcb h_zcb m n0 k0 hl0
theorem o_zb2_0 : H_zb2_0 Ap @Ab Ag m n0 k0 (b_zb2_0 PP c_zcb ) := by
 rintro ⟨v0, Az⟩ out hp stk ⟨hg0, _⟩
 have hn := nlt hl0
 subst hPP
 simp only [b_zb2_0] at hp
 simp only [A_zb2_0]
 rw [h.at_, hT]
 cbv
 cases c2 : c_zcb v0 Az with
 | none => simp only [c2] at hp; cases hp
 | some Bi =>
  simp only [c2] at hp
  have qc := (h_zcb c2 (⟨m, []⟩ :: stk) n0 k0 ((h.gb hl0 _ _).trans (hg0)) (Nat.le_of_lt hl0)).1
  simp only [qc]
  cbv
  cases hp
  try simp only [if_false, if_true, hn]
  all_goals first | rfl | cbv
end
def b_zcb_0 (P : Prims) (c_zc2 : Y_zc2) (l_1 : T_zcb_1 → Option R_zcb) : T_zcb_0 → Option R_zcb
 | (v0, Az) =>
 l_1 (v0, Az, P.len v0, 0)
section
variable (c_zc2 : Y_zc2) (h_zc2 : (C_zc2 As Am @Ab Ag Ac c_zc2)) (m : Nat) (n0 : Nat) (k0 : Kl) (hl0 : n0 < m)
include c_zc2 h_zc2 m n0 k0 hl0
theorem o_zcb_0 {l_1 : T_zcb_1 → Option R_zcb} (h_l_1 : H_zcb_1 Ap @Ab Ag m n0 k0 l_1) : H_zcb_0 Ap @Ab Ag m n0 k0 (b_zcb_0 PP c_zc2 l_1) := by
 rintro ⟨v0, Az⟩ out hp stk ⟨hg0, _⟩
 have hn := nlt hl0
 subst hPP
 simp only [b_zcb_0] at hp
 simp only [A_zcb_0]
 rw [h.at_, hT]
 cbv
 try simp only [h.len]
 try simp only [if_false, if_true, hn]
 first | exact h_l_1 hp stk ⟨hg0, trivial⟩ | (have q := h_l_1 hp stk ⟨hg0, trivial⟩; simp only [A_zcb_1, h.lits, hA] at q; first | exact q | (cbv; exact q))
def b_zcb_1 (P : Prims) (c_zc2 : Y_zc2) : T_zcb_1 → Option (T_zcb_1 ⊕ R_zcb)
 | (v0, Az, v7, v8) =>
 match P.cmp .lss v8 v7 with
 | false =>
  some (.inr (-1))
 | true =>
  match P.idx v0 v8 with
  | none => none
  | some ⟨Bq, D1, D2, D3, D4⟩ =>
   match c_zc2 ⟨Bq, D1, D2, D3, D4⟩ Az with
   | none => none
   | some B2 =>
    match B2 with
    | false =>
     some (.inl (v0, Az, v7, P.ar .add .i64 v8 1))
    | true =>
     some (.inr v8)
theorem o_zcb_1 : HdS (G_zcb n0 k0 ) (b_zcb_1 PP c_zc2 ) (A_zcb_1 Ap @Ab Ag m n0 k0 ) (el (A_zcb_1 Ap @Ab Ag m n0 k0 ) (O_zcb m n0 k0 )) := by
 rintro ⟨v0, Az, v7, v8⟩ out hp stk ⟨hg0, _⟩
 have hn := nlt hl0
 subst hPP
 simp only [b_zcb_1] at hp
 simp only [A_zcb_1]
 rw [h.at_, hT]
 cbv
 cases c1 : xcmp .lss v8 v7 with
 | false =>
  simp only [c1] at hp ⊢
  cbv
  try simp only [if_false, if_true, hn]
  try cbv
  try simp only [if_false, if_true, hn]
  try cbv
  rw [h.at_, hT]
  cbv
  cases hp
  try simp only [if_false, if_true, hn]
  all_goals first | rfl | cbv
 | true =>
  simp only [c1] at hp ⊢
  cbv
  try simp only [if_false, if_true, hn]
  try cbv
  try simp only [if_false, if_true, hn]
  try cbv
  rw [h.at_, hT]
  cbv
  cases c3 : pidx v0 v8 with
  | none => simp only [c3] at hp; cases hp
  | some y7 =>
   obtain ⟨Bq, D1, D2, D3, D4⟩ := y7
   simp only [c3] at hp
   obtain ⟨q1, q2⟩ := h.idx Ag c3
   try simp only [hA.1] at q2
   simp only [q1, Bool.false_eq_true, if_false]
   cbv
   try simp only [q2]
   cbv
   cases c5 : c_zc2 ⟨Bq, D1, D2, D3, D4⟩ Az with
   | none => simp only [c5] at hp; cases hp
   | some B2 =>
    simp only [c5] at hp
    have qc := (h_zc2 c5 (⟨m, []⟩ :: stk) n0 k0 ((h.gb hl0 _ _).trans (hg0)) (Nat.le_of_lt hl0)).1
    simp only [qc]
    cbv
    cases B2 with
    | false =>
     simp only at hp
     cbv
     try simp only [if_false, if_true, hn]
     try cbv
     try simp only [if_false, if_true, hn]
     try cbv
     rw [h.at_, hT]
     cbv
     cases hp
     try simp only [if_false, if_true, hn]
     all_goals first | rfl | cbv
    | true =>
     simp only at hp
     cbv
     cases hp
     try simp only [if_false, if_true, hn]
     all_goals first | rfl | cbv
end
def b_zb0_0 (P : Prims) (c_zb9 : Y_zb9) : T_zb0_0 → Option R_zb0
 | (v0, Az) =>
 match c_zb9 v0 Az with
 | none => none
 | some Bi =>
  some (P.cmp .geq Bi 0)
section
variable (c_zb9 : Y_zb9) (h_zb9 : (C_zb9 As Am @Ab Ac c_zb9)) (m : Nat) (n0 : Nat) (k0 : Kl) (hl0 : n0 < m)
include c_zb9 h_zb9 m n0 k0 hl0
theorem o_zb0_0 : H_zb0_0 Ap @Ab Ac m n0 k0 (b_zb0_0 PP c_zb9 ) := by
 rintro ⟨v0, Az⟩ out hp stk ⟨hg0, _⟩
 have hn := nlt hl0
 subst hPP
 simp only [b_zb0_0] at hp
 simp only [A_zb0_0]
 rw [h.at_, hT]
 cbv
 cases c2 : c_zb9 v0 Az with
 | none => simp only [c2] at hp; cases hp
 | some Bi =>
  simp only [c2] at hp
  have qc := (h_zb9 c2 (⟨m, []⟩ :: stk) n0 k0 ((h.gb hl0 _ _).trans (hg0)) (Nat.le_of_lt hl0)).1
  simp only [qc]
  cbv
  cases hp
  try simp only [if_false, if_true, hn]
  all_goals first | rfl | cbv
end
def b_zb9_0 (P : Prims) (c_zc4 : Y_zc4) (l_1 : T_zb9_1 → Option R_zb9) : T_zb9_0 → Option R_zb9
 | (v0, Az) =>
 l_1 (v0, Az, P.len v0, 0)
section
variable (c_zc4 : Y_zc4) (h_zc4 : (C_zc4 As Am @Ab Ag Ac c_zc4)) (m : Nat) (n0 : Nat) (k0 : Kl) (hl0 : n0 < m)
include c_zc4 h_zc4 m n0 k0 hl0
theorem o_zb9_0 {l_1 : T_zb9_1 → Option R_zb9} (h_l_1 : H_zb9_1 Ap @Ab Ac m n0 k0 l_1) : H_zb9_0 Ap @Ab Ac m n0 k0 (b_zb9_0 PP c_zc4 l_1) := by
 rintro ⟨v0, Az⟩ out hp stk ⟨hg0, _⟩
 have hn := nlt hl0
 subst hPP
 simp only [b_zb9_0] at hp
 simp only [A_zb9_0]
 rw [h.at_, hT]
 cbv
 try simp only [h.len]
 try simp only [if_false, if_true, hn]
 first | exact h_l_1 hp stk ⟨hg0, trivial⟩ | (have q := h_l_1 hp stk ⟨hg0, trivial⟩; simp only [A_zb9_1, h.lits, hA] at q; first | exact q | (cbv; exact q))
def b_zb9_1 (P : Prims) (c_zc4 : Y_zc4) : T_zb9_1 → Option (T_zb9_1 ⊕ R_zb9)
 | (v0, Az, v7, v8) =>
 match P.cmp .lss v8 v7 with
 | false =>
  some (.inr (-1))
 | true =>
  match P.idx v0 v8 with
  | none => none
  | some ⟨Bq, ⟨C1, C2, C3, C4, C5⟩⟩ =>
   match c_zc4 ⟨Bq, ⟨C1, C2, C3, C4, C5⟩⟩ Az with
   | none => none
   | some B2 =>
    match B2 with
    | false =>
     some (.inl (v0, Az, v7, P.ar .add .i64 v8 1))
    | true =>
     some (.inr v8)
theorem o_zb9_1 : HdS (G_zb9 n0 k0 ) (b_zb9_1 PP c_zc4 ) (A_zb9_1 Ap @Ab Ac m n0 k0 ) (el (A_zb9_1 Ap @Ab Ac m n0 k0 ) (O_zb9 m n0 k0 )) := by
 rintro ⟨v0, Az, v7, v8⟩ out hp stk ⟨hg0, _⟩
 have hn := nlt hl0
 subst hPP
 simp only [b_zb9_1] at hp
 simp only [A_zb9_1]
 rw [h.at_, hT]
 cbv
 cases c1 : xcmp .lss v8 v7 with
 | false =>
  simp only [c1] at hp ⊢
  cbv
  try simp only [if_false, if_true, hn]
  try cbv
  try simp only [if_false, if_true, hn]
  try cbv
  rw [h.at_, hT]
  cbv
  cases hp
  try simp only [if_false, if_true, hn]
  all_goals first | rfl | cbv
 | true =>
  simp only [c1] at hp ⊢
  cbv
  try simp only [if_false, if_true, hn]
  try cbv
  try simp only [if_false, if_true, hn]
  try cbv
  rw [h.at_, hT]
  cbv
  cases c3 : pidx v0 v8 with
  | none => simp only [c3] at hp; cases hp
  | some y7 =>
   obtain ⟨Bq, ⟨C1, C2, C3, C4, C5⟩⟩ := y7
   simp only [c3] at hp
   obtain ⟨q1, q2⟩ := h.idx Ac c3
   try simp only [hA.2.1] at q2
   simp only [q1, Bool.false_eq_true, if_false]
   cbv
   try simp only [q2]
   cbv
   cases c5 : c_zc4 ⟨Bq, ⟨C1, C2, C3, C4, C5⟩⟩ Az with
   | none => simp only [c5] at hp; cases hp
   | some B2 =>
    simp only [c5] at hp
    have qc := (h_zc4 c5 (⟨m, []⟩ :: stk) n0 k0 ((h.gb hl0 _ _).trans (hg0)) (Nat.le_of_lt hl0)).1
    simp only [qc]
    cbv
    cases B2 with
    | false =>
     simp only at hp
     cbv
     try simp only [if_false, if_true, hn]
     try cbv
     try simp only [if_false, if_true, hn]
     try cbv
     rw [h.at_, hT]
     cbv
     cases hp
     try simp only [if_false, if_true, hn]
     all_goals first | rfl | cbv
    | true =>
     simp only at hp
     cbv
     cases hp
     try simp only [if_false, if_true, hn]
     all_goals first | rfl | cbv
end
def b_zc4_0 (P : Prims) (c_zc5 : Y_zc5) : T_zc4_0 → Option R_zc4
 | (Af, A6, A7, A8, A9, Ba, A1) =>
 match c_zc5 ⟨A6, A7, A8, A9, Ba⟩ (P.ar .sub .i64 A1 1) with
 | none => none
 | some Bi =>
  match Bi with
  | false =>
   some true
  | true =>
   some false
section
variable (c_zc5 : Y_zc5) (h_zc5 : (C_zc5 As Am @Ab Ag Ac c_zc5)) (m : Nat) (n0 : Nat) (k0 : Kl) (hl0 : n0 < m)
include c_zc5 h_zc5 m n0 k0 hl0
theorem o_zc4_0 : H_zc4_0 Ap @Ab Ag Ac m n0 k0 (b_zc4_0 PP c_zc5 ) := by
 rintro ⟨Af, A6, A7, A8, A9, Ba, A1⟩ out hp stk ⟨hg0, _⟩
 have hn := nlt hl0
 have lw := And.intro hn (hg0)
 subst hPP
 simp only [b_zc4_0] at hp
 simp only [A_zc4_0]
 rw [h.at_, hT]
 cbv
 simp only [if_false, if_true, lw]
 cbv
 cases c2 : c_zc5 ⟨A6, A7, A8, A9, Ba⟩ (xar .sub .i64 A1 1) with
 | none => simp only [c2] at hp; cases hp
 | some Bi =>
  simp only [c2] at hp
  have qc := (h_zc5 c2 (⟨m, []⟩ :: stk) n0 k0 ((h.gb hl0 _ _).trans (hg0)) (Nat.le_of_lt hl0)).1
  simp only [qc]
  cbv
  cases Bi with
  | false =>
   simp only at hp
   cbv
   cases hp
   try simp only [if_false, if_true, hn]
   all_goals first | rfl | cbv
  | true =>
   simp only at hp
   cbv
   cases hp
   try simp only [if_false, if_true, hn]
   all_goals first | rfl | cbv
end
def b_zcz_0 (P : Prims) (c_zc5 : Y_zc5) : T_zcz_0 → Option R_zcz
 | (Af, Ak, Aj, Ah, Ai) =>
 match c_zc5 ⟨Af, Ak, Aj, Ah, Ai⟩ 12 with
 | none => none
 | some Bi =>
  some Bi
section
variable (c_zc5 : Y_zc5) (h_zc5 : (C_zc5 As Am @Ab Ag Ac c_zc5)) (m : Nat)
include c_zc5 h_zc5 m
theorem o_zcz_0 : H_zcz_0 Ap @Ab Ag Ac m (b_zcz_0 PP c_zc5 ) := by
 rintro ⟨Af, Ak, Aj, Ah, Ai⟩ out hp stk
 subst hPP
 simp only [b_zcz_0] at hp
 simp only [A_zcz_0]
 rw [h.at_, hT]
 cbv
 cases c2 : c_zc5 ⟨Af, Ak, Aj, Ah, Ai⟩ 12 with
 | none => simp only [c2] at hp; cases hp
 | some Bi =>
  simp only [c2] at hp
  have qc := (h_zc5 c2 (⟨m, [([3], (.cells [(.clos (.func 46) [] [(.ref ⟨m, [3]⟩ 0)])]))]⟩ :: stk) m [3] (h.gt _ _ _ _) (Nat.le_refl _)).1
  simp only [qc]
  cbv
  cases hp
  all_goals first | rfl | cbv
end
def b_zdc_0 (P : Prims) (c_zdc : Y_zdc) (l_1 : T_zdc_1 → Option R_zdc) : T_zdc_0 → Option R_zdc
 | (Af, Ak, Aj, Ah, Ai) =>
 l_1 (Af, Ak, Aj, Ah, Ai, 1, Ah, P.len Ah, 0)
section
variable (c_zdc : Y_zdc) (h_zdc : (C_zdc As Am @Ab Ag Ac c_zdc)) (m : Nat)
include c_zdc h_zdc m
theorem o_zdc_0 {l_1 : T_zdc_1 → Option R_zdc} (h_l_1 : H_zdc_1 Ap @Ab Ag Ac m l_1) : H_zdc_0 Ap @Ab Ag Ac m (b_zdc_0 PP c_zdc l_1) := by
 rintro ⟨Af, Ak, Aj, Ah, Ai⟩ out hp stk
 subst hPP
 simp only [b_zdc_0] at hp
 simp only [A_zdc_0]
 rw [h.at_, hT]
 cbv
 try simp only [h.len]
 first | exact h_l_1 hp stk | (have q := h_l_1 hp stk; simp only [A_zdc_1, h.lits, hA] at q; first | exact q | (cbv; exact q))
def b_zdc_1 (P : Prims) (c_zdc : Y_zdc) (l_5 : T_zdc_5 → Option R_zdc) : T_zdc_1 → Option (T_zdc_1 ⊕ R_zdc)
 | (A3, Be, Bf, Bg, Bd, v3, v9, v10, v11) =>
 match P.cmp .lss v11 v10 with
 | false =>
  match l_5 (v3, Bd, P.len Bd, 0) with | none => none | some o7 => some (.inr o7)
 | true =>
  match P.idx v9 v11 with
  | none => none
  | some ⟨Bq, D1, D2, D3, D4⟩ =>
   match c_zdc ⟨Bq, D1, D2, D3, D4⟩ with
   | none => none
   | some B2 =>
    some (.inl (A3, Be, Bf, Bg, Bd, P.ar .add .i64 v3 B2, v9, v10, P.ar .add .i64 v11 1))
theorem o_zdc_1 {l_5 : T_zdc_5 → Option R_zdc} (h_l_5 : H_zdc_5 Ap @Ab Ac m l_5) : Hd (b_zdc_1 PP c_zdc l_5) (A_zdc_1 Ap @Ab Ag Ac m ) (el (A_zdc_1 Ap @Ab Ag Ac m ) (O_zdc m )) := by
 rintro ⟨A3, Be, Bf, Bg, Bd, v3, v9, v10, v11⟩ out hp stk
 subst hPP
 simp only [b_zdc_1] at hp
 simp only [A_zdc_1]
 rw [h.at_, hT]
 cbv
 cases c1 : xcmp .lss v11 v10 with
 | false =>
  simp only [c1] at hp ⊢
  cbv
  rw [h.at_, hT]
  cbv
  try simp only [h.len]
  cases c : l_5 (v3, Bd, plen Bd, 0) with
  | none => simp only [c] at hp; cases hp
  | some o7 =>
   simp only [c] at hp
   cases hp
   first | exact h_l_5 c stk | (have q := h_l_5 c stk; simp only [A_zdc_5, h.lits, hA] at q; first | exact q | (cbv; exact q))
 | true =>
  simp only [c1] at hp ⊢
  cbv
  rw [h.at_, hT]
  cbv
  cases c3 : pidx v9 v11 with
  | none => simp only [c3] at hp; cases hp
  | some y6 =>
   obtain ⟨Bq, D1, D2, D3, D4⟩ := y6
   simp only [c3] at hp
   obtain ⟨q1, q2⟩ := h.idx Ag c3
   try simp only [hA.1] at q2
   simp only [q1, Bool.false_eq_true, if_false]
   cbv
   try simp only [q2]
   cbv
   cases c5 : c_zdc ⟨Bq, D1, D2, D3, D4⟩ with
   | none => simp only [c5] at hp; cases hp
   | some B2 =>
    simp only [c5] at hp
    have qc := fun s => (h_zdc c5 s).1
    simp only [qc]
    cbv
    rw [h.at_, hT]
    cbv
    cases hp
    all_goals first | rfl | cbv
def b_zdc_5 (P : Prims) (c_zdc : Y_zdc) : T_zdc_5 → Option (T_zdc_5 ⊕ R_zdc)
 | (v3, v21, v22, v23) =>
 match P.cmp .lss v23 v22 with
 | false =>
  some (.inr v3)
 | true =>
  match P.idx v21 v23 with
  | none => none
  | some ⟨Fb, ⟨D5, D6, D7, D8, D9⟩⟩ =>
   match c_zdc ⟨D5, D6, D7, D8, D9⟩ with
   | none => none
   | some Eh =>
    some (.inl (P.ar .add .i64 v3 Eh, v21, v22, P.ar .add .i64 v23 1))
theorem o_zdc_5 : Hd (b_zdc_5 PP c_zdc ) (A_zdc_5 Ap @Ab Ac m ) (el (A_zdc_5 Ap @Ab Ac m ) (O_zdc m )) := by
 rintro ⟨v3, v21, v22, v23⟩ out hp stk
 subst hPP
 simp only [b_zdc_5] at hp
 simp only [A_zdc_5]
 rw [h.at_, hT]
 cbv
 cases c8 : xcmp .lss v23 v22 with
 | false =>
  simp only [c8] at hp ⊢
  cbv
  rw [h.at_, hT]
  cbv
  cases hp
  all_goals first | rfl | cbv
 | true =>
  simp only [c8] at hp ⊢
  cbv
  rw [h.at_, hT]
  cbv
  cases c10 : pidx v21 v23 with
  | none => simp only [c10] at hp; cases hp
  | some y13 =>
   obtain ⟨Fb, ⟨D5, D6, D7, D8, D9⟩⟩ := y13
   simp only [c10] at hp
   obtain ⟨q1, q2⟩ := h.idx Ac c10
   try simp only [hA.2.1] at q2
   simp only [q1, Bool.false_eq_true, if_false]
   cbv
   try simp only [q2]
   cbv
   cases c12 : c_zdc ⟨D5, D6, D7, D8, D9⟩ with
   | none => simp only [c12] at hp; cases hp
   | some Eh =>
    simp only [c12] at hp
    have qc := fun s => (h_zdc c12 s).1
    simp only [qc]
    cbv
    rw [h.at_, hT]
    cbv
    cases hp
    all_goals first | rfl | cbv
end
def b_zcs_0 (P : Prims) (c_zcz : Y_zcz) (c_zdc : Y_zdc) : T_zcs_0 → Option R_zcs
 | (Af, Ak, Aj, Ah, Ai) =>
 match c_zcz ⟨Af, Ak, Aj, Ah, Ai⟩ with
 | none => none
 | some Bi =>
  match Bi with
  | false =>
   some 0
  | true =>
   match c_zdc ⟨Af, Ak, Aj, Ah, Ai⟩ with
   | none => none
   | some B2 =>
    some B2
section
variable (c_zcz : Y_zcz) (c_zdc : Y_zdc) (h_zcz : (C_zcz As Am @Ab Ag Ac c_zcz)) (h_zdc : (C_zdc As Am @Ab Ag Ac c_zdc)) (m : Nat)
include c_zcz c_zdc h_zcz h_zdc m
theorem o_zcs_0 : H_zcs_0 Ap @Ab Ag Ac m (b_zcs_0 PP c_zcz c_zdc ) := by
 rintro ⟨Af, Ak, Aj, Ah, Ai⟩ out hp stk
 subst hPP
 simp only [b_zcs_0] at hp
 simp only [A_zcs_0]
 rw [h.at_, hT]
 cbv
 cases c2 : c_zcz ⟨Af, Ak, Aj, Ah, Ai⟩ with
 | none => simp only [c2] at hp; cases hp
 | some Bi =>
  simp only [c2] at hp
  have qc := fun s => (h_zcz c2 s).1
  simp only [qc]
  cbv
  cases Bi with
  | false =>
   simp only at hp
   cbv
   cases hp
   all_goals first | rfl | cbv
  | true =>
   simp only at hp
   cbv
   rw [h.at_, hT]
   cbv
   cases c5 : c_zdc ⟨Af, Ak, Aj, Ah, Ai⟩ with
   | none => simp only [c5] at hp; cases hp
   | some B2 =>
    simp only [c5] at hp
    have qc := fun s => (h_zdc c5 s).1
    simp only [qc]
    cbv
    cases hp
    all_goals first | rfl | cbv
end
def b_zg_0 (P : Prims) (c_zcz : Y_zcz) (c_zcs : Y_zcs) : T_zg_0 → Option R_zg
 | () =>
 match c_zcz ⟨0, 0, [], [], []⟩ with
 | none => none
 | some Bi =>
  match Bi with
  | false =>
   some false
  | true =>
   match c_zcs ⟨2, 5, [], [], []⟩ with
   | none => none
   | some B2 =>
    some (P.cmp .eql B2 1)
section
variable (c_zcz : Y_zcz) (c_zcs : Y_zcs) (h_zcz : (C_zcz As Am @Ab Ag Ac c_zcz)) (h_zcs : (C_zcs As Am @Ab Ag Ac c_zcs)) (m : Nat)
include c_zcz c_zcs h_zcz h_zcs m
theorem o_zg_0 : H_zg_0 Ap m (b_zg_0 PP c_zcz c_zcs ) := by
 rintro ⟨⟩ out hp stk
 subst hPP
 simp only [b_zg_0] at hp
 simp only [A_zg_0]
 rw [h.at_, hT]
 cbv
 cases c2 : c_zcz ⟨0, 0, [], [], []⟩ with
 | none => simp only [c2] at hp; cases hp
 | some Bi =>
  simp only [c2] at hp
  have qc := fun s => (h_zcz c2 s).1
  try simp only [h.map_nil] at qc
  simp only [qc]
  cbv
  cases Bi with
  | false =>
   simp only at hp
   cbv
   cases hp
   all_goals first | rfl | cbv
  | true =>
   simp only at hp
   cbv
   cases c5 : c_zcs ⟨2, 5, [], [], []⟩ with
   | none => simp only [c5] at hp; cases hp
   | some B2 =>
    simp only [c5] at hp
    have qc := fun s => (h_zcs c5 s).1
    try simp only [h.map_nil] at qc
    simp only [qc]
    cbv
    cases hp
    all_goals first | rfl | cbv
end
def b_z1_0 (P : Prims) (c_z1 : Y_z1) (l_2 : T_z1_2 → Option R_z1) : T_z1_0 → Option R_z1
 | (Af, Ak, Aj, Ah, Ai, v1) =>
 match P.cmp .lss v1 1 with
 | false =>
  match P.cmp .gtr (P.slen Aj) 500 with
  | false =>
   l_2 (P.ar .sub .i64 v1 1, Af, Ak, Aj, Ah, Ai, 0)
  | true =>
   some (-1)
 | true =>
  some (-1)
section
variable (c_z1 : Y_z1) (h_z1 : (C_z1 As Am @Ab Ag Ac c_z1)) (m : Nat)
include c_z1 h_z1 m
theorem o_z1_0 {l_2 : T_z1_2 → Option R_z1} (h_l_2 : H_z1_2 Ap @Ab Ag Ac m l_2) : H_z1_0 Ap @Ab Ag Ac m (b_z1_0 PP c_z1 l_2) := by
 rintro ⟨Af, Ak, Aj, Ah, Ai, v1⟩ out hp stk
 subst hPP
 simp only [b_z1_0] at hp
 simp only [A_z1_0]
 rw [h.at_, hT]
 cbv
 cases c1 : xcmp .lss v1 1 with
 | false =>
  simp only [c1] at hp ⊢
  cbv
  try simp only [h.slen]
  cases c2 : xcmp .gtr (pslen Aj) 500 with
  | false =>
   simp only [c2] at hp ⊢
   cbv
   rw [h.at_, hT]
   cbv
   first | exact h_l_2 hp stk | (have q := h_l_2 hp stk; simp only [A_z1_2, h.lits, hA] at q; first | exact q | (cbv; exact q))
  | true =>
   simp only [c2] at hp ⊢
   cbv
   cases hp
   all_goals first | rfl | cbv
 | true =>
  simp only [c1] at hp ⊢
  cbv
  cases hp
  all_goals first | rfl | cbv
def b_z1_2 (P : Prims) (c_z1 : Y_z1) (l_5 : T_z1_5 → Option R_z1) : T_z1_2 → Option (T_z1_2 ⊕ R_z1)
 | (v1, A1, A4, Bb, A5, A2, v5) =>
 match P.cmp .lss v5 (P.len A5) with
 | false =>
  match l_5 (v1, A1, A4, Bb, A5, A2) with | none => none | some o11 => some (.inr o11)
 | true =>
  match P.cmp .geq v1 0 with
  | false =>
   match l_5 (v1, A1, A4, Bb, A5, A2) with | none => none | some o10 => some (.inr o10)
  | true =>
   match P.idx A5 v5 with
   | none => none
   | some ⟨Ea, Ev, Ew, Ex, Ey⟩ =>
    match c_z1 ⟨Ea, Ev, Ew, Ex, Ey⟩ v1 with
    | none => none
    | some Cd =>
     some (.inl (Cd, A1, A4, Bb, A5, A2, P.ar .add .i64 v5 1))
theorem o_z1_2 {l_5 : T_z1_5 → Option R_z1} (h_l_5 : H_z1_5 Ap @Ab Ag Ac m l_5) : Hd (b_z1_2 PP c_z1 l_5) (A_z1_2 Ap @Ab Ag Ac m ) (el (A_z1_2 Ap @Ab Ag Ac m ) (O_z1 m )) := by
 rintro ⟨v1, A1, A4, Bb, A5, A2, v5⟩ out hp stk
 subst hPP
 simp only [b_z1_2] at hp
 simp only [A_z1_2]
 rw [h.at_, hT]
 cbv
 try simp only [h.len]
 cases c3 : xcmp .lss v5 (plen A5) with
 | false =>
  simp only [c3] at hp ⊢
  cbv
  cases c : l_5 (v1, A1, A4, Bb, A5, A2) with
  | none => simp only [c] at hp; cases hp
  | some o11 =>
   simp only [c] at hp
   cases hp
   first | exact h_l_5 c stk | (have q := h_l_5 c stk; simp only [A_z1_5, h.lits, hA] at q; first | exact q | (cbv; exact q))
 | true =>
  simp only [c3] at hp ⊢
  cbv
  cases c4 : xcmp .geq v1 0 with
  | false =>
   simp only [c4] at hp ⊢
   cbv
   cases c : l_5 (v1, A1, A4, Bb, A5, A2) with
   | none => simp only [c] at hp; cases hp
   | some o10 =>
    simp only [c] at hp
    cases hp
    first | exact h_l_5 c stk | (have q := h_l_5 c stk; simp only [A_z1_5, h.lits, hA] at q; first | exact q | (cbv; exact q))
  | true =>
   simp only [c4] at hp ⊢
   cbv
   rw [h.at_, hT]
   cbv
   cases c6 : pidx A5 v5 with
   | none => simp only [c6] at hp; cases hp
   | some y9 =>
    obtain ⟨Ea, Ev, Ew, Ex, Ey⟩ := y9
    simp only [c6] at hp
    obtain ⟨q1, q2⟩ := h.idx Ag c6
    try simp only [hA.1] at q2
    simp only [q1, Bool.false_eq_true, if_false]
    cbv
    try simp only [q2]
    cbv
    cases c8 : c_z1 ⟨Ea, Ev, Ew, Ex, Ey⟩ v1 with
    | none => simp only [c8] at hp; cases hp
    | some Cd =>
     simp only [c8] at hp
     have qc := fun s => (h_z1 c8 s).1
     simp only [qc]
     cbv
     rw [h.at_, hT]
     cbv
     cases hp
     all_goals first | rfl | cbv
def b_z1_5 (P : Prims) (c_z1 : Y_z1) (l_6 : T_z1_6 → Option R_z1) : T_z1_5 → Option R_z1
 | (v1, A1, A4, Bb, A5, A2) =>
 l_6 (v1, A1, A4, Bb, A5, A2, 0)
theorem o_z1_5 {l_6 : T_z1_6 → Option R_z1} (h_l_6 : H_z1_6 Ap @Ab Ag Ac m l_6) : H_z1_5 Ap @Ab Ag Ac m (b_z1_5 PP c_z1 l_6) := by
 rintro ⟨v1, A1, A4, Bb, A5, A2⟩ out hp stk
 subst hPP
 simp only [b_z1_5] at hp
 simp only [A_z1_5]
 rw [h.at_, hT]
 cbv
 first | exact h_l_6 hp stk | (have q := h_l_6 hp stk; simp only [A_z1_6, h.lits, hA] at q; first | exact q | (cbv; exact q))
def b_z1_6 (P : Prims) (c_z1 : Y_z1) (l_10 : T_z1_10 → Option R_z1) : T_z1_6 → Option (T_z1_6 ⊕ R_z1)
 | (v1, A1, A4, Bb, A5, A2, v6) =>
 match P.cmp .lss v6 (P.len A2) with
 | false =>
  match l_10 v1 with | none => none | some o21 => some (.inr o21)
 | true =>
  match P.cmp .geq v1 0 with
  | false =>
   match l_10 v1 with | none => none | some o20 => some (.inr o20)
  | true =>
   match P.idx A2 v6 with
   | none => none
   | some ⟨Ei, ⟨C8, C9, Da, Db, Dc⟩⟩ =>
    match P.cmp .gtr (P.slen Ei) 500 with
    | false =>
     match c_z1 ⟨C8, C9, Da, Db, Dc⟩ v1 with
     | none => none
     | some Jm =>
      some (.inl (Jm, A1, A4, Bb, A5, A2, P.ar .add .i64 v6 1))
    | true =>
     some (.inr (-1))
theorem o_z1_6 {l_10 : T_z1_10 → Option R_z1} (h_l_10 : H_z1_10 Ap m l_10) : Hd (b_z1_6 PP c_z1 l_10) (A_z1_6 Ap @Ab Ag Ac m ) (el (A_z1_6 Ap @Ab Ag Ac m ) (O_z1 m )) := by
 rintro ⟨v1, A1, A4, Bb, A5, A2, v6⟩ out hp stk
 subst hPP
 simp only [b_z1_6] at hp
 simp only [A_z1_6]
 rw [h.at_, hT]
 cbv
 try simp only [h.len]
 cases c12 : xcmp .lss v6 (plen A2) with
 | false =>
  simp only [c12] at hp ⊢
  cbv
  cases c : l_10 v1 with
  | none => simp only [c] at hp; cases hp
  | some o21 =>
   simp only [c] at hp
   cases hp
   first | exact h_l_10 c stk | (have q := h_l_10 c stk; simp only [A_z1_10, h.lits, hA] at q; first | exact q | (cbv; exact q))
 | true =>
  simp only [c12] at hp ⊢
  cbv
  cases c13 : xcmp .geq v1 0 with
  | false =>
   simp only [c13] at hp ⊢
   cbv
   cases c : l_10 v1 with
   | none => simp only [c] at hp; cases hp
   | some o20 =>
    simp only [c] at hp
    cases hp
    first | exact h_l_10 c stk | (have q := h_l_10 c stk; simp only [A_z1_10, h.lits, hA] at q; first | exact q | (cbv; exact q))
  | true =>
   simp only [c13] at hp ⊢
   cbv
   rw [h.at_, hT]
   cbv
   cases c15 : pidx A2 v6 with
   | none => simp only [c15] at hp; cases hp
   | some y19 =>
    obtain ⟨Ei, ⟨C8, C9, Da, Db, Dc⟩⟩ := y19
    simp only [c15] at hp
    obtain ⟨q1, q2⟩ := h.idx Ac c15
    try simp only [hA.2.1] at q2
    simp only [q1, Bool.false_eq_true, if_false]
    cbv
    try simp only [q2]
    cbv
    try simp only [h.slen]
    cases c16 : xcmp .gtr (pslen Ei) 500 with
    | false =>
     simp only [c16] at hp ⊢
     cbv
     rw [h.at_, hT]
     cbv
     obtain ⟨q1, q2⟩ := h.idx Ac c15
     try simp only [hA.2.1] at q2
     simp only [q1, Bool.false_eq_true, if_false]
     cbv
     try simp only [q2]
     cbv
     cases c18 : c_z1 ⟨C8, C9, Da, Db, Dc⟩ v1 with
     | none => simp only [c18] at hp; cases hp
     | some Jm =>
      simp only [c18] at hp
      have qc := fun s => (h_z1 c18 s).1
      simp only [qc]
      cbv
      rw [h.at_, hT]
      cbv
      cases hp
      all_goals first | rfl | cbv
    | true =>
     simp only [c16] at hp ⊢
     cbv
     cases hp
     all_goals first | rfl | cbv
def b_z1_10 (P : Prims) (c_z1 : Y_z1) : T_z1_10 → Option R_z1
 | v1 =>
 some v1
theorem o_z1_10 : H_z1_10 Ap m (b_z1_10 PP c_z1 ) := by
 rintro v1 out hp stk
 subst hPP
 simp only [b_z1_10] at hp
 simp only [A_z1_10]
 rw [h.at_, hT]
 cbv
 cases hp
 all_goals first | rfl | cbv
end
def b_zv_0 (P : Prims) (c_z1 : Y_z1) : T_zv_0 → Option R_zv
 | (Af, Ak, Aj, Ah, Ai, v1) =>
 match c_z1 ⟨Af, Ak, Aj, Ah, Ai⟩ v1 with
 | none => none
 | some Bi =>
  some (P.cmp .geq Bi 0)
section
variable (c_z1 : Y_z1) (h_z1 : (C_z1 As Am @Ab Ag Ac c_z1)) (m : Nat)
include c_z1 h_z1 m
theorem o_zv_0 : H_zv_0 Ap @Ab Ag Ac m (b_zv_0 PP c_z1 ) := by
 rintro ⟨Af, Ak, Aj, Ah, Ai, v1⟩ out hp stk
 subst hPP
 simp only [b_zv_0] at hp
 simp only [A_zv_0]
 rw [h.at_, hT]
 cbv
 cases c2 : c_z1 ⟨Af, Ak, Aj, Ah, Ai⟩ v1 with
 | none => simp only [c2] at hp; cases hp
 | some Bi =>
  simp only [c2] at hp
  have qc := fun s => (h_z1 c2 s).1
  simp only [qc]
  cbv
  cases hp
  all_goals first | rfl | cbv
end
def b_zh_0 (P : Prims) (l_1 : T_zh_1 → Option R_zh) : T_zh_0 → Option R_zh
 | v0 =>
 l_1 (v0, 0)
section
variable (m : Nat)
include m
theorem o_zh_0 {l_1 : T_zh_1 → Option R_zh} (h_l_1 : H_zh_1 Ap @Ab Ax m l_1) : H_zh_0 Ap @Ab Ax m (b_zh_0 PP l_1) := by
 rintro v0 out hp stk
 subst hPP
 simp only [b_zh_0] at hp
 simp only [A_zh_0]
 rw [h.at_, hT]
 cbv
 first | exact h_l_1 hp stk | (have q := h_l_1 hp stk; simp only [A_zh_1, h.lits, hA] at q; first | exact q | (cbv; exact q))
def b_zh_1 (P : Prims) (l_4 : T_zh_4 → Option R_zh) : T_zh_1 → Option (T_zh_1 ⊕ R_zh)
 | (v0, v3) =>
 match P.cmp .lss v3 (P.len v0) with
 | false =>
  match l_4 v0 with | none => none | some o7 => some (.inr o7)
 | true =>
  match P.cmp .lss v3 50 with
  | false =>
   match l_4 v0 with | none => none | some o6 => some (.inr o6)
  | true =>
   match P.idx v0 v3 with
   | none => none
   | some a3 =>
    match P.cmp .gtr (P.slen a3) 500 with
    | false =>
     some (.inl (v0, P.ar .add .i64 v3 1))
    | true =>
     some (.inr false)
theorem o_zh_1 {l_4 : T_zh_4 → Option R_zh} (h_l_4 : H_zh_4 Ap @Ab Ax m l_4) : Hd (b_zh_1 PP l_4) (A_zh_1 Ap @Ab Ax m ) (el (A_zh_1 Ap @Ab Ax m ) (O_zh m )) := by
 rintro ⟨v0, v3⟩ out hp stk
 subst hPP
 simp only [b_zh_1] at hp
 simp only [A_zh_1]
 rw [h.at_, hT]
 cbv
 try simp only [h.len]
 cases c1 : xcmp .lss v3 (plen v0) with
 | false =>
  simp only [c1] at hp ⊢
  cbv
  cases c : l_4 v0 with
  | none => simp only [c] at hp; cases hp
  | some o7 =>
   simp only [c] at hp
   cases hp
   first | exact h_l_4 c stk | (have q := h_l_4 c stk; simp only [A_zh_4, h.lits, hA] at q; first | exact q | (cbv; exact q))
 | true =>
  simp only [c1] at hp ⊢
  cbv
  cases c2 : xcmp .lss v3 50 with
  | false =>
   simp only [c2] at hp ⊢
   cbv
   cases c : l_4 v0 with
   | none => simp only [c] at hp; cases hp
   | some o6 =>
    simp only [c] at hp
    cases hp
    first | exact h_l_4 c stk | (have q := h_l_4 c stk; simp only [A_zh_4, h.lits, hA] at q; first | exact q | (cbv; exact q))
  | true =>
   simp only [c2] at hp ⊢
   cbv
   rw [h.at_, hT]
   cbv
   cases c4 : pidx v0 v3 with
   | none => simp only [c4] at hp; cases hp
   | some a3 =>
    simp only [c4] at hp
    obtain ⟨q1, q2⟩ := h.idx Ax c4
    try simp only [hA.2.2.2] at q2
    simp only [q1, Bool.false_eq_true, if_false]
    cbv
    try simp only [q2]
    cbv
    try simp only [h.slen]
    cases c5 : xcmp .gtr (pslen a3) 500 with
    | false =>
     simp only [c5] at hp ⊢
     cbv
     rw [h.at_, hT]
     cbv
     cases hp
     all_goals first | rfl | cbv
    | true =>
     simp only [c5] at hp ⊢
     cbv
     cases hp
     all_goals first | rfl | cbv
def b_zh_4 (P : Prims) : T_zh_4 → Option R_zh
 | v0 =>
 some (P.cmp .leq (P.len v0) 40)
theorem o_zh_4 : H_zh_4 Ap @Ab Ax m (b_zh_4 PP ) := by
 rintro v0 out hp stk
 subst hPP
 simp only [b_zh_4] at hp
 simp only [A_zh_4]
 rw [h.at_, hT]
 cbv
 try simp only [h.len]
 cases hp
 all_goals first | rfl | cbv
end
def b_zdf_0 (P : Prims) (c_zcz : Y_zcz) : T_zdf_0 → Option R_zdf
 | (Af, Ak, Aj, Ah, Ai) =>
 match P.cmp .eql Af 5 with
 | false =>
  some false
 | true =>
  match c_zcz ⟨Af, Ak, Aj, Ah, Ai⟩ with
  | none => none
  | some Eg =>
   some Eg
section
variable (c_zcz : Y_zcz) (h_zcz : (C_zcz As Am @Ab Ag Ac c_zcz)) (m : Nat)
include c_zcz h_zcz m
theorem o_zdf_0 : H_zdf_0 Ap @Ab Ag Ac m (b_zdf_0 PP c_zcz ) := by
 rintro ⟨Af, Ak, Aj, Ah, Ai⟩ out hp stk
 subst hPP
 simp only [b_zdf_0] at hp
 simp only [A_zdf_0]
 rw [h.at_, hT]
 cbv
 cases c1 : xcmp .eql Af 5 with
 | false =>
  simp only [c1] at hp ⊢
  cbv
  cases hp
  all_goals first | rfl | cbv
 | true =>
  simp only [c1] at hp ⊢
  cbv
  cases c3 : c_zcz ⟨Af, Ak, Aj, Ah, Ai⟩ with
  | none => simp only [c3] at hp; cases hp
  | some Eg =>
   simp only [c3] at hp
   have qc := fun s => (h_zcz c3 s).1
   simp only [qc]
   cbv
   cases hp
   all_goals first | rfl | cbv
end
def b_zda_0 (P : Prims) (c_zda : Y_zda) (l_1 : T_zda_1 → Option R_zda) : T_zda_0 → Option R_zda
 | (Af, Ak, Aj, Ah, Ai) =>
 l_1 (Af, Ak, Aj, Ah, Ai, Ah, P.len Ah, 0, 0, 0, [], [], [], Af, Ak, Aj, 0, [], 0, [])
section
variable (c_zda : Y_zda) (h_zda : (C_zda As Am @Ab Ag Ac c_zda)) (m : Nat)
include c_zda h_zda m
theorem o_zda_0 {l_1 : T_zda_1 → Option R_zda} (h_l_1 : H_zda_1 Ap @Ab Aw Ag Ac m l_1) : H_zda_0 Ap @Ab Ag Ac m (b_zda_0 PP c_zda l_1) := by
 rintro ⟨Af, Ak, Aj, Ah, Ai⟩ out hp stk
 subst hPP
 simp only [b_zda_0] at hp
 simp only [A_zda_0]
 rw [h.at_, hT]
 cbv
 try simp only [h.len]
 first | exact h_l_1 hp stk | (have q := h_l_1 hp stk; simp only [A_zda_1, h.lits, hA] at q; first | exact q | (cbv; exact q))
def b_zda_1 (P : Prims) (c_zda : Y_zda) (l_5 : T_zda_5 → Option R_zda) : T_zda_1 → Option (T_zda_1 ⊕ R_zda)
 | (A3, Be, Bf, Bg, Bd, v16, v17, v18, B4, B5, B6, B7, B8, Cl, Cn, Co, Bj, B9, Bk, Ca) =>
 match P.cmp .lss v18 v17 with
 | false =>
  match l_5 (Bd, P.len Bd, 0, B4, B5, B6, B7, B8, Cl, Cn, Co, Bj, B9, Bk, Ca) with | none => none | some o10 => some (.inr o10)
 | true =>
  match P.idx v16 v18 with
  | none => none
  | some ⟨Bq, D1, D2, D3, D4⟩ =>
   match c_zda ⟨Bq, D1, D2, D3, D4⟩ with
   | none => none
   | some ⟨Eb, Ec, Ed, Ee, Ef⟩ =>
    match P.app 80 B9 [⟨Eb, Ec, Ed, Ee, Ef⟩] with
    | none => none
    | some l6 =>
     some (.inl (A3, Be, Bf, Bg, Bd, v16, v17, P.ar .add .i64 v18 1, B4, B5, B6, B7, B8, Cl, Cn, Co, Bj + 1, l6, Bk, Ca))
theorem o_zda_1 {l_5 : T_zda_5 → Option R_zda} (h_l_5 : H_zda_5 Ap @Ab Aw Ag Ac m l_5) : Hd (b_zda_1 PP c_zda l_5) (A_zda_1 Ap @Ab Aw Ag Ac m ) (el (A_zda_1 Ap @Ab Aw Ag Ac m ) (O_zda @Ab Ag Ac m )) := by
 rintro ⟨A3, Be, Bf, Bg, Bd, v16, v17, v18, B4, B5, B6, B7, B8, Cl, Cn, Co, Bj, B9, Bk, Ca⟩ out hp stk
 subst hPP
 simp only [b_zda_1] at hp
 simp only [A_zda_1]
 rw [h.at_, hT]
 cbv
 cases c1 : xcmp .lss v18 v17 with
 | false =>
  simp only [c1] at hp ⊢
  cbv
  rw [h.at_, hT]
  cbv
  try simp only [h.len]
  cases c : l_5 (Bd, plen Bd, 0, B4, B5, B6, B7, B8, Cl, Cn, Co, Bj, B9, Bk, Ca) with
  | none => simp only [c] at hp; cases hp
  | some o10 =>
   simp only [c] at hp
   cases hp
   first | exact h_l_5 c stk | (have q := h_l_5 c stk; simp only [A_zda_5, h.lits, hA] at q; first | exact q | (cbv; exact q))
 | true =>
  simp only [c1] at hp ⊢
  cbv
  rw [h.at_, hT]
  cbv
  cases c3 : pidx v16 v18 with
  | none => simp only [c3] at hp; cases hp
  | some y9 =>
   obtain ⟨Bq, D1, D2, D3, D4⟩ := y9
   simp only [c3] at hp
   obtain ⟨q1, q2⟩ := h.idx Ag c3
   try simp only [hA.1] at q2
   simp only [q1, Bool.false_eq_true, if_false]
   cbv
   try simp only [q2]
   cbv
   cases c5 : c_zda ⟨Bq, D1, D2, D3, D4⟩ with
   | none => simp only [c5] at hp; cases hp
   | some y8 =>
    obtain ⟨Eb, Ec, Ed, Ee, Ef⟩ := y8
    simp only [c5] at hp
    have qc := fun s => (h_zda c5 s).1
    simp only [qc]
    cbv
    simp only [h.allsz_nil, h.allsz_cons]
    cbv
    simp only [h.allsz_nil, h.allsz_cons]
    cbv
    cases c7 : papp 80 B9 [⟨Eb, Ec, Ed, Ee, Ef⟩] with
    | none => simp only [c7] at hp; cases hp
    | some l6 =>
     simp only [c7] at hp
     obtain ⟨q1, q2, q3⟩ := h.app Ag c7 rfl
     simp only [h.map_cons, h.map_nil, h.len_nil, hA.1] at q1 q2 q3
     try simp only [h.len_nil]
     cbv
     simp only [q1, q2, q3, if_true]
     cbv
     rw [h.at_, hT]
     cbv
     cases hp
     all_goals first | rfl | (cbv; done) | (simp only [h.lits, hA, el, O_zda, A_zda_1, if_true]; first | done | rfl | (cbv; done) | (cbv; simp only [h.lits, hA, el, O_zda, A_zda_1]; done))
def b_zda_5 (P : Prims) (c_zda : Y_zda) : T_zda_5 → Option (T_zda_5 ⊕ R_zda)
 | (v31, v32, v33, B4, B5, B6, B7, B8, Cl, Cn, Co, Bj, B9, Bk, Ca) =>
 match P.cmp .lss v33 v32 with
 | false =>
  some (.inr ⟨Cl, Cn, Co, B9, Ca⟩)
 | true =>
  match P.idx v31 v33 with
  | none => none
  | some ⟨Ej, ⟨Cq, Cr, Cs, Ct, Cu⟩⟩ =>
   match c_zda ⟨Cq, Cr, Cs, Ct, Cu⟩ with
   | none => none
   | some ⟨Dd, De, Df, Dg, Dh⟩ =>
    match P.app 96 Ca [⟨Ej, ⟨Dd, De, Df, Dg, Dh⟩⟩] with
    | none => none
    | some l16 =>
     some (.inl (v31, v32, P.ar .add .i64 v33 1, B4, B5, B6, B7, B8, Cl, Cn, Co, Bj, B9, Bk + 1, l16))
theorem o_zda_5 : Hd (b_zda_5 PP c_zda ) (A_zda_5 Ap @Ab Aw Ag Ac m ) (el (A_zda_5 Ap @Ab Aw Ag Ac m ) (O_zda @Ab Ag Ac m )) := by
 rintro ⟨v31, v32, v33, B4, B5, B6, B7, B8, Cl, Cn, Co, Bj, B9, Bk, Ca⟩ out hp stk
 subst hPP
 simp only [b_zda_5] at hp
 simp only [A_zda_5]
 rw [h.at_, hT]
 cbv
 cases c11 : xcmp .lss v33 v32 with
 | false =>
  simp only [c11] at hp ⊢
  cbv
  rw [h.at_, hT]
  cbv
  cases hp
  all_goals first | rfl | (cbv; done) | (simp only [h.lits, hA, el, O_zda, A_zda_5, if_true]; first | done | rfl | (cbv; done) | (cbv; simp only [h.lits, hA, el, O_zda, A_zda_5]; done))
 | true =>
  simp only [c11] at hp ⊢
  cbv
  rw [h.at_, hT]
  cbv
  cases c13 : pidx v31 v33 with
  | none => simp only [c13] at hp; cases hp
  | some y19 =>
   obtain ⟨Ej, ⟨Cq, Cr, Cs, Ct, Cu⟩⟩ := y19
   simp only [c13] at hp
   obtain ⟨q1, q2⟩ := h.idx Ac c13
   try simp only [hA.2.1] at q2
   simp only [q1, Bool.false_eq_true, if_false]
   cbv
   try simp only [q2]
   cbv
   cases c15 : c_zda ⟨Cq, Cr, Cs, Ct, Cu⟩ with
   | none => simp only [c15] at hp; cases hp
   | some y18 =>
    obtain ⟨Dd, De, Df, Dg, Dh⟩ := y18
    simp only [c15] at hp
    have qc := fun s => (h_zda c15 s).1
    simp only [qc]
    cbv
    simp only [h.allsz_nil, h.allsz_cons]
    cbv
    simp only [h.allsz_nil, h.allsz_cons]
    cbv
    cases c17 : papp 96 Ca [⟨Ej, ⟨Dd, De, Df, Dg, Dh⟩⟩] with
    | none => simp only [c17] at hp; cases hp
    | some l16 =>
     simp only [c17] at hp
     obtain ⟨q1, q2, q3⟩ := h.app Ac c17 rfl
     simp only [h.map_cons, h.map_nil, h.len_nil, hA.2.1] at q1 q2 q3
     try simp only [h.len_nil]
     cbv
     simp only [q1, q2, q3, if_true]
     cbv
     rw [h.at_, hT]
     cbv
     cases hp
     all_goals first | rfl | (cbv; done) | (simp only [h.lits, hA, el, O_zda, A_zda_5, if_true]; first | done | rfl | (cbv; done) | (cbv; simp only [h.lits, hA, el, O_zda, A_zda_5]; done))
end
def b_zdb_0 (P : Prims) (c_zda : Y_zda) (l_1 : T_zdb_1 → Option R_zdb) : T_zdb_0 → Option R_zdb
 | (Af, Ak, Aj, Ah, Ai) =>
 l_1 (Af, Ak, Aj, Ah, Ai, Ah, P.len Ah, 0, 0, 0, [], [], [], Af, Ak, Aj, 0, [], 0, [])
section
variable (c_zda : Y_zda) (h_zda : (C_zda As Am @Ab Ag Ac c_zda)) (m : Nat)
include c_zda h_zda m
theorem o_zdb_0 {l_1 : T_zdb_1 → Option R_zdb} (h_l_1 : H_zdb_1 Ap @Ab Aw Ag Ac m l_1) : H_zdb_0 Ap @Ab Aw Ag Ac m (b_zdb_0 PP c_zda l_1) := by
 rintro ⟨Af, Ak, Aj, Ah, Ai⟩ out hp stk
 subst hPP
 simp only [b_zdb_0] at hp
 simp only [A_zdb_0]
 rw [h.at_, hT]
 cbv
 try simp only [h.len]
 first | exact h_l_1 hp stk | (have q := h_l_1 hp stk; simp only [A_zdb_1, h.lits, hA] at q; first | exact q | (cbv; exact q))
def b_zdb_1 (P : Prims) (c_zda : Y_zda) (l_5 : T_zdb_5 → Option R_zdb) : T_zdb_1 → Option (T_zdb_1 ⊕ R_zdb)
 | (A3, Be, Bf, Bg, Bd, v16, v17, v18, B4, B5, B6, B7, B8, Cl, Cn, Co, Bj, B9, Bk, Ca) =>
 match P.cmp .lss v18 v17 with
 | false =>
  match l_5 (Bd, P.len Bd, 0, B4, B5, B6, B7, B8, Cl, Cn, Co, Bj, B9, Bk, Ca) with | none => none | some o10 => some (.inr o10)
 | true =>
  match P.idx v16 v18 with
  | none => none
  | some ⟨Bq, D1, D2, D3, D4⟩ =>
   match c_zda ⟨Bq, D1, D2, D3, D4⟩ with
   | none => none
   | some ⟨Eb, Ec, Ed, Ee, Ef⟩ =>
    match P.app 80 B9 [⟨Eb, Ec, Ed, Ee, Ef⟩] with
    | none => none
    | some l6 =>
     some (.inl (A3, Be, Bf, Bg, Bd, v16, v17, P.ar .add .i64 v18 1, B4, B5, B6, B7, B8, Cl, Cn, Co, Bj + 1, l6, Bk, Ca))
theorem o_zdb_1 {l_5 : T_zdb_5 → Option R_zdb} (h_l_5 : H_zdb_5 Ap @Ab Aw Ag Ac m l_5) : Hd (b_zdb_1 PP c_zda l_5) (A_zdb_1 Ap @Ab Aw Ag Ac m ) (el (A_zdb_1 Ap @Ab Aw Ag Ac m ) (O_zdb @Ab Aw Ag Ac m )) := by
 rintro ⟨A3, Be, Bf, Bg, Bd, v16, v17, v18, B4, B5, B6, B7, B8, Cl, Cn, Co, Bj, B9, Bk, Ca⟩ out hp stk
 subst hPP
 simp only [b_zdb_1] at hp
 simp only [A_zdb_1]
 rw [h.at_, hT]
 cbv
 cases c1 : xcmp .lss v18 v17 with
 | false =>
  simp only [c1] at hp ⊢
  cbv
  rw [h.at_, hT]
  cbv
  try simp only [h.len]
  cases c : l_5 (Bd, plen Bd, 0, B4, B5, B6, B7, B8, Cl, Cn, Co, Bj, B9, Bk, Ca) with
  | none => simp only [c] at hp; cases hp
  | some o10 =>
   simp only [c] at hp
   cases hp
   first | exact h_l_5 c stk | (have q := h_l_5 c stk; simp only [A_zdb_5, h.lits, hA] at q; first | exact q | (cbv; exact q))
 | true =>
  simp only [c1] at hp ⊢
  cbv
  rw [h.at_, hT]
  cbv
  cases c3 : pidx v16 v18 with
  | none => simp only [c3] at hp; cases hp
  | some y9 =>
   obtain ⟨Bq, D1, D2, D3, D4⟩ := y9
   simp only [c3] at hp
   obtain ⟨q1, q2⟩ := h.idx Ag c3
   try simp only [hA.1] at q2
   simp only [q1, Bool.false_eq_true, if_false]
   cbv
   try simp only [q2]
   cbv
   cases c5 : c_zda ⟨Bq, D1, D2, D3, D4⟩ with
   | none => simp only [c5] at hp; cases hp
   | some y8 =>
    obtain ⟨Eb, Ec, Ed, Ee, Ef⟩ := y8
    simp only [c5] at hp
    have qc := fun s => (h_zda c5 s).1
    simp only [qc]
    cbv
    simp only [h.allsz_nil, h.allsz_cons]
    cbv
    simp only [h.allsz_nil, h.allsz_cons]
    cbv
    cases c7 : papp 80 B9 [⟨Eb, Ec, Ed, Ee, Ef⟩] with
    | none => simp only [c7] at hp; cases hp
    | some l6 =>
     simp only [c7] at hp
     obtain ⟨q1, q2, q3⟩ := h.app Ag c7 rfl
     simp only [h.map_cons, h.map_nil, h.len_nil, hA.1] at q1 q2 q3
     try simp only [h.len_nil]
     cbv
     simp only [q1, q2, q3, if_true]
     cbv
     rw [h.at_, hT]
     cbv
     cases hp
     all_goals first | rfl | (cbv; done) | (simp only [h.lits, hA, el, O_zdb, A_zdb_1, if_true]; first | done | rfl | (cbv; done) | (cbv; simp only [h.lits, hA, el, O_zdb, A_zdb_1]; done))
def b_zdb_5 (P : Prims) (c_zda : Y_zda) : T_zdb_5 → Option (T_zdb_5 ⊕ R_zdb)
 | (v31, v32, v33, B4, B5, B6, B7, B8, Cl, Cn, Co, Bj, B9, Bk, Ca) =>
 match P.cmp .lss v33 v32 with
 | false =>
  some (.inr (Cl, Cn, Co, Bj, B9, Bk, Ca))
 | true =>
  match P.idx v31 v33 with
  | none => none
  | some ⟨Ej, ⟨Cq, Cr, Cs, Ct, Cu⟩⟩ =>
   match c_zda ⟨Cq, Cr, Cs, Ct, Cu⟩ with
   | none => none
   | some ⟨Dd, De, Df, Dg, Dh⟩ =>
    match P.app 96 Ca [⟨Ej, ⟨Dd, De, Df, Dg, Dh⟩⟩] with
    | none => none
    | some l16 =>
     some (.inl (v31, v32, P.ar .add .i64 v33 1, B4, B5, B6, B7, B8, Cl, Cn, Co, Bj, B9, Bk + 1, l16))
theorem o_zdb_5 : Hd (b_zdb_5 PP c_zda ) (A_zdb_5 Ap @Ab Aw Ag Ac m ) (el (A_zdb_5 Ap @Ab Aw Ag Ac m ) (O_zdb @Ab Aw Ag Ac m )) := by
 rintro ⟨v31, v32, v33, B4, B5, B6, B7, B8, Cl, Cn, Co, Bj, B9, Bk, Ca⟩ out hp stk
 subst hPP
 simp only [b_zdb_5] at hp
 simp only [A_zdb_5]
 rw [h.at_, hT]
 cbv
 cases c11 : xcmp .lss v33 v32 with
 | false =>
  simp only [c11] at hp ⊢
  cbv
  rw [h.at_, hT]
  cbv
  cases hp
  all_goals first | rfl | (cbv; done) | (simp only [h.lits, hA, el, O_zdb, A_zdb_5, if_true]; first | done | rfl | (cbv; done) | (cbv; simp only [h.lits, hA, el, O_zdb, A_zdb_5]; done))
 | true =>
  simp only [c11] at hp ⊢
  cbv
  rw [h.at_, hT]
  cbv
  cases c13 : pidx v31 v33 with
  | none => simp only [c13] at hp; cases hp
  | some y19 =>
   obtain ⟨Ej, ⟨Cq, Cr, Cs, Ct, Cu⟩⟩ := y19
   simp only [c13] at hp
   obtain ⟨q1, q2⟩ := h.idx Ac c13
   try simp only [hA.2.1] at q2
   simp only [q1, Bool.false_eq_true, if_false]
   cbv
   try simp only [q2]
   cbv
   cases c15 : c_zda ⟨Cq, Cr, Cs, Ct, Cu⟩ with
   | none => simp only [c15] at hp; cases hp
   | some y18 =>
    obtain ⟨Dd, De, Df, Dg, Dh⟩ := y18
    simp only [c15] at hp
    have qc := fun s => (h_zda c15 s).1
    simp only [qc]
    cbv
    simp only [h.allsz_nil, h.allsz_cons]
    cbv
    simp only [h.allsz_nil, h.allsz_cons]
    cbv
    cases c17 : papp 96 Ca [⟨Ej, ⟨Dd, De, Df, Dg, Dh⟩⟩] with
    | none => simp only [c17] at hp; cases hp
    | some l16 =>
     simp only [c17] at hp
     obtain ⟨q1, q2, q3⟩ := h.app Ac c17 rfl
     simp only [h.map_cons, h.map_nil, h.len_nil, hA.2.1] at q1 q2 q3
     try simp only [h.len_nil]
     cbv
     simp only [q1, q2, q3, if_true]
     cbv
     rw [h.at_, hT]
     cbv
     cases hp
     all_goals first | rfl | (cbv; done) | (simp only [h.lits, hA, el, O_zdb, A_zdb_5, if_true]; first | done | rfl | (cbv; done) | (cbv; simp only [h.lits, hA, el, O_zdb, A_zdb_5]; done))
end
def b_zcw_0 (P : Prims) (Cp : Nat) (L1 : Mi) : T_zcw_0 → Option R_zcw
 | (Af, A6, A7, A8, A9, Ba, A1) =>
 match P.mfind Af L1 with
 | none =>
  some (P.len A1)
 | some f2 =>
  some f2
section
variable (m : Nat) (n0 n1 : Nat) (k0 k1 : Kl) (Cp : Nat) (L1 : Mi) (hl0 : n0 < m) (hl1 : n1 < m) (Al : NE n0 k0 n1 k1)
include m n0 n1 k0 k1 Cp L1 hl0 hl1 Al
theorem o_zcw_0 : H_zcw_0 Ap @Ab @Av Ag Ac A0 Ax m n0 n1 k0 k1 Cp L1 (b_zcw_0 PP Cp L1 ) := by
 rintro ⟨Af, A6, A7, A8, A9, Ba, A1⟩ out hp stk ⟨hg0, hg1, _⟩
 have hn := And.intro (nlt hl0) (nlt hl1)
 have lw := And.intro hn (And.intro hg0 (hg1))
 subst hPP
 simp only [b_zcw_0] at hp
 simp only [A_zcw_0]
 rw [h.at_, hT]
 cbv
 simp only [if_false, if_true, lw]
 cbv
 simp only [if_false, if_true, lw]
 cbv
 cases c1 : pmfind Af L1 with
 | none =>
  simp only [c1] at hp
  have q1 := h.mfind0 A0 c1
  simp only [q1]
  cbv
  try simp only [if_false, if_true, hn]
  try cbv
  try simp only [if_false, if_true, hn]
  try cbv
  rw [h.at_, hT]
  cbv
  try simp only [h.len]
  cases hp
  try simp only [if_false, if_true, hn]
  all_goals first | rfl | cbv
 | some f2 =>
  simp only [c1] at hp
  have q1 := h.mfind1 A0 c1
  simp only [hA.2.2.1] at q1
  simp only [q1]
  cbv
  cases hp
  try simp only [if_false, if_true, hn]
  all_goals first | rfl | cbv
end
def b_zcy_0 (P : Prims) (c_zcw : Y_zcw) (Bc : Ss) (Cc : Nat) (L2 : Mi) : T_zcy_0 → Option R_zcy
 | (Af, A6, A7, A8, A9, Ba, A3, Bl, Bm, Bn, Bo, Bp) =>
 match c_zcw ⟨Af, ⟨A6, A7, A8, A9, Ba⟩⟩ Bc Cc L2 with
 | none => none
 | some Bi =>
  match c_zcw ⟨A3, ⟨Bl, Bm, Bn, Bo, Bp⟩⟩ Bc Cc L2 with
  | none => none
  | some J1 =>
   some (P.ar .sub .i64 Bi J1)
section
variable (c_zcw : Y_zcw) (h_zcw : (C_zcw As Am @Ab @Av Ag Ac A0 Ax c_zcw)) (m : Nat) (n0 n1 n2 : Nat) (k0 k1 k2 : Kl) (Bc : Ss) (Cc : Nat) (L2 : Mi) (hl0 : n0 < m) (hl1 : n1 < m) (hl2 : n2 < m) (Al : NE n0 k0 n1 k1) (Ao : NE n0 k0 n2 k2) (Ar : NE n1 k1 n2 k2)
include c_zcw h_zcw m n0 n1 n2 k0 k1 k2 Bc Cc L2 hl0 hl1 hl2 Al Ao Ar
theorem o_zcy_0 : H_zcy_0 Ap @Ab @Av Ag Ac A0 Ax m n0 n1 n2 k0 k1 k2 Bc Cc L2 (b_zcy_0 PP c_zcw Bc Cc L2 ) := by
 rintro ⟨Af, A6, A7, A8, A9, Ba, A3, Bl, Bm, Bn, Bo, Bp⟩ out hp stk ⟨hg0, hg1, hg2, _⟩
 have hn := And.intro (nlt hl0) (And.intro (nlt hl1) (nlt hl2))
 have lw := And.intro hn (And.intro hg0 (And.intro hg1 (hg2)))
 subst hPP
 simp only [b_zcy_0] at hp
 simp only [A_zcy_0]
 rw [h.at_, hT]
 cbv
 simp only [if_false, if_true, lw]
 cbv
 cases c2 : c_zcw ⟨Af, ⟨A6, A7, A8, A9, Ba⟩⟩ Bc Cc L2 with
 | none => simp only [c2] at hp; cases hp
 | some Bi =>
  simp only [c2] at hp
  have qc := (h_zcw c2 (⟨m, []⟩ :: stk) n1 k1 n2 k2 ((h.gb hl1 _ _).trans (hg1)) ((h.gb hl2 _ _).trans (hg2)) (Nat.le_of_lt hl1) (Nat.le_of_lt hl2) Ar).1
  simp only [qc]
  cbv
  simp only [if_false, if_true, lw]
  cbv
  cases c4 : c_zcw ⟨A3, ⟨Bl, Bm, Bn, Bo, Bp⟩⟩ Bc Cc L2 with
  | none => simp only [c4] at hp; cases hp
  | some J1 =>
   simp only [c4] at hp
   have qc := (h_zcw c4 (⟨m, []⟩ :: stk) n1 k1 n2 k2 ((h.gb hl1 _ _).trans (hg1)) ((h.gb hl2 _ _).trans (hg2)) (Nat.le_of_lt hl1) (Nat.le_of_lt hl2) Ar).1
   simp only [qc]
   cbv
   cases hp
   try simp only [if_false, if_true, hn]
   all_goals first | rfl | cbv
end
def b_zcf_0 (P : Prims) (c_zcy : Y_zcy) (Ad : Nat) (Aa : Ss) (Ae : Nat) (L3 : Mi) (l_1 : T_zcf_1 → Option R_zcf) : T_zcf_0 → Option R_zcf
 | (v1, v2, L0) =>
 l_1 (L0, v1, v2, P.ar .add .i64 v1 1)
section
variable (c_zcy : Y_zcy) (h_zcy : (C_zcy As Am @Ab @Av Ag Ac A0 Ax c_zcy)) (m : Nat) (n0 n1 n2 n3 : Nat) (k0 k1 k2 k3 : Kl) (Ad : Nat) (Aa : Ss) (Ae : Nat) (L3 : Mi) (hl0 : n0 < m) (hl1 : n1 < m) (hl2 : n2 < m) (hl3 : n3 < m) (Al : NE n0 k0 n1 k1) (Ao : NE n0 k0 n2 k2) (Aq : NE n0 k0 n3 k3) (Ar : NE n1 k1 n2 k2) (At : NE n1 k1 n3 k3) (Au : NE n2 k2 n3 k3)
include c_zcy h_zcy m n0 n1 n2 n3 k0 k1 k2 k3 Ad Aa Ae L3 hl0 hl1 hl2 hl3 Al Ao Aq Ar At Au
theorem o_zcf_0 {l_1 : T_zcf_1 → Option R_zcf} (h_l_1 : H_zcf_1 Ap @Ab Aw @Av Ay Ac A0 Ax m n0 n1 n2 n3 k0 k1 k2 k3 Ad Aa Ae L3 l_1) : H_zcf_0 Ap @Ab Aw @Av Ay Ac A0 Ax m n0 n1 n2 n3 k0 k1 k2 k3 Ad Aa Ae L3 (b_zcf_0 PP c_zcy Ad Aa Ae L3 l_1) := by
 rintro ⟨v1, v2, L0⟩ out hp stk ⟨hg0, hg1, hg2, hg3, _⟩
 have hn := And.intro (nlt hl0) (And.intro (nlt hl1) (And.intro (nlt hl2) (nlt hl3)))
 subst hPP
 simp only [b_zcf_0] at hp
 simp only [A_zcf_0]
 rw [h.at_, hT]
 cbv
 try simp only [if_false, if_true, hn]
 first | exact h_l_1 hp stk ⟨hg0, hg1, hg2, hg3, trivial⟩ | (have q := h_l_1 hp stk ⟨hg0, hg1, hg2, hg3, trivial⟩; simp only [A_zcf_1, h.lits, hA] at q; first | exact q | (cbv; exact q))
def b_zcf_1 (P : Prims) (c_zcy : Y_zcy) (Ad : Nat) (Aa : Ss) (Ae : Nat) (L3 : Mi) (l_3 : T_zcf_3 → Option (T_zcf_1 ⊕ R_zcf)) : T_zcf_1 → Option (T_zcf_1 ⊕ R_zcf)
 | (L0, v1, v2, v8) =>
 match P.cmp .lss v8 v2 with
 | false =>
  some (.inr L0)
 | true =>
  l_3 (L0, v1, v2, v8, v8)
theorem o_zcf_1 {l_3 : T_zcf_3 → Option (T_zcf_1 ⊕ R_zcf)} (h_l_3 : H_zcf_3 Ap @Ab Aw @Av Ay Ac A0 Ax m n0 n1 n2 n3 k0 k1 k2 k3 Ad Aa Ae L3 l_3) : HdG (G_zcf_1 @Ab @Av Ac A0 Ax n0 n1 n2 n3 k0 k1 k2 k3 Ad Aa Ae L3) (b_zcf_1 PP c_zcy Ad Aa Ae L3 l_3) (A_zcf_1 Ap @Ab Aw Ac m n0 n1 n2 n3 k0 k1 k2 k3 Ad Aa Ae L3) (el (B_zcf_1 Ap @Ab Aw Ay Ac m n0 n1 n2 n3 k0 k1 k2 k3 Ad Aa Ae L3) (O_zcf @Ab Ay Ac m n0 n1 n2 n3 k0 k1 k2 k3 Ad Aa Ae L3)) := by
 rintro ⟨L0, v1, v2, v8⟩ out hp stk ⟨hg0, hg1, hg2, hg3, _⟩
 have hn := And.intro (nlt hl0) (And.intro (nlt hl1) (And.intro (nlt hl2) (nlt hl3)))
 subst hPP
 simp only [b_zcf_1] at hp
 simp only [A_zcf_1]
 rw [h.at_, hT]
 cbv
 cases c1 : xcmp .lss v8 v2 with
 | false =>
  simp only [c1] at hp ⊢
  cbv
  cases hp
  try simp only [el, O_zcf, B_zcf_1, A_zcf_1]
  try (simp only [h.ss hg0])
  try simp only [if_false, if_true, hn]
  all_goals first | rfl | cbv
 | true =>
  simp only [c1] at hp ⊢
  cbv
  try simp only [if_false, if_true, hn]
  try cbv
  try simp only [if_false, if_true, hn]
  try cbv
  rw [h.at_, hT]
  cbv
  try simp only [if_false, if_true, hn]
  first | exact h_l_3 hp stk ⟨hg0, hg1, hg2, hg3, trivial⟩ | (have q := h_l_3 hp stk ⟨hg0, hg1, hg2, hg3, trivial⟩; simp only [A_zcf_3, h.lits, hA] at q; first | exact q | (cbv; exact q))
def b_zcf_3 (P : Prims) (c_zcy : Y_zcy) (Ad : Nat) (Aa : Ss) (Ae : Nat) (L3 : Mi) (l_6 : T_zcf_6 → Option (T_zcf_1 ⊕ R_zcf)) : T_zcf_3 → Option (T_zcf_3 ⊕ (T_zcf_1 ⊕ R_zcf))
 | (L0, v1, v2, v8, v9) =>
 match P.cmp .gtr v9 v1 with
 | false =>
  match l_6 (L0, v1, v2, v8) with | none => none | some o26 => some (.inr o26)
 | true =>
  match P.idx L0 v9 with
  | none => none
  | some ⟨Hz, ⟨Ez, E0, E1, E2, E3⟩⟩ =>
   match P.idx L0 (P.ar .sub .i64 v9 1) with
   | none => none
   | some ⟨Er, ⟨Di, Dj, Dk, Dl, Dm⟩⟩ =>
    match c_zcy ⟨Hz, ⟨Ez, E0, E1, E2, E3⟩⟩ ⟨Er, ⟨Di, Dj, Dk, Dl, Dm⟩⟩ Aa Ae L3 with
    | none => none
    | some Jq =>
     match P.cmp .lss Jq 0 with
     | false =>
      match l_6 (L0, v1, v2, v8) with | none => none | some o23 => some (.inr o23)
     | true =>
      match P.set L0 v9 ⟨Er, ⟨Di, Dj, Dk, Dl, Dm⟩⟩ with
      | none => none
      | some l15 =>
       match P.idx l15 (P.ar .sub .i64 v9 1) with
       | none => none
       | some ⟨G7, ⟨Ek, El, Em, En, Eo⟩⟩ =>
        match P.set l15 (P.ar .sub .i64 v9 1) ⟨Hz, ⟨Ez, E0, E1, E2, E3⟩⟩ with
        | none => none
        | some l20 =>
         some (.inl (l20, v1, v2, v8, P.ar .sub .i64 v9 1))
theorem o_zcf_3 {l_6 : T_zcf_6 → Option (T_zcf_1 ⊕ R_zcf)} (h_l_6 : H_zcf_6 Ap @Ab Aw @Av Ay Ac A0 Ax m n0 n1 n2 n3 k0 k1 k2 k3 Ad Aa Ae L3 l_6) : HdG (G_zcf_3 @Ab @Av Ac A0 Ax n0 n1 n2 n3 k0 k1 k2 k3 Ad Aa Ae L3) (b_zcf_3 PP c_zcy Ad Aa Ae L3 l_6) (A_zcf_3 Ap @Ab Aw Ac m n0 n1 n2 n3 k0 k1 k2 k3 Ad Aa Ae L3) (el (B_zcf_3 Ap @Ab Aw Ay Ac m n0 n1 n2 n3 k0 k1 k2 k3 Ad Aa Ae L3) (el (B_zcf_1 Ap @Ab Aw Ay Ac m n0 n1 n2 n3 k0 k1 k2 k3 Ad Aa Ae L3) (O_zcf @Ab Ay Ac m n0 n1 n2 n3 k0 k1 k2 k3 Ad Aa Ae L3))) := by
 rintro ⟨L0, v1, v2, v8, v9⟩ out hp stk ⟨hg0, hg1, hg2, hg3, _⟩
 have hn := And.intro (nlt hl0) (And.intro (nlt hl1) (And.intro (nlt hl2) (nlt hl3)))
 have lw := And.intro hn (And.intro hg0 (And.intro hg1 (And.intro hg2 (hg3))))
 have lw_0 := And.intro hn (And.intro (fun (o0 : O) => h.gs (hg0) o0) (And.intro (fun (o0 : O) => (h.gn (Ne.symm Al) _ o0).trans (hg1)) (And.intro (fun (o0 : O) => (h.gn (Ne.symm Ao) _ o0).trans (hg2)) ((fun (o0 : O) => (h.gn (Ne.symm Aq) _ o0).trans (hg3))))))
 subst hPP
 simp only [b_zcf_3] at hp
 simp only [A_zcf_3]
 rw [h.at_, hT]
 cbv
 cases c2 : xcmp .gtr v9 v1 with
 | false =>
  simp only [c2] at hp ⊢
  cbv
  cases c : l_6 (L0, v1, v2, v8) with
  | none => simp only [c] at hp; cases hp
  | some o26 =>
   simp only [c] at hp
   cases hp
   try simp only [if_false, if_true, hn]
   first | exact h_l_6 c stk ⟨hg0, hg1, hg2, hg3, trivial⟩ | (have q := h_l_6 c stk ⟨hg0, hg1, hg2, hg3, trivial⟩; simp only [A_zcf_6, h.lits, hA] at q; first | exact q | (cbv; exact q))
 | true =>
  simp only [c2] at hp ⊢
  cbv
  cases c5 : pidx L0 v9 with
  | none => simp only [c5] at hp; cases hp
  | some y25 =>
   obtain ⟨Hz, ⟨Ez, E0, E1, E2, E3⟩⟩ := y25
   simp only [c5] at hp
   obtain ⟨q1, q2, q3, w3⟩ := h.idxm Ac c5
   try simp only [hA.2.1] at w3
   simp only [q1, Bool.false_eq_true, if_false]
   cbv
   simp only [if_false, if_true, lw]
   cbv
   simp only [q2, q3, if_true]
   cbv
   simp only [if_false, if_true, lw]
   cbv
   simp only [w3]
   cbv
   cases c8 : pidx L0 (xar .sub .i64 v9 1) with
   | none => simp only [c8] at hp; cases hp
   | some y24 =>
    obtain ⟨Er, ⟨Di, Dj, Dk, Dl, Dm⟩⟩ := y24
    simp only [c8] at hp
    obtain ⟨q1, q2, q3, w6⟩ := h.idxm Ac c8
    try simp only [hA.2.1] at w6
    simp only [q1, Bool.false_eq_true, if_false]
    cbv
    simp only [if_false, if_true, lw]
    cbv
    simp only [q2, q3, if_true]
    cbv
    simp only [if_false, if_true, lw]
    cbv
    simp only [w6]
    cbv
    cases c10 : c_zcy ⟨Hz, ⟨Ez, E0, E1, E2, E3⟩⟩ ⟨Er, ⟨Di, Dj, Dk, Dl, Dm⟩⟩ Aa Ae L3 with
    | none => simp only [c10] at hp; cases hp
    | some Jq =>
     simp only [c10] at hp
     have qc := (h_zcy c10 (⟨m, []⟩ :: stk) n1 k1 n2 k2 n3 k3 ((h.gb hl1 _ _).trans (hg1)) ((h.gb hl2 _ _).trans (hg2)) ((h.gb hl3 _ _).trans (hg3)) (Nat.le_of_lt hl1) (Nat.le_of_lt hl2) (Nat.le_of_lt hl3) Ar At Au).1
     simp only [qc]
     cbv
     cases c11 : xcmp .lss Jq 0 with
     | false =>
      simp only [c11] at hp ⊢
      cbv
      cases c : l_6 (L0, v1, v2, v8) with
      | none => simp only [c] at hp; cases hp
      | some o23 =>
       simp only [c] at hp
       cases hp
       try simp only [if_false, if_true, hn]
       first | exact h_l_6 c stk ⟨hg0, hg1, hg2, hg3, trivial⟩ | (have q := h_l_6 c stk ⟨hg0, hg1, hg2, hg3, trivial⟩; simp only [A_zcf_6, h.lits, hA] at q; first | exact q | (cbv; exact q))
     | true =>
      simp only [c11] at hp ⊢
      cbv
      try simp only [if_false, if_true, hn]
      try cbv
      try simp only [if_false, if_true, hn]
      try cbv
      rw [h.at_, hT]
      cbv
      obtain ⟨q1, q2, q3, w12⟩ := h.idxm Ac c8
      try simp only [hA.2.1] at w12
      simp only [q1, Bool.false_eq_true, if_false]
      cbv
      simp only [if_false, if_true, lw]
      cbv
      simp only [q2, q3, if_true]
      cbv
      simp only [if_false, if_true, lw]
      cbv
      simp only [w12]
      cbv
      obtain ⟨q1, q2, q3, w13⟩ := h.idxm Ac c5
      try simp only [hA.2.1] at w13
      simp only [q1, Bool.false_eq_true, if_false]
      cbv
      simp only [if_false, if_true, lw]
      cbv
      simp only [q2, q3, if_true]
      cbv
      simp only [if_false, if_true, lw]
      cbv
      simp only [w13]
      cbv
      obtain ⟨q1, q2, q3, w14⟩ := h.idxm Ac c5
      try simp only [hA.2.1] at w14
      simp only [q1, Bool.false_eq_true, if_false]
      cbv
      simp only [if_false, if_true, lw]
      cbv
      simp only [q2, q3, if_true]
      cbv
      cases c16 : pset L0 v9 ⟨Er, ⟨Di, Dj, Dk, Dl, Dm⟩⟩ with
      | none => simp only [c16] at hp; cases hp
      | some l15 =>
       simp only [c16] at hp
       obtain ⟨q1, q2, q3, ⟨y, q4⟩, q5, q6⟩ := h.set_ Ac c16
       simp only [hA.2.1] at q5
       try simp only [if_false, if_true, lw]
       try cbv
       try simp only [w14]
       cbv
       try simp only [w14]
       try simp only [List.headD, splice, List.take_succ_cons, List.take_zero, List.drop_succ_cons, List.drop_zero, List.cons_append, List.nil_append, List.length_cons, List.length_nil, Nat.zero_add, Nat.reduceAdd]
       simp only [q5]
       try simp only [← q6]
       try simp only [h.set_o, h.st_, h.sb_ hl0, h.sb_ hl1, h.sb_ hl2, h.sb_ hl3]
       try cbv
       cbv
       cases c19 : pidx l15 (xar .sub .i64 v9 1) with
       | none => simp only [c19] at hp; cases hp
       | some y22 =>
        obtain ⟨G7, ⟨Ek, El, Em, En, Eo⟩⟩ := y22
        simp only [c19] at hp
        obtain ⟨q1, q2, q3, w17⟩ := h.idxm Ac c19
        try simp only [hA.2.1] at w17
        simp only [q1, Bool.false_eq_true, if_false]
        cbv
        simp only [if_false, if_true, lw_0]
        cbv
        simp only [q2, q3, if_true]
        cbv
        cases c21 : pset l15 (xar .sub .i64 v9 1) ⟨Hz, ⟨Ez, E0, E1, E2, E3⟩⟩ with
        | none => simp only [c21] at hp; cases hp
        | some l20 =>
         simp only [c21] at hp
         obtain ⟨q1, q2, q3, ⟨y, q4⟩, q5, q6⟩ := h.set_ Ac c21
         simp only [hA.2.1] at q5
         try simp only [if_false, if_true, lw_0]
         try cbv
         try simp only [w17]
         cbv
         try simp only [w17]
         try simp only [List.headD, splice, List.take_succ_cons, List.take_zero, List.drop_succ_cons, List.drop_zero, List.cons_append, List.nil_append, List.length_cons, List.length_nil, Nat.zero_add, Nat.reduceAdd]
         simp only [q5]
         try simp only [← q6]
         try simp only [h.set_o, h.st_, h.sb_ hl0, h.sb_ hl1, h.sb_ hl2, h.sb_ hl3]
         try simp only [h.so, h.sc Al, h.sc Ao, h.sc Aq, h.sc Ar, h.sc At, h.sc Au]
         try cbv
         cbv
         try simp only [if_false, if_true, hn]
         try cbv
         try simp only [if_false, if_true, hn]
         try cbv
         rw [h.at_, hT]
         cbv
         cases hp
         try simp only [el, O_zcf, B_zcf_3, A_zcf_3, B_zcf_1, A_zcf_1]
         try (simp only [h.so, h.sc Al, h.sc Ao, h.sc Aq, h.sc Ar, h.sc At, h.sc Au])
         try simp only [if_false, if_true, hn]
         all_goals first | rfl | (cbv; done) | (simp only [h.lits, hA, el, O_zcf, A_zcf_3, A_zcf_1, B_zcf_3, B_zcf_1, if_true]; first | done | rfl | (cbv; done) | (cbv; simp only [h.lits, hA, el, O_zcf, A_zcf_3, A_zcf_1, B_zcf_3, B_zcf_1]; done))
def b_zcf_6 (P : Prims) (c_zcy : Y_zcy) (Ad : Nat) (Aa : Ss) (Ae : Nat) (L3 : Mi) : T_zcf_6 → Option (T_zcf_1 ⊕ R_zcf)
 | (L0, v1, v2, v8) =>
 some (.inl (L0, v1, v2, P.ar .add .i64 v8 1))
theorem o_zcf_6 : H_zcf_6 Ap @Ab Aw @Av Ay Ac A0 Ax m n0 n1 n2 n3 k0 k1 k2 k3 Ad Aa Ae L3 (b_zcf_6 PP c_zcy Ad Aa Ae L3 ) := by
 rintro ⟨L0, v1, v2, v8⟩ out hp stk ⟨hg0, hg1, hg2, hg3, _⟩
 have hn := And.intro (nlt hl0) (And.intro (nlt hl1) (And.intro (nlt hl2) (nlt hl3)))
 subst hPP
 simp only [b_zcf_6] at hp
 simp only [A_zcf_6]
 rw [h.at_, hT]
 cbv
 cases hp
 try simp only [el, O_zcf, B_zcf_1, A_zcf_1]
 try (simp only [h.ss hg0])
 try simp only [if_false, if_true, hn]
 all_goals first | rfl | (cbv; done) | (simp only [h.lits, hA, el, O_zcf, A_zcf_1, B_zcf_1, if_true]; first | done | rfl | (cbv; done) | (cbv; simp only [h.lits, hA, el, O_zcf, A_zcf_1, B_zcf_1]; done))
end
def b_zcl_0 (P : Prims) (Ad : Nat) (Aa : Ss) (Ae : Nat) (L3 : Mi) (l_1 : T_zcl_1 → Option R_zcl) : T_zcl_0 → Option R_zcl
 | (v1, v2, v3, L0) =>
 l_1 (L0, v1, v2, v3, 0)
section
variable (m : Nat) (n0 n1 n2 n3 : Nat) (k0 k1 k2 k3 : Kl) (Ad : Nat) (Aa : Ss) (Ae : Nat) (L3 : Mi) (hl0 : n0 < m) (hl1 : n1 < m) (hl2 : n2 < m) (hl3 : n3 < m) (Al : NE n0 k0 n1 k1) (Ao : NE n0 k0 n2 k2) (Aq : NE n0 k0 n3 k3) (Ar : NE n1 k1 n2 k2) (At : NE n1 k1 n3 k3) (Au : NE n2 k2 n3 k3)
include m n0 n1 n2 n3 k0 k1 k2 k3 Ad Aa Ae L3 hl0 hl1 hl2 hl3 Al Ao Aq Ar At Au
theorem o_zcl_0 {l_1 : T_zcl_1 → Option R_zcl} (h_l_1 : H_zcl_1 Ap @Ab Aw @Av Ay Ac A0 Ax m n0 n1 n2 n3 k0 k1 k2 k3 Ad Aa Ae L3 l_1) : H_zcl_0 Ap @Ab Aw @Av Ay Ac A0 Ax m n0 n1 n2 n3 k0 k1 k2 k3 Ad Aa Ae L3 (b_zcl_0 PP Ad Aa Ae L3 l_1) := by
 rintro ⟨v1, v2, v3, L0⟩ out hp stk ⟨hg0, hg1, hg2, hg3, _⟩
 have hn := And.intro (nlt hl0) (And.intro (nlt hl1) (And.intro (nlt hl2) (nlt hl3)))
 subst hPP
 simp only [b_zcl_0] at hp
 simp only [A_zcl_0]
 rw [h.at_, hT]
 cbv
 try simp only [if_false, if_true, hn]
 first | exact h_l_1 hp stk ⟨hg0, hg1, hg2, hg3, trivial⟩ | (have q := h_l_1 hp stk ⟨hg0, hg1, hg2, hg3, trivial⟩; simp only [A_zcl_1, h.lits, hA] at q; first | exact q | (cbv; exact q))
def b_zcl_1 (P : Prims) (Ad : Nat) (Aa : Ss) (Ae : Nat) (L3 : Mi) : T_zcl_1 → Option (T_zcl_1 ⊕ R_zcl)
 | (L0, v1, v2, v3, v10) =>
 match P.cmp .lss v10 v3 with
 | false =>
  some (.inr L0)
 | true =>
  match P.idx L0 (P.ar .add .i64 v2 v10) with
  | none => none
  | some ⟨Dn, ⟨Dp, Dq, Dr, Ds, Dt⟩⟩ =>
   match P.idx L0 (P.ar .add .i64 v1 v10) with
   | none => none
   | some ⟨Jr, ⟨Ha, Hb, Hc, He, Hf⟩⟩ =>
    match P.set L0 (P.ar .add .i64 v1 v10) ⟨Dn, ⟨Dp, Dq, Dr, Ds, Dt⟩⟩ with
    | none => none
    | some l9 =>
     match P.idx l9 (P.ar .add .i64 v2 v10) with
     | none => none
     | some ⟨Ej, ⟨Cq, Cr, Cs, Ct, Cu⟩⟩ =>
      match P.set l9 (P.ar .add .i64 v2 v10) ⟨Jr, ⟨Ha, Hb, Hc, He, Hf⟩⟩ with
      | none => none
      | some l14 =>
       some (.inl (l14, v1, v2, v3, P.ar .add .i64 v10 1))
theorem o_zcl_1 : HdG (G_zcl_1 @Ab @Av Ac A0 Ax n0 n1 n2 n3 k0 k1 k2 k3 Ad Aa Ae L3) (b_zcl_1 PP Ad Aa Ae L3 ) (A_zcl_1 Ap @Ab Aw Ac m n0 n1 n2 n3 k0 k1 k2 k3 Ad Aa Ae L3) (el (B_zcl_1 Ap @Ab Aw Ay Ac m n0 n1 n2 n3 k0 k1 k2 k3 Ad Aa Ae L3) (O_zcl @Ab Ay Ac m n0 n1 n2 n3 k0 k1 k2 k3 Ad Aa Ae L3)) := by
 rintro ⟨L0, v1, v2, v3, v10⟩ out hp stk ⟨hg0, hg1, hg2, hg3, _⟩
 have hn := And.intro (nlt hl0) (And.intro (nlt hl1) (And.intro (nlt hl2) (nlt hl3)))
 have lw := And.intro hn (And.intro hg0 (And.intro hg1 (And.intro hg2 (hg3))))
 have lw_0 := And.intro hn (And.intro (fun (o0 : O) => h.gs (hg0) o0) (And.intro (fun (o0 : O) => (h.gn (Ne.symm Al) _ o0).trans (hg1)) (And.intro (fun (o0 : O) => (h.gn (Ne.symm Ao) _ o0).trans (hg2)) ((fun (o0 : O) => (h.gn (Ne.symm Aq) _ o0).trans (hg3))))))
 subst hPP
 simp only [b_zcl_1] at hp
 simp only [A_zcl_1]
 rw [h.at_, hT]
 cbv
 cases c1 : xcmp .lss v10 v3 with
 | false =>
  simp only [c1] at hp ⊢
  cbv
  cases hp
  try simp only [el, O_zcl, B_zcl_1, A_zcl_1]
  try (simp only [h.ss hg0])
  try simp only [if_false, if_true, hn]
  all_goals first | rfl | cbv
 | true =>
  simp only [c1] at hp ⊢
  cbv
  try simp only [if_false, if_true, hn]
  try cbv
  try simp only [if_false, if_true, hn]
  try cbv
  rw [h.at_, hT]
  cbv
  cases c4 : pidx L0 (xar .add .i64 v2 v10) with
  | none => simp only [c4] at hp; cases hp
  | some y18 =>
   obtain ⟨Dn, ⟨Dp, Dq, Dr, Ds, Dt⟩⟩ := y18
   simp only [c4] at hp
   obtain ⟨q1, q2, q3, w2⟩ := h.idxm Ac c4
   try simp only [hA.2.1] at w2
   simp only [q1, Bool.false_eq_true, if_false]
   cbv
   simp only [if_false, if_true, lw]
   cbv
   simp only [q2, q3, if_true]
   cbv
   simp only [if_false, if_true, lw]
   cbv
   simp only [w2]
   cbv
   cases c7 : pidx L0 (xar .add .i64 v1 v10) with
   | none => simp only [c7] at hp; cases hp
   | some y17 =>
    obtain ⟨Jr, ⟨Ha, Hb, Hc, He, Hf⟩⟩ := y17
    simp only [c7] at hp
    obtain ⟨q1, q2, q3, w5⟩ := h.idxm Ac c7
    try simp only [hA.2.1] at w5
    simp only [q1, Bool.false_eq_true, if_false]
    cbv
    simp only [if_false, if_true, lw]
    cbv
    simp only [q2, q3, if_true]
    cbv
    simp only [if_false, if_true, lw]
    cbv
    simp only [w5]
    cbv
    obtain ⟨q1, q2, q3, w8⟩ := h.idxm Ac c7
    try simp only [hA.2.1] at w8
    simp only [q1, Bool.false_eq_true, if_false]
    cbv
    simp only [if_false, if_true, lw]
    cbv
    simp only [q2, q3, if_true]
    cbv
    cases c10 : pset L0 (xar .add .i64 v1 v10) ⟨Dn, ⟨Dp, Dq, Dr, Ds, Dt⟩⟩ with
    | none => simp only [c10] at hp; cases hp
    | some l9 =>
     simp only [c10] at hp
     obtain ⟨q1, q2, q3, ⟨y, q4⟩, q5, q6⟩ := h.set_ Ac c10
     simp only [hA.2.1] at q5
     try simp only [if_false, if_true, lw]
     try cbv
     try simp only [w8]
     cbv
     try simp only [w8]
     try simp only [List.headD, splice, List.take_succ_cons, List.take_zero, List.drop_succ_cons, List.drop_zero, List.cons_append, List.nil_append, List.length_cons, List.length_nil, Nat.zero_add, Nat.reduceAdd]
     simp only [q5]
     try simp only [← q6]
     try simp only [h.set_o, h.st_, h.sb_ hl0, h.sb_ hl1, h.sb_ hl2, h.sb_ hl3]
     try cbv
     cbv
     cases c13 : pidx l9 (xar .add .i64 v2 v10) with
     | none => simp only [c13] at hp; cases hp
     | some y16 =>
      obtain ⟨Ej, ⟨Cq, Cr, Cs, Ct, Cu⟩⟩ := y16
      simp only [c13] at hp
      obtain ⟨q1, q2, q3, w11⟩ := h.idxm Ac c13
      try simp only [hA.2.1] at w11
      simp only [q1, Bool.false_eq_true, if_false]
      cbv
      simp only [if_false, if_true, lw_0]
      cbv
      simp only [q2, q3, if_true]
      cbv
      cases c15 : pset l9 (xar .add .i64 v2 v10) ⟨Jr, ⟨Ha, Hb, Hc, He, Hf⟩⟩ with
      | none => simp only [c15] at hp; cases hp
      | some l14 =>
       simp only [c15] at hp
       obtain ⟨q1, q2, q3, ⟨y, q4⟩, q5, q6⟩ := h.set_ Ac c15
       simp only [hA.2.1] at q5
       try simp only [if_false, if_true, lw_0]
       try cbv
       try simp only [w11]
       cbv
       try simp only [w11]
       try simp only [List.headD, splice, List.take_succ_cons, List.take_zero, List.drop_succ_cons, List.drop_zero, List.cons_append, List.nil_append, List.length_cons, List.length_nil, Nat.zero_add, Nat.reduceAdd]
       simp only [q5]
       try simp only [← q6]
       try simp only [h.set_o, h.st_, h.sb_ hl0, h.sb_ hl1, h.sb_ hl2, h.sb_ hl3]
       try simp only [h.so, h.sc Al, h.sc Ao, h.sc Aq, h.sc Ar, h.sc At, h.sc Au]
       try cbv
       cbv
       try simp only [if_false, if_true, hn]
       try cbv
       try simp only [if_false, if_true, hn]
       try cbv
       rw [h.at_, hT]
       cbv
       cases hp
       try simp only [el, O_zcl, B_zcl_1, A_zcl_1]
       try (simp only [h.so, h.sc Al, h.sc Ao, h.sc Aq, h.sc Ar, h.sc At, h.sc Au])
       try simp only [if_false, if_true, hn]
       all_goals first | rfl | (cbv; done) | (simp only [h.lits, hA, el, O_zcl, A_zcl_1, B_zcl_1, if_true]; first | done | rfl | (cbv; done) | (cbv; simp only [h.lits, hA, el, O_zcl, A_zcl_1, B_zcl_1]; done))
end
def b_zch_0 (P : Prims) (c_zcl : Y_zcl) (Ad : Nat) (Aa : Ss) (Ae : Nat) (L3 : Mi) (l_1 : T_zch_1 → Option R_zch) : T_zch_0 → Option R_zch
 | (v1, v2, v3, L0) =>
 l_1 (L0, v2, P.ar .sub .i64 v2 v1, P.ar .sub .i64 v3 v2)
section
variable (c_zcl : Y_zcl) (h_zcl : (C_zcl Am @Ab Aw @Av Ay Ac A0 Ax c_zcl)) (m : Nat) (n0 n1 n2 n3 : Nat) (k0 k1 k2 k3 : Kl) (Ad : Nat) (Aa : Ss) (Ae : Nat) (L3 : Mi) (hl0 : n0 < m) (hl1 : n1 < m) (hl2 : n2 < m) (hl3 : n3 < m) (Al : NE n0 k0 n1 k1) (Ao : NE n0 k0 n2 k2) (Aq : NE n0 k0 n3 k3) (Ar : NE n1 k1 n2 k2) (At : NE n1 k1 n3 k3) (Au : NE n2 k2 n3 k3)
include c_zcl h_zcl m n0 n1 n2 n3 k0 k1 k2 k3 Ad Aa Ae L3 hl0 hl1 hl2 hl3 Al Ao Aq Ar At Au
theorem o_zch_0 {l_1 : T_zch_1 → Option R_zch} (h_l_1 : H_zch_1 Ap @Ab Aw @Av Ay Ac A0 Ax m n0 n1 n2 n3 k0 k1 k2 k3 Ad Aa Ae L3 l_1) : H_zch_0 Ap @Ab Aw @Av Ay Ac A0 Ax m n0 n1 n2 n3 k0 k1 k2 k3 Ad Aa Ae L3 (b_zch_0 PP c_zcl Ad Aa Ae L3 l_1) := by
 rintro ⟨v1, v2, v3, L0⟩ out hp stk ⟨hg0, hg1, hg2, hg3, _⟩
 have hn := And.intro (nlt hl0) (And.intro (nlt hl1) (And.intro (nlt hl2) (nlt hl3)))
 subst hPP
 simp only [b_zch_0] at hp
 simp only [A_zch_0]
 rw [h.at_, hT]
 cbv
 try simp only [if_false, if_true, hn]
 first | exact h_l_1 hp stk ⟨hg0, hg1, hg2, hg3, trivial⟩ | (have q := h_l_1 hp stk ⟨hg0, hg1, hg2, hg3, trivial⟩; simp only [A_zch_1, h.lits, hA] at q; first | exact q | (cbv; exact q))
def b_zch_1 (P : Prims) (c_zcl : Y_zcl) (Ad : Nat) (Aa : Ss) (Ae : Nat) (L3 : Mi) : T_zch_1 → Option (T_zch_1 ⊕ R_zch)
 | (L0, v2, v10, v11) =>
 match P.cmp .neq v10 v11 with
 | false =>
  match c_zcl (P.ar .sub .i64 v2 v10) v2 v10 Ad L0 Aa Ae L3 with
  | none => none
  | some Hp =>
   match P.cmp .eql (P.len Hp) (P.len L0) with
   | false => none
   | true =>
    some (.inr Hp)
 | true =>
  match P.cmp .gtr v10 v11 with
  | false =>
   match c_zcl (P.ar .sub .i64 v2 v10) (P.ar .sub .i64 (P.ar .add .i64 v2 v11) v10) v10 Ad L0 Aa Ae L3 with
   | none => none
   | some Hq =>
    match P.cmp .eql (P.len Hq) (P.len L0) with
    | false => none
    | true =>
     some (.inl (Hq, v2, v10, P.ar .sub .i64 v11 v10))
  | true =>
   match c_zcl (P.ar .sub .i64 v2 v10) v2 v11 Ad L0 Aa Ae L3 with
   | none => none
   | some Hr =>
    match P.cmp .eql (P.len Hr) (P.len L0) with
    | false => none
    | true =>
     some (.inl (Hr, v2, P.ar .sub .i64 v10 v11, v11))
theorem o_zch_1 : HdG (G_zch_1 @Ab @Av Ac A0 Ax n0 n1 n2 n3 k0 k1 k2 k3 Ad Aa Ae L3) (b_zch_1 PP c_zcl Ad Aa Ae L3 ) (A_zch_1 Ap @Ab Aw Ac m n0 n1 n2 n3 k0 k1 k2 k3 Ad Aa Ae L3) (el (B_zch_1 Ap @Ab Aw Ay Ac m n0 n1 n2 n3 k0 k1 k2 k3 Ad Aa Ae L3) (O_zch @Ab Ay Ac m n0 n1 n2 n3 k0 k1 k2 k3 Ad Aa Ae L3)) := by
 rintro ⟨L0, v2, v10, v11⟩ out hp stk ⟨hg0, hg1, hg2, hg3, _⟩
 have hn := And.intro (nlt hl0) (And.intro (nlt hl1) (And.intro (nlt hl2) (nlt hl3)))
 subst hPP
 simp only [b_zch_1] at hp
 simp only [A_zch_1]
 rw [h.at_, hT]
 cbv
 cases c1 : xcmp .neq v10 v11 with
 | false =>
  simp only [c1] at hp ⊢
  cbv
  try simp only [if_false, if_true, hn]
  try cbv
  try simp only [if_false, if_true, hn]
  try cbv
  rw [h.at_, hT]
  cbv
  cases c10 : c_zcl (xar .sub .i64 v2 v10) v2 v10 Ad L0 Aa Ae L3 with
  | none => simp only [c10] at hp; cases hp
  | some Hp =>
   simp only [c10] at hp
   have qc := h_zcl c10 (⟨m, []⟩ :: stk) n0 k0 n1 k1 n2 k2 n3 k3 ((h.gb hl0 _ _).trans (hg0)) ((h.gb hl1 _ _).trans (hg1)) ((h.gb hl2 _ _).trans (hg2)) ((h.gb hl3 _ _).trans (hg3)) (Nat.le_of_lt hl0) (Nat.le_of_lt hl1) (Nat.le_of_lt hl2) (Nat.le_of_lt hl3) Al Ao Aq Ar At Au
   simp only [qc]
   simp only [h.st_, h.sb_ hl0, h.sb_ hl1, h.sb_ hl2, h.sb_ hl3]
   cbv
   cases c11 : xcmp .eql (plen Hp) (plen L0) with
   | false => simp only [c11] at hp; cases hp
   | true =>
    simp only [c11] at hp
    try simp only [← h.lenEq Ac c11]
    cbv
    cases hp
    try simp only [el, O_zch, B_zch_1, A_zch_1]
    try (simp only [h.so, h.sc Al, h.sc Ao, h.sc Aq, h.sc Ar, h.sc At, h.sc Au])
    try simp only [if_false, if_true, hn]
    all_goals first | rfl | (cbv; done) | (simp only [h.lits, hA, el, O_zch, A_zch_1, B_zch_1, if_true]; first | done | rfl | (cbv; done) | (cbv; simp only [h.lits, hA, el, O_zch, A_zch_1, B_zch_1]; done))
 | true =>
  simp only [c1] at hp ⊢
  cbv
  try simp only [if_false, if_true, hn]
  try cbv
  try simp only [if_false, if_true, hn]
  try cbv
  rw [h.at_, hT]
  cbv
  cases c2 : xcmp .gtr v10 v11 with
  | false =>
   simp only [c2] at hp ⊢
   cbv
   cases c7 : c_zcl (xar .sub .i64 v2 v10) (xar .sub .i64 (xar .add .i64 v2 v11) v10) v10 Ad L0 Aa Ae L3 with
   | none => simp only [c7] at hp; cases hp
   | some Hq =>
    simp only [c7] at hp
    have qc := h_zcl c7 (⟨m, []⟩ :: stk) n0 k0 n1 k1 n2 k2 n3 k3 ((h.gb hl0 _ _).trans (hg0)) ((h.gb hl1 _ _).trans (hg1)) ((h.gb hl2 _ _).trans (hg2)) ((h.gb hl3 _ _).trans (hg3)) (Nat.le_of_lt hl0) (Nat.le_of_lt hl1) (Nat.le_of_lt hl2) (Nat.le_of_lt hl3) Al Ao Aq Ar At Au
    simp only [qc]
    simp only [h.st_, h.sb_ hl0, h.sb_ hl1, h.sb_ hl2, h.sb_ hl3]
    cbv
    cases c8 : xcmp .eql (plen Hq) (plen L0) with
    | false => simp only [c8] at hp; cases hp
    | true =>
     simp only [c8] at hp
     try simp only [← h.lenEq Ac c8]
     cbv
     cases hp
     try simp only [el, O_zch, B_zch_1, A_zch_1]
     try (simp only [h.so, h.sc Al, h.sc Ao, h.sc Aq, h.sc Ar, h.sc At, h.sc Au])
     try simp only [if_false, if_true, hn]
     all_goals first | rfl | (cbv; done) | (simp only [h.lits, hA, el, O_zch, A_zch_1, B_zch_1, if_true]; first | done | rfl | (cbv; done) | (cbv; simp only [h.lits, hA, el, O_zch, A_zch_1, B_zch_1]; done))
  | true =>
   simp only [c2] at hp ⊢
   cbv
   cases c4 : c_zcl (xar .sub .i64 v2 v10) v2 v11 Ad L0 Aa Ae L3 with
   | none => simp only [c4] at hp; cases hp
   | some Hr =>
    simp only [c4] at hp
    have qc := h_zcl c4 (⟨m, []⟩ :: stk) n0 k0 n1 k1 n2 k2 n3 k3 ((h.gb hl0 _ _).trans (hg0)) ((h.gb hl1 _ _).trans (hg1)) ((h.gb hl2 _ _).trans (hg2)) ((h.gb hl3 _ _).trans (hg3)) (Nat.le_of_lt hl0) (Nat.le_of_lt hl1) (Nat.le_of_lt hl2) (Nat.le_of_lt hl3) Al Ao Aq Ar At Au
    simp only [qc]
    simp only [h.st_, h.sb_ hl0, h.sb_ hl1, h.sb_ hl2, h.sb_ hl3]
    cbv
    cases c5 : xcmp .eql (plen Hr) (plen L0) with
    | false => simp only [c5] at hp; cases hp
    | true =>
     simp only [c5] at hp
     try simp only [← h.lenEq Ac c5]
     cbv
     cases hp
     try simp only [el, O_zch, B_zch_1, A_zch_1]
     try (simp only [h.so, h.sc Al, h.sc Ao, h.sc Aq, h.sc Ar, h.sc At, h.sc Au])
     try simp only [if_false, if_true, hn]
     all_goals first | rfl | (cbv; done) | (simp only [h.lits, hA, el, O_zch, A_zch_1, B_zch_1, if_true]; first | done | rfl | (cbv; done) | (cbv; simp only [h.lits, hA, el, O_zch, A_zch_1, B_zch_1]; done))
end
def b_zcn_0 (P : Prims) (c_zcy : Y_zcy) (c_zch : Y_zch) (c_zcn : Y_zcn) (Ad : Nat) (Aa : Ss) (Ae : Nat) (L3 : Mi) (l_1 : T_zcn_1 → Option R_zcn) (l_9 : T_zcn_9 → Option R_zcn) (l_17 : T_zcn_17 → Option R_zcn) : T_zcn_0 → Option R_zcn
 | (v1, v2, v3, L0) =>
 match P.cmp .eql (P.ar .sub .i64 v2 v1) 1 with
 | false =>
  match P.cmp .eql (P.ar .sub .i64 v3 v2) 1 with
  | false =>
   match P.shf .shr .u64 (P.wrap .u64 (P.ar .add .i64 v1 v3)) 1 with
   | none => none
   | some n3 =>
    match P.cmp .gtr v2 (P.wrap .i64 n3) with
    | false =>
     l_17 (L0, v1, v2, v3, P.wrap .i64 n3, P.ar .add .i64 (P.wrap .i64 n3) v2, v1, v2)
    | true =>
     l_17 (L0, v1, v2, v3, P.wrap .i64 n3, P.ar .add .i64 (P.wrap .i64 n3) v2, P.ar .sub .i64 (P.ar .add .i64 (P.wrap .i64 n3) v2) v3, P.wrap .i64 n3)
  | true =>
   l_9 (L0, v2, v1, v2)
 | true =>
  l_1 (L0, v1, v2, v3)
section
variable (c_zcy : Y_zcy) (c_zch : Y_zch) (c_zcn : Y_zcn) (h_zcy : (C_zcy As Am @Ab @Av Ag Ac A0 Ax c_zcy)) (h_zch : (C_zch Am @Ab Aw @Av Ay Ac A0 Ax c_zch)) (h_zcn : (C_zcn Am @Ab Aw @Av Ay Ac A0 Ax c_zcn)) (m : Nat) (n0 n1 n2 n3 : Nat) (k0 k1 k2 k3 : Kl) (Ad : Nat) (Aa : Ss) (Ae : Nat) (L3 : Mi) (hl0 : n0 < m) (hl1 : n1 < m) (hl2 : n2 < m) (hl3 : n3 < m) (Al : NE n0 k0 n1 k1) (Ao : NE n0 k0 n2 k2) (Aq : NE n0 k0 n3 k3) (Ar : NE n1 k1 n2 k2) (At : NE n1 k1 n3 k3) (Au : NE n2 k2 n3 k3)
include c_zcy c_zch c_zcn h_zcy h_zch h_zcn m n0 n1 n2 n3 k0 k1 k2 k3 Ad Aa Ae L3 hl0 hl1 hl2 hl3 Al Ao Aq Ar At Au
theorem o_zcn_0 {l_1 : T_zcn_1 → Option R_zcn} {l_9 : T_zcn_9 → Option R_zcn} {l_17 : T_zcn_17 → Option R_zcn} (h_l_1 : H_zcn_1 Ap @Ab Aw @Av Ay Ac A0 Ax m n0 n1 n2 n3 k0 k1 k2 k3 Ad Aa Ae L3 l_1) (h_l_9 : H_zcn_9 Ap @Ab Aw @Av Ay Ac A0 Ax m n0 n1 n2 n3 k0 k1 k2 k3 Ad Aa Ae L3 l_9) (h_l_17 : H_zcn_17 Ap @Ab Aw @Av Ay Ac A0 Ax m n0 n1 n2 n3 k0 k1 k2 k3 Ad Aa Ae L3 l_17) : H_zcn_0 Ap @Ab Aw @Av Ay Ac A0 Ax m n0 n1 n2 n3 k0 k1 k2 k3 Ad Aa Ae L3 (b_zcn_0 PP c_zcy c_zch c_zcn Ad Aa Ae L3 l_1 l_9 l_17) := by
 rintro ⟨v1, v2, v3, L0⟩ out hp stk ⟨hg0, hg1, hg2, hg3, _⟩
 have hn := And.intro (nlt hl0) (And.intro (nlt hl1) (And.intro (nlt hl2) (nlt hl3)))
 subst hPP
 simp only [b_zcn_0] at hp
 simp only [A_zcn_0]
 rw [h.at_, hT]
 cbv
 cases c1 : xcmp .eql (xar .sub .i64 v2 v1) 1 with
 | false =>
  simp only [c1] at hp ⊢
  cbv
  try simp only [if_false, if_true, hn]
  try cbv
  try simp only [if_false, if_true, hn]
  try cbv
  rw [h.at_, hT]
  cbv
  cases c2 : xcmp .eql (xar .sub .i64 v3 v2) 1 with
  | false =>
   simp only [c2] at hp ⊢
   cbv
   try simp only [if_false, if_true, hn]
   try cbv
   try simp only [if_false, if_true, hn]
   try cbv
   rw [h.at_, hT]
   cbv
   cases c4 : pshf .shr .u64 (xwrap .u64 (xar .add .i64 v1 v3)) 1 with
   | none => simp only [c4] at hp; cases hp
   | some n3 =>
    simp only [c4] at hp
    obtain ⟨q1, q2⟩ := h.shf c4
    simp only [q1, q2, Bool.false_eq_true, if_false]
    cbv
    cases c5 : xcmp .gtr v2 (xwrap .i64 n3) with
    | false =>
     simp only [c5] at hp ⊢
     cbv
     try simp only [if_false, if_true, hn]
     first | exact h_l_17 hp stk ⟨hg0, hg1, hg2, hg3, trivial⟩ | (have q := h_l_17 hp stk ⟨hg0, hg1, hg2, hg3, trivial⟩; simp only [A_zcn_17, h.lits, hA] at q; first | exact q | (cbv; exact q))
    | true =>
     simp only [c5] at hp ⊢
     cbv
     try simp only [if_false, if_true, hn]
     first | exact h_l_17 hp stk ⟨hg0, hg1, hg2, hg3, trivial⟩ | (have q := h_l_17 hp stk ⟨hg0, hg1, hg2, hg3, trivial⟩; simp only [A_zcn_17, h.lits, hA] at q; first | exact q | (cbv; exact q))
  | true =>
   simp only [c2] at hp ⊢
   cbv
   try simp only [if_false, if_true, hn]
   first | exact h_l_9 hp stk ⟨hg0, hg1, hg2, hg3, trivial⟩ | (have q := h_l_9 hp stk ⟨hg0, hg1, hg2, hg3, trivial⟩; simp only [A_zcn_9, h.lits, hA] at q; first | exact q | (cbv; exact q))
 | true =>
  simp only [c1] at hp ⊢
  cbv
  try simp only [if_false, if_true, hn]
  first | exact h_l_1 hp stk ⟨hg0, hg1, hg2, hg3, trivial⟩ | (have q := h_l_1 hp stk ⟨hg0, hg1, hg2, hg3, trivial⟩; simp only [A_zcn_1, h.lits, hA] at q; first | exact q | (cbv; exact q))
def b_zcn_1 (P : Prims) (c_zcy : Y_zcy) (c_zch : Y_zch) (c_zcn : Y_zcn) (Ad : Nat) (Aa : Ss) (Ae : Nat) (L3 : Mi) (l_4 : T_zcn_4 → Option R_zcn) : T_zcn_1 → Option (T_zcn_1 ⊕ R_zcn)
 | (L0, v1, v10, v11) =>
 match P.cmp .lss v10 v11 with
 | false =>
  match l_4 (L0, v10, v1) with | none => none | some o20 => some (.inr o20)
 | true =>
  match P.shf .shr .u64 (P.wrap .u64 (P.ar .add .i64 v10 v11)) 1 with
  | none => none
  | some n7 =>
   match P.idx L0 (P.wrap .i64 n7) with
   | none => none
   | some ⟨H0, ⟨Fc, Fd, Fe, Ff, Fg⟩⟩ =>
    match P.idx L0 v1 with
    | none => none
    | some ⟨H1, ⟨Fh, Fi, Fj, Fk, Fl⟩⟩ =>
     match c_zcy ⟨H0, ⟨Fc, Fd, Fe, Ff, Fg⟩⟩ ⟨H1, ⟨Fh, Fi, Fj, Fk, Fl⟩⟩ Aa Ae L3 with
     | none => none
     | some H2 =>
      match P.cmp .lss H2 0 with
      | false =>
       some (.inl (L0, v1, v10, P.wrap .i64 n7))
      | true =>
       some (.inl (L0, v1, P.ar .add .i64 (P.wrap .i64 n7) 1, v11))
theorem o_zcn_1 {l_4 : T_zcn_4 → Option R_zcn} (h_l_4 : H_zcn_4 Ap @Ab Aw @Av Ay Ac A0 Ax m n0 n1 n2 n3 k0 k1 k2 k3 Ad Aa Ae L3 l_4) : HdG (G_zcn_1 @Ab @Av Ac A0 Ax n0 n1 n2 n3 k0 k1 k2 k3 Ad Aa Ae L3) (b_zcn_1 PP c_zcy c_zch c_zcn Ad Aa Ae L3 l_4) (A_zcn_1 Ap @Ab Aw Ac m n0 n1 n2 n3 k0 k1 k2 k3 Ad Aa Ae L3) (el (B_zcn_1 Ap @Ab Aw Ay Ac m n0 n1 n2 n3 k0 k1 k2 k3 Ad Aa Ae L3) (O_zcn @Ab Ay Ac m n0 n1 n2 n3 k0 k1 k2 k3 Ad Aa Ae L3)) := by
 rintro ⟨L0, v1, v10, v11⟩ out hp stk ⟨hg0, hg1, hg2, hg3, _⟩
 have hn := And.intro (nlt hl0) (And.intro (nlt hl1) (And.intro (nlt hl2) (nlt hl3)))
 have lw := And.intro hn (And.intro hg0 (And.intro hg1 (And.intro hg2 (hg3))))
 subst hPP
 simp only [b_zcn_1] at hp
 simp only [A_zcn_1]
 rw [h.at_, hT]
 cbv
 cases c6 : xcmp .lss v10 v11 with
 | false =>
  simp only [c6] at hp ⊢
  cbv
  try simp only [if_false, if_true, hn]
  try cbv
  try simp only [if_false, if_true, hn]
  try cbv
  rw [h.at_, hT]
  cbv
  cases c : l_4 (L0, v10, v1) with
  | none => simp only [c] at hp; cases hp
  | some o20 =>
   simp only [c] at hp
   cases hp
   try simp only [if_false, if_true, hn]
   first | exact h_l_4 c stk ⟨hg0, hg1, hg2, hg3, trivial⟩ | (have q := h_l_4 c stk ⟨hg0, hg1, hg2, hg3, trivial⟩; simp only [A_zcn_4, h.lits, hA] at q; first | exact q | (cbv; exact q))
 | true =>
  simp only [c6] at hp ⊢
  cbv
  try simp only [if_false, if_true, hn]
  try cbv
  try simp only [if_false, if_true, hn]
  try cbv
  rw [h.at_, hT]
  cbv
  cases c8 : pshf .shr .u64 (xwrap .u64 (xar .add .i64 v10 v11)) 1 with
  | none => simp only [c8] at hp; cases hp
  | some n7 =>
   simp only [c8] at hp
   obtain ⟨q1, q2⟩ := h.shf c8
   simp only [q1, q2, Bool.false_eq_true, if_false]
   cbv
   cases c11 : pidx L0 (xwrap .i64 n7) with
   | none => simp only [c11] at hp; cases hp
   | some y19 =>
    obtain ⟨H0, ⟨Fc, Fd, Fe, Ff, Fg⟩⟩ := y19
    simp only [c11] at hp
    obtain ⟨q1, q2, q3, w9⟩ := h.idxm Ac c11
    try simp only [hA.2.1] at w9
    simp only [q1, Bool.false_eq_true, if_false]
    cbv
    simp only [if_false, if_true, lw]
    cbv
    simp only [q2, q3, if_true]
    cbv
    simp only [if_false, if_true, lw]
    cbv
    simp only [w9]
    cbv
    cases c14 : pidx L0 v1 with
    | none => simp only [c14] at hp; cases hp
    | some y18 =>
     obtain ⟨H1, ⟨Fh, Fi, Fj, Fk, Fl⟩⟩ := y18
     simp only [c14] at hp
     obtain ⟨q1, q2, q3, w12⟩ := h.idxm Ac c14
     try simp only [hA.2.1] at w12
     simp only [q1, Bool.false_eq_true, if_false]
     cbv
     simp only [if_false, if_true, lw]
     cbv
     simp only [q2, q3, if_true]
     cbv
     simp only [if_false, if_true, lw]
     cbv
     simp only [w12]
     cbv
     cases c16 : c_zcy ⟨H0, ⟨Fc, Fd, Fe, Ff, Fg⟩⟩ ⟨H1, ⟨Fh, Fi, Fj, Fk, Fl⟩⟩ Aa Ae L3 with
     | none => simp only [c16] at hp; cases hp
     | some H2 =>
      simp only [c16] at hp
      have qc := (h_zcy c16 (⟨m, []⟩ :: stk) n1 k1 n2 k2 n3 k3 ((h.gb hl1 _ _).trans (hg1)) ((h.gb hl2 _ _).trans (hg2)) ((h.gb hl3 _ _).trans (hg3)) (Nat.le_of_lt hl1) (Nat.le_of_lt hl2) (Nat.le_of_lt hl3) Ar At Au).1
      simp only [qc]
      cbv
      cases c17 : xcmp .lss H2 0 with
      | false =>
       simp only [c17] at hp ⊢
       cbv
       cases hp
       try simp only [el, O_zcn, B_zcn_1, A_zcn_1]
       try (simp only [h.ss hg0])
       try simp only [if_false, if_true, hn]
       all_goals first | rfl | (cbv; done) | (simp only [h.lits, hA, el, O_zcn, A_zcn_1, B_zcn_1, if_true]; first | done | rfl | (cbv; done) | (cbv; simp only [h.lits, hA, el, O_zcn, A_zcn_1, B_zcn_1]; done))
      | true =>
       simp only [c17] at hp ⊢
       cbv
       cases hp
       try simp only [el, O_zcn, B_zcn_1, A_zcn_1]
       try (simp only [h.ss hg0])
       try simp only [if_false, if_true, hn]
       all_goals first | rfl | (cbv; done) | (simp only [h.lits, hA, el, O_zcn, A_zcn_1, B_zcn_1, if_true]; first | done | rfl | (cbv; done) | (cbv; simp only [h.lits, hA, el, O_zcn, A_zcn_1, B_zcn_1]; done))
def b_zcn_9 (P : Prims) (c_zcy : Y_zcy) (c_zch : Y_zch) (c_zcn : Y_zcn) (Ad : Nat) (Aa : Ss) (Ae : Nat) (L3 : Mi) (l_12 : T_zcn_12 → Option R_zcn) : T_zcn_9 → Option (T_zcn_9 ⊕ R_zcn)
 | (L0, v2, v14, v15) =>
 match P.cmp .lss v14 v15 with
 | false =>
  match l_12 (L0, v14, v2) with | none => none | some o35 => some (.inr o35)
 | true =>
  match P.shf .shr .u64 (P.wrap .u64 (P.ar .add .i64 v14 v15)) 1 with
  | none => none
  | some n22 =>
   match P.idx L0 v2 with
   | none => none
   | some ⟨H3, ⟨Fm, Fn, Fo, Fp, Fq⟩⟩ =>
    match P.idx L0 (P.wrap .i64 n22) with
    | none => none
    | some ⟨H4, ⟨Fr, Fs, Ft, Fu, Fv⟩⟩ =>
     match c_zcy ⟨H3, ⟨Fm, Fn, Fo, Fp, Fq⟩⟩ ⟨H4, ⟨Fr, Fs, Ft, Fu, Fv⟩⟩ Aa Ae L3 with
     | none => none
     | some H5 =>
      match P.cmp .lss H5 0 with
      | false =>
       some (.inl (L0, v2, P.ar .add .i64 (P.wrap .i64 n22) 1, v15))
      | true =>
       some (.inl (L0, v2, v14, P.wrap .i64 n22))
theorem o_zcn_9 {l_12 : T_zcn_12 → Option R_zcn} (h_l_12 : H_zcn_12 Ap @Ab Aw @Av Ay Ac A0 Ax m n0 n1 n2 n3 k0 k1 k2 k3 Ad Aa Ae L3 l_12) : HdG (G_zcn_9 @Ab @Av Ac A0 Ax n0 n1 n2 n3 k0 k1 k2 k3 Ad Aa Ae L3) (b_zcn_9 PP c_zcy c_zch c_zcn Ad Aa Ae L3 l_12) (A_zcn_9 Ap @Ab Aw Ac m n0 n1 n2 n3 k0 k1 k2 k3 Ad Aa Ae L3) (el (B_zcn_9 Ap @Ab Aw Ay Ac m n0 n1 n2 n3 k0 k1 k2 k3 Ad Aa Ae L3) (O_zcn @Ab Ay Ac m n0 n1 n2 n3 k0 k1 k2 k3 Ad Aa Ae L3)) := by
 rintro ⟨L0, v2, v14, v15⟩ out hp stk ⟨hg0, hg1, hg2, hg3, _⟩
 have hn := And.intro (nlt hl0) (And.intro (nlt hl1) (And.intro (nlt hl2) (nlt hl3)))
 have lw := And.intro hn (And.intro hg0 (And.intro hg1 (And.intro hg2 (hg3))))
 subst hPP
 simp only [b_zcn_9] at hp
 simp only [A_zcn_9]
 rw [h.at_, hT]
 cbv
 cases c21 : xcmp .lss v14 v15 with
 | false =>
  simp only [c21] at hp ⊢
  cbv
  try simp only [if_false, if_true, hn]
  try cbv
  try simp only [if_false, if_true, hn]
  try cbv
  rw [h.at_, hT]
  cbv
  cases c : l_12 (L0, v14, v2) with
  | none => simp only [c] at hp; cases hp
  | some o35 =>
   simp only [c] at hp
   cases hp
   try simp only [if_false, if_true, hn]
   first | exact h_l_12 c stk ⟨hg0, hg1, hg2, hg3, trivial⟩ | (have q := h_l_12 c stk ⟨hg0, hg1, hg2, hg3, trivial⟩; simp only [A_zcn_12, h.lits, hA] at q; first | exact q | (cbv; exact q))
 | true =>
  simp only [c21] at hp ⊢
  cbv
  try simp only [if_false, if_true, hn]
  try cbv
  try simp only [if_false, if_true, hn]
  try cbv
  rw [h.at_, hT]
  cbv
  cases c23 : pshf .shr .u64 (xwrap .u64 (xar .add .i64 v14 v15)) 1 with
  | none => simp only [c23] at hp; cases hp
  | some n22 =>
   simp only [c23] at hp
   obtain ⟨q1, q2⟩ := h.shf c23
   simp only [q1, q2, Bool.false_eq_true, if_false]
   cbv
   cases c26 : pidx L0 v2 with
   | none => simp only [c26] at hp; cases hp
   | some y34 =>
    obtain ⟨H3, ⟨Fm, Fn, Fo, Fp, Fq⟩⟩ := y34
    simp only [c26] at hp
    obtain ⟨q1, q2, q3, w24⟩ := h.idxm Ac c26
    try simp only [hA.2.1] at w24
    simp only [q1, Bool.false_eq_true, if_false]
    cbv
    simp only [if_false, if_true, lw]
    cbv
    simp only [q2, q3, if_true]
    cbv
    simp only [if_false, if_true, lw]
    cbv
    simp only [w24]
    cbv
    cases c29 : pidx L0 (xwrap .i64 n22) with
    | none => simp only [c29] at hp; cases hp
    | some y33 =>
     obtain ⟨H4, ⟨Fr, Fs, Ft, Fu, Fv⟩⟩ := y33
     simp only [c29] at hp
     obtain ⟨q1, q2, q3, w27⟩ := h.idxm Ac c29
     try simp only [hA.2.1] at w27
     simp only [q1, Bool.false_eq_true, if_false]
     cbv
     simp only [if_false, if_true, lw]
     cbv
     simp only [q2, q3, if_true]
     cbv
     simp only [if_false, if_true, lw]
     cbv
     simp only [w27]
     cbv
     cases c31 : c_zcy ⟨H3, ⟨Fm, Fn, Fo, Fp, Fq⟩⟩ ⟨H4, ⟨Fr, Fs, Ft, Fu, Fv⟩⟩ Aa Ae L3 with
     | none => simp only [c31] at hp; cases hp
     | some H5 =>
      simp only [c31] at hp
      have qc := (h_zcy c31 (⟨m, []⟩ :: stk) n1 k1 n2 k2 n3 k3 ((h.gb hl1 _ _).trans (hg1)) ((h.gb hl2 _ _).trans (hg2)) ((h.gb hl3 _ _).trans (hg3)) (Nat.le_of_lt hl1) (Nat.le_of_lt hl2) (Nat.le_of_lt hl3) Ar At Au).1
      simp only [qc]
      cbv
      cases c32 : xcmp .lss H5 0 with
      | false =>
       simp only [c32] at hp ⊢
       cbv
       cases hp
       try simp only [el, O_zcn, B_zcn_9, A_zcn_9]
       try (simp only [h.ss hg0])
       try simp only [if_false, if_true, hn]
       all_goals first | rfl | (cbv; done) | (simp only [h.lits, hA, el, O_zcn, A_zcn_9, B_zcn_9, if_true]; first | done | rfl | (cbv; done) | (cbv; simp only [h.lits, hA, el, O_zcn, A_zcn_9, B_zcn_9]; done))
      | true =>
       simp only [c32] at hp ⊢
       cbv
       cases hp
       try simp only [el, O_zcn, B_zcn_9, A_zcn_9]
       try (simp only [h.ss hg0])
       try simp only [if_false, if_true, hn]
       all_goals first | rfl | (cbv; done) | (simp only [h.lits, hA, el, O_zcn, A_zcn_9, B_zcn_9, if_true]; first | done | rfl | (cbv; done) | (cbv; simp only [h.lits, hA, el, O_zcn, A_zcn_9, B_zcn_9]; done))
def b_zcn_17 (P : Prims) (c_zcy : Y_zcy) (c_zch : Y_zch) (c_zcn : Y_zcn) (Ad : Nat) (Aa : Ss) (Ae : Nat) (L3 : Mi) (l_18 : T_zcn_18 → Option R_zcn) : T_zcn_17 → Option R_zcn
 | (L0, v1, v2, v3, v18, v19, v20, v21) =>
 l_18 (L0, v1, v2, v3, v18, v19, v20, v21, P.ar .sub .i64 v19 1)
theorem o_zcn_17 {l_18 : T_zcn_18 → Option R_zcn} (h_l_18 : H_zcn_18 Ap @Ab Aw @Av Ay Ac A0 Ax m n0 n1 n2 n3 k0 k1 k2 k3 Ad Aa Ae L3 l_18) : H_zcn_17 Ap @Ab Aw @Av Ay Ac A0 Ax m n0 n1 n2 n3 k0 k1 k2 k3 Ad Aa Ae L3 (b_zcn_17 PP c_zcy c_zch c_zcn Ad Aa Ae L3 l_18) := by
 rintro ⟨L0, v1, v2, v3, v18, v19, v20, v21⟩ out hp stk ⟨hg0, hg1, hg2, hg3, _⟩
 have hn := And.intro (nlt hl0) (And.intro (nlt hl1) (And.intro (nlt hl2) (nlt hl3)))
 subst hPP
 simp only [b_zcn_17] at hp
 simp only [A_zcn_17]
 rw [h.at_, hT]
 cbv
 try simp only [if_false, if_true, hn]
 first | exact h_l_18 hp stk ⟨hg0, hg1, hg2, hg3, trivial⟩ | (have q := h_l_18 hp stk ⟨hg0, hg1, hg2, hg3, trivial⟩; simp only [A_zcn_18, h.lits, hA] at q; first | exact q | (cbv; exact q))
def b_zcn_4 (P : Prims) (c_zcy : Y_zcy) (c_zch : Y_zch) (c_zcn : Y_zcn) (Ad : Nat) (Aa : Ss) (Ae : Nat) (L3 : Mi) : T_zcn_4 → Option (T_zcn_4 ⊕ R_zcn)
 | (L0, v10, v13) =>
 match P.cmp .lss v13 (P.ar .sub .i64 v10 1) with
 | false =>
  some (.inr L0)
 | true =>
  match P.idx L0 (P.ar .add .i64 v13 1) with
  | none => none
  | some ⟨H6, ⟨Fw, Fx, Fy, Fz, F0⟩⟩ =>
   match P.idx L0 v13 with
   | none => none
   | some ⟨H7, ⟨F1, F2, F3, F4, F5⟩⟩ =>
    match P.set L0 v13 ⟨H6, ⟨Fw, Fx, Fy, Fz, F0⟩⟩ with
    | none => none
    | some l44 =>
     match P.idx l44 (P.ar .add .i64 v13 1) with
     | none => none
     | some ⟨J2, ⟨Iz, I0, I4, I5, I6⟩⟩ =>
      match P.set l44 (P.ar .add .i64 v13 1) ⟨H7, ⟨F1, F2, F3, F4, F5⟩⟩ with
      | none => none
      | some l49 =>
       some (.inl (l49, v10, P.ar .add .i64 v13 1))
theorem o_zcn_4 : HdG (G_zcn_4 @Ab @Av Ac A0 Ax n0 n1 n2 n3 k0 k1 k2 k3 Ad Aa Ae L3) (b_zcn_4 PP c_zcy c_zch c_zcn Ad Aa Ae L3 ) (A_zcn_4 Ap @Ab Aw Ac m n0 n1 n2 n3 k0 k1 k2 k3 Ad Aa Ae L3) (el (B_zcn_4 Ap @Ab Aw Ay Ac m n0 n1 n2 n3 k0 k1 k2 k3 Ad Aa Ae L3) (O_zcn @Ab Ay Ac m n0 n1 n2 n3 k0 k1 k2 k3 Ad Aa Ae L3)) := by
 rintro ⟨L0, v10, v13⟩ out hp stk ⟨hg0, hg1, hg2, hg3, _⟩
 have hn := And.intro (nlt hl0) (And.intro (nlt hl1) (And.intro (nlt hl2) (nlt hl3)))
 have lw := And.intro hn (And.intro hg0 (And.intro hg1 (And.intro hg2 (hg3))))
 have lw_0 := And.intro hn (And.intro (fun (o0 : O) => h.gs (hg0) o0) (And.intro (fun (o0 : O) => (h.gn (Ne.symm Al) _ o0).trans (hg1)) (And.intro (fun (o0 : O) => (h.gn (Ne.symm Ao) _ o0).trans (hg2)) ((fun (o0 : O) => (h.gn (Ne.symm Aq) _ o0).trans (hg3))))))
 subst hPP
 simp only [b_zcn_4] at hp
 simp only [A_zcn_4]
 rw [h.at_, hT]
 cbv
 cases c36 : xcmp .lss v13 (xar .sub .i64 v10 1) with
 | false =>
  simp only [c36] at hp ⊢
  cbv
  try simp only [if_false, if_true, hn]
  try cbv
  try simp only [if_false, if_true, hn]
  try cbv
  rw [h.at_, hT]
  cbv
  cases hp
  try simp only [el, O_zcn, B_zcn_4, A_zcn_4]
  try (simp only [h.ss hg0])
  try simp only [if_false, if_true, hn]
  all_goals first | rfl | cbv
 | true =>
  simp only [c36] at hp ⊢
  cbv
  try simp only [if_false, if_true, hn]
  try cbv
  try simp only [if_false, if_true, hn]
  try cbv
  rw [h.at_, hT]
  cbv
  cases c39 : pidx L0 (xar .add .i64 v13 1) with
  | none => simp only [c39] at hp; cases hp
  | some y53 =>
   obtain ⟨H6, ⟨Fw, Fx, Fy, Fz, F0⟩⟩ := y53
   simp only [c39] at hp
   obtain ⟨q1, q2, q3, w37⟩ := h.idxm Ac c39
   try simp only [hA.2.1] at w37
   simp only [q1, Bool.false_eq_true, if_false]
   cbv
   simp only [if_false, if_true, lw]
   cbv
   simp only [q2, q3, if_true]
   cbv
   simp only [if_false, if_true, lw]
   cbv
   simp only [w37]
   cbv
   cases c42 : pidx L0 v13 with
   | none => simp only [c42] at hp; cases hp
   | some y52 =>
    obtain ⟨H7, ⟨F1, F2, F3, F4, F5⟩⟩ := y52
    simp only [c42] at hp
    obtain ⟨q1, q2, q3, w40⟩ := h.idxm Ac c42
    try simp only [hA.2.1] at w40
    simp only [q1, Bool.false_eq_true, if_false]
    cbv
    simp only [if_false, if_true, lw]
    cbv
    simp only [q2, q3, if_true]
    cbv
    simp only [if_false, if_true, lw]
    cbv
    simp only [w40]
    cbv
    obtain ⟨q1, q2, q3, w43⟩ := h.idxm Ac c42
    try simp only [hA.2.1] at w43
    simp only [q1, Bool.false_eq_true, if_false]
    cbv
    simp only [if_false, if_true, lw]
    cbv
    simp only [q2, q3, if_true]
    cbv
    cases c45 : pset L0 v13 ⟨H6, ⟨Fw, Fx, Fy, Fz, F0⟩⟩ with
    | none => simp only [c45] at hp; cases hp
    | some l44 =>
     simp only [c45] at hp
     obtain ⟨q1, q2, q3, ⟨y, q4⟩, q5, q6⟩ := h.set_ Ac c45
     simp only [hA.2.1] at q5
     try simp only [if_false, if_true, lw]
     try cbv
     try simp only [w43]
     cbv
     try simp only [w43]
     try simp only [List.headD, splice, List.take_succ_cons, List.take_zero, List.drop_succ_cons, List.drop_zero, List.cons_append, List.nil_append, List.length_cons, List.length_nil, Nat.zero_add, Nat.reduceAdd]
     simp only [q5]
     try simp only [← q6]
     try simp only [h.set_o, h.st_, h.sb_ hl0, h.sb_ hl1, h.sb_ hl2, h.sb_ hl3]
     try cbv
     cbv
     cases c48 : pidx l44 (xar .add .i64 v13 1) with
     | none => simp only [c48] at hp; cases hp
     | some y51 =>
      obtain ⟨J2, ⟨Iz, I0, I4, I5, I6⟩⟩ := y51
      simp only [c48] at hp
      obtain ⟨q1, q2, q3, w46⟩ := h.idxm Ac c48
      try simp only [hA.2.1] at w46
      simp only [q1, Bool.false_eq_true, if_false]
      cbv
      simp only [if_false, if_true, lw_0]
      cbv
      simp only [q2, q3, if_true]
      cbv
      cases c50 : pset l44 (xar .add .i64 v13 1) ⟨H7, ⟨F1, F2, F3, F4, F5⟩⟩ with
      | none => simp only [c50] at hp; cases hp
      | some l49 =>
       simp only [c50] at hp
       obtain ⟨q1, q2, q3, ⟨y, q4⟩, q5, q6⟩ := h.set_ Ac c50
       simp only [hA.2.1] at q5
       try simp only [if_false, if_true, lw_0]
       try cbv
       try simp only [w46]
       cbv
       try simp only [w46]
       try simp only [List.headD, splice, List.take_succ_cons, List.take_zero, List.drop_succ_cons, List.drop_zero, List.cons_append, List.nil_append, List.length_cons, List.length_nil, Nat.zero_add, Nat.reduceAdd]
       simp only [q5]
       try simp only [← q6]
       try simp only [h.set_o, h.st_, h.sb_ hl0, h.sb_ hl1, h.sb_ hl2, h.sb_ hl3]
       try simp only [h.so, h.sc Al, h.sc Ao, h.sc Aq, h.sc Ar, h.sc At, h.sc Au]
       try cbv
       cbv
       try simp only [if_false, if_true, hn]
       try cbv
       try simp only [if_false, if_true, hn]
       try cbv
       rw [h.at_, hT]
       cbv
       cases hp
       try simp only [el, O_zcn, B_zcn_4, A_zcn_4]
       try (simp only [h.so, h.sc Al, h.sc Ao, h.sc Aq, h.sc Ar, h.sc At, h.sc Au])
       try simp only [if_false, if_true, hn]
       all_goals first | rfl | (cbv; done) | (simp only [h.lits, hA, el, O_zcn, A_zcn_4, B_zcn_4, if_true]; first | done | rfl | (cbv; done) | (cbv; simp only [h.lits, hA, el, O_zcn, A_zcn_4, B_zcn_4]; done))
def b_zcn_12 (P : Prims) (c_zcy : Y_zcy) (c_zch : Y_zch) (c_zcn : Y_zcn) (Ad : Nat) (Aa : Ss) (Ae : Nat) (L3 : Mi) : T_zcn_12 → Option (T_zcn_12 ⊕ R_zcn)
 | (L0, v14, v17) =>
 match P.cmp .gtr v17 v14 with
 | false =>
  some (.inr L0)
 | true =>
  match P.idx L0 (P.ar .sub .i64 v17 1) with
  | none => none
  | some ⟨H8, ⟨F6, F7, F8, F9, Ga⟩⟩ =>
   match P.idx L0 v17 with
   | none => none
   | some ⟨H9, ⟨Gb, Gc, Gd, Ge, Gf⟩⟩ =>
    match P.set L0 v17 ⟨H8, ⟨F6, F7, F8, F9, Ga⟩⟩ with
    | none => none
    | some l62 =>
     match P.idx l62 (P.ar .sub .i64 v17 1) with
     | none => none
     | some ⟨J3, ⟨I7, I8, I9, Ja, Jb⟩⟩ =>
      match P.set l62 (P.ar .sub .i64 v17 1) ⟨H9, ⟨Gb, Gc, Gd, Ge, Gf⟩⟩ with
      | none => none
      | some l67 =>
       some (.inl (l67, v14, P.ar .sub .i64 v17 1))
theorem o_zcn_12 : HdG (G_zcn_12 @Ab @Av Ac A0 Ax n0 n1 n2 n3 k0 k1 k2 k3 Ad Aa Ae L3) (b_zcn_12 PP c_zcy c_zch c_zcn Ad Aa Ae L3 ) (A_zcn_12 Ap @Ab Aw Ac m n0 n1 n2 n3 k0 k1 k2 k3 Ad Aa Ae L3) (el (B_zcn_12 Ap @Ab Aw Ay Ac m n0 n1 n2 n3 k0 k1 k2 k3 Ad Aa Ae L3) (O_zcn @Ab Ay Ac m n0 n1 n2 n3 k0 k1 k2 k3 Ad Aa Ae L3)) := by
 rintro ⟨L0, v14, v17⟩ out hp stk ⟨hg0, hg1, hg2, hg3, _⟩
 have hn := And.intro (nlt hl0) (And.intro (nlt hl1) (And.intro (nlt hl2) (nlt hl3)))
 have lw := And.intro hn (And.intro hg0 (And.intro hg1 (And.intro hg2 (hg3))))
 have lw_0 := And.intro hn (And.intro (fun (o0 : O) => h.gs (hg0) o0) (And.intro (fun (o0 : O) => (h.gn (Ne.symm Al) _ o0).trans (hg1)) (And.intro (fun (o0 : O) => (h.gn (Ne.symm Ao) _ o0).trans (hg2)) ((fun (o0 : O) => (h.gn (Ne.symm Aq) _ o0).trans (hg3))))))
 subst hPP
 simp only [b_zcn_12] at hp
 simp only [A_zcn_12]
 rw [h.at_, hT]
 cbv
 cases c54 : xcmp .gtr v17 v14 with
 | false =>
  simp only [c54] at hp ⊢
  cbv
  try simp only [if_false, if_true, hn]
  try cbv
  try simp only [if_false, if_true, hn]
  try cbv
  rw [h.at_, hT]
  cbv
  cases hp
  try simp only [el, O_zcn, B_zcn_12, A_zcn_12]
  try (simp only [h.ss hg0])
  try simp only [if_false, if_true, hn]
  all_goals first | rfl | cbv
 | true =>
  simp only [c54] at hp ⊢
  cbv
  try simp only [if_false, if_true, hn]
  try cbv
  try simp only [if_false, if_true, hn]
  try cbv
  rw [h.at_, hT]
  cbv
  cases c57 : pidx L0 (xar .sub .i64 v17 1) with
  | none => simp only [c57] at hp; cases hp
  | some y71 =>
   obtain ⟨H8, ⟨F6, F7, F8, F9, Ga⟩⟩ := y71
   simp only [c57] at hp
   obtain ⟨q1, q2, q3, w55⟩ := h.idxm Ac c57
   try simp only [hA.2.1] at w55
   simp only [q1, Bool.false_eq_true, if_false]
   cbv
   simp only [if_false, if_true, lw]
   cbv
   simp only [q2, q3, if_true]
   cbv
   simp only [if_false, if_true, lw]
   cbv
   simp only [w55]
   cbv
   cases c60 : pidx L0 v17 with
   | none => simp only [c60] at hp; cases hp
   | some y70 =>
    obtain ⟨H9, ⟨Gb, Gc, Gd, Ge, Gf⟩⟩ := y70
    simp only [c60] at hp
    obtain ⟨q1, q2, q3, w58⟩ := h.idxm Ac c60
    try simp only [hA.2.1] at w58
    simp only [q1, Bool.false_eq_true, if_false]
    cbv
    simp only [if_false, if_true, lw]
    cbv
    simp only [q2, q3, if_true]
    cbv
    simp only [if_false, if_true, lw]
    cbv
    simp only [w58]
    cbv
    obtain ⟨q1, q2, q3, w61⟩ := h.idxm Ac c60
    try simp only [hA.2.1] at w61
    simp only [q1, Bool.false_eq_true, if_false]
    cbv
    simp only [if_false, if_true, lw]
    cbv
    simp only [q2, q3, if_true]
    cbv
    cases c63 : pset L0 v17 ⟨H8, ⟨F6, F7, F8, F9, Ga⟩⟩ with
    | none => simp only [c63] at hp; cases hp
    | some l62 =>
     simp only [c63] at hp
     obtain ⟨q1, q2, q3, ⟨y, q4⟩, q5, q6⟩ := h.set_ Ac c63
     simp only [hA.2.1] at q5
     try simp only [if_false, if_true, lw]
     try cbv
     try simp only [w61]
     cbv
     try simp only [w61]
     try simp only [List.headD, splice, List.take_succ_cons, List.take_zero, List.drop_succ_cons, List.drop_zero, List.cons_append, List.nil_append, List.length_cons, List.length_nil, Nat.zero_add, Nat.reduceAdd]
     simp only [q5]
     try simp only [← q6]
     try simp only [h.set_o, h.st_, h.sb_ hl0, h.sb_ hl1, h.sb_ hl2, h.sb_ hl3]
     try cbv
     cbv
     cases c66 : pidx l62 (xar .sub .i64 v17 1) with
     | none => simp only [c66] at hp; cases hp
     | some y69 =>
      obtain ⟨J3, ⟨I7, I8, I9, Ja, Jb⟩⟩ := y69
      simp only [c66] at hp
      obtain ⟨q1, q2, q3, w64⟩ := h.idxm Ac c66
      try simp only [hA.2.1] at w64
      simp only [q1, Bool.false_eq_true, if_false]
      cbv
      simp only [if_false, if_true, lw_0]
      cbv
      simp only [q2, q3, if_true]
      cbv
      cases c68 : pset l62 (xar .sub .i64 v17 1) ⟨H9, ⟨Gb, Gc, Gd, Ge, Gf⟩⟩ with
      | none => simp only [c68] at hp; cases hp
      | some l67 =>
       simp only [c68] at hp
       obtain ⟨q1, q2, q3, ⟨y, q4⟩, q5, q6⟩ := h.set_ Ac c68
       simp only [hA.2.1] at q5
       try simp only [if_false, if_true, lw_0]
       try cbv
       try simp only [w64]
       cbv
       try simp only [w64]
       try simp only [List.headD, splice, List.take_succ_cons, List.take_zero, List.drop_succ_cons, List.drop_zero, List.cons_append, List.nil_append, List.length_cons, List.length_nil, Nat.zero_add, Nat.reduceAdd]
       simp only [q5]
       try simp only [← q6]
       try simp only [h.set_o, h.st_, h.sb_ hl0, h.sb_ hl1, h.sb_ hl2, h.sb_ hl3]
       try simp only [h.so, h.sc Al, h.sc Ao, h.sc Aq, h.sc Ar, h.sc At, h.sc Au]
       try cbv
       cbv
       try simp only [if_false, if_true, hn]
       try cbv
       try simp only [if_false, if_true, hn]
       try cbv
       rw [h.at_, hT]
       cbv
       cases hp
       try simp only [el, O_zcn, B_zcn_12, A_zcn_12]
       try (simp only [h.so, h.sc Al, h.sc Ao, h.sc Aq, h.sc Ar, h.sc At, h.sc Au])
       try simp only [if_false, if_true, hn]
       all_goals first | rfl | (cbv; done) | (simp only [h.lits, hA, el, O_zcn, A_zcn_12, B_zcn_12, if_true]; first | done | rfl | (cbv; done) | (cbv; simp only [h.lits, hA, el, O_zcn, A_zcn_12, B_zcn_12]; done))
def b_zcn_18 (P : Prims) (c_zcy : Y_zcy) (c_zch : Y_zch) (c_zcn : Y_zcn) (Ad : Nat) (Aa : Ss) (Ae : Nat) (L3 : Mi) (l_21 : T_zcn_21 → Option R_zcn) : T_zcn_18 → Option (T_zcn_18 ⊕ R_zcn)
 | (L0, v1, v2, v3, v18, v19, v20, v21, v22) =>
 match P.cmp .lss v20 v21 with
 | false =>
  match P.cmp .lss v20 v2 with
  | false =>
   match l_21 (L0, v1, v3, v18, v20, P.ar .sub .i64 v19 v20) with | none => none | some o93 => some (.inr o93)
  | true =>
   match P.cmp .lss v2 (P.ar .sub .i64 v19 v20) with
   | false =>
    match l_21 (L0, v1, v3, v18, v20, P.ar .sub .i64 v19 v20) with | none => none | some o92 => some (.inr o92)
   | true =>
    match c_zch v20 v2 (P.ar .sub .i64 v19 v20) Ad L0 Aa Ae L3 with
    | none => none
    | some Es =>
     match P.cmp .eql (P.len Es) (P.len L0) with
     | false => none
     | true =>
      match l_21 (Es, v1, v3, v18, v20, P.ar .sub .i64 v19 v20) with | none => none | some o91 => some (.inr o91)
 | true =>
  match P.shf .shr .u64 (P.wrap .u64 (P.ar .add .i64 v20 v21)) 1 with
  | none => none
  | some n73 =>
   match P.idx L0 (P.ar .sub .i64 v22 (P.wrap .i64 n73)) with
   | none => none
   | some ⟨E4, ⟨Du, Dv, Dw, Dx, Dy⟩⟩ =>
    match P.idx L0 (P.wrap .i64 n73) with
    | none => none
    | some ⟨Ia, ⟨Gg, Gh, Gi, Gj, Gk⟩⟩ =>
     match c_zcy ⟨E4, ⟨Du, Dv, Dw, Dx, Dy⟩⟩ ⟨Ia, ⟨Gg, Gh, Gi, Gj, Gk⟩⟩ Aa Ae L3 with
     | none => none
     | some E5 =>
      match P.cmp .lss E5 0 with
      | false =>
       some (.inl (L0, v1, v2, v3, v18, v19, P.ar .add .i64 (P.wrap .i64 n73) 1, v21, v22))
      | true =>
       some (.inl (L0, v1, v2, v3, v18, v19, v20, P.wrap .i64 n73, v22))
theorem o_zcn_18 {l_21 : T_zcn_21 → Option R_zcn} (h_l_21 : H_zcn_21 Ap @Ab Aw @Av Ay Ac A0 Ax m n0 n1 n2 n3 k0 k1 k2 k3 Ad Aa Ae L3 l_21) : HdG (G_zcn_18 @Ab @Av Ac A0 Ax n0 n1 n2 n3 k0 k1 k2 k3 Ad Aa Ae L3) (b_zcn_18 PP c_zcy c_zch c_zcn Ad Aa Ae L3 l_21) (A_zcn_18 Ap @Ab Aw Ac m n0 n1 n2 n3 k0 k1 k2 k3 Ad Aa Ae L3) (el (B_zcn_18 Ap @Ab Aw Ay Ac m n0 n1 n2 n3 k0 k1 k2 k3 Ad Aa Ae L3) (O_zcn @Ab Ay Ac m n0 n1 n2 n3 k0 k1 k2 k3 Ad Aa Ae L3)) := by
 rintro ⟨L0, v1, v2, v3, v18, v19, v20, v21, v22⟩ out hp stk ⟨hg0, hg1, hg2, hg3, _⟩
 have hn := And.intro (nlt hl0) (And.intro (nlt hl1) (And.intro (nlt hl2) (nlt hl3)))
 have lw := And.intro hn (And.intro hg0 (And.intro hg1 (And.intro hg2 (hg3))))
 subst hPP
 simp only [b_zcn_18] at hp
 simp only [A_zcn_18]
 rw [h.at_, hT]
 cbv
 cases c72 : xcmp .lss v20 v21 with
 | false =>
  simp only [c72] at hp ⊢
  cbv
  try simp only [if_false, if_true, hn]
  try cbv
  try simp only [if_false, if_true, hn]
  try cbv
  rw [h.at_, hT]
  cbv
  cases c86 : xcmp .lss v20 v2 with
  | false =>
   simp only [c86] at hp ⊢
   cbv
   cases c : l_21 (L0, v1, v3, v18, v20, xar .sub .i64 v19 v20) with
   | none => simp only [c] at hp; cases hp
   | some o93 =>
    simp only [c] at hp
    cases hp
    try simp only [if_false, if_true, hn]
    first | exact h_l_21 c stk ⟨hg0, hg1, hg2, hg3, trivial⟩ | (have q := h_l_21 c stk ⟨hg0, hg1, hg2, hg3, trivial⟩; simp only [A_zcn_21, h.lits, hA] at q; first | exact q | (cbv; exact q))
  | true =>
   simp only [c86] at hp ⊢
   cbv
   cases c87 : xcmp .lss v2 (xar .sub .i64 v19 v20) with
   | false =>
    simp only [c87] at hp ⊢
    cbv
    cases c : l_21 (L0, v1, v3, v18, v20, xar .sub .i64 v19 v20) with
    | none => simp only [c] at hp; cases hp
    | some o92 =>
     simp only [c] at hp
     cases hp
     try simp only [if_false, if_true, hn]
     first | exact h_l_21 c stk ⟨hg0, hg1, hg2, hg3, trivial⟩ | (have q := h_l_21 c stk ⟨hg0, hg1, hg2, hg3, trivial⟩; simp only [A_zcn_21, h.lits, hA] at q; first | exact q | (cbv; exact q))
   | true =>
    simp only [c87] at hp ⊢
    cbv
    cases c89 : c_zch v20 v2 (xar .sub .i64 v19 v20) Ad L0 Aa Ae L3 with
    | none => simp only [c89] at hp; cases hp
    | some Es =>
     simp only [c89] at hp
     have qc := h_zch c89 (⟨m, []⟩ :: stk) n0 k0 n1 k1 n2 k2 n3 k3 ((h.gb hl0 _ _).trans (hg0)) ((h.gb hl1 _ _).trans (hg1)) ((h.gb hl2 _ _).trans (hg2)) ((h.gb hl3 _ _).trans (hg3)) (Nat.le_of_lt hl0) (Nat.le_of_lt hl1) (Nat.le_of_lt hl2) (Nat.le_of_lt hl3) Al Ao Aq Ar At Au
     simp only [qc]
     simp only [h.st_, h.sb_ hl0, h.sb_ hl1, h.sb_ hl2, h.sb_ hl3]
     cbv
     cases c90 : xcmp .eql (plen Es) (plen L0) with
     | false => simp only [c90] at hp; cases hp
     | true =>
      simp only [c90] at hp
      try simp only [← h.lenEq Ac c90]
      cbv
      cases c : l_21 (Es, v1, v3, v18, v20, xar .sub .i64 v19 v20) with
      | none => simp only [c] at hp; cases hp
      | some o91 =>
       simp only [c] at hp
       cases hp
       try simp only [if_false, if_true, hn]
       have q := h_l_21 c (Ay stk ⟨n0, k0⟩ (.arr Ad 6 (Ab Ac Es))) ⟨(h.gs (hg0) _), ((h.gn (Ne.symm Al) _ _).trans (hg1)), ((h.gn (Ne.symm Ao) _ _).trans (hg2)), ((h.gn (Ne.symm Aq) _ _).trans (hg3)), trivial⟩
       first | (refine q.trans ?_; rcases o91 with _ <;> first | (simp only [h.so, h.sc Al, h.sc Ao, h.sc Aq, h.sc Ar, h.sc At, h.sc Au, el, O_zcn, A_zcn_18, B_zcn_18]; done) | (simp only [h.so, h.sc Al, h.sc Ao, h.sc Aq, h.sc Ar, h.sc At, h.sc Au, el, O_zcn, A_zcn_18, B_zcn_18]; rfl)) | (refine q.trans ?_; simp only [h.so, h.sc Al, h.sc Ao, h.sc Aq, h.sc Ar, h.sc At, h.sc Au, el, O_zcn, A_zcn_18, B_zcn_18]; done) | (refine q.trans ?_; simp only [h.so, h.sc Al, h.sc Ao, h.sc Aq, h.sc Ar, h.sc At, h.sc Au, el, O_zcn, A_zcn_18, B_zcn_18]; rfl) | (simp only [h.lits, hA, el, O_zcn, A_zcn_18, B_zcn_18, A_zcn_21] at q; cbv; refine q.trans ?_; simp only [h.so, h.sc Al, h.sc Ao, h.sc Aq, h.sc Ar, h.sc At, h.sc Au, el, O_zcn, A_zcn_18, B_zcn_18]; done) | (simp only [h.lits, hA, el, O_zcn, A_zcn_18, B_zcn_18, A_zcn_21] at q; cbv; refine q.trans ?_; simp only [h.so, h.sc Al, h.sc Ao, h.sc Aq, h.sc Ar, h.sc At, h.sc Au, el, O_zcn, A_zcn_18, B_zcn_18]; rfl)
 | true =>
  simp only [c72] at hp ⊢
  cbv
  try simp only [if_false, if_true, hn]
  try cbv
  try simp only [if_false, if_true, hn]
  try cbv
  rw [h.at_, hT]
  cbv
  cases c74 : pshf .shr .u64 (xwrap .u64 (xar .add .i64 v20 v21)) 1 with
  | none => simp only [c74] at hp; cases hp
  | some n73 =>
   simp only [c74] at hp
   obtain ⟨q1, q2⟩ := h.shf c74
   simp only [q1, q2, Bool.false_eq_true, if_false]
   cbv
   cases c77 : pidx L0 (xar .sub .i64 v22 (xwrap .i64 n73)) with
   | none => simp only [c77] at hp; cases hp
   | some y85 =>
    obtain ⟨E4, ⟨Du, Dv, Dw, Dx, Dy⟩⟩ := y85
    simp only [c77] at hp
    obtain ⟨q1, q2, q3, w75⟩ := h.idxm Ac c77
    try simp only [hA.2.1] at w75
    simp only [q1, Bool.false_eq_true, if_false]
    cbv
    simp only [if_false, if_true, lw]
    cbv
    simp only [q2, q3, if_true]
    cbv
    simp only [if_false, if_true, lw]
    cbv
    simp only [w75]
    cbv
    cases c80 : pidx L0 (xwrap .i64 n73) with
    | none => simp only [c80] at hp; cases hp
    | some y84 =>
     obtain ⟨Ia, ⟨Gg, Gh, Gi, Gj, Gk⟩⟩ := y84
     simp only [c80] at hp
     obtain ⟨q1, q2, q3, w78⟩ := h.idxm Ac c80
     try simp only [hA.2.1] at w78
     simp only [q1, Bool.false_eq_true, if_false]
     cbv
     simp only [if_false, if_true, lw]
     cbv
     simp only [q2, q3, if_true]
     cbv
     simp only [if_false, if_true, lw]
     cbv
     simp only [w78]
     cbv
     cases c82 : c_zcy ⟨E4, ⟨Du, Dv, Dw, Dx, Dy⟩⟩ ⟨Ia, ⟨Gg, Gh, Gi, Gj, Gk⟩⟩ Aa Ae L3 with
     | none => simp only [c82] at hp; cases hp
     | some E5 =>
      simp only [c82] at hp
      have qc := (h_zcy c82 (⟨m, []⟩ :: stk) n1 k1 n2 k2 n3 k3 ((h.gb hl1 _ _).trans (hg1)) ((h.gb hl2 _ _).trans (hg2)) ((h.gb hl3 _ _).trans (hg3)) (Nat.le_of_lt hl1) (Nat.le_of_lt hl2) (Nat.le_of_lt hl3) Ar At Au).1
      simp only [qc]
      cbv
      cases c83 : xcmp .lss E5 0 with
      | false =>
       simp only [c83] at hp ⊢
       cbv
       cases hp
       try simp only [el, O_zcn, B_zcn_18, A_zcn_18]
       try (simp only [h.ss hg0])
       try simp only [if_false, if_true, hn]
       all_goals first | rfl | (cbv; done) | (simp only [h.lits, hA, el, O_zcn, A_zcn_18, B_zcn_18, A_zcn_21, if_true]; first | done | rfl | (cbv; done) | (cbv; simp only [h.lits, hA, el, O_zcn, A_zcn_18, B_zcn_18, A_zcn_21]; done))
      | true =>
       simp only [c83] at hp ⊢
       cbv
       cases hp
       try simp only [el, O_zcn, B_zcn_18, A_zcn_18]
       try (simp only [h.ss hg0])
       try simp only [if_false, if_true, hn]
       all_goals first | rfl | (cbv; done) | (simp only [h.lits, hA, el, O_zcn, A_zcn_18, B_zcn_18, A_zcn_21, if_true]; first | done | rfl | (cbv; done) | (cbv; simp only [h.lits, hA, el, O_zcn, A_zcn_18, B_zcn_18, A_zcn_21]; done))
def b_zcn_21 (P : Prims) (c_zcy : Y_zcy) (c_zch : Y_zch) (c_zcn : Y_zcn) (Ad : Nat) (Aa : Ss) (Ae : Nat) (L3 : Mi) (l_22 : T_zcn_22 → Option R_zcn) : T_zcn_21 → Option R_zcn
 | (L0, v1, v3, v18, v20, v24) =>
 match P.cmp .lss v1 v20 with
 | false =>
  l_22 (L0, v3, v18, v24)
 | true =>
  match P.cmp .lss v20 v18 with
  | false =>
   l_22 (L0, v3, v18, v24)
  | true =>
   match c_zcn v1 v20 v18 Ad L0 Aa Ae L3 with
   | none => none
   | some E6 =>
    match P.cmp .eql (P.len E6) (P.len L0) with
    | false => none
    | true =>
     l_22 (E6, v3, v18, v24)
theorem o_zcn_21 {l_22 : T_zcn_22 → Option R_zcn} (h_l_22 : H_zcn_22 Ap @Ab Aw @Av Ay Ac A0 Ax m n0 n1 n2 n3 k0 k1 k2 k3 Ad Aa Ae L3 l_22) : H_zcn_21 Ap @Ab Aw @Av Ay Ac A0 Ax m n0 n1 n2 n3 k0 k1 k2 k3 Ad Aa Ae L3 (b_zcn_21 PP c_zcy c_zch c_zcn Ad Aa Ae L3 l_22) := by
 rintro ⟨L0, v1, v3, v18, v20, v24⟩ out hp stk ⟨hg0, hg1, hg2, hg3, _⟩
 have hn := And.intro (nlt hl0) (And.intro (nlt hl1) (And.intro (nlt hl2) (nlt hl3)))
 subst hPP
 simp only [b_zcn_21] at hp
 simp only [A_zcn_21]
 rw [h.at_, hT]
 cbv
 cases c94 : xcmp .lss v1 v20 with
 | false =>
  simp only [c94] at hp ⊢
  cbv
  try simp only [if_false, if_true, hn]
  first | exact h_l_22 hp stk ⟨hg0, hg1, hg2, hg3, trivial⟩ | (have q := h_l_22 hp stk ⟨hg0, hg1, hg2, hg3, trivial⟩; simp only [A_zcn_22, h.lits, hA] at q; first | exact q | (cbv; exact q))
 | true =>
  simp only [c94] at hp ⊢
  cbv
  cases c95 : xcmp .lss v20 v18 with
  | false =>
   simp only [c95] at hp ⊢
   cbv
   try simp only [if_false, if_true, hn]
   first | exact h_l_22 hp stk ⟨hg0, hg1, hg2, hg3, trivial⟩ | (have q := h_l_22 hp stk ⟨hg0, hg1, hg2, hg3, trivial⟩; simp only [A_zcn_22, h.lits, hA] at q; first | exact q | (cbv; exact q))
  | true =>
   simp only [c95] at hp ⊢
   cbv
   cases c97 : c_zcn v1 v20 v18 Ad L0 Aa Ae L3 with
   | none => simp only [c97] at hp; cases hp
   | some E6 =>
    simp only [c97] at hp
    have qc := h_zcn c97 (⟨m, []⟩ :: stk) n0 k0 n1 k1 n2 k2 n3 k3 ((h.gb hl0 _ _).trans (hg0)) ((h.gb hl1 _ _).trans (hg1)) ((h.gb hl2 _ _).trans (hg2)) ((h.gb hl3 _ _).trans (hg3)) (Nat.le_of_lt hl0) (Nat.le_of_lt hl1) (Nat.le_of_lt hl2) (Nat.le_of_lt hl3) Al Ao Aq Ar At Au
    simp only [qc]
    simp only [h.st_, h.sb_ hl0, h.sb_ hl1, h.sb_ hl2, h.sb_ hl3]
    cbv
    cases c98 : xcmp .eql (plen E6) (plen L0) with
    | false => simp only [c98] at hp; cases hp
    | true =>
     simp only [c98] at hp
     try simp only [← h.lenEq Ac c98]
     cbv
     try simp only [if_false, if_true, hn]
     have q := h_l_22 hp (Ay stk ⟨n0, k0⟩ (.arr Ad 6 (Ab Ac E6))) ⟨(h.gs (hg0) _), ((h.gn (Ne.symm Al) _ _).trans (hg1)), ((h.gn (Ne.symm Ao) _ _).trans (hg2)), ((h.gn (Ne.symm Aq) _ _).trans (hg3)), trivial⟩
     first | (refine q.trans ?_; rcases out with _ <;> first | (simp only [h.so, h.sc Al, h.sc Ao, h.sc Aq, h.sc Ar, h.sc At, h.sc Au, el, O_zcn]; done) | (simp only [h.so, h.sc Al, h.sc Ao, h.sc Aq, h.sc Ar, h.sc At, h.sc Au, el, O_zcn]; rfl)) | (refine q.trans ?_; simp only [h.so, h.sc Al, h.sc Ao, h.sc Aq, h.sc Ar, h.sc At, h.sc Au, el, O_zcn]; done) | (refine q.trans ?_; simp only [h.so, h.sc Al, h.sc Ao, h.sc Aq, h.sc Ar, h.sc At, h.sc Au, el, O_zcn]; rfl) | (simp only [h.lits, hA, el, O_zcn, A_zcn_22] at q; cbv; refine q.trans ?_; simp only [h.so, h.sc Al, h.sc Ao, h.sc Aq, h.sc Ar, h.sc At, h.sc Au, el, O_zcn]; done) | (simp only [h.lits, hA, el, O_zcn, A_zcn_22] at q; cbv; refine q.trans ?_; simp only [h.so, h.sc Al, h.sc Ao, h.sc Aq, h.sc Ar, h.sc At, h.sc Au, el, O_zcn]; rfl)
def b_zcn_22 (P : Prims) (c_zcy : Y_zcy) (c_zch : Y_zch) (c_zcn : Y_zcn) (Ad : Nat) (Aa : Ss) (Ae : Nat) (L3 : Mi) : T_zcn_22 → Option R_zcn
 | (L0, v3, v18, v24) =>
 match P.cmp .lss v18 v24 with
 | false =>
  some L0
 | true =>
  match P.cmp .lss v24 v3 with
  | false =>
   some L0
  | true =>
   match c_zcn v18 v24 v3 Ad L0 Aa Ae L3 with
   | none => none
   | some Et =>
    match P.cmp .eql (P.len Et) (P.len L0) with
    | false => none
    | true =>
     some Et
theorem o_zcn_22 : H_zcn_22 Ap @Ab Aw @Av Ay Ac A0 Ax m n0 n1 n2 n3 k0 k1 k2 k3 Ad Aa Ae L3 (b_zcn_22 PP c_zcy c_zch c_zcn Ad Aa Ae L3 ) := by
 rintro ⟨L0, v3, v18, v24⟩ out hp stk ⟨hg0, hg1, hg2, hg3, _⟩
 have hn := And.intro (nlt hl0) (And.intro (nlt hl1) (And.intro (nlt hl2) (nlt hl3)))
 subst hPP
 simp only [b_zcn_22] at hp
 simp only [A_zcn_22]
 rw [h.at_, hT]
 cbv
 cases c99 : xcmp .lss v18 v24 with
 | false =>
  simp only [c99] at hp ⊢
  cbv
  cases hp
  try simp only [el, O_zcn]
  try (simp only [h.ss hg0])
  try simp only [if_false, if_true, hn]
  all_goals first | rfl | cbv
 | true =>
  simp only [c99] at hp ⊢
  cbv
  cases c100 : xcmp .lss v24 v3 with
  | false =>
   simp only [c100] at hp ⊢
   cbv
   cases hp
   try simp only [el, O_zcn]
   try (simp only [h.ss hg0])
   try simp only [if_false, if_true, hn]
   all_goals first | rfl | cbv
  | true =>
   simp only [c100] at hp ⊢
   cbv
   cases c102 : c_zcn v18 v24 v3 Ad L0 Aa Ae L3 with
   | none => simp only [c102] at hp; cases hp
   | some Et =>
    simp only [c102] at hp
    have qc := h_zcn c102 (⟨m, []⟩ :: stk) n0 k0 n1 k1 n2 k2 n3 k3 ((h.gb hl0 _ _).trans (hg0)) ((h.gb hl1 _ _).trans (hg1)) ((h.gb hl2 _ _).trans (hg2)) ((h.gb hl3 _ _).trans (hg3)) (Nat.le_of_lt hl0) (Nat.le_of_lt hl1) (Nat.le_of_lt hl2) (Nat.le_of_lt hl3) Al Ao Aq Ar At Au
    simp only [qc]
    simp only [h.st_, h.sb_ hl0, h.sb_ hl1, h.sb_ hl2, h.sb_ hl3]
    cbv
    cases c103 : xcmp .eql (plen Et) (plen L0) with
    | false => simp only [c103] at hp; cases hp
    | true =>
     simp only [c103] at hp
     try simp only [← h.lenEq Ac c103]
     cbv
     cases hp
     try simp only [el, O_zcn]
     try (simp only [h.so, h.sc Al, h.sc Ao, h.sc Aq, h.sc Ar, h.sc At, h.sc Au])
     try simp only [if_false, if_true, hn]
     all_goals first | rfl | (cbv; done) | (simp only [h.lits, hA, el, O_zcn, if_true]; first | done | rfl | (cbv; done) | (cbv; simp only [h.lits, hA, el, O_zcn]; done))
end
def b_zcj_0 (P : Prims) (c_zcf : Y_zcf) (c_zcn : Y_zcn) (Ad : Nat) (Aa : Ss) (Ae : Nat) (L3 : Mi) (l_1 : T_zcj_1 → Option R_zcj) : T_zcj_0 → Option R_zcj
 | (v1, L0) =>
 l_1 (L0, v1, 20, 0, 20)
section
variable (c_zcf : Y_zcf) (c_zcn : Y_zcn) (h_zcf : (C_zcf Am @Ab Aw @Av Ay Ac A0 Ax c_zcf)) (h_zcn : (C_zcn Am @Ab Aw @Av Ay Ac A0 Ax c_zcn)) (m : Nat) (n0 n1 n2 n3 : Nat) (k0 k1 k2 k3 : Kl) (Ad : Nat) (Aa : Ss) (Ae : Nat) (L3 : Mi) (hl0 : n0 < m) (hl1 : n1 < m) (hl2 : n2 < m) (hl3 : n3 < m) (Al : NE n0 k0 n1 k1) (Ao : NE n0 k0 n2 k2) (Aq : NE n0 k0 n3 k3) (Ar : NE n1 k1 n2 k2) (At : NE n1 k1 n3 k3) (Au : NE n2 k2 n3 k3)
include c_zcf c_zcn h_zcf h_zcn m n0 n1 n2 n3 k0 k1 k2 k3 Ad Aa Ae L3 hl0 hl1 hl2 hl3 Al Ao Aq Ar At Au
theorem o_zcj_0 {l_1 : T_zcj_1 → Option R_zcj} (h_l_1 : H_zcj_1 Ap @Ab Aw @Av Ay Ac A0 Ax m n0 n1 n2 n3 k0 k1 k2 k3 Ad Aa Ae L3 l_1) : H_zcj_0 Ap @Ab Aw @Av Ay Ac A0 Ax m n0 n1 n2 n3 k0 k1 k2 k3 Ad Aa Ae L3 (b_zcj_0 PP c_zcf c_zcn Ad Aa Ae L3 l_1) := by
 rintro ⟨v1, L0⟩ out hp stk ⟨hg0, hg1, hg2, hg3, _⟩
 have hn := And.intro (nlt hl0) (And.intro (nlt hl1) (And.intro (nlt hl2) (nlt hl3)))
 subst hPP
 simp only [b_zcj_0] at hp
 simp only [A_zcj_0]
 rw [h.at_, hT]
 cbv
 try simp only [if_false, if_true, hn]
 first | exact h_l_1 hp stk ⟨hg0, hg1, hg2, hg3, trivial⟩ | (have q := h_l_1 hp stk ⟨hg0, hg1, hg2, hg3, trivial⟩; simp only [A_zcj_1, h.lits, hA] at q; first | exact q | (cbv; exact q))
def b_zcj_1 (P : Prims) (c_zcf : Y_zcf) (c_zcn : Y_zcn) (Ad : Nat) (Aa : Ss) (Ae : Nat) (L3 : Mi) (l_4 : T_zcj_4 → Option R_zcj) : T_zcj_1 → Option (T_zcj_1 ⊕ R_zcj)
 | (L0, v1, v6, v7, v8) =>
 match P.cmp .leq v8 v1 with
 | false =>
  match c_zcf v7 v1 Ad L0 Aa Ae L3 with
  | none => none
  | some E9 =>
   match P.cmp .eql (P.len E9) (P.len L0) with
   | false => none
   | true =>
    match l_4 (E9, v1, v6) with | none => none | some o8 => some (.inr o8)
 | true =>
  match c_zcf v7 v8 Ad L0 Aa Ae L3 with
  | none => none
  | some Hs =>
   match P.cmp .eql (P.len Hs) (P.len L0) with
   | false => none
   | true =>
    some (.inl (Hs, v1, v6, v8, P.ar .add .i64 v8 v6))
theorem o_zcj_1 {l_4 : T_zcj_4 → Option R_zcj} (h_l_4 : H_zcj_4 Ap @Ab Aw @Av Ay Ac A0 Ax m n0 n1 n2 n3 k0 k1 k2 k3 Ad Aa Ae L3 l_4) : HdG (G_zcj_1 @Ab @Av Ac A0 Ax n0 n1 n2 n3 k0 k1 k2 k3 Ad Aa Ae L3) (b_zcj_1 PP c_zcf c_zcn Ad Aa Ae L3 l_4) (A_zcj_1 Ap @Ab Aw Ac m n0 n1 n2 n3 k0 k1 k2 k3 Ad Aa Ae L3) (el (B_zcj_1 Ap @Ab Aw Ay Ac m n0 n1 n2 n3 k0 k1 k2 k3 Ad Aa Ae L3) (O_zcj @Ab Ay Ac m n0 n1 n2 n3 k0 k1 k2 k3 Ad Aa Ae L3)) := by
 rintro ⟨L0, v1, v6, v7, v8⟩ out hp stk ⟨hg0, hg1, hg2, hg3, _⟩
 have hn := And.intro (nlt hl0) (And.intro (nlt hl1) (And.intro (nlt hl2) (nlt hl3)))
 subst hPP
 simp only [b_zcj_1] at hp
 simp only [A_zcj_1]
 rw [h.at_, hT]
 cbv
 cases c1 : xcmp .leq v8 v1 with
 | false =>
  simp only [c1] at hp ⊢
  cbv
  try simp only [if_false, if_true, hn]
  try cbv
  try simp only [if_false, if_true, hn]
  try cbv
  rw [h.at_, hT]
  cbv
  cases c6 : c_zcf v7 v1 Ad L0 Aa Ae L3 with
  | none => simp only [c6] at hp; cases hp
  | some E9 =>
   simp only [c6] at hp
   have qc := h_zcf c6 (⟨m, []⟩ :: stk) n0 k0 n1 k1 n2 k2 n3 k3 ((h.gb hl0 _ _).trans (hg0)) ((h.gb hl1 _ _).trans (hg1)) ((h.gb hl2 _ _).trans (hg2)) ((h.gb hl3 _ _).trans (hg3)) (Nat.le_of_lt hl0) (Nat.le_of_lt hl1) (Nat.le_of_lt hl2) (Nat.le_of_lt hl3) Al Ao Aq Ar At Au
   simp only [qc]
   simp only [h.st_, h.sb_ hl0, h.sb_ hl1, h.sb_ hl2, h.sb_ hl3]
   cbv
   cases c7 : xcmp .eql (plen E9) (plen L0) with
   | false => simp only [c7] at hp; cases hp
   | true =>
    simp only [c7] at hp
    try simp only [← h.lenEq Ac c7]
    cbv
    cases c : l_4 (E9, v1, v6) with
    | none => simp only [c] at hp; cases hp
    | some o8 =>
     simp only [c] at hp
     cases hp
     try simp only [if_false, if_true, hn]
     have q := h_l_4 c (Ay stk ⟨n0, k0⟩ (.arr Ad 6 (Ab Ac E9))) ⟨(h.gs (hg0) _), ((h.gn (Ne.symm Al) _ _).trans (hg1)), ((h.gn (Ne.symm Ao) _ _).trans (hg2)), ((h.gn (Ne.symm Aq) _ _).trans (hg3)), trivial⟩
     first | (refine q.trans ?_; rcases o8 with _ <;> first | (simp only [h.so, h.sc Al, h.sc Ao, h.sc Aq, h.sc Ar, h.sc At, h.sc Au, el, O_zcj, A_zcj_1, B_zcj_1]; done) | (simp only [h.so, h.sc Al, h.sc Ao, h.sc Aq, h.sc Ar, h.sc At, h.sc Au, el, O_zcj, A_zcj_1, B_zcj_1]; rfl)) | (refine q.trans ?_; simp only [h.so, h.sc Al, h.sc Ao, h.sc Aq, h.sc Ar, h.sc At, h.sc Au, el, O_zcj, A_zcj_1, B_zcj_1]; done) | (refine q.trans ?_; simp only [h.so, h.sc Al, h.sc Ao, h.sc Aq, h.sc Ar, h.sc At, h.sc Au, el, O_zcj, A_zcj_1, B_zcj_1]; rfl) | (simp only [h.lits, hA, el, O_zcj, A_zcj_1, B_zcj_1, A_zcj_4] at q; cbv; refine q.trans ?_; simp only [h.so, h.sc Al, h.sc Ao, h.sc Aq, h.sc Ar, h.sc At, h.sc Au, el, O_zcj, A_zcj_1, B_zcj_1]; done) | (simp only [h.lits, hA, el, O_zcj, A_zcj_1, B_zcj_1, A_zcj_4] at q; cbv; refine q.trans ?_; simp only [h.so, h.sc Al, h.sc Ao, h.sc Aq, h.sc Ar, h.sc At, h.sc Au, el, O_zcj, A_zcj_1, B_zcj_1]; rfl)
 | true =>
  simp only [c1] at hp ⊢
  cbv
  try simp only [if_false, if_true, hn]
  try cbv
  try simp only [if_false, if_true, hn]
  try cbv
  rw [h.at_, hT]
  cbv
  cases c3 : c_zcf v7 v8 Ad L0 Aa Ae L3 with
  | none => simp only [c3] at hp; cases hp
  | some Hs =>
   simp only [c3] at hp
   have qc := h_zcf c3 (⟨m, []⟩ :: stk) n0 k0 n1 k1 n2 k2 n3 k3 ((h.gb hl0 _ _).trans (hg0)) ((h.gb hl1 _ _).trans (hg1)) ((h.gb hl2 _ _).trans (hg2)) ((h.gb hl3 _ _).trans (hg3)) (Nat.le_of_lt hl0) (Nat.le_of_lt hl1) (Nat.le_of_lt hl2) (Nat.le_of_lt hl3) Al Ao Aq Ar At Au
   simp only [qc]
   simp only [h.st_, h.sb_ hl0, h.sb_ hl1, h.sb_ hl2, h.sb_ hl3]
   cbv
   cases c4 : xcmp .eql (plen Hs) (plen L0) with
   | false => simp only [c4] at hp; cases hp
   | true =>
    simp only [c4] at hp
    try simp only [← h.lenEq Ac c4]
    cbv
    cases hp
    try simp only [el, O_zcj, B_zcj_1, A_zcj_1]
    try (simp only [h.so, h.sc Al, h.sc Ao, h.sc Aq, h.sc Ar, h.sc At, h.sc Au])
    try simp only [if_false, if_true, hn]
    all_goals first | rfl | (cbv; done) | (simp only [h.lits, hA, el, O_zcj, A_zcj_1, B_zcj_1, A_zcj_4, if_true]; first | done | rfl | (cbv; done) | (cbv; simp only [h.lits, hA, el, O_zcj, A_zcj_1, B_zcj_1, A_zcj_4]; done))
def b_zcj_4 (P : Prims) (c_zcf : Y_zcf) (c_zcn : Y_zcn) (Ad : Nat) (Aa : Ss) (Ae : Nat) (L3 : Mi) (l_6 : T_zcj_6 → Option (T_zcj_4 ⊕ R_zcj)) : T_zcj_4 → Option (T_zcj_4 ⊕ R_zcj)
 | (L0, v1, v6) =>
 match P.cmp .lss v6 v1 with
 | false =>
  some (.inr L0)
 | true =>
  l_6 (L0, v1, v6, 0, P.ar .mul .i64 2 v6)
theorem o_zcj_4 {l_6 : T_zcj_6 → Option (T_zcj_4 ⊕ R_zcj)} (h_l_6 : H_zcj_6 Ap @Ab Aw @Av Ay Ac A0 Ax m n0 n1 n2 n3 k0 k1 k2 k3 Ad Aa Ae L3 l_6) : HdG (G_zcj_4 @Ab @Av Ac A0 Ax n0 n1 n2 n3 k0 k1 k2 k3 Ad Aa Ae L3) (b_zcj_4 PP c_zcf c_zcn Ad Aa Ae L3 l_6) (A_zcj_4 Ap @Ab Aw Ac m n0 n1 n2 n3 k0 k1 k2 k3 Ad Aa Ae L3) (el (B_zcj_4 Ap @Ab Aw Ay Ac m n0 n1 n2 n3 k0 k1 k2 k3 Ad Aa Ae L3) (O_zcj @Ab Ay Ac m n0 n1 n2 n3 k0 k1 k2 k3 Ad Aa Ae L3)) := by
 rintro ⟨L0, v1, v6⟩ out hp stk ⟨hg0, hg1, hg2, hg3, _⟩
 have hn := And.intro (nlt hl0) (And.intro (nlt hl1) (And.intro (nlt hl2) (nlt hl3)))
 subst hPP
 simp only [b_zcj_4] at hp
 simp only [A_zcj_4]
 rw [h.at_, hT]
 cbv
 cases c9 : xcmp .lss v6 v1 with
 | false =>
  simp only [c9] at hp ⊢
  cbv
  cases hp
  try simp only [el, O_zcj, B_zcj_4, A_zcj_4]
  try (simp only [h.ss hg0])
  try simp only [if_false, if_true, hn]
  all_goals first | rfl | cbv
 | true =>
  simp only [c9] at hp ⊢
  cbv
  try simp only [if_false, if_true, hn]
  try cbv
  try simp only [if_false, if_true, hn]
  try cbv
  rw [h.at_, hT]
  cbv
  try simp only [if_false, if_true, hn]
  first | exact h_l_6 hp stk ⟨hg0, hg1, hg2, hg3, trivial⟩ | (have q := h_l_6 hp stk ⟨hg0, hg1, hg2, hg3, trivial⟩; simp only [A_zcj_6, h.lits, hA] at q; first | exact q | (cbv; exact q))
def b_zcj_6 (P : Prims) (c_zcf : Y_zcf) (c_zcn : Y_zcn) (Ad : Nat) (Aa : Ss) (Ae : Nat) (L3 : Mi) (l_9 : T_zcj_9 → Option (T_zcj_4 ⊕ R_zcj)) : T_zcj_6 → Option (T_zcj_6 ⊕ (T_zcj_4 ⊕ R_zcj))
 | (L0, v1, v6, v7, v8) =>
 match P.cmp .leq v8 v1 with
 | false =>
  match P.cmp .lss (P.ar .add .i64 v7 v6) v1 with
  | false =>
   match l_9 (L0, v1, v6) with | none => none | some o19 => some (.inr o19)
  | true =>
   match c_zcn v7 (P.ar .add .i64 v7 v6) v1 Ad L0 Aa Ae L3 with
   | none => none
   | some Cy =>
    match P.cmp .eql (P.len Cy) (P.len L0) with
    | false => none
    | true =>
     match l_9 (Cy, v1, v6) with | none => none | some o18 => some (.inr o18)
 | true =>
  match c_zcn v7 (P.ar .add .i64 v7 v6) v8 Ad L0 Aa Ae L3 with
  | none => none
  | some Gl =>
   match P.cmp .eql (P.len Gl) (P.len L0) with
   | false => none
   | true =>
    some (.inl (Gl, v1, v6, v8, P.ar .add .i64 v8 (P.ar .mul .i64 2 v6)))
theorem o_zcj_6 {l_9 : T_zcj_9 → Option (T_zcj_4 ⊕ R_zcj)} (h_l_9 : H_zcj_9 Ap @Ab Aw @Av Ay Ac A0 Ax m n0 n1 n2 n3 k0 k1 k2 k3 Ad Aa Ae L3 l_9) : HdG (G_zcj_6 @Ab @Av Ac A0 Ax n0 n1 n2 n3 k0 k1 k2 k3 Ad Aa Ae L3) (b_zcj_6 PP c_zcf c_zcn Ad Aa Ae L3 l_9) (A_zcj_6 Ap @Ab Aw Ac m n0 n1 n2 n3 k0 k1 k2 k3 Ad Aa Ae L3) (el (B_zcj_6 Ap @Ab Aw Ay Ac m n0 n1 n2 n3 k0 k1 k2 k3 Ad Aa Ae L3) (el (B_zcj_4 Ap @Ab Aw Ay Ac m n0 n1 n2 n3 k0 k1 k2 k3 Ad Aa Ae L3) (O_zcj @Ab Ay Ac m n0 n1 n2 n3 k0 k1 k2 k3 Ad Aa Ae L3))) := by
 rintro ⟨L0, v1, v6, v7, v8⟩ out hp stk ⟨hg0, hg1, hg2, hg3, _⟩
 have hn := And.intro (nlt hl0) (And.intro (nlt hl1) (And.intro (nlt hl2) (nlt hl3)))
 subst hPP
 simp only [b_zcj_6] at hp
 simp only [A_zcj_6]
 rw [h.at_, hT]
 cbv
 cases c10 : xcmp .leq v8 v1 with
 | false =>
  simp only [c10] at hp ⊢
  cbv
  try simp only [if_false, if_true, hn]
  try cbv
  try simp only [if_false, if_true, hn]
  try cbv
  rw [h.at_, hT]
  cbv
  cases c14 : xcmp .lss (xar .add .i64 v7 v6) v1 with
  | false =>
   simp only [c14] at hp ⊢
   cbv
   cases c : l_9 (L0, v1, v6) with
   | none => simp only [c] at hp; cases hp
   | some o19 =>
    simp only [c] at hp
    cases hp
    try simp only [if_false, if_true, hn]
    first | exact h_l_9 c stk ⟨hg0, hg1, hg2, hg3, trivial⟩ | (have q := h_l_9 c stk ⟨hg0, hg1, hg2, hg3, trivial⟩; simp only [A_zcj_9, h.lits, hA] at q; first | exact q | (cbv; exact q))
  | true =>
   simp only [c14] at hp ⊢
   cbv
   cases c16 : c_zcn v7 (xar .add .i64 v7 v6) v1 Ad L0 Aa Ae L3 with
   | none => simp only [c16] at hp; cases hp
   | some Cy =>
    simp only [c16] at hp
    have qc := h_zcn c16 (⟨m, []⟩ :: stk) n0 k0 n1 k1 n2 k2 n3 k3 ((h.gb hl0 _ _).trans (hg0)) ((h.gb hl1 _ _).trans (hg1)) ((h.gb hl2 _ _).trans (hg2)) ((h.gb hl3 _ _).trans (hg3)) (Nat.le_of_lt hl0) (Nat.le_of_lt hl1) (Nat.le_of_lt hl2) (Nat.le_of_lt hl3) Al Ao Aq Ar At Au
    simp only [qc]
    simp only [h.st_, h.sb_ hl0, h.sb_ hl1, h.sb_ hl2, h.sb_ hl3]
    cbv
    cases c17 : xcmp .eql (plen Cy) (plen L0) with
    | false => simp only [c17] at hp; cases hp
    | true =>
     simp only [c17] at hp
     try simp only [← h.lenEq Ac c17]
     cbv
     cases c : l_9 (Cy, v1, v6) with
     | none => simp only [c] at hp; cases hp
     | some o18 =>
      simp only [c] at hp
      cases hp
      try simp only [if_false, if_true, hn]
      have q := h_l_9 c (Ay stk ⟨n0, k0⟩ (.arr Ad 6 (Ab Ac Cy))) ⟨(h.gs (hg0) _), ((h.gn (Ne.symm Al) _ _).trans (hg1)), ((h.gn (Ne.symm Ao) _ _).trans (hg2)), ((h.gn (Ne.symm Aq) _ _).trans (hg3)), trivial⟩
      first | (refine q.trans ?_; rcases o18 with ⟨_, _, _⟩ | (_) <;> first | (simp only [h.so, h.sc Al, h.sc Ao, h.sc Aq, h.sc Ar, h.sc At, h.sc Au, el, O_zcj, A_zcj_6, A_zcj_4, B_zcj_6, B_zcj_4]; done) | (simp only [h.so, h.sc Al, h.sc Ao, h.sc Aq, h.sc Ar, h.sc At, h.sc Au, el, O_zcj, A_zcj_6, A_zcj_4, B_zcj_6, B_zcj_4]; rfl)) | (refine q.trans ?_; simp only [h.so, h.sc Al, h.sc Ao, h.sc Aq, h.sc Ar, h.sc At, h.sc Au, el, O_zcj, A_zcj_6, A_zcj_4, B_zcj_6, B_zcj_4]; done) | (refine q.trans ?_; simp only [h.so, h.sc Al, h.sc Ao, h.sc Aq, h.sc Ar, h.sc At, h.sc Au, el, O_zcj, A_zcj_6, A_zcj_4, B_zcj_6, B_zcj_4]; rfl) | (simp only [h.lits, hA, el, O_zcj, A_zcj_6, A_zcj_4, B_zcj_6, B_zcj_4, A_zcj_9] at q; cbv; refine q.trans ?_; simp only [h.so, h.sc Al, h.sc Ao, h.sc Aq, h.sc Ar, h.sc At, h.sc Au, el, O_zcj, A_zcj_6, A_zcj_4, B_zcj_6, B_zcj_4]; done) | (simp only [h.lits, hA, el, O_zcj, A_zcj_6, A_zcj_4, B_zcj_6, B_zcj_4, A_zcj_9] at q; cbv; refine q.trans ?_; simp only [h.so, h.sc Al, h.sc Ao, h.sc Aq, h.sc Ar, h.sc At, h.sc Au, el, O_zcj, A_zcj_6, A_zcj_4, B_zcj_6, B_zcj_4]; rfl)
 | true =>
  simp only [c10] at hp ⊢
  cbv
  try simp only [if_false, if_true, hn]
  try cbv
  try simp only [if_false, if_true, hn]
  try cbv
  rw [h.at_, hT]
  cbv
  cases c12 : c_zcn v7 (xar .add .i64 v7 v6) v8 Ad L0 Aa Ae L3 with
  | none => simp only [c12] at hp; cases hp
  | some Gl =>
   simp only [c12] at hp
   have qc := h_zcn c12 (⟨m, []⟩ :: stk) n0 k0 n1 k1 n2 k2 n3 k3 ((h.gb hl0 _ _).trans (hg0)) ((h.gb hl1 _ _).trans (hg1)) ((h.gb hl2 _ _).trans (hg2)) ((h.gb hl3 _ _).trans (hg3)) (Nat.le_of_lt hl0) (Nat.le_of_lt hl1) (Nat.le_of_lt hl2) (Nat.le_of_lt hl3) Al Ao Aq Ar At Au
   simp only [qc]
   simp only [h.st_, h.sb_ hl0, h.sb_ hl1, h.sb_ hl2, h.sb_ hl3]
   cbv
   cases c13 : xcmp .eql (plen Gl) (plen L0) with
   | false => simp only [c13] at hp; cases hp
   | true =>
    simp only [c13] at hp
    try simp only [← h.lenEq Ac c13]
    cbv
    cases hp
    try simp only [el, O_zcj, B_zcj_6, A_zcj_6, B_zcj_4, A_zcj_4]
    try (simp only [h.so, h.sc Al, h.sc Ao, h.sc Aq, h.sc Ar, h.sc At, h.sc Au])
    try simp only [if_false, if_true, hn]
    all_goals first | rfl | (cbv; done) | (simp only [h.lits, hA, el, O_zcj, A_zcj_6, A_zcj_4, B_zcj_6, B_zcj_4, A_zcj_9, if_true]; first | done | rfl | (cbv; done) | (cbv; simp only [h.lits, hA, el, O_zcj, A_zcj_6, A_zcj_4, B_zcj_6, B_zcj_4, A_zcj_9]; done))
def b_zcj_9 (P : Prims) (c_zcf : Y_zcf) (c_zcn : Y_zcn) (Ad : Nat) (Aa : Ss) (Ae : Nat) (L3 : Mi) : T_zcj_9 → Option (T_zcj_4 ⊕ R_zcj)
 | (L0, v1, v6) =>
 some (.inl (L0, v1, P.ar .mul .i64 v6 2))
theorem o_zcj_9 : H_zcj_9 Ap @Ab Aw @Av Ay Ac A0 Ax m n0 n1 n2 n3 k0 k1 k2 k3 Ad Aa Ae L3 (b_zcj_9 PP c_zcf c_zcn Ad Aa Ae L3 ) := by
 rintro ⟨L0, v1, v6⟩ out hp stk ⟨hg0, hg1, hg2, hg3, _⟩
 have hn := And.intro (nlt hl0) (And.intro (nlt hl1) (And.intro (nlt hl2) (nlt hl3)))
 subst hPP
 simp only [b_zcj_9] at hp
 simp only [A_zcj_9]
 rw [h.at_, hT]
 cbv
 cases hp
 try simp only [el, O_zcj, B_zcj_4, A_zcj_4]
 try (simp only [h.ss hg0])
 try simp only [if_false, if_true, hn]
 all_goals first | rfl | (cbv; done) | (simp only [h.lits, hA, el, O_zcj, A_zcj_4, B_zcj_4, if_true]; first | done | rfl | (cbv; done) | (cbv; simp only [h.lits, hA, el, O_zcj, A_zcj_4, B_zcj_4]; done))
end
def b_zcd_0 (P : Prims) (c_zcj : Y_zcj) (Ad : Nat) (Aa : Ss) (Ae : Nat) (L3 : Mi) : T_zcd_0 → Option R_zcd
 | L0 =>
 match c_zcj (P.len L0) Ad L0 Aa Ae L3 with
 | none => none
 | some Ht =>
  match P.cmp .eql (P.len Ht) (P.len L0) with
  | false => none
  | true =>
   some Ht
section
variable (c_zcj : Y_zcj) (h_zcj : (C_zcj Am @Ab Aw @Av Ay Ac A0 Ax c_zcj)) (m : Nat) (n0 n1 n2 n3 : Nat) (k0 k1 k2 k3 : Kl) (Ad : Nat) (Aa : Ss) (Ae : Nat) (L3 : Mi) (hl0 : n0 < m) (hl1 : n1 < m) (hl2 : n2 < m) (hl3 : n3 < m) (Al : NE n0 k0 n1 k1) (Ao : NE n0 k0 n2 k2) (Aq : NE n0 k0 n3 k3) (Ar : NE n1 k1 n2 k2) (At : NE n1 k1 n3 k3) (Au : NE n2 k2 n3 k3)
include c_zcj h_zcj m n0 n1 n2 n3 k0 k1 k2 k3 Ad Aa Ae L3 hl0 hl1 hl2 hl3 Al Ao Aq Ar At Au
theorem o_zcd_0 : H_zcd_0 Ap @Ab Aw @Av Ay Ac A0 Ax m n0 n1 n2 n3 k0 k1 k2 k3 Ad Aa Ae L3 (b_zcd_0 PP c_zcj Ad Aa Ae L3 ) := by
 rintro L0 out hp stk ⟨hg0, hg1, hg2, hg3, _⟩
 have hn := And.intro (nlt hl0) (And.intro (nlt hl1) (And.intro (nlt hl2) (nlt hl3)))
 subst hPP
 simp only [b_zcd_0] at hp
 simp only [A_zcd_0]
 rw [h.at_, hT]
 cbv
 try simp only [h.len]
 cases c2 : c_zcj (plen L0) Ad L0 Aa Ae L3 with
 | none => simp only [c2] at hp; cases hp
 | some Ht =>
  simp only [c2] at hp
  have qc := h_zcj c2 (⟨m, []⟩ :: stk) n0 k0 n1 k1 n2 k2 n3 k3 ((h.gb hl0 _ _).trans (hg0)) ((h.gb hl1 _ _).trans (hg1)) ((h.gb hl2 _ _).trans (hg2)) ((h.gb hl3 _ _).trans (hg3)) (Nat.le_of_lt hl0) (Nat.le_of_lt hl1) (Nat.le_of_lt hl2) (Nat.le_of_lt hl3) Al Ao Aq Ar At Au
  simp only [qc]
  simp only [h.st_, h.sb_ hl0, h.sb_ hl1, h.sb_ hl2, h.sb_ hl3]
  cbv
  cases c3 : xcmp .eql (plen Ht) (plen L0) with
  | false => simp only [c3] at hp; cases hp
  | true =>
   simp only [c3] at hp
   try simp only [← h.lenEq Ac c3]
   cbv
   cases hp
   try simp only [el, O_zcd]
   try (simp only [h.so, h.sc Al, h.sc Ao, h.sc Aq, h.sc Ar, h.sc At, h.sc Au])
   try simp only [if_false, if_true, hn]
   all_goals first | rfl | (cbv; done) | (simp only [h.lits, hA, el, O_zcd, if_true]; first | done | rfl | (cbv; done) | (cbv; simp only [h.lits, hA, el, O_zcd]; done))
end
def b_zcu_0 (P : Prims) (c_zdf : Y_zdf) (c_zdb : Y_zdb) (c_zcd : Y_zcd) (l_2 : T_zcx → Option R_zcu) : T_zcu_0 → Option R_zcu
 | (Af, Ak, Aj, Ah, Ai, v1) =>
 match c_zdf ⟨Af, Ak, Aj, Ah, Ai⟩ with
 | none => none
 | some Bi =>
  match Bi with
  | false =>
   some (⟨0, 0, [], [], []⟩, 1)
  | true =>
   l_2 (Af, Ak, Aj, Ah, Ai, v1, v1, P.len v1, 0, 0, 0, [], [], [], 0, [])
section
variable (c_zdf : Y_zdf) (c_zdb : Y_zdb) (c_zcd : Y_zcd) (h_zdf : (C_zdf As Am @Ab Ag Ac c_zdf)) (h_zdb : (C_zdb Eq @Ab Aw Ag Ac c_zdb)) (h_zcd : (C_zcd Am @Ab Aw @Av Ay Ac A0 Ax c_zcd)) (m : Nat)
include c_zdf c_zdb c_zcd h_zdf h_zdb h_zcd m
theorem o_zcu_0 {l_2 : T_zcx → Option R_zcu} (h_l_2 : H_zcx Ap @Ab @Av Ag Ac A0 Ax m l_2) : H_zcu_0 Ap @Ab Ag Ac Ax m (b_zcu_0 PP c_zdf c_zdb c_zcd l_2) := by
 rintro ⟨Af, Ak, Aj, Ah, Ai, v1⟩ out hp stk
 subst hPP
 simp only [b_zcu_0] at hp
 simp only [A_zcu_0]
 rw [h.at_, hT]
 cbv
 cases c2 : c_zdf ⟨Af, Ak, Aj, Ah, Ai⟩ with
 | none => simp only [c2] at hp; cases hp
 | some Bi =>
  simp only [c2] at hp
  have qc := fun s => (h_zdf c2 s).1
  simp only [qc]
  cbv
  cases Bi with
  | false =>
   simp only at hp
   cbv
   cases hp
   all_goals first | rfl | (cbv; done) | (simp only [h.lits, hA, el, O_zcu, if_true]; first | done | rfl | (cbv; done) | (cbv; simp only [h.lits, hA, el, O_zcu]; done))
  | true =>
   simp only at hp
   cbv
   rw [h.at_, hT]
   cbv
   try simp only [h.len]
   simp only [h.frzM0]
   cbv
   first | exact h_l_2 hp stk | (have q := h_l_2 hp stk; simp only [A_zcx, h.lits, hA] at q; first | exact q | (cbv; exact q))
def b_zcx (P : Prims) (c_zdf : Y_zdf) (c_zdb : Y_zdb) (c_zcd : Y_zcd) (l_5 : T_zcu_5 → Option (T_zcx ⊕ R_zcu)) : T_zcx → Option (T_zcx ⊕ R_zcu)
 | (A1, A4, Bb, A5, A2, Cb, v18, v19, v20, Br, Bs, Bt, Bu, Bv, Cx, o17) =>
 match P.cmp .lss v20 v19 with
 | false =>
  match c_zdb ⟨A1, A4, Bb, A5, A2⟩ with
  | none => none
  | some (Ib, Ic, Id, Ie, Hu, G8, E7) =>
   match c_zcd G8 E7 Cb Cx o17 with
   | none => none
   | some Cy =>
    match P.cmp .eql (P.len Cy) (P.len E7) with
    | false => none
    | true =>
     some (.inr (⟨Ib, Ic, Id, Hu, Cy⟩, 0))
 | true =>
  match P.idx v18 v20 with
  | none => none
  | some a5 =>
   match P.mfind a5 o17 with
   | none =>
    l_5 (A1, A4, Bb, A5, A2, Cb, v18, v19, v20, Br, Bs, Bt, Bu, Bv, Cx + 1, P.mput a5 Cx v20 o17)
   | some f8 =>
    some (.inr (⟨0, 0, [], [], []⟩, 7))
theorem o_zcx {l_5 : T_zcu_5 → Option (T_zcx ⊕ R_zcu)} (h_l_5 : H_zcu_5 Ap @Ab @Av Ag Ac A0 Ax m l_5) : Hd (b_zcx PP c_zdf c_zdb c_zcd l_5) (A_zcx Ap @Ab @Av Ag Ac A0 Ax m ) (el (A_zcx Ap @Ab @Av Ag Ac A0 Ax m ) (O_zcu @Ab Ag Ac m )) := by
 rintro ⟨A1, A4, Bb, A5, A2, Cb, v18, v19, v20, Br, Bs, Bt, Bu, Bv, Cx, o17⟩ out hp stk
 subst hPP
 simp only [b_zcx] at hp
 simp only [A_zcx]
 rw [h.at_, hT]
 cbv
 cases c4 : xcmp .lss v20 v19 with
 | false =>
  simp only [c4] at hp ⊢
  cbv
  simp only [h.frzM]
  cbv
  rw [h.at_, hT]
  cbv
  cases c14 : c_zdb ⟨A1, A4, Bb, A5, A2⟩ with
  | none => simp only [c14] at hp; cases hp
  | some y18 =>
   obtain ⟨Ib, Ic, Id, Ie, Hu, G8, E7⟩ := y18
   simp only [c14] at hp
   have qc := h_zdb c14 (⟨m, [([4], (.cells [(.d (.int .i64 Br)), (.d (.int .i64 Bs)), (.d (.str Bt)), (.d (.sl (Ab Ag Bu))), (.d (.sl (Ab Ac Bv)))])), ([6], (.cells [(.map ⟨m, [17]⟩)])), ([17], (.map Cx (Av A0 o17)))]⟩ :: stk) (m + 1) rfl
   simp only [qc]
   cbv
   cases c16 : c_zcd G8 E7 Cb Cx o17 with
   | none => simp only [c16] at hp; cases hp
   | some Cy =>
    simp only [c16] at hp
    have qc := h_zcd c16 (⟨m, [([4], (.cells [(.d (.int .i64 Br)), (.d (.int .i64 Bs)), (.d (.str Bt)), (.d (.sl (Ab Ag Bu))), (.d (.sl (Ab Ac Bv)))])), ([6], (.cells [(.map ⟨m, [17]⟩)])), ([17], (.map Cx (Av A0 o17))), ([38, 3, 3], (.arr Ie 5 (Ab Ag Hu))), ([38, 3, 4], (.arr G8 6 (Ab Ac E7))), ([11], (.cells [(.d (.int .i64 Ib)), (.d (.int .i64 Ic)), (.d (.str Id)), (.msl ⟨m, [38, 3, 3]⟩ Ie 0 (Aw (Ab Ag Hu))), (.msl ⟨m, [38, 3, 4]⟩ G8 0 (Aw (Ab Ac E7)))])), ([12], (.cells [(.clos (.func 66) [] [(.ref ⟨m, [6]⟩ 0), (.d (.iptr [(.sl (Ab Ax Cb))]))])]))]⟩ :: stk) m [38, 3, 4] m [12] m [6] m [17] (h.gt _ _ _ _) (h.gt _ _ _ _) (h.gt _ _ _ _) (h.gt _ _ _ _) (Nat.le_refl _) (Nat.le_refl _) (Nat.le_refl _) (Nat.le_refl _) (h.do_ (by decide)) (h.do_ (by decide)) (h.do_ (by decide)) (h.do_ (by decide)) (h.do_ (by decide)) (h.do_ (by decide))
    simp only [qc]
    simp only [h.st_]
    cbv
    cases c17 : xcmp .eql (plen Cy) (plen E7) with
    | false => simp only [c17] at hp; cases hp
    | true =>
     simp only [c17] at hp
     try simp only [← h.lenEq Ac c17]
     cbv
     cases hp
     all_goals first | rfl | (cbv; done) | (simp only [h.lits, hA, el, O_zcu, A_zcx, if_true]; first | done | rfl | (cbv; done) | (cbv; simp only [h.lits, hA, el, O_zcu, A_zcx]; done))
 | true =>
  simp only [c4] at hp ⊢
  cbv
  simp only [h.frzM]
  cbv
  rw [h.at_, hT]
  cbv
  cases c6 : pidx v18 v20 with
  | none => simp only [c6] at hp; cases hp
  | some a5 =>
   simp only [c6] at hp
   obtain ⟨q1, q2⟩ := h.idx Ax c6
   try simp only [hA.2.2.2] at q2
   simp only [q1, Bool.false_eq_true, if_false]
   cbv
   try simp only [q2]
   cbv
   cases c7 : pmfind a5 o17 with
   | none =>
    simp only [c7] at hp
    have q1 := h.mfind0 A0 c7
    simp only [q1]
    cbv
    simp only [h.frzM]
    cbv
    rw [h.at_, hT]
    cbv
    have q1 := h.mfind0 A0 c7
    have q2 := h.mput A0 a5 Cx v20 o17 (hA.2.2.1 _)
    simp only [q1, q2]
    cbv
    simp only [h.frzM]
    cbv
    first | exact h_l_5 hp stk | (have q := h_l_5 hp stk; simp only [A_zcu_5, h.lits, hA] at q; first | exact q | (cbv; exact q))
   | some f8 =>
    simp only [c7] at hp
    have q1 := h.mfind1 A0 c7
    simp only [hA.2.2.1] at q1
    simp only [q1]
    cbv
    cases hp
    all_goals first | rfl | (cbv; done) | (simp only [h.lits, hA, el, O_zcu, A_zcx, if_true]; first | done | rfl | (cbv; done) | (cbv; simp only [h.lits, hA, el, O_zcu, A_zcx]; done))
def b_zcu_5 (P : Prims) (c_zdf : Y_zdf) (c_zdb : Y_zdb) (c_zcd : Y_zcd) : T_zcu_5 → Option (T_zcx ⊕ R_zcu)
 | (A1, A4, Bb, A5, A2, Cb, v18, v19, v20, Br, Bs, Bt, Bu, Bv, Cx, o17) =>
 some (.inl (A1, A4, Bb, A5, A2, Cb, v18, v19, P.ar .add .i64 v20 1, Br, Bs, Bt, Bu, Bv, Cx, o17))
theorem o_zcu_5 : H_zcu_5 Ap @Ab @Av Ag Ac A0 Ax m (b_zcu_5 PP c_zdf c_zdb c_zcd ) := by
 rintro ⟨A1, A4, Bb, A5, A2, Cb, v18, v19, v20, Br, Bs, Bt, Bu, Bv, Cx, o17⟩ out hp stk
 subst hPP
 simp only [b_zcu_5] at hp
 simp only [A_zcu_5]
 rw [h.at_, hT]
 cbv
 cases hp
 simp only [h.frzM]
 cbv
 all_goals first | rfl | (cbv; done) | (simp only [h.lits, hA, el, O_zcu, A_zcx, if_true]; first | done | rfl | (cbv; done) | (cbv; simp only [h.lits, hA, el, O_zcu, A_zcx]; done))
end
def b_zy_0 (P : Prims) (c_zy : Y_zy) (l_2 : T_zy_2 → Option R_zy) : T_zy_0 → Option R_zy
 | (Af, Ak, Aj, Ah, Ai, A3, Be, Bf, Bg, Bd) =>
 match P.cmp .neq Af A3 with
 | false =>
  match P.cmp .neq Ak Be with
  | false =>
   match P.seq Aj Bf with
   | false =>
    some false
   | true =>
    match P.cmp .neq (P.len Ah) (P.len Bg) with
    | false =>
     match P.cmp .neq (P.len Ai) (P.len Bd) with
     | false =>
      l_2 (Af, Ak, Aj, Ah, Ai, A3, Be, Bf, Bg, Bd, 0)
     | true =>
      some false
    | true =>
     some false
  | true =>
   some false
 | true =>
  some false
section
variable (c_zy : Y_zy) (h_zy : (C_zy As Am @Ab Ag Ac c_zy)) (m : Nat)
include c_zy h_zy m
theorem o_zy_0 {l_2 : T_zy_2 → Option R_zy} (h_l_2 : H_zy_2 Ap @Ab Ag Ac m l_2) : H_zy_0 Ap @Ab Ag Ac m (b_zy_0 PP c_zy l_2) := by
 rintro ⟨Af, Ak, Aj, Ah, Ai, A3, Be, Bf, Bg, Bd⟩ out hp stk
 subst hPP
 simp only [b_zy_0] at hp
 simp only [A_zy_0]
 rw [h.at_, hT]
 cbv
 cases c1 : xcmp .neq Af A3 with
 | false =>
  simp only [c1] at hp ⊢
  cbv
  cases c2 : xcmp .neq Ak Be with
  | false =>
   simp only [c2] at hp ⊢
   cbv
   cases c3 : xseq Aj Bf with
   | false =>
    simp only [c3] at hp ⊢
    cbv
    cases hp
    all_goals first | rfl | cbv
   | true =>
    simp only [c3] at hp ⊢
    cbv
    try simp only [h.len]
    try simp only [h.len]
    cases c4 : xcmp .neq (plen Ah) (plen Bg) with
    | false =>
     simp only [c4] at hp ⊢
     cbv
     try simp only [h.len]
     try simp only [h.len]
     cases c5 : xcmp .neq (plen Ai) (plen Bd) with
     | false =>
      simp only [c5] at hp ⊢
      cbv
      rw [h.at_, hT]
      cbv
      first | exact h_l_2 hp stk | (have q := h_l_2 hp stk; simp only [A_zy_2, h.lits, hA] at q; first | exact q | (cbv; exact q))
     | true =>
      simp only [c5] at hp ⊢
      cbv
      cases hp
      all_goals first | rfl | cbv
    | true =>
     simp only [c4] at hp ⊢
     cbv
     cases hp
     all_goals first | rfl | cbv
  | true =>
   simp only [c2] at hp ⊢
   cbv
   cases hp
   all_goals first | rfl | cbv
 | true =>
  simp only [c1] at hp ⊢
  cbv
  cases hp
  all_goals first | rfl | cbv
def b_zy_2 (P : Prims) (c_zy : Y_zy) (l_6 : T_zy_6 → Option R_zy) : T_zy_2 → Option (T_zy_2 ⊕ R_zy)
 | (A1, A4, Bb, A5, A2, Cb, Dz, D0, C6, C7, v5) =>
 match P.cmp .lss v5 (P.len A5) with
 | false =>
  match l_6 (A1, A4, Bb, A5, A2, Cb, Dz, D0, C6, C7, 0) with | none => none | some o16 => some (.inr o16)
 | true =>
  match P.idx A5 v5 with
  | none => none
  | some ⟨Er, Js, Jt, Ju, Jv⟩ =>
   match P.idx C6 v5 with
   | none => none
   | some ⟨Fb, Jw, Jx, Jy, Jz⟩ =>
    match c_zy ⟨Er, Js, Jt, Ju, Jv⟩ ⟨Fb, Jw, Jx, Jy, Jz⟩ with
    | none => none
    | some Eh =>
     match Eh with
     | false =>
      some (.inr false)
     | true =>
      some (.inl (A1, A4, Bb, A5, A2, Cb, Dz, D0, C6, C7, P.ar .add .i64 v5 1))
theorem o_zy_2 {l_6 : T_zy_6 → Option R_zy} (h_l_6 : H_zy_6 Ap @Ab Ag Ac m l_6) : Hd (b_zy_2 PP c_zy l_6) (A_zy_2 Ap @Ab Ag Ac m ) (el (A_zy_2 Ap @Ab Ag Ac m ) (O_zy m )) := by
 rintro ⟨A1, A4, Bb, A5, A2, Cb, Dz, D0, C6, C7, v5⟩ out hp stk
 subst hPP
 simp only [b_zy_2] at hp
 simp only [A_zy_2]
 rw [h.at_, hT]
 cbv
 try simp only [h.len]
 cases c6 : xcmp .lss v5 (plen A5) with
 | false =>
  simp only [c6] at hp ⊢
  cbv
  rw [h.at_, hT]
  cbv
  cases c : l_6 (A1, A4, Bb, A5, A2, Cb, Dz, D0, C6, C7, 0) with
  | none => simp only [c] at hp; cases hp
  | some o16 =>
   simp only [c] at hp
   cases hp
   first | exact h_l_6 c stk | (have q := h_l_6 c stk; simp only [A_zy_6, h.lits, hA] at q; first | exact q | (cbv; exact q))
 | true =>
  simp only [c6] at hp ⊢
  cbv
  rw [h.at_, hT]
  cbv
  cases c8 : pidx A5 v5 with
  | none => simp only [c8] at hp; cases hp
  | some y15 =>
   obtain ⟨Er, Js, Jt, Ju, Jv⟩ := y15
   simp only [c8] at hp
   obtain ⟨q1, q2⟩ := h.idx Ag c8
   try simp only [hA.1] at q2
   simp only [q1, Bool.false_eq_true, if_false]
   cbv
   try simp only [q2]
   cbv
   cases c10 : pidx C6 v5 with
   | none => simp only [c10] at hp; cases hp
   | some y14 =>
    obtain ⟨Fb, Jw, Jx, Jy, Jz⟩ := y14
    simp only [c10] at hp
    obtain ⟨q1, q2⟩ := h.idx Ag c10
    try simp only [hA.1] at q2
    simp only [q1, Bool.false_eq_true, if_false]
    cbv
    try simp only [q2]
    cbv
    cases c12 : c_zy ⟨Er, Js, Jt, Ju, Jv⟩ ⟨Fb, Jw, Jx, Jy, Jz⟩ with
    | none => simp only [c12] at hp; cases hp
    | some Eh =>
     simp only [c12] at hp
     have qc := fun s => (h_zy c12 s).1
     simp only [qc]
     cbv
     cases Eh with
     | false =>
      simp only at hp
      cbv
      cases hp
      all_goals first | rfl | cbv
     | true =>
      simp only at hp
      cbv
      rw [h.at_, hT]
      cbv
      cases hp
      all_goals first | rfl | cbv
def b_zy_6 (P : Prims) (c_zy : Y_zy) : T_zy_6 → Option (T_zy_6 ⊕ R_zy)
 | (A1, A4, Bb, A5, A2, Cb, Dz, D0, C6, C7, v6) =>
 match P.cmp .lss v6 (P.len A2) with
 | false =>
  some (.inr true)
 | true =>
  match P.idx A2 v6 with
  | none => none
  | some ⟨G7, ⟨Ek, El, Em, En, Eo⟩⟩ =>
   match P.idx C7 v6 with
   | none => none
   | some ⟨Ig, ⟨Gm, Gn, Gp, Gq, Gr⟩⟩ =>
    match P.seq G7 Ig with
    | false =>
     some (.inr false)
    | true =>
     match c_zy ⟨Ek, El, Em, En, Eo⟩ ⟨Gm, Gn, Gp, Gq, Gr⟩ with
     | none => none
     | some Fa =>
      match Fa with
      | false =>
       some (.inr false)
      | true =>
       some (.inl (A1, A4, Bb, A5, A2, Cb, Dz, D0, C6, C7, P.ar .add .i64 v6 1))
theorem o_zy_6 : Hd (b_zy_6 PP c_zy ) (A_zy_6 Ap @Ab Ag Ac m ) (el (A_zy_6 Ap @Ab Ag Ac m ) (O_zy m )) := by
 rintro ⟨A1, A4, Bb, A5, A2, Cb, Dz, D0, C6, C7, v6⟩ out hp stk
 subst hPP
 simp only [b_zy_6] at hp
 simp only [A_zy_6]
 rw [h.at_, hT]
 cbv
 try simp only [h.len]
 cases c17 : xcmp .lss v6 (plen A2) with
 | false =>
  simp only [c17] at hp ⊢
  cbv
  rw [h.at_, hT]
  cbv
  cases hp
  all_goals first | rfl | cbv
 | true =>
  simp only [c17] at hp ⊢
  cbv
  rw [h.at_, hT]
  cbv
  cases c19 : pidx A2 v6 with
  | none => simp only [c19] at hp; cases hp
  | some y27 =>
   obtain ⟨G7, ⟨Ek, El, Em, En, Eo⟩⟩ := y27
   simp only [c19] at hp
   obtain ⟨q1, q2⟩ := h.idx Ac c19
   try simp only [hA.2.1] at q2
   simp only [q1, Bool.false_eq_true, if_false]
   cbv
   try simp only [q2]
   cbv
   cases c21 : pidx C7 v6 with
   | none => simp only [c21] at hp; cases hp
   | some y26 =>
    obtain ⟨Ig, ⟨Gm, Gn, Gp, Gq, Gr⟩⟩ := y26
    simp only [c21] at hp
    obtain ⟨q1, q2⟩ := h.idx Ac c21
    try simp only [hA.2.1] at q2
    simp only [q1, Bool.false_eq_true, if_false]
    cbv
    try simp only [q2]
    cbv
    cases c22 : xseq G7 Ig with
    | false =>
     simp only [c22] at hp ⊢
     cbv
     cases hp
     all_goals first | rfl | cbv
    | true =>
     simp only [c22] at hp ⊢
     cbv
     obtain ⟨q1, q2⟩ := h.idx Ac c19
     try simp only [hA.2.1] at q2
     simp only [q1, Bool.false_eq_true, if_false]
     cbv
     try simp only [q2]
     cbv
     obtain ⟨q1, q2⟩ := h.idx Ac c21
     try simp only [hA.2.1] at q2
     simp only [q1, Bool.false_eq_true, if_false]
     cbv
     try simp only [q2]
     cbv
     cases c24 : c_zy ⟨Ek, El, Em, En, Eo⟩ ⟨Gm, Gn, Gp, Gq, Gr⟩ with
     | none => simp only [c24] at hp; cases hp
     | some Fa =>
      simp only [c24] at hp
      have qc := fun s => (h_zy c24 s).1
      simp only [qc]
      cbv
      cases Fa with
      | false =>
       simp only at hp
       cbv
       cases hp
       all_goals first | rfl | cbv
      | true =>
       simp only at hp
       cbv
       rw [h.at_, hT]
       cbv
       cases hp
       all_goals first | rfl | cbv
end
def b_zk_0 (P : Prims) (c_zy : Y_zy) : T_zk_0 → Option R_zk
 | (Af, Ak, Aj, Ah, Ai) =>
 match c_zy ⟨Af, Ak, Aj, Ah, Ai⟩ ⟨0, 0, [], [], []⟩ with
 | none => none
 | some Bi =>
  some Bi
section
variable (c_zy : Y_zy) (h_zy : (C_zy As Am @Ab Ag Ac c_zy)) (m : Nat)
include c_zy h_zy m
theorem o_zk_0 : H_zk_0 Ap @Ab Ag Ac m (b_zk_0 PP c_zy ) := by
 rintro ⟨Af, Ak, Aj, Ah, Ai⟩ out hp stk
 subst hPP
 simp only [b_zk_0] at hp
 simp only [A_zk_0]
 rw [h.at_, hT]
 cbv
 cases c2 : c_zy ⟨Af, Ak, Aj, Ah, Ai⟩ ⟨0, 0, [], [], []⟩ with
 | none => simp only [c2] at hp; cases hp
 | some Bi =>
  simp only [c2] at hp
  have qc := fun s => (h_zy c2 s).1
  try simp only [h.map_nil] at qc
  simp only [qc]
  cbv
  cases hp
  all_goals first | rfl | cbv
end
def b_zr_0 (P : Prims) (l_2 : T_zr_2 → Option R_zr) : T_zr_0 → Option R_zr
 | (v0, v1) =>
 match P.sidx v0 v1 with
 | none => none
 | some b1 =>
  match P.cmp .lss (P.wrap .i64 b1) 128 with
  | false =>
   match P.cmp .geq (P.wrap .i64 b1) 194 with
   | false =>
    l_2 (v0, v1, P.wrap .i64 b1, 0, 0, 0)
   | true =>
    match P.cmp .lss (P.wrap .i64 b1) 224 with
    | false =>
     l_2 (v0, v1, P.wrap .i64 b1, 0, 0, 0)
    | true =>
     l_2 (v0, v1, P.wrap .i64 b1, 2, P.ar .sub .i64 (P.wrap .i64 b1) 192, 128)
  | true =>
   some (1, P.wrap .i32 (P.wrap .i64 b1))
section
variable (m : Nat)
include m
theorem o_zr_0 {l_2 : T_zr_2 → Option R_zr} (h_l_2 : H_zr_2 Ap m l_2) : H_zr_0 Ap m (b_zr_0 PP l_2) := by
 rintro ⟨v0, v1⟩ out hp stk
 subst hPP
 simp only [b_zr_0] at hp
 simp only [A_zr_0]
 rw [h.at_, hT]
 cbv
 cases c2 : psidx v0 v1 with
 | none => simp only [c2] at hp; cases hp
 | some b1 =>
  simp only [c2] at hp
  obtain ⟨w, q1, q2, q3⟩ := h.sidx c2
  simp only [q1, q2, q3, Bool.false_eq_true, if_false]
  cbv
  cases c3 : xcmp .lss (xwrap .i64 b1) 128 with
  | false =>
   simp only [c3] at hp ⊢
   cbv
   rw [h.at_, hT]
   cbv
   cases c4 : xcmp .geq (xwrap .i64 b1) 194 with
   | false =>
    simp only [c4] at hp ⊢
    cbv
    first | exact h_l_2 hp stk | (have q := h_l_2 hp stk; simp only [A_zr_2, h.lits, hA] at q; first | exact q | (cbv; exact q))
   | true =>
    simp only [c4] at hp ⊢
    cbv
    cases c5 : xcmp .lss (xwrap .i64 b1) 224 with
    | false =>
     simp only [c5] at hp ⊢
     cbv
     first | exact h_l_2 hp stk | (have q := h_l_2 hp stk; simp only [A_zr_2, h.lits, hA] at q; first | exact q | (cbv; exact q))
    | true =>
     simp only [c5] at hp ⊢
     cbv
     first | exact h_l_2 hp stk | (have q := h_l_2 hp stk; simp only [A_zr_2, h.lits, hA] at q; first | exact q | (cbv; exact q))
  | true =>
   simp only [c3] at hp ⊢
   cbv
   cases hp
   all_goals first | rfl | cbv
def b_zr_2 (P : Prims) (l_3 : T_zr_3 → Option R_zr) : T_zr_2 → Option R_zr
 | (v0, v1, v6, v7, v8, v9) =>
 match P.cmp .geq v6 224 with
 | false =>
  l_3 (v0, v1, v6, v7, v8, v9)
 | true =>
  match P.cmp .lss v6 240 with
  | false =>
   l_3 (v0, v1, v6, v7, v8, v9)
  | true =>
   l_3 (v0, v1, v6, 3, P.ar .sub .i64 v6 224, 2048)
theorem o_zr_2 {l_3 : T_zr_3 → Option R_zr} (h_l_3 : H_zr_3 Ap m l_3) : H_zr_2 Ap m (b_zr_2 PP l_3) := by
 rintro ⟨v0, v1, v6, v7, v8, v9⟩ out hp stk
 subst hPP
 simp only [b_zr_2] at hp
 simp only [A_zr_2]
 rw [h.at_, hT]
 cbv
 cases c6 : xcmp .geq v6 224 with
 | false =>
  simp only [c6] at hp ⊢
  cbv
  first | exact h_l_3 hp stk | (have q := h_l_3 hp stk; simp only [A_zr_3, h.lits, hA] at q; first | exact q | (cbv; exact q))
 | true =>
  simp only [c6] at hp ⊢
  cbv
  cases c7 : xcmp .lss v6 240 with
  | false =>
   simp only [c7] at hp ⊢
   cbv
   first | exact h_l_3 hp stk | (have q := h_l_3 hp stk; simp only [A_zr_3, h.lits, hA] at q; first | exact q | (cbv; exact q))
  | true =>
   simp only [c7] at hp ⊢
   cbv
   first | exact h_l_3 hp stk | (have q := h_l_3 hp stk; simp only [A_zr_3, h.lits, hA] at q; first | exact q | (cbv; exact q))
def b_zr_3 (P : Prims) (l_4 : T_zr_4 → Option R_zr) : T_zr_3 → Option R_zr
 | (v0, v1, v6, v7, v8, v9) =>
 match P.cmp .geq v6 240 with
 | false =>
  l_4 (v0, v1, v7, v8, v9)
 | true =>
  match P.cmp .lss v6 245 with
  | false =>
   l_4 (v0, v1, v7, v8, v9)
  | true =>
   l_4 (v0, v1, 4, P.ar .sub .i64 v6 240, 65536)
theorem o_zr_3 {l_4 : T_zr_4 → Option R_zr} (h_l_4 : H_zr_4 Ap m l_4) : H_zr_3 Ap m (b_zr_3 PP l_4) := by
 rintro ⟨v0, v1, v6, v7, v8, v9⟩ out hp stk
 subst hPP
 simp only [b_zr_3] at hp
 simp only [A_zr_3]
 rw [h.at_, hT]
 cbv
 cases c8 : xcmp .geq v6 240 with
 | false =>
  simp only [c8] at hp ⊢
  cbv
  first | exact h_l_4 hp stk | (have q := h_l_4 hp stk; simp only [A_zr_4, h.lits, hA] at q; first | exact q | (cbv; exact q))
 | true =>
  simp only [c8] at hp ⊢
  cbv
  cases c9 : xcmp .lss v6 245 with
  | false =>
   simp only [c9] at hp ⊢
   cbv
   first | exact h_l_4 hp stk | (have q := h_l_4 hp stk; simp only [A_zr_4, h.lits, hA] at q; first | exact q | (cbv; exact q))
  | true =>
   simp only [c9] at hp ⊢
   cbv
   first | exact h_l_4 hp stk | (have q := h_l_4 hp stk; simp only [A_zr_4, h.lits, hA] at q; first | exact q | (cbv; exact q))
def b_zr_4 (P : Prims) (l_6 : T_zr_6 → Option R_zr) : T_zr_4 → Option R_zr
 | (v0, v1, v7, v8, v9) =>
 match P.cmp .eql v7 0 with
 | false =>
  match P.cmp .geq v1 (P.ar .add .i64 (P.ar .sub .i64 (P.slen v0) v7) 1) with
  | false =>
   l_6 (v0, v1, v7, v8, v9, 1)
  | true =>
   some (0, 0)
 | true =>
  some (0, 0)
theorem o_zr_4 {l_6 : T_zr_6 → Option R_zr} (h_l_6 : H_zr_6 Ap m l_6) : H_zr_4 Ap m (b_zr_4 PP l_6) := by
 rintro ⟨v0, v1, v7, v8, v9⟩ out hp stk
 subst hPP
 simp only [b_zr_4] at hp
 simp only [A_zr_4]
 rw [h.at_, hT]
 cbv
 cases c10 : xcmp .eql v7 0 with
 | false =>
  simp only [c10] at hp ⊢
  cbv
  try simp only [h.slen]
  cases c11 : xcmp .geq v1 (xar .add .i64 (xar .sub .i64 (pslen v0) v7) 1) with
  | false =>
   simp only [c11] at hp ⊢
   cbv
   rw [h.at_, hT]
   cbv
   first | exact h_l_6 hp stk | (have q := h_l_6 hp stk; simp only [A_zr_6, h.lits, hA] at q; first | exact q | (cbv; exact q))
  | true =>
   simp only [c11] at hp ⊢
   cbv
   cases hp
   all_goals first | rfl | cbv
 | true =>
  simp only [c10] at hp ⊢
  cbv
  cases hp
  all_goals first | rfl | cbv
def b_zr_6 (P : Prims) (l_11 : T_zr_11 → Option R_zr) : T_zr_6 → Option (T_zr_6 ⊕ R_zr)
 | (v0, v1, v7, v8, v9, v10) =>
 match P.cmp .lss v10 v7 with
 | false =>
  match P.cmp .lss v8 v9 with
  | false =>
   match P.cmp .gtr v8 1114111 with
   | false =>
    match P.cmp .geq v8 55296 with
    | false =>
     match l_11 (v7, v8) with | none => none | some o22 => some (.inr o22)
    | true =>
     match P.cmp .lss v8 57344 with
     | false =>
      match l_11 (v7, v8) with | none => none | some o21 => some (.inr o21)
     | true =>
      some (.inr (0, 0))
   | true =>
    some (.inr (0, 0))
  | true =>
   some (.inr (0, 0))
 | true =>
  match P.sidx v0 (P.ar .add .i64 v1 v10) with
  | none => none
  | some b13 =>
   match P.cmp .lss (P.wrap .i64 b13) 128 with
   | false =>
    match P.cmp .geq (P.wrap .i64 b13) 192 with
    | false =>
     some (.inl (v0, v1, v7, P.ar .sub .i64 (P.ar .add .i64 (P.ar .mul .i64 v8 64) (P.wrap .i64 b13)) 128, v9, P.ar .add .i64 v10 1))
    | true =>
     some (.inr (0, 0))
   | true =>
    some (.inr (0, 0))
theorem o_zr_6 {l_11 : T_zr_11 → Option R_zr} (h_l_11 : H_zr_11 Ap m l_11) : Hd (b_zr_6 PP l_11) (A_zr_6 Ap m ) (el (A_zr_6 Ap m ) (O_zr m )) := by
 rintro ⟨v0, v1, v7, v8, v9, v10⟩ out hp stk
 subst hPP
 simp only [b_zr_6] at hp
 simp only [A_zr_6]
 rw [h.at_, hT]
 cbv
 cases c12 : xcmp .lss v10 v7 with
 | false =>
  simp only [c12] at hp ⊢
  cbv
  rw [h.at_, hT]
  cbv
  cases c17 : xcmp .lss v8 v9 with
  | false =>
   simp only [c17] at hp ⊢
   cbv
   cases c18 : xcmp .gtr v8 1114111 with
   | false =>
    simp only [c18] at hp ⊢
    cbv
    cases c19 : xcmp .geq v8 55296 with
    | false =>
     simp only [c19] at hp ⊢
     cbv
     cases c : l_11 (v7, v8) with
     | none => simp only [c] at hp; cases hp
     | some o22 =>
      simp only [c] at hp
      cases hp
      first | exact h_l_11 c stk | (have q := h_l_11 c stk; simp only [A_zr_11, h.lits, hA] at q; first | exact q | (cbv; exact q))
    | true =>
     simp only [c19] at hp ⊢
     cbv
     cases c20 : xcmp .lss v8 57344 with
     | false =>
      simp only [c20] at hp ⊢
      cbv
      cases c : l_11 (v7, v8) with
      | none => simp only [c] at hp; cases hp
      | some o21 =>
       simp only [c] at hp
       cases hp
       first | exact h_l_11 c stk | (have q := h_l_11 c stk; simp only [A_zr_11, h.lits, hA] at q; first | exact q | (cbv; exact q))
     | true =>
      simp only [c20] at hp ⊢
      cbv
      cases hp
      all_goals first | rfl | cbv
   | true =>
    simp only [c18] at hp ⊢
    cbv
    cases hp
    all_goals first | rfl | cbv
  | true =>
   simp only [c17] at hp ⊢
   cbv
   cases hp
   all_goals first | rfl | cbv
 | true =>
  simp only [c12] at hp ⊢
  cbv
  rw [h.at_, hT]
  cbv
  cases c14 : psidx v0 (xar .add .i64 v1 v10) with
  | none => simp only [c14] at hp; cases hp
  | some b13 =>
   simp only [c14] at hp
   obtain ⟨w, q1, q2, q3⟩ := h.sidx c14
   simp only [q1, q2, q3, Bool.false_eq_true, if_false]
   cbv
   cases c15 : xcmp .lss (xwrap .i64 b13) 128 with
   | false =>
    simp only [c15] at hp ⊢
    cbv
    cases c16 : xcmp .geq (xwrap .i64 b13) 192 with
    | false =>
     simp only [c16] at hp ⊢
     cbv
     rw [h.at_, hT]
     cbv
     rw [h.at_, hT]
     cbv
     cases hp
     all_goals first | rfl | cbv
    | true =>
     simp only [c16] at hp ⊢
     cbv
     cases hp
     all_goals first | rfl | cbv
   | true =>
    simp only [c15] at hp ⊢
    cbv
    cases hp
    all_goals first | rfl | cbv
def b_zr_11 (P : Prims) : T_zr_11 → Option R_zr
 | (v7, v8) =>
 some (v7, P.wrap .i32 v8)
theorem o_zr_11 : H_zr_11 Ap m (b_zr_11 PP ) := by
 rintro ⟨v7, v8⟩ out hp stk
 subst hPP
 simp only [b_zr_11] at hp
 simp only [A_zr_11]
 rw [h.at_, hT]
 cbv
 cases hp
 all_goals first | rfl | cbv
end
end
end Go.Abs.T
