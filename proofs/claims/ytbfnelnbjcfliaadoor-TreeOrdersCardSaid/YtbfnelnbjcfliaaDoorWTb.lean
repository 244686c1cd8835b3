import Derived.Test.YtbfnelnbjcfliaaDoorWT
set_option linter.unusedSimpArgs false
set_option linter.unusedVariables false
set_option linter.unusedSectionVars false
namespace Go.Abs.T
set_option maxRecDepth 100000
section
variable {PP : Prims} {xR : FuncId → Option RF} {xiter : (St → Rs) → St → Rs} {xG : Nat → Option (List D)} {xcall : CallF} {As : FuncId → List V → Stk → Option V} {Am : FuncId → List V → Stk → Option (V × Stk)} {Eq : FuncId → List (List Nat) → List V → Stk → Option (V × Level × Stk)} {Aw : List D → Nat} {xnth : List D → Nat → Option D} {xcut : List D → Nat → Nat → List D} {xapp : List D → List D → List D} {xset : List D → Nat → D → List D} {xrep : Nat → D → List D} {xallsz : Nat → List D → Bool} {xslen : Str → Nat} {xsnth : Str → Nat → Option UInt8} {xscut : Str → Nat → Nat → Str} {xsapp : Str → Str → Str} {xseq : Str → Str → Bool} {xslt : Str → Str → Bool} {xofStr : Str → List D} {xtoStr : List D → Option Str} {xdec : Str → Nat → Nat × Nat} {xenc : Int → Str} {xar : BinOp → IntKind → Int → Int → Int} {xcmp : BinOp → Int → Int → Bool} {xwrap : IntKind → Int → Int} {xisz : Int → Bool} {xneg : Int → Bool} {xnat : Int → Nat} {xofN : Nat → Int} {xbyte : UInt8 → Int} {xnle : Nat → Nat → Bool} {xnadd : Nat → Nat → Nat} {xnsub : Nat → Nat → Nat} {xfits : Nat → Nat → Bool} {xfind : D → List (D × Nat × V) → Option (Option V)} {xputE : D → Nat → V → List (D × Nat × V) → Option (List (D × Nat × V))} {xfindK : D → List D → List D → Option (Option D)} {xelen : List (D × Nat × V) → Nat} {xfrzM : List (D × Nat × V) → Option (List D × List D)} {xsamev : V → V → Bool} {Ap : AtF} {Ay : Stk → Lab → O → Stk} {xtop : Stk → Nat} {xsame : Stk → Stk → Bool} {Ab : {α : Type} → (α → D) → List α → List D} {Av : {α : Type} → (α → D) → List (Str × Nat × α) → List (D × Nat × V)} {pquo : BinOp → IntKind → Int → Int → Option Int} {pshf : BinOp → IntKind → Int → Int → Option Int} {pslen : Str → Int} {psidx : Str → Int → Option Int} {pssub : Str → Option Int → Option Int → Option Str} {pscat : Str → Str → Option Str} {psit : Str → Nat → Option (Int × Int × Nat)} {pslist : Str → Option (List Int)} {pofBytes : List Int → Str} {plen : {α : Type} → List α → Int} {pidx : {α : Type} → List α → Int → Option α} {psub : {α : Type} → List α → Option Int → Option Int → Option (List α)} {papp : {α : Type} → Nat → List α → List α → Option (List α)} {pset : {α : Type} → List α → Int → α → Option (List α)} {pmake : {α : Type} → Nat → α → Int → Option (List α)} {pmfind : {α : Type} → Str → List (Str × Nat × α) → Option α} {pmput : {α : Type} → Str → Nat → α → List (Str × Nat × α) → List (Str × Nat × α)} {ploop : {σ ρ : Type} → (σ → Option (σ ⊕ ρ)) → σ → Option ρ} {xT : FuncId → Option KF}
  (h : KLaws xR xiter xG xcall As Am Eq Aw xnth xcut xapp xset xrep xallsz xslen xsnth xscut xsapp xseq xslt xofStr xtoStr xdec xenc xar xcmp xwrap xisz xneg xnat xofN xbyte xnle xnadd xnsub xfits xfind xputE xfindK xelen xfrzM xsamev Ap Ay xtop xsame @Ab @Av pquo pshf pslen psidx pssub pscat psit pslist pofBytes @plen @pidx @psub @papp @pset @pmake @pmfind @pmput @ploop xT) (hT : xT = table) (hPP : PP = ⟨xar, xcmp, xwrap, xseq, xslt, xenc, pquo, pshf, pslen, psidx, pssub, pscat, psit, pslist, pofBytes, @plen, @pidx, @psub, @papp, @pset, @pmake, @pmfind, @pmput, @ploop⟩)
variable {Ag : S1_ → D} {Ac : S0_ → D} {A0 : Int → D} {Ax : Str → D} (hA : (∀ (x_0 x_1 : Int) (x_2 : Str) (x_3 : Ls0) (x_4 : Ls1), Ag ⟨x_0, x_1, x_2, x_3, x_4⟩ = (.agg [(.int .i64 x_0), (.int .i64 x_1), (.str x_2), (.sl (Ab Ag x_3)), (.sl (Ab Ac x_4))])) ∧ (∀ (x_0 : Str) (x_1_0 x_1_1 : Int) (x_1_2 : Str) (x_1_3 : Ls0) (x_1_4 : Ls1), Ac ⟨x_0, ⟨x_1_0, x_1_1, x_1_2, x_1_3, x_1_4⟩⟩ = (.agg [(.str x_0), (.int .i64 x_1_0), (.int .i64 x_1_1), (.str x_1_2), (.sl (Ab Ag x_1_3)), (.sl (Ab Ac x_1_4))])) ∧ (∀ (x : Int), A0 x = (.int .i64 x)) ∧ (∀ (x : Str), Ax x = (.str x))) (hZ : (∀ l, xallsz 5 (Ab Ag l) = true) ∧ (∀ l, xallsz 6 (Ab Ac l) = true) ∧ (∀ l, xallsz 1 (Ab A0 l) = true) ∧ (∀ l, xallsz 1 (Ab Ax l) = true))
include h hT hPP hA hZ
def b_zp_0 (P : Prims) (c_zr : Y_zr) (l_1 : T_zp_1 → Option R_zp) : T_zp_0 → Option R_zp
 | v0 =>
 l_1 (v0, 0)
section
variable (c_zr : Y_zr) (h_zr : (C_zr As Am c_zr)) (m : Nat)
include c_zr h_zr m
theorem o_zp_0 {l_1 : T_zp_1 → Option R_zp} (h_l_1 : H_zp_1 Ap m l_1) : H_zp_0 Ap m (b_zp_0 PP c_zr l_1) := by
 rintro v0 out hp stk
 subst hPP
 simp only [b_zp_0] at hp
 simp only [A_zp_0]
 rw [h.at_, hT]
 cbv
 first | exact h_l_1 hp stk | (have q := h_l_1 hp stk; simp only [A_zp_1, h.lits, hA] at q; first | exact q | (cbv; exact q))
def b_zp_1 (P : Prims) (c_zr : Y_zr) : T_zp_1 → Option (T_zp_1 ⊕ R_zp)
 | (v0, v3) =>
 match P.cmp .lss v3 (P.slen v0) with
 | false =>
  some (.inr (-1))
 | true =>
  match c_zr v0 v3 with
  | none => none
  | some (Eg, J4) =>
   match P.cmp .eql Eg 0 with
   | false =>
    some (.inl (v0, P.ar .add .i64 v3 Eg))
   | true =>
    some (.inr v3)
theorem o_zp_1 : Hd (b_zp_1 PP c_zr ) (A_zp_1 Ap m ) (el (A_zp_1 Ap m ) (O_zp m )) := by
 rintro ⟨v0, v3⟩ out hp stk
 subst hPP
 simp only [b_zp_1] at hp
 simp only [A_zp_1]
 rw [h.at_, hT]
 cbv
 try simp only [h.slen]
 cases c1 : xcmp .lss v3 (pslen v0) with
 | false =>
  simp only [c1] at hp ⊢
  cbv
  rw [h.at_, hT]
  cbv
  cases hp
  all_goals first | rfl | cbv
 | true =>
  simp only [c1] at hp ⊢
  cbv
  rw [h.at_, hT]
  cbv
  cases c3 : c_zr v0 v3 with
  | none => simp only [c3] at hp; cases hp
  | some y5 =>
   obtain ⟨Eg, J4⟩ := y5
   simp only [c3] at hp
   have qc := fun s => (h_zr c3 s).1
   simp only [qc]
   cbv
   cases c4 : xcmp .eql Eg 0 with
   | false =>
    simp only [c4] at hp ⊢
    cbv
    rw [h.at_, hT]
    cbv
    cases hp
    all_goals first | rfl | cbv
   | true =>
    simp only [c4] at hp ⊢
    cbv
    cases hp
    all_goals first | rfl | cbv
end
def b_zq_0 (P : Prims) (c_zp : Y_zp) : T_zq_0 → Option R_zq
 | v0 =>
 match c_zp v0 with
 | none => none
 | some Bi =>
  some (P.cmp .eql Bi (-1))
section
variable (c_zp : Y_zp) (h_zp : (C_zp As Am c_zp)) (m : Nat)
include c_zp h_zp m
theorem o_zq_0 : H_zq_0 Ap m (b_zq_0 PP c_zp ) := by
 rintro v0 out hp stk
 subst hPP
 simp only [b_zq_0] at hp
 simp only [A_zq_0]
 rw [h.at_, hT]
 cbv
 cases c2 : c_zp v0 with
 | none => simp only [c2] at hp; cases hp
 | some Bi =>
  simp only [c2] at hp
  have qc := fun s => (h_zp c2 s).1
  simp only [qc]
  cbv
  cases hp
  all_goals first | rfl | cbv
end
def b_z2_0 (P : Prims) (c_zq : Y_zq) (c_z2 : Y_z2) (l_2 : T_z2_2 → Option R_z2) : T_z2_0 → Option R_z2
 | (Af, Ak, Aj, Ah, Ai, v1) =>
 match P.cmp .lss v1 1 with
 | false =>
  match P.cmp .lss Af 0 with
  | false =>
   match P.cmp .gtr Af 5 with
   | false =>
    match P.cmp .neq Af 1 with
    | false =>
     match P.cmp .neq Af 3 with
     | false =>
      match P.cmp .neq Af 4 with
      | false =>
       match P.cmp .neq Af 5 with
       | false =>
        l_2 (v1, Af, Ak, Aj, Ah, Ai)
       | true =>
        match P.cmp .gtr (P.len Ai) 0 with
        | false =>
         l_2 (v1, Af, Ak, Aj, Ah, Ai)
        | true =>
         some false
      | true =>
       match P.cmp .gtr (P.len Ah) 0 with
       | false =>
        match P.cmp .neq Af 5 with
        | false =>
         l_2 (v1, Af, Ak, Aj, Ah, Ai)
        | true =>
         match P.cmp .gtr (P.len Ai) 0 with
         | false =>
          l_2 (v1, Af, Ak, Aj, Ah, Ai)
         | true =>
          some false
       | true =>
        some false
     | true =>
      match P.seq Aj [] with
      | false =>
       some false
      | true =>
       match P.cmp .neq Af 4 with
       | false =>
        match P.cmp .neq Af 5 with
        | false =>
         l_2 (v1, Af, Ak, Aj, Ah, Ai)
        | true =>
         match P.cmp .gtr (P.len Ai) 0 with
         | false =>
          l_2 (v1, Af, Ak, Aj, Ah, Ai)
         | true =>
          some false
       | true =>
        match P.cmp .gtr (P.len Ah) 0 with
        | false =>
         match P.cmp .neq Af 5 with
         | false =>
          l_2 (v1, Af, Ak, Aj, Ah, Ai)
         | true =>
          match P.cmp .gtr (P.len Ai) 0 with
          | false =>
           l_2 (v1, Af, Ak, Aj, Ah, Ai)
          | true =>
           some false
        | true =>
         some false
    | true =>
     match P.cmp .neq Af 2 with
     | false =>
      match P.cmp .neq Af 3 with
      | false =>
       match P.cmp .neq Af 4 with
       | false =>
        match P.cmp .neq Af 5 with
        | false =>
         l_2 (v1, Af, Ak, Aj, Ah, Ai)
        | true =>
         match P.cmp .gtr (P.len Ai) 0 with
         | false =>
          l_2 (v1, Af, Ak, Aj, Ah, Ai)
         | true =>
          some false
       | true =>
        match P.cmp .gtr (P.len Ah) 0 with
        | false =>
         match P.cmp .neq Af 5 with
         | false =>
          l_2 (v1, Af, Ak, Aj, Ah, Ai)
         | true =>
          match P.cmp .gtr (P.len Ai) 0 with
          | false =>
           l_2 (v1, Af, Ak, Aj, Ah, Ai)
          | true =>
           some false
        | true =>
         some false
      | true =>
       match P.seq Aj [] with
       | false =>
        some false
       | true =>
        match P.cmp .neq Af 4 with
        | false =>
         match P.cmp .neq Af 5 with
         | false =>
          l_2 (v1, Af, Ak, Aj, Ah, Ai)
         | true =>
          match P.cmp .gtr (P.len Ai) 0 with
          | false =>
           l_2 (v1, Af, Ak, Aj, Ah, Ai)
          | true =>
           some false
        | true =>
         match P.cmp .gtr (P.len Ah) 0 with
         | false =>
          match P.cmp .neq Af 5 with
          | false =>
           l_2 (v1, Af, Ak, Aj, Ah, Ai)
          | true =>
           match P.cmp .gtr (P.len Ai) 0 with
           | false =>
            l_2 (v1, Af, Ak, Aj, Ah, Ai)
           | true =>
            some false
         | true =>
          some false
     | true =>
      match P.cmp .neq Ak 0 with
      | false =>
       match P.cmp .neq Af 3 with
       | false =>
        match P.cmp .neq Af 4 with
        | false =>
         match P.cmp .neq Af 5 with
         | false =>
          l_2 (v1, Af, Ak, Aj, Ah, Ai)
         | true =>
          match P.cmp .gtr (P.len Ai) 0 with
          | false =>
           l_2 (v1, Af, Ak, Aj, Ah, Ai)
          | true =>
           some false
        | true =>
         match P.cmp .gtr (P.len Ah) 0 with
         | false =>
          match P.cmp .neq Af 5 with
          | false =>
           l_2 (v1, Af, Ak, Aj, Ah, Ai)
          | true =>
           match P.cmp .gtr (P.len Ai) 0 with
           | false =>
            l_2 (v1, Af, Ak, Aj, Ah, Ai)
           | true =>
            some false
         | true =>
          some false
       | true =>
        match P.seq Aj [] with
        | false =>
         some false
        | true =>
         match P.cmp .neq Af 4 with
         | false =>
          match P.cmp .neq Af 5 with
          | false =>
           l_2 (v1, Af, Ak, Aj, Ah, Ai)
          | true =>
           match P.cmp .gtr (P.len Ai) 0 with
           | false =>
            l_2 (v1, Af, Ak, Aj, Ah, Ai)
           | true =>
            some false
         | true =>
          match P.cmp .gtr (P.len Ah) 0 with
          | false =>
           match P.cmp .neq Af 5 with
           | false =>
            l_2 (v1, Af, Ak, Aj, Ah, Ai)
           | true =>
            match P.cmp .gtr (P.len Ai) 0 with
            | false =>
             l_2 (v1, Af, Ak, Aj, Ah, Ai)
            | true =>
             some false
          | true =>
           some false
      | true =>
       some false
   | true =>
    some false
  | true =>
   some false
 | true =>
  some false
section
variable (c_zq : Y_zq) (c_z2 : Y_z2) (h_zq : (C_zq As Am c_zq)) (h_z2 : (C_z2 As Am @Ab Ag Ac c_z2)) (m : Nat)
include c_zq c_z2 h_zq h_z2 m
theorem o_z2_0 {l_2 : T_z2_2 → Option R_z2} (h_l_2 : H_z2_2 Ap @Ab Ag Ac m l_2) : H_z2_0 Ap @Ab Ag Ac m (b_z2_0 PP c_zq c_z2 l_2) := by
 rintro ⟨Af, Ak, Aj, Ah, Ai, v1⟩ out hp stk
 subst hPP
 simp only [b_z2_0] at hp
 simp only [A_z2_0]
 rw [h.at_, hT]
 cbv
 cases c1 : xcmp .lss v1 1 with
 | false =>
  simp only [c1] at hp ⊢
  cbv
  cases c2 : xcmp .lss Af 0 with
  | false =>
   simp only [c2] at hp ⊢
   cbv
   cases c3 : xcmp .gtr Af 5 with
   | false =>
    simp only [c3] at hp ⊢
    cbv
    rw [h.at_, hT]
    cbv
    cases c4 : xcmp .neq Af 1 with
    | false =>
     simp only [c4] at hp ⊢
     cbv
     cases c35 : xcmp .neq Af 3 with
     | false =>
      simp only [c35] at hp ⊢
      cbv
      cases c43 : xcmp .neq Af 4 with
      | false =>
       simp only [c43] at hp ⊢
       cbv
       cases c47 : xcmp .neq Af 5 with
       | false =>
        simp only [c47] at hp ⊢
        cbv
        first | exact h_l_2 hp stk | (have q := h_l_2 hp stk; simp only [A_z2_2, h.lits, hA] at q; first | exact q | (cbv; exact q))
       | true =>
        simp only [c47] at hp ⊢
        cbv
        try simp only [h.len]
        cases c48 : xcmp .gtr (plen Ai) 0 with
        | false =>
         simp only [c48] at hp ⊢
         cbv
         first | exact h_l_2 hp stk | (have q := h_l_2 hp stk; simp only [A_z2_2, h.lits, hA] at q; first | exact q | (cbv; exact q))
        | true =>
         simp only [c48] at hp ⊢
         cbv
         cases hp
         all_goals first | rfl | cbv
      | true =>
       simp only [c43] at hp ⊢
       cbv
       try simp only [h.len]
       cases c44 : xcmp .gtr (plen Ah) 0 with
       | false =>
        simp only [c44] at hp ⊢
        cbv
        cases c45 : xcmp .neq Af 5 with
        | false =>
         simp only [c45] at hp ⊢
         cbv
         first | exact h_l_2 hp stk | (have q := h_l_2 hp stk; simp only [A_z2_2, h.lits, hA] at q; first | exact q | (cbv; exact q))
        | true =>
         simp only [c45] at hp ⊢
         cbv
         try simp only [h.len]
         cases c46 : xcmp .gtr (plen Ai) 0 with
         | false =>
          simp only [c46] at hp ⊢
          cbv
          first | exact h_l_2 hp stk | (have q := h_l_2 hp stk; simp only [A_z2_2, h.lits, hA] at q; first | exact q | (cbv; exact q))
         | true =>
          simp only [c46] at hp ⊢
          cbv
          cases hp
          all_goals first | rfl | cbv
       | true =>
        simp only [c44] at hp ⊢
        cbv
        cases hp
        all_goals first | rfl | cbv
     | true =>
      simp only [c35] at hp ⊢
      cbv
      cases c36 : xseq Aj [] with
      | false =>
       simp only [c36] at hp ⊢
       cbv
       cases hp
       all_goals first | rfl | cbv
      | true =>
       simp only [c36] at hp ⊢
       cbv
       cases c37 : xcmp .neq Af 4 with
       | false =>
        simp only [c37] at hp ⊢
        cbv
        cases c41 : xcmp .neq Af 5 with
        | false =>
         simp only [c41] at hp ⊢
         cbv
         first | exact h_l_2 hp stk | (have q := h_l_2 hp stk; simp only [A_z2_2, h.lits, hA] at q; first | exact q | (cbv; exact q))
        | true =>
         simp only [c41] at hp ⊢
         cbv
         try simp only [h.len]
         cases c42 : xcmp .gtr (plen Ai) 0 with
         | false =>
          simp only [c42] at hp ⊢
          cbv
          first | exact h_l_2 hp stk | (have q := h_l_2 hp stk; simp only [A_z2_2, h.lits, hA] at q; first | exact q | (cbv; exact q))
         | true =>
          simp only [c42] at hp ⊢
          cbv
          cases hp
          all_goals first | rfl | cbv
       | true =>
        simp only [c37] at hp ⊢
        cbv
        try simp only [h.len]
        cases c38 : xcmp .gtr (plen Ah) 0 with
        | false =>
         simp only [c38] at hp ⊢
         cbv
         cases c39 : xcmp .neq Af 5 with
         | false =>
          simp only [c39] at hp ⊢
          cbv
          first | exact h_l_2 hp stk | (have q := h_l_2 hp stk; simp only [A_z2_2, h.lits, hA] at q; first | exact q | (cbv; exact q))
         | true =>
          simp only [c39] at hp ⊢
          cbv
          try simp only [h.len]
          cases c40 : xcmp .gtr (plen Ai) 0 with
          | false =>
           simp only [c40] at hp ⊢
           cbv
           first | exact h_l_2 hp stk | (have q := h_l_2 hp stk; simp only [A_z2_2, h.lits, hA] at q; first | exact q | (cbv; exact q))
          | true =>
           simp only [c40] at hp ⊢
           cbv
           cases hp
           all_goals first | rfl | cbv
        | true =>
         simp only [c38] at hp ⊢
         cbv
         cases hp
         all_goals first | rfl | cbv
    | true =>
     simp only [c4] at hp ⊢
     cbv
     cases c5 : xcmp .neq Af 2 with
     | false =>
      simp only [c5] at hp ⊢
      cbv
      cases c21 : xcmp .neq Af 3 with
      | false =>
       simp only [c21] at hp ⊢
       cbv
       cases c29 : xcmp .neq Af 4 with
       | false =>
        simp only [c29] at hp ⊢
        cbv
        cases c33 : xcmp .neq Af 5 with
        | false =>
         simp only [c33] at hp ⊢
         cbv
         first | exact h_l_2 hp stk | (have q := h_l_2 hp stk; simp only [A_z2_2, h.lits, hA] at q; first | exact q | (cbv; exact q))
        | true =>
         simp only [c33] at hp ⊢
         cbv
         try simp only [h.len]
         cases c34 : xcmp .gtr (plen Ai) 0 with
         | false =>
          simp only [c34] at hp ⊢
          cbv
          first | exact h_l_2 hp stk | (have q := h_l_2 hp stk; simp only [A_z2_2, h.lits, hA] at q; first | exact q | (cbv; exact q))
         | true =>
          simp only [c34] at hp ⊢
          cbv
          cases hp
          all_goals first | rfl | cbv
       | true =>
        simp only [c29] at hp ⊢
        cbv
        try simp only [h.len]
        cases c30 : xcmp .gtr (plen Ah) 0 with
        | false =>
         simp only [c30] at hp ⊢
         cbv
         cases c31 : xcmp .neq Af 5 with
         | false =>
          simp only [c31] at hp ⊢
          cbv
          first | exact h_l_2 hp stk | (have q := h_l_2 hp stk; simp only [A_z2_2, h.lits, hA] at q; first | exact q | (cbv; exact q))
         | true =>
          simp only [c31] at hp ⊢
          cbv
          try simp only [h.len]
          cases c32 : xcmp .gtr (plen Ai) 0 with
          | false =>
           simp only [c32] at hp ⊢
           cbv
           first | exact h_l_2 hp stk | (have q := h_l_2 hp stk; simp only [A_z2_2, h.lits, hA] at q; first | exact q | (cbv; exact q))
          | true =>
           simp only [c32] at hp ⊢
           cbv
           cases hp
           all_goals first | rfl | cbv
        | true =>
         simp only [c30] at hp ⊢
         cbv
         cases hp
         all_goals first | rfl | cbv
      | true =>
       simp only [c21] at hp ⊢
       cbv
       cases c22 : xseq Aj [] with
       | false =>
        simp only [c22] at hp ⊢
        cbv
        cases hp
        all_goals first | rfl | cbv
       | true =>
        simp only [c22] at hp ⊢
        cbv
        cases c23 : xcmp .neq Af 4 with
        | false =>
         simp only [c23] at hp ⊢
         cbv
         cases c27 : xcmp .neq Af 5 with
         | false =>
          simp only [c27] at hp ⊢
          cbv
          first | exact h_l_2 hp stk | (have q := h_l_2 hp stk; simp only [A_z2_2, h.lits, hA] at q; first | exact q | (cbv; exact q))
         | true =>
          simp only [c27] at hp ⊢
          cbv
          try simp only [h.len]
          cases c28 : xcmp .gtr (plen Ai) 0 with
          | false =>
           simp only [c28] at hp ⊢
           cbv
           first | exact h_l_2 hp stk | (have q := h_l_2 hp stk; simp only [A_z2_2, h.lits, hA] at q; first | exact q | (cbv; exact q))
          | true =>
           simp only [c28] at hp ⊢
           cbv
           cases hp
           all_goals first | rfl | cbv
        | true =>
         simp only [c23] at hp ⊢
         cbv
         try simp only [h.len]
         cases c24 : xcmp .gtr (plen Ah) 0 with
         | false =>
          simp only [c24] at hp ⊢
          cbv
          cases c25 : xcmp .neq Af 5 with
          | false =>
           simp only [c25] at hp ⊢
           cbv
           first | exact h_l_2 hp stk | (have q := h_l_2 hp stk; simp only [A_z2_2, h.lits, hA] at q; first | exact q | (cbv; exact q))
          | true =>
           simp only [c25] at hp ⊢
           cbv
           try simp only [h.len]
           cases c26 : xcmp .gtr (plen Ai) 0 with
           | false =>
            simp only [c26] at hp ⊢
            cbv
            first | exact h_l_2 hp stk | (have q := h_l_2 hp stk; simp only [A_z2_2, h.lits, hA] at q; first | exact q | (cbv; exact q))
           | true =>
            simp only [c26] at hp ⊢
            cbv
            cases hp
            all_goals first | rfl | cbv
         | true =>
          simp only [c24] at hp ⊢
          cbv
          cases hp
          all_goals first | rfl | cbv
     | true =>
      simp only [c5] at hp ⊢
      cbv
      cases c6 : xcmp .neq Ak 0 with
      | false =>
       simp only [c6] at hp ⊢
       cbv
       cases c7 : xcmp .neq Af 3 with
       | false =>
        simp only [c7] at hp ⊢
        cbv
        cases c15 : xcmp .neq Af 4 with
        | false =>
         simp only [c15] at hp ⊢
         cbv
         cases c19 : xcmp .neq Af 5 with
         | false =>
          simp only [c19] at hp ⊢
          cbv
          first | exact h_l_2 hp stk | (have q := h_l_2 hp stk; simp only [A_z2_2, h.lits, hA] at q; first | exact q | (cbv; exact q))
         | true =>
          simp only [c19] at hp ⊢
          cbv
          try simp only [h.len]
          cases c20 : xcmp .gtr (plen Ai) 0 with
          | false =>
           simp only [c20] at hp ⊢
           cbv
           first | exact h_l_2 hp stk | (have q := h_l_2 hp stk; simp only [A_z2_2, h.lits, hA] at q; first | exact q | (cbv; exact q))
          | true =>
           simp only [c20] at hp ⊢
           cbv
           cases hp
           all_goals first | rfl | cbv
        | true =>
         simp only [c15] at hp ⊢
         cbv
         try simp only [h.len]
         cases c16 : xcmp .gtr (plen Ah) 0 with
         | false =>
          simp only [c16] at hp ⊢
          cbv
          cases c17 : xcmp .neq Af 5 with
          | false =>
           simp only [c17] at hp ⊢
           cbv
           first | exact h_l_2 hp stk | (have q := h_l_2 hp stk; simp only [A_z2_2, h.lits, hA] at q; first | exact q | (cbv; exact q))
          | true =>
           simp only [c17] at hp ⊢
           cbv
           try simp only [h.len]
           cases c18 : xcmp .gtr (plen Ai) 0 with
           | false =>
            simp only [c18] at hp ⊢
            cbv
            first | exact h_l_2 hp stk | (have q := h_l_2 hp stk; simp only [A_z2_2, h.lits, hA] at q; first | exact q | (cbv; exact q))
           | true =>
            simp only [c18] at hp ⊢
            cbv
            cases hp
            all_goals first | rfl | cbv
         | true =>
          simp only [c16] at hp ⊢
          cbv
          cases hp
          all_goals first | rfl | cbv
       | true =>
        simp only [c7] at hp ⊢
        cbv
        cases c8 : xseq Aj [] with
        | false =>
         simp only [c8] at hp ⊢
         cbv
         cases hp
         all_goals first | rfl | cbv
        | true =>
         simp only [c8] at hp ⊢
         cbv
         cases c9 : xcmp .neq Af 4 with
         | false =>
          simp only [c9] at hp ⊢
          cbv
          cases c13 : xcmp .neq Af 5 with
          | false =>
           simp only [c13] at hp ⊢
           cbv
           first | exact h_l_2 hp stk | (have q := h_l_2 hp stk; simp only [A_z2_2, h.lits, hA] at q; first | exact q | (cbv; exact q))
          | true =>
           simp only [c13] at hp ⊢
           cbv
           try simp only [h.len]
           cases c14 : xcmp .gtr (plen Ai) 0 with
           | false =>
            simp only [c14] at hp ⊢
            cbv
            first | exact h_l_2 hp stk | (have q := h_l_2 hp stk; simp only [A_z2_2, h.lits, hA] at q; first | exact q | (cbv; exact q))
           | true =>
            simp only [c14] at hp ⊢
            cbv
            cases hp
            all_goals first | rfl | cbv
         | true =>
          simp only [c9] at hp ⊢
          cbv
          try simp only [h.len]
          cases c10 : xcmp .gtr (plen Ah) 0 with
          | false =>
           simp only [c10] at hp ⊢
           cbv
           cases c11 : xcmp .neq Af 5 with
           | false =>
            simp only [c11] at hp ⊢
            cbv
            first | exact h_l_2 hp stk | (have q := h_l_2 hp stk; simp only [A_z2_2, h.lits, hA] at q; first | exact q | (cbv; exact q))
           | true =>
            simp only [c11] at hp ⊢
            cbv
            try simp only [h.len]
            cases c12 : xcmp .gtr (plen Ai) 0 with
            | false =>
             simp only [c12] at hp ⊢
             cbv
             first | exact h_l_2 hp stk | (have q := h_l_2 hp stk; simp only [A_z2_2, h.lits, hA] at q; first | exact q | (cbv; exact q))
            | true =>
             simp only [c12] at hp ⊢
             cbv
             cases hp
             all_goals first | rfl | cbv
          | true =>
           simp only [c10] at hp ⊢
           cbv
           cases hp
           all_goals first | rfl | cbv
      | true =>
       simp only [c6] at hp ⊢
       cbv
       cases hp
       all_goals first | rfl | cbv
   | true =>
    simp only [c3] at hp ⊢
    cbv
    cases hp
    all_goals first | rfl | cbv
  | true =>
   simp only [c2] at hp ⊢
   cbv
   cases hp
   all_goals first | rfl | cbv
 | true =>
  simp only [c1] at hp ⊢
  cbv
  cases hp
  all_goals first | rfl | cbv
def b_z2_2 (P : Prims) (c_zq : Y_zq) (c_z2 : Y_z2) (l_3 : T_z2_3 → Option R_z2) : T_z2_2 → Option R_z2
 | (v1, A1, A4, Bb, A5, A2) =>
 match P.cmp .eql A1 1 with
 | false =>
  match P.cmp .gtr A4 9007199254740991 with
  | false =>
   match P.cmp .lss A4 (-9007199254740991) with
   | false =>
    match c_zq Bb with
    | none => none
    | some Ih =>
     match Ih with
     | false =>
      some false
     | true =>
      l_3 (v1, A1, A4, Bb, A5, A2)
   | true =>
    some false
  | true =>
   some false
 | true =>
  match P.cmp .neq A4 0 with
  | false =>
   match P.cmp .gtr A4 9007199254740991 with
   | false =>
    match P.cmp .lss A4 (-9007199254740991) with
    | false =>
     match c_zq Bb with
     | none => none
     | some Ii =>
      match Ii with
      | false =>
       some false
      | true =>
       l_3 (v1, A1, A4, Bb, A5, A2)
    | true =>
     some false
   | true =>
    some false
  | true =>
   match P.cmp .neq A4 1 with
   | false =>
    match P.cmp .gtr A4 9007199254740991 with
    | false =>
     match P.cmp .lss A4 (-9007199254740991) with
     | false =>
      match c_zq Bb with
      | none => none
      | some Ij =>
       match Ij with
       | false =>
        some false
       | true =>
        l_3 (v1, A1, A4, Bb, A5, A2)
     | true =>
      some false
    | true =>
     some false
   | true =>
    some false
theorem o_z2_2 {l_3 : T_z2_3 → Option R_z2} (h_l_3 : H_z2_3 Ap @Ab Ag Ac m l_3) : H_z2_2 Ap @Ab Ag Ac m (b_z2_2 PP c_zq c_z2 l_3) := by
 rintro ⟨v1, A1, A4, Bb, A5, A2⟩ out hp stk
 subst hPP
 simp only [b_z2_2] at hp
 simp only [A_z2_2]
 rw [h.at_, hT]
 cbv
 cases c49 : xcmp .eql A1 1 with
 | false =>
  simp only [c49] at hp ⊢
  cbv
  cases c62 : xcmp .gtr A4 9007199254740991 with
  | false =>
   simp only [c62] at hp ⊢
   cbv
   cases c63 : xcmp .lss A4 (-9007199254740991) with
   | false =>
    simp only [c63] at hp ⊢
    cbv
    cases c65 : c_zq Bb with
    | none => simp only [c65] at hp; cases hp
    | some Ih =>
     simp only [c65] at hp
     have qc := fun s => (h_zq c65 s).1
     simp only [qc]
     cbv
     cases Ih with
     | false =>
      simp only at hp
      cbv
      cases hp
      all_goals first | rfl | cbv
     | true =>
      simp only at hp
      cbv
      first | exact h_l_3 hp stk | (have q := h_l_3 hp stk; simp only [A_z2_3, h.lits, hA] at q; first | exact q | (cbv; exact q))
   | true =>
    simp only [c63] at hp ⊢
    cbv
    cases hp
    all_goals first | rfl | cbv
  | true =>
   simp only [c62] at hp ⊢
   cbv
   cases hp
   all_goals first | rfl | cbv
 | true =>
  simp only [c49] at hp ⊢
  cbv
  cases c50 : xcmp .neq A4 0 with
  | false =>
   simp only [c50] at hp ⊢
   cbv
   cases c57 : xcmp .gtr A4 9007199254740991 with
   | false =>
    simp only [c57] at hp ⊢
    cbv
    cases c58 : xcmp .lss A4 (-9007199254740991) with
    | false =>
     simp only [c58] at hp ⊢
     cbv
     cases c60 : c_zq Bb with
     | none => simp only [c60] at hp; cases hp
     | some Ii =>
      simp only [c60] at hp
      have qc := fun s => (h_zq c60 s).1
      simp only [qc]
      cbv
      cases Ii with
      | false =>
       simp only at hp
       cbv
       cases hp
       all_goals first | rfl | cbv
      | true =>
       simp only at hp
       cbv
       first | exact h_l_3 hp stk | (have q := h_l_3 hp stk; simp only [A_z2_3, h.lits, hA] at q; first | exact q | (cbv; exact q))
    | true =>
     simp only [c58] at hp ⊢
     cbv
     cases hp
     all_goals first | rfl | cbv
   | true =>
    simp only [c57] at hp ⊢
    cbv
    cases hp
    all_goals first | rfl | cbv
  | true =>
   simp only [c50] at hp ⊢
   cbv
   cases c51 : xcmp .neq A4 1 with
   | false =>
    simp only [c51] at hp ⊢
    cbv
    cases c52 : xcmp .gtr A4 9007199254740991 with
    | false =>
     simp only [c52] at hp ⊢
     cbv
     cases c53 : xcmp .lss A4 (-9007199254740991) with
     | false =>
      simp only [c53] at hp ⊢
      cbv
      cases c55 : c_zq Bb with
      | none => simp only [c55] at hp; cases hp
      | some Ij =>
       simp only [c55] at hp
       have qc := fun s => (h_zq c55 s).1
       simp only [qc]
       cbv
       cases Ij with
       | false =>
        simp only at hp
        cbv
        cases hp
        all_goals first | rfl | cbv
       | true =>
        simp only at hp
        cbv
        first | exact h_l_3 hp stk | (have q := h_l_3 hp stk; simp only [A_z2_3, h.lits, hA] at q; first | exact q | (cbv; exact q))
     | true =>
      simp only [c53] at hp ⊢
      cbv
      cases hp
      all_goals first | rfl | cbv
    | true =>
     simp only [c52] at hp ⊢
     cbv
     cases hp
     all_goals first | rfl | cbv
   | true =>
    simp only [c51] at hp ⊢
    cbv
    cases hp
    all_goals first | rfl | cbv
def b_z2_3 (P : Prims) (c_zq : Y_zq) (c_z2 : Y_z2) (l_4 : T_z2_4 → Option R_z2) : T_z2_3 → Option R_z2
 | (v1, A1, A4, Bb, A5, A2) =>
 l_4 (v1, A1, A4, Bb, A5, A2, 0)
theorem o_z2_3 {l_4 : T_z2_4 → Option R_z2} (h_l_4 : H_z2_4 Ap @Ab Ag Ac m l_4) : H_z2_3 Ap @Ab Ag Ac m (b_z2_3 PP c_zq c_z2 l_4) := by
 rintro ⟨v1, A1, A4, Bb, A5, A2⟩ out hp stk
 subst hPP
 simp only [b_z2_3] at hp
 simp only [A_z2_3]
 rw [h.at_, hT]
 cbv
 first | exact h_l_4 hp stk | (have q := h_l_4 hp stk; simp only [A_z2_4, h.lits, hA] at q; first | exact q | (cbv; exact q))
def b_z2_4 (P : Prims) (c_zq : Y_zq) (c_z2 : Y_z2) (l_8 : T_z2_8 → Option R_z2) : T_z2_4 → Option (T_z2_4 ⊕ R_z2)
 | (v1, A1, A4, Bb, A5, A2, v5) =>
 match P.cmp .lss v5 (P.len A5) with
 | false =>
  match l_8 (v1, A1, A4, Bb, A5, A2, 0) with | none => none | some o74 => some (.inr o74)
 | true =>
  match P.idx A5 v5 with
  | none => none
  | some ⟨Ik, Il, Im, Io, Ip⟩ =>
   match c_z2 ⟨Ik, Il, Im, Io, Ip⟩ (P.ar .sub .i64 v1 1) with
   | none => none
   | some Iq =>
    match Iq with
    | false =>
     some (.inr false)
    | true =>
     some (.inl (v1, A1, A4, Bb, A5, A2, P.ar .add .i64 v5 1))
theorem o_z2_4 {l_8 : T_z2_8 → Option R_z2} (h_l_8 : H_z2_8 Ap @Ab Ag Ac m l_8) : Hd (b_z2_4 PP c_zq c_z2 l_8) (A_z2_4 Ap @Ab Ag Ac m ) (el (A_z2_4 Ap @Ab Ag Ac m ) (O_z2 m )) := by
 rintro ⟨v1, A1, A4, Bb, A5, A2, v5⟩ out hp stk
 subst hPP
 simp only [b_z2_4] at hp
 simp only [A_z2_4]
 rw [h.at_, hT]
 cbv
 try simp only [h.len]
 cases c67 : xcmp .lss v5 (plen A5) with
 | false =>
  simp only [c67] at hp ⊢
  cbv
  rw [h.at_, hT]
  cbv
  cases c : l_8 (v1, A1, A4, Bb, A5, A2, 0) with
  | none => simp only [c] at hp; cases hp
  | some o74 =>
   simp only [c] at hp
   cases hp
   first | exact h_l_8 c stk | (have q := h_l_8 c stk; simp only [A_z2_8, h.lits, hA] at q; first | exact q | (cbv; exact q))
 | true =>
  simp only [c67] at hp ⊢
  cbv
  rw [h.at_, hT]
  cbv
  cases c69 : pidx A5 v5 with
  | none => simp only [c69] at hp; cases hp
  | some y73 =>
   obtain ⟨Ik, Il, Im, Io, Ip⟩ := y73
   simp only [c69] at hp
   obtain ⟨q1, q2⟩ := h.idx Ag c69
   try simp only [hA.1] at q2
   simp only [q1, Bool.false_eq_true, if_false]
   cbv
   try simp only [q2]
   cbv
   cases c71 : c_z2 ⟨Ik, Il, Im, Io, Ip⟩ (xar .sub .i64 v1 1) with
   | none => simp only [c71] at hp; cases hp
   | some Iq =>
    simp only [c71] at hp
    have qc := fun s => (h_z2 c71 s).1
    simp only [qc]
    cbv
    cases Iq with
    | false =>
     simp only at hp
     cbv
     cases hp
     all_goals first | rfl | cbv
    | true =>
     simp only at hp
     cbv
     rw [h.at_, hT]
     cbv
     cases hp
     all_goals first | rfl | cbv
def b_z2_8 (P : Prims) (c_zq : Y_zq) (c_z2 : Y_z2) (l_11 : T_z2_11 → Option (T_z2_8 ⊕ R_z2)) : T_z2_8 → Option (T_z2_8 ⊕ R_z2)
 | (v1, A1, A4, Bb, A5, A2, v6) =>
 match P.cmp .lss v6 (P.len A2) with
 | false =>
  some (.inr true)
 | true =>
  match P.idx A2 v6 with
  | none => none
  | some ⟨E4, ⟨Du, Dv, Dw, Dx, Dy⟩⟩ =>
   match c_zq E4 with
   | none => none
   | some Ir =>
    match Ir with
    | false =>
     some (.inr false)
    | true =>
     match c_z2 ⟨Du, Dv, Dw, Dx, Dy⟩ (P.ar .sub .i64 v1 1) with
     | none => none
     | some E5 =>
      match E5 with
      | false =>
       some (.inr false)
      | true =>
       l_11 (v1, A1, A4, Bb, A5, A2, v6, 0)
theorem o_z2_8 {l_11 : T_z2_11 → Option (T_z2_8 ⊕ R_z2)} (h_l_11 : H_z2_11 Ap @Ab Ag Ac m l_11) : Hd (b_z2_8 PP c_zq c_z2 l_11) (A_z2_8 Ap @Ab Ag Ac m ) (el (A_z2_8 Ap @Ab Ag Ac m ) (O_z2 m )) := by
 rintro ⟨v1, A1, A4, Bb, A5, A2, v6⟩ out hp stk
 subst hPP
 simp only [b_z2_8] at hp
 simp only [A_z2_8]
 rw [h.at_, hT]
 cbv
 try simp only [h.len]
 cases c75 : xcmp .lss v6 (plen A2) with
 | false =>
  simp only [c75] at hp ⊢
  cbv
  rw [h.at_, hT]
  cbv
  cases hp
  all_goals first | rfl | cbv
 | true =>
  simp only [c75] at hp ⊢
  cbv
  rw [h.at_, hT]
  cbv
  cases c77 : pidx A2 v6 with
  | none => simp only [c77] at hp; cases hp
  | some y84 =>
   obtain ⟨E4, ⟨Du, Dv, Dw, Dx, Dy⟩⟩ := y84
   simp only [c77] at hp
   obtain ⟨q1, q2⟩ := h.idx Ac c77
   try simp only [hA.2.1] at q2
   simp only [q1, Bool.false_eq_true, if_false]
   cbv
   try simp only [q2]
   cbv
   cases c79 : c_zq E4 with
   | none => simp only [c79] at hp; cases hp
   | some Ir =>
    simp only [c79] at hp
    have qc := fun s => (h_zq c79 s).1
    simp only [qc]
    cbv
    cases Ir with
    | false =>
     simp only at hp
     cbv
     cases hp
     all_goals first | rfl | cbv
    | true =>
     simp only at hp
     cbv
     obtain ⟨q1, q2⟩ := h.idx Ac c77
     try simp only [hA.2.1] at q2
     simp only [q1, Bool.false_eq_true, if_false]
     cbv
     try simp only [q2]
     cbv
     cases c82 : c_z2 ⟨Du, Dv, Dw, Dx, Dy⟩ (xar .sub .i64 v1 1) with
     | none => simp only [c82] at hp; cases hp
     | some E5 =>
      simp only [c82] at hp
      have qc := fun s => (h_z2 c82 s).1
      simp only [qc]
      cbv
      cases E5 with
      | false =>
       simp only at hp
       cbv
       cases hp
       all_goals first | rfl | cbv
      | true =>
       simp only at hp
       cbv
       rw [h.at_, hT]
       cbv
       first | exact h_l_11 hp stk | (have q := h_l_11 hp stk; simp only [A_z2_11, h.lits, hA] at q; first | exact q | (cbv; exact q))
def b_z2_11 (P : Prims) (c_zq : Y_zq) (c_z2 : Y_z2) : T_z2_11 → Option (T_z2_11 ⊕ (T_z2_8 ⊕ R_z2))
 | (v1, A1, A4, Bb, A5, A2, v6, v7) =>
 match P.cmp .lss v7 v6 with
 | false =>
  some (.inr (.inl (v1, A1, A4, Bb, A5, A2, P.ar .add .i64 v6 1)))
 | true =>
  match P.idx A2 v7 with
  | none => none
  | some ⟨Is, ⟨Jc, Jd, Je, Jf, Jg⟩⟩ =>
   match P.idx A2 v6 with
   | none => none
   | some ⟨It, ⟨Jh, Ji, Jj, Jk, Jl⟩⟩ =>
    match P.seq Is It with
    | false =>
     some (.inl (v1, A1, A4, Bb, A5, A2, v6, P.ar .add .i64 v7 1))
    | true =>
     some (.inr (.inr false))
theorem o_z2_11 : Hd (b_z2_11 PP c_zq c_z2 ) (A_z2_11 Ap @Ab Ag Ac m ) (el (A_z2_11 Ap @Ab Ag Ac m ) (el (A_z2_8 Ap @Ab Ag Ac m ) (O_z2 m ))) := by
 rintro ⟨v1, A1, A4, Bb, A5, A2, v6, v7⟩ out hp stk
 subst hPP
 simp only [b_z2_11] at hp
 simp only [A_z2_11]
 rw [h.at_, hT]
 cbv
 cases c85 : xcmp .lss v7 v6 with
 | false =>
  simp only [c85] at hp ⊢
  cbv
  rw [h.at_, hT]
  cbv
  cases hp
  all_goals first | rfl | cbv
 | true =>
  simp only [c85] at hp ⊢
  cbv
  rw [h.at_, hT]
  cbv
  cases c87 : pidx A2 v7 with
  | none => simp only [c87] at hp; cases hp
  | some y92 =>
   obtain ⟨Is, ⟨Jc, Jd, Je, Jf, Jg⟩⟩ := y92
   simp only [c87] at hp
   obtain ⟨q1, q2⟩ := h.idx Ac c87
   try simp only [hA.2.1] at q2
   simp only [q1, Bool.false_eq_true, if_false]
   cbv
   try simp only [q2]
   cbv
   cases c89 : pidx A2 v6 with
   | none => simp only [c89] at hp; cases hp
   | some y91 =>
    obtain ⟨It, ⟨Jh, Ji, Jj, Jk, Jl⟩⟩ := y91
    simp only [c89] at hp
    obtain ⟨q1, q2⟩ := h.idx Ac c89
    try simp only [hA.2.1] at q2
    simp only [q1, Bool.false_eq_true, if_false]
    cbv
    try simp only [q2]
    cbv
    cases c90 : xseq Is It with
    | false =>
     simp only [c90] at hp ⊢
     cbv
     rw [h.at_, hT]
     cbv
     cases hp
     all_goals first | rfl | cbv
    | true =>
     simp only [c90] at hp ⊢
     cbv
     cases hp
     all_goals first | rfl | cbv
end
def b_zx_0 (P : Prims) (c_z2 : Y_z2) : T_zx_0 → Option R_zx
 | (Af, Ak, Aj, Ah, Ai) =>
 match c_z2 ⟨Af, Ak, Aj, Ah, Ai⟩ 12 with
 | none => none
 | some Bi =>
  some Bi
section
variable (c_z2 : Y_z2) (h_z2 : (C_z2 As Am @Ab Ag Ac c_z2)) (m : Nat)
include c_z2 h_z2 m
theorem o_zx_0 : H_zx_0 Ap @Ab Ag Ac m (b_zx_0 PP c_z2 ) := by
 rintro ⟨Af, Ak, Aj, Ah, Ai⟩ out hp stk
 subst hPP
 simp only [b_zx_0] at hp
 simp only [A_zx_0]
 rw [h.at_, hT]
 cbv
 cases c2 : c_z2 ⟨Af, Ak, Aj, Ah, Ai⟩ 12 with
 | none => simp only [c2] at hp; cases hp
 | some Bi =>
  simp only [c2] at hp
  have qc := fun s => (h_z2 c2 s).1
  simp only [qc]
  cbv
  cases hp
  all_goals first | rfl | cbv
end
def b_zj_0 (P : Prims) (l_1 : T_zj_1 → Option R_zj) : T_zj_0 → Option R_zj
 | v0 =>
 l_1 (v0, 0)
section
variable (m : Nat)
include m
theorem o_zj_0 {l_1 : T_zj_1 → Option R_zj} (h_l_1 : H_zj_1 Ap @Ab Ax m l_1) : H_zj_0 Ap @Ab Ax m (b_zj_0 PP l_1) := by
 rintro v0 out hp stk
 subst hPP
 simp only [b_zj_0] at hp
 simp only [A_zj_0]
 rw [h.at_, hT]
 cbv
 first | exact h_l_1 hp stk | (have q := h_l_1 hp stk; simp only [A_zj_1, h.lits, hA] at q; first | exact q | (cbv; exact q))
def b_zj_1 (P : Prims) (l_3 : T_zj_3 → Option (T_zj_1 ⊕ R_zj)) : T_zj_1 → Option (T_zj_1 ⊕ R_zj)
 | (v0, v3) =>
 match P.cmp .lss v3 (P.len v0) with
 | false =>
  some (.inr false)
 | true =>
  l_3 (v0, v3, 0)
theorem o_zj_1 {l_3 : T_zj_3 → Option (T_zj_1 ⊕ R_zj)} (h_l_3 : H_zj_3 Ap @Ab Ax m l_3) : Hd (b_zj_1 PP l_3) (A_zj_1 Ap @Ab Ax m ) (el (A_zj_1 Ap @Ab Ax m ) (O_zj m )) := by
 rintro ⟨v0, v3⟩ out hp stk
 subst hPP
 simp only [b_zj_1] at hp
 simp only [A_zj_1]
 rw [h.at_, hT]
 cbv
 try simp only [h.len]
 cases c1 : xcmp .lss v3 (plen v0) with
 | false =>
  simp only [c1] at hp ⊢
  cbv
  rw [h.at_, hT]
  cbv
  cases hp
  all_goals first | rfl | cbv
 | true =>
  simp only [c1] at hp ⊢
  cbv
  rw [h.at_, hT]
  cbv
  first | exact h_l_3 hp stk | (have q := h_l_3 hp stk; simp only [A_zj_3, h.lits, hA] at q; first | exact q | (cbv; exact q))
def b_zj_3 (P : Prims) : T_zj_3 → Option (T_zj_3 ⊕ (T_zj_1 ⊕ R_zj))
 | (v0, v3, v4) =>
 match P.cmp .lss v4 v3 with
 | false =>
  some (.inr (.inl (v0, P.ar .add .i64 v3 1)))
 | true =>
  match P.idx v0 v4 with
  | none => none
  | some a3 =>
   match P.idx v0 v3 with
   | none => none
   | some a5 =>
    match P.seq a3 a5 with
    | false =>
     some (.inl (v0, v3, P.ar .add .i64 v4 1))
    | true =>
     some (.inr (.inr true))
theorem o_zj_3 : Hd (b_zj_3 PP ) (A_zj_3 Ap @Ab Ax m ) (el (A_zj_3 Ap @Ab Ax m ) (el (A_zj_1 Ap @Ab Ax m ) (O_zj m ))) := by
 rintro ⟨v0, v3, v4⟩ out hp stk
 subst hPP
 simp only [b_zj_3] at hp
 simp only [A_zj_3]
 rw [h.at_, hT]
 cbv
 cases c2 : xcmp .lss v4 v3 with
 | false =>
  simp only [c2] at hp ⊢
  cbv
  rw [h.at_, hT]
  cbv
  cases hp
  all_goals first | rfl | cbv
 | true =>
  simp only [c2] at hp ⊢
  cbv
  rw [h.at_, hT]
  cbv
  cases c4 : pidx v0 v4 with
  | none => simp only [c4] at hp; cases hp
  | some a3 =>
   simp only [c4] at hp
   obtain ⟨q1, q2⟩ := h.idx Ax c4
   try simp only [hA.2.2.2] at q2
   simp only [q1, Bool.false_eq_true, if_false]
   cbv
   try simp only [q2]
   cbv
   cases c6 : pidx v0 v3 with
   | none => simp only [c6] at hp; cases hp
   | some a5 =>
    simp only [c6] at hp
    obtain ⟨q1, q2⟩ := h.idx Ax c6
    try simp only [hA.2.2.2] at q2
    simp only [q1, Bool.false_eq_true, if_false]
    cbv
    try simp only [q2]
    cbv
    cases c7 : xseq a3 a5 with
    | false =>
     simp only [c7] at hp ⊢
     cbv
     rw [h.at_, hT]
     cbv
     cases hp
     all_goals first | rfl | cbv
    | true =>
     simp only [c7] at hp ⊢
     cbv
     cases hp
     all_goals first | rfl | cbv
end
def b_zs_0 (P : Prims) (l_1 : T_zs_1 → Option R_zs) : T_zs_0 → Option R_zs
 | (Af, Ak, Aj, Ah, Ai, v1) =>
 l_1 (v1, 0, Af, Ak, Aj, Ah, Ai)
section
variable (m : Nat)
include m
theorem o_zs_0 {l_1 : T_zs_1 → Option R_zs} (h_l_1 : H_zs_1 Ap @Ab Ag Ac m l_1) : H_zs_0 Ap @Ab Ag Ac m (b_zs_0 PP l_1) := by
 rintro ⟨Af, Ak, Aj, Ah, Ai, v1⟩ out hp stk
 subst hPP
 simp only [b_zs_0] at hp
 simp only [A_zs_0]
 rw [h.at_, hT]
 cbv
 first | exact h_l_1 hp stk | (have q := h_l_1 hp stk; simp only [A_zs_1, h.lits, hA] at q; first | exact q | (cbv; exact q))
def b_zs_1 (P : Prims) : T_zs_1 → Option (T_zs_1 ⊕ R_zs)
 | (v1, v5, B4, B5, B6, B7, B8) =>
 match P.cmp .lss v5 (P.len B8) with
 | false =>
  some (.inr (-1))
 | true =>
  match P.idx B8 v5 with
  | none => none
  | some ⟨Bq, ⟨C1, C2, C3, C4, C5⟩⟩ =>
   match P.seq Bq v1 with
   | false =>
    some (.inl (v1, P.ar .add .i64 v5 1, B4, B5, B6, B7, B8))
   | true =>
    some (.inr v5)
theorem o_zs_1 : Hd (b_zs_1 PP ) (A_zs_1 Ap @Ab Ag Ac m ) (el (A_zs_1 Ap @Ab Ag Ac m ) (O_zs m )) := by
 rintro ⟨v1, v5, B4, B5, B6, B7, B8⟩ out hp stk
 subst hPP
 simp only [b_zs_1] at hp
 simp only [A_zs_1]
 rw [h.at_, hT]
 cbv
 try simp only [h.len]
 cases c1 : xcmp .lss v5 (plen B8) with
 | false =>
  simp only [c1] at hp ⊢
  cbv
  rw [h.at_, hT]
  cbv
  cases hp
  all_goals first | rfl | cbv
 | true =>
  simp only [c1] at hp ⊢
  cbv
  rw [h.at_, hT]
  cbv
  cases c3 : pidx B8 v5 with
  | none => simp only [c3] at hp; cases hp
  | some y5 =>
   obtain ⟨Bq, ⟨C1, C2, C3, C4, C5⟩⟩ := y5
   simp only [c3] at hp
   obtain ⟨q1, q2⟩ := h.idx Ac c3
   try simp only [hA.2.1] at q2
   simp only [q1, Bool.false_eq_true, if_false]
   cbv
   try simp only [q2]
   cbv
   cases c4 : xseq Bq v1 with
   | false =>
    simp only [c4] at hp ⊢
    cbv
    rw [h.at_, hT]
    cbv
    cases hp
    all_goals first | rfl | cbv
   | true =>
    simp only [c4] at hp ⊢
    cbv
    cases hp
    all_goals first | rfl | cbv
end
def b_zt_0 (P : Prims) (Ad : Nat) (L0 : Ls1) (l_1 : T_zt_1 → Option R_zt) : T_zt_0 → Option R_zt
 | (v1, Af, Ak, Aj, Ah) =>
 l_1 (v1, 0, Af, Ak, Aj, Ah)
section
variable (m : Nat) (n0 : Nat) (k0 : Kl) (Ad : Nat) (L0 : Ls1) (hl0 : n0 < m)
include m n0 k0 Ad L0 hl0
theorem o_zt_0 {l_1 : T_zt_1 → Option R_zt} (h_l_1 : H_zt_1 Ap @Ab Aw Ag Ac m n0 k0 Ad L0 l_1) : H_zt_0 Ap @Ab Aw Ag Ac m n0 k0 Ad L0 (b_zt_0 PP Ad L0 l_1) := by
 rintro ⟨v1, Af, Ak, Aj, Ah⟩ out hp stk ⟨hg0, _⟩
 have hn := nlt hl0
 subst hPP
 simp only [b_zt_0] at hp
 simp only [A_zt_0]
 rw [h.at_, hT]
 cbv
 try simp only [if_false, if_true, hn]
 try cbv
 try simp only [if_false, if_true, hn]
 first | exact h_l_1 hp stk ⟨hg0, trivial⟩ | (have q := h_l_1 hp stk ⟨hg0, trivial⟩; simp only [A_zt_1, h.lits, hA] at q; first | exact q | (cbv; exact q))
def b_zt_1 (P : Prims) (Ad : Nat) (L0 : Ls1) : T_zt_1 → Option (T_zt_1 ⊕ R_zt)
 | (v1, v5, B4, B5, B6, B7) =>
 match P.cmp .lss v5 (P.len L0) with
 | false =>
  some (.inr (-1))
 | true =>
  match P.idx L0 v5 with
  | none => none
  | some ⟨Dn, ⟨Dp, Dq, Dr, Ds, Dt⟩⟩ =>
   match P.seq Dn v1 with
   | false =>
    some (.inl (v1, P.ar .add .i64 v5 1, B4, B5, B6, B7))
   | true =>
    some (.inr v5)
theorem o_zt_1 : HdS (G_zt @Ab Ac n0 k0 Ad L0) (b_zt_1 PP Ad L0 ) (A_zt_1 Ap @Ab Aw Ag Ac m n0 k0 Ad L0) (el (A_zt_1 Ap @Ab Aw Ag Ac m n0 k0 Ad L0) (O_zt m n0 k0 Ad L0)) := by
 rintro ⟨v1, v5, B4, B5, B6, B7⟩ out hp stk ⟨hg0, _⟩
 have hn := nlt hl0
 have lw := And.intro hn (hg0)
 subst hPP
 simp only [b_zt_1] at hp
 simp only [A_zt_1]
 rw [h.at_, hT]
 cbv
 try simp only [h.len]
 cases c1 : xcmp .lss v5 (plen L0) with
 | false =>
  simp only [c1] at hp ⊢
  cbv
  try simp only [if_false, if_true, hn]
  try cbv
  try simp only [if_false, if_true, hn]
  try cbv
  rw [h.at_, hT]
  cbv
  cases hp
  try simp only [if_false, if_true, hn]
  all_goals first | rfl | cbv
 | true =>
  simp only [c1] at hp ⊢
  cbv
  try simp only [if_false, if_true, hn]
  try cbv
  try simp only [if_false, if_true, hn]
  try cbv
  rw [h.at_, hT]
  cbv
  cases c4 : pidx L0 v5 with
  | none => simp only [c4] at hp; cases hp
  | some y6 =>
   obtain ⟨Dn, ⟨Dp, Dq, Dr, Ds, Dt⟩⟩ := y6
   simp only [c4] at hp
   obtain ⟨q1, q2, q3, w2⟩ := h.idxm Ac c4
   try simp only [hA.2.1] at w2
   simp only [q1, Bool.false_eq_true, if_false]
   cbv
   simp only [if_false, if_true, lw]
   cbv
   simp only [q2, q3, if_true]
   cbv
   simp only [if_false, if_true, lw]
   cbv
   simp only [w2]
   cbv
   cases c5 : xseq Dn v1 with
   | false =>
    simp only [c5] at hp ⊢
    cbv
    try simp only [if_false, if_true, hn]
    try cbv
    try simp only [if_false, if_true, hn]
    try cbv
    rw [h.at_, hT]
    cbv
    cases hp
    try simp only [if_false, if_true, hn]
    all_goals first | rfl | (cbv; done) | (simp only [h.lits, hA, el, O_zt, A_zt_1, if_true]; first | done | rfl | (cbv; done) | (cbv; simp only [h.lits, hA, el, O_zt, A_zt_1]; done))
   | true =>
    simp only [c5] at hp ⊢
    cbv
    cases hp
    try simp only [if_false, if_true, hn]
    all_goals first | rfl | cbv
end
def b_zw_0 (P : Prims) (c_zs : Y_zs) (c_zt : Y_zt) (l_1 : T_zw_1 → Option R_zw) : T_zw_0 → Option R_zw
 | (Af, Ak, Aj, Ah, Ai, v1) =>
 l_1 (v1, Af, Ak, Aj, Ah, Ai, 0, 0, 0, [], [], [], 5, 0, [], [], 0, [])
section
variable (c_zs : Y_zs) (c_zt : Y_zt) (h_zs : (C_zs As Am @Ab Ag Ac c_zs)) (h_zt : (C_zt As Am @Ab Aw Ag Ac c_zt)) (m : Nat)
include c_zs c_zt h_zs h_zt m
theorem o_zw_0 {l_1 : T_zw_1 → Option R_zw} (h_l_1 : H_zw_1 Ap @Ab Aw Ag Ac Ax m l_1) : H_zw_0 Ap @Ab Ag Ac Ax m (b_zw_0 PP c_zs c_zt l_1) := by
 rintro ⟨Af, Ak, Aj, Ah, Ai, v1⟩ out hp stk
 subst hPP
 simp only [b_zw_0] at hp
 simp only [A_zw_0]
 rw [h.at_, hT]
 cbv
 first | exact h_l_1 hp stk | (have q := h_l_1 hp stk; simp only [A_zw_1, h.lits, hA] at q; first | exact q | (cbv; exact q))
def b_zw_1 (P : Prims) (c_zs : Y_zs) (c_zt : Y_zt) (l_3 : T_zw_3 → Option (T_zw_1 ⊕ R_zw)) (l_5 : T_zw_5 → Option R_zw) : T_zw_1 → Option (T_zw_1 ⊕ R_zw)
 | (v1, A1, A4, Bb, A5, A2, v6, Br, Bs, Bt, Bu, Bv, Ch, Ci, Cj, Ck, Bh, B3) =>
 match P.cmp .lss v6 (P.len v1) with
 | false =>
  match l_5 (A1, A4, Bb, A5, A2, 0, Br, Bs, Bt, Bu, Bv, Ch, Ci, Cj, Ck, Bh, B3) with | none => none | some o12 => some (.inr o12)
 | true =>
  match P.idx v1 v6 with
  | none => none
  | some a2 =>
   match c_zs ⟨A1, A4, Bb, A5, A2⟩ a2 with
   | none => none
   | some B2 =>
    match P.cmp .geq B2 0 with
    | false =>
     l_3 (v1, A1, A4, Bb, A5, A2, v6, Br, Bs, Bt, Bu, Bv, Ch, Ci, Cj, Ck, Bh, B3)
    | true =>
     match P.idx A2 B2 with
     | none => none
     | some ⟨Er, ⟨Di, Dj, Dk, Dl, Dm⟩⟩ =>
      match P.app 96 B3 [⟨Er, ⟨Di, Dj, Dk, Dl, Dm⟩⟩] with
      | none => none
      | some l9 =>
       l_3 (v1, A1, A4, Bb, A5, A2, v6, Br, Bs, Bt, Bu, Bv, Ch, Ci, Cj, Ck, Bh + 1, l9)
theorem o_zw_1 {l_3 : T_zw_3 → Option (T_zw_1 ⊕ R_zw)} {l_5 : T_zw_5 → Option R_zw} (h_l_3 : H_zw_3 Ap @Ab Aw Ag Ac Ax m l_3) (h_l_5 : H_zw_5 Ap @Ab Aw Ag Ac m l_5) : Hd (b_zw_1 PP c_zs c_zt l_3 l_5) (A_zw_1 Ap @Ab Aw Ag Ac Ax m ) (el (A_zw_1 Ap @Ab Aw Ag Ac Ax m ) (O_zw @Ab Ag Ac m )) := by
 rintro ⟨v1, A1, A4, Bb, A5, A2, v6, Br, Bs, Bt, Bu, Bv, Ch, Ci, Cj, Ck, Bh, B3⟩ out hp stk
 subst hPP
 simp only [b_zw_1] at hp
 simp only [A_zw_1]
 rw [h.at_, hT]
 cbv
 try simp only [h.len]
 cases c1 : xcmp .lss v6 (plen v1) with
 | false =>
  simp only [c1] at hp ⊢
  cbv
  rw [h.at_, hT]
  cbv
  cases c : l_5 (A1, A4, Bb, A5, A2, 0, Br, Bs, Bt, Bu, Bv, Ch, Ci, Cj, Ck, Bh, B3) with
  | none => simp only [c] at hp; cases hp
  | some o12 =>
   simp only [c] at hp
   cases hp
   first | exact h_l_5 c stk | (have q := h_l_5 c stk; simp only [A_zw_5, h.lits, hA] at q; first | exact q | (cbv; exact q))
 | true =>
  simp only [c1] at hp ⊢
  cbv
  rw [h.at_, hT]
  cbv
  cases c3 : pidx v1 v6 with
  | none => simp only [c3] at hp; cases hp
  | some a2 =>
   simp only [c3] at hp
   obtain ⟨q1, q2⟩ := h.idx Ax c3
   try simp only [hA.2.2.2] at q2
   simp only [q1, Bool.false_eq_true, if_false]
   cbv
   try simp only [q2]
   cbv
   cases c5 : c_zs ⟨A1, A4, Bb, A5, A2⟩ a2 with
   | none => simp only [c5] at hp; cases hp
   | some B2 =>
    simp only [c5] at hp
    have qc := fun s => (h_zs c5 s).1
    simp only [qc]
    cbv
    cases c6 : xcmp .geq B2 0 with
    | false =>
     simp only [c6] at hp ⊢
     cbv
     first | exact h_l_3 hp stk | (have q := h_l_3 hp stk; simp only [A_zw_3, h.lits, hA] at q; first | exact q | (cbv; exact q))
    | true =>
     simp only [c6] at hp ⊢
     cbv
     cases c8 : pidx A2 B2 with
     | none => simp only [c8] at hp; cases hp
     | some y11 =>
      obtain ⟨Er, ⟨Di, Dj, Dk, Dl, Dm⟩⟩ := y11
      simp only [c8] at hp
      obtain ⟨q1, q2⟩ := h.idx Ac c8
      try simp only [hA.2.1] at q2
      simp only [q1, Bool.false_eq_true, if_false]
      cbv
      try simp only [q2]
      cbv
      simp only [h.allsz_nil, h.allsz_cons]
      cbv
      simp only [h.allsz_nil, h.allsz_cons]
      cbv
      cases c10 : papp 96 B3 [⟨Er, ⟨Di, Dj, Dk, Dl, Dm⟩⟩] with
      | none => simp only [c10] at hp; cases hp
      | some l9 =>
       simp only [c10] at hp
       obtain ⟨q1, q2, q3⟩ := h.app Ac c10 rfl
       simp only [h.map_cons, h.map_nil, h.len_nil, hA.2.1] at q1 q2 q3
       try simp only [h.len_nil]
       cbv
       simp only [q1, q2, q3, if_true]
       cbv
       first | exact h_l_3 hp stk | (have q := h_l_3 hp stk; simp only [A_zw_3, h.lits, hA] at q; first | exact q | (cbv; exact q))
def b_zw_3 (P : Prims) (c_zs : Y_zs) (c_zt : Y_zt) : T_zw_3 → Option (T_zw_1 ⊕ R_zw)
 | (v1, A1, A4, Bb, A5, A2, v6, Br, Bs, Bt, Bu, Bv, Ch, Ci, Cj, Ck, Bh, B3) =>
 some (.inl (v1, A1, A4, Bb, A5, A2, P.ar .add .i64 v6 1, Br, Bs, Bt, Bu, Bv, Ch, Ci, Cj, Ck, Bh, B3))
theorem o_zw_3 : H_zw_3 Ap @Ab Aw Ag Ac Ax m (b_zw_3 PP c_zs c_zt ) := by
 rintro ⟨v1, A1, A4, Bb, A5, A2, v6, Br, Bs, Bt, Bu, Bv, Ch, Ci, Cj, Ck, Bh, B3⟩ out hp stk
 subst hPP
 simp only [b_zw_3] at hp
 simp only [A_zw_3]
 rw [h.at_, hT]
 cbv
 cases hp
 all_goals first | rfl | (cbv; done) | (simp only [h.lits, hA, el, O_zw, A_zw_1, if_true]; first | done | rfl | (cbv; done) | (cbv; simp only [h.lits, hA, el, O_zw, A_zw_1]; done))
def b_zw_5 (P : Prims) (c_zs : Y_zs) (c_zt : Y_zt) (l_7 : T_zw_7 → Option (T_zw_5 ⊕ R_zw)) : T_zw_5 → Option (T_zw_5 ⊕ R_zw)
 | (A1, A4, Bb, A5, A2, v8, Br, Bs, Bt, Bu, Bv, Ch, Ci, Cj, Ck, Bh, B3) =>
 match P.cmp .lss v8 (P.len A2) with
 | false =>
  some (.inr ⟨Ch, Ci, Cj, Ck, B3⟩)
 | true =>
  match P.idx A2 v8 with
  | none => none
  | some ⟨Ei, ⟨C8, C9, Da, Db, Dc⟩⟩ =>
   match c_zt Ei Ch Ci Cj Ck Bh B3 with
   | none => none
   | some E8 =>
    match P.cmp .lss E8 0 with
    | false =>
     l_7 (A1, A4, Bb, A5, A2, v8, Br, Bs, Bt, Bu, Bv, Ch, Ci, Cj, Ck, Bh, B3)
    | true =>
     match P.app 96 B3 [⟨Ei, ⟨C8, C9, Da, Db, Dc⟩⟩] with
     | none => none
     | some l19 =>
      l_7 (A1, A4, Bb, A5, A2, v8, Br, Bs, Bt, Bu, Bv, Ch, Ci, Cj, Ck, Bh + 1, l19)
theorem o_zw_5 {l_7 : T_zw_7 → Option (T_zw_5 ⊕ R_zw)} (h_l_7 : H_zw_7 Ap @Ab Aw Ag Ac m l_7) : Hd (b_zw_5 PP c_zs c_zt l_7) (A_zw_5 Ap @Ab Aw Ag Ac m ) (el (A_zw_5 Ap @Ab Aw Ag Ac m ) (O_zw @Ab Ag Ac m )) := by
 rintro ⟨A1, A4, Bb, A5, A2, v8, Br, Bs, Bt, Bu, Bv, Ch, Ci, Cj, Ck, Bh, B3⟩ out hp stk
 subst hPP
 simp only [b_zw_5] at hp
 simp only [A_zw_5]
 rw [h.at_, hT]
 cbv
 try simp only [h.len]
 cases c13 : xcmp .lss v8 (plen A2) with
 | false =>
  simp only [c13] at hp ⊢
  cbv
  rw [h.at_, hT]
  cbv
  cases hp
  all_goals first | rfl | (cbv; done) | (simp only [h.lits, hA, el, O_zw, A_zw_5, if_true]; first | done | rfl | (cbv; done) | (cbv; simp only [h.lits, hA, el, O_zw, A_zw_5]; done))
 | true =>
  simp only [c13] at hp ⊢
  cbv
  rw [h.at_, hT]
  cbv
  cases c15 : pidx A2 v8 with
  | none => simp only [c15] at hp; cases hp
  | some y21 =>
   obtain ⟨Ei, ⟨C8, C9, Da, Db, Dc⟩⟩ := y21
   simp only [c15] at hp
   obtain ⟨q1, q2⟩ := h.idx Ac c15
   try simp only [hA.2.1] at q2
   simp only [q1, Bool.false_eq_true, if_false]
   cbv
   try simp only [q2]
   cbv
   cases c17 : c_zt Ei Ch Ci Cj Ck Bh B3 with
   | none => simp only [c17] at hp; cases hp
   | some E8 =>
    simp only [c17] at hp
    have qc := (h_zt c17 (⟨m, [([4], (.cells [(.d (.int .i64 Br)), (.d (.int .i64 Bs)), (.d (.str Bt)), (.d (.sl (Ab Ag Bu))), (.d (.sl (Ab Ac Bv)))])), ([5], (.cells [(.d (.int .i64 Ch)), (.d (.int .i64 Ci)), (.d (.str Cj)), (.d (.sl (Ab Ag Ck))), (.msl ⟨m, [5, 4]⟩ Bh 0 (Aw (Ab Ac B3)))])), ([5, 4], (.arr Bh 6 (Ab Ac B3)))]⟩ :: stk) m [5, 4] (h.gt _ _ _ _) (Nat.le_refl _)).1
    simp only [qc]
    cbv
    cases c18 : xcmp .lss E8 0 with
    | false =>
     simp only [c18] at hp ⊢
     cbv
     first | exact h_l_7 hp stk | (have q := h_l_7 hp stk; simp only [A_zw_7, h.lits, hA] at q; first | exact q | (cbv; exact q))
    | true =>
     simp only [c18] at hp ⊢
     cbv
     obtain ⟨q1, q2⟩ := h.idx Ac c15
     try simp only [hA.2.1] at q2
     simp only [q1, Bool.false_eq_true, if_false]
     cbv
     try simp only [q2]
     cbv
     simp only [h.allsz_nil, h.allsz_cons]
     cbv
     simp only [h.allsz_nil, h.allsz_cons]
     cbv
     cases c20 : papp 96 B3 [⟨Ei, ⟨C8, C9, Da, Db, Dc⟩⟩] with
     | none => simp only [c20] at hp; cases hp
     | some l19 =>
      simp only [c20] at hp
      obtain ⟨q1, q2, q3⟩ := h.app Ac c20 rfl
      simp only [h.map_cons, h.map_nil, h.len_nil, hA.2.1] at q1 q2 q3
      try simp only [h.len_nil]
      cbv
      simp only [q1, q2, q3, if_true]
      cbv
      first | exact h_l_7 hp stk | (have q := h_l_7 hp stk; simp only [A_zw_7, h.lits, hA] at q; first | exact q | (cbv; exact q))
def b_zw_7 (P : Prims) (c_zs : Y_zs) (c_zt : Y_zt) : T_zw_7 → Option (T_zw_5 ⊕ R_zw)
 | (A1, A4, Bb, A5, A2, v8, Br, Bs, Bt, Bu, Bv, Ch, Ci, Cj, Ck, Bh, B3) =>
 some (.inl (A1, A4, Bb, A5, A2, P.ar .add .i64 v8 1, Br, Bs, Bt, Bu, Bv, Ch, Ci, Cj, Ck, Bh, B3))
theorem o_zw_7 : H_zw_7 Ap @Ab Aw Ag Ac m (b_zw_7 PP c_zs c_zt ) := by
 rintro ⟨A1, A4, Bb, A5, A2, v8, Br, Bs, Bt, Bu, Bv, Ch, Ci, Cj, Ck, Bh, B3⟩ out hp stk
 subst hPP
 simp only [b_zw_7] at hp
 simp only [A_zw_7]
 rw [h.at_, hT]
 cbv
 cases hp
 all_goals first | rfl | (cbv; done) | (simp only [h.lits, hA, el, O_zw, A_zw_5, if_true]; first | done | rfl | (cbv; done) | (cbv; simp only [h.lits, hA, el, O_zw, A_zw_5]; done))
end
def b_zdd_0 (P : Prims) (l_1 : T_zdd_1 → Option R_zdd) : T_zdd_0 → Option R_zdd
 | (Af, Ak, Aj, Ah, Ai, v1) =>
 l_1 (v1, Ai, P.len Ai, 0, 0, 0, [], [], [])
section
variable (m : Nat)
include m
theorem o_zdd_0 {l_1 : T_zdd_1 → Option R_zdd} (h_l_1 : H_zdd_1 Ap @Ab Ag Ac m l_1) : H_zdd_0 Ap @Ab Ag Ac m (b_zdd_0 PP l_1) := by
 rintro ⟨Af, Ak, Aj, Ah, Ai, v1⟩ out hp stk
 subst hPP
 simp only [b_zdd_0] at hp
 simp only [A_zdd_0]
 rw [h.at_, hT]
 cbv
 try simp only [h.len]
 first | exact h_l_1 hp stk | (have q := h_l_1 hp stk; simp only [A_zdd_1, h.lits, hA] at q; first | exact q | (cbv; exact q))
def b_zdd_1 (P : Prims) : T_zdd_1 → Option (T_zdd_1 ⊕ R_zdd)
 | (v1, v9, v10, v11, Br, Bs, Bt, Bu, Bv) =>
 match P.cmp .lss v11 v10 with
 | false =>
  some (.inr (⟨0, 0, [], [], []⟩, false))
 | true =>
  match P.idx v9 v11 with
  | none => none
  | some ⟨Bq, ⟨C1, C2, C3, C4, C5⟩⟩ =>
   match P.seq Bq v1 with
   | false =>
    some (.inl (v1, v9, v10, P.ar .add .i64 v11 1, Br, Bs, Bt, Bu, Bv))
   | true =>
    some (.inr (⟨C1, C2, C3, C4, C5⟩, true))
theorem o_zdd_1 : Hd (b_zdd_1 PP ) (A_zdd_1 Ap @Ab Ag Ac m ) (el (A_zdd_1 Ap @Ab Ag Ac m ) (O_zdd @Ab Ag Ac m )) := by
 rintro ⟨v1, v9, v10, v11, Br, Bs, Bt, Bu, Bv⟩ out hp stk
 subst hPP
 simp only [b_zdd_1] at hp
 simp only [A_zdd_1]
 rw [h.at_, hT]
 cbv
 cases c1 : xcmp .lss v11 v10 with
 | false =>
  simp only [c1] at hp ⊢
  cbv
  rw [h.at_, hT]
  cbv
  cases hp
  all_goals first | rfl | (cbv; done) | (simp only [h.lits, hA, el, O_zdd, A_zdd_1, if_true]; first | done | rfl | (cbv; done) | (cbv; simp only [h.lits, hA, el, O_zdd, A_zdd_1]; done))
 | true =>
  simp only [c1] at hp ⊢
  cbv
  rw [h.at_, hT]
  cbv
  cases c3 : pidx v9 v11 with
  | none => simp only [c3] at hp; cases hp
  | some y5 =>
   obtain ⟨Bq, ⟨C1, C2, C3, C4, C5⟩⟩ := y5
   simp only [c3] at hp
   obtain ⟨q1, q2⟩ := h.idx Ac c3
   try simp only [hA.2.1] at q2
   simp only [q1, Bool.false_eq_true, if_false]
   cbv
   try simp only [q2]
   cbv
   cases c4 : xseq Bq v1 with
   | false =>
    simp only [c4] at hp ⊢
    cbv
    rw [h.at_, hT]
    cbv
    cases hp
    all_goals first | rfl | cbv
   | true =>
    simp only [c4] at hp ⊢
    cbv
    cases hp
    all_goals first | rfl | cbv
end
def b_zb6_0 (P : Prims) (c_zc9 : Y_zc9) (l_2 : T_zb6_2 → Option R_zb6) : T_zb6_0 → Option R_zb6
 | (v0, v1) =>
 match P.cmp .neq (P.len v0) (P.len v1) with
 | false =>
  l_2 (v1, v0, P.len v0, 0)
 | true =>
  some false
section
variable (c_zc9 : Y_zc9) (h_zc9 : (C_zc9 As Am @Ab Ag Ac c_zc9)) (m : Nat)
include c_zc9 h_zc9 m
theorem o_zb6_0 {l_2 : T_zb6_2 → Option R_zb6} (h_l_2 : H_zb6_2 Ap @Ab Ag m l_2) : H_zb6_0 Ap @Ab Ag m (b_zb6_0 PP c_zc9 l_2) := by
 rintro ⟨v0, v1⟩ out hp stk
 subst hPP
 simp only [b_zb6_0] at hp
 simp only [A_zb6_0]
 rw [h.at_, hT]
 cbv
 try simp only [h.len]
 try simp only [h.len]
 cases c1 : xcmp .neq (plen v0) (plen v1) with
 | false =>
  simp only [c1] at hp ⊢
  cbv
  rw [h.at_, hT]
  cbv
  try simp only [h.len]
  first | exact h_l_2 hp stk | (have q := h_l_2 hp stk; simp only [A_zb6_2, h.lits, hA] at q; first | exact q | (cbv; exact q))
 | true =>
  simp only [c1] at hp ⊢
  cbv
  cases hp
  all_goals first | rfl | cbv
def b_zb6_2 (P : Prims) (c_zc9 : Y_zc9) : T_zb6_2 → Option (T_zb6_2 ⊕ R_zb6)
 | (v1, v15, v16, v17) =>
 match P.cmp .lss v17 v16 with
 | false =>
  some (.inr true)
 | true =>
  match P.idx v15 v17 with
  | none => none
  | some ⟨Dn, Hg, Hh, Hi, Hj⟩ =>
   match P.idx v1 v17 with
   | none => none
   | some ⟨Ea, Ev, Ew, Ex, Ey⟩ =>
    match c_zc9 ⟨Dn, Hg, Hh, Hi, Hj⟩ ⟨Ea, Ev, Ew, Ex, Ey⟩ with
    | none => none
    | some Cd =>
     match Cd with
     | false =>
      some (.inr false)
     | true =>
      some (.inl (v1, v15, v16, P.ar .add .i64 v17 1))
theorem o_zb6_2 : Hd (b_zb6_2 PP c_zc9 ) (A_zb6_2 Ap @Ab Ag m ) (el (A_zb6_2 Ap @Ab Ag m ) (O_zb6 m )) := by
 rintro ⟨v1, v15, v16, v17⟩ out hp stk
 subst hPP
 simp only [b_zb6_2] at hp
 simp only [A_zb6_2]
 rw [h.at_, hT]
 cbv
 cases c2 : xcmp .lss v17 v16 with
 | false =>
  simp only [c2] at hp ⊢
  cbv
  rw [h.at_, hT]
  cbv
  cases hp
  all_goals first | rfl | cbv
 | true =>
  simp only [c2] at hp ⊢
  cbv
  rw [h.at_, hT]
  cbv
  cases c4 : pidx v15 v17 with
  | none => simp only [c4] at hp; cases hp
  | some y11 =>
   obtain ⟨Dn, Hg, Hh, Hi, Hj⟩ := y11
   simp only [c4] at hp
   obtain ⟨q1, q2⟩ := h.idx Ag c4
   try simp only [hA.1] at q2
   simp only [q1, Bool.false_eq_true, if_false]
   cbv
   try simp only [q2]
   cbv
   cases c6 : pidx v1 v17 with
   | none => simp only [c6] at hp; cases hp
   | some y10 =>
    obtain ⟨Ea, Ev, Ew, Ex, Ey⟩ := y10
    simp only [c6] at hp
    obtain ⟨q1, q2⟩ := h.idx Ag c6
    try simp only [hA.1] at q2
    simp only [q1, Bool.false_eq_true, if_false]
    cbv
    try simp only [q2]
    cbv
    cases c8 : c_zc9 ⟨Dn, Hg, Hh, Hi, Hj⟩ ⟨Ea, Ev, Ew, Ex, Ey⟩ with
    | none => simp only [c8] at hp; cases hp
    | some Cd =>
     simp only [c8] at hp
     have qc := fun s => (h_zc9 c8 s).1
     simp only [qc]
     cbv
     cases Cd with
     | false =>
      simp only at hp
      cbv
      cases hp
      all_goals first | rfl | cbv
     | true =>
      simp only at hp
      cbv
      rw [h.at_, hT]
      cbv
      cases hp
      all_goals first | rfl | cbv
end
def b_zc9_0 (P : Prims) (c_zb6 : Y_zb6) (c_zdd : Y_zdd) (c_zc9 : Y_zc9) (l_2 : T_zc9_2 → Option R_zc9) : T_zc9_0 → Option R_zc9
 | (Af, Ak, Aj, Ah, Ai, A3, Be, Bf, Bg, Bd) =>
 match P.cmp .neq Af A3 with
 | false =>
  match P.cmp .neq Ak Be with
  | false =>
   match P.seq Aj Bf with
   | false =>
    some false
   | true =>
    match P.cmp .neq (P.len Ai) (P.len Bd) with
    | false =>
     match c_zb6 Ah Bg with
     | none => none
     | some J0 =>
      match J0 with
      | false =>
       some false
      | true =>
       l_2 (A3, Be, Bf, Bg, Bd, Ai, P.len Ai, 0)
    | true =>
     some false
  | true =>
   some false
 | true =>
  some false
section
variable (c_zb6 : Y_zb6) (c_zdd : Y_zdd) (c_zc9 : Y_zc9) (h_zb6 : (C_zb6 As Am @Ab Ag c_zb6)) (h_zdd : (C_zdd As Am @Ab Ag Ac c_zdd)) (h_zc9 : (C_zc9 As Am @Ab Ag Ac c_zc9)) (m : Nat)
include c_zb6 c_zdd c_zc9 h_zb6 h_zdd h_zc9 m
theorem o_zc9_0 {l_2 : T_zc9_2 → Option R_zc9} (h_l_2 : H_zc9_2 Ap @Ab Ag Ac m l_2) : H_zc9_0 Ap @Ab Ag Ac m (b_zc9_0 PP c_zb6 c_zdd c_zc9 l_2) := by
 rintro ⟨Af, Ak, Aj, Ah, Ai, A3, Be, Bf, Bg, Bd⟩ out hp stk
 subst hPP
 simp only [b_zc9_0] at hp
 simp only [A_zc9_0]
 rw [h.at_, hT]
 cbv
 cases c1 : xcmp .neq Af A3 with
 | false =>
  simp only [c1] at hp ⊢
  cbv
  cases c2 : xcmp .neq Ak Be with
  | false =>
   simp only [c2] at hp ⊢
   cbv
   cases c3 : xseq Aj Bf with
   | false =>
    simp only [c3] at hp ⊢
    cbv
    cases hp
    all_goals first | rfl | cbv
   | true =>
    simp only [c3] at hp ⊢
    cbv
    try simp only [h.len]
    try simp only [h.len]
    cases c4 : xcmp .neq (plen Ai) (plen Bd) with
    | false =>
     simp only [c4] at hp ⊢
     cbv
     cases c6 : c_zb6 Ah Bg with
     | none => simp only [c6] at hp; cases hp
     | some J0 =>
      simp only [c6] at hp
      have qc := fun s => (h_zb6 c6 s).1
      simp only [qc]
      cbv
      cases J0 with
      | false =>
       simp only at hp
       cbv
       cases hp
       all_goals first | rfl | cbv
      | true =>
       simp only at hp
       cbv
       rw [h.at_, hT]
       cbv
       try simp only [h.len]
       first | exact h_l_2 hp stk | (have q := h_l_2 hp stk; simp only [A_zc9_2, h.lits, hA] at q; first | exact q | (cbv; exact q))
    | true =>
     simp only [c4] at hp ⊢
     cbv
     cases hp
     all_goals first | rfl | cbv
  | true =>
   simp only [c2] at hp ⊢
   cbv
   cases hp
   all_goals first | rfl | cbv
 | true =>
  simp only [c1] at hp ⊢
  cbv
  cases hp
  all_goals first | rfl | cbv
def b_zc9_2 (P : Prims) (c_zb6 : Y_zb6) (c_zdd : Y_zdd) (c_zc9 : Y_zc9) : T_zc9_2 → Option (T_zc9_2 ⊕ R_zc9)
 | (Cb, Dz, D0, C6, C7, v46, v47, v48) =>
 match P.cmp .lss v48 v47 with
 | false =>
  some (.inr true)
 | true =>
  match P.idx v46 v48 with
  | none => none
  | some ⟨Fb, ⟨D5, D6, D7, D8, D9⟩⟩ =>
   match c_zdd ⟨Cb, Dz, D0, C6, C7⟩ Fb with
   | none => none
   | some (⟨Gs, Gt, Gu, Gv, Gw⟩, Iu) =>
    match Iu with
    | false =>
     some (.inr false)
    | true =>
     match c_zc9 ⟨D5, D6, D7, D8, D9⟩ ⟨Gs, Gt, Gu, Gv, Gw⟩ with
     | none => none
     | some C0 =>
      match C0 with
      | false =>
       some (.inr false)
      | true =>
       some (.inl (Cb, Dz, D0, C6, C7, v46, v47, P.ar .add .i64 v48 1))
theorem o_zc9_2 : Hd (b_zc9_2 PP c_zb6 c_zdd c_zc9 ) (A_zc9_2 Ap @Ab Ag Ac m ) (el (A_zc9_2 Ap @Ab Ag Ac m ) (O_zc9 m )) := by
 rintro ⟨Cb, Dz, D0, C6, C7, v46, v47, v48⟩ out hp stk
 subst hPP
 simp only [b_zc9_2] at hp
 simp only [A_zc9_2]
 rw [h.at_, hT]
 cbv
 cases c8 : xcmp .lss v48 v47 with
 | false =>
  simp only [c8] at hp ⊢
  cbv
  rw [h.at_, hT]
  cbv
  cases hp
  all_goals first | rfl | cbv
 | true =>
  simp only [c8] at hp ⊢
  cbv
  rw [h.at_, hT]
  cbv
  cases c10 : pidx v46 v48 with
  | none => simp only [c10] at hp; cases hp
  | some y18 =>
   obtain ⟨Fb, ⟨D5, D6, D7, D8, D9⟩⟩ := y18
   simp only [c10] at hp
   obtain ⟨q1, q2⟩ := h.idx Ac c10
   try simp only [hA.2.1] at q2
   simp only [q1, Bool.false_eq_true, if_false]
   cbv
   try simp only [q2]
   cbv
   cases c12 : c_zdd ⟨Cb, Dz, D0, C6, C7⟩ Fb with
   | none => simp only [c12] at hp; cases hp
   | some y17 =>
    obtain ⟨⟨Gs, Gt, Gu, Gv, Gw⟩, Iu⟩ := y17
    simp only [c12] at hp
    have qc := fun s => (h_zdd c12 s).1
    simp only [qc]
    cbv
    cases Iu with
    | false =>
     simp only at hp
     cbv
     cases hp
     all_goals first | rfl | cbv
    | true =>
     simp only at hp
     cbv
     cases c15 : c_zc9 ⟨D5, D6, D7, D8, D9⟩ ⟨Gs, Gt, Gu, Gv, Gw⟩ with
     | none => simp only [c15] at hp; cases hp
     | some C0 =>
      simp only [c15] at hp
      have qc := fun s => (h_zc9 c15 s).1
      simp only [qc]
      cbv
      cases C0 with
      | false =>
       simp only at hp
       cbv
       cases hp
       all_goals first | rfl | cbv
      | true =>
       simp only at hp
       cbv
       rw [h.at_, hT]
       cbv
       cases hp
       all_goals first | rfl | cbv
end
def b_zcq_0 (P : Prims) (c_zcz : Y_zcz) (c_zc9 : Y_zc9) : T_zcq_0 → Option R_zcq
 | (Af, Ak, Aj, Ah, Ai, A3, Be, Bf, Bg, Bd) =>
 match c_zcz ⟨Af, Ak, Aj, Ah, Ai⟩ with
 | none => none
 | some Bi =>
  match Bi with
  | false =>
   some false
  | true =>
   match c_zcz ⟨A3, Be, Bf, Bg, Bd⟩ with
   | none => none
   | some B2 =>
    match B2 with
    | false =>
     some false
    | true =>
     match c_zc9 ⟨Af, Ak, Aj, Ah, Ai⟩ ⟨A3, Be, Bf, Bg, Bd⟩ with
     | none => none
     | some Cd =>
      some Cd
section
variable (c_zcz : Y_zcz) (c_zc9 : Y_zc9) (h_zcz : (C_zcz As Am @Ab Ag Ac c_zcz)) (h_zc9 : (C_zc9 As Am @Ab Ag Ac c_zc9)) (m : Nat)
include c_zcz c_zc9 h_zcz h_zc9 m
theorem o_zcq_0 : H_zcq_0 Ap @Ab Ag Ac m (b_zcq_0 PP c_zcz c_zc9 ) := by
 rintro ⟨Af, Ak, Aj, Ah, Ai, A3, Be, Bf, Bg, Bd⟩ out hp stk
 subst hPP
 simp only [b_zcq_0] at hp
 simp only [A_zcq_0]
 rw [h.at_, hT]
 cbv
 cases c2 : c_zcz ⟨Af, Ak, Aj, Ah, Ai⟩ with
 | none => simp only [c2] at hp; cases hp
 | some Bi =>
  simp only [c2] at hp
  have qc := fun s => (h_zcz c2 s).1
  simp only [qc]
  cbv
  cases Bi with
  | false =>
   simp only at hp
   cbv
   cases hp
   all_goals first | rfl | cbv
  | true =>
   simp only at hp
   cbv
   cases c5 : c_zcz ⟨A3, Be, Bf, Bg, Bd⟩ with
   | none => simp only [c5] at hp; cases hp
   | some B2 =>
    simp only [c5] at hp
    have qc := fun s => (h_zcz c5 s).1
    simp only [qc]
    cbv
    cases B2 with
    | false =>
     simp only at hp
     cbv
     cases hp
     all_goals first | rfl | cbv
    | true =>
     simp only at hp
     cbv
     cases c8 : c_zc9 ⟨Af, Ak, Aj, Ah, Ai⟩ ⟨A3, Be, Bf, Bg, Bd⟩ with
     | none => simp only [c8] at hp; cases hp
     | some Cd =>
      simp only [c8] at hp
      have qc := fun s => (h_zc9 c8 s).1
      simp only [qc]
      cbv
      cases hp
      all_goals first | rfl | cbv
end
def b_zb7_0 (P : Prims) (c_zdg : Y_zdg) (l_2 : T_zb7_2 → Option R_zb7) : T_zb7_0 → Option R_zb7
 | (v0, v1) =>
 match P.cmp .neq (P.len v0) (P.len v1) with
 | false =>
  l_2 (v1, v0, P.len v0, 0)
 | true =>
  some false
section
variable (c_zdg : Y_zdg) (h_zdg : (C_zdg As Am @Ab Ag Ac c_zdg)) (m : Nat)
include c_zdg h_zdg m
theorem o_zb7_0 {l_2 : T_zb7_2 → Option R_zb7} (h_l_2 : H_zb7_2 Ap @Ab Ag m l_2) : H_zb7_0 Ap @Ab Ag m (b_zb7_0 PP c_zdg l_2) := by
 rintro ⟨v0, v1⟩ out hp stk
 subst hPP
 simp only [b_zb7_0] at hp
 simp only [A_zb7_0]
 rw [h.at_, hT]
 cbv
 try simp only [h.len]
 try simp only [h.len]
 cases c1 : xcmp .neq (plen v0) (plen v1) with
 | false =>
  simp only [c1] at hp ⊢
  cbv
  rw [h.at_, hT]
  cbv
  try simp only [h.len]
  first | exact h_l_2 hp stk | (have q := h_l_2 hp stk; simp only [A_zb7_2, h.lits, hA] at q; first | exact q | (cbv; exact q))
 | true =>
  simp only [c1] at hp ⊢
  cbv
  cases hp
  all_goals first | rfl | cbv
def b_zb7_2 (P : Prims) (c_zdg : Y_zdg) : T_zb7_2 → Option (T_zb7_2 ⊕ R_zb7)
 | (v1, v15, v16, v17) =>
 match P.cmp .lss v17 v16 with
 | false =>
  some (.inr true)
 | true =>
  match P.idx v15 v17 with
  | none => none
  | some ⟨Dn, Hg, Hh, Hi, Hj⟩ =>
   match P.idx v1 v17 with
   | none => none
   | some ⟨Ea, Ev, Ew, Ex, Ey⟩ =>
    match c_zdg ⟨Dn, Hg, Hh, Hi, Hj⟩ ⟨Ea, Ev, Ew, Ex, Ey⟩ with
    | none => none
    | some Cd =>
     match Cd with
     | false =>
      some (.inr false)
     | true =>
      some (.inl (v1, v15, v16, P.ar .add .i64 v17 1))
theorem o_zb7_2 : Hd (b_zb7_2 PP c_zdg ) (A_zb7_2 Ap @Ab Ag m ) (el (A_zb7_2 Ap @Ab Ag m ) (O_zb7 m )) := by
 rintro ⟨v1, v15, v16, v17⟩ out hp stk
 subst hPP
 simp only [b_zb7_2] at hp
 simp only [A_zb7_2]
 rw [h.at_, hT]
 cbv
 cases c2 : xcmp .lss v17 v16 with
 | false =>
  simp only [c2] at hp ⊢
  cbv
  rw [h.at_, hT]
  cbv
  cases hp
  all_goals first | rfl | cbv
 | true =>
  simp only [c2] at hp ⊢
  cbv
  rw [h.at_, hT]
  cbv
  cases c4 : pidx v15 v17 with
  | none => simp only [c4] at hp; cases hp
  | some y11 =>
   obtain ⟨Dn, Hg, Hh, Hi, Hj⟩ := y11
   simp only [c4] at hp
   obtain ⟨q1, q2⟩ := h.idx Ag c4
   try simp only [hA.1] at q2
   simp only [q1, Bool.false_eq_true, if_false]
   cbv
   try simp only [q2]
   cbv
   cases c6 : pidx v1 v17 with
   | none => simp only [c6] at hp; cases hp
   | some y10 =>
    obtain ⟨Ea, Ev, Ew, Ex, Ey⟩ := y10
    simp only [c6] at hp
    obtain ⟨q1, q2⟩ := h.idx Ag c6
    try simp only [hA.1] at q2
    simp only [q1, Bool.false_eq_true, if_false]
    cbv
    try simp only [q2]
    cbv
    cases c8 : c_zdg ⟨Dn, Hg, Hh, Hi, Hj⟩ ⟨Ea, Ev, Ew, Ex, Ey⟩ with
    | none => simp only [c8] at hp; cases hp
    | some Cd =>
     simp only [c8] at hp
     have qc := fun s => (h_zdg c8 s).1
     simp only [qc]
     cbv
     cases Cd with
     | false =>
      simp only at hp
      cbv
      cases hp
      all_goals first | rfl | cbv
     | true =>
      simp only at hp
      cbv
      rw [h.at_, hT]
      cbv
      cases hp
      all_goals first | rfl | cbv
end
def b_zdg_0 (P : Prims) (c_zb7 : Y_zb7) (c_zb4 : Y_zb4) : T_zdg_0 → Option R_zdg
 | (Af, Ak, Aj, Ah, Ai, A3, Be, Bf, Bg, Bd) =>
 match P.cmp .eql Af A3 with
 | false =>
  some false
 | true =>
  match P.cmp .eql Ak Be with
  | false =>
   some false
  | true =>
   match P.seq Aj Bf with
   | false =>
    some false
   | true =>
    match c_zb7 Ah Bg with
    | none => none
    | some B2 =>
     match B2 with
     | false =>
      some false
     | true =>
      match c_zb4 Ai Bd with
      | none => none
      | some Cd =>
       some Cd
section
variable (c_zb7 : Y_zb7) (c_zb4 : Y_zb4) (h_zb7 : (C_zb7 As Am @Ab Ag c_zb7)) (h_zb4 : (C_zb4 As Am @Ab Ac c_zb4)) (m : Nat)
include c_zb7 c_zb4 h_zb7 h_zb4 m
theorem o_zdg_0 : H_zdg_0 Ap @Ab Ag Ac m (b_zdg_0 PP c_zb7 c_zb4 ) := by
 rintro ⟨Af, Ak, Aj, Ah, Ai, A3, Be, Bf, Bg, Bd⟩ out hp stk
 subst hPP
 simp only [b_zdg_0] at hp
 simp only [A_zdg_0]
 rw [h.at_, hT]
 cbv
 cases c1 : xcmp .eql Af A3 with
 | false =>
  simp only [c1] at hp ⊢
  cbv
  cases hp
  all_goals first | rfl | cbv
 | true =>
  simp only [c1] at hp ⊢
  cbv
  cases c2 : xcmp .eql Ak Be with
  | false =>
   simp only [c2] at hp ⊢
   cbv
   cases hp
   all_goals first | rfl | cbv
  | true =>
   simp only [c2] at hp ⊢
   cbv
   cases c3 : xseq Aj Bf with
   | false =>
    simp only [c3] at hp ⊢
    cbv
    cases hp
    all_goals first | rfl | cbv
   | true =>
    simp only [c3] at hp ⊢
    cbv
    cases c5 : c_zb7 Ah Bg with
    | none => simp only [c5] at hp; cases hp
    | some B2 =>
     simp only [c5] at hp
     have qc := fun s => (h_zb7 c5 s).1
     simp only [qc]
     cbv
     cases B2 with
     | false =>
      simp only at hp
      cbv
      cases hp
      all_goals first | rfl | cbv
     | true =>
      simp only at hp
      cbv
      cases c8 : c_zb4 Ai Bd with
      | none => simp only [c8] at hp; cases hp
      | some Cd =>
       simp only [c8] at hp
       have qc := fun s => (h_zb4 c8 s).1
       simp only [qc]
       cbv
       cases hp
       all_goals first | rfl | cbv
end
def b_zb4_0 (P : Prims) (c_zdh : Y_zdh) (l_2 : T_zb4_2 → Option R_zb4) : T_zb4_0 → Option R_zb4
 | (v0, v1) =>
 match P.cmp .neq (P.len v0) (P.len v1) with
 | false =>
  l_2 (v1, v0, P.len v0, 0)
 | true =>
  some false
section
variable (c_zdh : Y_zdh) (h_zdh : (C_zdh As Am @Ab Ag Ac c_zdh)) (m : Nat)
include c_zdh h_zdh m
theorem o_zb4_0 {l_2 : T_zb4_2 → Option R_zb4} (h_l_2 : H_zb4_2 Ap @Ab Ac m l_2) : H_zb4_0 Ap @Ab Ac m (b_zb4_0 PP c_zdh l_2) := by
 rintro ⟨v0, v1⟩ out hp stk
 subst hPP
 simp only [b_zb4_0] at hp
 simp only [A_zb4_0]
 rw [h.at_, hT]
 cbv
 try simp only [h.len]
 try simp only [h.len]
 cases c1 : xcmp .neq (plen v0) (plen v1) with
 | false =>
  simp only [c1] at hp ⊢
  cbv
  rw [h.at_, hT]
  cbv
  try simp only [h.len]
  first | exact h_l_2 hp stk | (have q := h_l_2 hp stk; simp only [A_zb4_2, h.lits, hA] at q; first | exact q | (cbv; exact q))
 | true =>
  simp only [c1] at hp ⊢
  cbv
  cases hp
  all_goals first | rfl | cbv
def b_zb4_2 (P : Prims) (c_zdh : Y_zdh) : T_zb4_2 → Option (T_zb4_2 ⊕ R_zb4)
 | (v1, v15, v16, v17) =>
 match P.cmp .lss v17 v16 with
 | false =>
  some (.inr true)
 | true =>
  match P.idx v15 v17 with
  | none => none
  | some ⟨Dn, ⟨Dp, Dq, Dr, Ds, Dt⟩⟩ =>
   match P.idx v1 v17 with
   | none => none
   | some ⟨Ea, ⟨Hk, Hl, Hm, Hn, Ho⟩⟩ =>
    match c_zdh ⟨Dn, ⟨Dp, Dq, Dr, Ds, Dt⟩⟩ ⟨Ea, ⟨Hk, Hl, Hm, Hn, Ho⟩⟩ with
    | none => none
    | some Cd =>
     match Cd with
     | false =>
      some (.inr false)
     | true =>
      some (.inl (v1, v15, v16, P.ar .add .i64 v17 1))
theorem o_zb4_2 : Hd (b_zb4_2 PP c_zdh ) (A_zb4_2 Ap @Ab Ac m ) (el (A_zb4_2 Ap @Ab Ac m ) (O_zb4 m )) := by
 rintro ⟨v1, v15, v16, v17⟩ out hp stk
 subst hPP
 simp only [b_zb4_2] at hp
 simp only [A_zb4_2]
 rw [h.at_, hT]
 cbv
 cases c2 : xcmp .lss v17 v16 with
 | false =>
  simp only [c2] at hp ⊢
  cbv
  rw [h.at_, hT]
  cbv
  cases hp
  all_goals first | rfl | cbv
 | true =>
  simp only [c2] at hp ⊢
  cbv
  rw [h.at_, hT]
  cbv
  cases c4 : pidx v15 v17 with
  | none => simp only [c4] at hp; cases hp
  | some y11 =>
   obtain ⟨Dn, ⟨Dp, Dq, Dr, Ds, Dt⟩⟩ := y11
   simp only [c4] at hp
   obtain ⟨q1, q2⟩ := h.idx Ac c4
   try simp only [hA.2.1] at q2
   simp only [q1, Bool.false_eq_true, if_false]
   cbv
   try simp only [q2]
   cbv
   cases c6 : pidx v1 v17 with
   | none => simp only [c6] at hp; cases hp
   | some y10 =>
    obtain ⟨Ea, ⟨Hk, Hl, Hm, Hn, Ho⟩⟩ := y10
    simp only [c6] at hp
    obtain ⟨q1, q2⟩ := h.idx Ac c6
    try simp only [hA.2.1] at q2
    simp only [q1, Bool.false_eq_true, if_false]
    cbv
    try simp only [q2]
    cbv
    cases c8 : c_zdh ⟨Dn, ⟨Dp, Dq, Dr, Ds, Dt⟩⟩ ⟨Ea, ⟨Hk, Hl, Hm, Hn, Ho⟩⟩ with
    | none => simp only [c8] at hp; cases hp
    | some Cd =>
     simp only [c8] at hp
     have qc := fun s => (h_zdh c8 s).1
     simp only [qc]
     cbv
     cases Cd with
     | false =>
      simp only at hp
      cbv
      cases hp
      all_goals first | rfl | cbv
     | true =>
      simp only at hp
      cbv
      rw [h.at_, hT]
      cbv
      cases hp
      all_goals first | rfl | cbv
end
def b_zdh_0 (P : Prims) (c_zdg : Y_zdg) : T_zdh_0 → Option R_zdh
 | (Af, A6, A7, A8, A9, Ba, A3, Bl, Bm, Bn, Bo, Bp) =>
 match P.seq Af A3 with
 | false =>
  some false
 | true =>
  match c_zdg ⟨A6, A7, A8, A9, Ba⟩ ⟨Bl, Bm, Bn, Bo, Bp⟩ with
  | none => none
  | some Eg =>
   some Eg
section
variable (c_zdg : Y_zdg) (h_zdg : (C_zdg As Am @Ab Ag Ac c_zdg)) (m : Nat)
include c_zdg h_zdg m
theorem o_zdh_0 : H_zdh_0 Ap @Ab Ag Ac m (b_zdh_0 PP c_zdg ) := by
 rintro ⟨Af, A6, A7, A8, A9, Ba, A3, Bl, Bm, Bn, Bo, Bp⟩ out hp stk
 subst hPP
 simp only [b_zdh_0] at hp
 simp only [A_zdh_0]
 rw [h.at_, hT]
 cbv
 cases c1 : xseq Af A3 with
 | false =>
  simp only [c1] at hp ⊢
  cbv
  cases hp
  all_goals first | rfl | cbv
 | true =>
  simp only [c1] at hp ⊢
  cbv
  cases c3 : c_zdg ⟨A6, A7, A8, A9, Ba⟩ ⟨Bl, Bm, Bn, Bo, Bp⟩ with
  | none => simp only [c3] at hp; cases hp
  | some Eg =>
   simp only [c3] at hp
   have qc := fun s => (h_zdg c3 s).1
   simp only [qc]
   cbv
   cases hp
   all_goals first | rfl | cbv
end
def b_zc6_0 (P : Prims) (c_zcz : Y_zcz) (c_zdg : Y_zdg) : T_zc6_0 → Option R_zc6
 | (Af, Ak, Aj, Ah, Ai, A3, Be, Bf, Bg, Bd) =>
 match c_zcz ⟨Af, Ak, Aj, Ah, Ai⟩ with
 | none => none
 | some Bi =>
  match Bi with
  | false =>
   some false
  | true =>
   match c_zcz ⟨A3, Be, Bf, Bg, Bd⟩ with
   | none => none
   | some B2 =>
    match B2 with
    | false =>
     some false
    | true =>
     match c_zdg ⟨Af, Ak, Aj, Ah, Ai⟩ ⟨A3, Be, Bf, Bg, Bd⟩ with
     | none => none
     | some Cd =>
      some Cd
section
variable (c_zcz : Y_zcz) (c_zdg : Y_zdg) (h_zcz : (C_zcz As Am @Ab Ag Ac c_zcz)) (h_zdg : (C_zdg As Am @Ab Ag Ac c_zdg)) (m : Nat)
include c_zcz c_zdg h_zcz h_zdg m
theorem o_zc6_0 : H_zc6_0 Ap @Ab Ag Ac m (b_zc6_0 PP c_zcz c_zdg ) := by
 rintro ⟨Af, Ak, Aj, Ah, Ai, A3, Be, Bf, Bg, Bd⟩ out hp stk
 subst hPP
 simp only [b_zc6_0] at hp
 simp only [A_zc6_0]
 rw [h.at_, hT]
 cbv
 cases c2 : c_zcz ⟨Af, Ak, Aj, Ah, Ai⟩ with
 | none => simp only [c2] at hp; cases hp
 | some Bi =>
  simp only [c2] at hp
  have qc := fun s => (h_zcz c2 s).1
  simp only [qc]
  cbv
  cases Bi with
  | false =>
   simp only at hp
   cbv
   cases hp
   all_goals first | rfl | cbv
  | true =>
   simp only at hp
   cbv
   cases c5 : c_zcz ⟨A3, Be, Bf, Bg, Bd⟩ with
   | none => simp only [c5] at hp; cases hp
   | some B2 =>
    simp only [c5] at hp
    have qc := fun s => (h_zcz c5 s).1
    simp only [qc]
    cbv
    cases B2 with
    | false =>
     simp only at hp
     cbv
     cases hp
     all_goals first | rfl | cbv
    | true =>
     simp only at hp
     cbv
     cases c8 : c_zdg ⟨Af, Ak, Aj, Ah, Ai⟩ ⟨A3, Be, Bf, Bg, Bd⟩ with
     | none => simp only [c8] at hp; cases hp
     | some Cd =>
      simp only [c8] at hp
      have qc := fun s => (h_zdg c8 s).1
      simp only [qc]
      cbv
      cases hp
      all_goals first | rfl | cbv
end
def b_zb_0 (P : Prims) (c_zg : Y_zg) (c_zv : Y_zv) (c_zh : Y_zh) (c_zcu : Y_zcu) (c_zk : Y_zk) (c_zx : Y_zx) (c_zj : Y_zj) (c_zw : Y_zw) (c_zy : Y_zy) (c_zcq : Y_zcq) (c_zc6 : Y_zc6) : T_zb_0 → Option R_zb
 | (Af, Ak, Aj, Ah, Ai, v1) =>
 match c_zg with
 | none => none
 | some Bi =>
  match Bi with
  | false =>
   some Bi
  | true =>
   match c_zv ⟨Af, Ak, Aj, Ah, Ai⟩ 60 with
   | none => none
   | some B2 =>
    match B2 with
    | false =>
     some Bi
    | true =>
     match c_zh v1 with
     | none => none
     | some Cd =>
      match Cd with
      | false =>
       some Bi
      | true =>
       match c_zcu ⟨Af, Ak, Aj, Ah, Ai⟩ v1 with
       | none => none
       | some (⟨Bw, Bx, By, Bz, B1⟩, Ep) =>
        match P.cmp .neq Af 5 with
        | false =>
         match c_zx ⟨Af, Ak, Aj, Ah, Ai⟩ with
         | none => none
         | some E8 =>
          match E8 with
          | false =>
           match P.cmp .eql Ep 1 with
           | false =>
            some false
           | true =>
            match c_zk ⟨Bw, Bx, By, Bz, B1⟩ with
            | none => none
            | some Jn =>
             some Jn
          | true =>
           match c_zj v1 with
           | none => none
           | some Iv =>
            match Iv with
            | false =>
             match c_zcu ⟨Bw, Bx, By, Bz, B1⟩ v1 with
             | none => none
             | some (⟨Gx, Gy, Gz, G0, G1⟩, Iw) =>
              match P.cmp .eql Ep 0 with
              | false =>
               some false
              | true =>
               match P.cmp .eql Iw 0 with
               | false =>
                some false
               | true =>
                match c_zw ⟨Af, Ak, Aj, Ah, Ai⟩ v1 with
                | none => none
                | some ⟨G2, G3, G4, G5, G6⟩ =>
                 match c_zy ⟨Bw, Bx, By, Bz, B1⟩ ⟨G2, G3, G4, G5, G6⟩ with
                 | none => none
                 | some Ix =>
                  match Ix with
                  | false =>
                   some false
                  | true =>
                   match c_zcq ⟨Af, Ak, Aj, Ah, Ai⟩ ⟨Bw, Bx, By, Bz, B1⟩ with
                   | none => none
                   | some Iy =>
                    match Iy with
                    | false =>
                     some false
                    | true =>
                     match c_zc6 ⟨Bw, Bx, By, Bz, B1⟩ ⟨Gx, Gy, Gz, G0, G1⟩ with
                     | none => none
                     | some Jo =>
                      some Jo
            | true =>
             match P.cmp .eql Ep 7 with
             | false =>
              some false
             | true =>
              match c_zk ⟨Bw, Bx, By, Bz, B1⟩ with
              | none => none
              | some Fa =>
               some Fa
        | true =>
         match P.cmp .eql Ep 1 with
         | false =>
          some false
         | true =>
          match c_zk ⟨Bw, Bx, By, Bz, B1⟩ with
          | none => none
          | some C0 =>
           some C0
section
variable (c_zg : Y_zg) (c_zv : Y_zv) (c_zh : Y_zh) (c_zcu : Y_zcu) (c_zk : Y_zk) (c_zx : Y_zx) (c_zj : Y_zj) (c_zw : Y_zw) (c_zy : Y_zy) (c_zcq : Y_zcq) (c_zc6 : Y_zc6) (h_zg : (C_zg As Am c_zg)) (h_zv : (C_zv As Am @Ab Ag Ac c_zv)) (h_zh : (C_zh As Am @Ab Ax c_zh)) (h_zcu : (C_zcu As Am @Ab Ag Ac Ax c_zcu)) (h_zk : (C_zk As Am @Ab Ag Ac c_zk)) (h_zx : (C_zx As Am @Ab Ag Ac c_zx)) (h_zj : (C_zj As Am @Ab Ax c_zj)) (h_zw : (C_zw As Am @Ab Ag Ac Ax c_zw)) (h_zy : (C_zy As Am @Ab Ag Ac c_zy)) (h_zcq : (C_zcq As Am @Ab Ag Ac c_zcq)) (h_zc6 : (C_zc6 As Am @Ab Ag Ac c_zc6)) (m : Nat)
include c_zg c_zv c_zh c_zcu c_zk c_zx c_zj c_zw c_zy c_zcq c_zc6 h_zg h_zv h_zh h_zcu h_zk h_zx h_zj h_zw h_zy h_zcq h_zc6 m
theorem o_zb_0 : H_zb_0 Ap @Ab Ag Ac Ax m (b_zb_0 PP c_zg c_zv c_zh c_zcu c_zk c_zx c_zj c_zw c_zy c_zcq c_zc6 ) := by
 rintro ⟨Af, Ak, Aj, Ah, Ai, v1⟩ out hp stk
 subst hPP
 simp only [b_zb_0] at hp
 simp only [A_zb_0]
 rw [h.at_, hT]
 cbv
 cases c2 : c_zg with
 | none => simp only [c2] at hp; cases hp
 | some Bi =>
  simp only [c2] at hp
  have qc := fun s => (h_zg c2 s).1
  simp only [qc]
  cbv
  cases Bi with
  | false =>
   simp only at hp
   cbv
   have qc := fun s => (h_zg c2 s).1
   simp only [qc]
   cbv
   cases hp
   all_goals first | rfl | cbv
  | true =>
   simp only at hp
   cbv
   cases c5 : c_zv ⟨Af, Ak, Aj, Ah, Ai⟩ 60 with
   | none => simp only [c5] at hp; cases hp
   | some B2 =>
    simp only [c5] at hp
    have qc := fun s => (h_zv c5 s).1
    simp only [qc]
    cbv
    cases B2 with
    | false =>
     simp only at hp
     cbv
     have qc := fun s => (h_zg c2 s).1
     simp only [qc]
     cbv
     cases hp
     all_goals first | rfl | cbv
    | true =>
     simp only at hp
     cbv
     cases c8 : c_zh v1 with
     | none => simp only [c8] at hp; cases hp
     | some Cd =>
      simp only [c8] at hp
      have qc := fun s => (h_zh c8 s).1
      simp only [qc]
      cbv
      cases Cd with
      | false =>
       simp only at hp
       cbv
       have qc := fun s => (h_zg c2 s).1
       simp only [qc]
       cbv
       cases hp
       all_goals first | rfl | cbv
      | true =>
       simp only at hp
       cbv
       rw [h.at_, hT]
       cbv
       cases c11 : c_zcu ⟨Af, Ak, Aj, Ah, Ai⟩ v1 with
       | none => simp only [c11] at hp; cases hp
       | some y44 =>
        obtain ⟨⟨Bw, Bx, By, Bz, B1⟩, Ep⟩ := y44
        simp only [c11] at hp
        have qc := fun s => (h_zcu c11 s).1
        simp only [qc]
        cbv
        cases c12 : xcmp .neq Af 5 with
        | false =>
         simp only [c12] at hp ⊢
         cbv
         cases c17 : c_zx ⟨Af, Ak, Aj, Ah, Ai⟩ with
         | none => simp only [c17] at hp; cases hp
         | some E8 =>
          simp only [c17] at hp
          have qc := fun s => (h_zx c17 s).1
          simp only [qc]
          cbv
          cases E8 with
          | false =>
           simp only at hp
           cbv
           cases c41 : xcmp .eql Ep 1 with
           | false =>
            simp only [c41] at hp ⊢
            cbv
            cases hp
            all_goals first | rfl | cbv
           | true =>
            simp only [c41] at hp ⊢
            cbv
            cases c43 : c_zk ⟨Bw, Bx, By, Bz, B1⟩ with
            | none => simp only [c43] at hp; cases hp
            | some Jn =>
             simp only [c43] at hp
             have qc := fun s => (h_zk c43 s).1
             simp only [qc]
             cbv
             cases hp
             all_goals first | rfl | cbv
          | true =>
           simp only at hp
           cbv
           rw [h.at_, hT]
           cbv
           cases c20 : c_zj v1 with
           | none => simp only [c20] at hp; cases hp
           | some Iv =>
            simp only [c20] at hp
            have qc := fun s => (h_zj c20 s).1
            simp only [qc]
            cbv
            cases Iv with
            | false =>
             simp only at hp
             cbv
             rw [h.at_, hT]
             cbv
             cases c26 : c_zcu ⟨Bw, Bx, By, Bz, B1⟩ v1 with
             | none => simp only [c26] at hp; cases hp
             | some y40 =>
              obtain ⟨⟨Gx, Gy, Gz, G0, G1⟩, Iw⟩ := y40
              simp only [c26] at hp
              have qc := fun s => (h_zcu c26 s).1
              simp only [qc]
              cbv
              cases c27 : xcmp .eql Ep 0 with
              | false =>
               simp only [c27] at hp ⊢
               cbv
               cases hp
               all_goals first | rfl | cbv
              | true =>
               simp only [c27] at hp ⊢
               cbv
               cases c28 : xcmp .eql Iw 0 with
               | false =>
                simp only [c28] at hp ⊢
                cbv
                cases hp
                all_goals first | rfl | cbv
               | true =>
                simp only [c28] at hp ⊢
                cbv
                cases c30 : c_zw ⟨Af, Ak, Aj, Ah, Ai⟩ v1 with
                | none => simp only [c30] at hp; cases hp
                | some y39 =>
                 obtain ⟨G2, G3, G4, G5, G6⟩ := y39
                 simp only [c30] at hp
                 have qc := fun s => (h_zw c30 s).1
                 simp only [qc]
                 cbv
                 cases c32 : c_zy ⟨Bw, Bx, By, Bz, B1⟩ ⟨G2, G3, G4, G5, G6⟩ with
                 | none => simp only [c32] at hp; cases hp
                 | some Ix =>
                  simp only [c32] at hp
                  have qc := fun s => (h_zy c32 s).1
                  simp only [qc]
                  cbv
                  cases Ix with
                  | false =>
                   simp only at hp
                   cbv
                   cases hp
                   all_goals first | rfl | cbv
                  | true =>
                   simp only at hp
                   cbv
                   cases c35 : c_zcq ⟨Af, Ak, Aj, Ah, Ai⟩ ⟨Bw, Bx, By, Bz, B1⟩ with
                   | none => simp only [c35] at hp; cases hp
                   | some Iy =>
                    simp only [c35] at hp
                    have qc := fun s => (h_zcq c35 s).1
                    simp only [qc]
                    cbv
                    cases Iy with
                    | false =>
                     simp only at hp
                     cbv
                     cases hp
                     all_goals first | rfl | cbv
                    | true =>
                     simp only at hp
                     cbv
                     cases c38 : c_zc6 ⟨Bw, Bx, By, Bz, B1⟩ ⟨Gx, Gy, Gz, G0, G1⟩ with
                     | none => simp only [c38] at hp; cases hp
                     | some Jo =>
                      simp only [c38] at hp
                      have qc := fun s => (h_zc6 c38 s).1
                      simp only [qc]
                      cbv
                      cases hp
                      all_goals first | rfl | cbv
            | true =>
             simp only at hp
             cbv
             cases c22 : xcmp .eql Ep 7 with
             | false =>
              simp only [c22] at hp ⊢
              cbv
              cases hp
              all_goals first | rfl | cbv
             | true =>
              simp only [c22] at hp ⊢
              cbv
              cases c24 : c_zk ⟨Bw, Bx, By, Bz, B1⟩ with
              | none => simp only [c24] at hp; cases hp
              | some Fa =>
               simp only [c24] at hp
               have qc := fun s => (h_zk c24 s).1
               simp only [qc]
               cbv
               cases hp
               all_goals first | rfl | cbv
        | true =>
         simp only [c12] at hp ⊢
         cbv
         cases c13 : xcmp .eql Ep 1 with
         | false =>
          simp only [c13] at hp ⊢
          cbv
          cases hp
          all_goals first | rfl | cbv
         | true =>
          simp only [c13] at hp ⊢
          cbv
          cases c15 : c_zk ⟨Bw, Bx, By, Bz, B1⟩ with
          | none => simp only [c15] at hp; cases hp
          | some C0 =>
           simp only [c15] at hp
           have qc := fun s => (h_zk c15 s).1
           simp only [qc]
           cbv
           cases hp
           all_goals first | rfl | cbv
end
end
end Go.Abs.T
