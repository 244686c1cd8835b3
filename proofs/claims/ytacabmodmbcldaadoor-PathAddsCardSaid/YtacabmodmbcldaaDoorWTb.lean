import Derived.Test.YtacabmodmbcldaaDoorWT
set_option linter.unusedSimpArgs false
set_option linter.unusedVariables false
set_option linter.unusedSectionVars false
namespace Go.Abs.T
set_option maxRecDepth 100000
section
variable {PP : Prims} {xR : FuncId → Option RF} {xiter : (St → Rs) → St → Rs} {xG : Nat → Option (List D)} {xcall : CallF} {xpcall : FuncId → List V → Stk → Option V} {xfcall : FuncId → List V → Stk → Option (V × Stk)} {xkcall : FuncId → List (List Nat) → List V → Stk → Option (V × Level × Stk)} {xlen : List D → Nat} {xnth : List D → Nat → Option D} {xcut : List D → Nat → Nat → List D} {xapp : List D → List D → List D} {xset : List D → Nat → D → List D} {xrep : Nat → D → List D} {xallsz : Nat → List D → Bool} {xslen : Str → Nat} {xsnth : Str → Nat → Option UInt8} {xscut : Str → Nat → Nat → Str} {xsapp : Str → Str → Str} {xseq : Str → Str → Bool} {xslt : Str → Str → Bool} {xofStr : Str → List D} {xtoStr : List D → Option Str} {xdec : Str → Nat → Nat × Nat} {xenc : Int → Str} {xar : BinOp → IntKind → Int → Int → Int} {xcmp : BinOp → Int → Int → Bool} {xwrap : IntKind → Int → Int} {xisz : Int → Bool} {xneg : Int → Bool} {xnat : Int → Nat} {xofN : Nat → Int} {xbyte : UInt8 → Int} {xnle : Nat → Nat → Bool} {xnadd : Nat → Nat → Nat} {xnsub : Nat → Nat → Nat} {xfits : Nat → Nat → Bool} {xfind : D → List (D × Nat × V) → Option (Option V)} {xputE : D → Nat → V → List (D × Nat × V) → Option (List (D × Nat × V))} {xfindK : D → List D → List D → Option (Option D)} {xelen : List (D × Nat × V) → Nat} {xfrzM : List (D × Nat × V) → Option (List D × List D)} {xsamev : V → V → Bool} {xat : AtF} {xsetO : Stk → Lab → O → Stk} {xtop : Stk → Nat} {xsame : Stk → Stk → Bool} {xmap : {α : Type} → (α → D) → List α → List D} {xmapE : {α : Type} → (α → D) → List (Str × Nat × α) → List (D × Nat × V)} {pquo : BinOp → IntKind → Int → Int → Option Int} {pshf : BinOp → IntKind → Int → Int → Option Int} {pslen : Str → Int} {psidx : Str → Int → Option Int} {pssub : Str → Option Int → Option Int → Option Str} {pscat : Str → Str → Option Str} {psit : Str → Nat → Option (Int × Int × Nat)} {pslist : Str → Option (List Int)} {pofBytes : List Int → Str} {plen : {α : Type} → List α → Int} {pidx : {α : Type} → List α → Int → Option α} {psub : {α : Type} → List α → Option Int → Option Int → Option (List α)} {papp : {α : Type} → Nat → List α → List α → Option (List α)} {pset : {α : Type} → List α → Int → α → Option (List α)} {pmake : {α : Type} → Nat → α → Int → Option (List α)} {pmfind : {α : Type} → Str → List (Str × Nat × α) → Option α} {pmput : {α : Type} → Str → Nat → α → List (Str × Nat × α) → List (Str × Nat × α)} {ploop : {σ ρ : Type} → (σ → Option (σ ⊕ ρ)) → σ → Option ρ} {xT : FuncId → Option KF}
  (h : KLaws xR xiter xG xcall xpcall xfcall xkcall xlen xnth xcut xapp xset xrep xallsz xslen xsnth xscut xsapp xseq xslt xofStr xtoStr xdec xenc xar xcmp xwrap xisz xneg xnat xofN xbyte xnle xnadd xnsub xfits xfind xputE xfindK xelen xfrzM xsamev xat xsetO xtop xsame @xmap @xmapE pquo pshf pslen psidx pssub pscat psit pslist pofBytes @plen @pidx @psub @papp @pset @pmake @pmfind @pmput @ploop xT) (hT : xT = table) (hPP : PP = ⟨xar, xcmp, xwrap, xseq, xslt, xenc, pquo, pshf, pslen, psidx, pssub, pscat, psit, pslist, pofBytes, @plen, @pidx, @psub, @papp, @pset, @pmake, @pmfind, @pmput, @ploop⟩)
variable {e_e4 : S1_ → D} {e_e5 : S2_ → D} {e_e1 : S0_ → D} {e_e8 : Int → D} {e_e0 : Ls0 → D} (hA : (∀ (x_0 : Str) (x_1 : Int) (x_2 : Bool), e_e4 ⟨x_0, x_1, x_2⟩ = (.agg [(.str x_0), (.int .i64 x_1), (.bool x_2)])) ∧ (∀ (x_0 x_1 : Int) (x_2 : Str) (x_3 : Ls0) (x_4 : Ls1), e_e5 ⟨x_0, x_1, x_2, x_3, x_4⟩ = (.agg [(.int .i64 x_0), (.int .i64 x_1), (.str x_2), (.sl (xmap e_e5 x_3)), (.sl (xmap e_e1 x_4))])) ∧ (∀ (x_0 : Str) (x_1_0 x_1_1 : Int) (x_1_2 : Str) (x_1_3 : Ls0) (x_1_4 : Ls1), e_e1 ⟨x_0, ⟨x_1_0, x_1_1, x_1_2, x_1_3, x_1_4⟩⟩ = (.agg [(.str x_0), (.int .i64 x_1_0), (.int .i64 x_1_1), (.str x_1_2), (.sl (xmap e_e5 x_1_3)), (.sl (xmap e_e1 x_1_4))])) ∧ (∀ (x : Int), e_e8 x = (.int .i64 x)) ∧ (∀ (x : Ls0), e_e0 x = (.sl (xmap e_e5 x)))) (hZ : (∀ l, xallsz 3 (xmap e_e4 l) = true) ∧ (∀ l, xallsz 5 (xmap e_e5 l) = true) ∧ (∀ l, xallsz 6 (xmap e_e1 l) = true) ∧ (∀ l, xallsz 1 (xmap e_e8 l) = true) ∧ (∀ l, xallsz 1 (xmap e_e0 l) = true))
include h hT hPP hA hZ
def b_zg_0 (P : Prims) (c_zo : Y_zo) (c_z0 : Y_z0) (c_z7 : Y_z7) (c_zcf : Y_zcf) (c_z6 : Y_z6) (c_z3 : Y_z3) : T_zg_0 → Option R_zg
 | (v0_0, v0_1, v0_2, v0_3, v0_4, v1, v2) =>
 match c_zo with
 | none => none
 | some r1_0 =>
  match r1_0 with
  | false =>
   some r1_0
  | true =>
   match c_z0 ⟨v0_0, v0_1, v0_2, v0_3, v0_4⟩ 60 with
   | none => none
   | some r4_0 =>
    match r4_0 with
    | false =>
     some r1_0
    | true =>
     match c_z0 ⟨0, 0, [], v2, []⟩ 60 with
     | none => none
     | some r7_0 =>
      match r7_0 with
      | false =>
       some r1_0
      | true =>
       match c_z7 v1 with
       | none => none
       | some r10_0 =>
        match r10_0 with
        | false =>
         some r1_0
        | true =>
         match c_zcf ⟨v0_0, v0_1, v0_2, v0_3, v0_4⟩ v1 v2 with
         | none => none
         | some (⟨r13_0_0, r13_0_1, r13_0_2, r13_0_3, r13_0_4⟩, r13_1) =>
          match c_z6 ⟨v0_0, v0_1, v0_2, v0_3, v0_4⟩ v1 v2 with
          | none => none
          | some (⟨r15_0_0, r15_0_1, r15_0_2, r15_0_3, r15_0_4⟩, r15_1) =>
           match P.cmp .eql r13_1 r15_1 with
           | false =>
            some false
           | true =>
            match c_z3 ⟨r13_0_0, r13_0_1, r13_0_2, r13_0_3, r13_0_4⟩ ⟨r15_0_0, r15_0_1, r15_0_2, r15_0_3, r15_0_4⟩ with
            | none => none
            | some r18_0 =>
             some r18_0
section
variable (c_zo : Y_zo) (c_z0 : Y_z0) (c_z7 : Y_z7) (c_zcf : Y_zcf) (c_z6 : Y_z6) (c_z3 : Y_z3) (h_zo : (C_zo xpcall xfcall c_zo)) (h_z0 : (C_z0 xpcall xfcall @xmap e_e5 e_e1 c_z0)) (h_z7 : (C_z7 xpcall xfcall @xmap e_e4 c_z7)) (h_zcf : (C_zcf xpcall xfcall @xmap e_e4 e_e5 e_e1 c_zcf)) (h_z6 : (C_z6 xpcall xfcall @xmap e_e4 e_e5 e_e1 c_z6)) (h_z3 : (C_z3 xpcall xfcall @xmap e_e5 e_e1 c_z3)) (m : Nat)
include c_zo c_z0 c_z7 c_zcf c_z6 c_z3 h_zo h_z0 h_z7 h_zcf h_z6 h_z3 m
theorem o_zg_0 : H_zg_0 xat @xmap e_e4 e_e5 e_e1 m (b_zg_0 PP c_zo c_z0 c_z7 c_zcf c_z6 c_z3 ) := by
 rintro ⟨v0_0, v0_1, v0_2, v0_3, v0_4, v1, v2⟩ out hp stk
 subst hPP
 simp only [b_zg_0] at hp
 simp only [A_zg_0]
 rw [h.at_, hT]
 cbv
 cases c2 : c_zo with
 | none => simp only [c2] at hp; cases hp
 | some r1_0 =>
  simp only [c2] at hp
  have qc := fun s => (h_zo c2 s).1
  simp only [qc]
  cbv
  cases r1_0 with
  | false =>
   simp only at hp
   cbv
   have qc := fun s => (h_zo c2 s).1
   simp only [qc]
   cbv
   cases hp
   all_goals first | rfl | (cbv; done)
  | true =>
   simp only at hp
   cbv
   cases c5 : c_z0 ⟨v0_0, v0_1, v0_2, v0_3, v0_4⟩ 60 with
   | none => simp only [c5] at hp; cases hp
   | some r4_0 =>
    simp only [c5] at hp
    have qc := fun s => (h_z0 c5 s).1
    simp only [qc]
    cbv
    cases r4_0 with
    | false =>
     simp only at hp
     cbv
     have qc := fun s => (h_zo c2 s).1
     simp only [qc]
     cbv
     cases hp
     all_goals first | rfl | (cbv; done)
    | true =>
     simp only at hp
     cbv
     cases c8 : c_z0 ⟨0, 0, [], v2, []⟩ 60 with
     | none => simp only [c8] at hp; cases hp
     | some r7_0 =>
      simp only [c8] at hp
      have qc := fun s => (h_z0 c8 s).1
      try simp only [h.map_nil] at qc
      simp only [qc]
      cbv
      cases r7_0 with
      | false =>
       simp only at hp
       cbv
       have qc := fun s => (h_zo c2 s).1
       simp only [qc]
       cbv
       cases hp
       all_goals first | rfl | (cbv; done)
      | true =>
       simp only at hp
       cbv
       cases c11 : c_z7 v1 with
       | none => simp only [c11] at hp; cases hp
       | some r10_0 =>
        simp only [c11] at hp
        have qc := fun s => (h_z7 c11 s).1
        simp only [qc]
        cbv
        cases r10_0 with
        | false =>
         simp only at hp
         cbv
         have qc := fun s => (h_zo c2 s).1
         simp only [qc]
         cbv
         cases hp
         all_goals first | rfl | (cbv; done)
        | true =>
         simp only at hp
         cbv
         rw [h.at_, hT]
         cbv
         cases c14 : c_zcf ⟨v0_0, v0_1, v0_2, v0_3, v0_4⟩ v1 v2 with
         | none => simp only [c14] at hp; cases hp
         | some y21 =>
          obtain ⟨⟨r13_0_0, r13_0_1, r13_0_2, r13_0_3, r13_0_4⟩, r13_1⟩ := y21
          simp only [c14] at hp
          have qc := fun s => (h_zcf c14 s).1
          simp only [qc]
          cbv
          cases c16 : c_z6 ⟨v0_0, v0_1, v0_2, v0_3, v0_4⟩ v1 v2 with
          | none => simp only [c16] at hp; cases hp
          | some y20 =>
           obtain ⟨⟨r15_0_0, r15_0_1, r15_0_2, r15_0_3, r15_0_4⟩, r15_1⟩ := y20
           simp only [c16] at hp
           have qc := fun s => (h_z6 c16 s).1
           simp only [qc]
           cbv
           cases c17 : xcmp .eql r13_1 r15_1 with
           | false =>
            simp only [c17] at hp ⊢
            cbv
            cases hp
            all_goals first | rfl | (cbv; done)
           | true =>
            simp only [c17] at hp ⊢
            cbv
            cases c19 : c_z3 ⟨r13_0_0, r13_0_1, r13_0_2, r13_0_3, r13_0_4⟩ ⟨r15_0_0, r15_0_1, r15_0_2, r15_0_3, r15_0_4⟩ with
            | none => simp only [c19] at hp; cases hp
            | some r18_0 =>
             simp only [c19] at hp
             have qc := fun s => (h_z3 c19 s).1
             simp only [qc]
             cbv
             cases hp
             all_goals first | rfl | (cbv; done)
end
end
end Go.Abs.T
