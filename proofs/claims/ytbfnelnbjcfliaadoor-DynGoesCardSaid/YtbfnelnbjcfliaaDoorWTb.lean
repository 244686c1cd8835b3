import Derived.Test.YtbfnelnbjcfliaaDoorWT
set_option linter.unusedSimpArgs false
set_option linter.unusedVariables false
set_option linter.unusedSectionVars false
namespace Go.Abs.T
set_option maxRecDepth 100000
section
variable {PP : Prims} {xR : FuncId → Option RF} {xiter : (St → Rs) → St → Rs} {xG : Nat → Option (List D)} {xcall : CallF} {xpcall : FuncId → List V → Stk → Option V} {xfcall : FuncId → List V → Stk → Option (V × Stk)} {xkcall : FuncId → List (List Nat) → List V → Stk → Option (V × Level × Stk)} {xlen : List D → Nat} {xnth : List D → Nat → Option D} {xcut : List D → Nat → Nat → List D} {xapp : List D → List D → List D} {xset : List D → Nat → D → List D} {xrep : Nat → D → List D} {xallsz : Nat → List D → Bool} {xslen : Str → Nat} {xsnth : Str → Nat → Option UInt8} {xscut : Str → Nat → Nat → Str} {xsapp : Str → Str → Str} {xseq : Str → Str → Bool} {xslt : Str → Str → Bool} {xofStr : Str → List D} {xtoStr : List D → Option Str} {xdec : Str → Nat → Nat × Nat} {xenc : Int → Str} {xar : BinOp → IntKind → Int → Int → Int} {xcmp : BinOp → Int → Int → Bool} {xwrap : IntKind → Int → Int} {xisz : Int → Bool} {xneg : Int → Bool} {xnat : Int → Nat} {xofN : Nat → Int} {xbyte : UInt8 → Int} {xnle : Nat → Nat → Bool} {xnadd : Nat → Nat → Nat} {xnsub : Nat → Nat → Nat} {xfits : Nat → Nat → Bool} {xfind : D → List (D × Nat × V) → Option (Option V)} {xputE : D → Nat → V → List (D × Nat × V) → Option (List (D × Nat × V))} {xfindK : D → List D → List D → Option (Option D)} {xelen : List (D × Nat × V) → Nat} {xfrzM : List (D × Nat × V) → Option (List D × List D)} {xsamev : V → V → Bool} {xat : AtF} {xsetO : Stk → Lab → O → Stk} {xtop : Stk → Nat} {xsame : Stk → Stk → Bool} {xmap : {α : Type} → (α → D) → List α → List D} {xmapE : {α : Type} → (α → D) → List (Str × Nat × α) → List (D × Nat × V)} {pquo : BinOp → IntKind → Int → Int → Option Int} {pshf : BinOp → IntKind → Int → Int → Option Int} {pslen : Str → Int} {psidx : Str → Int → Option Int} {pssub : Str → Option Int → Option Int → Option Str} {pscat : Str → Str → Option Str} {psit : Str → Nat → Option (Int × Int × Nat)} {pslist : Str → Option (List Int)} {pofBytes : List Int → Str} {plen : {α : Type} → List α → Int} {pidx : {α : Type} → List α → Int → Option α} {psub : {α : Type} → List α → Option Int → Option Int → Option (List α)} {papp : {α : Type} → Nat → List α → List α → Option (List α)} {pset : {α : Type} → List α → Int → α → Option (List α)} {pmake : {α : Type} → Nat → α → Int → Option (List α)} {pmfind : {α : Type} → Str → List (Str × Nat × α) → Option α} {pmput : {α : Type} → Str → Nat → α → List (Str × Nat × α) → List (Str × Nat × α)} {ploop : {σ ρ : Type} → (σ → Option (σ ⊕ ρ)) → σ → Option ρ} {xT : FuncId → Option KF}
  (h : KLaws xR xiter xG xcall xpcall xfcall xkcall xlen xnth xcut xapp xset xrep xallsz xslen xsnth xscut xsapp xseq xslt xofStr xtoStr xdec xenc xar xcmp xwrap xisz xneg xnat xofN xbyte xnle xnadd xnsub xfits xfind xputE xfindK xelen xfrzM xsamev xat xsetO xtop xsame @xmap @xmapE pquo pshf pslen psidx pssub pscat psit pslist pofBytes @plen @pidx @psub @papp @pset @pmake @pmfind @pmput @ploop xT) (hT : xT = table) (hPP : PP = ⟨xar, xcmp, xwrap, xseq, xslt, xenc, pquo, pshf, pslen, psidx, pssub, pscat, psit, pslist, pofBytes, @plen, @pidx, @psub, @papp, @pset, @pmake, @pmfind, @pmput, @ploop⟩)
variable {e_any : S_any → D} {e_dyn_Member : S_dyn_Member → D} {e_api_Value : S_api_Value → D} {e_api_Pair : S_api_Pair → D} {e_int : Int → D} {e_string : Str → D} (hA : ((e_any .n = .nili) ∧ (∀ (x : Int), e_any (.c2 x) = (.iface 2 (.int .i64 x))) ∧ (∀ (x : Int), e_any (.c3 x) = (.iface 3 (.int .i64 x))) ∧ (∀ (x : Bool), e_any (.c4 x) = (.iface 4 (.bool x))) ∧ (∀ (x : Str), e_any (.c9 x) = (.iface 9 (.str x))) ∧ (∀ (x : Ls2), e_any (.c66 x) = (.iface 66 (.sl (xmap e_any x)))) ∧ (∀ (x : Ls3), e_any (.c68 x) = (.iface 68 (.sl (xmap e_dyn_Member x)))) ∧ (e_any .c71 = (.iface 71 .any))) ∧ (∀ (x_0 : Str) (x_1 : S_any), e_dyn_Member ⟨x_0, x_1⟩ = (.agg [(.str x_0), (e_any x_1)])) ∧ (∀ (x_0 x_1 : Int) (x_2 : Str) (x_3 : Ls0) (x_4 : Ls1), e_api_Value ⟨x_0, x_1, x_2, x_3, x_4⟩ = (.agg [(.int .i64 x_0), (.int .i64 x_1), (.str x_2), (.sl (xmap e_api_Value x_3)), (.sl (xmap e_api_Pair x_4))])) ∧ (∀ (x_0 : Str) (x_1_0 x_1_1 : Int) (x_1_2 : Str) (x_1_3 : Ls0) (x_1_4 : Ls1), e_api_Pair ⟨x_0, ⟨x_1_0, x_1_1, x_1_2, x_1_3, x_1_4⟩⟩ = (.agg [(.str x_0), (.int .i64 x_1_0), (.int .i64 x_1_1), (.str x_1_2), (.sl (xmap e_api_Value x_1_3)), (.sl (xmap e_api_Pair x_1_4))])) ∧ (∀ (x : Int), e_int x = (.int .i64 x)) ∧ (∀ (x : Str), e_string x = (.str x))) (hZ : (∀ l, xallsz 1 (xmap e_any l) = true) ∧ (∀ l, xallsz 2 (xmap e_dyn_Member l) = true) ∧ (∀ l, xallsz 5 (xmap e_api_Value l) = true) ∧ (∀ l, xallsz 6 (xmap e_api_Pair l) = true) ∧ (∀ l, xallsz 1 (xmap e_int l) = true) ∧ (∀ l, xallsz 1 (xmap e_string l) = true)) (hF : ∀ v, (e_any v).flat = true ∧ (e_any v).cells = [e_any v])
include h hT hPP hA hZ hF
def b_cascadelaw04_DynGoes_0 (P : Prims) (c_cascadelaw04_awake : Option (Bool)) (c_cascaderef03_Few : S_api_Value → Int → Option (Bool)) (c_dyn_Odd : S_api_Value → Option (S_any)) (c_dyn_Go : S_any → (List Str) → Option (S_any × Bool)) (c_cascaderef04_Go : S_api_Value → (List Str) → Option (S_api_Value × Bool)) (c_dyn_From : S_any → Option (S_api_Value × Int)) (c_cascaderef04_From : S_api_Value → Option (S_api_Value × Int)) (c_cascaderef03_Same : S_api_Value → S_api_Value → Option (Bool)) (c_dyn_Kind : S_any → Option (Int)) (c_cascaderef04_Kind : S_api_Value → Option (Int)) (l_2 : T_cascadelaw04_DynGoes_2) (l_3 : T_cascadelaw04_DynGoes_3) (v0_0 v0_1 : Int) (v0_2 : Str) (v0_3 : Ls0) (v0_4 : Ls1) (v1 : (List Str)) : Option (Bool) :=
 match c_cascadelaw04_awake with
 | none => none
 | some r1_0 =>
  match r1_0 with
  | false =>
   some r1_0
  | true =>
   match c_cascaderef03_Few ⟨v0_0, v0_1, v0_2, v0_3, v0_4⟩ 60 with
   | none => none
   | some r4_0 =>
    match r4_0 with
    | false =>
     some r1_0
    | true =>
     match P.cmp .gtr (P.len v1) 10 with
     | false =>
      match c_dyn_Odd ⟨v0_0, v0_1, v0_2, v0_3, v0_4⟩ with
      | none => none
      | some r8_0 =>
       match c_dyn_Go r8_0 v1 with
       | none => none
       | some (r10_0, r10_1) =>
        match c_cascaderef04_Go ⟨v0_0, v0_1, v0_2, v0_3, v0_4⟩ v1 with
        | none => none
        | some (⟨r12_0_0, r12_0_1, r12_0_2, r12_0_3, r12_0_4⟩, r12_1) =>
         match r10_1 with
         | false =>
          match r12_1 with
          | false =>
           match r10_0 with
           | .n =>
            l_3 false r12_0_0 r12_0_1 r12_0_2 r12_0_3 r12_0_4
           | .c2 y17 =>
            some false
           | .c3 y18 =>
            some false
           | .c4 y19 =>
            some false
           | .c9 y20 =>
            some false
           | .c66 y21 =>
            some false
           | .c68 y22 =>
            some false
           | .c71 =>
            some false
          | true =>
           some false
         | true =>
          match r12_1 with
          | false =>
           some false
          | true =>
           l_2 r10_0 true r12_0_0 r12_0_1 r12_0_2 r12_0_3 r12_0_4
     | true =>
      some r1_0
section
variable (c_cascadelaw04_awake : Option (Bool)) (c_cascaderef03_Few : S_api_Value → Int → Option (Bool)) (c_dyn_Odd : S_api_Value → Option (S_any)) (c_dyn_Go : S_any → (List Str) → Option (S_any × Bool)) (c_cascaderef04_Go : S_api_Value → (List Str) → Option (S_api_Value × Bool)) (c_dyn_From : S_any → Option (S_api_Value × Int)) (c_cascaderef04_From : S_api_Value → Option (S_api_Value × Int)) (c_cascaderef03_Same : S_api_Value → S_api_Value → Option (Bool)) (c_dyn_Kind : S_any → Option (Int)) (c_cascaderef04_Kind : S_api_Value → Option (Int)) (h_cascadelaw04_awake : (C_cascadelaw04_awake xpcall xfcall c_cascadelaw04_awake)) (h_cascaderef03_Few : (C_cascaderef03_Few xpcall xfcall @xmap e_api_Value e_api_Pair c_cascaderef03_Few)) (h_dyn_Odd : (C_dyn_Odd xpcall xfcall @xmap e_any e_api_Value e_api_Pair c_dyn_Odd)) (h_dyn_Go : (C_dyn_Go xpcall xfcall @xmap e_any e_string c_dyn_Go)) (h_cascaderef04_Go : (C_cascaderef04_Go xpcall xfcall @xmap e_api_Value e_api_Pair e_string c_cascaderef04_Go)) (h_dyn_From : (C_dyn_From xpcall xfcall @xmap e_any e_api_Value e_api_Pair c_dyn_From)) (h_cascaderef04_From : (C_cascaderef04_From xpcall xfcall @xmap e_api_Value e_api_Pair c_cascaderef04_From)) (h_cascaderef03_Same : (C_cascaderef03_Same xpcall xfcall @xmap e_api_Value e_api_Pair c_cascaderef03_Same)) (h_dyn_Kind : (C_dyn_Kind xpcall xfcall e_any c_dyn_Kind)) (h_cascaderef04_Kind : (C_cascaderef04_Kind xpcall xfcall @xmap e_api_Value e_api_Pair c_cascaderef04_Kind)) (stk : Stk) (m : Nat)   
include c_cascadelaw04_awake c_cascaderef03_Few c_dyn_Odd c_dyn_Go c_cascaderef04_Go c_dyn_From c_cascaderef04_From c_cascaderef03_Same c_dyn_Kind c_cascaderef04_Kind h_cascadelaw04_awake h_cascaderef03_Few h_dyn_Odd h_dyn_Go h_cascaderef04_Go h_dyn_From h_cascaderef04_From h_cascaderef03_Same h_dyn_Kind h_cascaderef04_Kind stk m  
theorem o_cascadelaw04_DynGoes_0 (l_2 : T_cascadelaw04_DynGoes_2) (l_3 : T_cascadelaw04_DynGoes_3) (v0_0 v0_1 : Int) (v0_2 : Str) (v0_3 : Ls0) (v0_4 : Ls1) (v1 : (List Str))  (h_l_2 : H_cascadelaw04_DynGoes_2 xat @xmap e_any e_api_Value e_api_Pair m  l_2) (h_l_3 : H_cascadelaw04_DynGoes_3 xat @xmap e_api_Value e_api_Pair m  l_3) {out} (hp : b_cascadelaw04_DynGoes_0 PP c_cascadelaw04_awake c_cascaderef03_Few c_dyn_Odd c_dyn_Go c_cascaderef04_Go c_dyn_From c_cascaderef04_From c_cascaderef03_Same c_dyn_Kind c_cascaderef04_Kind l_2 l_3 v0_0 v0_1 v0_2 v0_3 v0_4 v1 = some out) : (A_cascadelaw04_DynGoes_0 xat @xmap e_api_Value e_api_Pair e_string m  v0_0 v0_1 v0_2 v0_3 v0_4 v1 stk) = (O_cascadelaw04_DynGoes  m  stk) out := by
 subst hPP
 simp only [b_cascadelaw04_DynGoes_0] at hp
 unfold A_cascadelaw04_DynGoes_0
 rw [h.at_, hT]
 cbv
 cases c2 : c_cascadelaw04_awake with
 | none => simp only [c2] at hp; cases hp
 | some r1_0 =>
  simp only [c2] at hp
  have qc := fun s => (h_cascadelaw04_awake c2 s).1
  simp only [qc]
  cbv
  cases r1_0 with
  | false =>
   simp only at hp
   cbv
   have qc := fun s => (h_cascadelaw04_awake c2 s).1
   simp only [qc]
   cbv
   cases hp
   all_goals first | rfl | (cbv; done)
  | true =>
   simp only at hp
   cbv
   cases c5 : c_cascaderef03_Few ⟨v0_0, v0_1, v0_2, v0_3, v0_4⟩ 60 with
   | none => simp only [c5] at hp; cases hp
   | some r4_0 =>
    simp only [c5] at hp
    have qc := fun s => (h_cascaderef03_Few c5 s).1
    simp only [qc]
    cbv
    cases r4_0 with
    | false =>
     simp only at hp
     cbv
     have qc := fun s => (h_cascadelaw04_awake c2 s).1
     simp only [qc]
     cbv
     cases hp
     all_goals first | rfl | (cbv; done)
    | true =>
     simp only at hp
     cbv
     try simp only [h.len]
     cases c7 : xcmp .gtr (plen v1) 10 with
     | false =>
      simp only [c7] at hp ⊢
      cbv
      rw [h.at_, hT]
      cbv
      cases c9 : c_dyn_Odd ⟨v0_0, v0_1, v0_2, v0_3, v0_4⟩ with
      | none => simp only [c9] at hp; cases hp
      | some r8_0 =>
       simp only [c9] at hp
       have qc := fun s => (h_dyn_Odd c9 s).1
       simp only [qc]
       cbv
       cases c11 : c_dyn_Go r8_0 v1 with
       | none => simp only [c11] at hp; cases hp
       | some y24 =>
        obtain ⟨r10_0, r10_1⟩ := y24
        simp only [c11] at hp
        have qc := fun s => (h_dyn_Go c11 s).1
        simp only [qc]
        cbv
        cases c13 : c_cascaderef04_Go ⟨v0_0, v0_1, v0_2, v0_3, v0_4⟩ v1 with
        | none => simp only [c13] at hp; cases hp
        | some y23 =>
         obtain ⟨⟨r12_0_0, r12_0_1, r12_0_2, r12_0_3, r12_0_4⟩, r12_1⟩ := y23
         simp only [c13] at hp
         have qc := fun s => (h_cascaderef04_Go c13 s).1
         simp only [qc]
         cbv
         cases r10_1 with
         | false =>
          simp only at hp
          cbv
          cases r12_1 with
          | false =>
           simp only at hp
           cbv
           cases r10_0 with
           | n =>
            simp only at hp
            try simp only [hA.1]
            cbv
            first | exact h_l_3 hp stk | (have q := h_l_3 hp stk; simp only [A_cascadelaw04_DynGoes_3, h.map_cons, h.map_nil, h.mapE_nil, h.len_nil, hA] at q; first | exact q | (cbv; exact q))
           | c2 y17 =>
            simp only at hp
            try simp only [hA.1]
            cbv
            cases hp
            all_goals first | rfl | (cbv; done)
           | c3 y18 =>
            simp only at hp
            try simp only [hA.1]
            cbv
            cases hp
            all_goals first | rfl | (cbv; done)
           | c4 y19 =>
            simp only at hp
            try simp only [hA.1]
            cbv
            cases hp
            all_goals first | rfl | (cbv; done)
           | c9 y20 =>
            simp only at hp
            try simp only [hA.1]
            cbv
            cases hp
            all_goals first | rfl | (cbv; done)
           | c66 y21 =>
            simp only at hp
            try simp only [hA.1]
            cbv
            cases hp
            all_goals first | rfl | (cbv; done)
           | c68 y22 =>
            simp only at hp
            try simp only [hA.1]
            cbv
            cases hp
            all_goals first | rfl | (cbv; done)
           | c71 =>
            simp only at hp
            try simp only [hA.1]
            cbv
            cases hp
            all_goals first | rfl | (cbv; done)
          | true =>
           simp only at hp
           cbv
           cases hp
           all_goals first | rfl | (cbv; done)
         | true =>
          simp only at hp
          cbv
          cases r12_1 with
          | false =>
           simp only at hp
           cbv
           cases hp
           all_goals first | rfl | (cbv; done)
          | true =>
           simp only at hp
           cbv
           first | exact h_l_2 hp stk | (have q := h_l_2 hp stk; simp only [A_cascadelaw04_DynGoes_2, h.map_cons, h.map_nil, h.mapE_nil, h.len_nil, hA] at q; first | exact q | (cbv; exact q))
     | true =>
      simp only [c7] at hp ⊢
      cbv
      have qc := fun s => (h_cascadelaw04_awake c2 s).1
      simp only [qc]
      cbv
      cases hp
      all_goals first | rfl | (cbv; done)
def b_cascadelaw04_DynGoes_2 (P : Prims) (c_cascadelaw04_awake : Option (Bool)) (c_cascaderef03_Few : S_api_Value → Int → Option (Bool)) (c_dyn_Odd : S_api_Value → Option (S_any)) (c_dyn_Go : S_any → (List Str) → Option (S_any × Bool)) (c_cascaderef04_Go : S_api_Value → (List Str) → Option (S_api_Value × Bool)) (c_dyn_From : S_any → Option (S_api_Value × Int)) (c_cascaderef04_From : S_api_Value → Option (S_api_Value × Int)) (c_cascaderef03_Same : S_api_Value → S_api_Value → Option (Bool)) (c_dyn_Kind : S_any → Option (Int)) (c_cascaderef04_Kind : S_api_Value → Option (Int))  (v5 : S_any) (v6 : Bool) (o7_0 o7_1 : Int) (o7_2 : Str) (o7_3 : Ls0) (o7_4 : Ls1) : Option (Bool) :=
 match c_dyn_From v5 with
 | none => none
 | some (⟨r25_0_0, r25_0_1, r25_0_2, r25_0_3, r25_0_4⟩, r25_1) =>
  match c_cascaderef04_From ⟨o7_0, o7_1, o7_2, o7_3, o7_4⟩ with
  | none => none
  | some (⟨r27_0_0, r27_0_1, r27_0_2, r27_0_3, r27_0_4⟩, r27_1) =>
   match v6 with
   | false =>
    some true
   | true =>
    match P.cmp .eql r25_1 r27_1 with
    | false =>
     some false
    | true =>
     match c_cascaderef03_Same ⟨r25_0_0, r25_0_1, r25_0_2, r25_0_3, r25_0_4⟩ ⟨r27_0_0, r27_0_1, r27_0_2, r27_0_3, r27_0_4⟩ with
     | none => none
     | some r31_0 =>
      match r31_0 with
      | false =>
       some false
      | true =>
       match c_dyn_Kind v5 with
       | none => none
       | some r34_0 =>
        match c_cascaderef04_Kind ⟨o7_0, o7_1, o7_2, o7_3, o7_4⟩ with
        | none => none
        | some r36_0 =>
         some (P.cmp .eql r34_0 r36_0)
theorem o_cascadelaw04_DynGoes_2  (v5 : S_any) (v6 : Bool) (o7_0 o7_1 : Int) (o7_2 : Str) (o7_3 : Ls0) (o7_4 : Ls1)   {out} (hp : b_cascadelaw04_DynGoes_2 PP c_cascadelaw04_awake c_cascaderef03_Few c_dyn_Odd c_dyn_Go c_cascaderef04_Go c_dyn_From c_cascaderef04_From c_cascaderef03_Same c_dyn_Kind c_cascaderef04_Kind  v5 v6 o7_0 o7_1 o7_2 o7_3 o7_4 = some out) : (A_cascadelaw04_DynGoes_2 xat @xmap e_any e_api_Value e_api_Pair m  v5 v6 o7_0 o7_1 o7_2 o7_3 o7_4 stk) = (O_cascadelaw04_DynGoes  m  stk) out := by
 subst hPP
 simp only [b_cascadelaw04_DynGoes_2] at hp
 unfold A_cascadelaw04_DynGoes_2
 rw [h.at_, hT]
 cbv
 cases c26 : c_dyn_From v5 with
 | none => simp only [c26] at hp; cases hp
 | some y39 =>
  obtain ⟨⟨r25_0_0, r25_0_1, r25_0_2, r25_0_3, r25_0_4⟩, r25_1⟩ := y39
  simp only [c26] at hp
  have qc := fun s => (h_dyn_From c26 s).1
  simp only [qc]
  cbv
  cases c28 : c_cascaderef04_From ⟨o7_0, o7_1, o7_2, o7_3, o7_4⟩ with
  | none => simp only [c28] at hp; cases hp
  | some y38 =>
   obtain ⟨⟨r27_0_0, r27_0_1, r27_0_2, r27_0_3, r27_0_4⟩, r27_1⟩ := y38
   simp only [c28] at hp
   have qc := fun s => (h_cascaderef04_From c28 s).1
   simp only [qc]
   cbv
   cases v6 with
   | false =>
    simp only at hp
    cbv
    cases hp
    all_goals first | rfl | (cbv; done)
   | true =>
    simp only at hp
    cbv
    cases c30 : xcmp .eql r25_1 r27_1 with
    | false =>
     simp only [c30] at hp ⊢
     cbv
     cases hp
     all_goals first | rfl | (cbv; done)
    | true =>
     simp only [c30] at hp ⊢
     cbv
     cases c32 : c_cascaderef03_Same ⟨r25_0_0, r25_0_1, r25_0_2, r25_0_3, r25_0_4⟩ ⟨r27_0_0, r27_0_1, r27_0_2, r27_0_3, r27_0_4⟩ with
     | none => simp only [c32] at hp; cases hp
     | some r31_0 =>
      simp only [c32] at hp
      have qc := fun s => (h_cascaderef03_Same c32 s).1
      simp only [qc]
      cbv
      cases r31_0 with
      | false =>
       simp only at hp
       cbv
       cases hp
       all_goals first | rfl | (cbv; done)
      | true =>
       simp only at hp
       cbv
       cases c35 : c_dyn_Kind v5 with
       | none => simp only [c35] at hp; cases hp
       | some r34_0 =>
        simp only [c35] at hp
        have qc := fun s => (h_dyn_Kind c35 s).1
        simp only [qc]
        cbv
        cases c37 : c_cascaderef04_Kind ⟨o7_0, o7_1, o7_2, o7_3, o7_4⟩ with
        | none => simp only [c37] at hp; cases hp
        | some r36_0 =>
         simp only [c37] at hp
         have qc := fun s => (h_cascaderef04_Kind c37 s).1
         simp only [qc]
         cbv
         cases hp
         all_goals first | rfl | (cbv; done)
def b_cascadelaw04_DynGoes_3 (P : Prims) (c_cascadelaw04_awake : Option (Bool)) (c_cascaderef03_Few : S_api_Value → Int → Option (Bool)) (c_dyn_Odd : S_api_Value → Option (S_any)) (c_dyn_Go : S_any → (List Str) → Option (S_any × Bool)) (c_cascaderef04_Go : S_api_Value → (List Str) → Option (S_api_Value × Bool)) (c_dyn_From : S_any → Option (S_api_Value × Int)) (c_cascaderef04_From : S_api_Value → Option (S_api_Value × Int)) (c_cascaderef03_Same : S_api_Value → S_api_Value → Option (Bool)) (c_dyn_Kind : S_any → Option (Int)) (c_cascaderef04_Kind : S_api_Value → Option (Int))  (v6 : Bool) (o7_0 o7_1 : Int) (o7_2 : Str) (o7_3 : Ls0) (o7_4 : Ls1) : Option (Bool) :=
 match c_dyn_From .n with
 | none => none
 | some (⟨r40_0_0, r40_0_1, r40_0_2, r40_0_3, r40_0_4⟩, r40_1) =>
  match c_cascaderef04_From ⟨o7_0, o7_1, o7_2, o7_3, o7_4⟩ with
  | none => none
  | some (⟨r42_0_0, r42_0_1, r42_0_2, r42_0_3, r42_0_4⟩, r42_1) =>
   match v6 with
   | false =>
    some true
   | true =>
    match P.cmp .eql r40_1 r42_1 with
    | false =>
     some false
    | true =>
     match c_cascaderef03_Same ⟨r40_0_0, r40_0_1, r40_0_2, r40_0_3, r40_0_4⟩ ⟨r42_0_0, r42_0_1, r42_0_2, r42_0_3, r42_0_4⟩ with
     | none => none
     | some r46_0 =>
      match r46_0 with
      | false =>
       some false
      | true =>
       match c_dyn_Kind .n with
       | none => none
       | some r49_0 =>
        match c_cascaderef04_Kind ⟨o7_0, o7_1, o7_2, o7_3, o7_4⟩ with
        | none => none
        | some r51_0 =>
         some (P.cmp .eql r49_0 r51_0)
theorem o_cascadelaw04_DynGoes_3  (v6 : Bool) (o7_0 o7_1 : Int) (o7_2 : Str) (o7_3 : Ls0) (o7_4 : Ls1)   {out} (hp : b_cascadelaw04_DynGoes_3 PP c_cascadelaw04_awake c_cascaderef03_Few c_dyn_Odd c_dyn_Go c_cascaderef04_Go c_dyn_From c_cascaderef04_From c_cascaderef03_Same c_dyn_Kind c_cascaderef04_Kind  v6 o7_0 o7_1 o7_2 o7_3 o7_4 = some out) : (A_cascadelaw04_DynGoes_3 xat @xmap e_api_Value e_api_Pair m  v6 o7_0 o7_1 o7_2 o7_3 o7_4 stk) = (O_cascadelaw04_DynGoes  m  stk) out := by
 subst hPP
 simp only [b_cascadelaw04_DynGoes_3] at hp
 unfold A_cascadelaw04_DynGoes_3
 rw [h.at_, hT]
 cbv
 cases c41 : c_dyn_From .n with
 | none => simp only [c41] at hp; cases hp
 | some y54 =>
  obtain ⟨⟨r40_0_0, r40_0_1, r40_0_2, r40_0_3, r40_0_4⟩, r40_1⟩ := y54
  simp only [c41] at hp
  have qc := fun s => (h_dyn_From c41 s).1
  try simp only [h.map_cons, h.map_nil, hA.1] at qc
  simp only [qc]
  cbv
  cases c43 : c_cascaderef04_From ⟨o7_0, o7_1, o7_2, o7_3, o7_4⟩ with
  | none => simp only [c43] at hp; cases hp
  | some y53 =>
   obtain ⟨⟨r42_0_0, r42_0_1, r42_0_2, r42_0_3, r42_0_4⟩, r42_1⟩ := y53
   simp only [c43] at hp
   have qc := fun s => (h_cascaderef04_From c43 s).1
   simp only [qc]
   cbv
   cases v6 with
   | false =>
    simp only at hp
    cbv
    cases hp
    all_goals first | rfl | (cbv; done)
   | true =>
    simp only at hp
    cbv
    cases c45 : xcmp .eql r40_1 r42_1 with
    | false =>
     simp only [c45] at hp ⊢
     cbv
     cases hp
     all_goals first | rfl | (cbv; done)
    | true =>
     simp only [c45] at hp ⊢
     cbv
     cases c47 : c_cascaderef03_Same ⟨r40_0_0, r40_0_1, r40_0_2, r40_0_3, r40_0_4⟩ ⟨r42_0_0, r42_0_1, r42_0_2, r42_0_3, r42_0_4⟩ with
     | none => simp only [c47] at hp; cases hp
     | some r46_0 =>
      simp only [c47] at hp
      have qc := fun s => (h_cascaderef03_Same c47 s).1
      simp only [qc]
      cbv
      cases r46_0 with
      | false =>
       simp only at hp
       cbv
       cases hp
       all_goals first | rfl | (cbv; done)
      | true =>
       simp only at hp
       cbv
       cases c50 : c_dyn_Kind .n with
       | none => simp only [c50] at hp; cases hp
       | some r49_0 =>
        simp only [c50] at hp
        have qc := fun s => (h_dyn_Kind c50 s).1
        try simp only [h.map_cons, h.map_nil, hA.1] at qc
        simp only [qc]
        cbv
        cases c52 : c_cascaderef04_Kind ⟨o7_0, o7_1, o7_2, o7_3, o7_4⟩ with
        | none => simp only [c52] at hp; cases hp
        | some r51_0 =>
         simp only [c52] at hp
         have qc := fun s => (h_cascaderef04_Kind c52 s).1
         simp only [qc]
         cbv
         cases hp
         all_goals first | rfl | (cbv; done)
end
end
end Go.Abs.T
