import Derived.Test.YtacabmodmbcldaaDoorWT
set_option linter.unusedSimpArgs false
set_option linter.unusedVariables false
set_option linter.unusedSectionVars false
namespace Go.Abs.T
set_option maxRecDepth 100000
section
variable {PP : Prims} {xR : FuncId → Option RF} {xiter : (St → Rs) → St → Rs} {xG : Nat → Option (List D)} {xcall : CallF} {xpcall : FuncId → List V → Stk → Option V} {xfcall : FuncId → List V → Stk → Option (V × Stk)} {xkcall : FuncId → List (List Nat) → List V → Stk → Option (V × Level × Stk)} {xlen : List D → Nat} {xnth : List D → Nat → Option D} {xcut : List D → Nat → Nat → List D} {xapp : List D → List D → List D} {xset : List D → Nat → D → List D} {xrep : Nat → D → List D} {xallsz : Nat → List D → Bool} {xslen : Str → Nat} {xsnth : Str → Nat → Option UInt8} {xscut : Str → Nat → Nat → Str} {xsapp : Str → Str → Str} {xseq : Str → Str → Bool} {xslt : Str → Str → Bool} {xofStr : Str → List D} {xtoStr : List D → Option Str} {xdec : Str → Nat → Nat × Nat} {xenc : Int → Str} {xar : BinOp → IntKind → Int → Int → Int} {xcmp : BinOp → Int → Int → Bool} {xwrap : IntKind → Int → Int} {xisz : Int → Bool} {xneg : Int → Bool} {xnat : Int → Nat} {xofN : Nat → Int} {xbyte : UInt8 → Int} {xnle : Nat → Nat → Bool} {xnadd : Nat → Nat → Nat} {xnsub : Nat → Nat → Nat} {xfits : Nat → Nat → Bool} {xfind : D → List (D × Nat × V) → Option (Option V)} {xputE : D → Nat → V → List (D × Nat × V) → Option (List (D × Nat × V))} {xfindK : D → List D → List D → Option (Option D)} {xelen : List (D × Nat × V) → Nat} {xfrzM : List (D × Nat × V) → Option (List D × List D)} {xat : AtF} {xsetO : Stk → Lab → O → Stk} {xtop : Stk → Nat} {xsame : Stk → Stk → Bool} {xmap : {α : Type} → (α → D) → List α → List D} {xmapE : {α : Type} → (α → D) → List (Str × Nat × α) → List (D × Nat × V)} {pquo : BinOp → IntKind → Int → Int → Option Int} {pshf : BinOp → IntKind → Int → Int → Option Int} {pslen : Str → Int} {psidx : Str → Int → Option Int} {pssub : Str → Option Int → Option Int → Option Str} {pscat : Str → Str → Option Str} {psit : Str → Nat → Option (Int × Int × Nat)} {pslist : Str → Option (List Int)} {pofBytes : List Int → Str} {plen : {α : Type} → List α → Int} {pidx : {α : Type} → List α → Int → Option α} {psub : {α : Type} → List α → Option Int → Option Int → Option (List α)} {papp : {α : Type} → Nat → List α → List α → Option (List α)} {pset : {α : Type} → List α → Int → α → Option (List α)} {pmake : {α : Type} → Nat → α → Int → Option (List α)} {pmfind : {α : Type} → Str → List (Str × Nat × α) → Option α} {pmput : {α : Type} → Str → Nat → α → List (Str × Nat × α) → List (Str × Nat × α)} {ploop : {σ ρ : Type} → (σ → Option (σ ⊕ ρ)) → σ → Option ρ} {xT : FuncId → Option KF}
  (h : KLaws xR xiter xG xcall xpcall xfcall xkcall xlen xnth xcut xapp xset xrep xallsz xslen xsnth xscut xsapp xseq xslt xofStr xtoStr xdec xenc xar xcmp xwrap xisz xneg xnat xofN xbyte xnle xnadd xnsub xfits xfind xputE xfindK xelen xfrzM xat xsetO xtop xsame @xmap @xmapE pquo pshf pslen psidx pssub pscat psit pslist pofBytes @plen @pidx @psub @papp @pset @pmake @pmfind @pmput @ploop xT) (hT : xT = table) (hPP : PP = ⟨xar, xcmp, xwrap, xseq, xslt, xenc, pquo, pshf, pslen, psidx, pssub, pscat, psit, pslist, pofBytes, @plen, @pidx, @psub, @papp, @pset, @pmake, @pmfind, @pmput, @ploop⟩)
variable {e_api_Step : S_api_Step → D} {e_api_Value : S_api_Value → D} {e_api_Pair : S_api_Pair → D} {e_int : Int → D} (he_e_api_Step : ∀ (x_0 : Str) (x_1 : Int) (x_2 : Bool), e_api_Step ⟨x_0, x_1, x_2⟩ = (.agg [(.str x_0), (.int .i64 x_1), (.bool x_2)])) (hz_e_api_Step : ∀ l, xallsz 3 (xmap e_api_Step l) = true) (he_e_api_Value : ∀ (x_0 : Int) (x_1 : Int) (x_2 : Str) (x_3 : (List S_api_Value)) (x_4 : (List S_api_Pair)), e_api_Value ⟨x_0, x_1, x_2, x_3, x_4⟩ = (.agg [(.int .i64 x_0), (.int .i64 x_1), (.str x_2), (.sl (xmap e_api_Value x_3)), (.sl (xmap e_api_Pair x_4))])) (hz_e_api_Value : ∀ l, xallsz 5 (xmap e_api_Value l) = true) (he_e_api_Pair : ∀ (x_0 : Str) (x_1_0 : Int) (x_1_1 : Int) (x_1_2 : Str) (x_1_3 : (List S_api_Value)) (x_1_4 : (List S_api_Pair)), e_api_Pair ⟨x_0, ⟨x_1_0, x_1_1, x_1_2, x_1_3, x_1_4⟩⟩ = (.agg [(.str x_0), (.int .i64 x_1_0), (.int .i64 x_1_1), (.str x_1_2), (.sl (xmap e_api_Value x_1_3)), (.sl (xmap e_api_Pair x_1_4))])) (hz_e_api_Pair : ∀ l, xallsz 6 (xmap e_api_Pair l) = true) (he_e_int : ∀ (x : Int), e_int x = (.int .i64 x)) (hz_e_int : ∀ l, xallsz 1 (xmap e_int l) = true)
include h hT hPP he_e_api_Step hz_e_api_Step he_e_api_Value hz_e_api_Value he_e_api_Pair hz_e_api_Pair he_e_int hz_e_int
def b_cascaderef06_Of_3 (P : Prims) (c_cascaderef03_Right : S_api_Value → Option (Bool)) (c_cascaderef06_Right__1 : Nat → (List S_api_Step) → Option (Bool))  (v1_0 : Int) (v1_1 : Int) (v1_2 : Str) (v1_3 : (List S_api_Value)) (v1_4 : (List S_api_Pair)) (o4_g : Nat) (o4 : (List S_api_Step)) (v5 : Int) (o6_0 : Int) (o6_1 : Int) (o6_2 : Str) (o6_3 : (List S_api_Value)) (o6_4 : (List S_api_Pair)) : Option ((Int × Int × Str × (List S_api_Value) × (List S_api_Pair) × Nat × (List S_api_Step) × Int) ⊕ ((List S_api_Step) × Bool)) :=
 match P.app 32 o4 [⟨o6_2, o6_1, P.cmp .eql o6_0 2⟩] with
 | none => none
 | some l16 =>
  some (.inl (v1_0, v1_1, v1_2, v1_3, v1_4, o4_g + 1, l16, P.ar .add .i64 v5 1))
theorem o_cascaderef06_Of_3 (c_cascaderef03_Right : S_api_Value → Option (Bool)) (c_cascaderef06_Right__1 : Nat → (List S_api_Step) → Option (Bool)) (h_cascaderef03_Right : (C_cascaderef03_Right xpcall xfcall @xmap e_api_Value e_api_Pair c_cascaderef03_Right)) (h_cascaderef06_Right__1 : (C_cascaderef06_Right__1 xpcall xfcall @xmap xlen e_api_Step c_cascaderef06_Right__1)) (stk : Stk) (m : Nat)     (v1_0 : Int) (v1_1 : Int) (v1_2 : Str) (v1_3 : (List S_api_Value)) (v1_4 : (List S_api_Pair)) (o4_g : Nat) (o4 : (List S_api_Step)) (v5 : Int) (o6_0 : Int) (o6_1 : Int) (o6_2 : Str) (o6_3 : (List S_api_Value)) (o6_4 : (List S_api_Pair))   {out} (hp : b_cascaderef06_Of_3 PP c_cascaderef03_Right c_cascaderef06_Right__1  v1_0 v1_1 v1_2 v1_3 v1_4 o4_g o4 v5 o6_0 o6_1 o6_2 o6_3 o6_4 = some out) : (A_cascaderef06_Of_3 xat @xmap xlen e_api_Step e_api_Value e_api_Pair m  v1_0 v1_1 v1_2 v1_3 v1_4 o4_g o4 v5 o6_0 o6_1 o6_2 o6_3 o6_4 stk) = (Sum.elim (fun (v1_0, v1_1, v1_2, v1_3, v1_4, o4_g, o4, v5) => (A_cascaderef06_Of_1 xat @xmap xlen e_api_Step e_api_Value e_api_Pair m  v1_0 v1_1 v1_2 v1_3 v1_4 o4_g o4 v5 stk)) (O_cascaderef06_Of @xmap e_api_Step m  stk)) out := by
 subst hPP
 simp only [b_cascaderef06_Of_3] at hp
 unfold A_cascaderef06_Of_3
 rw [h.at_, hT]
 cbv
 simp only [h.allsz_nil, h.allsz_cons]
 cbv
 simp only [h.allsz_nil, h.allsz_cons]
 cbv
 cases c17 : papp 32 o4 [⟨o6_2, o6_1, xcmp .eql o6_0 2⟩] with
 | none => simp only [c17] at hp; cases hp
 | some l16 =>
  simp only [c17] at hp
  obtain ⟨q1, q2, q3⟩ := h.app e_api_Step c17 rfl
  simp only [h.map_cons, h.map_nil, h.len_nil, he_e_api_Step] at q1 q2 q3
  try simp only [h.len_nil]
  cbv
  simp only [q1, q2, q3, if_true]
  cbv
  rw [h.at_, hT]
  cbv
  cases hp
  all_goals first | rfl | (cbv; done) | (simp only [h.nadd0, h.nle_refl, h.cut_all, h.cut_nil, h.map_cons, h.map_nil, h.mapE_nil, h.len_nil, he_e_api_Step, he_e_api_Value, he_e_api_Pair, he_e_int, O_cascaderef06_Of, A_cascaderef06_Of_1, if_true]; done) | (simp only [h.nadd0, h.nle_refl, h.cut_all, h.cut_nil, h.map_cons, h.map_nil, h.mapE_nil, h.len_nil, he_e_api_Step, he_e_api_Value, he_e_api_Pair, he_e_int, O_cascaderef06_Of, A_cascaderef06_Of_1, if_true]; first | rfl | (cbv; done) | (cbv; simp only [h.map_cons, h.map_nil, h.mapE_nil, h.len_nil, he_e_api_Step, he_e_api_Value, he_e_api_Pair, he_e_int, O_cascaderef06_Of, A_cascaderef06_Of_1]; done))
def b_cascadelaw06_PathOf_0 (P : Prims) (c_cascadelaw06_awake : Option (Bool)) (c_cascaderef03_Few : S_api_Value → Int → Option (Bool)) (c_path_Of : S_api_Value → Option ((List S_api_Step) × Int)) (c_cascaderef06_Of : S_api_Value → Option ((List S_api_Step) × Bool)) (c_cascaderef06_Same : (List S_api_Step) → (List S_api_Step) → Option (Bool))  (v0_0 : Int) (v0_1 : Int) (v0_2 : Str) (v0_3 : (List S_api_Value)) (v0_4 : (List S_api_Pair)) : Option (Bool) :=
 match c_cascadelaw06_awake with
 | none => none
 | some r1_0 =>
  match r1_0 with
  | false =>
   some r1_0
  | true =>
   match c_cascaderef03_Few ⟨v0_0, v0_1, v0_2, v0_3, v0_4⟩ 60 with
   | none => none
   | some r4_0 =>
    match r4_0 with
    | false =>
     some r1_0
    | true =>
     match c_path_Of ⟨v0_0, v0_1, v0_2, v0_3, v0_4⟩ with
     | none => none
     | some (r7_0, r7_1) =>
      match c_cascaderef06_Of ⟨v0_0, v0_1, v0_2, v0_3, v0_4⟩ with
      | none => none
      | some (r9_0, r9_1) =>
       match P.cmp .eql r7_1 0 with
       | false =>
        match r9_1 with
        | false =>
         match P.cmp .eql r7_1 1 with
         | false =>
          some false
         | true =>
          match c_cascaderef06_Same r7_0 r9_0 with
          | none => none
          | some r18_0 =>
           some r18_0
        | true =>
         some false
       | true =>
        match r9_1 with
        | false =>
         some false
        | true =>
         match P.cmp .eql r7_1 1 with
         | false =>
          match c_cascaderef06_Same r7_0 r9_0 with
          | none => none
          | some r14_0 =>
           some r14_0
         | true =>
          some false
theorem o_cascadelaw06_PathOf_0 (c_cascadelaw06_awake : Option (Bool)) (c_cascaderef03_Few : S_api_Value → Int → Option (Bool)) (c_path_Of : S_api_Value → Option ((List S_api_Step) × Int)) (c_cascaderef06_Of : S_api_Value → Option ((List S_api_Step) × Bool)) (c_cascaderef06_Same : (List S_api_Step) → (List S_api_Step) → Option (Bool)) (h_cascadelaw06_awake : (C_cascadelaw06_awake xpcall xfcall c_cascadelaw06_awake)) (h_cascaderef03_Few : (C_cascaderef03_Few xpcall xfcall @xmap e_api_Value e_api_Pair c_cascaderef03_Few)) (h_path_Of : (C_path_Of xpcall xfcall @xmap e_api_Step e_api_Value e_api_Pair c_path_Of)) (h_cascaderef06_Of : (C_cascaderef06_Of xpcall xfcall @xmap e_api_Step e_api_Value e_api_Pair c_cascaderef06_Of)) (h_cascaderef06_Same : (C_cascaderef06_Same xpcall xfcall @xmap e_api_Step c_cascaderef06_Same)) (stk : Stk) (m : Nat)     (v0_0 : Int) (v0_1 : Int) (v0_2 : Str) (v0_3 : (List S_api_Value)) (v0_4 : (List S_api_Pair))   {out} (hp : b_cascadelaw06_PathOf_0 PP c_cascadelaw06_awake c_cascaderef03_Few c_path_Of c_cascaderef06_Of c_cascaderef06_Same  v0_0 v0_1 v0_2 v0_3 v0_4 = some out) : (A_cascadelaw06_PathOf_0 xat @xmap e_api_Value e_api_Pair m  v0_0 v0_1 v0_2 v0_3 v0_4 stk) = (O_cascadelaw06_PathOf  m  stk) out := by
 subst hPP
 simp only [b_cascadelaw06_PathOf_0] at hp
 unfold A_cascadelaw06_PathOf_0
 rw [h.at_, hT]
 cbv
 cases c2 : c_cascadelaw06_awake with
 | none => simp only [c2] at hp; cases hp
 | some r1_0 =>
  simp only [c2] at hp
  have qc := fun s => (h_cascadelaw06_awake c2 s).1
  simp only [qc]
  cbv
  cases r1_0 with
  | false =>
   simp only at hp
   cbv
   have qc := fun s => (h_cascadelaw06_awake c2 s).1
   simp only [qc]
   cbv
   cases hp
   all_goals first | rfl | (cbv; done)
  | true =>
   simp only at hp
   cbv
   cases c5 : c_cascaderef03_Few ⟨v0_0, v0_1, v0_2, v0_3, v0_4⟩ 60 with
   | none => simp only [c5] at hp; cases hp
   | some r4_0 =>
    simp only [c5] at hp
    have qc := fun s => (h_cascaderef03_Few c5 s).1
    simp only [qc]
    cbv
    cases r4_0 with
    | false =>
     simp only at hp
     cbv
     have qc := fun s => (h_cascadelaw06_awake c2 s).1
     simp only [qc]
     cbv
     cases hp
     all_goals first | rfl | (cbv; done)
    | true =>
     simp only at hp
     cbv
     rw [h.at_, hT]
     cbv
     cases c8 : c_path_Of ⟨v0_0, v0_1, v0_2, v0_3, v0_4⟩ with
     | none => simp only [c8] at hp; cases hp
     | some y21 =>
      obtain ⟨r7_0, r7_1⟩ := y21
      simp only [c8] at hp
      have qc := fun s => (h_path_Of c8 s).1
      simp only [qc]
      cbv
      cases c10 : c_cascaderef06_Of ⟨v0_0, v0_1, v0_2, v0_3, v0_4⟩ with
      | none => simp only [c10] at hp; cases hp
      | some y20 =>
       obtain ⟨r9_0, r9_1⟩ := y20
       simp only [c10] at hp
       have qc := fun s => (h_cascaderef06_Of c10 s).1
       simp only [qc]
       cbv
       cases c11 : xcmp .eql r7_1 0 with
       | false =>
        simp only [c11] at hp ⊢
        cbv
        cases r9_1 with
        | false =>
         simp only at hp
         cbv
         cases c17 : xcmp .eql r7_1 1 with
         | false =>
          simp only [c17] at hp ⊢
          cbv
          cases hp
          all_goals first | rfl | (cbv; done)
         | true =>
          simp only [c17] at hp ⊢
          cbv
          cases c19 : c_cascaderef06_Same r7_0 r9_0 with
          | none => simp only [c19] at hp; cases hp
          | some r18_0 =>
           simp only [c19] at hp
           have qc := fun s => (h_cascaderef06_Same c19 s).1
           simp only [qc]
           cbv
           cases hp
           all_goals first | rfl | (cbv; done)
        | true =>
         simp only at hp
         cbv
         cases hp
         all_goals first | rfl | (cbv; done)
       | true =>
        simp only [c11] at hp ⊢
        cbv
        cases r9_1 with
        | false =>
         simp only at hp
         cbv
         cases hp
         all_goals first | rfl | (cbv; done)
        | true =>
         simp only at hp
         cbv
         cases c13 : xcmp .eql r7_1 1 with
         | false =>
          simp only [c13] at hp ⊢
          cbv
          cases c15 : c_cascaderef06_Same r7_0 r9_0 with
          | none => simp only [c15] at hp; cases hp
          | some r14_0 =>
           simp only [c15] at hp
           have qc := fun s => (h_cascaderef06_Same c15 s).1
           simp only [qc]
           cbv
           cases hp
           all_goals first | rfl | (cbv; done)
         | true =>
          simp only [c13] at hp ⊢
          cbv
          cases hp
          all_goals first | rfl | (cbv; done)
end
end Go.Abs.T
