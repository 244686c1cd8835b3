import Derived.Test.YtacabmodmbcldaaDoorWT
set_option linter.unusedSimpArgs false
set_option linter.unusedVariables false
set_option linter.unusedSectionVars false
namespace Go.Abs.T
set_option maxRecDepth 100000
section
variable {PP : Prims} {xR : FuncId → Option RF} {xiter : (St → Rs) → St → Rs} {xG : Nat → Option (List D)} {xcall : CallF} {xpcall : FuncId → List V → Stk → Option V} {xfcall : FuncId → List V → Stk → Option (V × Stk)} {xkcall : FuncId → List (List Nat) → List V → Stk → Option (V × Level × Stk)} {xlen : List D → Nat} {xnth : List D → Nat → Option D} {xcut : List D → Nat → Nat → List D} {xapp : List D → List D → List D} {xset : List D → Nat → D → List D} {xrep : Nat → D → List D} {xallsz : Nat → List D → Bool} {xslen : Str → Nat} {xsnth : Str → Nat → Option UInt8} {xscut : Str → Nat → Nat → Str} {xsapp : Str → Str → Str} {xseq : Str → Str → Bool} {xslt : Str → Str → Bool} {xofStr : Str → List D} {xtoStr : List D → Option Str} {xdec : Str → Nat → Nat × Nat} {xenc : Int → Str} {xar : BinOp → IntKind → Int → Int → Int} {xcmp : BinOp → Int → Int → Bool} {xwrap : IntKind → Int → Int} {xisz : Int → Bool} {xneg : Int → Bool} {xnat : Int → Nat} {xofN : Nat → Int} {xbyte : UInt8 → Int} {xnle : Nat → Nat → Bool} {xnadd : Nat → Nat → Nat} {xnsub : Nat → Nat → Nat} {xfits : Nat → Nat → Bool} {xfind : D → List (D × Nat × V) → Option (Option V)} {xputE : D → Nat → V → List (D × Nat × V) → Option (List (D × Nat × V))} {xfindK : D → List D → List D → Option (Option D)} {xelen : List (D × Nat × V) → Nat} {xfrzM : List (D × Nat × V) → Option (List D × List D)} {xat : AtF} {xsetO : Stk → Lab → O → Stk} {xtop : Stk → Nat} {xsame : Stk → Stk → Bool} {xmap : {α : Type} → (α → D) → List α → List D} {xmapE : {α : Type} → (α → D) → List (Str × Nat × α) → List (D × Nat × V)} {pquo : BinOp → IntKind → Int → Int → Option Int} {pshf : BinOp → IntKind → Int → Int → Option Int} {pslen : Str → Int} {psidx : Str → Int → Option Int} {pssub : Str → Option Int → Option Int → Option Str} {pscat : Str → Str → Option Str} {psit : Str → Nat → Option (Int × Int × Nat)} {pslist : Str → Option (List Int)} {pofBytes : List Int → Str} {plen : {α : Type} → List α → Int} {pidx : {α : Type} → List α → Int → Option α} {psub : {α : Type} → List α → Option Int → Option Int → Option (List α)} {papp : {α : Type} → Nat → List α → List α → Option (List α)} {pset : {α : Type} → List α → Int → α → Option (List α)} {pmake : {α : Type} → Nat → α → Int → Option (List α)} {pmfind : {α : Type} → Str → List (Str × Nat × α) → Option α} {pmput : {α : Type} → Str → Nat → α → List (Str × Nat × α) → List (Str × Nat × α)} {ploop : {σ ρ : Type} → (σ → Option (σ ⊕ ρ)) → σ → Option ρ} {xT : FuncId → Option KF}
  (h : KLaws xR xiter xG xcall xpcall xfcall xkcall xlen xnth xcut xapp xset xrep xallsz xslen xsnth xscut xsapp xseq xslt xofStr xtoStr xdec xenc xar xcmp xwrap xisz xneg xnat xofN xbyte xnle xnadd xnsub xfits xfind xputE xfindK xelen xfrzM xat xsetO xtop xsame @xmap @xmapE pquo pshf pslen psidx pssub pscat psit pslist pofBytes @plen @pidx @psub @papp @pset @pmake @pmfind @pmput @ploop xT) (hT : xT = table) (hPP : PP = ⟨xar, xcmp, xwrap, xseq, xslt, xenc, pquo, pshf, pslen, psidx, pssub, pscat, psit, pslist, pofBytes, @plen, @pidx, @psub, @papp, @pset, @pmake, @pmfind, @pmput, @ploop⟩)
variable {e_api_Step : S_api_Step → D} {e_api_Value : S_api_Value → D} {e_api_Pair : S_api_Pair → D} {e_int : Int → D} (he_e_api_Step : ∀ (x_0 : Str) (x_1 : Int) (x_2 : Bool), e_api_Step ⟨x_0, x_1, x_2⟩ = (.agg [(.str x_0), (.int .i64 x_1), (.bool x_2)])) (hz_e_api_Step : ∀ l, xallsz 3 (xmap e_api_Step l) = true) (he_e_api_Value : ∀ (x_0 x_1 : Int) (x_2 : Str) (x_3 : Ls0) (x_4 : Ls1), e_api_Value ⟨x_0, x_1, x_2, x_3, x_4⟩ = (.agg [(.int .i64 x_0), (.int .i64 x_1), (.str x_2), (.sl (xmap e_api_Value x_3)), (.sl (xmap e_api_Pair x_4))])) (hz_e_api_Value : ∀ l, xallsz 5 (xmap e_api_Value l) = true) (he_e_api_Pair : ∀ (x_0 : Str) (x_1_0 x_1_1 : Int) (x_1_2 : Str) (x_1_3 : Ls0) (x_1_4 : Ls1), e_api_Pair ⟨x_0, ⟨x_1_0, x_1_1, x_1_2, x_1_3, x_1_4⟩⟩ = (.agg [(.str x_0), (.int .i64 x_1_0), (.int .i64 x_1_1), (.str x_1_2), (.sl (xmap e_api_Value x_1_3)), (.sl (xmap e_api_Pair x_1_4))])) (hz_e_api_Pair : ∀ l, xallsz 6 (xmap e_api_Pair l) = true) (he_e_int : ∀ (x : Int), e_int x = (.int .i64 x)) (hz_e_int : ∀ l, xallsz 1 (xmap e_int l) = true)
include h hT hPP he_e_api_Step hz_e_api_Step he_e_api_Value hz_e_api_Value he_e_api_Pair hz_e_api_Pair he_e_int hz_e_int
def b_cascaderef06_changed_0 (P : Prims) (c_cascaderef06_Put : S_api_Value → Ls2 → S_api_Value → Option (S_api_Value)) (c_cascaderef03_Right : S_api_Value → Option (Bool))  (v0_0 v0_1 : Int) (v0_2 : Str) (v0_3 : Ls0) (v0_4 : Ls1) (v1 : Ls2) (v2_0 v2_1 : Int) (v2_2 : Str) (v2_3 : Ls0) (v2_4 : Ls1) : Option (S_api_Value × Int) :=
 match c_cascaderef06_Put ⟨v0_0, v0_1, v0_2, v0_3, v0_4⟩ v1 ⟨v2_0, v2_1, v2_2, v2_3, v2_4⟩ with
 | none => none
 | some ⟨r1_0_0, r1_0_1, r1_0_2, r1_0_3, r1_0_4⟩ =>
  match c_cascaderef03_Right ⟨r1_0_0, r1_0_1, r1_0_2, r1_0_3, r1_0_4⟩ with
  | none => none
  | some r3_0 =>
   match r3_0 with
   | false =>
    some (⟨0, 0, [], [], []⟩, 5)
   | true =>
    some (⟨r1_0_0, r1_0_1, r1_0_2, r1_0_3, r1_0_4⟩, 0)
section
variable (c_cascaderef06_Put : S_api_Value → Ls2 → S_api_Value → Option (S_api_Value)) (c_cascaderef03_Right : S_api_Value → Option (Bool)) (h_cascaderef06_Put : (C_cascaderef06_Put xpcall xfcall @xmap e_api_Step e_api_Value e_api_Pair c_cascaderef06_Put)) (h_cascaderef03_Right : (C_cascaderef03_Right xpcall xfcall @xmap e_api_Value e_api_Pair c_cascaderef03_Right)) (stk : Stk) (m : Nat)   
include c_cascaderef06_Put c_cascaderef03_Right h_cascaderef06_Put h_cascaderef03_Right stk m  
theorem o_cascaderef06_changed_0  (v0_0 v0_1 : Int) (v0_2 : Str) (v0_3 : Ls0) (v0_4 : Ls1) (v1 : Ls2) (v2_0 v2_1 : Int) (v2_2 : Str) (v2_3 : Ls0) (v2_4 : Ls1)   {out} (hp : b_cascaderef06_changed_0 PP c_cascaderef06_Put c_cascaderef03_Right  v0_0 v0_1 v0_2 v0_3 v0_4 v1 v2_0 v2_1 v2_2 v2_3 v2_4 = some out) : (A_cascaderef06_changed_0 xat @xmap e_api_Step e_api_Value e_api_Pair m  v0_0 v0_1 v0_2 v0_3 v0_4 v1 v2_0 v2_1 v2_2 v2_3 v2_4 stk) = (O_cascaderef06_changed @xmap e_api_Value e_api_Pair m  stk) out := by
 subst hPP
 simp only [b_cascaderef06_changed_0] at hp
 unfold A_cascaderef06_changed_0
 rw [h.at_, hT]
 cbv
 cases c2 : c_cascaderef06_Put ⟨v0_0, v0_1, v0_2, v0_3, v0_4⟩ v1 ⟨v2_0, v2_1, v2_2, v2_3, v2_4⟩ with
 | none => simp only [c2] at hp; cases hp
 | some y6 =>
  obtain ⟨r1_0_0, r1_0_1, r1_0_2, r1_0_3, r1_0_4⟩ := y6
  simp only [c2] at hp
  have qc := fun s => (h_cascaderef06_Put c2 s).1
  simp only [qc]
  cbv
  cases c4 : c_cascaderef03_Right ⟨r1_0_0, r1_0_1, r1_0_2, r1_0_3, r1_0_4⟩ with
  | none => simp only [c4] at hp; cases hp
  | some r3_0 =>
   simp only [c4] at hp
   have qc := fun s => (h_cascaderef03_Right c4 s).1
   simp only [qc]
   cbv
   cases r3_0 with
   | false =>
    simp only at hp
    cbv
    cases hp
    all_goals first | rfl | (cbv; done) | (simp only [h.nadd0, h.nle_refl, h.cut_all, h.cut_nil, h.map_cons, h.map_nil, h.mapE_nil, h.len_nil, he_e_api_Step, he_e_api_Value, he_e_api_Pair, he_e_int, O_cascaderef06_changed, if_true]; first | done | rfl | (cbv; done) | (cbv; simp only [h.map_cons, h.map_nil, h.mapE_nil, h.len_nil, he_e_api_Step, he_e_api_Value, he_e_api_Pair, he_e_int, O_cascaderef06_changed]; done))
   | true =>
    simp only at hp
    cbv
    rw [h.at_, hT]
    cbv
    cases hp
    all_goals first | rfl | (cbv; done)
end
def b_cascaderef06_Puts_0 (P : Prims) (c_cascaderef03_Right : S_api_Value → Option (Bool)) (c_cascaderef06_may : S_api_Value → Ls2 → Option (S_api_Value × Int)) (c_cascaderef06_changed : S_api_Value → Ls2 → S_api_Value → Option (S_api_Value × Int))  (v0_0 v0_1 : Int) (v0_2 : Str) (v0_3 : Ls0) (v0_4 : Ls1) (v1 : Ls2) (v2_0 v2_1 : Int) (v2_2 : Str) (v2_3 : Ls0) (v2_4 : Ls1) : Option (S_api_Value × Int) :=
 match c_cascaderef03_Right ⟨v2_0, v2_1, v2_2, v2_3, v2_4⟩ with
 | none => none
 | some r1_0 =>
  match r1_0 with
  | false =>
   some (⟨0, 0, [], [], []⟩, 1)
  | true =>
   match c_cascaderef06_may ⟨v0_0, v0_1, v0_2, v0_3, v0_4⟩ v1 with
   | none => none
   | some (⟨r4_0_0, r4_0_1, r4_0_2, r4_0_3, r4_0_4⟩, r4_1) =>
    match P.cmp .neq r4_1 0 with
    | false =>
     match c_cascaderef06_changed ⟨v0_0, v0_1, v0_2, v0_3, v0_4⟩ v1 ⟨v2_0, v2_1, v2_2, v2_3, v2_4⟩ with
     | none => none
     | some (⟨r7_0_0, r7_0_1, r7_0_2, r7_0_3, r7_0_4⟩, r7_1) =>
      some (⟨r7_0_0, r7_0_1, r7_0_2, r7_0_3, r7_0_4⟩, r7_1)
    | true =>
     some (⟨0, 0, [], [], []⟩, r4_1)
section
variable (c_cascaderef03_Right : S_api_Value → Option (Bool)) (c_cascaderef06_may : S_api_Value → Ls2 → Option (S_api_Value × Int)) (c_cascaderef06_changed : S_api_Value → Ls2 → S_api_Value → Option (S_api_Value × Int)) (h_cascaderef03_Right : (C_cascaderef03_Right xpcall xfcall @xmap e_api_Value e_api_Pair c_cascaderef03_Right)) (h_cascaderef06_may : (C_cascaderef06_may xpcall xfcall @xmap e_api_Step e_api_Value e_api_Pair c_cascaderef06_may)) (h_cascaderef06_changed : (C_cascaderef06_changed xpcall xfcall @xmap e_api_Step e_api_Value e_api_Pair c_cascaderef06_changed)) (stk : Stk) (m : Nat)   
include c_cascaderef03_Right c_cascaderef06_may c_cascaderef06_changed h_cascaderef03_Right h_cascaderef06_may h_cascaderef06_changed stk m  
theorem o_cascaderef06_Puts_0  (v0_0 v0_1 : Int) (v0_2 : Str) (v0_3 : Ls0) (v0_4 : Ls1) (v1 : Ls2) (v2_0 v2_1 : Int) (v2_2 : Str) (v2_3 : Ls0) (v2_4 : Ls1)   {out} (hp : b_cascaderef06_Puts_0 PP c_cascaderef03_Right c_cascaderef06_may c_cascaderef06_changed  v0_0 v0_1 v0_2 v0_3 v0_4 v1 v2_0 v2_1 v2_2 v2_3 v2_4 = some out) : (A_cascaderef06_Puts_0 xat @xmap e_api_Step e_api_Value e_api_Pair m  v0_0 v0_1 v0_2 v0_3 v0_4 v1 v2_0 v2_1 v2_2 v2_3 v2_4 stk) = (O_cascaderef06_Puts @xmap e_api_Value e_api_Pair m  stk) out := by
 subst hPP
 simp only [b_cascaderef06_Puts_0] at hp
 unfold A_cascaderef06_Puts_0
 rw [h.at_, hT]
 cbv
 cases c2 : c_cascaderef03_Right ⟨v2_0, v2_1, v2_2, v2_3, v2_4⟩ with
 | none => simp only [c2] at hp; cases hp
 | some r1_0 =>
  simp only [c2] at hp
  have qc := fun s => (h_cascaderef03_Right c2 s).1
  simp only [qc]
  cbv
  cases r1_0 with
  | false =>
   simp only at hp
   cbv
   cases hp
   all_goals first | rfl | (cbv; done) | (simp only [h.nadd0, h.nle_refl, h.cut_all, h.cut_nil, h.map_cons, h.map_nil, h.mapE_nil, h.len_nil, he_e_api_Step, he_e_api_Value, he_e_api_Pair, he_e_int, O_cascaderef06_Puts, if_true]; first | done | rfl | (cbv; done) | (cbv; simp only [h.map_cons, h.map_nil, h.mapE_nil, h.len_nil, he_e_api_Step, he_e_api_Value, he_e_api_Pair, he_e_int, O_cascaderef06_Puts]; done))
  | true =>
   simp only at hp
   cbv
   rw [h.at_, hT]
   cbv
   cases c5 : c_cascaderef06_may ⟨v0_0, v0_1, v0_2, v0_3, v0_4⟩ v1 with
   | none => simp only [c5] at hp; cases hp
   | some y10 =>
    obtain ⟨⟨r4_0_0, r4_0_1, r4_0_2, r4_0_3, r4_0_4⟩, r4_1⟩ := y10
    simp only [c5] at hp
    have qc := fun s => (h_cascaderef06_may c5 s).1
    simp only [qc]
    cbv
    cases c6 : xcmp .neq r4_1 0 with
    | false =>
     simp only [c6] at hp ⊢
     cbv
     rw [h.at_, hT]
     cbv
     cases c8 : c_cascaderef06_changed ⟨v0_0, v0_1, v0_2, v0_3, v0_4⟩ v1 ⟨v2_0, v2_1, v2_2, v2_3, v2_4⟩ with
     | none => simp only [c8] at hp; cases hp
     | some y9 =>
      obtain ⟨⟨r7_0_0, r7_0_1, r7_0_2, r7_0_3, r7_0_4⟩, r7_1⟩ := y9
      simp only [c8] at hp
      have qc := fun s => (h_cascaderef06_changed c8 s).1
      simp only [qc]
      cbv
      cases hp
      all_goals first | rfl | (cbv; done)
    | true =>
     simp only [c6] at hp ⊢
     cbv
     cases hp
     all_goals first | rfl | (cbv; done) | (simp only [h.nadd0, h.nle_refl, h.cut_all, h.cut_nil, h.map_cons, h.map_nil, h.mapE_nil, h.len_nil, he_e_api_Step, he_e_api_Value, he_e_api_Pair, he_e_int, O_cascaderef06_Puts, if_true]; first | done | rfl | (cbv; done) | (cbv; simp only [h.map_cons, h.map_nil, h.mapE_nil, h.len_nil, he_e_api_Step, he_e_api_Value, he_e_api_Pair, he_e_int, O_cascaderef06_Puts]; done))
end
def b_cascaderef03_Same_0 (P : Prims) (c_cascaderef03_Same : S_api_Value → S_api_Value → Option (Bool)) (l_2 : T_cascaderef03_Same_2) (v0_0 v0_1 : Int) (v0_2 : Str) (v0_3 : Ls0) (v0_4 : Ls1) (v1_0 v1_1 : Int) (v1_2 : Str) (v1_3 : Ls0) (v1_4 : Ls1) : Option (Bool) :=
 match P.cmp .neq v0_0 v1_0 with
 | false =>
  match P.cmp .neq v0_1 v1_1 with
  | false =>
   match P.seq v0_2 v1_2 with
   | false =>
    some false
   | true =>
    match P.cmp .neq (P.len v0_3) (P.len v1_3) with
    | false =>
     match P.cmp .neq (P.len v0_4) (P.len v1_4) with
     | false =>
      l_2 v0_0 v0_1 v0_2 v0_3 v0_4 v1_0 v1_1 v1_2 v1_3 v1_4 0
     | true =>
      some false
    | true =>
     some false
  | true =>
   some false
 | true =>
  some false
section
variable (c_cascaderef03_Same : S_api_Value → S_api_Value → Option (Bool)) (h_cascaderef03_Same : (C_cascaderef03_Same xpcall xfcall @xmap e_api_Value e_api_Pair c_cascaderef03_Same)) (stk : Stk) (m : Nat)   
include c_cascaderef03_Same h_cascaderef03_Same stk m  
theorem o_cascaderef03_Same_0 (l_2 : T_cascaderef03_Same_2) (v0_0 v0_1 : Int) (v0_2 : Str) (v0_3 : Ls0) (v0_4 : Ls1) (v1_0 v1_1 : Int) (v1_2 : Str) (v1_3 : Ls0) (v1_4 : Ls1)  (h_l_2 : H_cascaderef03_Same_2 xat @xmap e_api_Value e_api_Pair m  l_2) {out} (hp : b_cascaderef03_Same_0 PP c_cascaderef03_Same l_2 v0_0 v0_1 v0_2 v0_3 v0_4 v1_0 v1_1 v1_2 v1_3 v1_4 = some out) : (A_cascaderef03_Same_0 xat @xmap e_api_Value e_api_Pair m  v0_0 v0_1 v0_2 v0_3 v0_4 v1_0 v1_1 v1_2 v1_3 v1_4 stk) = (O_cascaderef03_Same  m  stk) out := by
 subst hPP
 simp only [b_cascaderef03_Same_0] at hp
 unfold A_cascaderef03_Same_0
 rw [h.at_, hT]
 cbv
 cases c1 : xcmp .neq v0_0 v1_0 with
 | false =>
  simp only [c1] at hp ⊢
  cbv
  cases c2 : xcmp .neq v0_1 v1_1 with
  | false =>
   simp only [c2] at hp ⊢
   cbv
   cases c3 : xseq v0_2 v1_2 with
   | false =>
    simp only [c3] at hp ⊢
    cbv
    cases hp
    all_goals first | rfl | (cbv; done)
   | true =>
    simp only [c3] at hp ⊢
    cbv
    try simp only [h.len]
    try simp only [h.len]
    cases c4 : xcmp .neq (plen v0_3) (plen v1_3) with
    | false =>
     simp only [c4] at hp ⊢
     cbv
     try simp only [h.len]
     try simp only [h.len]
     cases c5 : xcmp .neq (plen v0_4) (plen v1_4) with
     | false =>
      simp only [c5] at hp ⊢
      cbv
      rw [h.at_, hT]
      cbv
      first | exact h_l_2 hp stk | (have q := h_l_2 hp stk; simp only [A_cascaderef03_Same_2, h.map_cons, h.map_nil, h.mapE_nil, h.len_nil, he_e_api_Step, he_e_api_Value, he_e_api_Pair, he_e_int] at q; first | exact q | (cbv; exact q))
     | true =>
      simp only [c5] at hp ⊢
      cbv
      cases hp
      all_goals first | rfl | (cbv; done)
    | true =>
     simp only [c4] at hp ⊢
     cbv
     cases hp
     all_goals first | rfl | (cbv; done)
  | true =>
   simp only [c2] at hp ⊢
   cbv
   cases hp
   all_goals first | rfl | (cbv; done)
 | true =>
  simp only [c1] at hp ⊢
  cbv
  cases hp
  all_goals first | rfl | (cbv; done)
def b_cascaderef03_Same_2 (P : Prims) (c_cascaderef03_Same : S_api_Value → S_api_Value → Option (Bool)) (l_6 : T_cascaderef03_Same_6) (v2_0 v2_1 : Int) (v2_2 : Str) (v2_3 : Ls0) (v2_4 : Ls1) (v3_0 v3_1 : Int) (v3_2 : Str) (v3_3 : Ls0) (v3_4 : Ls1) (v5 : Int) : Option ((Int × Int × Str × Ls0 × Ls1 × Int × Int × Str × Ls0 × Ls1 × Int) ⊕ (Bool)) :=
 match P.cmp .lss v5 (P.len v2_3) with
 | false =>
  match l_6 v2_0 v2_1 v2_2 v2_3 v2_4 v3_0 v3_1 v3_2 v3_3 v3_4 0 with | none => none | some o16 => some (.inr o16)
 | true =>
  match P.idx v2_3 v5 with
  | none => none
  | some ⟨a7_0, a7_1, a7_2, a7_3, a7_4⟩ =>
   match P.idx v3_3 v5 with
   | none => none
   | some ⟨a9_0, a9_1, a9_2, a9_3, a9_4⟩ =>
    match c_cascaderef03_Same ⟨a7_0, a7_1, a7_2, a7_3, a7_4⟩ ⟨a9_0, a9_1, a9_2, a9_3, a9_4⟩ with
    | none => none
    | some r11_0 =>
     match r11_0 with
     | false =>
      some (.inr false)
     | true =>
      some (.inl (v2_0, v2_1, v2_2, v2_3, v2_4, v3_0, v3_1, v3_2, v3_3, v3_4, P.ar .add .i64 v5 1))
theorem o_cascaderef03_Same_2 (l_6 : T_cascaderef03_Same_6) (v2_0 v2_1 : Int) (v2_2 : Str) (v2_3 : Ls0) (v2_4 : Ls1) (v3_0 v3_1 : Int) (v3_2 : Str) (v3_3 : Ls0) (v3_4 : Ls1) (v5 : Int)  (h_l_6 : H_cascaderef03_Same_6 xat @xmap e_api_Value e_api_Pair m  l_6) {out} (hp : b_cascaderef03_Same_2 PP c_cascaderef03_Same l_6 v2_0 v2_1 v2_2 v2_3 v2_4 v3_0 v3_1 v3_2 v3_3 v3_4 v5 = some out) : (A_cascaderef03_Same_2 xat @xmap e_api_Value e_api_Pair m  v2_0 v2_1 v2_2 v2_3 v2_4 v3_0 v3_1 v3_2 v3_3 v3_4 v5 stk) = (Sum.elim (fun (v2_0, v2_1, v2_2, v2_3, v2_4, v3_0, v3_1, v3_2, v3_3, v3_4, v5) => (A_cascaderef03_Same_2 xat @xmap e_api_Value e_api_Pair m  v2_0 v2_1 v2_2 v2_3 v2_4 v3_0 v3_1 v3_2 v3_3 v3_4 v5 stk)) (O_cascaderef03_Same  m  stk)) out := by
 subst hPP
 simp only [b_cascaderef03_Same_2] at hp
 unfold A_cascaderef03_Same_2
 rw [h.at_, hT]
 cbv
 try simp only [h.len]
 cases c6 : xcmp .lss v5 (plen v2_3) with
 | false =>
  simp only [c6] at hp ⊢
  cbv
  rw [h.at_, hT]
  cbv
  cases c : l_6 v2_0 v2_1 v2_2 v2_3 v2_4 v3_0 v3_1 v3_2 v3_3 v3_4 0 with
  | none => simp only [c] at hp; cases hp
  | some o16 =>
   simp only [c] at hp
   cases hp
   first | exact h_l_6 c stk | (have q := h_l_6 c stk; simp only [A_cascaderef03_Same_6, h.map_cons, h.map_nil, h.mapE_nil, h.len_nil, he_e_api_Step, he_e_api_Value, he_e_api_Pair, he_e_int] at q; first | exact q | (cbv; exact q))
 | true =>
  simp only [c6] at hp ⊢
  cbv
  rw [h.at_, hT]
  cbv
  cases c8 : pidx v2_3 v5 with
  | none => simp only [c8] at hp; cases hp
  | some y15 =>
   obtain ⟨a7_0, a7_1, a7_2, a7_3, a7_4⟩ := y15
   simp only [c8] at hp
   obtain ⟨q1, q2⟩ := h.idx e_api_Value c8
   simp only [he_e_api_Value] at q2
   simp only [q1, Bool.false_eq_true, if_false]
   cbv
   try simp only [q2]
   cbv
   cases c10 : pidx v3_3 v5 with
   | none => simp only [c10] at hp; cases hp
   | some y14 =>
    obtain ⟨a9_0, a9_1, a9_2, a9_3, a9_4⟩ := y14
    simp only [c10] at hp
    obtain ⟨q1, q2⟩ := h.idx e_api_Value c10
    simp only [he_e_api_Value] at q2
    simp only [q1, Bool.false_eq_true, if_false]
    cbv
    try simp only [q2]
    cbv
    cases c12 : c_cascaderef03_Same ⟨a7_0, a7_1, a7_2, a7_3, a7_4⟩ ⟨a9_0, a9_1, a9_2, a9_3, a9_4⟩ with
    | none => simp only [c12] at hp; cases hp
    | some r11_0 =>
     simp only [c12] at hp
     have qc := fun s => (h_cascaderef03_Same c12 s).1
     simp only [qc]
     cbv
     cases r11_0 with
     | false =>
      simp only at hp
      cbv
      cases hp
      all_goals first | rfl | (cbv; done)
     | true =>
      simp only at hp
      cbv
      rw [h.at_, hT]
      cbv
      cases hp
      all_goals first | rfl | (cbv; done)
def b_cascaderef03_Same_6 (P : Prims) (c_cascaderef03_Same : S_api_Value → S_api_Value → Option (Bool))  (v2_0 v2_1 : Int) (v2_2 : Str) (v2_3 : Ls0) (v2_4 : Ls1) (v3_0 v3_1 : Int) (v3_2 : Str) (v3_3 : Ls0) (v3_4 : Ls1) (v6 : Int) : Option ((Int × Int × Str × Ls0 × Ls1 × Int × Int × Str × Ls0 × Ls1 × Int) ⊕ (Bool)) :=
 match P.cmp .lss v6 (P.len v2_4) with
 | false =>
  some (.inr true)
 | true =>
  match P.idx v2_4 v6 with
  | none => none
  | some ⟨a18_0, ⟨a18_1_0, a18_1_1, a18_1_2, a18_1_3, a18_1_4⟩⟩ =>
   match P.idx v3_4 v6 with
   | none => none
   | some ⟨a20_0, ⟨a20_1_0, a20_1_1, a20_1_2, a20_1_3, a20_1_4⟩⟩ =>
    match P.seq a18_0 a20_0 with
    | false =>
     some (.inr false)
    | true =>
     match c_cascaderef03_Same ⟨a18_1_0, a18_1_1, a18_1_2, a18_1_3, a18_1_4⟩ ⟨a20_1_0, a20_1_1, a20_1_2, a20_1_3, a20_1_4⟩ with
     | none => none
     | some r23_0 =>
      match r23_0 with
      | false =>
       some (.inr false)
      | true =>
       some (.inl (v2_0, v2_1, v2_2, v2_3, v2_4, v3_0, v3_1, v3_2, v3_3, v3_4, P.ar .add .i64 v6 1))
theorem o_cascaderef03_Same_6  (v2_0 v2_1 : Int) (v2_2 : Str) (v2_3 : Ls0) (v2_4 : Ls1) (v3_0 v3_1 : Int) (v3_2 : Str) (v3_3 : Ls0) (v3_4 : Ls1) (v6 : Int)   {out} (hp : b_cascaderef03_Same_6 PP c_cascaderef03_Same  v2_0 v2_1 v2_2 v2_3 v2_4 v3_0 v3_1 v3_2 v3_3 v3_4 v6 = some out) : (A_cascaderef03_Same_6 xat @xmap e_api_Value e_api_Pair m  v2_0 v2_1 v2_2 v2_3 v2_4 v3_0 v3_1 v3_2 v3_3 v3_4 v6 stk) = (Sum.elim (fun (v2_0, v2_1, v2_2, v2_3, v2_4, v3_0, v3_1, v3_2, v3_3, v3_4, v6) => (A_cascaderef03_Same_6 xat @xmap e_api_Value e_api_Pair m  v2_0 v2_1 v2_2 v2_3 v2_4 v3_0 v3_1 v3_2 v3_3 v3_4 v6 stk)) (O_cascaderef03_Same  m  stk)) out := by
 subst hPP
 simp only [b_cascaderef03_Same_6] at hp
 unfold A_cascaderef03_Same_6
 rw [h.at_, hT]
 cbv
 try simp only [h.len]
 cases c17 : xcmp .lss v6 (plen v2_4) with
 | false =>
  simp only [c17] at hp ⊢
  cbv
  rw [h.at_, hT]
  cbv
  cases hp
  all_goals first | rfl | (cbv; done)
 | true =>
  simp only [c17] at hp ⊢
  cbv
  rw [h.at_, hT]
  cbv
  cases c19 : pidx v2_4 v6 with
  | none => simp only [c19] at hp; cases hp
  | some y27 =>
   obtain ⟨a18_0, ⟨a18_1_0, a18_1_1, a18_1_2, a18_1_3, a18_1_4⟩⟩ := y27
   simp only [c19] at hp
   obtain ⟨q1, q2⟩ := h.idx e_api_Pair c19
   simp only [he_e_api_Pair] at q2
   simp only [q1, Bool.false_eq_true, if_false]
   cbv
   try simp only [q2]
   cbv
   cases c21 : pidx v3_4 v6 with
   | none => simp only [c21] at hp; cases hp
   | some y26 =>
    obtain ⟨a20_0, ⟨a20_1_0, a20_1_1, a20_1_2, a20_1_3, a20_1_4⟩⟩ := y26
    simp only [c21] at hp
    obtain ⟨q1, q2⟩ := h.idx e_api_Pair c21
    simp only [he_e_api_Pair] at q2
    simp only [q1, Bool.false_eq_true, if_false]
    cbv
    try simp only [q2]
    cbv
    cases c22 : xseq a18_0 a20_0 with
    | false =>
     simp only [c22] at hp ⊢
     cbv
     cases hp
     all_goals first | rfl | (cbv; done)
    | true =>
     simp only [c22] at hp ⊢
     cbv
     obtain ⟨q1, q2⟩ := h.idx e_api_Pair c19
     simp only [he_e_api_Pair] at q2
     simp only [q1, Bool.false_eq_true, if_false]
     cbv
     try simp only [q2]
     cbv
     obtain ⟨q1, q2⟩ := h.idx e_api_Pair c21
     simp only [he_e_api_Pair] at q2
     simp only [q1, Bool.false_eq_true, if_false]
     cbv
     try simp only [q2]
     cbv
     cases c24 : c_cascaderef03_Same ⟨a18_1_0, a18_1_1, a18_1_2, a18_1_3, a18_1_4⟩ ⟨a20_1_0, a20_1_1, a20_1_2, a20_1_3, a20_1_4⟩ with
     | none => simp only [c24] at hp; cases hp
     | some r23_0 =>
      simp only [c24] at hp
      have qc := fun s => (h_cascaderef03_Same c24 s).1
      simp only [qc]
      cbv
      cases r23_0 with
      | false =>
       simp only at hp
       cbv
       cases hp
       all_goals first | rfl | (cbv; done)
      | true =>
       simp only at hp
       cbv
       rw [h.at_, hT]
       cbv
       cases hp
       all_goals first | rfl | (cbv; done)
end
def b_cascadelaw06_PathPuts_0 (P : Prims) (c_cascadelaw06_awake : Option (Bool)) (c_cascaderef03_Few : S_api_Value → Int → Option (Bool)) (c_cascaderef06_Few : Ls2 → Option (Bool)) (c_path_Put : S_api_Value → Ls2 → S_api_Value → Option (S_api_Value × Int)) (c_cascaderef06_Puts : S_api_Value → Ls2 → S_api_Value → Option (S_api_Value × Int)) (c_cascaderef03_Same : S_api_Value → S_api_Value → Option (Bool))  (v0_0 v0_1 : Int) (v0_2 : Str) (v0_3 : Ls0) (v0_4 : Ls1) (v1 : Ls2) (v2_0 v2_1 : Int) (v2_2 : Str) (v2_3 : Ls0) (v2_4 : Ls1) : Option (Bool) :=
 match c_cascadelaw06_awake with
 | none => none
 | some r1_0 =>
  match r1_0 with
  | false =>
   some r1_0
  | true =>
   match c_cascaderef03_Few ⟨v0_0, v0_1, v0_2, v0_3, v0_4⟩ 60 with
   | none => none
   | some r4_0 =>
    match r4_0 with
    | false =>
     some r1_0
    | true =>
     match c_cascaderef03_Few ⟨v2_0, v2_1, v2_2, v2_3, v2_4⟩ 60 with
     | none => none
     | some r7_0 =>
      match r7_0 with
      | false =>
       some r1_0
      | true =>
       match c_cascaderef06_Few v1 with
       | none => none
       | some r10_0 =>
        match r10_0 with
        | false =>
         some r1_0
        | true =>
         match c_path_Put ⟨v0_0, v0_1, v0_2, v0_3, v0_4⟩ v1 ⟨v2_0, v2_1, v2_2, v2_3, v2_4⟩ with
         | none => none
         | some (⟨r13_0_0, r13_0_1, r13_0_2, r13_0_3, r13_0_4⟩, r13_1) =>
          match c_cascaderef06_Puts ⟨v0_0, v0_1, v0_2, v0_3, v0_4⟩ v1 ⟨v2_0, v2_1, v2_2, v2_3, v2_4⟩ with
          | none => none
          | some (⟨r15_0_0, r15_0_1, r15_0_2, r15_0_3, r15_0_4⟩, r15_1) =>
           match P.cmp .eql r13_1 r15_1 with
           | false =>
            some false
           | true =>
            match c_cascaderef03_Same ⟨r13_0_0, r13_0_1, r13_0_2, r13_0_3, r13_0_4⟩ ⟨r15_0_0, r15_0_1, r15_0_2, r15_0_3, r15_0_4⟩ with
            | none => none
            | some r18_0 =>
             some r18_0
section
variable (c_cascadelaw06_awake : Option (Bool)) (c_cascaderef03_Few : S_api_Value → Int → Option (Bool)) (c_cascaderef06_Few : Ls2 → Option (Bool)) (c_path_Put : S_api_Value → Ls2 → S_api_Value → Option (S_api_Value × Int)) (c_cascaderef06_Puts : S_api_Value → Ls2 → S_api_Value → Option (S_api_Value × Int)) (c_cascaderef03_Same : S_api_Value → S_api_Value → Option (Bool)) (h_cascadelaw06_awake : (C_cascadelaw06_awake xpcall xfcall c_cascadelaw06_awake)) (h_cascaderef03_Few : (C_cascaderef03_Few xpcall xfcall @xmap e_api_Value e_api_Pair c_cascaderef03_Few)) (h_cascaderef06_Few : (C_cascaderef06_Few xpcall xfcall @xmap e_api_Step c_cascaderef06_Few)) (h_path_Put : (C_path_Put xpcall xfcall @xmap e_api_Step e_api_Value e_api_Pair c_path_Put)) (h_cascaderef06_Puts : (C_cascaderef06_Puts xpcall xfcall @xmap e_api_Step e_api_Value e_api_Pair c_cascaderef06_Puts)) (h_cascaderef03_Same : (C_cascaderef03_Same xpcall xfcall @xmap e_api_Value e_api_Pair c_cascaderef03_Same)) (stk : Stk) (m : Nat)   
include c_cascadelaw06_awake c_cascaderef03_Few c_cascaderef06_Few c_path_Put c_cascaderef06_Puts c_cascaderef03_Same h_cascadelaw06_awake h_cascaderef03_Few h_cascaderef06_Few h_path_Put h_cascaderef06_Puts h_cascaderef03_Same stk m  
theorem o_cascadelaw06_PathPuts_0  (v0_0 v0_1 : Int) (v0_2 : Str) (v0_3 : Ls0) (v0_4 : Ls1) (v1 : Ls2) (v2_0 v2_1 : Int) (v2_2 : Str) (v2_3 : Ls0) (v2_4 : Ls1)   {out} (hp : b_cascadelaw06_PathPuts_0 PP c_cascadelaw06_awake c_cascaderef03_Few c_cascaderef06_Few c_path_Put c_cascaderef06_Puts c_cascaderef03_Same  v0_0 v0_1 v0_2 v0_3 v0_4 v1 v2_0 v2_1 v2_2 v2_3 v2_4 = some out) : (A_cascadelaw06_PathPuts_0 xat @xmap e_api_Step e_api_Value e_api_Pair m  v0_0 v0_1 v0_2 v0_3 v0_4 v1 v2_0 v2_1 v2_2 v2_3 v2_4 stk) = (O_cascadelaw06_PathPuts  m  stk) out := by
 subst hPP
 simp only [b_cascadelaw06_PathPuts_0] at hp
 unfold A_cascadelaw06_PathPuts_0
 rw [h.at_, hT]
 cbv
 cases c2 : c_cascadelaw06_awake with
 | none => simp only [c2] at hp; cases hp
 | some r1_0 =>
  simp only [c2] at hp
  have qc := fun s => (h_cascadelaw06_awake c2 s).1
  simp only [qc]
  cbv
  cases r1_0 with
  | false =>
   simp only at hp
   cbv
   have qc := fun s => (h_cascadelaw06_awake c2 s).1
   simp only [qc]
   cbv
   cases hp
   all_goals first | rfl | (cbv; done)
  | true =>
   simp only at hp
   cbv
   cases c5 : c_cascaderef03_Few ⟨v0_0, v0_1, v0_2, v0_3, v0_4⟩ 60 with
   | none => simp only [c5] at hp; cases hp
   | some r4_0 =>
    simp only [c5] at hp
    have qc := fun s => (h_cascaderef03_Few c5 s).1
    simp only [qc]
    cbv
    cases r4_0 with
    | false =>
     simp only at hp
     cbv
     have qc := fun s => (h_cascadelaw06_awake c2 s).1
     simp only [qc]
     cbv
     cases hp
     all_goals first | rfl | (cbv; done)
    | true =>
     simp only at hp
     cbv
     cases c8 : c_cascaderef03_Few ⟨v2_0, v2_1, v2_2, v2_3, v2_4⟩ 60 with
     | none => simp only [c8] at hp; cases hp
     | some r7_0 =>
      simp only [c8] at hp
      have qc := fun s => (h_cascaderef03_Few c8 s).1
      simp only [qc]
      cbv
      cases r7_0 with
      | false =>
       simp only at hp
       cbv
       have qc := fun s => (h_cascadelaw06_awake c2 s).1
       simp only [qc]
       cbv
       cases hp
       all_goals first | rfl | (cbv; done)
      | true =>
       simp only at hp
       cbv
       cases c11 : c_cascaderef06_Few v1 with
       | none => simp only [c11] at hp; cases hp
       | some r10_0 =>
        simp only [c11] at hp
        have qc := fun s => (h_cascaderef06_Few c11 s).1
        simp only [qc]
        cbv
        cases r10_0 with
        | false =>
         simp only at hp
         cbv
         have qc := fun s => (h_cascadelaw06_awake c2 s).1
         simp only [qc]
         cbv
         cases hp
         all_goals first | rfl | (cbv; done)
        | true =>
         simp only at hp
         cbv
         rw [h.at_, hT]
         cbv
         cases c14 : c_path_Put ⟨v0_0, v0_1, v0_2, v0_3, v0_4⟩ v1 ⟨v2_0, v2_1, v2_2, v2_3, v2_4⟩ with
         | none => simp only [c14] at hp; cases hp
         | some y21 =>
          obtain ⟨⟨r13_0_0, r13_0_1, r13_0_2, r13_0_3, r13_0_4⟩, r13_1⟩ := y21
          simp only [c14] at hp
          have qc := fun s => (h_path_Put c14 s).1
          simp only [qc]
          cbv
          cases c16 : c_cascaderef06_Puts ⟨v0_0, v0_1, v0_2, v0_3, v0_4⟩ v1 ⟨v2_0, v2_1, v2_2, v2_3, v2_4⟩ with
          | none => simp only [c16] at hp; cases hp
          | some y20 =>
           obtain ⟨⟨r15_0_0, r15_0_1, r15_0_2, r15_0_3, r15_0_4⟩, r15_1⟩ := y20
           simp only [c16] at hp
           have qc := fun s => (h_cascaderef06_Puts c16 s).1
           simp only [qc]
           cbv
           cases c17 : xcmp .eql r13_1 r15_1 with
           | false =>
            simp only [c17] at hp ⊢
            cbv
            cases hp
            all_goals first | rfl | (cbv; done)
           | true =>
            simp only [c17] at hp ⊢
            cbv
            cases c19 : c_cascaderef03_Same ⟨r13_0_0, r13_0_1, r13_0_2, r13_0_3, r13_0_4⟩ ⟨r15_0_0, r15_0_1, r15_0_2, r15_0_3, r15_0_4⟩ with
            | none => simp only [c19] at hp; cases hp
            | some r18_0 =>
             simp only [c19] at hp
             have qc := fun s => (h_cascaderef03_Same c19 s).1
             simp only [qc]
             cbv
             cases hp
             all_goals first | rfl | (cbv; done)
end
end
end Go.Abs.T
