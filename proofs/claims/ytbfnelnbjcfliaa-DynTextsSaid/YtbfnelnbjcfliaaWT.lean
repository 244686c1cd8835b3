import Derived.Test.YtbfnelnbjcfliaaDfT
set_option linter.unusedSimpArgs false
set_option linter.unusedVariables false
set_option linter.unusedSectionVars false
namespace Go.Abs.T
set_option maxRecDepth 100000
section
variable {PP : Prims} {xR : FuncId → Option RF} {xiter : (St → Rs) → St → Rs} {xG : Nat → Option (List D)} {xcall : CallF} {xpcall : FuncId → List V → Stk → Option V} {xfcall : FuncId → List V → Stk → Option (V × Stk)} {xkcall : FuncId → List (List Nat) → List V → Stk → Option (V × Level × Stk)} {xlen : List D → Nat} {xnth : List D → Nat → Option D} {xcut : List D → Nat → Nat → List D} {xapp : List D → List D → List D} {xset : List D → Nat → D → List D} {xrep : Nat → D → List D} {xallsz : Nat → List D → Bool} {xslen : Str → Nat} {xsnth : Str → Nat → Option UInt8} {xscut : Str → Nat → Nat → Str} {xsapp : Str → Str → Str} {xseq : Str → Str → Bool} {xslt : Str → Str → Bool} {xofStr : Str → List D} {xtoStr : List D → Option Str} {xdec : Str → Nat → Nat × Nat} {xenc : Int → Str} {xar : BinOp → IntKind → Int → Int → Int} {xcmp : BinOp → Int → Int → Bool} {xwrap : IntKind → Int → Int} {xisz : Int → Bool} {xneg : Int → Bool} {xnat : Int → Nat} {xofN : Nat → Int} {xbyte : UInt8 → Int} {xnle : Nat → Nat → Bool} {xnadd : Nat → Nat → Nat} {xnsub : Nat → Nat → Nat} {xfits : Nat → Nat → Bool} {xfind : D → List (D × Nat × V) → Option (Option V)} {xputE : D → Nat → V → List (D × Nat × V) → Option (List (D × Nat × V))} {xfindK : D → List D → List D → Option (Option D)} {xelen : List (D × Nat × V) → Nat} {xfrzM : List (D × Nat × V) → Option (List D × List D)} {xsamev : V → V → Bool} {xat : AtF} {xsetO : Stk → Lab → O → Stk} {xtop : Stk → Nat} {xsame : Stk → Stk → Bool} {xmap : {α : Type} → (α → D) → List α → List D} {xmapE : {α : Type} → (α → D) → List (Str × Nat × α) → List (D × Nat × V)} {pquo : BinOp → IntKind → Int → Int → Option Int} {pshf : BinOp → IntKind → Int → Int → Option Int} {pslen : Str → Int} {psidx : Str → Int → Option Int} {pssub : Str → Option Int → Option Int → Option Str} {pscat : Str → Str → Option Str} {psit : Str → Nat → Option (Int × Int × Nat)} {pslist : Str → Option (List Int)} {pofBytes : List Int → Str} {plen : {α : Type} → List α → Int} {pidx : {α : Type} → List α → Int → Option α} {psub : {α : Type} → List α → Option Int → Option Int → Option (List α)} {papp : {α : Type} → Nat → List α → List α → Option (List α)} {pset : {α : Type} → List α → Int → α → Option (List α)} {pmake : {α : Type} → Nat → α → Int → Option (List α)} {pmfind : {α : Type} → Str → List (Str × Nat × α) → Option α} {pmput : {α : Type} → Str → Nat → α → List (Str × Nat × α) → List (Str × Nat × α)} {ploop : {σ ρ : Type} → (σ → Option (σ ⊕ ρ)) → σ → Option ρ} {xT : FuncId → Option KF}
  (h : KLaws xR xiter xG xcall xpcall xfcall xkcall xlen xnth xcut xapp xset xrep xallsz xslen xsnth xscut xsapp xseq xslt xofStr xtoStr xdec xenc xar xcmp xwrap xisz xneg xnat xofN xbyte xnle xnadd xnsub xfits xfind xputE xfindK xelen xfrzM xsamev xat xsetO xtop xsame @xmap @xmapE pquo pshf pslen psidx pssub pscat psit pslist pofBytes @plen @pidx @psub @papp @pset @pmake @pmfind @pmput @ploop xT) (hT : xT = table) (hPP : PP = ⟨xar, xcmp, xwrap, xseq, xslt, xenc, pquo, pshf, pslen, psidx, pssub, pscat, psit, pslist, pofBytes, @plen, @pidx, @psub, @papp, @pset, @pmake, @pmfind, @pmput, @ploop⟩)
variable {e_any : S_any → D} {e_dyn_Member : S_dyn_Member → D} {e_api_Value : S_api_Value → D} {e_api_Pair : S_api_Pair → D} {e_string : Str → D} (hA : ((e_any .n = .nili) ∧ (∀ (x : Int), e_any (.c2 x) = (.iface 2 (.int .i64 x))) ∧ (∀ (x : Int), e_any (.c3 x) = (.iface 3 (.int .i64 x))) ∧ (∀ (x : Bool), e_any (.c4 x) = (.iface 4 (.bool x))) ∧ (∀ (x : Str), e_any (.c9 x) = (.iface 9 (.str x))) ∧ (e_any .c15 = (.iface 15 .any)) ∧ (∀ (x : Ls2), e_any (.c42 x) = (.iface 42 (.sl (xmap e_any x)))) ∧ (∀ (x : Ls3), e_any (.c44 x) = (.iface 44 (.sl (xmap e_dyn_Member x)))) ∧ (e_any .c49 = (.iface 49 .any)) ∧ (e_any .c52 = (.iface 52 (.agg [])))) ∧ (∀ (x_0 : Str) (x_1 : S_any), e_dyn_Member ⟨x_0, x_1⟩ = (.agg [(.str x_0), (e_any x_1)])) ∧ (∀ (x_0 x_1 : Int) (x_2 : Str) (x_3 : Ls0) (x_4 : Ls1), e_api_Value ⟨x_0, x_1, x_2, x_3, x_4⟩ = (.agg [(.int .i64 x_0), (.int .i64 x_1), (.str x_2), (.sl (xmap e_api_Value x_3)), (.sl (xmap e_api_Pair x_4))])) ∧ (∀ (x_0 : Str) (x_1_0 x_1_1 : Int) (x_1_2 : Str) (x_1_3 : Ls0) (x_1_4 : Ls1), e_api_Pair ⟨x_0, ⟨x_1_0, x_1_1, x_1_2, x_1_3, x_1_4⟩⟩ = (.agg [(.str x_0), (.int .i64 x_1_0), (.int .i64 x_1_1), (.str x_1_2), (.sl (xmap e_api_Value x_1_3)), (.sl (xmap e_api_Pair x_1_4))])) ∧ (∀ (x : Str), e_string x = (.str x))) (hZ : (∀ l, xallsz 1 (xmap e_any l) = true) ∧ (∀ l, xallsz 2 (xmap e_dyn_Member l) = true) ∧ (∀ l, xallsz 5 (xmap e_api_Value l) = true) ∧ (∀ l, xallsz 6 (xmap e_api_Pair l) = true) ∧ (∀ l, xallsz 1 (xmap e_string l) = true)) (hF : ∀ v, (e_any v).flat = true ∧ (e_any v).cells = [e_any v])
include h hT hPP hA hZ hF
def b_dyn_Kind_0 (P : Prims)   (l_1 : T_dyn_Kind_1 → Option R_dyn_Kind) : T_dyn_Kind_0 → Option R_dyn_Kind
 | v0 =>
 match v0 with
 | .n =>
  some 0
 | .c2 y1 =>
  some 2
 | .c3 y2 =>
  some 2
 | .c4 y3 =>
  some 1
 | .c9 y4 =>
  some 3
 | .c15 =>
  l_1 ()
 | .c42 y5 =>
  some 4
 | .c44 y6 =>
  some 5
 | .c49 =>
  l_1 ()
 | .c52 =>
  l_1 ()
section
variable   (m : Nat)    
include   m   
theorem o_dyn_Kind_0 {l_1 : T_dyn_Kind_1 → Option R_dyn_Kind} (h_l_1 : H_dyn_Kind_1 xat m   l_1) : H_dyn_Kind_0 xat e_any m   (b_dyn_Kind_0 PP   l_1) := by
 rintro v0 out hp stk
 subst hPP
 simp only [b_dyn_Kind_0] at hp
 simp only [A_dyn_Kind_0]
 rw [h.at_, hT]
 cbv
 cases v0 with
 | n =>
  simp only at hp
  try simp only [hA.1]
  cbv
  cases hp
  all_goals first | rfl | (cbv; done)
 | c2 y1 =>
  simp only at hp
  try simp only [hA.1]
  cbv
  cases hp
  all_goals first | rfl | (cbv; done)
 | c3 y2 =>
  simp only at hp
  try simp only [hA.1]
  cbv
  cases hp
  all_goals first | rfl | (cbv; done)
 | c4 y3 =>
  simp only at hp
  try simp only [hA.1]
  cbv
  cases hp
  all_goals first | rfl | (cbv; done)
 | c9 y4 =>
  simp only at hp
  try simp only [hA.1]
  cbv
  cases hp
  all_goals first | rfl | (cbv; done)
 | c15 =>
  simp only at hp
  try simp only [hA.1]
  cbv
  first | exact h_l_1 hp stk | (have q := h_l_1 hp stk; simp only [A_dyn_Kind_1, h.lits, hA] at q; first | exact q | (cbv; exact q))
 | c42 y5 =>
  simp only at hp
  try simp only [hA.1]
  cbv
  cases hp
  all_goals first | rfl | (cbv; done)
 | c44 y6 =>
  simp only at hp
  try simp only [hA.1]
  cbv
  cases hp
  all_goals first | rfl | (cbv; done)
 | c49 =>
  simp only at hp
  try simp only [hA.1]
  cbv
  first | exact h_l_1 hp stk | (have q := h_l_1 hp stk; simp only [A_dyn_Kind_1, h.lits, hA] at q; first | exact q | (cbv; exact q))
 | c52 =>
  simp only at hp
  try simp only [hA.1]
  cbv
  first | exact h_l_1 hp stk | (have q := h_l_1 hp stk; simp only [A_dyn_Kind_1, h.lits, hA] at q; first | exact q | (cbv; exact q))
def b_dyn_Kind_1 (P : Prims)    : T_dyn_Kind_1 → Option R_dyn_Kind
 | () =>
 some (-1)
theorem o_dyn_Kind_1   : H_dyn_Kind_1 xat m   (b_dyn_Kind_1 PP   ) := by
 rintro ⟨⟩ out hp stk
 subst hPP
 simp only [b_dyn_Kind_1] at hp
 simp only [A_dyn_Kind_1]
 rw [h.at_, hT]
 cbv
 cases hp
 all_goals first | rfl | (cbv; done)
end
def b_cascadelaw04_awake_0 (P : Prims) (c_dyn_Kind : Y_dyn_Kind)   : T_cascadelaw04_awake_0 → Option R_cascadelaw04_awake
 | () =>
 match c_dyn_Kind (.c9 [97]) with
 | none => none
 | some r1_0 =>
  match P.cmp .eql r1_0 3 with
  | false =>
   some false
  | true =>
   match c_dyn_Kind (.c4 true) with
   | none => none
   | some r4_0 =>
    some (P.cmp .eql r4_0 1)
section
variable (c_dyn_Kind : Y_dyn_Kind) (h_dyn_Kind : (C_dyn_Kind xpcall xfcall e_any c_dyn_Kind)) (m : Nat)    
include c_dyn_Kind h_dyn_Kind m   
theorem o_cascadelaw04_awake_0   : H_cascadelaw04_awake_0 xat m   (b_cascadelaw04_awake_0 PP c_dyn_Kind  ) := by
 rintro ⟨⟩ out hp stk
 subst hPP
 simp only [b_cascadelaw04_awake_0] at hp
 simp only [A_cascadelaw04_awake_0]
 rw [h.at_, hT]
 cbv
 cases c2 : c_dyn_Kind (.c9 [97]) with
 | none => simp only [c2] at hp; cases hp
 | some r1_0 =>
  simp only [c2] at hp
  have qc := fun s => (h_dyn_Kind c2 s).1
  try simp only [h.map_cons, h.map_nil, hA.1] at qc
  simp only [qc]
  cbv
  cases c3 : xcmp .eql r1_0 3 with
  | false =>
   simp only [c3] at hp ⊢
   cbv
   cases hp
   all_goals first | rfl | (cbv; done)
  | true =>
   simp only [c3] at hp ⊢
   cbv
   cases c5 : c_dyn_Kind (.c4 true) with
   | none => simp only [c5] at hp; cases hp
   | some r4_0 =>
    simp only [c5] at hp
    have qc := fun s => (h_dyn_Kind c5 s).1
    try simp only [h.map_cons, h.map_nil, hA.1] at qc
    simp only [qc]
    cbv
    cases hp
    all_goals first | rfl | (cbv; done)
end
def b_cascaderef03_few_0 (P : Prims) (c_cascaderef03_few : Y_cascaderef03_few)  (l_2 : T_cascaderef03_few_2 → Option R_cascaderef03_few) : T_cascaderef03_few_0 → Option R_cascaderef03_few
 | (v0_0, v0_1, v0_2, v0_3, v0_4, v1) =>
 match P.cmp .lss v1 1 with
 | false =>
  match P.cmp .gtr (P.slen v0_2) 500 with
  | false =>
   l_2 (P.ar .sub .i64 v1 1, v0_0, v0_1, v0_2, v0_3, v0_4, 0)
  | true =>
   some (-1)
 | true =>
  some (-1)
section
variable (c_cascaderef03_few : Y_cascaderef03_few) (h_cascaderef03_few : (C_cascaderef03_few xpcall xfcall @xmap e_api_Value e_api_Pair c_cascaderef03_few)) (m : Nat)    
include c_cascaderef03_few h_cascaderef03_few m   
theorem o_cascaderef03_few_0 {l_2 : T_cascaderef03_few_2 → Option R_cascaderef03_few} (h_l_2 : H_cascaderef03_few_2 xat @xmap e_api_Value e_api_Pair m   l_2) : H_cascaderef03_few_0 xat @xmap e_api_Value e_api_Pair m   (b_cascaderef03_few_0 PP c_cascaderef03_few  l_2) := by
 rintro ⟨v0_0, v0_1, v0_2, v0_3, v0_4, v1⟩ out hp stk
 subst hPP
 simp only [b_cascaderef03_few_0] at hp
 simp only [A_cascaderef03_few_0]
 rw [h.at_, hT]
 cbv
 cases c1 : xcmp .lss v1 1 with
 | false =>
  simp only [c1] at hp ⊢
  cbv
  try simp only [h.slen]
  cases c2 : xcmp .gtr (pslen v0_2) 500 with
  | false =>
   simp only [c2] at hp ⊢
   cbv
   rw [h.at_, hT]
   cbv
   first | exact h_l_2 hp stk | (have q := h_l_2 hp stk; simp only [A_cascaderef03_few_2, h.lits, hA] at q; first | exact q | (cbv; exact q))
  | true =>
   simp only [c2] at hp ⊢
   cbv
   cases hp
   all_goals first | rfl | (cbv; done)
 | true =>
  simp only [c1] at hp ⊢
  cbv
  cases hp
  all_goals first | rfl | (cbv; done)
def b_cascaderef03_few_2 (P : Prims) (c_cascaderef03_few : Y_cascaderef03_few)  (l_5 : T_cascaderef03_few_5 → Option R_cascaderef03_few) : T_cascaderef03_few_2 → Option (T_cascaderef03_few_2 ⊕ R_cascaderef03_few)
 | (v1, v2_0, v2_1, v2_2, v2_3, v2_4, v5) =>
 match P.cmp .lss v5 (P.len v2_3) with
 | false =>
  match l_5 (v1, v2_0, v2_1, v2_2, v2_3, v2_4) with | none => none | some o11 => some (.inr o11)
 | true =>
  match P.cmp .geq v1 0 with
  | false =>
   match l_5 (v1, v2_0, v2_1, v2_2, v2_3, v2_4) with | none => none | some o10 => some (.inr o10)
  | true =>
   match P.idx v2_3 v5 with
   | none => none
   | some ⟨a5_0, a5_1, a5_2, a5_3, a5_4⟩ =>
    match c_cascaderef03_few ⟨a5_0, a5_1, a5_2, a5_3, a5_4⟩ v1 with
    | none => none
    | some r7_0 =>
     some (.inl (r7_0, v2_0, v2_1, v2_2, v2_3, v2_4, P.ar .add .i64 v5 1))
theorem o_cascaderef03_few_2 {l_5 : T_cascaderef03_few_5 → Option R_cascaderef03_few} (h_l_5 : H_cascaderef03_few_5 xat @xmap e_api_Value e_api_Pair m   l_5) : Hd (b_cascaderef03_few_2 PP c_cascaderef03_few  l_5) (A_cascaderef03_few_2 xat @xmap e_api_Value e_api_Pair m  ) (el (A_cascaderef03_few_2 xat @xmap e_api_Value e_api_Pair m  ) (O_cascaderef03_few  m  )) := by
 rintro ⟨v1, v2_0, v2_1, v2_2, v2_3, v2_4, v5⟩ out hp stk
 subst hPP
 simp only [b_cascaderef03_few_2] at hp
 simp only [A_cascaderef03_few_2]
 rw [h.at_, hT]
 cbv
 try simp only [h.len]
 cases c3 : xcmp .lss v5 (plen v2_3) with
 | false =>
  simp only [c3] at hp ⊢
  cbv
  cases c : l_5 (v1, v2_0, v2_1, v2_2, v2_3, v2_4) with
  | none => simp only [c] at hp; cases hp
  | some o11 =>
   simp only [c] at hp
   cases hp
   first | exact h_l_5 c stk | (have q := h_l_5 c stk; simp only [A_cascaderef03_few_5, h.lits, hA] at q; first | exact q | (cbv; exact q))
 | true =>
  simp only [c3] at hp ⊢
  cbv
  cases c4 : xcmp .geq v1 0 with
  | false =>
   simp only [c4] at hp ⊢
   cbv
   cases c : l_5 (v1, v2_0, v2_1, v2_2, v2_3, v2_4) with
   | none => simp only [c] at hp; cases hp
   | some o10 =>
    simp only [c] at hp
    cases hp
    first | exact h_l_5 c stk | (have q := h_l_5 c stk; simp only [A_cascaderef03_few_5, h.lits, hA] at q; first | exact q | (cbv; exact q))
  | true =>
   simp only [c4] at hp ⊢
   cbv
   rw [h.at_, hT]
   cbv
   cases c6 : pidx v2_3 v5 with
   | none => simp only [c6] at hp; cases hp
   | some y9 =>
    obtain ⟨a5_0, a5_1, a5_2, a5_3, a5_4⟩ := y9
    simp only [c6] at hp
    obtain ⟨q1, q2⟩ := h.idx e_api_Value c6
    try simp only [hA.2.2.1] at q2
    simp only [q1, Bool.false_eq_true, if_false]
    cbv
    try simp only [q2]
    cbv
    cases c8 : c_cascaderef03_few ⟨a5_0, a5_1, a5_2, a5_3, a5_4⟩ v1 with
    | none => simp only [c8] at hp; cases hp
    | some r7_0 =>
     simp only [c8] at hp
     have qc := fun s => (h_cascaderef03_few c8 s).1
     simp only [qc]
     cbv
     rw [h.at_, hT]
     cbv
     cases hp
     all_goals first | rfl | (cbv; done)
def b_cascaderef03_few_5 (P : Prims) (c_cascaderef03_few : Y_cascaderef03_few)  (l_6 : T_cascaderef03_few_6 → Option R_cascaderef03_few) : T_cascaderef03_few_5 → Option R_cascaderef03_few
 | (v1, v2_0, v2_1, v2_2, v2_3, v2_4) =>
 l_6 (v1, v2_0, v2_1, v2_2, v2_3, v2_4, 0)
theorem o_cascaderef03_few_5 {l_6 : T_cascaderef03_few_6 → Option R_cascaderef03_few} (h_l_6 : H_cascaderef03_few_6 xat @xmap e_api_Value e_api_Pair m   l_6) : H_cascaderef03_few_5 xat @xmap e_api_Value e_api_Pair m   (b_cascaderef03_few_5 PP c_cascaderef03_few  l_6) := by
 rintro ⟨v1, v2_0, v2_1, v2_2, v2_3, v2_4⟩ out hp stk
 subst hPP
 simp only [b_cascaderef03_few_5] at hp
 simp only [A_cascaderef03_few_5]
 rw [h.at_, hT]
 cbv
 first | exact h_l_6 hp stk | (have q := h_l_6 hp stk; simp only [A_cascaderef03_few_6, h.lits, hA] at q; first | exact q | (cbv; exact q))
def b_cascaderef03_few_6 (P : Prims) (c_cascaderef03_few : Y_cascaderef03_few)  (l_10 : T_cascaderef03_few_10 → Option R_cascaderef03_few) : T_cascaderef03_few_6 → Option (T_cascaderef03_few_6 ⊕ R_cascaderef03_few)
 | (v1, v2_0, v2_1, v2_2, v2_3, v2_4, v6) =>
 match P.cmp .lss v6 (P.len v2_4) with
 | false =>
  match l_10 v1 with | none => none | some o21 => some (.inr o21)
 | true =>
  match P.cmp .geq v1 0 with
  | false =>
   match l_10 v1 with | none => none | some o20 => some (.inr o20)
  | true =>
   match P.idx v2_4 v6 with
   | none => none
   | some ⟨a14_0, ⟨a14_1_0, a14_1_1, a14_1_2, a14_1_3, a14_1_4⟩⟩ =>
    match P.cmp .gtr (P.slen a14_0) 500 with
    | false =>
     match c_cascaderef03_few ⟨a14_1_0, a14_1_1, a14_1_2, a14_1_3, a14_1_4⟩ v1 with
     | none => none
     | some r17_0 =>
      some (.inl (r17_0, v2_0, v2_1, v2_2, v2_3, v2_4, P.ar .add .i64 v6 1))
    | true =>
     some (.inr (-1))
theorem o_cascaderef03_few_6 {l_10 : T_cascaderef03_few_10 → Option R_cascaderef03_few} (h_l_10 : H_cascaderef03_few_10 xat m   l_10) : Hd (b_cascaderef03_few_6 PP c_cascaderef03_few  l_10) (A_cascaderef03_few_6 xat @xmap e_api_Value e_api_Pair m  ) (el (A_cascaderef03_few_6 xat @xmap e_api_Value e_api_Pair m  ) (O_cascaderef03_few  m  )) := by
 rintro ⟨v1, v2_0, v2_1, v2_2, v2_3, v2_4, v6⟩ out hp stk
 subst hPP
 simp only [b_cascaderef03_few_6] at hp
 simp only [A_cascaderef03_few_6]
 rw [h.at_, hT]
 cbv
 try simp only [h.len]
 cases c12 : xcmp .lss v6 (plen v2_4) with
 | false =>
  simp only [c12] at hp ⊢
  cbv
  cases c : l_10 v1 with
  | none => simp only [c] at hp; cases hp
  | some o21 =>
   simp only [c] at hp
   cases hp
   first | exact h_l_10 c stk | (have q := h_l_10 c stk; simp only [A_cascaderef03_few_10, h.lits, hA] at q; first | exact q | (cbv; exact q))
 | true =>
  simp only [c12] at hp ⊢
  cbv
  cases c13 : xcmp .geq v1 0 with
  | false =>
   simp only [c13] at hp ⊢
   cbv
   cases c : l_10 v1 with
   | none => simp only [c] at hp; cases hp
   | some o20 =>
    simp only [c] at hp
    cases hp
    first | exact h_l_10 c stk | (have q := h_l_10 c stk; simp only [A_cascaderef03_few_10, h.lits, hA] at q; first | exact q | (cbv; exact q))
  | true =>
   simp only [c13] at hp ⊢
   cbv
   rw [h.at_, hT]
   cbv
   cases c15 : pidx v2_4 v6 with
   | none => simp only [c15] at hp; cases hp
   | some y19 =>
    obtain ⟨a14_0, ⟨a14_1_0, a14_1_1, a14_1_2, a14_1_3, a14_1_4⟩⟩ := y19
    simp only [c15] at hp
    obtain ⟨q1, q2⟩ := h.idx e_api_Pair c15
    try simp only [hA.2.2.2.1] at q2
    simp only [q1, Bool.false_eq_true, if_false]
    cbv
    try simp only [q2]
    cbv
    try simp only [h.slen]
    cases c16 : xcmp .gtr (pslen a14_0) 500 with
    | false =>
     simp only [c16] at hp ⊢
     cbv
     rw [h.at_, hT]
     cbv
     obtain ⟨q1, q2⟩ := h.idx e_api_Pair c15
     try simp only [hA.2.2.2.1] at q2
     simp only [q1, Bool.false_eq_true, if_false]
     cbv
     try simp only [q2]
     cbv
     cases c18 : c_cascaderef03_few ⟨a14_1_0, a14_1_1, a14_1_2, a14_1_3, a14_1_4⟩ v1 with
     | none => simp only [c18] at hp; cases hp
     | some r17_0 =>
      simp only [c18] at hp
      have qc := fun s => (h_cascaderef03_few c18 s).1
      simp only [qc]
      cbv
      rw [h.at_, hT]
      cbv
      cases hp
      all_goals first | rfl | (cbv; done)
    | true =>
     simp only [c16] at hp ⊢
     cbv
     cases hp
     all_goals first | rfl | (cbv; done)
def b_cascaderef03_few_10 (P : Prims) (c_cascaderef03_few : Y_cascaderef03_few)   : T_cascaderef03_few_10 → Option R_cascaderef03_few
 | v1 =>
 some v1
theorem o_cascaderef03_few_10   : H_cascaderef03_few_10 xat m   (b_cascaderef03_few_10 PP c_cascaderef03_few  ) := by
 rintro v1 out hp stk
 subst hPP
 simp only [b_cascaderef03_few_10] at hp
 simp only [A_cascaderef03_few_10]
 rw [h.at_, hT]
 cbv
 cases hp
 all_goals first | rfl | (cbv; done)
end
def b_cascaderef03_Few_0 (P : Prims) (c_cascaderef03_few : Y_cascaderef03_few)   : T_cascaderef03_Few_0 → Option R_cascaderef03_Few
 | (v0_0, v0_1, v0_2, v0_3, v0_4, v1) =>
 match c_cascaderef03_few ⟨v0_0, v0_1, v0_2, v0_3, v0_4⟩ v1 with
 | none => none
 | some r1_0 =>
  some (P.cmp .geq r1_0 0)
section
variable (c_cascaderef03_few : Y_cascaderef03_few) (h_cascaderef03_few : (C_cascaderef03_few xpcall xfcall @xmap e_api_Value e_api_Pair c_cascaderef03_few)) (m : Nat)    
include c_cascaderef03_few h_cascaderef03_few m   
theorem o_cascaderef03_Few_0   : H_cascaderef03_Few_0 xat @xmap e_api_Value e_api_Pair m   (b_cascaderef03_Few_0 PP c_cascaderef03_few  ) := by
 rintro ⟨v0_0, v0_1, v0_2, v0_3, v0_4, v1⟩ out hp stk
 subst hPP
 simp only [b_cascaderef03_Few_0] at hp
 simp only [A_cascaderef03_Few_0]
 rw [h.at_, hT]
 cbv
 cases c2 : c_cascaderef03_few ⟨v0_0, v0_1, v0_2, v0_3, v0_4⟩ v1 with
 | none => simp only [c2] at hp; cases hp
 | some r1_0 =>
  simp only [c2] at hp
  have qc := fun s => (h_cascaderef03_few c2 s).1
  simp only [qc]
  cbv
  cases hp
  all_goals first | rfl | (cbv; done)
end
def b_dyn_to_0 (P : Prims) (c_dyn_to : Y_dyn_to)  (l_1 : T_dyn_to_1 → Option R_dyn_to) (l_5 : T_dyn_to_5 → Option R_dyn_to) : T_dyn_to_0 → Option R_dyn_to
 | (v0_0, v0_1, v0_2, v0_3, v0_4) =>
 match P.cmp .eql v0_0 1 with
 | false =>
  match P.cmp .eql v0_0 2 with
  | false =>
   match P.cmp .eql v0_0 3 with
   | false =>
    match P.cmp .eql v0_0 4 with
    | false =>
     match P.cmp .eql v0_0 5 with
     | false =>
      some .n
     | true =>
      l_5 (0, [], v0_4, P.len v0_4, 0)
    | true =>
     l_1 (0, [], v0_3, P.len v0_3, 0)
   | true =>
    some (.c9 v0_2)
  | true =>
   some (.c2 v0_1)
 | true =>
  some (.c4 (P.cmp .eql v0_1 1))
section
variable (c_dyn_to : Y_dyn_to) (h_dyn_to : (C_dyn_to xpcall xfcall @xmap e_any e_api_Value e_api_Pair c_dyn_to)) (m : Nat)    
include c_dyn_to h_dyn_to m   
theorem o_dyn_to_0 {l_1 : T_dyn_to_1 → Option R_dyn_to} {l_5 : T_dyn_to_5 → Option R_dyn_to} (h_l_1 : H_dyn_to_1 xat @xmap xlen e_any e_api_Value m   l_1) (h_l_5 : H_dyn_to_5 xat @xmap xlen e_any e_dyn_Member e_api_Pair m   l_5) : H_dyn_to_0 xat @xmap e_any e_api_Value e_api_Pair m   (b_dyn_to_0 PP c_dyn_to  l_1 l_5) := by
 rintro ⟨v0_0, v0_1, v0_2, v0_3, v0_4⟩ out hp stk
 subst hPP
 simp only [b_dyn_to_0] at hp
 simp only [A_dyn_to_0]
 rw [h.at_, hT]
 cbv
 cases c1 : xcmp .eql v0_0 1 with
 | false =>
  simp only [c1] at hp ⊢
  cbv
  cases c2 : xcmp .eql v0_0 2 with
  | false =>
   simp only [c2] at hp ⊢
   cbv
   cases c3 : xcmp .eql v0_0 3 with
   | false =>
    simp only [c3] at hp ⊢
    cbv
    cases c4 : xcmp .eql v0_0 4 with
    | false =>
     simp only [c4] at hp ⊢
     cbv
     cases c5 : xcmp .eql v0_0 5 with
     | false =>
      simp only [c5] at hp ⊢
      cbv
      rw [h.at_, hT]
      cbv
      cases hp
      all_goals first | rfl | (cbv; done) | (simp only [h.lits, hA, el, O_dyn_to, if_true]; first | done | rfl | (cbv; done) | (cbv; simp only [h.lits, hA, el, O_dyn_to]; done))
     | true =>
      simp only [c5] at hp ⊢
      cbv
      try simp only [h.allsz_nil, h.allsz_cons, if_true, h.len_nil]
      cbv
      try simp only [h.allsz_nil, if_true]
      try cbv
      try simp only [h.len]
      first | exact h_l_5 hp stk | (have q := h_l_5 hp stk; simp only [A_dyn_to_5, h.lits, hA] at q; first | exact q | (cbv; exact q))
    | true =>
     simp only [c4] at hp ⊢
     cbv
     try simp only [h.allsz_nil, h.allsz_cons, if_true, h.len_nil]
     cbv
     try simp only [h.allsz_nil, if_true]
     try cbv
     try simp only [h.len]
     first | exact h_l_1 hp stk | (have q := h_l_1 hp stk; simp only [A_dyn_to_1, h.lits, hA] at q; first | exact q | (cbv; exact q))
   | true =>
    simp only [c3] at hp ⊢
    cbv
    cases hp
    all_goals first | rfl | (cbv; done) | (simp only [h.lits, hA, el, O_dyn_to, if_true]; first | done | rfl | (cbv; done) | (cbv; simp only [h.lits, hA, el, O_dyn_to]; done))
  | true =>
   simp only [c2] at hp ⊢
   cbv
   cases hp
   all_goals first | rfl | (cbv; done) | (simp only [h.lits, hA, el, O_dyn_to, if_true]; first | done | rfl | (cbv; done) | (cbv; simp only [h.lits, hA, el, O_dyn_to]; done))
 | true =>
  simp only [c1] at hp ⊢
  cbv
  cases hp
  all_goals first | rfl | (cbv; done) | (simp only [h.lits, hA, el, O_dyn_to, if_true]; first | done | rfl | (cbv; done) | (cbv; simp only [h.lits, hA, el, O_dyn_to]; done))
def b_dyn_to_1 (P : Prims) (c_dyn_to : Y_dyn_to)   : T_dyn_to_1 → Option (T_dyn_to_1 ⊕ R_dyn_to)
 | (o29_g, o29, v31, v32, v33) =>
 match P.cmp .lss v33 v32 with
 | false =>
  some (.inr (.c42 o29))
 | true =>
  match P.idx v31 v33 with
  | none => none
  | some ⟨a7_0, a7_1, a7_2, a7_3, a7_4⟩ =>
   match c_dyn_to ⟨a7_0, a7_1, a7_2, a7_3, a7_4⟩ with
   | none => none
   | some r9_0 =>
    match P.app 16 o29 [r9_0] with
    | none => none
    | some l11 =>
     some (.inl (o29_g + 1, l11, v31, v32, P.ar .add .i64 v33 1))
theorem o_dyn_to_1   : Hd (b_dyn_to_1 PP c_dyn_to  ) (A_dyn_to_1 xat @xmap xlen e_any e_api_Value m  ) (el (A_dyn_to_1 xat @xmap xlen e_any e_api_Value m  ) (O_dyn_to e_any m  )) := by
 rintro ⟨o29_g, o29, v31, v32, v33⟩ out hp stk
 subst hPP
 simp only [b_dyn_to_1] at hp
 simp only [A_dyn_to_1]
 rw [h.at_, hT]
 cbv
 cases c6 : xcmp .lss v33 v32 with
 | false =>
  simp only [c6] at hp ⊢
  cbv
  rw [h.at_, hT]
  cbv
  cases hp
  all_goals first | rfl | (cbv; done) | (simp only [h.lits, hA, el, O_dyn_to, A_dyn_to_1, if_true]; first | done | rfl | (cbv; done) | (cbv; simp only [h.lits, hA, el, O_dyn_to, A_dyn_to_1]; done))
 | true =>
  simp only [c6] at hp ⊢
  cbv
  rw [h.at_, hT]
  cbv
  cases c8 : pidx v31 v33 with
  | none => simp only [c8] at hp; cases hp
  | some y13 =>
   obtain ⟨a7_0, a7_1, a7_2, a7_3, a7_4⟩ := y13
   simp only [c8] at hp
   obtain ⟨q1, q2⟩ := h.idx e_api_Value c8
   try simp only [hA.2.2.1] at q2
   simp only [q1, Bool.false_eq_true, if_false]
   cbv
   try simp only [q2]
   cbv
   cases c10 : c_dyn_to ⟨a7_0, a7_1, a7_2, a7_3, a7_4⟩ with
   | none => simp only [c10] at hp; cases hp
   | some r9_0 =>
    simp only [c10] at hp
    have qc := fun s => (h_dyn_to c10 s).1
    simp only [qc]
    cbv
    have qz := hZ.1 [r9_0]
    simp only [h.map_cons, h.map_nil] at qz
    try simp only [hA.1] at qz
    simp only [qz, if_true]
    cbv
    have qz := hZ.1 [r9_0]
    simp only [h.map_cons, h.map_nil] at qz
    try simp only [hA.1] at qz
    simp only [qz, if_true]
    cbv
    cases c12 : papp 16 o29 [r9_0] with
    | none => simp only [c12] at hp; cases hp
    | some l11 =>
     simp only [c12] at hp
     obtain ⟨q1, q2, q3⟩ := h.app e_any c12 rfl
     simp only [h.map_cons, h.map_nil, h.len_nil, hA.1] at q1 q2 q3
     try simp only [h.len_nil]
     cbv
     simp only [q1, q2, q3, if_true]
     cbv
     rw [h.at_, hT]
     cbv
     cases hp
     all_goals first | rfl | (cbv; done) | (simp only [h.lits, hA, el, O_dyn_to, A_dyn_to_1, if_true]; first | done | rfl | (cbv; done) | (cbv; simp only [h.lits, hA, el, O_dyn_to, A_dyn_to_1]; done))
def b_dyn_to_5 (P : Prims) (c_dyn_to : Y_dyn_to)   : T_dyn_to_5 → Option (T_dyn_to_5 ⊕ R_dyn_to)
 | (o47_g, o47, v49, v50, v51) =>
 match P.cmp .lss v51 v50 with
 | false =>
  some (.inr (.c44 o47))
 | true =>
  match P.idx v49 v51 with
  | none => none
  | some ⟨a15_0, ⟨a15_1_0, a15_1_1, a15_1_2, a15_1_3, a15_1_4⟩⟩ =>
   match c_dyn_to ⟨a15_1_0, a15_1_1, a15_1_2, a15_1_3, a15_1_4⟩ with
   | none => none
   | some r17_0 =>
    match P.app 32 o47 [⟨a15_0, r17_0⟩] with
    | none => none
    | some l19 =>
     some (.inl (o47_g + 1, l19, v49, v50, P.ar .add .i64 v51 1))
theorem o_dyn_to_5   : Hd (b_dyn_to_5 PP c_dyn_to  ) (A_dyn_to_5 xat @xmap xlen e_dyn_Member e_api_Pair m  ) (el (A_dyn_to_5 xat @xmap xlen e_dyn_Member e_api_Pair m  ) (O_dyn_to e_any m  )) := by
 rintro ⟨o47_g, o47, v49, v50, v51⟩ out hp stk
 subst hPP
 simp only [b_dyn_to_5] at hp
 simp only [A_dyn_to_5]
 rw [h.at_, hT]
 cbv
 cases c14 : xcmp .lss v51 v50 with
 | false =>
  simp only [c14] at hp ⊢
  cbv
  rw [h.at_, hT]
  cbv
  cases hp
  all_goals first | rfl | (cbv; done) | (simp only [h.lits, hA, el, O_dyn_to, A_dyn_to_5, if_true]; first | done | rfl | (cbv; done) | (cbv; simp only [h.lits, hA, el, O_dyn_to, A_dyn_to_5]; done))
 | true =>
  simp only [c14] at hp ⊢
  cbv
  rw [h.at_, hT]
  cbv
  cases c16 : pidx v49 v51 with
  | none => simp only [c16] at hp; cases hp
  | some y21 =>
   obtain ⟨a15_0, ⟨a15_1_0, a15_1_1, a15_1_2, a15_1_3, a15_1_4⟩⟩ := y21
   simp only [c16] at hp
   obtain ⟨q1, q2⟩ := h.idx e_api_Pair c16
   try simp only [hA.2.2.2.1] at q2
   simp only [q1, Bool.false_eq_true, if_false]
   cbv
   try simp only [q2]
   cbv
   cases c18 : c_dyn_to ⟨a15_1_0, a15_1_1, a15_1_2, a15_1_3, a15_1_4⟩ with
   | none => simp only [c18] at hp; cases hp
   | some r17_0 =>
    simp only [c18] at hp
    have qc := fun s => (h_dyn_to c18 s).1
    simp only [qc]
    cbv
    have qf := hF r17_0
    have qg := qf
    cbv at qg
    iterate 3 (try (simp only [qf, qg]; cbv))
    simp only [h.allsz_nil, h.allsz_cons]
    cbv
    simp only [h.allsz_nil, h.allsz_cons]
    cbv
    cases c20 : papp 32 o47 [⟨a15_0, r17_0⟩] with
    | none => simp only [c20] at hp; cases hp
    | some l19 =>
     simp only [c20] at hp
     obtain ⟨q1, q2, q3⟩ := h.app e_dyn_Member c20 rfl
     simp only [h.map_cons, h.map_nil, h.len_nil, hA.2.1] at q1 q2 q3
     try simp only [h.len_nil]
     cbv
     simp only [q1, q2, q3, if_true]
     cbv
     rw [h.at_, hT]
     cbv
     cases hp
     all_goals first | rfl | (cbv; done) | (simp only [h.lits, hA, el, O_dyn_to, A_dyn_to_5, if_true]; first | done | rfl | (cbv; done) | (cbv; simp only [h.lits, hA, el, O_dyn_to, A_dyn_to_5]; done))
end
def b_dyn_Odd_0 (P : Prims) (c_dyn_to : Y_dyn_to) (c_dyn_Odd : Y_dyn_Odd)  (l_1 : T_dyn_Odd_1 → Option R_dyn_Odd) (l_5 : T_dyn_Odd_5 → Option R_dyn_Odd) : T_dyn_Odd_0 → Option R_dyn_Odd
 | (v0_0, v0_1, v0_2, v0_3, v0_4) =>
 match P.cmp .eql v0_0 4 with
 | false =>
  match P.cmp .eql v0_0 5 with
  | false =>
   match P.cmp .eql v0_0 9 with
   | false =>
    match P.cmp .eql v0_0 10 with
    | false =>
     match P.cmp .eql v0_0 11 with
     | false =>
      match P.cmp .eql v0_0 12 with
      | false =>
       match c_dyn_to ⟨v0_0, v0_1, v0_2, v0_3, v0_4⟩ with
       | none => none
       | some r7_0 =>
        some r7_0
      | true =>
       some (.c44 [])
     | true =>
      some (.c42 [])
    | true =>
     some .c49
   | true =>
    some (.c3 v0_1)
  | true =>
   l_5 (0, [], v0_4, P.len v0_4, 0)
 | true =>
  l_1 (0, [], v0_3, P.len v0_3, 0)
section
variable (c_dyn_to : Y_dyn_to) (c_dyn_Odd : Y_dyn_Odd) (h_dyn_to : (C_dyn_to xpcall xfcall @xmap e_any e_api_Value e_api_Pair c_dyn_to)) (h_dyn_Odd : (C_dyn_Odd xpcall xfcall @xmap e_any e_api_Value e_api_Pair c_dyn_Odd)) (m : Nat)    
include c_dyn_to c_dyn_Odd h_dyn_to h_dyn_Odd m   
theorem o_dyn_Odd_0 {l_1 : T_dyn_Odd_1 → Option R_dyn_Odd} {l_5 : T_dyn_Odd_5 → Option R_dyn_Odd} (h_l_1 : H_dyn_Odd_1 xat @xmap xlen e_any e_api_Value m   l_1) (h_l_5 : H_dyn_Odd_5 xat @xmap xlen e_any e_dyn_Member e_api_Pair m   l_5) : H_dyn_Odd_0 xat @xmap e_any e_api_Value e_api_Pair m   (b_dyn_Odd_0 PP c_dyn_to c_dyn_Odd  l_1 l_5) := by
 rintro ⟨v0_0, v0_1, v0_2, v0_3, v0_4⟩ out hp stk
 subst hPP
 simp only [b_dyn_Odd_0] at hp
 simp only [A_dyn_Odd_0]
 rw [h.at_, hT]
 cbv
 cases c1 : xcmp .eql v0_0 4 with
 | false =>
  simp only [c1] at hp ⊢
  cbv
  cases c2 : xcmp .eql v0_0 5 with
  | false =>
   simp only [c2] at hp ⊢
   cbv
   cases c3 : xcmp .eql v0_0 9 with
   | false =>
    simp only [c3] at hp ⊢
    cbv
    cases c4 : xcmp .eql v0_0 10 with
    | false =>
     simp only [c4] at hp ⊢
     cbv
     cases c5 : xcmp .eql v0_0 11 with
     | false =>
      simp only [c5] at hp ⊢
      cbv
      cases c6 : xcmp .eql v0_0 12 with
      | false =>
       simp only [c6] at hp ⊢
       cbv
       rw [h.at_, hT]
       cbv
       cases c8 : c_dyn_to ⟨v0_0, v0_1, v0_2, v0_3, v0_4⟩ with
       | none => simp only [c8] at hp; cases hp
       | some r7_0 =>
        simp only [c8] at hp
        have qc := fun s => (h_dyn_to c8 s).1
        simp only [qc]
        cbv
        cases hp
        all_goals first | rfl | (cbv; done)
      | true =>
       simp only [c6] at hp ⊢
       cbv
       cases hp
       all_goals first | rfl | (cbv; done) | (simp only [h.lits, hA, el, O_dyn_Odd, if_true]; first | done | rfl | (cbv; done) | (cbv; simp only [h.lits, hA, el, O_dyn_Odd]; done))
     | true =>
      simp only [c5] at hp ⊢
      cbv
      cases hp
      all_goals first | rfl | (cbv; done) | (simp only [h.lits, hA, el, O_dyn_Odd, if_true]; first | done | rfl | (cbv; done) | (cbv; simp only [h.lits, hA, el, O_dyn_Odd]; done))
    | true =>
     simp only [c4] at hp ⊢
     cbv
     cases hp
     all_goals first | rfl | (cbv; done) | (simp only [h.lits, hA, el, O_dyn_Odd, if_true]; first | done | rfl | (cbv; done) | (cbv; simp only [h.lits, hA, el, O_dyn_Odd]; done))
   | true =>
    simp only [c3] at hp ⊢
    cbv
    cases hp
    all_goals first | rfl | (cbv; done) | (simp only [h.lits, hA, el, O_dyn_Odd, if_true]; first | done | rfl | (cbv; done) | (cbv; simp only [h.lits, hA, el, O_dyn_Odd]; done))
  | true =>
   simp only [c2] at hp ⊢
   cbv
   try simp only [h.allsz_nil, h.allsz_cons, if_true, h.len_nil]
   cbv
   try simp only [h.allsz_nil, if_true]
   try cbv
   try simp only [h.len]
   first | exact h_l_5 hp stk | (have q := h_l_5 hp stk; simp only [A_dyn_Odd_5, h.lits, hA] at q; first | exact q | (cbv; exact q))
 | true =>
  simp only [c1] at hp ⊢
  cbv
  try simp only [h.allsz_nil, h.allsz_cons, if_true, h.len_nil]
  cbv
  try simp only [h.allsz_nil, if_true]
  try cbv
  try simp only [h.len]
  first | exact h_l_1 hp stk | (have q := h_l_1 hp stk; simp only [A_dyn_Odd_1, h.lits, hA] at q; first | exact q | (cbv; exact q))
def b_dyn_Odd_1 (P : Prims) (c_dyn_to : Y_dyn_to) (c_dyn_Odd : Y_dyn_Odd)   : T_dyn_Odd_1 → Option (T_dyn_Odd_1 ⊕ R_dyn_Odd)
 | (o13_g, o13, v15, v16, v17) =>
 match P.cmp .lss v17 v16 with
 | false =>
  some (.inr (.c42 o13))
 | true =>
  match P.idx v15 v17 with
  | none => none
  | some ⟨a10_0, a10_1, a10_2, a10_3, a10_4⟩ =>
   match c_dyn_Odd ⟨a10_0, a10_1, a10_2, a10_3, a10_4⟩ with
   | none => none
   | some r12_0 =>
    match P.app 16 o13 [r12_0] with
    | none => none
    | some l14 =>
     some (.inl (o13_g + 1, l14, v15, v16, P.ar .add .i64 v17 1))
theorem o_dyn_Odd_1   : Hd (b_dyn_Odd_1 PP c_dyn_to c_dyn_Odd  ) (A_dyn_Odd_1 xat @xmap xlen e_any e_api_Value m  ) (el (A_dyn_Odd_1 xat @xmap xlen e_any e_api_Value m  ) (O_dyn_Odd e_any m  )) := by
 rintro ⟨o13_g, o13, v15, v16, v17⟩ out hp stk
 subst hPP
 simp only [b_dyn_Odd_1] at hp
 simp only [A_dyn_Odd_1]
 rw [h.at_, hT]
 cbv
 cases c9 : xcmp .lss v17 v16 with
 | false =>
  simp only [c9] at hp ⊢
  cbv
  rw [h.at_, hT]
  cbv
  cases hp
  all_goals first | rfl | (cbv; done) | (simp only [h.lits, hA, el, O_dyn_Odd, A_dyn_Odd_1, if_true]; first | done | rfl | (cbv; done) | (cbv; simp only [h.lits, hA, el, O_dyn_Odd, A_dyn_Odd_1]; done))
 | true =>
  simp only [c9] at hp ⊢
  cbv
  rw [h.at_, hT]
  cbv
  cases c11 : pidx v15 v17 with
  | none => simp only [c11] at hp; cases hp
  | some y16 =>
   obtain ⟨a10_0, a10_1, a10_2, a10_3, a10_4⟩ := y16
   simp only [c11] at hp
   obtain ⟨q1, q2⟩ := h.idx e_api_Value c11
   try simp only [hA.2.2.1] at q2
   simp only [q1, Bool.false_eq_true, if_false]
   cbv
   try simp only [q2]
   cbv
   cases c13 : c_dyn_Odd ⟨a10_0, a10_1, a10_2, a10_3, a10_4⟩ with
   | none => simp only [c13] at hp; cases hp
   | some r12_0 =>
    simp only [c13] at hp
    have qc := fun s => (h_dyn_Odd c13 s).1
    simp only [qc]
    cbv
    have qz := hZ.1 [r12_0]
    simp only [h.map_cons, h.map_nil] at qz
    try simp only [hA.1] at qz
    simp only [qz, if_true]
    cbv
    have qz := hZ.1 [r12_0]
    simp only [h.map_cons, h.map_nil] at qz
    try simp only [hA.1] at qz
    simp only [qz, if_true]
    cbv
    cases c15 : papp 16 o13 [r12_0] with
    | none => simp only [c15] at hp; cases hp
    | some l14 =>
     simp only [c15] at hp
     obtain ⟨q1, q2, q3⟩ := h.app e_any c15 rfl
     simp only [h.map_cons, h.map_nil, h.len_nil, hA.1] at q1 q2 q3
     try simp only [h.len_nil]
     cbv
     simp only [q1, q2, q3, if_true]
     cbv
     rw [h.at_, hT]
     cbv
     cases hp
     all_goals first | rfl | (cbv; done) | (simp only [h.lits, hA, el, O_dyn_Odd, A_dyn_Odd_1, if_true]; first | done | rfl | (cbv; done) | (cbv; simp only [h.lits, hA, el, O_dyn_Odd, A_dyn_Odd_1]; done))
def b_dyn_Odd_5 (P : Prims) (c_dyn_to : Y_dyn_to) (c_dyn_Odd : Y_dyn_Odd)   : T_dyn_Odd_5 → Option (T_dyn_Odd_5 ⊕ R_dyn_Odd)
 | (o31_g, o31, v33, v34, v35) =>
 match P.cmp .lss v35 v34 with
 | false =>
  some (.inr (.c44 o31))
 | true =>
  match P.idx v33 v35 with
  | none => none
  | some ⟨a18_0, ⟨a18_1_0, a18_1_1, a18_1_2, a18_1_3, a18_1_4⟩⟩ =>
   match c_dyn_Odd ⟨a18_1_0, a18_1_1, a18_1_2, a18_1_3, a18_1_4⟩ with
   | none => none
   | some r20_0 =>
    match P.app 32 o31 [⟨a18_0, r20_0⟩] with
    | none => none
    | some l22 =>
     some (.inl (o31_g + 1, l22, v33, v34, P.ar .add .i64 v35 1))
theorem o_dyn_Odd_5   : Hd (b_dyn_Odd_5 PP c_dyn_to c_dyn_Odd  ) (A_dyn_Odd_5 xat @xmap xlen e_dyn_Member e_api_Pair m  ) (el (A_dyn_Odd_5 xat @xmap xlen e_dyn_Member e_api_Pair m  ) (O_dyn_Odd e_any m  )) := by
 rintro ⟨o31_g, o31, v33, v34, v35⟩ out hp stk
 subst hPP
 simp only [b_dyn_Odd_5] at hp
 simp only [A_dyn_Odd_5]
 rw [h.at_, hT]
 cbv
 cases c17 : xcmp .lss v35 v34 with
 | false =>
  simp only [c17] at hp ⊢
  cbv
  rw [h.at_, hT]
  cbv
  cases hp
  all_goals first | rfl | (cbv; done) | (simp only [h.lits, hA, el, O_dyn_Odd, A_dyn_Odd_5, if_true]; first | done | rfl | (cbv; done) | (cbv; simp only [h.lits, hA, el, O_dyn_Odd, A_dyn_Odd_5]; done))
 | true =>
  simp only [c17] at hp ⊢
  cbv
  rw [h.at_, hT]
  cbv
  cases c19 : pidx v33 v35 with
  | none => simp only [c19] at hp; cases hp
  | some y24 =>
   obtain ⟨a18_0, ⟨a18_1_0, a18_1_1, a18_1_2, a18_1_3, a18_1_4⟩⟩ := y24
   simp only [c19] at hp
   obtain ⟨q1, q2⟩ := h.idx e_api_Pair c19
   try simp only [hA.2.2.2.1] at q2
   simp only [q1, Bool.false_eq_true, if_false]
   cbv
   try simp only [q2]
   cbv
   cases c21 : c_dyn_Odd ⟨a18_1_0, a18_1_1, a18_1_2, a18_1_3, a18_1_4⟩ with
   | none => simp only [c21] at hp; cases hp
   | some r20_0 =>
    simp only [c21] at hp
    have qc := fun s => (h_dyn_Odd c21 s).1
    simp only [qc]
    cbv
    have qf := hF r20_0
    have qg := qf
    cbv at qg
    iterate 3 (try (simp only [qf, qg]; cbv))
    simp only [h.allsz_nil, h.allsz_cons]
    cbv
    simp only [h.allsz_nil, h.allsz_cons]
    cbv
    cases c23 : papp 32 o31 [⟨a18_0, r20_0⟩] with
    | none => simp only [c23] at hp; cases hp
    | some l22 =>
     simp only [c23] at hp
     obtain ⟨q1, q2, q3⟩ := h.app e_dyn_Member c23 rfl
     simp only [h.map_cons, h.map_nil, h.len_nil, hA.2.1] at q1 q2 q3
     try simp only [h.len_nil]
     cbv
     simp only [q1, q2, q3, if_true]
     cbv
     rw [h.at_, hT]
     cbv
     cases hp
     all_goals first | rfl | (cbv; done) | (simp only [h.lits, hA, el, O_dyn_Odd, A_dyn_Odd_5, if_true]; first | done | rfl | (cbv; done) | (cbv; simp only [h.lits, hA, el, O_dyn_Odd, A_dyn_Odd_5]; done))
end
def b_dyn_caught_0 (P : Prims)   (l_1 : T_dyn_caught_1 → Option R_dyn_caught) : T_dyn_caught_0 → Option R_dyn_caught
 | v0 =>
 match v0 with
 | .n =>
  some 0
 | .c2 y1 =>
  l_1 ()
 | .c3 y2 =>
  l_1 ()
 | .c4 y3 =>
  l_1 ()
 | .c9 y4 =>
  l_1 ()
 | .c15 =>
  l_1 ()
 | .c42 y5 =>
  l_1 ()
 | .c44 y6 =>
  l_1 ()
 | .c49 =>
  l_1 ()
 | .c52 =>
  some 6
section
variable   (m : Nat)    
include   m   
theorem o_dyn_caught_0 {l_1 : T_dyn_caught_1 → Option R_dyn_caught} (h_l_1 : H_dyn_caught_1 xat m   l_1) : H_dyn_caught_0 xat e_any m   (b_dyn_caught_0 PP   l_1) := by
 rintro v0 out hp stk
 subst hPP
 simp only [b_dyn_caught_0] at hp
 simp only [A_dyn_caught_0]
 rw [h.at_, hT]
 cbv
 cases v0 with
 | n =>
  simp only at hp
  try simp only [hA.1]
  cbv
  cases hp
  all_goals first | rfl | (cbv; done)
 | c2 y1 =>
  simp only at hp
  try simp only [hA.1]
  cbv
  first | exact h_l_1 hp stk | (have q := h_l_1 hp stk; simp only [A_dyn_caught_1, h.lits, hA] at q; first | exact q | (cbv; exact q))
 | c3 y2 =>
  simp only at hp
  try simp only [hA.1]
  cbv
  first | exact h_l_1 hp stk | (have q := h_l_1 hp stk; simp only [A_dyn_caught_1, h.lits, hA] at q; first | exact q | (cbv; exact q))
 | c4 y3 =>
  simp only at hp
  try simp only [hA.1]
  cbv
  first | exact h_l_1 hp stk | (have q := h_l_1 hp stk; simp only [A_dyn_caught_1, h.lits, hA] at q; first | exact q | (cbv; exact q))
 | c9 y4 =>
  simp only at hp
  try simp only [hA.1]
  cbv
  first | exact h_l_1 hp stk | (have q := h_l_1 hp stk; simp only [A_dyn_caught_1, h.lits, hA] at q; first | exact q | (cbv; exact q))
 | c15 =>
  simp only at hp
  try simp only [hA.1]
  cbv
  first | exact h_l_1 hp stk | (have q := h_l_1 hp stk; simp only [A_dyn_caught_1, h.lits, hA] at q; first | exact q | (cbv; exact q))
 | c42 y5 =>
  simp only at hp
  try simp only [hA.1]
  cbv
  first | exact h_l_1 hp stk | (have q := h_l_1 hp stk; simp only [A_dyn_caught_1, h.lits, hA] at q; first | exact q | (cbv; exact q))
 | c44 y6 =>
  simp only at hp
  try simp only [hA.1]
  cbv
  first | exact h_l_1 hp stk | (have q := h_l_1 hp stk; simp only [A_dyn_caught_1, h.lits, hA] at q; first | exact q | (cbv; exact q))
 | c49 =>
  simp only at hp
  try simp only [hA.1]
  cbv
  first | exact h_l_1 hp stk | (have q := h_l_1 hp stk; simp only [A_dyn_caught_1, h.lits, hA] at q; first | exact q | (cbv; exact q))
 | c52 =>
  simp only at hp
  try simp only [hA.1]
  cbv
  cases hp
  all_goals first | rfl | (cbv; done)
def b_dyn_caught_1 (P : Prims)    : T_dyn_caught_1 → Option R_dyn_caught
 | () =>
 some 1
theorem o_dyn_caught_1   : H_dyn_caught_1 xat m   (b_dyn_caught_1 PP   ) := by
 rintro ⟨⟩ out hp stk
 subst hPP
 simp only [b_dyn_caught_1] at hp
 simp only [A_dyn_caught_1]
 rw [h.at_, hT]
 cbv
 cases hp
 all_goals first | rfl | (cbv; done)
end
def b_dyn_Texts_1_h__0_0 (P : Prims) (c_dyn_caught : Y_dyn_caught)   : T_dyn_Texts_1_h__0_0 → Option R_dyn_Texts_1_h__0
 | (v0, L0_0, L1_0) =>
 match c_dyn_caught v0 with
 | none => none
 | some r1_0 =>
  match P.cmp .neq r1_0 0 with
  | false =>
   some (r1_0, L1_0)
  | true =>
   some (r1_0, [])
section
variable (c_dyn_caught : Y_dyn_caught) (h_dyn_caught : (C_dyn_caught xpcall xfcall e_any c_dyn_caught)) (m : Nat) (n0 n1 : Nat) (k0 k1 : Kl)  (hl0 : n0 < m) (hl1 : n1 < m) (hd0_1 : NE n0 k0 n1 k1)
include c_dyn_caught h_dyn_caught m n0 n1 k0 k1  hl0 hl1 hd0_1
theorem o_dyn_Texts_1_h__0_0   : H_dyn_Texts_1_h__0_0 xat @xmap xsetO e_any e_string m n0 n1 k0 k1  (b_dyn_Texts_1_h__0_0 PP c_dyn_caught  ) := by
 rintro ⟨v0, L0_0, L1_0⟩ out hp stk ⟨hg0, hg1, _⟩
 have hn := And.intro (nlt hl0) (nlt hl1)
 have lw := And.intro hn (And.intro hg0 (hg1))
 have lw_0 := And.intro hn (And.intro (fun (o0 : O) => h.gs (hg0) o0) ((fun (o0 : O) => (h.gn (Ne.symm hd0_1) _ o0).trans (hg1))))
 have lw_0_1 := And.intro hn (And.intro (fun (o0 : O) (o1 : O) => (h.gn hd0_1 _ o1).trans (h.gs (hg0) o0)) ((fun (o0 : O) (o1 : O) => h.gs ((h.gn (Ne.symm hd0_1) _ o0).trans (hg1)) o1)))
 subst hPP
 simp only [b_dyn_Texts_1_h__0_0] at hp
 simp only [A_dyn_Texts_1_h__0_0]
 rw [h.at_, hT]
 cbv
 cases c2 : c_dyn_caught v0 with
 | none => simp only [c2] at hp; cases hp
 | some r1_0 =>
  simp only [c2] at hp
  have qc := fun s => (h_dyn_caught c2 s).1
  simp only [qc]
  cbv
  try simp only [if_false, if_true, lw]
  try cbv
  try simp only [h.set_o, h.st_, h.sb_ hl0, h.sb_ hl1, if_false, if_true, lw_0]
  try cbv
  try simp only [if_false, if_true, lw_0]
  try cbv
  cases c3 : xcmp .neq r1_0 0 with
  | false =>
   simp only [c3] at hp ⊢
   cbv
   cases hp
   try simp only [el, O_dyn_Texts_1_h__0]
   try ((try simp only [h.so, h.sc hd0_1]); simp only [h.ss ((h.gn (Ne.symm hd0_1) _ _).trans (hg1))])
   try simp only [if_false, if_true, hn]
   all_goals first | rfl | (cbv; done) | (simp only [h.lits, hA, el, O_dyn_Texts_1_h__0, if_true]; first | done | rfl | (cbv; done) | (cbv; simp only [h.lits, hA, el, O_dyn_Texts_1_h__0]; done))
  | true =>
   simp only [c3] at hp ⊢
   cbv
   try simp only [if_false, if_true, lw_0]
   try cbv
   try simp only [h.set_o, h.st_, h.sb_ hl0, h.sb_ hl1, if_false, if_true, lw_0_1]
   try simp only [h.so, h.sc hd0_1, if_false, if_true, lw_0_1]
   try cbv
   cases hp
   try simp only [el, O_dyn_Texts_1_h__0]
   try ((try simp only [h.so, h.sc hd0_1]))
   try simp only [if_false, if_true, hn]
   all_goals first | rfl | (cbv; done) | (simp only [h.lits, hA, el, O_dyn_Texts_1_h__0, if_true]; first | done | rfl | (cbv; done) | (cbv; simp only [h.lits, hA, el, O_dyn_Texts_1_h__0]; done))
end
def b_dyn_Texts_0 (P : Prims) (c_dyn_Texts_1_h__0 : Y_dyn_Texts_1_h__0)  (l_1 : T_dyn_Texts_1 → Option R_dyn_Texts) : T_dyn_Texts_0 → Option R_dyn_Texts
 | v0 =>
 match v0 with
 | .n =>
  match c_dyn_Texts_1_h__0 .c15 0 [] with
  | none => none
  | some (r1_w0_0, r1_w1_0) =>
   some (r1_w1_0, r1_w0_0)
 | .c2 y4 =>
  match c_dyn_Texts_1_h__0 .c15 0 [] with
  | none => none
  | some (r5_w0_0, r5_w1_0) =>
   some (r5_w1_0, r5_w0_0)
 | .c3 y8 =>
  match c_dyn_Texts_1_h__0 .c15 0 [] with
  | none => none
  | some (r9_w0_0, r9_w1_0) =>
   some (r9_w1_0, r9_w0_0)
 | .c4 y12 =>
  match c_dyn_Texts_1_h__0 .c15 0 [] with
  | none => none
  | some (r13_w0_0, r13_w1_0) =>
   some (r13_w1_0, r13_w0_0)
 | .c9 y16 =>
  match c_dyn_Texts_1_h__0 .c15 0 [] with
  | none => none
  | some (r17_w0_0, r17_w1_0) =>
   some (r17_w1_0, r17_w0_0)
 | .c15 =>
  match c_dyn_Texts_1_h__0 .c15 0 [] with
  | none => none
  | some (r20_w0_0, r20_w1_0) =>
   some (r20_w1_0, r20_w0_0)
 | .c42 y23 =>
  l_1 (y23, P.len y23, 0, 0, [], 0)
 | .c44 y24 =>
  match c_dyn_Texts_1_h__0 .c15 0 [] with
  | none => none
  | some (r25_w0_0, r25_w1_0) =>
   some (r25_w1_0, r25_w0_0)
 | .c49 =>
  match c_dyn_Texts_1_h__0 .c15 0 [] with
  | none => none
  | some (r28_w0_0, r28_w1_0) =>
   some (r28_w1_0, r28_w0_0)
 | .c52 =>
  match c_dyn_Texts_1_h__0 .c15 0 [] with
  | none => none
  | some (r31_w0_0, r31_w1_0) =>
   some (r31_w1_0, r31_w0_0)
section
variable (c_dyn_Texts_1_h__0 : Y_dyn_Texts_1_h__0) (h_dyn_Texts_1_h__0 : (C_dyn_Texts_1_h__0 xfcall @xmap xsetO e_any e_string c_dyn_Texts_1_h__0)) (m : Nat)    
include c_dyn_Texts_1_h__0 h_dyn_Texts_1_h__0 m   
theorem o_dyn_Texts_0 {l_1 : T_dyn_Texts_1 → Option R_dyn_Texts} (h_l_1 : H_dyn_Texts_1 xat @xmap xlen e_any e_string m   l_1) : H_dyn_Texts_0 xat @xmap e_any e_string m   (b_dyn_Texts_0 PP c_dyn_Texts_1_h__0  l_1) := by
 rintro v0 out hp stk
 subst hPP
 simp only [b_dyn_Texts_0] at hp
 simp only [A_dyn_Texts_0]
 rw [h.at_, hT]
 cbv
 cases v0 with
 | n =>
  simp only at hp
  try simp only [hA.1]
  cbv
  simp only [h.nadd0, h.len_nil, h.cut_nil, h.nle_refl, h.cut_all, if_true]
  cbv
  cases c2 : c_dyn_Texts_1_h__0 .c15 0 [] with
  | none => simp only [c2] at hp; cases hp
  | some y3 =>
   obtain ⟨r1_w0_0, r1_w1_0⟩ := y3
   simp only [c2] at hp
   try simp only [List.map_cons, List.map_nil, Fr.get, Nat.reduceEqDiff, if_true, if_false]
   have qc := h_dyn_Texts_1_h__0 c2 (⟨m, [([2], (.cells [(.d (.sl (xmap e_string [])))])), ([3], (.cells [(.d (.int .i64 0))]))]⟩ :: stk) m [3] m [2] (by first | exact h.gt _ _ _ _ | (simp only [h.map_nil]; exact h.gt _ _ _ _)) (by first | exact h.gt _ _ _ _ | (simp only [h.map_nil]; exact h.gt _ _ _ _)) (Nat.le_refl _) (Nat.le_refl _) (h.do_ (by decide))
   try simp only [h.map_cons, h.map_nil, hA.1] at qc
   simp only [qc]
   simp only [h.st_]
   cbv
   cases hp
   all_goals first | rfl | (cbv; done)
 | c2 y4 =>
  simp only at hp
  try simp only [hA.1]
  cbv
  simp only [h.nadd0, h.len_nil, h.cut_nil, h.nle_refl, h.cut_all, if_true]
  cbv
  cases c6 : c_dyn_Texts_1_h__0 .c15 0 [] with
  | none => simp only [c6] at hp; cases hp
  | some y7 =>
   obtain ⟨r5_w0_0, r5_w1_0⟩ := y7
   simp only [c6] at hp
   try simp only [List.map_cons, List.map_nil, Fr.get, Nat.reduceEqDiff, if_true, if_false]
   have qc := h_dyn_Texts_1_h__0 c6 (⟨m, [([2], (.cells [(.d (.sl (xmap e_string [])))])), ([3], (.cells [(.d (.int .i64 0))]))]⟩ :: stk) m [3] m [2] (by first | exact h.gt _ _ _ _ | (simp only [h.map_nil]; exact h.gt _ _ _ _)) (by first | exact h.gt _ _ _ _ | (simp only [h.map_nil]; exact h.gt _ _ _ _)) (Nat.le_refl _) (Nat.le_refl _) (h.do_ (by decide))
   try simp only [h.map_cons, h.map_nil, hA.1] at qc
   simp only [qc]
   simp only [h.st_]
   cbv
   cases hp
   all_goals first | rfl | (cbv; done)
 | c3 y8 =>
  simp only at hp
  try simp only [hA.1]
  cbv
  simp only [h.nadd0, h.len_nil, h.cut_nil, h.nle_refl, h.cut_all, if_true]
  cbv
  cases c10 : c_dyn_Texts_1_h__0 .c15 0 [] with
  | none => simp only [c10] at hp; cases hp
  | some y11 =>
   obtain ⟨r9_w0_0, r9_w1_0⟩ := y11
   simp only [c10] at hp
   try simp only [List.map_cons, List.map_nil, Fr.get, Nat.reduceEqDiff, if_true, if_false]
   have qc := h_dyn_Texts_1_h__0 c10 (⟨m, [([2], (.cells [(.d (.sl (xmap e_string [])))])), ([3], (.cells [(.d (.int .i64 0))]))]⟩ :: stk) m [3] m [2] (by first | exact h.gt _ _ _ _ | (simp only [h.map_nil]; exact h.gt _ _ _ _)) (by first | exact h.gt _ _ _ _ | (simp only [h.map_nil]; exact h.gt _ _ _ _)) (Nat.le_refl _) (Nat.le_refl _) (h.do_ (by decide))
   try simp only [h.map_cons, h.map_nil, hA.1] at qc
   simp only [qc]
   simp only [h.st_]
   cbv
   cases hp
   all_goals first | rfl | (cbv; done)
 | c4 y12 =>
  simp only at hp
  try simp only [hA.1]
  cbv
  simp only [h.nadd0, h.len_nil, h.cut_nil, h.nle_refl, h.cut_all, if_true]
  cbv
  cases c14 : c_dyn_Texts_1_h__0 .c15 0 [] with
  | none => simp only [c14] at hp; cases hp
  | some y15 =>
   obtain ⟨r13_w0_0, r13_w1_0⟩ := y15
   simp only [c14] at hp
   try simp only [List.map_cons, List.map_nil, Fr.get, Nat.reduceEqDiff, if_true, if_false]
   have qc := h_dyn_Texts_1_h__0 c14 (⟨m, [([2], (.cells [(.d (.sl (xmap e_string [])))])), ([3], (.cells [(.d (.int .i64 0))]))]⟩ :: stk) m [3] m [2] (by first | exact h.gt _ _ _ _ | (simp only [h.map_nil]; exact h.gt _ _ _ _)) (by first | exact h.gt _ _ _ _ | (simp only [h.map_nil]; exact h.gt _ _ _ _)) (Nat.le_refl _) (Nat.le_refl _) (h.do_ (by decide))
   try simp only [h.map_cons, h.map_nil, hA.1] at qc
   simp only [qc]
   simp only [h.st_]
   cbv
   cases hp
   all_goals first | rfl | (cbv; done)
 | c9 y16 =>
  simp only at hp
  try simp only [hA.1]
  cbv
  simp only [h.nadd0, h.len_nil, h.cut_nil, h.nle_refl, h.cut_all, if_true]
  cbv
  cases c18 : c_dyn_Texts_1_h__0 .c15 0 [] with
  | none => simp only [c18] at hp; cases hp
  | some y19 =>
   obtain ⟨r17_w0_0, r17_w1_0⟩ := y19
   simp only [c18] at hp
   try simp only [List.map_cons, List.map_nil, Fr.get, Nat.reduceEqDiff, if_true, if_false]
   have qc := h_dyn_Texts_1_h__0 c18 (⟨m, [([2], (.cells [(.d (.sl (xmap e_string [])))])), ([3], (.cells [(.d (.int .i64 0))]))]⟩ :: stk) m [3] m [2] (by first | exact h.gt _ _ _ _ | (simp only [h.map_nil]; exact h.gt _ _ _ _)) (by first | exact h.gt _ _ _ _ | (simp only [h.map_nil]; exact h.gt _ _ _ _)) (Nat.le_refl _) (Nat.le_refl _) (h.do_ (by decide))
   try simp only [h.map_cons, h.map_nil, hA.1] at qc
   simp only [qc]
   simp only [h.st_]
   cbv
   cases hp
   all_goals first | rfl | (cbv; done)
 | c15 =>
  simp only at hp
  try simp only [hA.1]
  cbv
  simp only [h.nadd0, h.len_nil, h.cut_nil, h.nle_refl, h.cut_all, if_true]
  cbv
  cases c21 : c_dyn_Texts_1_h__0 .c15 0 [] with
  | none => simp only [c21] at hp; cases hp
  | some y22 =>
   obtain ⟨r20_w0_0, r20_w1_0⟩ := y22
   simp only [c21] at hp
   try simp only [List.map_cons, List.map_nil, Fr.get, Nat.reduceEqDiff, if_true, if_false]
   have qc := h_dyn_Texts_1_h__0 c21 (⟨m, [([2], (.cells [(.d (.sl (xmap e_string [])))])), ([3], (.cells [(.d (.int .i64 0))]))]⟩ :: stk) m [3] m [2] (by first | exact h.gt _ _ _ _ | (simp only [h.map_nil]; exact h.gt _ _ _ _)) (by first | exact h.gt _ _ _ _ | (simp only [h.map_nil]; exact h.gt _ _ _ _)) (Nat.le_refl _) (Nat.le_refl _) (h.do_ (by decide))
   try simp only [h.map_cons, h.map_nil, hA.1] at qc
   simp only [qc]
   simp only [h.st_]
   cbv
   cases hp
   all_goals first | rfl | (cbv; done)
 | c42 y23 =>
  simp only at hp
  try simp only [hA.1]
  cbv
  try simp only [h.len]
  first | exact h_l_1 hp stk | (have q := h_l_1 hp stk; simp only [A_dyn_Texts_1, h.lits, hA] at q; first | exact q | (cbv; exact q))
 | c44 y24 =>
  simp only at hp
  try simp only [hA.1]
  cbv
  simp only [h.nadd0, h.len_nil, h.cut_nil, h.nle_refl, h.cut_all, if_true]
  cbv
  cases c26 : c_dyn_Texts_1_h__0 .c15 0 [] with
  | none => simp only [c26] at hp; cases hp
  | some y27 =>
   obtain ⟨r25_w0_0, r25_w1_0⟩ := y27
   simp only [c26] at hp
   try simp only [List.map_cons, List.map_nil, Fr.get, Nat.reduceEqDiff, if_true, if_false]
   have qc := h_dyn_Texts_1_h__0 c26 (⟨m, [([2], (.cells [(.d (.sl (xmap e_string [])))])), ([3], (.cells [(.d (.int .i64 0))]))]⟩ :: stk) m [3] m [2] (by first | exact h.gt _ _ _ _ | (simp only [h.map_nil]; exact h.gt _ _ _ _)) (by first | exact h.gt _ _ _ _ | (simp only [h.map_nil]; exact h.gt _ _ _ _)) (Nat.le_refl _) (Nat.le_refl _) (h.do_ (by decide))
   try simp only [h.map_cons, h.map_nil, hA.1] at qc
   simp only [qc]
   simp only [h.st_]
   cbv
   cases hp
   all_goals first | rfl | (cbv; done)
 | c49 =>
  simp only at hp
  try simp only [hA.1]
  cbv
  simp only [h.nadd0, h.len_nil, h.cut_nil, h.nle_refl, h.cut_all, if_true]
  cbv
  cases c29 : c_dyn_Texts_1_h__0 .c15 0 [] with
  | none => simp only [c29] at hp; cases hp
  | some y30 =>
   obtain ⟨r28_w0_0, r28_w1_0⟩ := y30
   simp only [c29] at hp
   try simp only [List.map_cons, List.map_nil, Fr.get, Nat.reduceEqDiff, if_true, if_false]
   have qc := h_dyn_Texts_1_h__0 c29 (⟨m, [([2], (.cells [(.d (.sl (xmap e_string [])))])), ([3], (.cells [(.d (.int .i64 0))]))]⟩ :: stk) m [3] m [2] (by first | exact h.gt _ _ _ _ | (simp only [h.map_nil]; exact h.gt _ _ _ _)) (by first | exact h.gt _ _ _ _ | (simp only [h.map_nil]; exact h.gt _ _ _ _)) (Nat.le_refl _) (Nat.le_refl _) (h.do_ (by decide))
   try simp only [h.map_cons, h.map_nil, hA.1] at qc
   simp only [qc]
   simp only [h.st_]
   cbv
   cases hp
   all_goals first | rfl | (cbv; done)
 | c52 =>
  simp only at hp
  try simp only [hA.1]
  cbv
  simp only [h.nadd0, h.len_nil, h.cut_nil, h.nle_refl, h.cut_all, if_true]
  cbv
  cases c32 : c_dyn_Texts_1_h__0 .c15 0 [] with
  | none => simp only [c32] at hp; cases hp
  | some y33 =>
   obtain ⟨r31_w0_0, r31_w1_0⟩ := y33
   simp only [c32] at hp
   try simp only [List.map_cons, List.map_nil, Fr.get, Nat.reduceEqDiff, if_true, if_false]
   have qc := h_dyn_Texts_1_h__0 c32 (⟨m, [([2], (.cells [(.d (.sl (xmap e_string [])))])), ([3], (.cells [(.d (.int .i64 0))]))]⟩ :: stk) m [3] m [2] (by first | exact h.gt _ _ _ _ | (simp only [h.map_nil]; exact h.gt _ _ _ _)) (by first | exact h.gt _ _ _ _ | (simp only [h.map_nil]; exact h.gt _ _ _ _)) (Nat.le_refl _) (Nat.le_refl _) (h.do_ (by decide))
   try simp only [h.map_cons, h.map_nil, hA.1] at qc
   simp only [qc]
   simp only [h.st_]
   cbv
   cases hp
   all_goals first | rfl | (cbv; done)
def b_dyn_Texts_1 (P : Prims) (c_dyn_Texts_1_h__0 : Y_dyn_Texts_1_h__0)   : T_dyn_Texts_1 → Option (T_dyn_Texts_1 ⊕ R_dyn_Texts)
 | (v8, v9, v10, o2_0_g, o2_0, o3_0) =>
 match P.cmp .lss v10 v9 with
 | false =>
  match c_dyn_Texts_1_h__0 .n 0 o2_0 with
  | none => none
  | some (r72_w0_0, r72_w1_0) =>
   some (.inr (r72_w1_0, r72_w0_0))
 | true =>
  match P.idx v8 v10 with
  | none => none
  | some a35 =>
   match a35 with
   | .n =>
    match c_dyn_Texts_1_h__0 .c15 o3_0 o2_0 with
    | none => none
    | some (r37_w0_0, r37_w1_0) =>
     some (.inr (r37_w1_0, r37_w0_0))
   | .c2 y40 =>
    match c_dyn_Texts_1_h__0 .c15 o3_0 o2_0 with
    | none => none
    | some (r41_w0_0, r41_w1_0) =>
     some (.inr (r41_w1_0, r41_w0_0))
   | .c3 y44 =>
    match c_dyn_Texts_1_h__0 .c15 o3_0 o2_0 with
    | none => none
    | some (r45_w0_0, r45_w1_0) =>
     some (.inr (r45_w1_0, r45_w0_0))
   | .c4 y48 =>
    match c_dyn_Texts_1_h__0 .c15 o3_0 o2_0 with
    | none => none
    | some (r49_w0_0, r49_w1_0) =>
     some (.inr (r49_w1_0, r49_w0_0))
   | .c9 y52 =>
    match P.app 16 o2_0 [y52] with
    | none => none
    | some l53 =>
     some (.inl (v8, v9, P.ar .add .i64 v10 1, o2_0_g + 1, l53, o3_0))
   | .c15 =>
    match c_dyn_Texts_1_h__0 .c15 o3_0 o2_0 with
    | none => none
    | some (r55_w0_0, r55_w1_0) =>
     some (.inr (r55_w1_0, r55_w0_0))
   | .c42 y58 =>
    match c_dyn_Texts_1_h__0 .c15 o3_0 o2_0 with
    | none => none
    | some (r59_w0_0, r59_w1_0) =>
     some (.inr (r59_w1_0, r59_w0_0))
   | .c44 y62 =>
    match c_dyn_Texts_1_h__0 .c15 o3_0 o2_0 with
    | none => none
    | some (r63_w0_0, r63_w1_0) =>
     some (.inr (r63_w1_0, r63_w0_0))
   | .c49 =>
    match c_dyn_Texts_1_h__0 .c15 o3_0 o2_0 with
    | none => none
    | some (r66_w0_0, r66_w1_0) =>
     some (.inr (r66_w1_0, r66_w0_0))
   | .c52 =>
    match c_dyn_Texts_1_h__0 .c15 o3_0 o2_0 with
    | none => none
    | some (r69_w0_0, r69_w1_0) =>
     some (.inr (r69_w1_0, r69_w0_0))
theorem o_dyn_Texts_1   : Hd (b_dyn_Texts_1 PP c_dyn_Texts_1_h__0  ) (A_dyn_Texts_1 xat @xmap xlen e_any e_string m  ) (el (A_dyn_Texts_1 xat @xmap xlen e_any e_string m  ) (O_dyn_Texts @xmap e_string m  )) := by
 rintro ⟨v8, v9, v10, o2_0_g, o2_0, o3_0⟩ out hp stk
 subst hPP
 simp only [b_dyn_Texts_1] at hp
 simp only [A_dyn_Texts_1]
 rw [h.at_, hT]
 cbv
 cases c34 : xcmp .lss v10 v9 with
 | false =>
  simp only [c34] at hp ⊢
  cbv
  rw [h.at_, hT]
  cbv
  simp only [h.nadd0, h.len_nil, h.cut_nil, h.nle_refl, h.cut_all, if_true]
  cbv
  cases c73 : c_dyn_Texts_1_h__0 .n 0 o2_0 with
  | none => simp only [c73] at hp; cases hp
  | some y74 =>
   obtain ⟨r72_w0_0, r72_w1_0⟩ := y74
   simp only [c73] at hp
   try simp only [List.map_cons, List.map_nil, Fr.get, Nat.reduceEqDiff, if_true, if_false]
   have qc := h_dyn_Texts_1_h__0 c73 (⟨m, [([2], (.cells [(.d (.sl (xmap e_string o2_0)))])), ([3], (.cells [(.d (.int .i64 0))]))]⟩ :: stk) m [3] m [2] (h.gt _ _ _ _) (h.gt _ _ _ _) (Nat.le_refl _) (Nat.le_refl _) (h.do_ (by decide))
   try simp only [h.map_cons, h.map_nil, hA.1] at qc
   simp only [qc]
   simp only [h.st_]
   cbv
   cases hp
   all_goals first | rfl | (cbv; done)
 | true =>
  simp only [c34] at hp ⊢
  cbv
  rw [h.at_, hT]
  cbv
  cases c36 : pidx v8 v10 with
  | none => simp only [c36] at hp; cases hp
  | some a35 =>
   simp only [c36] at hp
   obtain ⟨q1, q2⟩ := h.idx e_any c36
   try simp only [hA.1] at q2
   simp only [q1, Bool.false_eq_true, if_false]
   cbv
   try simp only [q2]
   cbv
   have qf := hF a35
   have qg := qf
   cbv at qg
   iterate 3 (try (simp only [qf, qg]; cbv))
   cases a35 with
   | n =>
    simp only at hp
    try simp only [hA.1]
    cbv
    simp only [h.nadd0, h.len_nil, h.cut_nil, h.nle_refl, h.cut_all, if_true]
    cbv
    cases c38 : c_dyn_Texts_1_h__0 .c15 o3_0 o2_0 with
    | none => simp only [c38] at hp; cases hp
    | some y39 =>
     obtain ⟨r37_w0_0, r37_w1_0⟩ := y39
     simp only [c38] at hp
     try simp only [List.map_cons, List.map_nil, Fr.get, Nat.reduceEqDiff, if_true, if_false]
     have qc := h_dyn_Texts_1_h__0 c38 (⟨m, [([2], (.cells [(.d (.sl (xmap e_string o2_0)))])), ([3], (.cells [(.d (.int .i64 o3_0))]))]⟩ :: stk) m [3] m [2] (h.gt _ _ _ _) (h.gt _ _ _ _) (Nat.le_refl _) (Nat.le_refl _) (h.do_ (by decide))
     try simp only [h.map_cons, h.map_nil, hA.1] at qc
     simp only [qc]
     simp only [h.st_]
     cbv
     cases hp
     all_goals first | rfl | (cbv; done)
   | c2 y40 =>
    simp only at hp
    try simp only [hA.1]
    cbv
    simp only [h.nadd0, h.len_nil, h.cut_nil, h.nle_refl, h.cut_all, if_true]
    cbv
    cases c42 : c_dyn_Texts_1_h__0 .c15 o3_0 o2_0 with
    | none => simp only [c42] at hp; cases hp
    | some y43 =>
     obtain ⟨r41_w0_0, r41_w1_0⟩ := y43
     simp only [c42] at hp
     try simp only [List.map_cons, List.map_nil, Fr.get, Nat.reduceEqDiff, if_true, if_false]
     have qc := h_dyn_Texts_1_h__0 c42 (⟨m, [([2], (.cells [(.d (.sl (xmap e_string o2_0)))])), ([3], (.cells [(.d (.int .i64 o3_0))]))]⟩ :: stk) m [3] m [2] (h.gt _ _ _ _) (h.gt _ _ _ _) (Nat.le_refl _) (Nat.le_refl _) (h.do_ (by decide))
     try simp only [h.map_cons, h.map_nil, hA.1] at qc
     simp only [qc]
     simp only [h.st_]
     cbv
     cases hp
     all_goals first | rfl | (cbv; done)
   | c3 y44 =>
    simp only at hp
    try simp only [hA.1]
    cbv
    simp only [h.nadd0, h.len_nil, h.cut_nil, h.nle_refl, h.cut_all, if_true]
    cbv
    cases c46 : c_dyn_Texts_1_h__0 .c15 o3_0 o2_0 with
    | none => simp only [c46] at hp; cases hp
    | some y47 =>
     obtain ⟨r45_w0_0, r45_w1_0⟩ := y47
     simp only [c46] at hp
     try simp only [List.map_cons, List.map_nil, Fr.get, Nat.reduceEqDiff, if_true, if_false]
     have qc := h_dyn_Texts_1_h__0 c46 (⟨m, [([2], (.cells [(.d (.sl (xmap e_string o2_0)))])), ([3], (.cells [(.d (.int .i64 o3_0))]))]⟩ :: stk) m [3] m [2] (h.gt _ _ _ _) (h.gt _ _ _ _) (Nat.le_refl _) (Nat.le_refl _) (h.do_ (by decide))
     try simp only [h.map_cons, h.map_nil, hA.1] at qc
     simp only [qc]
     simp only [h.st_]
     cbv
     cases hp
     all_goals first | rfl | (cbv; done)
   | c4 y48 =>
    simp only at hp
    try simp only [hA.1]
    cbv
    simp only [h.nadd0, h.len_nil, h.cut_nil, h.nle_refl, h.cut_all, if_true]
    cbv
    cases c50 : c_dyn_Texts_1_h__0 .c15 o3_0 o2_0 with
    | none => simp only [c50] at hp; cases hp
    | some y51 =>
     obtain ⟨r49_w0_0, r49_w1_0⟩ := y51
     simp only [c50] at hp
     try simp only [List.map_cons, List.map_nil, Fr.get, Nat.reduceEqDiff, if_true, if_false]
     have qc := h_dyn_Texts_1_h__0 c50 (⟨m, [([2], (.cells [(.d (.sl (xmap e_string o2_0)))])), ([3], (.cells [(.d (.int .i64 o3_0))]))]⟩ :: stk) m [3] m [2] (h.gt _ _ _ _) (h.gt _ _ _ _) (Nat.le_refl _) (Nat.le_refl _) (h.do_ (by decide))
     try simp only [h.map_cons, h.map_nil, hA.1] at qc
     simp only [qc]
     simp only [h.st_]
     cbv
     cases hp
     all_goals first | rfl | (cbv; done)
   | c9 y52 =>
    simp only at hp
    try simp only [hA.1]
    cbv
    simp only [h.allsz_nil, h.allsz_cons]
    cbv
    simp only [h.allsz_nil, h.allsz_cons]
    cbv
    cases c54 : papp 16 o2_0 [y52] with
    | none => simp only [c54] at hp; cases hp
    | some l53 =>
     simp only [c54] at hp
     obtain ⟨q1, q2, q3⟩ := h.app e_string c54 rfl
     simp only [h.map_cons, h.map_nil, h.len_nil, hA.2.2.2.2] at q1 q2 q3
     try simp only [h.len_nil]
     cbv
     simp only [q1, q2, q3, if_true]
     cbv
     rw [h.at_, hT]
     cbv
     cases hp
     all_goals first | rfl | (cbv; done) | (simp only [h.lits, hA, el, O_dyn_Texts, A_dyn_Texts_1, if_true]; first | done | rfl | (cbv; done) | (cbv; simp only [h.lits, hA, el, O_dyn_Texts, A_dyn_Texts_1]; done))
   | c15 =>
    simp only at hp
    try simp only [hA.1]
    cbv
    simp only [h.nadd0, h.len_nil, h.cut_nil, h.nle_refl, h.cut_all, if_true]
    cbv
    cases c56 : c_dyn_Texts_1_h__0 .c15 o3_0 o2_0 with
    | none => simp only [c56] at hp; cases hp
    | some y57 =>
     obtain ⟨r55_w0_0, r55_w1_0⟩ := y57
     simp only [c56] at hp
     try simp only [List.map_cons, List.map_nil, Fr.get, Nat.reduceEqDiff, if_true, if_false]
     have qc := h_dyn_Texts_1_h__0 c56 (⟨m, [([2], (.cells [(.d (.sl (xmap e_string o2_0)))])), ([3], (.cells [(.d (.int .i64 o3_0))]))]⟩ :: stk) m [3] m [2] (h.gt _ _ _ _) (h.gt _ _ _ _) (Nat.le_refl _) (Nat.le_refl _) (h.do_ (by decide))
     try simp only [h.map_cons, h.map_nil, hA.1] at qc
     simp only [qc]
     simp only [h.st_]
     cbv
     cases hp
     all_goals first | rfl | (cbv; done)
   | c42 y58 =>
    simp only at hp
    try simp only [hA.1]
    cbv
    simp only [h.nadd0, h.len_nil, h.cut_nil, h.nle_refl, h.cut_all, if_true]
    cbv
    cases c60 : c_dyn_Texts_1_h__0 .c15 o3_0 o2_0 with
    | none => simp only [c60] at hp; cases hp
    | some y61 =>
     obtain ⟨r59_w0_0, r59_w1_0⟩ := y61
     simp only [c60] at hp
     try simp only [List.map_cons, List.map_nil, Fr.get, Nat.reduceEqDiff, if_true, if_false]
     have qc := h_dyn_Texts_1_h__0 c60 (⟨m, [([2], (.cells [(.d (.sl (xmap e_string o2_0)))])), ([3], (.cells [(.d (.int .i64 o3_0))]))]⟩ :: stk) m [3] m [2] (h.gt _ _ _ _) (h.gt _ _ _ _) (Nat.le_refl _) (Nat.le_refl _) (h.do_ (by decide))
     try simp only [h.map_cons, h.map_nil, hA.1] at qc
     simp only [qc]
     simp only [h.st_]
     cbv
     cases hp
     all_goals first | rfl | (cbv; done)
   | c44 y62 =>
    simp only at hp
    try simp only [hA.1]
    cbv
    simp only [h.nadd0, h.len_nil, h.cut_nil, h.nle_refl, h.cut_all, if_true]
    cbv
    cases c64 : c_dyn_Texts_1_h__0 .c15 o3_0 o2_0 with
    | none => simp only [c64] at hp; cases hp
    | some y65 =>
     obtain ⟨r63_w0_0, r63_w1_0⟩ := y65
     simp only [c64] at hp
     try simp only [List.map_cons, List.map_nil, Fr.get, Nat.reduceEqDiff, if_true, if_false]
     have qc := h_dyn_Texts_1_h__0 c64 (⟨m, [([2], (.cells [(.d (.sl (xmap e_string o2_0)))])), ([3], (.cells [(.d (.int .i64 o3_0))]))]⟩ :: stk) m [3] m [2] (h.gt _ _ _ _) (h.gt _ _ _ _) (Nat.le_refl _) (Nat.le_refl _) (h.do_ (by decide))
     try simp only [h.map_cons, h.map_nil, hA.1] at qc
     simp only [qc]
     simp only [h.st_]
     cbv
     cases hp
     all_goals first | rfl | (cbv; done)
   | c49 =>
    simp only at hp
    try simp only [hA.1]
    cbv
    simp only [h.nadd0, h.len_nil, h.cut_nil, h.nle_refl, h.cut_all, if_true]
    cbv
    cases c67 : c_dyn_Texts_1_h__0 .c15 o3_0 o2_0 with
    | none => simp only [c67] at hp; cases hp
    | some y68 =>
     obtain ⟨r66_w0_0, r66_w1_0⟩ := y68
     simp only [c67] at hp
     try simp only [List.map_cons, List.map_nil, Fr.get, Nat.reduceEqDiff, if_true, if_false]
     have qc := h_dyn_Texts_1_h__0 c67 (⟨m, [([2], (.cells [(.d (.sl (xmap e_string o2_0)))])), ([3], (.cells [(.d (.int .i64 o3_0))]))]⟩ :: stk) m [3] m [2] (h.gt _ _ _ _) (h.gt _ _ _ _) (Nat.le_refl _) (Nat.le_refl _) (h.do_ (by decide))
     try simp only [h.map_cons, h.map_nil, hA.1] at qc
     simp only [qc]
     simp only [h.st_]
     cbv
     cases hp
     all_goals first | rfl | (cbv; done)
   | c52 =>
    simp only at hp
    try simp only [hA.1]
    cbv
    simp only [h.nadd0, h.len_nil, h.cut_nil, h.nle_refl, h.cut_all, if_true]
    cbv
    cases c70 : c_dyn_Texts_1_h__0 .c15 o3_0 o2_0 with
    | none => simp only [c70] at hp; cases hp
    | some y71 =>
     obtain ⟨r69_w0_0, r69_w1_0⟩ := y71
     simp only [c70] at hp
     try simp only [List.map_cons, List.map_nil, Fr.get, Nat.reduceEqDiff, if_true, if_false]
     have qc := h_dyn_Texts_1_h__0 c70 (⟨m, [([2], (.cells [(.d (.sl (xmap e_string o2_0)))])), ([3], (.cells [(.d (.int .i64 o3_0))]))]⟩ :: stk) m [3] m [2] (h.gt _ _ _ _) (h.gt _ _ _ _) (Nat.le_refl _) (Nat.le_refl _) (h.do_ (by decide))
     try simp only [h.map_cons, h.map_nil, hA.1] at qc
     simp only [qc]
     simp only [h.st_]
     cbv
     cases hp
     all_goals first | rfl | (cbv; done)
end
def b_cascaderef04_Texts_0 (P : Prims)   (l_1 : T_cascaderef04_Texts_1 → Option R_cascaderef04_Texts) : T_cascaderef04_Texts_0 → Option R_cascaderef04_Texts
 | (v0_0, v0_1, v0_2, v0_3, v0_4) =>
 match P.cmp .neq v0_0 4 with
 | false =>
  l_1 (v0_0, v0_1, v0_2, v0_3, v0_4, 0, [])
 | true =>
  match P.cmp .neq v0_0 11 with
  | false =>
   l_1 (v0_0, v0_1, v0_2, v0_3, v0_4, 0, [])
  | true =>
   some ([], false)
section
variable   (m : Nat)    
include   m   
theorem o_cascaderef04_Texts_0 {l_1 : T_cascaderef04_Texts_1 → Option R_cascaderef04_Texts} (h_l_1 : H_cascaderef04_Texts_1 xat @xmap xlen e_api_Value e_api_Pair e_string m   l_1) : H_cascaderef04_Texts_0 xat @xmap e_api_Value e_api_Pair e_string m   (b_cascaderef04_Texts_0 PP   l_1) := by
 rintro ⟨v0_0, v0_1, v0_2, v0_3, v0_4⟩ out hp stk
 subst hPP
 simp only [b_cascaderef04_Texts_0] at hp
 simp only [A_cascaderef04_Texts_0]
 rw [h.at_, hT]
 cbv
 cases c1 : xcmp .neq v0_0 4 with
 | false =>
  simp only [c1] at hp ⊢
  cbv
  first | exact h_l_1 hp stk | (have q := h_l_1 hp stk; simp only [A_cascaderef04_Texts_1, h.lits, hA] at q; first | exact q | (cbv; exact q))
 | true =>
  simp only [c1] at hp ⊢
  cbv
  cases c2 : xcmp .neq v0_0 11 with
  | false =>
   simp only [c2] at hp ⊢
   cbv
   first | exact h_l_1 hp stk | (have q := h_l_1 hp stk; simp only [A_cascaderef04_Texts_1, h.lits, hA] at q; first | exact q | (cbv; exact q))
  | true =>
   simp only [c2] at hp ⊢
   cbv
   cases hp
   all_goals first | rfl | (cbv; done) | (simp only [h.lits, hA, el, O_cascaderef04_Texts, if_true]; first | done | rfl | (cbv; done) | (cbv; simp only [h.lits, hA, el, O_cascaderef04_Texts]; done))
def b_cascaderef04_Texts_1 (P : Prims)   (l_3 : T_cascaderef04_Texts_3 → Option R_cascaderef04_Texts) : T_cascaderef04_Texts_1 → Option R_cascaderef04_Texts
 | (v1_0, v1_1, v1_2, v1_3, v1_4, o4_g, o4) =>
 match P.cmp .eql v1_0 11 with
 | false =>
  l_3 (v1_0, v1_1, v1_2, v1_3, v1_4, o4_g, o4, 0)
 | true =>
  some (o4, true)
theorem o_cascaderef04_Texts_1 {l_3 : T_cascaderef04_Texts_3 → Option R_cascaderef04_Texts} (h_l_3 : H_cascaderef04_Texts_3 xat @xmap xlen e_api_Value e_api_Pair e_string m   l_3) : H_cascaderef04_Texts_1 xat @xmap xlen e_api_Value e_api_Pair e_string m   (b_cascaderef04_Texts_1 PP   l_3) := by
 rintro ⟨v1_0, v1_1, v1_2, v1_3, v1_4, o4_g, o4⟩ out hp stk
 subst hPP
 simp only [b_cascaderef04_Texts_1] at hp
 simp only [A_cascaderef04_Texts_1]
 rw [h.at_, hT]
 cbv
 cases c3 : xcmp .eql v1_0 11 with
 | false =>
  simp only [c3] at hp ⊢
  cbv
  rw [h.at_, hT]
  cbv
  first | exact h_l_3 hp stk | (have q := h_l_3 hp stk; simp only [A_cascaderef04_Texts_3, h.lits, hA] at q; first | exact q | (cbv; exact q))
 | true =>
  simp only [c3] at hp ⊢
  cbv
  cases hp
  all_goals first | rfl | (cbv; done) | (simp only [h.lits, hA, el, O_cascaderef04_Texts, if_true]; first | done | rfl | (cbv; done) | (cbv; simp only [h.lits, hA, el, O_cascaderef04_Texts]; done))
def b_cascaderef04_Texts_3 (P : Prims)    : T_cascaderef04_Texts_3 → Option (T_cascaderef04_Texts_3 ⊕ R_cascaderef04_Texts)
 | (v1_0, v1_1, v1_2, v1_3, v1_4, o4_g, o4, v5) =>
 match P.cmp .lss v5 (P.len v1_3) with
 | false =>
  some (.inr (o4, true))
 | true =>
  match P.idx v1_3 v5 with
  | none => none
  | some ⟨a5_0, a5_1, a5_2, a5_3, a5_4⟩ =>
   match P.cmp .neq a5_0 3 with
   | false =>
    match P.app 16 o4 [a5_2] with
    | none => none
    | some l8 =>
     some (.inl (v1_0, v1_1, v1_2, v1_3, v1_4, o4_g + 1, l8, P.ar .add .i64 v5 1))
   | true =>
    some (.inr ([], false))
theorem o_cascaderef04_Texts_3   : Hd (b_cascaderef04_Texts_3 PP   ) (A_cascaderef04_Texts_3 xat @xmap xlen e_api_Value e_api_Pair e_string m  ) (el (A_cascaderef04_Texts_3 xat @xmap xlen e_api_Value e_api_Pair e_string m  ) (O_cascaderef04_Texts @xmap e_string m  )) := by
 rintro ⟨v1_0, v1_1, v1_2, v1_3, v1_4, o4_g, o4, v5⟩ out hp stk
 subst hPP
 simp only [b_cascaderef04_Texts_3] at hp
 simp only [A_cascaderef04_Texts_3]
 rw [h.at_, hT]
 cbv
 try simp only [h.len]
 cases c4 : xcmp .lss v5 (plen v1_3) with
 | false =>
  simp only [c4] at hp ⊢
  cbv
  rw [h.at_, hT]
  cbv
  cases hp
  all_goals first | rfl | (cbv; done) | (simp only [h.lits, hA, el, O_cascaderef04_Texts, A_cascaderef04_Texts_3, if_true]; first | done | rfl | (cbv; done) | (cbv; simp only [h.lits, hA, el, O_cascaderef04_Texts, A_cascaderef04_Texts_3]; done))
 | true =>
  simp only [c4] at hp ⊢
  cbv
  rw [h.at_, hT]
  cbv
  cases c6 : pidx v1_3 v5 with
  | none => simp only [c6] at hp; cases hp
  | some y10 =>
   obtain ⟨a5_0, a5_1, a5_2, a5_3, a5_4⟩ := y10
   simp only [c6] at hp
   obtain ⟨q1, q2⟩ := h.idx e_api_Value c6
   try simp only [hA.2.2.1] at q2
   simp only [q1, Bool.false_eq_true, if_false]
   cbv
   try simp only [q2]
   cbv
   cases c7 : xcmp .neq a5_0 3 with
   | false =>
    simp only [c7] at hp ⊢
    cbv
    rw [h.at_, hT]
    cbv
    obtain ⟨q1, q2⟩ := h.idx e_api_Value c6
    try simp only [hA.2.2.1] at q2
    simp only [q1, Bool.false_eq_true, if_false]
    cbv
    try simp only [q2]
    cbv
    simp only [h.allsz_nil, h.allsz_cons]
    cbv
    simp only [h.allsz_nil, h.allsz_cons]
    cbv
    cases c9 : papp 16 o4 [a5_2] with
    | none => simp only [c9] at hp; cases hp
    | some l8 =>
     simp only [c9] at hp
     obtain ⟨q1, q2, q3⟩ := h.app e_string c9 rfl
     simp only [h.map_cons, h.map_nil, h.len_nil, hA.2.2.2.2] at q1 q2 q3
     try simp only [h.len_nil]
     cbv
     simp only [q1, q2, q3, if_true]
     cbv
     rw [h.at_, hT]
     cbv
     cases hp
     all_goals first | rfl | (cbv; done) | (simp only [h.lits, hA, el, O_cascaderef04_Texts, A_cascaderef04_Texts_3, if_true]; first | done | rfl | (cbv; done) | (cbv; simp only [h.lits, hA, el, O_cascaderef04_Texts, A_cascaderef04_Texts_3]; done))
   | true =>
    simp only [c7] at hp ⊢
    cbv
    cases hp
    all_goals first | rfl | (cbv; done) | (simp only [h.lits, hA, el, O_cascaderef04_Texts, A_cascaderef04_Texts_3, if_true]; first | done | rfl | (cbv; done) | (cbv; simp only [h.lits, hA, el, O_cascaderef04_Texts, A_cascaderef04_Texts_3]; done))
end
def b_cascadelaw04_DynTexts_0 (P : Prims) (c_cascadelaw04_awake : Y_cascadelaw04_awake) (c_cascaderef03_Few : Y_cascaderef03_Few) (c_dyn_Odd : Y_dyn_Odd) (c_dyn_Texts : Y_dyn_Texts) (c_cascaderef04_Texts : Y_cascaderef04_Texts)  (l_2 : T_cascadelaw04_DynTexts_2 → Option R_cascadelaw04_DynTexts) : T_cascadelaw04_DynTexts_0 → Option R_cascadelaw04_DynTexts
 | (v0_0, v0_1, v0_2, v0_3, v0_4) =>
 match c_cascadelaw04_awake with
 | none => none
 | some r1_0 =>
  match r1_0 with
  | false =>
   some r1_0
  | true =>
   match c_cascaderef03_Few ⟨v0_0, v0_1, v0_2, v0_3, v0_4⟩ 60 with
   | none => none
   | some r4_0 =>
    match r4_0 with
    | false =>
     some r1_0
    | true =>
     match c_dyn_Odd ⟨v0_0, v0_1, v0_2, v0_3, v0_4⟩ with
     | none => none
     | some r7_0 =>
      match c_dyn_Texts r7_0 with
      | none => none
      | some (r9_0, r9_1) =>
       match c_cascaderef04_Texts ⟨v0_0, v0_1, v0_2, v0_3, v0_4⟩ with
       | none => none
       | some (r11_0, r11_1) =>
        match P.cmp .eql r9_1 0 with
        | false =>
         match r11_1 with
         | false =>
          match P.cmp .eql r9_1 1 with
          | false =>
           some false
          | true =>
           match P.cmp .neq (P.len r9_0) (P.len r11_0) with
           | false =>
            l_2 (r9_0, r11_0)
           | true =>
            some false
         | true =>
          some false
        | true =>
         match r11_1 with
         | false =>
          some false
         | true =>
          match P.cmp .eql r9_1 1 with
          | false =>
           match P.cmp .neq (P.len r9_0) (P.len r11_0) with
           | false =>
            l_2 (r9_0, r11_0)
           | true =>
            some false
          | true =>
           some false
section
variable (c_cascadelaw04_awake : Y_cascadelaw04_awake) (c_cascaderef03_Few : Y_cascaderef03_Few) (c_dyn_Odd : Y_dyn_Odd) (c_dyn_Texts : Y_dyn_Texts) (c_cascaderef04_Texts : Y_cascaderef04_Texts) (h_cascadelaw04_awake : (C_cascadelaw04_awake xpcall xfcall c_cascadelaw04_awake)) (h_cascaderef03_Few : (C_cascaderef03_Few xpcall xfcall @xmap e_api_Value e_api_Pair c_cascaderef03_Few)) (h_dyn_Odd : (C_dyn_Odd xpcall xfcall @xmap e_any e_api_Value e_api_Pair c_dyn_Odd)) (h_dyn_Texts : (C_dyn_Texts xpcall xfcall @xmap e_any e_string c_dyn_Texts)) (h_cascaderef04_Texts : (C_cascaderef04_Texts xpcall xfcall @xmap e_api_Value e_api_Pair e_string c_cascaderef04_Texts)) (m : Nat)    
include c_cascadelaw04_awake c_cascaderef03_Few c_dyn_Odd c_dyn_Texts c_cascaderef04_Texts h_cascadelaw04_awake h_cascaderef03_Few h_dyn_Odd h_dyn_Texts h_cascaderef04_Texts m   
theorem o_cascadelaw04_DynTexts_0 {l_2 : T_cascadelaw04_DynTexts_2 → Option R_cascadelaw04_DynTexts} (h_l_2 : H_cascadelaw04_DynTexts_2 xat @xmap e_string m   l_2) : H_cascadelaw04_DynTexts_0 xat @xmap e_api_Value e_api_Pair m   (b_cascadelaw04_DynTexts_0 PP c_cascadelaw04_awake c_cascaderef03_Few c_dyn_Odd c_dyn_Texts c_cascaderef04_Texts  l_2) := by
 rintro ⟨v0_0, v0_1, v0_2, v0_3, v0_4⟩ out hp stk
 subst hPP
 simp only [b_cascadelaw04_DynTexts_0] at hp
 simp only [A_cascadelaw04_DynTexts_0]
 rw [h.at_, hT]
 cbv
 cases c2 : c_cascadelaw04_awake with
 | none => simp only [c2] at hp; cases hp
 | some r1_0 =>
  simp only [c2] at hp
  have qc := fun s => (h_cascadelaw04_awake c2 s).1
  simp only [qc]
  cbv
  cases r1_0 with
  | false =>
   simp only at hp
   cbv
   have qc := fun s => (h_cascadelaw04_awake c2 s).1
   simp only [qc]
   cbv
   cases hp
   all_goals first | rfl | (cbv; done)
  | true =>
   simp only at hp
   cbv
   cases c5 : c_cascaderef03_Few ⟨v0_0, v0_1, v0_2, v0_3, v0_4⟩ 60 with
   | none => simp only [c5] at hp; cases hp
   | some r4_0 =>
    simp only [c5] at hp
    have qc := fun s => (h_cascaderef03_Few c5 s).1
    simp only [qc]
    cbv
    cases r4_0 with
    | false =>
     simp only at hp
     cbv
     have qc := fun s => (h_cascadelaw04_awake c2 s).1
     simp only [qc]
     cbv
     cases hp
     all_goals first | rfl | (cbv; done)
    | true =>
     simp only at hp
     cbv
     rw [h.at_, hT]
     cbv
     cases c8 : c_dyn_Odd ⟨v0_0, v0_1, v0_2, v0_3, v0_4⟩ with
     | none => simp only [c8] at hp; cases hp
     | some r7_0 =>
      simp only [c8] at hp
      have qc := fun s => (h_dyn_Odd c8 s).1
      simp only [qc]
      cbv
      cases c10 : c_dyn_Texts r7_0 with
      | none => simp only [c10] at hp; cases hp
      | some y21 =>
       obtain ⟨r9_0, r9_1⟩ := y21
       simp only [c10] at hp
       have qc := fun s => (h_dyn_Texts c10 s).1
       simp only [qc]
       cbv
       cases c12 : c_cascaderef04_Texts ⟨v0_0, v0_1, v0_2, v0_3, v0_4⟩ with
       | none => simp only [c12] at hp; cases hp
       | some y20 =>
        obtain ⟨r11_0, r11_1⟩ := y20
        simp only [c12] at hp
        have qc := fun s => (h_cascaderef04_Texts c12 s).1
        simp only [qc]
        cbv
        cases c13 : xcmp .eql r9_1 0 with
        | false =>
         simp only [c13] at hp ⊢
         cbv
         cases r11_1 with
         | false =>
          simp only at hp
          cbv
          cases c18 : xcmp .eql r9_1 1 with
          | false =>
           simp only [c18] at hp ⊢
           cbv
           cases hp
           all_goals first | rfl | (cbv; done)
          | true =>
           simp only [c18] at hp ⊢
           cbv
           try simp only [h.len]
           try simp only [h.len]
           cases c19 : xcmp .neq (plen r9_0) (plen r11_0) with
           | false =>
            simp only [c19] at hp ⊢
            cbv
            first | exact h_l_2 hp stk | (have q := h_l_2 hp stk; simp only [A_cascadelaw04_DynTexts_2, h.lits, hA] at q; first | exact q | (cbv; exact q))
           | true =>
            simp only [c19] at hp ⊢
            cbv
            cases hp
            all_goals first | rfl | (cbv; done)
         | true =>
          simp only at hp
          cbv
          cases hp
          all_goals first | rfl | (cbv; done)
        | true =>
         simp only [c13] at hp ⊢
         cbv
         cases r11_1 with
         | false =>
          simp only at hp
          cbv
          cases hp
          all_goals first | rfl | (cbv; done)
         | true =>
          simp only at hp
          cbv
          cases c15 : xcmp .eql r9_1 1 with
          | false =>
           simp only [c15] at hp ⊢
           cbv
           try simp only [h.len]
           try simp only [h.len]
           cases c16 : xcmp .neq (plen r9_0) (plen r11_0) with
           | false =>
            simp only [c16] at hp ⊢
            cbv
            first | exact h_l_2 hp stk | (have q := h_l_2 hp stk; simp only [A_cascadelaw04_DynTexts_2, h.lits, hA] at q; first | exact q | (cbv; exact q))
           | true =>
            simp only [c16] at hp ⊢
            cbv
            cases hp
            all_goals first | rfl | (cbv; done)
          | true =>
           simp only [c15] at hp ⊢
           cbv
           cases hp
           all_goals first | rfl | (cbv; done)
def b_cascadelaw04_DynTexts_2 (P : Prims) (c_cascadelaw04_awake : Y_cascadelaw04_awake) (c_cascaderef03_Few : Y_cascaderef03_Few) (c_dyn_Odd : Y_dyn_Odd) (c_dyn_Texts : Y_dyn_Texts) (c_cascaderef04_Texts : Y_cascaderef04_Texts)  (l_3 : T_cascadelaw04_DynTexts_3 → Option R_cascadelaw04_DynTexts) : T_cascadelaw04_DynTexts_2 → Option R_cascadelaw04_DynTexts
 | (v3, v5) =>
 l_3 (v3, v5, 0)
theorem o_cascadelaw04_DynTexts_2 {l_3 : T_cascadelaw04_DynTexts_3 → Option R_cascadelaw04_DynTexts} (h_l_3 : H_cascadelaw04_DynTexts_3 xat @xmap e_string m   l_3) : H_cascadelaw04_DynTexts_2 xat @xmap e_string m   (b_cascadelaw04_DynTexts_2 PP c_cascadelaw04_awake c_cascaderef03_Few c_dyn_Odd c_dyn_Texts c_cascaderef04_Texts  l_3) := by
 rintro ⟨v3, v5⟩ out hp stk
 subst hPP
 simp only [b_cascadelaw04_DynTexts_2] at hp
 simp only [A_cascadelaw04_DynTexts_2]
 rw [h.at_, hT]
 cbv
 first | exact h_l_3 hp stk | (have q := h_l_3 hp stk; simp only [A_cascadelaw04_DynTexts_3, h.lits, hA] at q; first | exact q | (cbv; exact q))
def b_cascadelaw04_DynTexts_3 (P : Prims) (c_cascadelaw04_awake : Y_cascadelaw04_awake) (c_cascaderef03_Few : Y_cascaderef03_Few) (c_dyn_Odd : Y_dyn_Odd) (c_dyn_Texts : Y_dyn_Texts) (c_cascaderef04_Texts : Y_cascaderef04_Texts)   : T_cascadelaw04_DynTexts_3 → Option (T_cascadelaw04_DynTexts_3 ⊕ R_cascadelaw04_DynTexts)
 | (v3, v5, v7) =>
 match P.cmp .lss v7 (P.len v3) with
 | false =>
  some (.inr true)
 | true =>
  match P.idx v3 v7 with
  | none => none
  | some a23 =>
   match P.idx v5 v7 with
   | none => none
   | some a25 =>
    match P.seq a23 a25 with
    | false =>
     some (.inr false)
    | true =>
     some (.inl (v3, v5, P.ar .add .i64 v7 1))
theorem o_cascadelaw04_DynTexts_3   : Hd (b_cascadelaw04_DynTexts_3 PP c_cascadelaw04_awake c_cascaderef03_Few c_dyn_Odd c_dyn_Texts c_cascaderef04_Texts  ) (A_cascadelaw04_DynTexts_3 xat @xmap e_string m  ) (el (A_cascadelaw04_DynTexts_3 xat @xmap e_string m  ) (O_cascadelaw04_DynTexts  m  )) := by
 rintro ⟨v3, v5, v7⟩ out hp stk
 subst hPP
 simp only [b_cascadelaw04_DynTexts_3] at hp
 simp only [A_cascadelaw04_DynTexts_3]
 rw [h.at_, hT]
 cbv
 try simp only [h.len]
 cases c22 : xcmp .lss v7 (plen v3) with
 | false =>
  simp only [c22] at hp ⊢
  cbv
  rw [h.at_, hT]
  cbv
  cases hp
  all_goals first | rfl | (cbv; done)
 | true =>
  simp only [c22] at hp ⊢
  cbv
  rw [h.at_, hT]
  cbv
  cases c24 : pidx v3 v7 with
  | none => simp only [c24] at hp; cases hp
  | some a23 =>
   simp only [c24] at hp
   obtain ⟨q1, q2⟩ := h.idx e_string c24
   try simp only [hA.2.2.2.2] at q2
   simp only [q1, Bool.false_eq_true, if_false]
   cbv
   try simp only [q2]
   cbv
   cases c26 : pidx v5 v7 with
   | none => simp only [c26] at hp; cases hp
   | some a25 =>
    simp only [c26] at hp
    obtain ⟨q1, q2⟩ := h.idx e_string c26
    try simp only [hA.2.2.2.2] at q2
    simp only [q1, Bool.false_eq_true, if_false]
    cbv
    try simp only [q2]
    cbv
    cases c27 : xseq a23 a25 with
    | false =>
     simp only [c27] at hp ⊢
     cbv
     cases hp
     all_goals first | rfl | (cbv; done)
    | true =>
     simp only [c27] at hp ⊢
     cbv
     rw [h.at_, hT]
     cbv
     cases hp
     all_goals first | rfl | (cbv; done)
end
end
end Go.Abs.T
