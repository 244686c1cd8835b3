import Derived.Test.YtbfnelnbjcfliaaDoorDfT
set_option linter.unusedSimpArgs false
set_option linter.unusedVariables false
set_option linter.unusedSectionVars false
namespace Go.Abs.T
set_option maxRecDepth 100000
section
variable {PP : Prims} {xR : FuncId → Option RF} {xiter : (St → Rs) → St → Rs} {xG : Nat → Option (List D)} {xcall : CallF} {xpcall : FuncId → List V → Stk → Option V} {xfcall : FuncId → List V → Stk → Option (V × Stk)} {xkcall : FuncId → List (List Nat) → List V → Stk → Option (V × Level × Stk)} {xlen : List D → Nat} {xnth : List D → Nat → Option D} {xcut : List D → Nat → Nat → List D} {xapp : List D → List D → List D} {xset : List D → Nat → D → List D} {xrep : Nat → D → List D} {xallsz : Nat → List D → Bool} {xslen : Str → Nat} {xsnth : Str → Nat → Option UInt8} {xscut : Str → Nat → Nat → Str} {xsapp : Str → Str → Str} {xseq : Str → Str → Bool} {xslt : Str → Str → Bool} {xofStr : Str → List D} {xtoStr : List D → Option Str} {xdec : Str → Nat → Nat × Nat} {xenc : Int → Str} {xar : BinOp → IntKind → Int → Int → Int} {xcmp : BinOp → Int → Int → Bool} {xwrap : IntKind → Int → Int} {xisz : Int → Bool} {xneg : Int → Bool} {xnat : Int → Nat} {xofN : Nat → Int} {xbyte : UInt8 → Int} {xnle : Nat → Nat → Bool} {xnadd : Nat → Nat → Nat} {xnsub : Nat → Nat → Nat} {xfits : Nat → Nat → Bool} {xfind : D → List (D × Nat × V) → Option (Option V)} {xputE : D → Nat → V → List (D × Nat × V) → Option (List (D × Nat × V))} {xfindK : D → List D → List D → Option (Option D)} {xelen : List (D × Nat × V) → Nat} {xfrzM : List (D × Nat × V) → Option (List D × List D)} {xsamev : V → V → Bool} {xat : AtF} {xsetO : Stk → Lab → O → Stk} {xtop : Stk → Nat} {xsame : Stk → Stk → Bool} {xmap : {α : Type} → (α → D) → List α → List D} {xmapE : {α : Type} → (α → D) → List (Str × Nat × α) → List (D × Nat × V)} {pquo : BinOp → IntKind → Int → Int → Option Int} {pshf : BinOp → IntKind → Int → Int → Option Int} {pslen : Str → Int} {psidx : Str → Int → Option Int} {pssub : Str → Option Int → Option Int → Option Str} {pscat : Str → Str → Option Str} {psit : Str → Nat → Option (Int × Int × Nat)} {pslist : Str → Option (List Int)} {pofBytes : List Int → Str} {plen : {α : Type} → List α → Int} {pidx : {α : Type} → List α → Int → Option α} {psub : {α : Type} → List α → Option Int → Option Int → Option (List α)} {papp : {α : Type} → Nat → List α → List α → Option (List α)} {pset : {α : Type} → List α → Int → α → Option (List α)} {pmake : {α : Type} → Nat → α → Int → Option (List α)} {pmfind : {α : Type} → Str → List (Str × Nat × α) → Option α} {pmput : {α : Type} → Str → Nat → α → List (Str × Nat × α) → List (Str × Nat × α)} {ploop : {σ ρ : Type} → (σ → Option (σ ⊕ ρ)) → σ → Option ρ} {xT : FuncId → Option KF}
  (h : KLaws xR xiter xG xcall xpcall xfcall xkcall xlen xnth xcut xapp xset xrep xallsz xslen xsnth xscut xsapp xseq xslt xofStr xtoStr xdec xenc xar xcmp xwrap xisz xneg xnat xofN xbyte xnle xnadd xnsub xfits xfind xputE xfindK xelen xfrzM xsamev xat xsetO xtop xsame @xmap @xmapE pquo pshf pslen psidx pssub pscat psit pslist pofBytes @plen @pidx @psub @papp @pset @pmake @pmfind @pmput @ploop xT) (hT : xT = table) (hPP : PP = ⟨xar, xcmp, xwrap, xseq, xslt, xenc, pquo, pshf, pslen, psidx, pssub, pscat, psit, pslist, pofBytes, @plen, @pidx, @psub, @papp, @pset, @pmake, @pmfind, @pmput, @ploop⟩)
variable {e_any : S_any → D} {e_dyn_Member : S_dyn_Member → D} {e_api_Value : S_api_Value → D} {e_api_Pair : S_api_Pair → D} {e_int : Int → D} {e_string : Str → D} (hA : ((e_any .n = .nili) ∧ (∀ (x : Int), e_any (.c2 x) = (.iface 2 (.int .i64 x))) ∧ (∀ (x : Int), e_any (.c3 x) = (.iface 3 (.int .i64 x))) ∧ (∀ (x : Bool), e_any (.c4 x) = (.iface 4 (.bool x))) ∧ (∀ (x : Str), e_any (.c9 x) = (.iface 9 (.str x))) ∧ (∀ (x : Ls2), e_any (.c66 x) = (.iface 66 (.sl (xmap e_any x)))) ∧ (∀ (x : Ls3), e_any (.c68 x) = (.iface 68 (.sl (xmap e_dyn_Member x)))) ∧ (e_any .c71 = (.iface 71 .any))) ∧ (∀ (x_0 : Str) (x_1 : S_any), e_dyn_Member ⟨x_0, x_1⟩ = (.agg [(.str x_0), (e_any x_1)])) ∧ (∀ (x_0 x_1 : Int) (x_2 : Str) (x_3 : Ls0) (x_4 : Ls1), e_api_Value ⟨x_0, x_1, x_2, x_3, x_4⟩ = (.agg [(.int .i64 x_0), (.int .i64 x_1), (.str x_2), (.sl (xmap e_api_Value x_3)), (.sl (xmap e_api_Pair x_4))])) ∧ (∀ (x_0 : Str) (x_1_0 x_1_1 : Int) (x_1_2 : Str) (x_1_3 : Ls0) (x_1_4 : Ls1), e_api_Pair ⟨x_0, ⟨x_1_0, x_1_1, x_1_2, x_1_3, x_1_4⟩⟩ = (.agg [(.str x_0), (.int .i64 x_1_0), (.int .i64 x_1_1), (.str x_1_2), (.sl (xmap e_api_Value x_1_3)), (.sl (xmap e_api_Pair x_1_4))])) ∧ (∀ (x : Int), e_int x = (.int .i64 x)) ∧ (∀ (x : Str), e_string x = (.str x))) (hZ : (∀ l, xallsz 1 (xmap e_any l) = true) ∧ (∀ l, xallsz 2 (xmap e_dyn_Member l) = true) ∧ (∀ l, xallsz 5 (xmap e_api_Value l) = true) ∧ (∀ l, xallsz 6 (xmap e_api_Pair l) = true) ∧ (∀ l, xallsz 1 (xmap e_int l) = true) ∧ (∀ l, xallsz 1 (xmap e_string l) = true)) (hF : ∀ v, (e_any v).flat = true ∧ (e_any v).cells = [e_any v])
include h hT hPP hA hZ hF
def b_dyn_Kind_0 (P : Prims)   (v0 : S_any) : Option (Int) :=
 match v0 with
 | .n =>
  some 0
 | .c2 y1 =>
  some 2
 | .c3 y2 =>
  some 2
 | .c4 y3 =>
  some 1
 | .c9 y4 =>
  some 3
 | .c66 y5 =>
  some 4
 | .c68 y6 =>
  some 5
 | .c71 =>
  some (-1)
section
variable   (stk : Stk) (m : Nat)   
include   stk m  
theorem o_dyn_Kind_0  (v0 : S_any)   {out} (hp : b_dyn_Kind_0 PP   v0 = some out) : (A_dyn_Kind_0 xat e_any m  v0 stk) = (O_dyn_Kind  m  stk) out := by
 subst hPP
 simp only [b_dyn_Kind_0] at hp
 unfold A_dyn_Kind_0
 rw [h.at_, hT]
 cbv
 cases v0 with
 | n =>
  simp only at hp
  try simp only [hA.1]
  cbv
  cases hp
  all_goals first | rfl | (cbv; done)
 | c2 y1 =>
  simp only at hp
  try simp only [hA.1]
  cbv
  cases hp
  all_goals first | rfl | (cbv; done)
 | c3 y2 =>
  simp only at hp
  try simp only [hA.1]
  cbv
  cases hp
  all_goals first | rfl | (cbv; done)
 | c4 y3 =>
  simp only at hp
  try simp only [hA.1]
  cbv
  cases hp
  all_goals first | rfl | (cbv; done)
 | c9 y4 =>
  simp only at hp
  try simp only [hA.1]
  cbv
  cases hp
  all_goals first | rfl | (cbv; done)
 | c66 y5 =>
  simp only at hp
  try simp only [hA.1]
  cbv
  cases hp
  all_goals first | rfl | (cbv; done)
 | c68 y6 =>
  simp only at hp
  try simp only [hA.1]
  cbv
  cases hp
  all_goals first | rfl | (cbv; done)
 | c71 =>
  simp only at hp
  try simp only [hA.1]
  cbv
  rw [h.at_, hT]
  cbv
  cases hp
  all_goals first | rfl | (cbv; done)
end
def b_cascadelaw04_awake_0 (P : Prims) (c_dyn_Kind : S_any → Option (Int))   : Option (Bool) :=
 match c_dyn_Kind (.c9 [97]) with
 | none => none
 | some r1_0 =>
  match P.cmp .eql r1_0 3 with
  | false =>
   some false
  | true =>
   match c_dyn_Kind (.c4 true) with
   | none => none
   | some r4_0 =>
    some (P.cmp .eql r4_0 1)
section
variable (c_dyn_Kind : S_any → Option (Int)) (h_dyn_Kind : (C_dyn_Kind xpcall xfcall e_any c_dyn_Kind)) (stk : Stk) (m : Nat)   
include c_dyn_Kind h_dyn_Kind stk m  
theorem o_cascadelaw04_awake_0     {out} (hp : b_cascadelaw04_awake_0 PP c_dyn_Kind   = some out) : (A_cascadelaw04_awake_0 xat m   stk) = (O_cascadelaw04_awake  m  stk) out := by
 subst hPP
 simp only [b_cascadelaw04_awake_0] at hp
 unfold A_cascadelaw04_awake_0
 rw [h.at_, hT]
 cbv
 cases c2 : c_dyn_Kind (.c9 [97]) with
 | none => simp only [c2] at hp; cases hp
 | some r1_0 =>
  simp only [c2] at hp
  have qc := fun s => (h_dyn_Kind c2 s).1
  try simp only [h.map_cons, h.map_nil, hA.1] at qc
  simp only [qc]
  cbv
  cases c3 : xcmp .eql r1_0 3 with
  | false =>
   simp only [c3] at hp ⊢
   cbv
   cases hp
   all_goals first | rfl | (cbv; done)
  | true =>
   simp only [c3] at hp ⊢
   cbv
   cases c5 : c_dyn_Kind (.c4 true) with
   | none => simp only [c5] at hp; cases hp
   | some r4_0 =>
    simp only [c5] at hp
    have qc := fun s => (h_dyn_Kind c5 s).1
    try simp only [h.map_cons, h.map_nil, hA.1] at qc
    simp only [qc]
    cbv
    cases hp
    all_goals first | rfl | (cbv; done)
end
def b_cascaderef03_few_0 (P : Prims) (c_cascaderef03_few : S_api_Value → Int → Option (Int)) (l_2 : T_cascaderef03_few_2) (v0_0 v0_1 : Int) (v0_2 : Str) (v0_3 : Ls0) (v0_4 : Ls1) (v1 : Int) : Option (Int) :=
 match P.cmp .lss v1 1 with
 | false =>
  match P.cmp .gtr (P.slen v0_2) 500 with
  | false =>
   l_2 (P.ar .sub .i64 v1 1) v0_0 v0_1 v0_2 v0_3 v0_4 0
  | true =>
   some (-1)
 | true =>
  some (-1)
section
variable (c_cascaderef03_few : S_api_Value → Int → Option (Int)) (h_cascaderef03_few : (C_cascaderef03_few xpcall xfcall @xmap e_api_Value e_api_Pair c_cascaderef03_few)) (stk : Stk) (m : Nat)   
include c_cascaderef03_few h_cascaderef03_few stk m  
theorem o_cascaderef03_few_0 (l_2 : T_cascaderef03_few_2) (v0_0 v0_1 : Int) (v0_2 : Str) (v0_3 : Ls0) (v0_4 : Ls1) (v1 : Int)  (h_l_2 : H_cascaderef03_few_2 xat @xmap e_api_Value e_api_Pair m  l_2) {out} (hp : b_cascaderef03_few_0 PP c_cascaderef03_few l_2 v0_0 v0_1 v0_2 v0_3 v0_4 v1 = some out) : (A_cascaderef03_few_0 xat @xmap e_api_Value e_api_Pair m  v0_0 v0_1 v0_2 v0_3 v0_4 v1 stk) = (O_cascaderef03_few  m  stk) out := by
 subst hPP
 simp only [b_cascaderef03_few_0] at hp
 unfold A_cascaderef03_few_0
 rw [h.at_, hT]
 cbv
 cases c1 : xcmp .lss v1 1 with
 | false =>
  simp only [c1] at hp ⊢
  cbv
  try simp only [h.slen]
  cases c2 : xcmp .gtr (pslen v0_2) 500 with
  | false =>
   simp only [c2] at hp ⊢
   cbv
   rw [h.at_, hT]
   cbv
   first | exact h_l_2 hp stk | (have q := h_l_2 hp stk; simp only [A_cascaderef03_few_2, h.map_cons, h.map_nil, h.mapE_nil, h.len_nil, hA] at q; first | exact q | (cbv; exact q))
  | true =>
   simp only [c2] at hp ⊢
   cbv
   cases hp
   all_goals first | rfl | (cbv; done)
 | true =>
  simp only [c1] at hp ⊢
  cbv
  cases hp
  all_goals first | rfl | (cbv; done)
def b_cascaderef03_few_2 (P : Prims) (c_cascaderef03_few : S_api_Value → Int → Option (Int)) (l_5 : T_cascaderef03_few_5) (v1 v2_0 v2_1 : Int) (v2_2 : Str) (v2_3 : Ls0) (v2_4 : Ls1) (v5 : Int) : Option ((Int × Int × Int × Str × Ls0 × Ls1 × Int) ⊕ (Int)) :=
 match P.cmp .lss v5 (P.len v2_3) with
 | false =>
  match l_5 v1 v2_0 v2_1 v2_2 v2_3 v2_4 with | none => none | some o11 => some (.inr o11)
 | true =>
  match P.cmp .geq v1 0 with
  | false =>
   match l_5 v1 v2_0 v2_1 v2_2 v2_3 v2_4 with | none => none | some o10 => some (.inr o10)
  | true =>
   match P.idx v2_3 v5 with
   | none => none
   | some ⟨a5_0, a5_1, a5_2, a5_3, a5_4⟩ =>
    match c_cascaderef03_few ⟨a5_0, a5_1, a5_2, a5_3, a5_4⟩ v1 with
    | none => none
    | some r7_0 =>
     some (.inl (r7_0, v2_0, v2_1, v2_2, v2_3, v2_4, P.ar .add .i64 v5 1))
theorem o_cascaderef03_few_2 (l_5 : T_cascaderef03_few_5) (v1 v2_0 v2_1 : Int) (v2_2 : Str) (v2_3 : Ls0) (v2_4 : Ls1) (v5 : Int)  (h_l_5 : H_cascaderef03_few_5 xat @xmap e_api_Value e_api_Pair m  l_5) {out} (hp : b_cascaderef03_few_2 PP c_cascaderef03_few l_5 v1 v2_0 v2_1 v2_2 v2_3 v2_4 v5 = some out) : (A_cascaderef03_few_2 xat @xmap e_api_Value e_api_Pair m  v1 v2_0 v2_1 v2_2 v2_3 v2_4 v5 stk) = (Sum.elim (fun (v1, v2_0, v2_1, v2_2, v2_3, v2_4, v5) => (A_cascaderef03_few_2 xat @xmap e_api_Value e_api_Pair m  v1 v2_0 v2_1 v2_2 v2_3 v2_4 v5 stk)) (O_cascaderef03_few  m  stk)) out := by
 subst hPP
 simp only [b_cascaderef03_few_2] at hp
 unfold A_cascaderef03_few_2
 rw [h.at_, hT]
 cbv
 try simp only [h.len]
 cases c3 : xcmp .lss v5 (plen v2_3) with
 | false =>
  simp only [c3] at hp ⊢
  cbv
  cases c : l_5 v1 v2_0 v2_1 v2_2 v2_3 v2_4 with
  | none => simp only [c] at hp; cases hp
  | some o11 =>
   simp only [c] at hp
   cases hp
   first | exact h_l_5 c stk | (have q := h_l_5 c stk; simp only [A_cascaderef03_few_5, h.map_cons, h.map_nil, h.mapE_nil, h.len_nil, hA] at q; first | exact q | (cbv; exact q))
 | true =>
  simp only [c3] at hp ⊢
  cbv
  cases c4 : xcmp .geq v1 0 with
  | false =>
   simp only [c4] at hp ⊢
   cbv
   cases c : l_5 v1 v2_0 v2_1 v2_2 v2_3 v2_4 with
   | none => simp only [c] at hp; cases hp
   | some o10 =>
    simp only [c] at hp
    cases hp
    first | exact h_l_5 c stk | (have q := h_l_5 c stk; simp only [A_cascaderef03_few_5, h.map_cons, h.map_nil, h.mapE_nil, h.len_nil, hA] at q; first | exact q | (cbv; exact q))
  | true =>
   simp only [c4] at hp ⊢
   cbv
   rw [h.at_, hT]
   cbv
   cases c6 : pidx v2_3 v5 with
   | none => simp only [c6] at hp; cases hp
   | some y9 =>
    obtain ⟨a5_0, a5_1, a5_2, a5_3, a5_4⟩ := y9
    simp only [c6] at hp
    obtain ⟨q1, q2⟩ := h.idx e_api_Value c6
    try simp only [hA.2.2.1] at q2
    simp only [q1, Bool.false_eq_true, if_false]
    cbv
    try simp only [q2]
    cbv
    cases c8 : c_cascaderef03_few ⟨a5_0, a5_1, a5_2, a5_3, a5_4⟩ v1 with
    | none => simp only [c8] at hp; cases hp
    | some r7_0 =>
     simp only [c8] at hp
     have qc := fun s => (h_cascaderef03_few c8 s).1
     simp only [qc]
     cbv
     rw [h.at_, hT]
     cbv
     cases hp
     all_goals first | rfl | (cbv; done)
def b_cascaderef03_few_5 (P : Prims) (c_cascaderef03_few : S_api_Value → Int → Option (Int)) (l_6 : T_cascaderef03_few_6) (v1 v2_0 v2_1 : Int) (v2_2 : Str) (v2_3 : Ls0) (v2_4 : Ls1) : Option (Int) :=
 l_6 v1 v2_0 v2_1 v2_2 v2_3 v2_4 0
theorem o_cascaderef03_few_5 (l_6 : T_cascaderef03_few_6) (v1 v2_0 v2_1 : Int) (v2_2 : Str) (v2_3 : Ls0) (v2_4 : Ls1)  (h_l_6 : H_cascaderef03_few_6 xat @xmap e_api_Value e_api_Pair m  l_6) {out} (hp : b_cascaderef03_few_5 PP c_cascaderef03_few l_6 v1 v2_0 v2_1 v2_2 v2_3 v2_4 = some out) : (A_cascaderef03_few_5 xat @xmap e_api_Value e_api_Pair m  v1 v2_0 v2_1 v2_2 v2_3 v2_4 stk) = (O_cascaderef03_few  m  stk) out := by
 subst hPP
 simp only [b_cascaderef03_few_5] at hp
 unfold A_cascaderef03_few_5
 rw [h.at_, hT]
 cbv
 first | exact h_l_6 hp stk | (have q := h_l_6 hp stk; simp only [A_cascaderef03_few_6, h.map_cons, h.map_nil, h.mapE_nil, h.len_nil, hA] at q; first | exact q | (cbv; exact q))
def b_cascaderef03_few_6 (P : Prims) (c_cascaderef03_few : S_api_Value → Int → Option (Int)) (l_10 : T_cascaderef03_few_10) (v1 v2_0 v2_1 : Int) (v2_2 : Str) (v2_3 : Ls0) (v2_4 : Ls1) (v6 : Int) : Option ((Int × Int × Int × Str × Ls0 × Ls1 × Int) ⊕ (Int)) :=
 match P.cmp .lss v6 (P.len v2_4) with
 | false =>
  match l_10 v1 with | none => none | some o21 => some (.inr o21)
 | true =>
  match P.cmp .geq v1 0 with
  | false =>
   match l_10 v1 with | none => none | some o20 => some (.inr o20)
  | true =>
   match P.idx v2_4 v6 with
   | none => none
   | some ⟨a14_0, ⟨a14_1_0, a14_1_1, a14_1_2, a14_1_3, a14_1_4⟩⟩ =>
    match P.cmp .gtr (P.slen a14_0) 500 with
    | false =>
     match c_cascaderef03_few ⟨a14_1_0, a14_1_1, a14_1_2, a14_1_3, a14_1_4⟩ v1 with
     | none => none
     | some r17_0 =>
      some (.inl (r17_0, v2_0, v2_1, v2_2, v2_3, v2_4, P.ar .add .i64 v6 1))
    | true =>
     some (.inr (-1))
theorem o_cascaderef03_few_6 (l_10 : T_cascaderef03_few_10) (v1 v2_0 v2_1 : Int) (v2_2 : Str) (v2_3 : Ls0) (v2_4 : Ls1) (v6 : Int)  (h_l_10 : H_cascaderef03_few_10 xat m  l_10) {out} (hp : b_cascaderef03_few_6 PP c_cascaderef03_few l_10 v1 v2_0 v2_1 v2_2 v2_3 v2_4 v6 = some out) : (A_cascaderef03_few_6 xat @xmap e_api_Value e_api_Pair m  v1 v2_0 v2_1 v2_2 v2_3 v2_4 v6 stk) = (Sum.elim (fun (v1, v2_0, v2_1, v2_2, v2_3, v2_4, v6) => (A_cascaderef03_few_6 xat @xmap e_api_Value e_api_Pair m  v1 v2_0 v2_1 v2_2 v2_3 v2_4 v6 stk)) (O_cascaderef03_few  m  stk)) out := by
 subst hPP
 simp only [b_cascaderef03_few_6] at hp
 unfold A_cascaderef03_few_6
 rw [h.at_, hT]
 cbv
 try simp only [h.len]
 cases c12 : xcmp .lss v6 (plen v2_4) with
 | false =>
  simp only [c12] at hp ⊢
  cbv
  cases c : l_10 v1 with
  | none => simp only [c] at hp; cases hp
  | some o21 =>
   simp only [c] at hp
   cases hp
   first | exact h_l_10 c stk | (have q := h_l_10 c stk; simp only [A_cascaderef03_few_10, h.map_cons, h.map_nil, h.mapE_nil, h.len_nil, hA] at q; first | exact q | (cbv; exact q))
 | true =>
  simp only [c12] at hp ⊢
  cbv
  cases c13 : xcmp .geq v1 0 with
  | false =>
   simp only [c13] at hp ⊢
   cbv
   cases c : l_10 v1 with
   | none => simp only [c] at hp; cases hp
   | some o20 =>
    simp only [c] at hp
    cases hp
    first | exact h_l_10 c stk | (have q := h_l_10 c stk; simp only [A_cascaderef03_few_10, h.map_cons, h.map_nil, h.mapE_nil, h.len_nil, hA] at q; first | exact q | (cbv; exact q))
  | true =>
   simp only [c13] at hp ⊢
   cbv
   rw [h.at_, hT]
   cbv
   cases c15 : pidx v2_4 v6 with
   | none => simp only [c15] at hp; cases hp
   | some y19 =>
    obtain ⟨a14_0, ⟨a14_1_0, a14_1_1, a14_1_2, a14_1_3, a14_1_4⟩⟩ := y19
    simp only [c15] at hp
    obtain ⟨q1, q2⟩ := h.idx e_api_Pair c15
    try simp only [hA.2.2.2.1] at q2
    simp only [q1, Bool.false_eq_true, if_false]
    cbv
    try simp only [q2]
    cbv
    try simp only [h.slen]
    cases c16 : xcmp .gtr (pslen a14_0) 500 with
    | false =>
     simp only [c16] at hp ⊢
     cbv
     rw [h.at_, hT]
     cbv
     obtain ⟨q1, q2⟩ := h.idx e_api_Pair c15
     try simp only [hA.2.2.2.1] at q2
     simp only [q1, Bool.false_eq_true, if_false]
     cbv
     try simp only [q2]
     cbv
     cases c18 : c_cascaderef03_few ⟨a14_1_0, a14_1_1, a14_1_2, a14_1_3, a14_1_4⟩ v1 with
     | none => simp only [c18] at hp; cases hp
     | some r17_0 =>
      simp only [c18] at hp
      have qc := fun s => (h_cascaderef03_few c18 s).1
      simp only [qc]
      cbv
      rw [h.at_, hT]
      cbv
      cases hp
      all_goals first | rfl | (cbv; done)
    | true =>
     simp only [c16] at hp ⊢
     cbv
     cases hp
     all_goals first | rfl | (cbv; done)
def b_cascaderef03_few_10 (P : Prims) (c_cascaderef03_few : S_api_Value → Int → Option (Int))  (v1 : Int) : Option (Int) :=
 some v1
theorem o_cascaderef03_few_10  (v1 : Int)   {out} (hp : b_cascaderef03_few_10 PP c_cascaderef03_few  v1 = some out) : (A_cascaderef03_few_10 xat m  v1 stk) = (O_cascaderef03_few  m  stk) out := by
 subst hPP
 simp only [b_cascaderef03_few_10] at hp
 unfold A_cascaderef03_few_10
 rw [h.at_, hT]
 cbv
 cases hp
 all_goals first | rfl | (cbv; done)
end
def b_cascaderef03_Few_0 (P : Prims) (c_cascaderef03_few : S_api_Value → Int → Option (Int))  (v0_0 v0_1 : Int) (v0_2 : Str) (v0_3 : Ls0) (v0_4 : Ls1) (v1 : Int) : Option (Bool) :=
 match c_cascaderef03_few ⟨v0_0, v0_1, v0_2, v0_3, v0_4⟩ v1 with
 | none => none
 | some r1_0 =>
  some (P.cmp .geq r1_0 0)
section
variable (c_cascaderef03_few : S_api_Value → Int → Option (Int)) (h_cascaderef03_few : (C_cascaderef03_few xpcall xfcall @xmap e_api_Value e_api_Pair c_cascaderef03_few)) (stk : Stk) (m : Nat)   
include c_cascaderef03_few h_cascaderef03_few stk m  
theorem o_cascaderef03_Few_0  (v0_0 v0_1 : Int) (v0_2 : Str) (v0_3 : Ls0) (v0_4 : Ls1) (v1 : Int)   {out} (hp : b_cascaderef03_Few_0 PP c_cascaderef03_few  v0_0 v0_1 v0_2 v0_3 v0_4 v1 = some out) : (A_cascaderef03_Few_0 xat @xmap e_api_Value e_api_Pair m  v0_0 v0_1 v0_2 v0_3 v0_4 v1 stk) = (O_cascaderef03_Few  m  stk) out := by
 subst hPP
 simp only [b_cascaderef03_Few_0] at hp
 unfold A_cascaderef03_Few_0
 rw [h.at_, hT]
 cbv
 cases c2 : c_cascaderef03_few ⟨v0_0, v0_1, v0_2, v0_3, v0_4⟩ v1 with
 | none => simp only [c2] at hp; cases hp
 | some r1_0 =>
  simp only [c2] at hp
  have qc := fun s => (h_cascaderef03_few c2 s).1
  simp only [qc]
  cbv
  cases hp
  all_goals first | rfl | (cbv; done)
end
def b_dyn_to_0 (P : Prims) (c_dyn_to : S_api_Value → Option (S_any)) (l_1 : T_dyn_to_1) (l_5 : T_dyn_to_5) (v0_0 v0_1 : Int) (v0_2 : Str) (v0_3 : Ls0) (v0_4 : Ls1) : Option (S_any) :=
 match P.cmp .eql v0_0 1 with
 | false =>
  match P.cmp .eql v0_0 2 with
  | false =>
   match P.cmp .eql v0_0 3 with
   | false =>
    match P.cmp .eql v0_0 4 with
    | false =>
     match P.cmp .eql v0_0 5 with
     | false =>
      some .n
     | true =>
      l_5 0 [] v0_4 (P.len v0_4) 0
    | true =>
     l_1 0 [] v0_3 (P.len v0_3) 0
   | true =>
    some (.c9 v0_2)
  | true =>
   some (.c2 v0_1)
 | true =>
  some (.c4 (P.cmp .eql v0_1 1))
section
variable (c_dyn_to : S_api_Value → Option (S_any)) (h_dyn_to : (C_dyn_to xpcall xfcall @xmap e_any e_api_Value e_api_Pair c_dyn_to)) (stk : Stk) (m : Nat)   
include c_dyn_to h_dyn_to stk m  
theorem o_dyn_to_0 (l_1 : T_dyn_to_1) (l_5 : T_dyn_to_5) (v0_0 v0_1 : Int) (v0_2 : Str) (v0_3 : Ls0) (v0_4 : Ls1)  (h_l_1 : H_dyn_to_1 xat @xmap xlen e_any e_api_Value m  l_1) (h_l_5 : H_dyn_to_5 xat @xmap xlen e_any e_dyn_Member e_api_Pair m  l_5) {out} (hp : b_dyn_to_0 PP c_dyn_to l_1 l_5 v0_0 v0_1 v0_2 v0_3 v0_4 = some out) : (A_dyn_to_0 xat @xmap e_api_Value e_api_Pair m  v0_0 v0_1 v0_2 v0_3 v0_4 stk) = (O_dyn_to e_any m  stk) out := by
 subst hPP
 simp only [b_dyn_to_0] at hp
 unfold A_dyn_to_0
 rw [h.at_, hT]
 cbv
 cases c1 : xcmp .eql v0_0 1 with
 | false =>
  simp only [c1] at hp ⊢
  cbv
  cases c2 : xcmp .eql v0_0 2 with
  | false =>
   simp only [c2] at hp ⊢
   cbv
   cases c3 : xcmp .eql v0_0 3 with
   | false =>
    simp only [c3] at hp ⊢
    cbv
    cases c4 : xcmp .eql v0_0 4 with
    | false =>
     simp only [c4] at hp ⊢
     cbv
     cases c5 : xcmp .eql v0_0 5 with
     | false =>
      simp only [c5] at hp ⊢
      cbv
      rw [h.at_, hT]
      cbv
      cases hp
      all_goals first | rfl | (cbv; done) | (simp only [h.nadd0, h.nle_refl, h.cut_all, h.cut_nil, h.map_cons, h.map_nil, h.mapE_nil, h.len_nil, hA, O_dyn_to, if_true]; first | done | rfl | (cbv; done) | (cbv; simp only [h.map_cons, h.map_nil, h.mapE_nil, h.len_nil, hA, O_dyn_to]; done))
     | true =>
      simp only [c5] at hp ⊢
      cbv
      try simp only [h.allsz_nil, h.allsz_cons, if_true, h.len_nil]
      cbv
      try simp only [h.allsz_nil, if_true]
      try cbv
      try simp only [h.len]
      first | exact h_l_5 hp stk | (have q := h_l_5 hp stk; simp only [A_dyn_to_5, h.map_cons, h.map_nil, h.mapE_nil, h.len_nil, hA] at q; first | exact q | (cbv; exact q))
    | true =>
     simp only [c4] at hp ⊢
     cbv
     try simp only [h.allsz_nil, h.allsz_cons, if_true, h.len_nil]
     cbv
     try simp only [h.allsz_nil, if_true]
     try cbv
     try simp only [h.len]
     first | exact h_l_1 hp stk | (have q := h_l_1 hp stk; simp only [A_dyn_to_1, h.map_cons, h.map_nil, h.mapE_nil, h.len_nil, hA] at q; first | exact q | (cbv; exact q))
   | true =>
    simp only [c3] at hp ⊢
    cbv
    cases hp
    all_goals first | rfl | (cbv; done) | (simp only [h.nadd0, h.nle_refl, h.cut_all, h.cut_nil, h.map_cons, h.map_nil, h.mapE_nil, h.len_nil, hA, O_dyn_to, if_true]; first | done | rfl | (cbv; done) | (cbv; simp only [h.map_cons, h.map_nil, h.mapE_nil, h.len_nil, hA, O_dyn_to]; done))
  | true =>
   simp only [c2] at hp ⊢
   cbv
   cases hp
   all_goals first | rfl | (cbv; done) | (simp only [h.nadd0, h.nle_refl, h.cut_all, h.cut_nil, h.map_cons, h.map_nil, h.mapE_nil, h.len_nil, hA, O_dyn_to, if_true]; first | done | rfl | (cbv; done) | (cbv; simp only [h.map_cons, h.map_nil, h.mapE_nil, h.len_nil, hA, O_dyn_to]; done))
 | true =>
  simp only [c1] at hp ⊢
  cbv
  cases hp
  all_goals first | rfl | (cbv; done) | (simp only [h.nadd0, h.nle_refl, h.cut_all, h.cut_nil, h.map_cons, h.map_nil, h.mapE_nil, h.len_nil, hA, O_dyn_to, if_true]; first | done | rfl | (cbv; done) | (cbv; simp only [h.map_cons, h.map_nil, h.mapE_nil, h.len_nil, hA, O_dyn_to]; done))
def b_dyn_to_1 (P : Prims) (c_dyn_to : S_api_Value → Option (S_any))  (o29_g : Nat) (o29 : Ls2) (v31 : Ls0) (v32 v33 : Int) : Option ((Nat × Ls2 × Ls0 × Int × Int) ⊕ (S_any)) :=
 match P.cmp .lss v33 v32 with
 | false =>
  some (.inr (.c66 o29))
 | true =>
  match P.idx v31 v33 with
  | none => none
  | some ⟨a7_0, a7_1, a7_2, a7_3, a7_4⟩ =>
   match c_dyn_to ⟨a7_0, a7_1, a7_2, a7_3, a7_4⟩ with
   | none => none
   | some r9_0 =>
    match P.app 16 o29 [r9_0] with
    | none => none
    | some l11 =>
     some (.inl (o29_g + 1, l11, v31, v32, P.ar .add .i64 v33 1))
theorem o_dyn_to_1  (o29_g : Nat) (o29 : Ls2) (v31 : Ls0) (v32 v33 : Int)   {out} (hp : b_dyn_to_1 PP c_dyn_to  o29_g o29 v31 v32 v33 = some out) : (A_dyn_to_1 xat @xmap xlen e_any e_api_Value m  o29_g o29 v31 v32 v33 stk) = (Sum.elim (fun (o29_g, o29, v31, v32, v33) => (A_dyn_to_1 xat @xmap xlen e_any e_api_Value m  o29_g o29 v31 v32 v33 stk)) (O_dyn_to e_any m  stk)) out := by
 subst hPP
 simp only [b_dyn_to_1] at hp
 unfold A_dyn_to_1
 rw [h.at_, hT]
 cbv
 cases c6 : xcmp .lss v33 v32 with
 | false =>
  simp only [c6] at hp ⊢
  cbv
  rw [h.at_, hT]
  cbv
  cases hp
  all_goals first | rfl | (cbv; done) | (simp only [h.nadd0, h.nle_refl, h.cut_all, h.cut_nil, h.map_cons, h.map_nil, h.mapE_nil, h.len_nil, hA, O_dyn_to, A_dyn_to_1, if_true]; first | done | rfl | (cbv; done) | (cbv; simp only [h.map_cons, h.map_nil, h.mapE_nil, h.len_nil, hA, O_dyn_to, A_dyn_to_1]; done))
 | true =>
  simp only [c6] at hp ⊢
  cbv
  rw [h.at_, hT]
  cbv
  cases c8 : pidx v31 v33 with
  | none => simp only [c8] at hp; cases hp
  | some y13 =>
   obtain ⟨a7_0, a7_1, a7_2, a7_3, a7_4⟩ := y13
   simp only [c8] at hp
   obtain ⟨q1, q2⟩ := h.idx e_api_Value c8
   try simp only [hA.2.2.1] at q2
   simp only [q1, Bool.false_eq_true, if_false]
   cbv
   try simp only [q2]
   cbv
   cases c10 : c_dyn_to ⟨a7_0, a7_1, a7_2, a7_3, a7_4⟩ with
   | none => simp only [c10] at hp; cases hp
   | some r9_0 =>
    simp only [c10] at hp
    have qc := fun s => (h_dyn_to c10 s).1
    simp only [qc]
    cbv
    have qz := hZ.1 [r9_0]
    simp only [h.map_cons, h.map_nil] at qz
    try simp only [hA.1] at qz
    simp only [qz, if_true]
    cbv
    have qz := hZ.1 [r9_0]
    simp only [h.map_cons, h.map_nil] at qz
    try simp only [hA.1] at qz
    simp only [qz, if_true]
    cbv
    cases c12 : papp 16 o29 [r9_0] with
    | none => simp only [c12] at hp; cases hp
    | some l11 =>
     simp only [c12] at hp
     obtain ⟨q1, q2, q3⟩ := h.app e_any c12 rfl
     simp only [h.map_cons, h.map_nil, h.len_nil, hA.1] at q1 q2 q3
     try simp only [h.len_nil]
     cbv
     simp only [q1, q2, q3, if_true]
     cbv
     rw [h.at_, hT]
     cbv
     cases hp
     all_goals first | rfl | (cbv; done) | (simp only [h.nadd0, h.nle_refl, h.cut_all, h.cut_nil, h.map_cons, h.map_nil, h.mapE_nil, h.len_nil, hA, O_dyn_to, A_dyn_to_1, if_true]; first | done | rfl | (cbv; done) | (cbv; simp only [h.map_cons, h.map_nil, h.mapE_nil, h.len_nil, hA, O_dyn_to, A_dyn_to_1]; done))
def b_dyn_to_5 (P : Prims) (c_dyn_to : S_api_Value → Option (S_any))  (o47_g : Nat) (o47 : Ls3) (v49 : Ls1) (v50 v51 : Int) : Option ((Nat × Ls3 × Ls1 × Int × Int) ⊕ (S_any)) :=
 match P.cmp .lss v51 v50 with
 | false =>
  some (.inr (.c68 o47))
 | true =>
  match P.idx v49 v51 with
  | none => none
  | some ⟨a15_0, ⟨a15_1_0, a15_1_1, a15_1_2, a15_1_3, a15_1_4⟩⟩ =>
   match c_dyn_to ⟨a15_1_0, a15_1_1, a15_1_2, a15_1_3, a15_1_4⟩ with
   | none => none
   | some r17_0 =>
    match P.app 32 o47 [⟨a15_0, r17_0⟩] with
    | none => none
    | some l19 =>
     some (.inl (o47_g + 1, l19, v49, v50, P.ar .add .i64 v51 1))
theorem o_dyn_to_5  (o47_g : Nat) (o47 : Ls3) (v49 : Ls1) (v50 v51 : Int)   {out} (hp : b_dyn_to_5 PP c_dyn_to  o47_g o47 v49 v50 v51 = some out) : (A_dyn_to_5 xat @xmap xlen e_dyn_Member e_api_Pair m  o47_g o47 v49 v50 v51 stk) = (Sum.elim (fun (o47_g, o47, v49, v50, v51) => (A_dyn_to_5 xat @xmap xlen e_dyn_Member e_api_Pair m  o47_g o47 v49 v50 v51 stk)) (O_dyn_to e_any m  stk)) out := by
 subst hPP
 simp only [b_dyn_to_5] at hp
 unfold A_dyn_to_5
 rw [h.at_, hT]
 cbv
 cases c14 : xcmp .lss v51 v50 with
 | false =>
  simp only [c14] at hp ⊢
  cbv
  rw [h.at_, hT]
  cbv
  cases hp
  all_goals first | rfl | (cbv; done) | (simp only [h.nadd0, h.nle_refl, h.cut_all, h.cut_nil, h.map_cons, h.map_nil, h.mapE_nil, h.len_nil, hA, O_dyn_to, A_dyn_to_5, if_true]; first | done | rfl | (cbv; done) | (cbv; simp only [h.map_cons, h.map_nil, h.mapE_nil, h.len_nil, hA, O_dyn_to, A_dyn_to_5]; done))
 | true =>
  simp only [c14] at hp ⊢
  cbv
  rw [h.at_, hT]
  cbv
  cases c16 : pidx v49 v51 with
  | none => simp only [c16] at hp; cases hp
  | some y21 =>
   obtain ⟨a15_0, ⟨a15_1_0, a15_1_1, a15_1_2, a15_1_3, a15_1_4⟩⟩ := y21
   simp only [c16] at hp
   obtain ⟨q1, q2⟩ := h.idx e_api_Pair c16
   try simp only [hA.2.2.2.1] at q2
   simp only [q1, Bool.false_eq_true, if_false]
   cbv
   try simp only [q2]
   cbv
   cases c18 : c_dyn_to ⟨a15_1_0, a15_1_1, a15_1_2, a15_1_3, a15_1_4⟩ with
   | none => simp only [c18] at hp; cases hp
   | some r17_0 =>
    simp only [c18] at hp
    have qc := fun s => (h_dyn_to c18 s).1
    simp only [qc]
    cbv
    have qf := hF r17_0
    have qg := qf
    cbv at qg
    iterate 3 (try (simp only [qf, qg]; cbv))
    simp only [h.allsz_nil, h.allsz_cons]
    cbv
    simp only [h.allsz_nil, h.allsz_cons]
    cbv
    cases c20 : papp 32 o47 [⟨a15_0, r17_0⟩] with
    | none => simp only [c20] at hp; cases hp
    | some l19 =>
     simp only [c20] at hp
     obtain ⟨q1, q2, q3⟩ := h.app e_dyn_Member c20 rfl
     simp only [h.map_cons, h.map_nil, h.len_nil, hA.2.1] at q1 q2 q3
     try simp only [h.len_nil]
     cbv
     simp only [q1, q2, q3, if_true]
     cbv
     rw [h.at_, hT]
     cbv
     cases hp
     all_goals first | rfl | (cbv; done) | (simp only [h.nadd0, h.nle_refl, h.cut_all, h.cut_nil, h.map_cons, h.map_nil, h.mapE_nil, h.len_nil, hA, O_dyn_to, A_dyn_to_5, if_true]; first | done | rfl | (cbv; done) | (cbv; simp only [h.map_cons, h.map_nil, h.mapE_nil, h.len_nil, hA, O_dyn_to, A_dyn_to_5]; done))
end
def b_dyn_Odd_0 (P : Prims) (c_dyn_to : S_api_Value → Option (S_any)) (c_dyn_Odd : S_api_Value → Option (S_any)) (l_1 : T_dyn_Odd_1) (l_5 : T_dyn_Odd_5) (v0_0 v0_1 : Int) (v0_2 : Str) (v0_3 : Ls0) (v0_4 : Ls1) : Option (S_any) :=
 match P.cmp .eql v0_0 4 with
 | false =>
  match P.cmp .eql v0_0 5 with
  | false =>
   match P.cmp .eql v0_0 9 with
   | false =>
    match P.cmp .eql v0_0 10 with
    | false =>
     match P.cmp .eql v0_0 11 with
     | false =>
      match P.cmp .eql v0_0 12 with
      | false =>
       match c_dyn_to ⟨v0_0, v0_1, v0_2, v0_3, v0_4⟩ with
       | none => none
       | some r7_0 =>
        some r7_0
      | true =>
       some (.c68 [])
     | true =>
      some (.c66 [])
    | true =>
     some .c71
   | true =>
    some (.c3 v0_1)
  | true =>
   l_5 0 [] v0_4 (P.len v0_4) 0
 | true =>
  l_1 0 [] v0_3 (P.len v0_3) 0
section
variable (c_dyn_to : S_api_Value → Option (S_any)) (c_dyn_Odd : S_api_Value → Option (S_any)) (h_dyn_to : (C_dyn_to xpcall xfcall @xmap e_any e_api_Value e_api_Pair c_dyn_to)) (h_dyn_Odd : (C_dyn_Odd xpcall xfcall @xmap e_any e_api_Value e_api_Pair c_dyn_Odd)) (stk : Stk) (m : Nat)   
include c_dyn_to c_dyn_Odd h_dyn_to h_dyn_Odd stk m  
theorem o_dyn_Odd_0 (l_1 : T_dyn_Odd_1) (l_5 : T_dyn_Odd_5) (v0_0 v0_1 : Int) (v0_2 : Str) (v0_3 : Ls0) (v0_4 : Ls1)  (h_l_1 : H_dyn_Odd_1 xat @xmap xlen e_any e_api_Value m  l_1) (h_l_5 : H_dyn_Odd_5 xat @xmap xlen e_any e_dyn_Member e_api_Pair m  l_5) {out} (hp : b_dyn_Odd_0 PP c_dyn_to c_dyn_Odd l_1 l_5 v0_0 v0_1 v0_2 v0_3 v0_4 = some out) : (A_dyn_Odd_0 xat @xmap e_api_Value e_api_Pair m  v0_0 v0_1 v0_2 v0_3 v0_4 stk) = (O_dyn_Odd e_any m  stk) out := by
 subst hPP
 simp only [b_dyn_Odd_0] at hp
 unfold A_dyn_Odd_0
 rw [h.at_, hT]
 cbv
 cases c1 : xcmp .eql v0_0 4 with
 | false =>
  simp only [c1] at hp ⊢
  cbv
  cases c2 : xcmp .eql v0_0 5 with
  | false =>
   simp only [c2] at hp ⊢
   cbv
   cases c3 : xcmp .eql v0_0 9 with
   | false =>
    simp only [c3] at hp ⊢
    cbv
    cases c4 : xcmp .eql v0_0 10 with
    | false =>
     simp only [c4] at hp ⊢
     cbv
     cases c5 : xcmp .eql v0_0 11 with
     | false =>
      simp only [c5] at hp ⊢
      cbv
      cases c6 : xcmp .eql v0_0 12 with
      | false =>
       simp only [c6] at hp ⊢
       cbv
       rw [h.at_, hT]
       cbv
       cases c8 : c_dyn_to ⟨v0_0, v0_1, v0_2, v0_3, v0_4⟩ with
       | none => simp only [c8] at hp; cases hp
       | some r7_0 =>
        simp only [c8] at hp
        have qc := fun s => (h_dyn_to c8 s).1
        simp only [qc]
        cbv
        cases hp
        all_goals first | rfl | (cbv; done)
      | true =>
       simp only [c6] at hp ⊢
       cbv
       cases hp
       all_goals first | rfl | (cbv; done) | (simp only [h.nadd0, h.nle_refl, h.cut_all, h.cut_nil, h.map_cons, h.map_nil, h.mapE_nil, h.len_nil, hA, O_dyn_Odd, if_true]; first | done | rfl | (cbv; done) | (cbv; simp only [h.map_cons, h.map_nil, h.mapE_nil, h.len_nil, hA, O_dyn_Odd]; done))
     | true =>
      simp only [c5] at hp ⊢
      cbv
      cases hp
      all_goals first | rfl | (cbv; done) | (simp only [h.nadd0, h.nle_refl, h.cut_all, h.cut_nil, h.map_cons, h.map_nil, h.mapE_nil, h.len_nil, hA, O_dyn_Odd, if_true]; first | done | rfl | (cbv; done) | (cbv; simp only [h.map_cons, h.map_nil, h.mapE_nil, h.len_nil, hA, O_dyn_Odd]; done))
    | true =>
     simp only [c4] at hp ⊢
     cbv
     cases hp
     all_goals first | rfl | (cbv; done) | (simp only [h.nadd0, h.nle_refl, h.cut_all, h.cut_nil, h.map_cons, h.map_nil, h.mapE_nil, h.len_nil, hA, O_dyn_Odd, if_true]; first | done | rfl | (cbv; done) | (cbv; simp only [h.map_cons, h.map_nil, h.mapE_nil, h.len_nil, hA, O_dyn_Odd]; done))
   | true =>
    simp only [c3] at hp ⊢
    cbv
    cases hp
    all_goals first | rfl | (cbv; done) | (simp only [h.nadd0, h.nle_refl, h.cut_all, h.cut_nil, h.map_cons, h.map_nil, h.mapE_nil, h.len_nil, hA, O_dyn_Odd, if_true]; first | done | rfl | (cbv; done) | (cbv; simp only [h.map_cons, h.map_nil, h.mapE_nil, h.len_nil, hA, O_dyn_Odd]; done))
  | true =>
   simp only [c2] at hp ⊢
   cbv
   try simp only [h.allsz_nil, h.allsz_cons, if_true, h.len_nil]
   cbv
   try simp only [h.allsz_nil, if_true]
   try cbv
   try simp only [h.len]
   first | exact h_l_5 hp stk | (have q := h_l_5 hp stk; simp only [A_dyn_Odd_5, h.map_cons, h.map_nil, h.mapE_nil, h.len_nil, hA] at q; first | exact q | (cbv; exact q))
 | true =>
  simp only [c1] at hp ⊢
  cbv
  try simp only [h.allsz_nil, h.allsz_cons, if_true, h.len_nil]
  cbv
  try simp only [h.allsz_nil, if_true]
  try cbv
  try simp only [h.len]
  first | exact h_l_1 hp stk | (have q := h_l_1 hp stk; simp only [A_dyn_Odd_1, h.map_cons, h.map_nil, h.mapE_nil, h.len_nil, hA] at q; first | exact q | (cbv; exact q))
def b_dyn_Odd_1 (P : Prims) (c_dyn_to : S_api_Value → Option (S_any)) (c_dyn_Odd : S_api_Value → Option (S_any))  (o13_g : Nat) (o13 : Ls2) (v15 : Ls0) (v16 v17 : Int) : Option ((Nat × Ls2 × Ls0 × Int × Int) ⊕ (S_any)) :=
 match P.cmp .lss v17 v16 with
 | false =>
  some (.inr (.c66 o13))
 | true =>
  match P.idx v15 v17 with
  | none => none
  | some ⟨a10_0, a10_1, a10_2, a10_3, a10_4⟩ =>
   match c_dyn_Odd ⟨a10_0, a10_1, a10_2, a10_3, a10_4⟩ with
   | none => none
   | some r12_0 =>
    match P.app 16 o13 [r12_0] with
    | none => none
    | some l14 =>
     some (.inl (o13_g + 1, l14, v15, v16, P.ar .add .i64 v17 1))
theorem o_dyn_Odd_1  (o13_g : Nat) (o13 : Ls2) (v15 : Ls0) (v16 v17 : Int)   {out} (hp : b_dyn_Odd_1 PP c_dyn_to c_dyn_Odd  o13_g o13 v15 v16 v17 = some out) : (A_dyn_Odd_1 xat @xmap xlen e_any e_api_Value m  o13_g o13 v15 v16 v17 stk) = (Sum.elim (fun (o13_g, o13, v15, v16, v17) => (A_dyn_Odd_1 xat @xmap xlen e_any e_api_Value m  o13_g o13 v15 v16 v17 stk)) (O_dyn_Odd e_any m  stk)) out := by
 subst hPP
 simp only [b_dyn_Odd_1] at hp
 unfold A_dyn_Odd_1
 rw [h.at_, hT]
 cbv
 cases c9 : xcmp .lss v17 v16 with
 | false =>
  simp only [c9] at hp ⊢
  cbv
  rw [h.at_, hT]
  cbv
  cases hp
  all_goals first | rfl | (cbv; done) | (simp only [h.nadd0, h.nle_refl, h.cut_all, h.cut_nil, h.map_cons, h.map_nil, h.mapE_nil, h.len_nil, hA, O_dyn_Odd, A_dyn_Odd_1, if_true]; first | done | rfl | (cbv; done) | (cbv; simp only [h.map_cons, h.map_nil, h.mapE_nil, h.len_nil, hA, O_dyn_Odd, A_dyn_Odd_1]; done))
 | true =>
  simp only [c9] at hp ⊢
  cbv
  rw [h.at_, hT]
  cbv
  cases c11 : pidx v15 v17 with
  | none => simp only [c11] at hp; cases hp
  | some y16 =>
   obtain ⟨a10_0, a10_1, a10_2, a10_3, a10_4⟩ := y16
   simp only [c11] at hp
   obtain ⟨q1, q2⟩ := h.idx e_api_Value c11
   try simp only [hA.2.2.1] at q2
   simp only [q1, Bool.false_eq_true, if_false]
   cbv
   try simp only [q2]
   cbv
   cases c13 : c_dyn_Odd ⟨a10_0, a10_1, a10_2, a10_3, a10_4⟩ with
   | none => simp only [c13] at hp; cases hp
   | some r12_0 =>
    simp only [c13] at hp
    have qc := fun s => (h_dyn_Odd c13 s).1
    simp only [qc]
    cbv
    have qz := hZ.1 [r12_0]
    simp only [h.map_cons, h.map_nil] at qz
    try simp only [hA.1] at qz
    simp only [qz, if_true]
    cbv
    have qz := hZ.1 [r12_0]
    simp only [h.map_cons, h.map_nil] at qz
    try simp only [hA.1] at qz
    simp only [qz, if_true]
    cbv
    cases c15 : papp 16 o13 [r12_0] with
    | none => simp only [c15] at hp; cases hp
    | some l14 =>
     simp only [c15] at hp
     obtain ⟨q1, q2, q3⟩ := h.app e_any c15 rfl
     simp only [h.map_cons, h.map_nil, h.len_nil, hA.1] at q1 q2 q3
     try simp only [h.len_nil]
     cbv
     simp only [q1, q2, q3, if_true]
     cbv
     rw [h.at_, hT]
     cbv
     cases hp
     all_goals first | rfl | (cbv; done) | (simp only [h.nadd0, h.nle_refl, h.cut_all, h.cut_nil, h.map_cons, h.map_nil, h.mapE_nil, h.len_nil, hA, O_dyn_Odd, A_dyn_Odd_1, if_true]; first | done | rfl | (cbv; done) | (cbv; simp only [h.map_cons, h.map_nil, h.mapE_nil, h.len_nil, hA, O_dyn_Odd, A_dyn_Odd_1]; done))
def b_dyn_Odd_5 (P : Prims) (c_dyn_to : S_api_Value → Option (S_any)) (c_dyn_Odd : S_api_Value → Option (S_any))  (o31_g : Nat) (o31 : Ls3) (v33 : Ls1) (v34 v35 : Int) : Option ((Nat × Ls3 × Ls1 × Int × Int) ⊕ (S_any)) :=
 match P.cmp .lss v35 v34 with
 | false =>
  some (.inr (.c68 o31))
 | true =>
  match P.idx v33 v35 with
  | none => none
  | some ⟨a18_0, ⟨a18_1_0, a18_1_1, a18_1_2, a18_1_3, a18_1_4⟩⟩ =>
   match c_dyn_Odd ⟨a18_1_0, a18_1_1, a18_1_2, a18_1_3, a18_1_4⟩ with
   | none => none
   | some r20_0 =>
    match P.app 32 o31 [⟨a18_0, r20_0⟩] with
    | none => none
    | some l22 =>
     some (.inl (o31_g + 1, l22, v33, v34, P.ar .add .i64 v35 1))
theorem o_dyn_Odd_5  (o31_g : Nat) (o31 : Ls3) (v33 : Ls1) (v34 v35 : Int)   {out} (hp : b_dyn_Odd_5 PP c_dyn_to c_dyn_Odd  o31_g o31 v33 v34 v35 = some out) : (A_dyn_Odd_5 xat @xmap xlen e_dyn_Member e_api_Pair m  o31_g o31 v33 v34 v35 stk) = (Sum.elim (fun (o31_g, o31, v33, v34, v35) => (A_dyn_Odd_5 xat @xmap xlen e_dyn_Member e_api_Pair m  o31_g o31 v33 v34 v35 stk)) (O_dyn_Odd e_any m  stk)) out := by
 subst hPP
 simp only [b_dyn_Odd_5] at hp
 unfold A_dyn_Odd_5
 rw [h.at_, hT]
 cbv
 cases c17 : xcmp .lss v35 v34 with
 | false =>
  simp only [c17] at hp ⊢
  cbv
  rw [h.at_, hT]
  cbv
  cases hp
  all_goals first | rfl | (cbv; done) | (simp only [h.nadd0, h.nle_refl, h.cut_all, h.cut_nil, h.map_cons, h.map_nil, h.mapE_nil, h.len_nil, hA, O_dyn_Odd, A_dyn_Odd_5, if_true]; first | done | rfl | (cbv; done) | (cbv; simp only [h.map_cons, h.map_nil, h.mapE_nil, h.len_nil, hA, O_dyn_Odd, A_dyn_Odd_5]; done))
 | true =>
  simp only [c17] at hp ⊢
  cbv
  rw [h.at_, hT]
  cbv
  cases c19 : pidx v33 v35 with
  | none => simp only [c19] at hp; cases hp
  | some y24 =>
   obtain ⟨a18_0, ⟨a18_1_0, a18_1_1, a18_1_2, a18_1_3, a18_1_4⟩⟩ := y24
   simp only [c19] at hp
   obtain ⟨q1, q2⟩ := h.idx e_api_Pair c19
   try simp only [hA.2.2.2.1] at q2
   simp only [q1, Bool.false_eq_true, if_false]
   cbv
   try simp only [q2]
   cbv
   cases c21 : c_dyn_Odd ⟨a18_1_0, a18_1_1, a18_1_2, a18_1_3, a18_1_4⟩ with
   | none => simp only [c21] at hp; cases hp
   | some r20_0 =>
    simp only [c21] at hp
    have qc := fun s => (h_dyn_Odd c21 s).1
    simp only [qc]
    cbv
    have qf := hF r20_0
    have qg := qf
    cbv at qg
    iterate 3 (try (simp only [qf, qg]; cbv))
    simp only [h.allsz_nil, h.allsz_cons]
    cbv
    simp only [h.allsz_nil, h.allsz_cons]
    cbv
    cases c23 : papp 32 o31 [⟨a18_0, r20_0⟩] with
    | none => simp only [c23] at hp; cases hp
    | some l22 =>
     simp only [c23] at hp
     obtain ⟨q1, q2, q3⟩ := h.app e_dyn_Member c23 rfl
     simp only [h.map_cons, h.map_nil, h.len_nil, hA.2.1] at q1 q2 q3
     try simp only [h.len_nil]
     cbv
     simp only [q1, q2, q3, if_true]
     cbv
     rw [h.at_, hT]
     cbv
     cases hp
     all_goals first | rfl | (cbv; done) | (simp only [h.nadd0, h.nle_refl, h.cut_all, h.cut_nil, h.map_cons, h.map_nil, h.mapE_nil, h.len_nil, hA, O_dyn_Odd, A_dyn_Odd_5, if_true]; first | done | rfl | (cbv; done) | (cbv; simp only [h.map_cons, h.map_nil, h.mapE_nil, h.len_nil, hA, O_dyn_Odd, A_dyn_Odd_5]; done))
end
def b_dyn_from_0 (P : Prims) (c_dyn_Kind : S_any → Option (Int)) (c_dyn_from : S_any → Int → Option (S_api_Value × Bool)) (l_1 : T_dyn_from_1) (l_4 : T_dyn_from_4) (l_7 : T_dyn_from_7) (v0 : S_any) (v1 : Int) : Option (S_api_Value × Bool) :=
 match c_dyn_Kind v0 with
 | none => none
 | some r1_0 =>
  match P.cmp .geq r1_0 0 with
  | false =>
   match v0 with
   | .n =>
    l_7 false 0 0 [] [] [] r1_0 0 [] 0 [] 0 []
   | .c2 y11 =>
    l_7 false 0 0 [] [] [] r1_0 y11 [] 0 [] 0 []
   | .c3 y12 =>
    l_7 false 0 0 [] [] [] r1_0 y12 [] 0 [] 0 []
   | .c4 y13 =>
    match y13 with
    | false =>
     l_7 false 0 0 [] [] [] r1_0 0 [] 0 [] 0 []
    | true =>
     l_7 false 0 0 [] [] [] r1_0 1 [] 0 [] 0 []
   | .c9 y15 =>
    l_7 false 0 0 [] [] [] r1_0 0 y15 0 [] 0 []
   | .c66 y16 =>
    l_1 v1 false y16 0 0 0 [] [] [] r1_0 0 [] 0 [] 0 []
   | .c68 y17 =>
    l_4 v1 false y17 0 0 0 [] [] [] r1_0 0 [] 0 [] 0 []
   | .c71 =>
    l_7 false 0 0 [] [] [] r1_0 0 [] 0 [] 0 []
  | true =>
   match v0 with
   | .n =>
    l_7 (P.cmp .gtr v1 0) 0 0 [] [] [] r1_0 0 [] 0 [] 0 []
   | .c2 y4 =>
    l_7 (P.cmp .gtr v1 0) 0 0 [] [] [] r1_0 y4 [] 0 [] 0 []
   | .c3 y5 =>
    l_7 (P.cmp .gtr v1 0) 0 0 [] [] [] r1_0 y5 [] 0 [] 0 []
   | .c4 y6 =>
    match y6 with
    | false =>
     l_7 (P.cmp .gtr v1 0) 0 0 [] [] [] r1_0 0 [] 0 [] 0 []
    | true =>
     l_7 (P.cmp .gtr v1 0) 0 0 [] [] [] r1_0 1 [] 0 [] 0 []
   | .c9 y8 =>
    l_7 (P.cmp .gtr v1 0) 0 0 [] [] [] r1_0 0 y8 0 [] 0 []
   | .c66 y9 =>
    l_1 v1 (P.cmp .gtr v1 0) y9 0 0 0 [] [] [] r1_0 0 [] 0 [] 0 []
   | .c68 y10 =>
    l_4 v1 (P.cmp .gtr v1 0) y10 0 0 0 [] [] [] r1_0 0 [] 0 [] 0 []
   | .c71 =>
    l_7 (P.cmp .gtr v1 0) 0 0 [] [] [] r1_0 0 [] 0 [] 0 []
section
variable (c_dyn_Kind : S_any → Option (Int)) (c_dyn_from : S_any → Int → Option (S_api_Value × Bool)) (h_dyn_Kind : (C_dyn_Kind xpcall xfcall e_any c_dyn_Kind)) (h_dyn_from : (C_dyn_from xpcall xfcall @xmap e_any e_api_Value e_api_Pair c_dyn_from)) (stk : Stk) (m : Nat)   
include c_dyn_Kind c_dyn_from h_dyn_Kind h_dyn_from stk m  
theorem o_dyn_from_0 (l_1 : T_dyn_from_1) (l_4 : T_dyn_from_4) (l_7 : T_dyn_from_7) (v0 : S_any) (v1 : Int)  (h_l_1 : H_dyn_from_1 xat @xmap xlen e_any e_api_Value e_api_Pair m  l_1) (h_l_4 : H_dyn_from_4 xat @xmap xlen e_dyn_Member e_api_Value e_api_Pair m  l_4) (h_l_7 : H_dyn_from_7 xat @xmap xlen e_api_Value e_api_Pair m  l_7) {out} (hp : b_dyn_from_0 PP c_dyn_Kind c_dyn_from l_1 l_4 l_7 v0 v1 = some out) : (A_dyn_from_0 xat e_any m  v0 v1 stk) = (O_dyn_from @xmap e_api_Value e_api_Pair m  stk) out := by
 subst hPP
 simp only [b_dyn_from_0] at hp
 unfold A_dyn_from_0
 rw [h.at_, hT]
 cbv
 cases c2 : c_dyn_Kind v0 with
 | none => simp only [c2] at hp; cases hp
 | some r1_0 =>
  simp only [c2] at hp
  have qc := fun s => (h_dyn_Kind c2 s).1
  simp only [qc]
  cbv
  cases c3 : xcmp .geq r1_0 0 with
  | false =>
   simp only [c3] at hp ⊢
   cbv
   cases v0 with
   | n =>
    simp only at hp
    try simp only [hA.1]
    cbv
    first | exact h_l_7 hp stk | (have q := h_l_7 hp stk; simp only [A_dyn_from_7, h.map_cons, h.map_nil, h.mapE_nil, h.len_nil, hA] at q; first | exact q | (cbv; exact q))
   | c2 y11 =>
    simp only at hp
    try simp only [hA.1]
    cbv
    first | exact h_l_7 hp stk | (have q := h_l_7 hp stk; simp only [A_dyn_from_7, h.map_cons, h.map_nil, h.mapE_nil, h.len_nil, hA] at q; first | exact q | (cbv; exact q))
   | c3 y12 =>
    simp only at hp
    try simp only [hA.1]
    cbv
    first | exact h_l_7 hp stk | (have q := h_l_7 hp stk; simp only [A_dyn_from_7, h.map_cons, h.map_nil, h.mapE_nil, h.len_nil, hA] at q; first | exact q | (cbv; exact q))
   | c4 y13 =>
    simp only at hp
    try simp only [hA.1]
    cbv
    cases y13 with
    | false =>
     simp only at hp
     cbv
     first | exact h_l_7 hp stk | (have q := h_l_7 hp stk; simp only [A_dyn_from_7, h.map_cons, h.map_nil, h.mapE_nil, h.len_nil, hA] at q; first | exact q | (cbv; exact q))
    | true =>
     simp only at hp
     cbv
     first | exact h_l_7 hp stk | (have q := h_l_7 hp stk; simp only [A_dyn_from_7, h.map_cons, h.map_nil, h.mapE_nil, h.len_nil, hA] at q; first | exact q | (cbv; exact q))
   | c9 y15 =>
    simp only at hp
    try simp only [hA.1]
    cbv
    first | exact h_l_7 hp stk | (have q := h_l_7 hp stk; simp only [A_dyn_from_7, h.map_cons, h.map_nil, h.mapE_nil, h.len_nil, hA] at q; first | exact q | (cbv; exact q))
   | c66 y16 =>
    simp only at hp
    try simp only [hA.1]
    cbv
    first | exact h_l_1 hp stk | (have q := h_l_1 hp stk; simp only [A_dyn_from_1, h.map_cons, h.map_nil, h.mapE_nil, h.len_nil, hA] at q; first | exact q | (cbv; exact q))
   | c68 y17 =>
    simp only at hp
    try simp only [hA.1]
    cbv
    first | exact h_l_4 hp stk | (have q := h_l_4 hp stk; simp only [A_dyn_from_4, h.map_cons, h.map_nil, h.mapE_nil, h.len_nil, hA] at q; first | exact q | (cbv; exact q))
   | c71 =>
    simp only at hp
    try simp only [hA.1]
    cbv
    first | exact h_l_7 hp stk | (have q := h_l_7 hp stk; simp only [A_dyn_from_7, h.map_cons, h.map_nil, h.mapE_nil, h.len_nil, hA] at q; first | exact q | (cbv; exact q))
  | true =>
   simp only [c3] at hp ⊢
   cbv
   cases v0 with
   | n =>
    simp only at hp
    try simp only [hA.1]
    cbv
    first | exact h_l_7 hp stk | (have q := h_l_7 hp stk; simp only [A_dyn_from_7, h.map_cons, h.map_nil, h.mapE_nil, h.len_nil, hA] at q; first | exact q | (cbv; exact q))
   | c2 y4 =>
    simp only at hp
    try simp only [hA.1]
    cbv
    first | exact h_l_7 hp stk | (have q := h_l_7 hp stk; simp only [A_dyn_from_7, h.map_cons, h.map_nil, h.mapE_nil, h.len_nil, hA] at q; first | exact q | (cbv; exact q))
   | c3 y5 =>
    simp only at hp
    try simp only [hA.1]
    cbv
    first | exact h_l_7 hp stk | (have q := h_l_7 hp stk; simp only [A_dyn_from_7, h.map_cons, h.map_nil, h.mapE_nil, h.len_nil, hA] at q; first | exact q | (cbv; exact q))
   | c4 y6 =>
    simp only at hp
    try simp only [hA.1]
    cbv
    cases y6 with
    | false =>
     simp only at hp
     cbv
     first | exact h_l_7 hp stk | (have q := h_l_7 hp stk; simp only [A_dyn_from_7, h.map_cons, h.map_nil, h.mapE_nil, h.len_nil, hA] at q; first | exact q | (cbv; exact q))
    | true =>
     simp only at hp
     cbv
     first | exact h_l_7 hp stk | (have q := h_l_7 hp stk; simp only [A_dyn_from_7, h.map_cons, h.map_nil, h.mapE_nil, h.len_nil, hA] at q; first | exact q | (cbv; exact q))
   | c9 y8 =>
    simp only at hp
    try simp only [hA.1]
    cbv
    first | exact h_l_7 hp stk | (have q := h_l_7 hp stk; simp only [A_dyn_from_7, h.map_cons, h.map_nil, h.mapE_nil, h.len_nil, hA] at q; first | exact q | (cbv; exact q))
   | c66 y9 =>
    simp only at hp
    try simp only [hA.1]
    cbv
    first | exact h_l_1 hp stk | (have q := h_l_1 hp stk; simp only [A_dyn_from_1, h.map_cons, h.map_nil, h.mapE_nil, h.len_nil, hA] at q; first | exact q | (cbv; exact q))
   | c68 y10 =>
    simp only at hp
    try simp only [hA.1]
    cbv
    first | exact h_l_4 hp stk | (have q := h_l_4 hp stk; simp only [A_dyn_from_4, h.map_cons, h.map_nil, h.mapE_nil, h.len_nil, hA] at q; first | exact q | (cbv; exact q))
   | c71 =>
    simp only at hp
    try simp only [hA.1]
    cbv
    first | exact h_l_7 hp stk | (have q := h_l_7 hp stk; simp only [A_dyn_from_7, h.map_cons, h.map_nil, h.mapE_nil, h.len_nil, hA] at q; first | exact q | (cbv; exact q))
def b_dyn_from_7 (P : Prims) (c_dyn_Kind : S_any → Option (Int)) (c_dyn_from : S_any → Int → Option (S_api_Value × Bool))  (v7 : Bool) (o4_0 o4_1 : Int) (o4_2 : Str) (o4_3 : Ls0) (o4_4 : Ls1) (o6_0 o6_1 : Int) (o6_2 : Str) (o6_3_g : Nat) (o6_3 : Ls0) (o6_4_g : Nat) (o6_4 : Ls1) : Option (S_api_Value × Bool) :=
 some (⟨o6_0, o6_1, o6_2, o6_3, o6_4⟩, v7)
theorem o_dyn_from_7  (v7 : Bool) (o4_0 o4_1 : Int) (o4_2 : Str) (o4_3 : Ls0) (o4_4 : Ls1) (o6_0 o6_1 : Int) (o6_2 : Str) (o6_3_g : Nat) (o6_3 : Ls0) (o6_4_g : Nat) (o6_4 : Ls1)   {out} (hp : b_dyn_from_7 PP c_dyn_Kind c_dyn_from  v7 o4_0 o4_1 o4_2 o4_3 o4_4 o6_0 o6_1 o6_2 o6_3_g o6_3 o6_4_g o6_4 = some out) : (A_dyn_from_7 xat @xmap xlen e_api_Value e_api_Pair m  v7 o4_0 o4_1 o4_2 o4_3 o4_4 o6_0 o6_1 o6_2 o6_3_g o6_3 o6_4_g o6_4 stk) = (O_dyn_from @xmap e_api_Value e_api_Pair m  stk) out := by
 subst hPP
 simp only [b_dyn_from_7] at hp
 unfold A_dyn_from_7
 rw [h.at_, hT]
 cbv
 cases hp
 all_goals first | rfl | (cbv; done) | (simp only [h.nadd0, h.nle_refl, h.cut_all, h.cut_nil, h.map_cons, h.map_nil, h.mapE_nil, h.len_nil, hA, O_dyn_from, if_true]; first | done | rfl | (cbv; done) | (cbv; simp only [h.map_cons, h.map_nil, h.mapE_nil, h.len_nil, hA, O_dyn_from]; done))
def b_dyn_from_1 (P : Prims) (c_dyn_Kind : S_any → Option (Int)) (c_dyn_from : S_any → Int → Option (S_api_Value × Bool)) (l_7 : T_dyn_from_7) (v1 : Int) (v7 : Bool) (v12 : Ls2) (v13 o4_0 o4_1 : Int) (o4_2 : Str) (o4_3 : Ls0) (o4_4 : Ls1) (o6_0 o6_1 : Int) (o6_2 : Str) (o6_3_g : Nat) (o6_3 : Ls0) (o6_4_g : Nat) (o6_4 : Ls1) : Option ((Int × Bool × Ls2 × Int × Int × Int × Str × Ls0 × Ls1 × Int × Int × Str × Nat × Ls0 × Nat × Ls1) ⊕ (S_api_Value × Bool)) :=
 match P.cmp .lss v13 (P.len v12) with
 | false =>
  match l_7 v7 o4_0 o4_1 o4_2 o4_3 o4_4 o6_0 o6_1 o6_2 o6_3_g o6_3 o6_4_g o6_4 with | none => none | some o28 => some (.inr o28)
 | true =>
  match v7 with
  | false =>
   match l_7 false o4_0 o4_1 o4_2 o4_3 o4_4 o6_0 o6_1 o6_2 o6_3_g o6_3 o6_4_g o6_4 with | none => none | some o27 => some (.inr o27)
  | true =>
   match P.idx v12 v13 with
   | none => none
   | some a20 =>
    match c_dyn_from a20 (P.ar .sub .i64 v1 1) with
    | none => none
    | some (⟨r22_0_0, r22_0_1, r22_0_2, r22_0_3, r22_0_4⟩, r22_1) =>
     match P.app 80 o6_3 [⟨r22_0_0, r22_0_1, r22_0_2, r22_0_3, r22_0_4⟩] with
     | none => none
     | some l24 =>
      some (.inl (v1, r22_1, v12, P.ar .add .i64 v13 1, o4_0, o4_1, o4_2, o4_3, o4_4, o6_0, o6_1, o6_2, o6_3_g + 1, l24, o6_4_g, o6_4))
theorem o_dyn_from_1 (l_7 : T_dyn_from_7) (v1 : Int) (v7 : Bool) (v12 : Ls2) (v13 o4_0 o4_1 : Int) (o4_2 : Str) (o4_3 : Ls0) (o4_4 : Ls1) (o6_0 o6_1 : Int) (o6_2 : Str) (o6_3_g : Nat) (o6_3 : Ls0) (o6_4_g : Nat) (o6_4 : Ls1)  (h_l_7 : H_dyn_from_7 xat @xmap xlen e_api_Value e_api_Pair m  l_7) {out} (hp : b_dyn_from_1 PP c_dyn_Kind c_dyn_from l_7 v1 v7 v12 v13 o4_0 o4_1 o4_2 o4_3 o4_4 o6_0 o6_1 o6_2 o6_3_g o6_3 o6_4_g o6_4 = some out) : (A_dyn_from_1 xat @xmap xlen e_any e_api_Value e_api_Pair m  v1 v7 v12 v13 o4_0 o4_1 o4_2 o4_3 o4_4 o6_0 o6_1 o6_2 o6_3_g o6_3 o6_4_g o6_4 stk) = (Sum.elim (fun (v1, v7, v12, v13, o4_0, o4_1, o4_2, o4_3, o4_4, o6_0, o6_1, o6_2, o6_3_g, o6_3, o6_4_g, o6_4) => (A_dyn_from_1 xat @xmap xlen e_any e_api_Value e_api_Pair m  v1 v7 v12 v13 o4_0 o4_1 o4_2 o4_3 o4_4 o6_0 o6_1 o6_2 o6_3_g o6_3 o6_4_g o6_4 stk)) (O_dyn_from @xmap e_api_Value e_api_Pair m  stk)) out := by
 subst hPP
 simp only [b_dyn_from_1] at hp
 unfold A_dyn_from_1
 rw [h.at_, hT]
 cbv
 try simp only [h.len]
 cases c18 : xcmp .lss v13 (plen v12) with
 | false =>
  simp only [c18] at hp ⊢
  cbv
  cases c : l_7 v7 o4_0 o4_1 o4_2 o4_3 o4_4 o6_0 o6_1 o6_2 o6_3_g o6_3 o6_4_g o6_4 with
  | none => simp only [c] at hp; cases hp
  | some o28 =>
   simp only [c] at hp
   cases hp
   first | exact h_l_7 c stk | (have q := h_l_7 c stk; simp only [A_dyn_from_7, h.map_cons, h.map_nil, h.mapE_nil, h.len_nil, hA] at q; first | exact q | (cbv; exact q))
 | true =>
  simp only [c18] at hp ⊢
  cbv
  cases v7 with
  | false =>
   simp only at hp
   cbv
   cases c : l_7 false o4_0 o4_1 o4_2 o4_3 o4_4 o6_0 o6_1 o6_2 o6_3_g o6_3 o6_4_g o6_4 with
   | none => simp only [c] at hp; cases hp
   | some o27 =>
    simp only [c] at hp
    cases hp
    first | exact h_l_7 c stk | (have q := h_l_7 c stk; simp only [A_dyn_from_7, h.map_cons, h.map_nil, h.mapE_nil, h.len_nil, hA] at q; first | exact q | (cbv; exact q))
  | true =>
   simp only at hp
   cbv
   rw [h.at_, hT]
   cbv
   cases c21 : pidx v12 v13 with
   | none => simp only [c21] at hp; cases hp
   | some a20 =>
    simp only [c21] at hp
    obtain ⟨q1, q2⟩ := h.idx e_any c21
    try simp only [hA.1] at q2
    simp only [q1, Bool.false_eq_true, if_false]
    cbv
    try simp only [q2]
    cbv
    have qf := hF a20
    have qg := qf
    cbv at qg
    iterate 3 (try (simp only [qf, qg]; cbv))
    cases c23 : c_dyn_from a20 (xar .sub .i64 v1 1) with
    | none => simp only [c23] at hp; cases hp
    | some y26 =>
     obtain ⟨⟨r22_0_0, r22_0_1, r22_0_2, r22_0_3, r22_0_4⟩, r22_1⟩ := y26
     simp only [c23] at hp
     have qc := fun s => (h_dyn_from c23 s).1
     simp only [qc]
     cbv
     simp only [h.allsz_nil, h.allsz_cons]
     cbv
     simp only [h.allsz_nil, h.allsz_cons]
     cbv
     cases c25 : papp 80 o6_3 [⟨r22_0_0, r22_0_1, r22_0_2, r22_0_3, r22_0_4⟩] with
     | none => simp only [c25] at hp; cases hp
     | some l24 =>
      simp only [c25] at hp
      obtain ⟨q1, q2, q3⟩ := h.app e_api_Value c25 rfl
      simp only [h.map_cons, h.map_nil, h.len_nil, hA.2.2.1] at q1 q2 q3
      try simp only [h.len_nil]
      cbv
      simp only [q1, q2, q3, if_true]
      cbv
      rw [h.at_, hT]
      cbv
      cases hp
      all_goals first | rfl | (cbv; done) | (simp only [h.nadd0, h.nle_refl, h.cut_all, h.cut_nil, h.map_cons, h.map_nil, h.mapE_nil, h.len_nil, hA, O_dyn_from, A_dyn_from_1, if_true]; first | done | rfl | (cbv; done) | (cbv; simp only [h.map_cons, h.map_nil, h.mapE_nil, h.len_nil, hA, O_dyn_from, A_dyn_from_1]; done))
def b_dyn_from_4 (P : Prims) (c_dyn_Kind : S_any → Option (Int)) (c_dyn_from : S_any → Int → Option (S_api_Value × Bool)) (l_7 : T_dyn_from_7) (v1 : Int) (v7 : Bool) (v15 : Ls3) (v16 o4_0 o4_1 : Int) (o4_2 : Str) (o4_3 : Ls0) (o4_4 : Ls1) (o6_0 o6_1 : Int) (o6_2 : Str) (o6_3_g : Nat) (o6_3 : Ls0) (o6_4_g : Nat) (o6_4 : Ls1) : Option ((Int × Bool × Ls3 × Int × Int × Int × Str × Ls0 × Ls1 × Int × Int × Str × Nat × Ls0 × Nat × Ls1) ⊕ (S_api_Value × Bool)) :=
 match P.cmp .lss v16 (P.len v15) with
 | false =>
  match l_7 v7 o4_0 o4_1 o4_2 o4_3 o4_4 o6_0 o6_1 o6_2 o6_3_g o6_3 o6_4_g o6_4 with | none => none | some o40 => some (.inr o40)
 | true =>
  match v7 with
  | false =>
   match l_7 false o4_0 o4_1 o4_2 o4_3 o4_4 o6_0 o6_1 o6_2 o6_3_g o6_3 o6_4_g o6_4 with | none => none | some o39 => some (.inr o39)
  | true =>
   match P.idx v15 v16 with
   | none => none
   | some ⟨a31_0, a31_1⟩ =>
    match c_dyn_from a31_1 (P.ar .sub .i64 v1 1) with
    | none => none
    | some (⟨r33_0_0, r33_0_1, r33_0_2, r33_0_3, r33_0_4⟩, r33_1) =>
     match P.app 96 o6_4 [⟨a31_0, ⟨r33_0_0, r33_0_1, r33_0_2, r33_0_3, r33_0_4⟩⟩] with
     | none => none
     | some l35 =>
      some (.inl (v1, r33_1, v15, P.ar .add .i64 v16 1, o4_0, o4_1, o4_2, o4_3, o4_4, o6_0, o6_1, o6_2, o6_3_g, o6_3, o6_4_g + 1, l35))
theorem o_dyn_from_4 (l_7 : T_dyn_from_7) (v1 : Int) (v7 : Bool) (v15 : Ls3) (v16 o4_0 o4_1 : Int) (o4_2 : Str) (o4_3 : Ls0) (o4_4 : Ls1) (o6_0 o6_1 : Int) (o6_2 : Str) (o6_3_g : Nat) (o6_3 : Ls0) (o6_4_g : Nat) (o6_4 : Ls1)  (h_l_7 : H_dyn_from_7 xat @xmap xlen e_api_Value e_api_Pair m  l_7) {out} (hp : b_dyn_from_4 PP c_dyn_Kind c_dyn_from l_7 v1 v7 v15 v16 o4_0 o4_1 o4_2 o4_3 o4_4 o6_0 o6_1 o6_2 o6_3_g o6_3 o6_4_g o6_4 = some out) : (A_dyn_from_4 xat @xmap xlen e_dyn_Member e_api_Value e_api_Pair m  v1 v7 v15 v16 o4_0 o4_1 o4_2 o4_3 o4_4 o6_0 o6_1 o6_2 o6_3_g o6_3 o6_4_g o6_4 stk) = (Sum.elim (fun (v1, v7, v15, v16, o4_0, o4_1, o4_2, o4_3, o4_4, o6_0, o6_1, o6_2, o6_3_g, o6_3, o6_4_g, o6_4) => (A_dyn_from_4 xat @xmap xlen e_dyn_Member e_api_Value e_api_Pair m  v1 v7 v15 v16 o4_0 o4_1 o4_2 o4_3 o4_4 o6_0 o6_1 o6_2 o6_3_g o6_3 o6_4_g o6_4 stk)) (O_dyn_from @xmap e_api_Value e_api_Pair m  stk)) out := by
 subst hPP
 simp only [b_dyn_from_4] at hp
 unfold A_dyn_from_4
 rw [h.at_, hT]
 cbv
 try simp only [h.len]
 cases c29 : xcmp .lss v16 (plen v15) with
 | false =>
  simp only [c29] at hp ⊢
  cbv
  cases c : l_7 v7 o4_0 o4_1 o4_2 o4_3 o4_4 o6_0 o6_1 o6_2 o6_3_g o6_3 o6_4_g o6_4 with
  | none => simp only [c] at hp; cases hp
  | some o40 =>
   simp only [c] at hp
   cases hp
   first | exact h_l_7 c stk | (have q := h_l_7 c stk; simp only [A_dyn_from_7, h.map_cons, h.map_nil, h.mapE_nil, h.len_nil, hA] at q; first | exact q | (cbv; exact q))
 | true =>
  simp only [c29] at hp ⊢
  cbv
  cases v7 with
  | false =>
   simp only at hp
   cbv
   cases c : l_7 false o4_0 o4_1 o4_2 o4_3 o4_4 o6_0 o6_1 o6_2 o6_3_g o6_3 o6_4_g o6_4 with
   | none => simp only [c] at hp; cases hp
   | some o39 =>
    simp only [c] at hp
    cases hp
    first | exact h_l_7 c stk | (have q := h_l_7 c stk; simp only [A_dyn_from_7, h.map_cons, h.map_nil, h.mapE_nil, h.len_nil, hA] at q; first | exact q | (cbv; exact q))
  | true =>
   simp only at hp
   cbv
   rw [h.at_, hT]
   cbv
   cases c32 : pidx v15 v16 with
   | none => simp only [c32] at hp; cases hp
   | some y38 =>
    obtain ⟨a31_0, a31_1⟩ := y38
    simp only [c32] at hp
    obtain ⟨q1, q2⟩ := h.idx e_dyn_Member c32
    try simp only [hA.2.1] at q2
    simp only [q1, Bool.false_eq_true, if_false]
    cbv
    try simp only [q2]
    cbv
    cases c34 : c_dyn_from a31_1 (xar .sub .i64 v1 1) with
    | none => simp only [c34] at hp; cases hp
    | some y37 =>
     obtain ⟨⟨r33_0_0, r33_0_1, r33_0_2, r33_0_3, r33_0_4⟩, r33_1⟩ := y37
     simp only [c34] at hp
     have qc := fun s => (h_dyn_from c34 s).1
     simp only [qc]
     cbv
     obtain ⟨q1, q2⟩ := h.idx e_dyn_Member c32
     try simp only [hA.2.1] at q2
     simp only [q1, Bool.false_eq_true, if_false]
     cbv
     try simp only [q2]
     cbv
     simp only [h.allsz_nil, h.allsz_cons]
     cbv
     simp only [h.allsz_nil, h.allsz_cons]
     cbv
     cases c36 : papp 96 o6_4 [⟨a31_0, ⟨r33_0_0, r33_0_1, r33_0_2, r33_0_3, r33_0_4⟩⟩] with
     | none => simp only [c36] at hp; cases hp
     | some l35 =>
      simp only [c36] at hp
      obtain ⟨q1, q2, q3⟩ := h.app e_api_Pair c36 rfl
      simp only [h.map_cons, h.map_nil, h.len_nil, hA.2.2.2.1] at q1 q2 q3
      try simp only [h.len_nil]
      cbv
      simp only [q1, q2, q3, if_true]
      cbv
      rw [h.at_, hT]
      cbv
      cases hp
      all_goals first | rfl | (cbv; done) | (simp only [h.nadd0, h.nle_refl, h.cut_all, h.cut_nil, h.map_cons, h.map_nil, h.mapE_nil, h.len_nil, hA, O_dyn_from, A_dyn_from_4, if_true]; first | done | rfl | (cbv; done) | (cbv; simp only [h.map_cons, h.map_nil, h.mapE_nil, h.len_nil, hA, O_dyn_from, A_dyn_from_4]; done))
end
def b_tree_unused_0 (P : Prims)   (v0_0 v0_1 : Int) (v0_2 : Str) (v0_3 : Ls0) (v0_4 : Ls1) : Option (Bool) :=
 match P.cmp .eql v0_0 1 with
 | false =>
  match P.cmp .eql v0_0 2 with
  | false =>
   match P.cmp .eql v0_1 0 with
   | false =>
    some false
   | true =>
    match P.cmp .eql v0_0 3 with
    | false =>
     match P.seq v0_2 [] with
     | false =>
      some false
     | true =>
      match P.cmp .eql v0_0 4 with
      | false =>
       match P.cmp .eql (P.len v0_3) 0 with
       | false =>
        some false
       | true =>
        match P.cmp .eql v0_0 5 with
        | false =>
         some (P.cmp .eql (P.len v0_4) 0)
        | true =>
         some true
      | true =>
       match P.cmp .eql v0_0 5 with
       | false =>
        some (P.cmp .eql (P.len v0_4) 0)
       | true =>
        some true
    | true =>
     match P.cmp .eql v0_0 4 with
     | false =>
      match P.cmp .eql (P.len v0_3) 0 with
      | false =>
       some false
      | true =>
       match P.cmp .eql v0_0 5 with
       | false =>
        some (P.cmp .eql (P.len v0_4) 0)
       | true =>
        some true
     | true =>
      match P.cmp .eql v0_0 5 with
      | false =>
       some (P.cmp .eql (P.len v0_4) 0)
      | true =>
       some true
  | true =>
   match P.cmp .eql v0_0 3 with
   | false =>
    match P.seq v0_2 [] with
    | false =>
     some false
    | true =>
     match P.cmp .eql v0_0 4 with
     | false =>
      match P.cmp .eql (P.len v0_3) 0 with
      | false =>
       some false
      | true =>
       match P.cmp .eql v0_0 5 with
       | false =>
        some (P.cmp .eql (P.len v0_4) 0)
       | true =>
        some true
     | true =>
      match P.cmp .eql v0_0 5 with
      | false =>
       some (P.cmp .eql (P.len v0_4) 0)
      | true =>
       some true
   | true =>
    match P.cmp .eql v0_0 4 with
    | false =>
     match P.cmp .eql (P.len v0_3) 0 with
     | false =>
      some false
     | true =>
      match P.cmp .eql v0_0 5 with
      | false =>
       some (P.cmp .eql (P.len v0_4) 0)
      | true =>
       some true
    | true =>
     match P.cmp .eql v0_0 5 with
     | false =>
      some (P.cmp .eql (P.len v0_4) 0)
     | true =>
      some true
 | true =>
  match P.cmp .eql v0_0 3 with
  | false =>
   match P.seq v0_2 [] with
   | false =>
    some false
   | true =>
    match P.cmp .eql v0_0 4 with
    | false =>
     match P.cmp .eql (P.len v0_3) 0 with
     | false =>
      some false
     | true =>
      match P.cmp .eql v0_0 5 with
      | false =>
       some (P.cmp .eql (P.len v0_4) 0)
      | true =>
       some true
    | true =>
     match P.cmp .eql v0_0 5 with
     | false =>
      some (P.cmp .eql (P.len v0_4) 0)
     | true =>
      some true
  | true =>
   match P.cmp .eql v0_0 4 with
   | false =>
    match P.cmp .eql (P.len v0_3) 0 with
    | false =>
     some false
    | true =>
     match P.cmp .eql v0_0 5 with
     | false =>
      some (P.cmp .eql (P.len v0_4) 0)
     | true =>
      some true
   | true =>
    match P.cmp .eql v0_0 5 with
    | false =>
     some (P.cmp .eql (P.len v0_4) 0)
    | true =>
     some true
section
variable   (stk : Stk) (m : Nat)   
include   stk m  
theorem o_tree_unused_0  (v0_0 v0_1 : Int) (v0_2 : Str) (v0_3 : Ls0) (v0_4 : Ls1)   {out} (hp : b_tree_unused_0 PP   v0_0 v0_1 v0_2 v0_3 v0_4 = some out) : (A_tree_unused_0 xat @xmap e_api_Value e_api_Pair m  v0_0 v0_1 v0_2 v0_3 v0_4 stk) = (O_tree_unused  m  stk) out := by
 subst hPP
 simp only [b_tree_unused_0] at hp
 unfold A_tree_unused_0
 rw [h.at_, hT]
 cbv
 cases c1 : xcmp .eql v0_0 1 with
 | false =>
  simp only [c1] at hp ⊢
  cbv
  cases c12 : xcmp .eql v0_0 2 with
  | false =>
   simp only [c12] at hp ⊢
   cbv
   cases c23 : xcmp .eql v0_1 0 with
   | false =>
    simp only [c23] at hp ⊢
    cbv
    cases hp
    all_goals first | rfl | (cbv; done)
   | true =>
    simp only [c23] at hp ⊢
    cbv
    cases c24 : xcmp .eql v0_0 3 with
    | false =>
     simp only [c24] at hp ⊢
     cbv
     cases c29 : xseq v0_2 [] with
     | false =>
      simp only [c29] at hp ⊢
      cbv
      cases hp
      all_goals first | rfl | (cbv; done)
     | true =>
      simp only [c29] at hp ⊢
      cbv
      cases c30 : xcmp .eql v0_0 4 with
      | false =>
       simp only [c30] at hp ⊢
       cbv
       try simp only [h.len]
       cases c32 : xcmp .eql (plen v0_3) 0 with
       | false =>
        simp only [c32] at hp ⊢
        cbv
        cases hp
        all_goals first | rfl | (cbv; done)
       | true =>
        simp only [c32] at hp ⊢
        cbv
        cases c33 : xcmp .eql v0_0 5 with
        | false =>
         simp only [c33] at hp ⊢
         cbv
         try simp only [h.len]
         cases hp
         all_goals first | rfl | (cbv; done)
        | true =>
         simp only [c33] at hp ⊢
         cbv
         cases hp
         all_goals first | rfl | (cbv; done)
      | true =>
       simp only [c30] at hp ⊢
       cbv
       cases c31 : xcmp .eql v0_0 5 with
       | false =>
        simp only [c31] at hp ⊢
        cbv
        try simp only [h.len]
        cases hp
        all_goals first | rfl | (cbv; done)
       | true =>
        simp only [c31] at hp ⊢
        cbv
        cases hp
        all_goals first | rfl | (cbv; done)
    | true =>
     simp only [c24] at hp ⊢
     cbv
     cases c25 : xcmp .eql v0_0 4 with
     | false =>
      simp only [c25] at hp ⊢
      cbv
      try simp only [h.len]
      cases c27 : xcmp .eql (plen v0_3) 0 with
      | false =>
       simp only [c27] at hp ⊢
       cbv
       cases hp
       all_goals first | rfl | (cbv; done)
      | true =>
       simp only [c27] at hp ⊢
       cbv
       cases c28 : xcmp .eql v0_0 5 with
       | false =>
        simp only [c28] at hp ⊢
        cbv
        try simp only [h.len]
        cases hp
        all_goals first | rfl | (cbv; done)
       | true =>
        simp only [c28] at hp ⊢
        cbv
        cases hp
        all_goals first | rfl | (cbv; done)
     | true =>
      simp only [c25] at hp ⊢
      cbv
      cases c26 : xcmp .eql v0_0 5 with
      | false =>
       simp only [c26] at hp ⊢
       cbv
       try simp only [h.len]
       cases hp
       all_goals first | rfl | (cbv; done)
      | true =>
       simp only [c26] at hp ⊢
       cbv
       cases hp
       all_goals first | rfl | (cbv; done)
  | true =>
   simp only [c12] at hp ⊢
   cbv
   cases c13 : xcmp .eql v0_0 3 with
   | false =>
    simp only [c13] at hp ⊢
    cbv
    cases c18 : xseq v0_2 [] with
    | false =>
     simp only [c18] at hp ⊢
     cbv
     cases hp
     all_goals first | rfl | (cbv; done)
    | true =>
     simp only [c18] at hp ⊢
     cbv
     cases c19 : xcmp .eql v0_0 4 with
     | false =>
      simp only [c19] at hp ⊢
      cbv
      try simp only [h.len]
      cases c21 : xcmp .eql (plen v0_3) 0 with
      | false =>
       simp only [c21] at hp ⊢
       cbv
       cases hp
       all_goals first | rfl | (cbv; done)
      | true =>
       simp only [c21] at hp ⊢
       cbv
       cases c22 : xcmp .eql v0_0 5 with
       | false =>
        simp only [c22] at hp ⊢
        cbv
        try simp only [h.len]
        cases hp
        all_goals first | rfl | (cbv; done)
       | true =>
        simp only [c22] at hp ⊢
        cbv
        cases hp
        all_goals first | rfl | (cbv; done)
     | true =>
      simp only [c19] at hp ⊢
      cbv
      cases c20 : xcmp .eql v0_0 5 with
      | false =>
       simp only [c20] at hp ⊢
       cbv
       try simp only [h.len]
       cases hp
       all_goals first | rfl | (cbv; done)
      | true =>
       simp only [c20] at hp ⊢
       cbv
       cases hp
       all_goals first | rfl | (cbv; done)
   | true =>
    simp only [c13] at hp ⊢
    cbv
    cases c14 : xcmp .eql v0_0 4 with
    | false =>
     simp only [c14] at hp ⊢
     cbv
     try simp only [h.len]
     cases c16 : xcmp .eql (plen v0_3) 0 with
     | false =>
      simp only [c16] at hp ⊢
      cbv
      cases hp
      all_goals first | rfl | (cbv; done)
     | true =>
      simp only [c16] at hp ⊢
      cbv
      cases c17 : xcmp .eql v0_0 5 with
      | false =>
       simp only [c17] at hp ⊢
       cbv
       try simp only [h.len]
       cases hp
       all_goals first | rfl | (cbv; done)
      | true =>
       simp only [c17] at hp ⊢
       cbv
       cases hp
       all_goals first | rfl | (cbv; done)
    | true =>
     simp only [c14] at hp ⊢
     cbv
     cases c15 : xcmp .eql v0_0 5 with
     | false =>
      simp only [c15] at hp ⊢
      cbv
      try simp only [h.len]
      cases hp
      all_goals first | rfl | (cbv; done)
     | true =>
      simp only [c15] at hp ⊢
      cbv
      cases hp
      all_goals first | rfl | (cbv; done)
 | true =>
  simp only [c1] at hp ⊢
  cbv
  cases c2 : xcmp .eql v0_0 3 with
  | false =>
   simp only [c2] at hp ⊢
   cbv
   cases c7 : xseq v0_2 [] with
   | false =>
    simp only [c7] at hp ⊢
    cbv
    cases hp
    all_goals first | rfl | (cbv; done)
   | true =>
    simp only [c7] at hp ⊢
    cbv
    cases c8 : xcmp .eql v0_0 4 with
    | false =>
     simp only [c8] at hp ⊢
     cbv
     try simp only [h.len]
     cases c10 : xcmp .eql (plen v0_3) 0 with
     | false =>
      simp only [c10] at hp ⊢
      cbv
      cases hp
      all_goals first | rfl | (cbv; done)
     | true =>
      simp only [c10] at hp ⊢
      cbv
      cases c11 : xcmp .eql v0_0 5 with
      | false =>
       simp only [c11] at hp ⊢
       cbv
       try simp only [h.len]
       cases hp
       all_goals first | rfl | (cbv; done)
      | true =>
       simp only [c11] at hp ⊢
       cbv
       cases hp
       all_goals first | rfl | (cbv; done)
    | true =>
     simp only [c8] at hp ⊢
     cbv
     cases c9 : xcmp .eql v0_0 5 with
     | false =>
      simp only [c9] at hp ⊢
      cbv
      try simp only [h.len]
      cases hp
      all_goals first | rfl | (cbv; done)
     | true =>
      simp only [c9] at hp ⊢
      cbv
      cases hp
      all_goals first | rfl | (cbv; done)
  | true =>
   simp only [c2] at hp ⊢
   cbv
   cases c3 : xcmp .eql v0_0 4 with
   | false =>
    simp only [c3] at hp ⊢
    cbv
    try simp only [h.len]
    cases c5 : xcmp .eql (plen v0_3) 0 with
    | false =>
     simp only [c5] at hp ⊢
     cbv
     cases hp
     all_goals first | rfl | (cbv; done)
    | true =>
     simp only [c5] at hp ⊢
     cbv
     cases c6 : xcmp .eql v0_0 5 with
     | false =>
      simp only [c6] at hp ⊢
      cbv
      try simp only [h.len]
      cases hp
      all_goals first | rfl | (cbv; done)
     | true =>
      simp only [c6] at hp ⊢
      cbv
      cases hp
      all_goals first | rfl | (cbv; done)
   | true =>
    simp only [c3] at hp ⊢
    cbv
    cases c4 : xcmp .eql v0_0 5 with
    | false =>
     simp only [c4] at hp ⊢
     cbv
     try simp only [h.len]
     cases hp
     all_goals first | rfl | (cbv; done)
    | true =>
     simp only [c4] at hp ⊢
     cbv
     cases hp
     all_goals first | rfl | (cbv; done)
end
def b_text_Bad_0 (P : Prims) (c_unicode_utf8_DecodeRuneInString : Str → Option (Int × Int)) (l_1 : T_text_Bad_1) (v0 : Str) : Option (Int) :=
 l_1 v0 v0 0
section
variable (c_unicode_utf8_DecodeRuneInString : Str → Option (Int × Int)) (h_unicode_utf8_DecodeRuneInString : (C_unicode_utf8_DecodeRuneInString xpcall xfcall c_unicode_utf8_DecodeRuneInString)) (stk : Stk) (m : Nat)   
include c_unicode_utf8_DecodeRuneInString h_unicode_utf8_DecodeRuneInString stk m  
theorem o_text_Bad_0 (l_1 : T_text_Bad_1) (v0 : Str)  (h_l_1 : H_text_Bad_1 xat m  l_1) {out} (hp : b_text_Bad_0 PP c_unicode_utf8_DecodeRuneInString l_1 v0 = some out) : (A_text_Bad_0 xat m  v0 stk) = (O_text_Bad  m  stk) out := by
 subst hPP
 simp only [b_text_Bad_0] at hp
 unfold A_text_Bad_0
 rw [h.at_, hT]
 cbv
 first | exact h_l_1 hp stk | (have q := h_l_1 hp stk; simp only [A_text_Bad_1, h.map_cons, h.map_nil, h.mapE_nil, h.len_nil, hA] at q; first | exact q | (cbv; exact q))
def b_text_Bad_1 (P : Prims) (c_unicode_utf8_DecodeRuneInString : Str → Option (Int × Int))  (v0 o8_s : Str) (o8_p : Nat) : Option ((Str × Str × Nat) ⊕ (Int)) :=
 match P.sit o8_s o8_p with
 | none =>
  some (.inr (-1))
 | some (i1, r2, n3) =>
  match P.cmp .neq r2 65533 with
  | false =>
   match P.ssub v0 (some i1) none with
   | none => none
   | some s5 =>
    match c_unicode_utf8_DecodeRuneInString s5 with
    | none => none
    | some (r7_0, r7_1) =>
     match P.cmp .eql r7_1 1 with
     | false =>
      some (.inl (v0, o8_s, n3))
     | true =>
      some (.inr i1)
  | true =>
   some (.inl (v0, o8_s, n3))
theorem o_text_Bad_1  (v0 o8_s : Str) (o8_p : Nat)   {out} (hp : b_text_Bad_1 PP c_unicode_utf8_DecodeRuneInString  v0 o8_s o8_p = some out) : (A_text_Bad_1 xat m  v0 o8_s o8_p stk) = (Sum.elim (fun (v0, o8_s, o8_p) => (A_text_Bad_1 xat m  v0 o8_s o8_p stk)) (O_text_Bad  m  stk)) out := by
 subst hPP
 simp only [b_text_Bad_1] at hp
 unfold A_text_Bad_1
 rw [h.at_, hT]
 cbv
 cases c11 : psit o8_s o8_p with
 | none =>
  simp only [c11] at hp
  have q1 := h.sit0 c11
  simp only [q1, Bool.false_eq_true, if_false]
  cbv
  rw [h.at_, hT]
  cbv
  cases hp
  all_goals first | rfl | (cbv; done)
 | some y12 =>
  obtain ⟨i1, r2, n3⟩ := y12
  simp only [c11] at hp
  obtain ⟨q1, q2, q3, q4⟩ := h.sit1 c11
  simp only [q1, q2, q3, q4, if_true]
  cbv
  rw [h.at_, hT]
  cbv
  cases c4 : xcmp .neq r2 65533 with
  | false =>
   simp only [c4] at hp ⊢
   cbv
   rw [h.at_, hT]
   cbv
   cases c6 : pssub v0 (some i1) none with
   | none => simp only [c6] at hp; cases hp
   | some s5 =>
    simp only [c6] at hp
    obtain ⟨q0, q1, q2, q3⟩ := h.ssub1 c6
    simp only [q0, q1, q2, q3, Bool.false_eq_true, if_false, if_true]
    cbv
    try simp only [q0, q1, q2, q3, if_true]
    cbv
    cases c8 : c_unicode_utf8_DecodeRuneInString s5 with
    | none => simp only [c8] at hp; cases hp
    | some y10 =>
     obtain ⟨r7_0, r7_1⟩ := y10
     simp only [c8] at hp
     have qc := fun s => (h_unicode_utf8_DecodeRuneInString c8 s).1
     simp only [qc]
     cbv
     cases c9 : xcmp .eql r7_1 1 with
     | false =>
      simp only [c9] at hp ⊢
      cbv
      cases hp
      all_goals first | rfl | (cbv; done)
     | true =>
      simp only [c9] at hp ⊢
      cbv
      cases hp
      all_goals first | rfl | (cbv; done)
  | true =>
   simp only [c4] at hp ⊢
   cbv
   cases hp
   all_goals first | rfl | (cbv; done)
end
def b_text_Right_0 (P : Prims) (c_text_Bad : Str → Option (Int))  (v0 : Str) : Option (Bool) :=
 match c_text_Bad v0 with
 | none => none
 | some r1_0 =>
  some (P.cmp .lss r1_0 0)
section
variable (c_text_Bad : Str → Option (Int)) (h_text_Bad : (C_text_Bad xpcall xfcall c_text_Bad)) (stk : Stk) (m : Nat)   
include c_text_Bad h_text_Bad stk m  
theorem o_text_Right_0  (v0 : Str)   {out} (hp : b_text_Right_0 PP c_text_Bad  v0 = some out) : (A_text_Right_0 xat m  v0 stk) = (O_text_Right  m  stk) out := by
 subst hPP
 simp only [b_text_Right_0] at hp
 unfold A_text_Right_0
 rw [h.at_, hT]
 cbv
 cases c2 : c_text_Bad v0 with
 | none => simp only [c2] at hp; cases hp
 | some r1_0 =>
  simp only [c2] at hp
  have qc := fun s => (h_text_Bad c2 s).1
  simp only [qc]
  cbv
  cases hp
  all_goals first | rfl | (cbv; done)
end
def b_tree_keys_0 (P : Prims) (c_text_Right : Str → Option (Bool)) (l_1 : T_tree_keys_1) (v0 : Ls1) : Option (Bool) :=
 l_1 v0 (P.len v0) 0 0 []
section
variable (c_text_Right : Str → Option (Bool)) (h_text_Right : (C_text_Right xpcall xfcall c_text_Right)) (stk : Stk) (m : Nat)   
include c_text_Right h_text_Right stk m  
theorem o_tree_keys_0 (l_1 : T_tree_keys_1) (v0 : Ls1)  (h_l_1 : H_tree_keys_1 xat @xmap @xmapE e_api_Pair e_int m  l_1) {out} (hp : b_tree_keys_0 PP c_text_Right l_1 v0 = some out) : (A_tree_keys_0 xat @xmap e_api_Pair m  v0 stk) = (O_tree_keys  m  stk) out := by
 subst hPP
 simp only [b_tree_keys_0] at hp
 unfold A_tree_keys_0
 rw [h.at_, hT]
 cbv
 try simp only [h.len]
 simp only [h.frzM0]
 cbv
 first | exact h_l_1 hp stk | (have q := h_l_1 hp stk; simp only [A_tree_keys_1, h.map_cons, h.map_nil, h.mapE_nil, h.len_nil, hA] at q; first | exact q | (cbv; exact q))
def b_tree_keys_1 (P : Prims) (c_text_Right : Str → Option (Bool)) (l_3 : T_tree_keys_3) (v7 : Ls1) (v8 v9 : Int) (o6_c : Nat) (o6 : (List (Str × Nat × Int))) : Option ((Ls1 × Int × Int × Nat × (List (Str × Nat × Int))) ⊕ (Bool)) :=
 match P.cmp .lss v9 v8 with
 | false =>
  some (.inr true)
 | true =>
  match P.idx v7 v9 with
  | none => none
  | some ⟨a2_0, ⟨a2_1_0, a2_1_1, a2_1_2, a2_1_3, a2_1_4⟩⟩ =>
   match P.mfind a2_0 o6 with
   | none =>
    match P.mfind a2_0 (P.mput a2_0 o6_c (P.ar .add .i64 0 1) o6) with
    | none =>
     match P.cmp .gtr 0 1 with
     | false =>
      match c_text_Right a2_0 with
      | none => none
      | some r32_0 =>
       match r32_0 with
       | false =>
        some (.inr false)
       | true =>
        l_3 v7 v8 v9 (o6_c + 1) (P.mput a2_0 o6_c (P.ar .add .i64 0 1) o6)
     | true =>
      some (.inr false)
    | some f25 =>
     match P.cmp .gtr f25 1 with
     | false =>
      match c_text_Right a2_0 with
      | none => none
      | some r28_0 =>
       match r28_0 with
       | false =>
        some (.inr false)
       | true =>
        l_3 v7 v8 v9 (o6_c + 1) (P.mput a2_0 o6_c (P.ar .add .i64 0 1) o6)
     | true =>
      some (.inr false)
   | some f5 =>
    match P.mfind a2_0 (P.mput a2_0 o6_c (P.ar .add .i64 f5 1) o6) with
    | none =>
     match P.cmp .gtr 0 1 with
     | false =>
      match c_text_Right a2_0 with
      | none => none
      | some r18_0 =>
       match r18_0 with
       | false =>
        some (.inr false)
       | true =>
        l_3 v7 v8 v9 o6_c (P.mput a2_0 o6_c (P.ar .add .i64 f5 1) o6)
     | true =>
      some (.inr false)
    | some f11 =>
     match P.cmp .gtr f11 1 with
     | false =>
      match c_text_Right a2_0 with
      | none => none
      | some r14_0 =>
       match r14_0 with
       | false =>
        some (.inr false)
       | true =>
        l_3 v7 v8 v9 o6_c (P.mput a2_0 o6_c (P.ar .add .i64 f5 1) o6)
     | true =>
      some (.inr false)
theorem o_tree_keys_1 (l_3 : T_tree_keys_3) (v7 : Ls1) (v8 v9 : Int) (o6_c : Nat) (o6 : (List (Str × Nat × Int)))  (h_l_3 : H_tree_keys_3 xat @xmap @xmapE e_api_Pair e_int m  l_3) {out} (hp : b_tree_keys_1 PP c_text_Right l_3 v7 v8 v9 o6_c o6 = some out) : (A_tree_keys_1 xat @xmap @xmapE e_api_Pair e_int m  v7 v8 v9 o6_c o6 stk) = (Sum.elim (fun (v7, v8, v9, o6_c, o6) => (A_tree_keys_1 xat @xmap @xmapE e_api_Pair e_int m  v7 v8 v9 o6_c o6 stk)) (O_tree_keys  m  stk)) out := by
 subst hPP
 simp only [b_tree_keys_1] at hp
 unfold A_tree_keys_1
 rw [h.at_, hT]
 cbv
 cases c1 : xcmp .lss v9 v8 with
 | false =>
  simp only [c1] at hp ⊢
  cbv
  rw [h.at_, hT]
  cbv
  cases hp
  all_goals first | rfl | (cbv; done)
 | true =>
  simp only [c1] at hp ⊢
  cbv
  simp only [h.frzM]
  cbv
  rw [h.at_, hT]
  cbv
  cases c3 : pidx v7 v9 with
  | none => simp only [c3] at hp; cases hp
  | some y35 =>
   obtain ⟨a2_0, ⟨a2_1_0, a2_1_1, a2_1_2, a2_1_3, a2_1_4⟩⟩ := y35
   simp only [c3] at hp
   obtain ⟨q1, q2⟩ := h.idx e_api_Pair c3
   try simp only [hA.2.2.2.1] at q2
   simp only [q1, Bool.false_eq_true, if_false]
   cbv
   try simp only [q2]
   cbv
   cases c4 : pmfind a2_0 o6 with
   | none =>
    simp only [c4] at hp
    have q1 := h.mfind0 e_int c4
    simp only [q1]
    cbv
    have q1 := h.mfind0 e_int c4
    have q2 := h.mput e_int a2_0 o6_c (xar .add .i64 0 1) o6 (hA.2.2.2.2.1 _)
    simp only [q1, q2]
    cbv
    cases c24 : pmfind a2_0 (pmput a2_0 o6_c (xar .add .i64 0 1) o6) with
    | none =>
     simp only [c24] at hp
     have q1 := h.mfind0 e_int c24
     simp only [q1]
     cbv
     cases c31 : xcmp .gtr 0 1 with
     | false =>
      simp only [c31] at hp ⊢
      cbv
      cases c33 : c_text_Right a2_0 with
      | none => simp only [c33] at hp; cases hp
      | some r32_0 =>
       simp only [c33] at hp
       have qc := fun s => (h_text_Right c33 s).1
       simp only [qc]
       cbv
       cases r32_0 with
       | false =>
        simp only at hp
        cbv
        cases hp
        all_goals first | rfl | (cbv; done)
       | true =>
        simp only at hp
        cbv
        simp only [h.frzM]
        cbv
        first | exact h_l_3 hp stk | (have q := h_l_3 hp stk; simp only [A_tree_keys_3, h.map_cons, h.map_nil, h.mapE_nil, h.len_nil, hA] at q; first | exact q | (cbv; exact q))
     | true =>
      simp only [c31] at hp ⊢
      cbv
      cases hp
      all_goals first | rfl | (cbv; done)
    | some f25 =>
     simp only [c24] at hp
     have q1 := h.mfind1 e_int c24
     simp only [hA.2.2.2.2.1] at q1
     simp only [q1]
     cbv
     cases c27 : xcmp .gtr f25 1 with
     | false =>
      simp only [c27] at hp ⊢
      cbv
      cases c29 : c_text_Right a2_0 with
      | none => simp only [c29] at hp; cases hp
      | some r28_0 =>
       simp only [c29] at hp
       have qc := fun s => (h_text_Right c29 s).1
       simp only [qc]
       cbv
       cases r28_0 with
       | false =>
        simp only at hp
        cbv
        cases hp
        all_goals first | rfl | (cbv; done)
       | true =>
        simp only at hp
        cbv
        simp only [h.frzM]
        cbv
        first | exact h_l_3 hp stk | (have q := h_l_3 hp stk; simp only [A_tree_keys_3, h.map_cons, h.map_nil, h.mapE_nil, h.len_nil, hA] at q; first | exact q | (cbv; exact q))
     | true =>
      simp only [c27] at hp ⊢
      cbv
      cases hp
      all_goals first | rfl | (cbv; done)
   | some f5 =>
    simp only [c4] at hp
    have q1 := h.mfind1 e_int c4
    simp only [hA.2.2.2.2.1] at q1
    simp only [q1]
    cbv
    have q1 := h.mfind1 e_int c4
    have q2 := h.mput e_int a2_0 o6_c (xar .add .i64 f5 1) o6 (hA.2.2.2.2.1 _)
    simp only [q1, q2]
    cbv
    cases c10 : pmfind a2_0 (pmput a2_0 o6_c (xar .add .i64 f5 1) o6) with
    | none =>
     simp only [c10] at hp
     have q1 := h.mfind0 e_int c10
     simp only [q1]
     cbv
     cases c17 : xcmp .gtr 0 1 with
     | false =>
      simp only [c17] at hp ⊢
      cbv
      cases c19 : c_text_Right a2_0 with
      | none => simp only [c19] at hp; cases hp
      | some r18_0 =>
       simp only [c19] at hp
       have qc := fun s => (h_text_Right c19 s).1
       simp only [qc]
       cbv
       cases r18_0 with
       | false =>
        simp only at hp
        cbv
        cases hp
        all_goals first | rfl | (cbv; done)
       | true =>
        simp only at hp
        cbv
        simp only [h.frzM]
        cbv
        first | exact h_l_3 hp stk | (have q := h_l_3 hp stk; simp only [A_tree_keys_3, h.map_cons, h.map_nil, h.mapE_nil, h.len_nil, hA] at q; first | exact q | (cbv; exact q))
     | true =>
      simp only [c17] at hp ⊢
      cbv
      cases hp
      all_goals first | rfl | (cbv; done)
    | some f11 =>
     simp only [c10] at hp
     have q1 := h.mfind1 e_int c10
     simp only [hA.2.2.2.2.1] at q1
     simp only [q1]
     cbv
     cases c13 : xcmp .gtr f11 1 with
     | false =>
      simp only [c13] at hp ⊢
      cbv
      cases c15 : c_text_Right a2_0 with
      | none => simp only [c15] at hp; cases hp
      | some r14_0 =>
       simp only [c15] at hp
       have qc := fun s => (h_text_Right c15 s).1
       simp only [qc]
       cbv
       cases r14_0 with
       | false =>
        simp only at hp
        cbv
        cases hp
        all_goals first | rfl | (cbv; done)
       | true =>
        simp only at hp
        cbv
        simp only [h.frzM]
        cbv
        first | exact h_l_3 hp stk | (have q := h_l_3 hp stk; simp only [A_tree_keys_3, h.map_cons, h.map_nil, h.mapE_nil, h.len_nil, hA] at q; first | exact q | (cbv; exact q))
     | true =>
      simp only [c13] at hp ⊢
      cbv
      cases hp
      all_goals first | rfl | (cbv; done)
def b_tree_keys_3 (P : Prims) (c_text_Right : Str → Option (Bool))  (v7 : Ls1) (v8 v9 : Int) (o6_c : Nat) (o6 : (List (Str × Nat × Int))) : Option ((Ls1 × Int × Int × Nat × (List (Str × Nat × Int))) ⊕ (Bool)) :=
 some (.inl (v7, v8, P.ar .add .i64 v9 1, o6_c, o6))
theorem o_tree_keys_3  (v7 : Ls1) (v8 v9 : Int) (o6_c : Nat) (o6 : (List (Str × Nat × Int)))   {out} (hp : b_tree_keys_3 PP c_text_Right  v7 v8 v9 o6_c o6 = some out) : (A_tree_keys_3 xat @xmap @xmapE e_api_Pair e_int m  v7 v8 v9 o6_c o6 stk) = (Sum.elim (fun (v7, v8, v9, o6_c, o6) => (A_tree_keys_1 xat @xmap @xmapE e_api_Pair e_int m  v7 v8 v9 o6_c o6 stk)) (O_tree_keys  m  stk)) out := by
 subst hPP
 simp only [b_tree_keys_3] at hp
 unfold A_tree_keys_3
 rw [h.at_, hT]
 cbv
 cases hp
 simp only [h.frzM]
 cbv
 all_goals first | rfl | (cbv; done) | (simp only [h.nadd0, h.nle_refl, h.cut_all, h.cut_nil, h.map_cons, h.map_nil, h.mapE_nil, h.len_nil, hA, O_tree_keys, A_tree_keys_1, if_true]; first | done | rfl | (cbv; done) | (cbv; simp only [h.map_cons, h.map_nil, h.mapE_nil, h.len_nil, hA, O_tree_keys, A_tree_keys_1]; done))
end
def b_tree_Right_1_1__0_0 (P : Prims) (c_tree_Right_1__0 : S_api_Value → Int → Option (Bool))  (v0_0 v0_1 : Int) (v0_2 : Str) (v0_3 : Ls0) (v0_4 : Ls1) (v2_0 : Int) : Option (Bool) :=
 match c_tree_Right_1__0 ⟨v0_0, v0_1, v0_2, v0_3, v0_4⟩ (P.ar .sub .i64 v2_0 1) with
 | none => none
 | some r1_0 =>
  match r1_0 with
  | false =>
   some true
  | true =>
   some false
section
variable (c_tree_Right_1__0 : S_api_Value → Int → Option (Bool)) (h_tree_Right_1__0 : (C_tree_Right_1__0 xpcall xfcall @xmap e_api_Value e_api_Pair c_tree_Right_1__0)) (stk : Stk) (m : Nat) (n0 : Nat) (k0 : List Nat) (hl0 : n0 < m) 
include c_tree_Right_1__0 h_tree_Right_1__0 stk m n0 k0 hl0
theorem o_tree_Right_1_1__0_0  (v0_0 v0_1 : Int) (v0_2 : Str) (v0_3 : Ls0) (v0_4 : Ls1) (v2_0 : Int) (hg0 : getO stk ⟨n0, k0⟩ = some (.cells [(.clos (.func F.tree_Right_1) [] [(.ref ⟨n0, k0⟩ 0)])]))  {out} (hp : b_tree_Right_1_1__0_0 PP c_tree_Right_1__0  v0_0 v0_1 v0_2 v0_3 v0_4 v2_0 = some out) : (A_tree_Right_1_1__0_0 xat @xmap e_api_Value e_api_Pair m n0 k0 v0_0 v0_1 v0_2 v0_3 v0_4 v2_0 stk) = (O_tree_Right_1_1__0  m n0 k0 stk) out := by
 have hn0 : (n0 = m) = False := eq_false (Nat.ne_of_lt hl0)
 have hm0 : decide (n0 < m) = true := decide_eq_true hl0
 subst hPP
 simp only [b_tree_Right_1_1__0_0] at hp
 unfold A_tree_Right_1_1__0_0
 rw [h.at_, hT]
 cbv
 simp only [if_false, if_true, hn0, hm0, hg0]
 cbv
 cases c2 : c_tree_Right_1__0 ⟨v0_0, v0_1, v0_2, v0_3, v0_4⟩ (xar .sub .i64 v2_0 1) with
 | none => simp only [c2] at hp; cases hp
 | some r1_0 =>
  simp only [c2] at hp
  have qc := (h_tree_Right_1__0 c2 (⟨m, []⟩ :: stk) n0 k0 ((h.gb hl0 _ _).trans (hg0)) (Nat.le_of_lt hl0)).1
  simp only [qc]
  cbv
  cases r1_0 with
  | false =>
   simp only at hp
   cbv
   cases hp
   try simp only [if_false, if_true, hn0, hm0]
   all_goals first | rfl | (cbv; done)
  | true =>
   simp only at hp
   cbv
   cases hp
   try simp only [if_false, if_true, hn0, hm0]
   all_goals first | rfl | (cbv; done)
end
def b_tree_Right_1__0_0 (P : Prims) (c_tree_unused : S_api_Value → Option (Bool)) (c_text_Right : Str → Option (Bool)) (c_slices_ContainsFunc__api_Value_api_Value__0 : Ls0 → Int → Option (Bool)) (c_tree_keys : Ls1 → Option (Bool)) (c_slices_ContainsFunc__api_Pair_api_Pair__0 : Ls1 → Int → Option (Bool))  (v0_0 v0_1 : Int) (v0_2 : Str) (v0_3 : Ls0) (v0_4 : Ls1) (v1 : Int) : Option (Bool) :=
 match P.cmp .lss v1 1 with
 | false =>
  match c_tree_unused ⟨v0_0, v0_1, v0_2, v0_3, v0_4⟩ with
  | none => none
  | some r2_0 =>
   match r2_0 with
   | false =>
    some false
   | true =>
    match P.cmp .eql v0_0 0 with
    | false =>
     match P.cmp .eql v0_0 1 with
     | false =>
      match P.cmp .eql v0_0 2 with
      | false =>
       match P.cmp .eql v0_0 3 with
       | false =>
        match P.cmp .eql v0_0 4 with
        | false =>
         match P.cmp .eql v0_0 5 with
         | false =>
          some false
         | true =>
          match c_tree_keys v0_4 with
          | none => none
          | some r18_0 =>
           match r18_0 with
           | false =>
            some false
           | true =>
            match c_slices_ContainsFunc__api_Pair_api_Pair__0 v0_4 v1 with
            | none => none
            | some r21_0 =>
             match r21_0 with
             | false =>
              some true
             | true =>
              some false
        | true =>
         match c_slices_ContainsFunc__api_Value_api_Value__0 v0_3 v1 with
         | none => none
         | some r14_0 =>
          match r14_0 with
          | false =>
           some true
          | true =>
           some false
       | true =>
        match c_text_Right v0_2 with
        | none => none
        | some r11_0 =>
         some r11_0
      | true =>
       match P.cmp .geq v0_1 (-9007199254740991) with
       | false =>
        some false
       | true =>
        some (P.cmp .leq v0_1 9007199254740991)
     | true =>
      match P.cmp .eql v0_1 0 with
      | false =>
       some (P.cmp .eql v0_1 1)
      | true =>
       some true
    | true =>
     some true
 | true =>
  some false
section
variable (c_tree_unused : S_api_Value → Option (Bool)) (c_text_Right : Str → Option (Bool)) (c_slices_ContainsFunc__api_Value_api_Value__0 : Ls0 → Int → Option (Bool)) (c_tree_keys : Ls1 → Option (Bool)) (c_slices_ContainsFunc__api_Pair_api_Pair__0 : Ls1 → Int → Option (Bool)) (h_tree_unused : (C_tree_unused xpcall xfcall @xmap e_api_Value e_api_Pair c_tree_unused)) (h_text_Right : (C_text_Right xpcall xfcall c_text_Right)) (h_slices_ContainsFunc__api_Value_api_Value__0 : (C_slices_ContainsFunc__api_Value_api_Value__0 xpcall xfcall @xmap e_api_Value c_slices_ContainsFunc__api_Value_api_Value__0)) (h_tree_keys : (C_tree_keys xpcall xfcall @xmap e_api_Pair c_tree_keys)) (h_slices_ContainsFunc__api_Pair_api_Pair__0 : (C_slices_ContainsFunc__api_Pair_api_Pair__0 xpcall xfcall @xmap e_api_Pair c_slices_ContainsFunc__api_Pair_api_Pair__0)) (stk : Stk) (m : Nat) (n0 : Nat) (k0 : List Nat) (hl0 : n0 < m) 
include c_tree_unused c_text_Right c_slices_ContainsFunc__api_Value_api_Value__0 c_tree_keys c_slices_ContainsFunc__api_Pair_api_Pair__0 h_tree_unused h_text_Right h_slices_ContainsFunc__api_Value_api_Value__0 h_tree_keys h_slices_ContainsFunc__api_Pair_api_Pair__0 stk m n0 k0 hl0
theorem o_tree_Right_1__0_0  (v0_0 v0_1 : Int) (v0_2 : Str) (v0_3 : Ls0) (v0_4 : Ls1) (v1 : Int) (hg0 : getO stk ⟨n0, k0⟩ = some (.cells [(.clos (.func F.tree_Right_1) [] [(.ref ⟨n0, k0⟩ 0)])]))  {out} (hp : b_tree_Right_1__0_0 PP c_tree_unused c_text_Right c_slices_ContainsFunc__api_Value_api_Value__0 c_tree_keys c_slices_ContainsFunc__api_Pair_api_Pair__0  v0_0 v0_1 v0_2 v0_3 v0_4 v1 = some out) : (A_tree_Right_1__0_0 xat @xmap e_api_Value e_api_Pair m n0 k0 v0_0 v0_1 v0_2 v0_3 v0_4 v1 stk) = (O_tree_Right_1__0  m n0 k0 stk) out := by
 have hn0 : (n0 = m) = False := eq_false (Nat.ne_of_lt hl0)
 have hm0 : decide (n0 < m) = true := decide_eq_true hl0
 subst hPP
 simp only [b_tree_Right_1__0_0] at hp
 unfold A_tree_Right_1__0_0
 rw [h.at_, hT]
 cbv
 cases c1 : xcmp .lss v1 1 with
 | false =>
  simp only [c1] at hp ⊢
  cbv
  cases c3 : c_tree_unused ⟨v0_0, v0_1, v0_2, v0_3, v0_4⟩ with
  | none => simp only [c3] at hp; cases hp
  | some r2_0 =>
   simp only [c3] at hp
   have qc := fun s => (h_tree_unused c3 s).1
   simp only [qc]
   cbv
   cases r2_0 with
   | false =>
    simp only at hp
    cbv
    cases hp
    try simp only [if_false, if_true, hn0, hm0]
    all_goals first | rfl | (cbv; done)
   | true =>
    simp only at hp
    cbv
    try simp only [if_false, if_true, hn0, hm0]
    try cbv
    rw [h.at_, hT]
    cbv
    cases c5 : xcmp .eql v0_0 0 with
    | false =>
     simp only [c5] at hp ⊢
     cbv
     cases c6 : xcmp .eql v0_0 1 with
     | false =>
      simp only [c6] at hp ⊢
      cbv
      cases c8 : xcmp .eql v0_0 2 with
      | false =>
       simp only [c8] at hp ⊢
       cbv
       cases c10 : xcmp .eql v0_0 3 with
       | false =>
        simp only [c10] at hp ⊢
        cbv
        cases c13 : xcmp .eql v0_0 4 with
        | false =>
         simp only [c13] at hp ⊢
         cbv
         cases c17 : xcmp .eql v0_0 5 with
         | false =>
          simp only [c17] at hp ⊢
          cbv
          try simp only [if_false, if_true, hn0, hm0]
          try cbv
          rw [h.at_, hT]
          cbv
          cases hp
          try simp only [if_false, if_true, hn0, hm0]
          all_goals first | rfl | (cbv; done)
         | true =>
          simp only [c17] at hp ⊢
          cbv
          cases c19 : c_tree_keys v0_4 with
          | none => simp only [c19] at hp; cases hp
          | some r18_0 =>
           simp only [c19] at hp
           have qc := fun s => (h_tree_keys c19 s).1
           simp only [qc]
           cbv
           cases r18_0 with
           | false =>
            simp only at hp
            cbv
            cases hp
            try simp only [if_false, if_true, hn0, hm0]
            all_goals first | rfl | (cbv; done)
           | true =>
            simp only at hp
            cbv
            cases c22 : c_slices_ContainsFunc__api_Pair_api_Pair__0 v0_4 v1 with
            | none => simp only [c22] at hp; cases hp
            | some r21_0 =>
             simp only [c22] at hp
             have qc := (h_slices_ContainsFunc__api_Pair_api_Pair__0 c22 (⟨m, []⟩ :: stk) n0 k0 ((h.gb hl0 _ _).trans (hg0)) (Nat.le_of_lt hl0)).1
             simp only [qc]
             cbv
             cases r21_0 with
             | false =>
              simp only at hp
              cbv
              cases hp
              try simp only [if_false, if_true, hn0, hm0]
              all_goals first | rfl | (cbv; done)
             | true =>
              simp only at hp
              cbv
              cases hp
              try simp only [if_false, if_true, hn0, hm0]
              all_goals first | rfl | (cbv; done)
        | true =>
         simp only [c13] at hp ⊢
         cbv
         cases c15 : c_slices_ContainsFunc__api_Value_api_Value__0 v0_3 v1 with
         | none => simp only [c15] at hp; cases hp
         | some r14_0 =>
          simp only [c15] at hp
          have qc := (h_slices_ContainsFunc__api_Value_api_Value__0 c15 (⟨m, []⟩ :: stk) n0 k0 ((h.gb hl0 _ _).trans (hg0)) (Nat.le_of_lt hl0)).1
          simp only [qc]
          cbv
          cases r14_0 with
          | false =>
           simp only at hp
           cbv
           cases hp
           try simp only [if_false, if_true, hn0, hm0]
           all_goals first | rfl | (cbv; done)
          | true =>
           simp only at hp
           cbv
           cases hp
           try simp only [if_false, if_true, hn0, hm0]
           all_goals first | rfl | (cbv; done)
       | true =>
        simp only [c10] at hp ⊢
        cbv
        cases c12 : c_text_Right v0_2 with
        | none => simp only [c12] at hp; cases hp
        | some r11_0 =>
         simp only [c12] at hp
         have qc := fun s => (h_text_Right c12 s).1
         simp only [qc]
         cbv
         cases hp
         try simp only [if_false, if_true, hn0, hm0]
         all_goals first | rfl | (cbv; done)
      | true =>
       simp only [c8] at hp ⊢
       cbv
       cases c9 : xcmp .geq v0_1 (-9007199254740991) with
       | false =>
        simp only [c9] at hp ⊢
        cbv
        cases hp
        try simp only [if_false, if_true, hn0, hm0]
        all_goals first | rfl | (cbv; done)
       | true =>
        simp only [c9] at hp ⊢
        cbv
        cases hp
        try simp only [if_false, if_true, hn0, hm0]
        all_goals first | rfl | (cbv; done)
     | true =>
      simp only [c6] at hp ⊢
      cbv
      cases c7 : xcmp .eql v0_1 0 with
      | false =>
       simp only [c7] at hp ⊢
       cbv
       cases hp
       try simp only [if_false, if_true, hn0, hm0]
       all_goals first | rfl | (cbv; done)
      | true =>
       simp only [c7] at hp ⊢
       cbv
       cases hp
       try simp only [if_false, if_true, hn0, hm0]
       all_goals first | rfl | (cbv; done)
    | true =>
     simp only [c5] at hp ⊢
     cbv
     cases hp
     try simp only [if_false, if_true, hn0, hm0]
     all_goals first | rfl | (cbv; done)
 | true =>
  simp only [c1] at hp ⊢
  cbv
  cases hp
  try simp only [if_false, if_true, hn0, hm0]
  all_goals first | rfl | (cbv; done)
end
def b_slices_ContainsFunc__api_Value_api_Value__0_0 (P : Prims) (c_slices_IndexFunc__api_Value_api_Value__0 : Ls0 → Int → Option (Int))  (v0 : Ls0) (v1_c1_0 : Int) : Option (Bool) :=
 match c_slices_IndexFunc__api_Value_api_Value__0 v0 v1_c1_0 with
 | none => none
 | some r1_0 =>
  some (P.cmp .geq r1_0 0)
section
variable (c_slices_IndexFunc__api_Value_api_Value__0 : Ls0 → Int → Option (Int)) (h_slices_IndexFunc__api_Value_api_Value__0 : (C_slices_IndexFunc__api_Value_api_Value__0 xpcall xfcall @xmap e_api_Value c_slices_IndexFunc__api_Value_api_Value__0)) (stk : Stk) (m : Nat) (n0 : Nat) (k0 : List Nat) (hl0 : n0 < m) 
include c_slices_IndexFunc__api_Value_api_Value__0 h_slices_IndexFunc__api_Value_api_Value__0 stk m n0 k0 hl0
theorem o_slices_ContainsFunc__api_Value_api_Value__0_0  (v0 : Ls0) (v1_c1_0 : Int) (hg0 : getO stk ⟨n0, k0⟩ = some (.cells [(.clos (.func F.tree_Right_1) [] [(.ref ⟨n0, k0⟩ 0)])]))  {out} (hp : b_slices_ContainsFunc__api_Value_api_Value__0_0 PP c_slices_IndexFunc__api_Value_api_Value__0  v0 v1_c1_0 = some out) : (A_slices_ContainsFunc__api_Value_api_Value__0_0 xat @xmap e_api_Value m n0 k0 v0 v1_c1_0 stk) = (O_slices_ContainsFunc__api_Value_api_Value__0  m n0 k0 stk) out := by
 have hn0 : (n0 = m) = False := eq_false (Nat.ne_of_lt hl0)
 have hm0 : decide (n0 < m) = true := decide_eq_true hl0
 subst hPP
 simp only [b_slices_ContainsFunc__api_Value_api_Value__0_0] at hp
 unfold A_slices_ContainsFunc__api_Value_api_Value__0_0
 rw [h.at_, hT]
 cbv
 cases c2 : c_slices_IndexFunc__api_Value_api_Value__0 v0 v1_c1_0 with
 | none => simp only [c2] at hp; cases hp
 | some r1_0 =>
  simp only [c2] at hp
  have qc := (h_slices_IndexFunc__api_Value_api_Value__0 c2 (⟨m, []⟩ :: stk) n0 k0 ((h.gb hl0 _ _).trans (hg0)) (Nat.le_of_lt hl0)).1
  simp only [qc]
  cbv
  cases hp
  try simp only [if_false, if_true, hn0, hm0]
  all_goals first | rfl | (cbv; done)
end
def b_slices_IndexFunc__api_Value_api_Value__0_0 (P : Prims) (c_tree_Right_1_1__0 : S_api_Value → Int → Option (Bool)) (l_1 : T_slices_IndexFunc__api_Value_api_Value__0_1) (v0 : Ls0) (v1_c1_0 : Int) : Option (Int) :=
 l_1 v0 v1_c1_0 (P.len v0) 0
section
variable (c_tree_Right_1_1__0 : S_api_Value → Int → Option (Bool)) (h_tree_Right_1_1__0 : (C_tree_Right_1_1__0 xpcall xfcall @xmap e_api_Value e_api_Pair c_tree_Right_1_1__0)) (stk : Stk) (m : Nat) (n0 : Nat) (k0 : List Nat) (hl0 : n0 < m) 
include c_tree_Right_1_1__0 h_tree_Right_1_1__0 stk m n0 k0 hl0
theorem o_slices_IndexFunc__api_Value_api_Value__0_0 (l_1 : T_slices_IndexFunc__api_Value_api_Value__0_1) (v0 : Ls0) (v1_c1_0 : Int) (hg0 : getO stk ⟨n0, k0⟩ = some (.cells [(.clos (.func F.tree_Right_1) [] [(.ref ⟨n0, k0⟩ 0)])])) (h_l_1 : H_slices_IndexFunc__api_Value_api_Value__0_1 xat @xmap e_api_Value m n0 k0 l_1) {out} (hp : b_slices_IndexFunc__api_Value_api_Value__0_0 PP c_tree_Right_1_1__0 l_1 v0 v1_c1_0 = some out) : (A_slices_IndexFunc__api_Value_api_Value__0_0 xat @xmap e_api_Value m n0 k0 v0 v1_c1_0 stk) = (O_slices_IndexFunc__api_Value_api_Value__0  m n0 k0 stk) out := by
 have hn0 : (n0 = m) = False := eq_false (Nat.ne_of_lt hl0)
 have hm0 : decide (n0 < m) = true := decide_eq_true hl0
 subst hPP
 simp only [b_slices_IndexFunc__api_Value_api_Value__0_0] at hp
 unfold A_slices_IndexFunc__api_Value_api_Value__0_0
 rw [h.at_, hT]
 cbv
 try simp only [h.len]
 try simp only [if_false, if_true, hn0, hm0]
 first | exact h_l_1 hp stk (hg0) | (have q := h_l_1 hp stk (hg0); simp only [A_slices_IndexFunc__api_Value_api_Value__0_1, h.map_cons, h.map_nil, h.mapE_nil, h.len_nil, hA] at q; first | exact q | (cbv; exact q))
def b_slices_IndexFunc__api_Value_api_Value__0_1 (P : Prims) (c_tree_Right_1_1__0 : S_api_Value → Int → Option (Bool))  (v0 : Ls0) (v1_c1_0 v7 v8 : Int) : Option ((Ls0 × Int × Int × Int) ⊕ (Int)) :=
 match P.cmp .lss v8 v7 with
 | false =>
  some (.inr (-1))
 | true =>
  match P.idx v0 v8 with
  | none => none
  | some ⟨a2_0, a2_1, a2_2, a2_3, a2_4⟩ =>
   match c_tree_Right_1_1__0 ⟨a2_0, a2_1, a2_2, a2_3, a2_4⟩ v1_c1_0 with
   | none => none
   | some r4_0 =>
    match r4_0 with
    | false =>
     some (.inl (v0, v1_c1_0, v7, P.ar .add .i64 v8 1))
    | true =>
     some (.inr v8)
theorem o_slices_IndexFunc__api_Value_api_Value__0_1  (v0 : Ls0) (v1_c1_0 v7 v8 : Int) (hg0 : getO stk ⟨n0, k0⟩ = some (.cells [(.clos (.func F.tree_Right_1) [] [(.ref ⟨n0, k0⟩ 0)])]))  {out} (hp : b_slices_IndexFunc__api_Value_api_Value__0_1 PP c_tree_Right_1_1__0  v0 v1_c1_0 v7 v8 = some out) : (A_slices_IndexFunc__api_Value_api_Value__0_1 xat @xmap e_api_Value m n0 k0 v0 v1_c1_0 v7 v8 stk) = (Sum.elim (fun (v0, v1_c1_0, v7, v8) => (A_slices_IndexFunc__api_Value_api_Value__0_1 xat @xmap e_api_Value m n0 k0 v0 v1_c1_0 v7 v8 stk)) (O_slices_IndexFunc__api_Value_api_Value__0  m n0 k0 stk)) out := by
 have hn0 : (n0 = m) = False := eq_false (Nat.ne_of_lt hl0)
 have hm0 : decide (n0 < m) = true := decide_eq_true hl0
 subst hPP
 simp only [b_slices_IndexFunc__api_Value_api_Value__0_1] at hp
 unfold A_slices_IndexFunc__api_Value_api_Value__0_1
 rw [h.at_, hT]
 cbv
 cases c1 : xcmp .lss v8 v7 with
 | false =>
  simp only [c1] at hp ⊢
  cbv
  try simp only [if_false, if_true, hn0, hm0]
  try cbv
  rw [h.at_, hT]
  cbv
  cases hp
  try simp only [if_false, if_true, hn0, hm0]
  all_goals first | rfl | (cbv; done)
 | true =>
  simp only [c1] at hp ⊢
  cbv
  try simp only [if_false, if_true, hn0, hm0]
  try cbv
  rw [h.at_, hT]
  cbv
  cases c3 : pidx v0 v8 with
  | none => simp only [c3] at hp; cases hp
  | some y7 =>
   obtain ⟨a2_0, a2_1, a2_2, a2_3, a2_4⟩ := y7
   simp only [c3] at hp
   obtain ⟨q1, q2⟩ := h.idx e_api_Value c3
   try simp only [hA.2.2.1] at q2
   simp only [q1, Bool.false_eq_true, if_false]
   cbv
   try simp only [q2]
   cbv
   cases c5 : c_tree_Right_1_1__0 ⟨a2_0, a2_1, a2_2, a2_3, a2_4⟩ v1_c1_0 with
   | none => simp only [c5] at hp; cases hp
   | some r4_0 =>
    simp only [c5] at hp
    have qc := (h_tree_Right_1_1__0 c5 (⟨m, []⟩ :: stk) n0 k0 ((h.gb hl0 _ _).trans (hg0)) (Nat.le_of_lt hl0)).1
    simp only [qc]
    cbv
    cases r4_0 with
    | false =>
     simp only at hp
     cbv
     try simp only [if_false, if_true, hn0, hm0]
     try cbv
     rw [h.at_, hT]
     cbv
     cases hp
     try simp only [if_false, if_true, hn0, hm0]
     all_goals first | rfl | (cbv; done)
    | true =>
     simp only at hp
     cbv
     cases hp
     try simp only [if_false, if_true, hn0, hm0]
     all_goals first | rfl | (cbv; done)
end
def b_slices_ContainsFunc__api_Pair_api_Pair__0_0 (P : Prims) (c_slices_IndexFunc__api_Pair_api_Pair__0 : Ls1 → Int → Option (Int))  (v0 : Ls1) (v1_c1_0 : Int) : Option (Bool) :=
 match c_slices_IndexFunc__api_Pair_api_Pair__0 v0 v1_c1_0 with
 | none => none
 | some r1_0 =>
  some (P.cmp .geq r1_0 0)
section
variable (c_slices_IndexFunc__api_Pair_api_Pair__0 : Ls1 → Int → Option (Int)) (h_slices_IndexFunc__api_Pair_api_Pair__0 : (C_slices_IndexFunc__api_Pair_api_Pair__0 xpcall xfcall @xmap e_api_Pair c_slices_IndexFunc__api_Pair_api_Pair__0)) (stk : Stk) (m : Nat) (n0 : Nat) (k0 : List Nat) (hl0 : n0 < m) 
include c_slices_IndexFunc__api_Pair_api_Pair__0 h_slices_IndexFunc__api_Pair_api_Pair__0 stk m n0 k0 hl0
theorem o_slices_ContainsFunc__api_Pair_api_Pair__0_0  (v0 : Ls1) (v1_c1_0 : Int) (hg0 : getO stk ⟨n0, k0⟩ = some (.cells [(.clos (.func F.tree_Right_1) [] [(.ref ⟨n0, k0⟩ 0)])]))  {out} (hp : b_slices_ContainsFunc__api_Pair_api_Pair__0_0 PP c_slices_IndexFunc__api_Pair_api_Pair__0  v0 v1_c1_0 = some out) : (A_slices_ContainsFunc__api_Pair_api_Pair__0_0 xat @xmap e_api_Pair m n0 k0 v0 v1_c1_0 stk) = (O_slices_ContainsFunc__api_Pair_api_Pair__0  m n0 k0 stk) out := by
 have hn0 : (n0 = m) = False := eq_false (Nat.ne_of_lt hl0)
 have hm0 : decide (n0 < m) = true := decide_eq_true hl0
 subst hPP
 simp only [b_slices_ContainsFunc__api_Pair_api_Pair__0_0] at hp
 unfold A_slices_ContainsFunc__api_Pair_api_Pair__0_0
 rw [h.at_, hT]
 cbv
 cases c2 : c_slices_IndexFunc__api_Pair_api_Pair__0 v0 v1_c1_0 with
 | none => simp only [c2] at hp; cases hp
 | some r1_0 =>
  simp only [c2] at hp
  have qc := (h_slices_IndexFunc__api_Pair_api_Pair__0 c2 (⟨m, []⟩ :: stk) n0 k0 ((h.gb hl0 _ _).trans (hg0)) (Nat.le_of_lt hl0)).1
  simp only [qc]
  cbv
  cases hp
  try simp only [if_false, if_true, hn0, hm0]
  all_goals first | rfl | (cbv; done)
end
def b_slices_IndexFunc__api_Pair_api_Pair__0_0 (P : Prims) (c_tree_Right_1_2__0 : S_api_Pair → Int → Option (Bool)) (l_1 : T_slices_IndexFunc__api_Pair_api_Pair__0_1) (v0 : Ls1) (v1_c1_0 : Int) : Option (Int) :=
 l_1 v0 v1_c1_0 (P.len v0) 0
section
variable (c_tree_Right_1_2__0 : S_api_Pair → Int → Option (Bool)) (h_tree_Right_1_2__0 : (C_tree_Right_1_2__0 xpcall xfcall @xmap e_api_Value e_api_Pair c_tree_Right_1_2__0)) (stk : Stk) (m : Nat) (n0 : Nat) (k0 : List Nat) (hl0 : n0 < m) 
include c_tree_Right_1_2__0 h_tree_Right_1_2__0 stk m n0 k0 hl0
theorem o_slices_IndexFunc__api_Pair_api_Pair__0_0 (l_1 : T_slices_IndexFunc__api_Pair_api_Pair__0_1) (v0 : Ls1) (v1_c1_0 : Int) (hg0 : getO stk ⟨n0, k0⟩ = some (.cells [(.clos (.func F.tree_Right_1) [] [(.ref ⟨n0, k0⟩ 0)])])) (h_l_1 : H_slices_IndexFunc__api_Pair_api_Pair__0_1 xat @xmap e_api_Pair m n0 k0 l_1) {out} (hp : b_slices_IndexFunc__api_Pair_api_Pair__0_0 PP c_tree_Right_1_2__0 l_1 v0 v1_c1_0 = some out) : (A_slices_IndexFunc__api_Pair_api_Pair__0_0 xat @xmap e_api_Pair m n0 k0 v0 v1_c1_0 stk) = (O_slices_IndexFunc__api_Pair_api_Pair__0  m n0 k0 stk) out := by
 have hn0 : (n0 = m) = False := eq_false (Nat.ne_of_lt hl0)
 have hm0 : decide (n0 < m) = true := decide_eq_true hl0
 subst hPP
 simp only [b_slices_IndexFunc__api_Pair_api_Pair__0_0] at hp
 unfold A_slices_IndexFunc__api_Pair_api_Pair__0_0
 rw [h.at_, hT]
 cbv
 try simp only [h.len]
 try simp only [if_false, if_true, hn0, hm0]
 first | exact h_l_1 hp stk (hg0) | (have q := h_l_1 hp stk (hg0); simp only [A_slices_IndexFunc__api_Pair_api_Pair__0_1, h.map_cons, h.map_nil, h.mapE_nil, h.len_nil, hA] at q; first | exact q | (cbv; exact q))
def b_slices_IndexFunc__api_Pair_api_Pair__0_1 (P : Prims) (c_tree_Right_1_2__0 : S_api_Pair → Int → Option (Bool))  (v0 : Ls1) (v1_c1_0 v7 v8 : Int) : Option ((Ls1 × Int × Int × Int) ⊕ (Int)) :=
 match P.cmp .lss v8 v7 with
 | false =>
  some (.inr (-1))
 | true =>
  match P.idx v0 v8 with
  | none => none
  | some ⟨a2_0, ⟨a2_1_0, a2_1_1, a2_1_2, a2_1_3, a2_1_4⟩⟩ =>
   match c_tree_Right_1_2__0 ⟨a2_0, ⟨a2_1_0, a2_1_1, a2_1_2, a2_1_3, a2_1_4⟩⟩ v1_c1_0 with
   | none => none
   | some r4_0 =>
    match r4_0 with
    | false =>
     some (.inl (v0, v1_c1_0, v7, P.ar .add .i64 v8 1))
    | true =>
     some (.inr v8)
theorem o_slices_IndexFunc__api_Pair_api_Pair__0_1  (v0 : Ls1) (v1_c1_0 v7 v8 : Int) (hg0 : getO stk ⟨n0, k0⟩ = some (.cells [(.clos (.func F.tree_Right_1) [] [(.ref ⟨n0, k0⟩ 0)])]))  {out} (hp : b_slices_IndexFunc__api_Pair_api_Pair__0_1 PP c_tree_Right_1_2__0  v0 v1_c1_0 v7 v8 = some out) : (A_slices_IndexFunc__api_Pair_api_Pair__0_1 xat @xmap e_api_Pair m n0 k0 v0 v1_c1_0 v7 v8 stk) = (Sum.elim (fun (v0, v1_c1_0, v7, v8) => (A_slices_IndexFunc__api_Pair_api_Pair__0_1 xat @xmap e_api_Pair m n0 k0 v0 v1_c1_0 v7 v8 stk)) (O_slices_IndexFunc__api_Pair_api_Pair__0  m n0 k0 stk)) out := by
 have hn0 : (n0 = m) = False := eq_false (Nat.ne_of_lt hl0)
 have hm0 : decide (n0 < m) = true := decide_eq_true hl0
 subst hPP
 simp only [b_slices_IndexFunc__api_Pair_api_Pair__0_1] at hp
 unfold A_slices_IndexFunc__api_Pair_api_Pair__0_1
 rw [h.at_, hT]
 cbv
 cases c1 : xcmp .lss v8 v7 with
 | false =>
  simp only [c1] at hp ⊢
  cbv
  try simp only [if_false, if_true, hn0, hm0]
  try cbv
  rw [h.at_, hT]
  cbv
  cases hp
  try simp only [if_false, if_true, hn0, hm0]
  all_goals first | rfl | (cbv; done)
 | true =>
  simp only [c1] at hp ⊢
  cbv
  try simp only [if_false, if_true, hn0, hm0]
  try cbv
  rw [h.at_, hT]
  cbv
  cases c3 : pidx v0 v8 with
  | none => simp only [c3] at hp; cases hp
  | some y7 =>
   obtain ⟨a2_0, ⟨a2_1_0, a2_1_1, a2_1_2, a2_1_3, a2_1_4⟩⟩ := y7
   simp only [c3] at hp
   obtain ⟨q1, q2⟩ := h.idx e_api_Pair c3
   try simp only [hA.2.2.2.1] at q2
   simp only [q1, Bool.false_eq_true, if_false]
   cbv
   try simp only [q2]
   cbv
   cases c5 : c_tree_Right_1_2__0 ⟨a2_0, ⟨a2_1_0, a2_1_1, a2_1_2, a2_1_3, a2_1_4⟩⟩ v1_c1_0 with
   | none => simp only [c5] at hp; cases hp
   | some r4_0 =>
    simp only [c5] at hp
    have qc := (h_tree_Right_1_2__0 c5 (⟨m, []⟩ :: stk) n0 k0 ((h.gb hl0 _ _).trans (hg0)) (Nat.le_of_lt hl0)).1
    simp only [qc]
    cbv
    cases r4_0 with
    | false =>
     simp only at hp
     cbv
     try simp only [if_false, if_true, hn0, hm0]
     try cbv
     rw [h.at_, hT]
     cbv
     cases hp
     try simp only [if_false, if_true, hn0, hm0]
     all_goals first | rfl | (cbv; done)
    | true =>
     simp only at hp
     cbv
     cases hp
     try simp only [if_false, if_true, hn0, hm0]
     all_goals first | rfl | (cbv; done)
end
def b_tree_Right_1_2__0_0 (P : Prims) (c_tree_Right_1__0 : S_api_Value → Int → Option (Bool))  (v0_0 : Str) (v0_1_0 v0_1_1 : Int) (v0_1_2 : Str) (v0_1_3 : Ls0) (v0_1_4 : Ls1) (v2_0 : Int) : Option (Bool) :=
 match c_tree_Right_1__0 ⟨v0_1_0, v0_1_1, v0_1_2, v0_1_3, v0_1_4⟩ (P.ar .sub .i64 v2_0 1) with
 | none => none
 | some r1_0 =>
  match r1_0 with
  | false =>
   some true
  | true =>
   some false
section
variable (c_tree_Right_1__0 : S_api_Value → Int → Option (Bool)) (h_tree_Right_1__0 : (C_tree_Right_1__0 xpcall xfcall @xmap e_api_Value e_api_Pair c_tree_Right_1__0)) (stk : Stk) (m : Nat) (n0 : Nat) (k0 : List Nat) (hl0 : n0 < m) 
include c_tree_Right_1__0 h_tree_Right_1__0 stk m n0 k0 hl0
theorem o_tree_Right_1_2__0_0  (v0_0 : Str) (v0_1_0 v0_1_1 : Int) (v0_1_2 : Str) (v0_1_3 : Ls0) (v0_1_4 : Ls1) (v2_0 : Int) (hg0 : getO stk ⟨n0, k0⟩ = some (.cells [(.clos (.func F.tree_Right_1) [] [(.ref ⟨n0, k0⟩ 0)])]))  {out} (hp : b_tree_Right_1_2__0_0 PP c_tree_Right_1__0  v0_0 v0_1_0 v0_1_1 v0_1_2 v0_1_3 v0_1_4 v2_0 = some out) : (A_tree_Right_1_2__0_0 xat @xmap e_api_Value e_api_Pair m n0 k0 v0_0 v0_1_0 v0_1_1 v0_1_2 v0_1_3 v0_1_4 v2_0 stk) = (O_tree_Right_1_2__0  m n0 k0 stk) out := by
 have hn0 : (n0 = m) = False := eq_false (Nat.ne_of_lt hl0)
 have hm0 : decide (n0 < m) = true := decide_eq_true hl0
 subst hPP
 simp only [b_tree_Right_1_2__0_0] at hp
 unfold A_tree_Right_1_2__0_0
 rw [h.at_, hT]
 cbv
 simp only [if_false, if_true, hn0, hm0, hg0]
 cbv
 cases c2 : c_tree_Right_1__0 ⟨v0_1_0, v0_1_1, v0_1_2, v0_1_3, v0_1_4⟩ (xar .sub .i64 v2_0 1) with
 | none => simp only [c2] at hp; cases hp
 | some r1_0 =>
  simp only [c2] at hp
  have qc := (h_tree_Right_1__0 c2 (⟨m, []⟩ :: stk) n0 k0 ((h.gb hl0 _ _).trans (hg0)) (Nat.le_of_lt hl0)).1
  simp only [qc]
  cbv
  cases r1_0 with
  | false =>
   simp only at hp
   cbv
   cases hp
   try simp only [if_false, if_true, hn0, hm0]
   all_goals first | rfl | (cbv; done)
  | true =>
   simp only at hp
   cbv
   cases hp
   try simp only [if_false, if_true, hn0, hm0]
   all_goals first | rfl | (cbv; done)
end
def b_tree_Right_0 (P : Prims) (c_tree_Right_1__0 : S_api_Value → Int → Option (Bool))  (v0_0 v0_1 : Int) (v0_2 : Str) (v0_3 : Ls0) (v0_4 : Ls1) : Option (Bool) :=
 match c_tree_Right_1__0 ⟨v0_0, v0_1, v0_2, v0_3, v0_4⟩ 12 with
 | none => none
 | some r1_0 =>
  some r1_0
section
variable (c_tree_Right_1__0 : S_api_Value → Int → Option (Bool)) (h_tree_Right_1__0 : (C_tree_Right_1__0 xpcall xfcall @xmap e_api_Value e_api_Pair c_tree_Right_1__0)) (stk : Stk) (m : Nat)   
include c_tree_Right_1__0 h_tree_Right_1__0 stk m  
theorem o_tree_Right_0  (v0_0 v0_1 : Int) (v0_2 : Str) (v0_3 : Ls0) (v0_4 : Ls1)   {out} (hp : b_tree_Right_0 PP c_tree_Right_1__0  v0_0 v0_1 v0_2 v0_3 v0_4 = some out) : (A_tree_Right_0 xat @xmap e_api_Value e_api_Pair m  v0_0 v0_1 v0_2 v0_3 v0_4 stk) = (O_tree_Right  m  stk) out := by
 subst hPP
 simp only [b_tree_Right_0] at hp
 unfold A_tree_Right_0
 rw [h.at_, hT]
 cbv
 cases c2 : c_tree_Right_1__0 ⟨v0_0, v0_1, v0_2, v0_3, v0_4⟩ 12 with
 | none => simp only [c2] at hp; cases hp
 | some r1_0 =>
  simp only [c2] at hp
  have qc := (h_tree_Right_1__0 c2 (⟨m, [([3], (.cells [(.clos (.func F.tree_Right_1) [] [(.ref ⟨m, [3]⟩ 0)])]))]⟩ :: stk) m [3] (h.gt _ _ _ _) (Nat.le_refl _)).1
  simp only [qc]
  cbv
  cases hp
  all_goals first | rfl | (cbv; done)
end
def b_dyn_From_0 (P : Prims) (c_dyn_from : S_any → Int → Option (S_api_Value × Bool)) (c_tree_Right : S_api_Value → Option (Bool))  (v0 : S_any) : Option (S_api_Value × Int) :=
 match c_dyn_from v0 12 with
 | none => none
 | some (⟨r1_0_0, r1_0_1, r1_0_2, r1_0_3, r1_0_4⟩, r1_1) =>
  match r1_1 with
  | false =>
   some (⟨0, 0, [], [], []⟩, 1)
  | true =>
   match c_tree_Right ⟨r1_0_0, r1_0_1, r1_0_2, r1_0_3, r1_0_4⟩ with
   | none => none
   | some r4_0 =>
    match r4_0 with
    | false =>
     some (⟨0, 0, [], [], []⟩, 1)
    | true =>
     some (⟨r1_0_0, r1_0_1, r1_0_2, r1_0_3, r1_0_4⟩, 0)
section
variable (c_dyn_from : S_any → Int → Option (S_api_Value × Bool)) (c_tree_Right : S_api_Value → Option (Bool)) (h_dyn_from : (C_dyn_from xpcall xfcall @xmap e_any e_api_Value e_api_Pair c_dyn_from)) (h_tree_Right : (C_tree_Right xpcall xfcall @xmap e_api_Value e_api_Pair c_tree_Right)) (stk : Stk) (m : Nat)   
include c_dyn_from c_tree_Right h_dyn_from h_tree_Right stk m  
theorem o_dyn_From_0  (v0 : S_any)   {out} (hp : b_dyn_From_0 PP c_dyn_from c_tree_Right  v0 = some out) : (A_dyn_From_0 xat e_any m  v0 stk) = (O_dyn_From @xmap e_api_Value e_api_Pair m  stk) out := by
 subst hPP
 simp only [b_dyn_From_0] at hp
 unfold A_dyn_From_0
 rw [h.at_, hT]
 cbv
 cases c2 : c_dyn_from v0 12 with
 | none => simp only [c2] at hp; cases hp
 | some y7 =>
  obtain ⟨⟨r1_0_0, r1_0_1, r1_0_2, r1_0_3, r1_0_4⟩, r1_1⟩ := y7
  simp only [c2] at hp
  have qc := fun s => (h_dyn_from c2 s).1
  simp only [qc]
  cbv
  cases r1_1 with
  | false =>
   simp only at hp
   cbv
   cases hp
   all_goals first | rfl | (cbv; done) | (simp only [h.nadd0, h.nle_refl, h.cut_all, h.cut_nil, h.map_cons, h.map_nil, h.mapE_nil, h.len_nil, hA, O_dyn_From, if_true]; first | done | rfl | (cbv; done) | (cbv; simp only [h.map_cons, h.map_nil, h.mapE_nil, h.len_nil, hA, O_dyn_From]; done))
  | true =>
   simp only at hp
   cbv
   cases c5 : c_tree_Right ⟨r1_0_0, r1_0_1, r1_0_2, r1_0_3, r1_0_4⟩ with
   | none => simp only [c5] at hp; cases hp
   | some r4_0 =>
    simp only [c5] at hp
    have qc := fun s => (h_tree_Right c5 s).1
    simp only [qc]
    cbv
    cases r4_0 with
    | false =>
     simp only at hp
     cbv
     cases hp
     all_goals first | rfl | (cbv; done) | (simp only [h.nadd0, h.nle_refl, h.cut_all, h.cut_nil, h.map_cons, h.map_nil, h.mapE_nil, h.len_nil, hA, O_dyn_From, if_true]; first | done | rfl | (cbv; done) | (cbv; simp only [h.map_cons, h.map_nil, h.mapE_nil, h.len_nil, hA, O_dyn_From]; done))
    | true =>
     simp only at hp
     cbv
     rw [h.at_, hT]
     cbv
     cases hp
     all_goals first | rfl | (cbv; done)
end
def b_cascaderef04_Stands_0 (P : Prims) (c_cascaderef04_Stands : S_api_Value → Option (S_api_Value × Bool)) (l_1 : T_cascaderef04_Stands_1) (v0_0 v0_1 : Int) (v0_2 : Str) (v0_3 : Ls0) (v0_4 : Ls1) : Option (S_api_Value × Bool) :=
 match P.cmp .eql v0_0 1 with
 | false =>
  l_1 v0_0 v0_1 v0_2 v0_3 v0_4 true v0_0 (P.cmp .eql v0_0 2) 0 0 [] [] [] v0_0 0 [] 0 [] 0 []
 | true =>
  l_1 v0_0 v0_1 v0_2 v0_3 v0_4 true v0_0 true 0 0 [] [] [] v0_0 0 [] 0 [] 0 []
section
variable (c_cascaderef04_Stands : S_api_Value → Option (S_api_Value × Bool)) (h_cascaderef04_Stands : (C_cascaderef04_Stands xpcall xfcall @xmap e_api_Value e_api_Pair c_cascaderef04_Stands)) (stk : Stk) (m : Nat)   
include c_cascaderef04_Stands h_cascaderef04_Stands stk m  
theorem o_cascaderef04_Stands_0 (l_1 : T_cascaderef04_Stands_1) (v0_0 v0_1 : Int) (v0_2 : Str) (v0_3 : Ls0) (v0_4 : Ls1)  (h_l_1 : H_cascaderef04_Stands_1 xat @xmap xlen e_api_Value e_api_Pair m  l_1) {out} (hp : b_cascaderef04_Stands_0 PP c_cascaderef04_Stands l_1 v0_0 v0_1 v0_2 v0_3 v0_4 = some out) : (A_cascaderef04_Stands_0 xat @xmap e_api_Value e_api_Pair m  v0_0 v0_1 v0_2 v0_3 v0_4 stk) = (O_cascaderef04_Stands @xmap e_api_Value e_api_Pair m  stk) out := by
 subst hPP
 simp only [b_cascaderef04_Stands_0] at hp
 unfold A_cascaderef04_Stands_0
 rw [h.at_, hT]
 cbv
 cases c1 : xcmp .eql v0_0 1 with
 | false =>
  simp only [c1] at hp ⊢
  cbv
  first | exact h_l_1 hp stk | (have q := h_l_1 hp stk; simp only [A_cascaderef04_Stands_1, h.map_cons, h.map_nil, h.mapE_nil, h.len_nil, hA] at q; first | exact q | (cbv; exact q))
 | true =>
  simp only [c1] at hp ⊢
  cbv
  first | exact h_l_1 hp stk | (have q := h_l_1 hp stk; simp only [A_cascaderef04_Stands_1, h.map_cons, h.map_nil, h.mapE_nil, h.len_nil, hA] at q; first | exact q | (cbv; exact q))
def b_cascaderef04_Stands_1 (P : Prims) (c_cascaderef04_Stands : S_api_Value → Option (S_api_Value × Bool)) (l_2 : T_cascaderef04_Stands_2) (l_5 : T_cascaderef04_Stands_5) (l_8 : T_cascaderef04_Stands_8) (v1_0 v1_1 : Int) (v1_2 : Str) (v1_3 : Ls0) (v1_4 : Ls1) (v5 : Bool) (v16 : Int) (v18 : Bool) (o2_0 o2_1 : Int) (o2_2 : Str) (o2_3 : Ls0) (o2_4 : Ls1) (o4_0 o4_1 : Int) (o4_2 : Str) (o4_3_g : Nat) (o4_3 : Ls0) (o4_4_g : Nat) (o4_4 : Ls1) : Option (S_api_Value × Bool) :=
 match v18 with
 | false =>
  match P.cmp .eql v16 3 with
  | false =>
   match P.cmp .eql v16 4 with
   | false =>
    match P.cmp .eql v16 5 with
    | false =>
     match P.cmp .eql v16 9 with
     | false =>
      match P.cmp .eql v16 10 with
      | false =>
       match P.cmp .eql v16 11 with
       | false =>
        match P.cmp .eql v16 12 with
        | false =>
         l_8 v5 o2_0 o2_1 o2_2 o2_3 o2_4 0 o4_1 o4_2 o4_3_g o4_3 o4_4_g o4_4
        | true =>
         l_8 v5 o2_0 o2_1 o2_2 o2_3 o2_4 5 o4_1 o4_2 o4_3_g o4_3 o4_4_g o4_4
       | true =>
        l_8 v5 o2_0 o2_1 o2_2 o2_3 o2_4 4 o4_1 o4_2 o4_3_g o4_3 o4_4_g o4_4
      | true =>
       some (⟨0, 0, [], [], []⟩, false)
     | true =>
      l_8 v5 o2_0 o2_1 o2_2 o2_3 o2_4 2 v1_1 o4_2 o4_3_g o4_3 o4_4_g o4_4
    | true =>
     l_5 v1_0 v1_1 v1_2 v1_3 v1_4 v5 0 o2_0 o2_1 o2_2 o2_3 o2_4 o4_0 o4_1 o4_2 o4_3_g o4_3 o4_4_g o4_4
   | true =>
    l_2 v1_0 v1_1 v1_2 v1_3 v1_4 v5 0 o2_0 o2_1 o2_2 o2_3 o2_4 o4_0 o4_1 o4_2 o4_3_g o4_3 o4_4_g o4_4
  | true =>
   l_8 v5 o2_0 o2_1 o2_2 o2_3 o2_4 o4_0 o4_1 v1_2 o4_3_g o4_3 o4_4_g o4_4
 | true =>
  match P.cmp .eql v1_0 1 with
  | false =>
   l_8 v5 o2_0 o2_1 o2_2 o2_3 o2_4 o4_0 v1_1 o4_2 o4_3_g o4_3 o4_4_g o4_4
  | true =>
   match P.cmp .neq v1_1 1 with
   | false =>
    l_8 v5 o2_0 o2_1 o2_2 o2_3 o2_4 o4_0 v1_1 o4_2 o4_3_g o4_3 o4_4_g o4_4
   | true =>
    l_8 v5 o2_0 o2_1 o2_2 o2_3 o2_4 o4_0 0 o4_2 o4_3_g o4_3 o4_4_g o4_4
theorem o_cascaderef04_Stands_1 (l_2 : T_cascaderef04_Stands_2) (l_5 : T_cascaderef04_Stands_5) (l_8 : T_cascaderef04_Stands_8) (v1_0 v1_1 : Int) (v1_2 : Str) (v1_3 : Ls0) (v1_4 : Ls1) (v5 : Bool) (v16 : Int) (v18 : Bool) (o2_0 o2_1 : Int) (o2_2 : Str) (o2_3 : Ls0) (o2_4 : Ls1) (o4_0 o4_1 : Int) (o4_2 : Str) (o4_3_g : Nat) (o4_3 : Ls0) (o4_4_g : Nat) (o4_4 : Ls1)  (h_l_2 : H_cascaderef04_Stands_2 xat @xmap xlen e_api_Value e_api_Pair m  l_2) (h_l_5 : H_cascaderef04_Stands_5 xat @xmap xlen e_api_Value e_api_Pair m  l_5) (h_l_8 : H_cascaderef04_Stands_8 xat @xmap xlen e_api_Value e_api_Pair m  l_8) {out} (hp : b_cascaderef04_Stands_1 PP c_cascaderef04_Stands l_2 l_5 l_8 v1_0 v1_1 v1_2 v1_3 v1_4 v5 v16 v18 o2_0 o2_1 o2_2 o2_3 o2_4 o4_0 o4_1 o4_2 o4_3_g o4_3 o4_4_g o4_4 = some out) : (A_cascaderef04_Stands_1 xat @xmap xlen e_api_Value e_api_Pair m  v1_0 v1_1 v1_2 v1_3 v1_4 v5 v16 v18 o2_0 o2_1 o2_2 o2_3 o2_4 o4_0 o4_1 o4_2 o4_3_g o4_3 o4_4_g o4_4 stk) = (O_cascaderef04_Stands @xmap e_api_Value e_api_Pair m  stk) out := by
 subst hPP
 simp only [b_cascaderef04_Stands_1] at hp
 unfold A_cascaderef04_Stands_1
 rw [h.at_, hT]
 cbv
 cases v18 with
 | false =>
  simp only at hp
  cbv
  cases c5 : xcmp .eql v16 3 with
  | false =>
   simp only [c5] at hp ⊢
   cbv
   cases c6 : xcmp .eql v16 4 with
   | false =>
    simp only [c6] at hp ⊢
    cbv
    cases c7 : xcmp .eql v16 5 with
    | false =>
     simp only [c7] at hp ⊢
     cbv
     cases c8 : xcmp .eql v16 9 with
     | false =>
      simp only [c8] at hp ⊢
      cbv
      cases c9 : xcmp .eql v16 10 with
      | false =>
       simp only [c9] at hp ⊢
       cbv
       cases c10 : xcmp .eql v16 11 with
       | false =>
        simp only [c10] at hp ⊢
        cbv
        cases c11 : xcmp .eql v16 12 with
        | false =>
         simp only [c11] at hp ⊢
         cbv
         first | exact h_l_8 hp stk | (have q := h_l_8 hp stk; simp only [A_cascaderef04_Stands_8, h.map_cons, h.map_nil, h.mapE_nil, h.len_nil, hA] at q; first | exact q | (cbv; exact q))
        | true =>
         simp only [c11] at hp ⊢
         cbv
         first | exact h_l_8 hp stk | (have q := h_l_8 hp stk; simp only [A_cascaderef04_Stands_8, h.map_cons, h.map_nil, h.mapE_nil, h.len_nil, hA] at q; first | exact q | (cbv; exact q))
       | true =>
        simp only [c10] at hp ⊢
        cbv
        first | exact h_l_8 hp stk | (have q := h_l_8 hp stk; simp only [A_cascaderef04_Stands_8, h.map_cons, h.map_nil, h.mapE_nil, h.len_nil, hA] at q; first | exact q | (cbv; exact q))
      | true =>
       simp only [c9] at hp ⊢
       cbv
       cases hp
       all_goals first | rfl | (cbv; done) | (simp only [h.nadd0, h.nle_refl, h.cut_all, h.cut_nil, h.map_cons, h.map_nil, h.mapE_nil, h.len_nil, hA, O_cascaderef04_Stands, if_true]; first | done | rfl | (cbv; done) | (cbv; simp only [h.map_cons, h.map_nil, h.mapE_nil, h.len_nil, hA, O_cascaderef04_Stands]; done))
     | true =>
      simp only [c8] at hp ⊢
      cbv
      first | exact h_l_8 hp stk | (have q := h_l_8 hp stk; simp only [A_cascaderef04_Stands_8, h.map_cons, h.map_nil, h.mapE_nil, h.len_nil, hA] at q; first | exact q | (cbv; exact q))
    | true =>
     simp only [c7] at hp ⊢
     cbv
     first | exact h_l_5 hp stk | (have q := h_l_5 hp stk; simp only [A_cascaderef04_Stands_5, h.map_cons, h.map_nil, h.mapE_nil, h.len_nil, hA] at q; first | exact q | (cbv; exact q))
   | true =>
    simp only [c6] at hp ⊢
    cbv
    first | exact h_l_2 hp stk | (have q := h_l_2 hp stk; simp only [A_cascaderef04_Stands_2, h.map_cons, h.map_nil, h.mapE_nil, h.len_nil, hA] at q; first | exact q | (cbv; exact q))
  | true =>
   simp only [c5] at hp ⊢
   cbv
   first | exact h_l_8 hp stk | (have q := h_l_8 hp stk; simp only [A_cascaderef04_Stands_8, h.map_cons, h.map_nil, h.mapE_nil, h.len_nil, hA] at q; first | exact q | (cbv; exact q))
 | true =>
  simp only at hp
  cbv
  cases c3 : xcmp .eql v1_0 1 with
  | false =>
   simp only [c3] at hp ⊢
   cbv
   first | exact h_l_8 hp stk | (have q := h_l_8 hp stk; simp only [A_cascaderef04_Stands_8, h.map_cons, h.map_nil, h.mapE_nil, h.len_nil, hA] at q; first | exact q | (cbv; exact q))
  | true =>
   simp only [c3] at hp ⊢
   cbv
   cases c4 : xcmp .neq v1_1 1 with
   | false =>
    simp only [c4] at hp ⊢
    cbv
    first | exact h_l_8 hp stk | (have q := h_l_8 hp stk; simp only [A_cascaderef04_Stands_8, h.map_cons, h.map_nil, h.mapE_nil, h.len_nil, hA] at q; first | exact q | (cbv; exact q))
   | true =>
    simp only [c4] at hp ⊢
    cbv
    first | exact h_l_8 hp stk | (have q := h_l_8 hp stk; simp only [A_cascaderef04_Stands_8, h.map_cons, h.map_nil, h.mapE_nil, h.len_nil, hA] at q; first | exact q | (cbv; exact q))
def b_cascaderef04_Stands_8 (P : Prims) (c_cascaderef04_Stands : S_api_Value → Option (S_api_Value × Bool))  (v5 : Bool) (o2_0 o2_1 : Int) (o2_2 : Str) (o2_3 : Ls0) (o2_4 : Ls1) (o4_0 o4_1 : Int) (o4_2 : Str) (o4_3_g : Nat) (o4_3 : Ls0) (o4_4_g : Nat) (o4_4 : Ls1) : Option (S_api_Value × Bool) :=
 some (⟨o4_0, o4_1, o4_2, o4_3, o4_4⟩, v5)
theorem o_cascaderef04_Stands_8  (v5 : Bool) (o2_0 o2_1 : Int) (o2_2 : Str) (o2_3 : Ls0) (o2_4 : Ls1) (o4_0 o4_1 : Int) (o4_2 : Str) (o4_3_g : Nat) (o4_3 : Ls0) (o4_4_g : Nat) (o4_4 : Ls1)   {out} (hp : b_cascaderef04_Stands_8 PP c_cascaderef04_Stands  v5 o2_0 o2_1 o2_2 o2_3 o2_4 o4_0 o4_1 o4_2 o4_3_g o4_3 o4_4_g o4_4 = some out) : (A_cascaderef04_Stands_8 xat @xmap xlen e_api_Value e_api_Pair m  v5 o2_0 o2_1 o2_2 o2_3 o2_4 o4_0 o4_1 o4_2 o4_3_g o4_3 o4_4_g o4_4 stk) = (O_cascaderef04_Stands @xmap e_api_Value e_api_Pair m  stk) out := by
 subst hPP
 simp only [b_cascaderef04_Stands_8] at hp
 unfold A_cascaderef04_Stands_8
 rw [h.at_, hT]
 cbv
 cases hp
 all_goals first | rfl | (cbv; done) | (simp only [h.nadd0, h.nle_refl, h.cut_all, h.cut_nil, h.map_cons, h.map_nil, h.mapE_nil, h.len_nil, hA, O_cascaderef04_Stands, if_true]; first | done | rfl | (cbv; done) | (cbv; simp only [h.map_cons, h.map_nil, h.mapE_nil, h.len_nil, hA, O_cascaderef04_Stands]; done))
def b_cascaderef04_Stands_2 (P : Prims) (c_cascaderef04_Stands : S_api_Value → Option (S_api_Value × Bool)) (l_4 : T_cascaderef04_Stands_4) (l_8 : T_cascaderef04_Stands_8) (v1_0 v1_1 : Int) (v1_2 : Str) (v1_3 : Ls0) (v1_4 : Ls1) (v5 : Bool) (v6 o2_0 o2_1 : Int) (o2_2 : Str) (o2_3 : Ls0) (o2_4 : Ls1) (o4_0 o4_1 : Int) (o4_2 : Str) (o4_3_g : Nat) (o4_3 : Ls0) (o4_4_g : Nat) (o4_4 : Ls1) : Option ((Int × Int × Str × Ls0 × Ls1 × Bool × Int × Int × Int × Str × Ls0 × Ls1 × Int × Int × Str × Nat × Ls0 × Nat × Ls1) ⊕ (S_api_Value × Bool)) :=
 match P.cmp .lss v6 (P.len v1_3) with
 | false =>
  match l_8 v5 o2_0 o2_1 o2_2 o2_3 o2_4 o4_0 o4_1 o4_2 o4_3_g o4_3 o4_4_g o4_4 with | none => none | some o22 => some (.inr o22)
 | true =>
  match P.idx v1_3 v6 with
  | none => none
  | some ⟨a13_0, a13_1, a13_2, a13_3, a13_4⟩ =>
   match c_cascaderef04_Stands ⟨a13_0, a13_1, a13_2, a13_3, a13_4⟩ with
   | none => none
   | some (⟨r15_0_0, r15_0_1, r15_0_2, r15_0_3, r15_0_4⟩, r15_1) =>
    match P.app 80 o4_3 [⟨r15_0_0, r15_0_1, r15_0_2, r15_0_3, r15_0_4⟩] with
    | none => none
    | some l17 =>
     match v5 with
     | false =>
      l_4 v1_0 v1_1 v1_2 v1_3 v1_4 false v6 o2_0 o2_1 o2_2 o2_3 o2_4 o4_0 o4_1 o4_2 (o4_3_g + 1) l17 o4_4_g o4_4
     | true =>
      l_4 v1_0 v1_1 v1_2 v1_3 v1_4 r15_1 v6 o2_0 o2_1 o2_2 o2_3 o2_4 o4_0 o4_1 o4_2 (o4_3_g + 1) l17 o4_4_g o4_4
theorem o_cascaderef04_Stands_2 (l_4 : T_cascaderef04_Stands_4) (l_8 : T_cascaderef04_Stands_8) (v1_0 v1_1 : Int) (v1_2 : Str) (v1_3 : Ls0) (v1_4 : Ls1) (v5 : Bool) (v6 o2_0 o2_1 : Int) (o2_2 : Str) (o2_3 : Ls0) (o2_4 : Ls1) (o4_0 o4_1 : Int) (o4_2 : Str) (o4_3_g : Nat) (o4_3 : Ls0) (o4_4_g : Nat) (o4_4 : Ls1)  (h_l_4 : H_cascaderef04_Stands_4 xat @xmap xlen e_api_Value e_api_Pair m  l_4) (h_l_8 : H_cascaderef04_Stands_8 xat @xmap xlen e_api_Value e_api_Pair m  l_8) {out} (hp : b_cascaderef04_Stands_2 PP c_cascaderef04_Stands l_4 l_8 v1_0 v1_1 v1_2 v1_3 v1_4 v5 v6 o2_0 o2_1 o2_2 o2_3 o2_4 o4_0 o4_1 o4_2 o4_3_g o4_3 o4_4_g o4_4 = some out) : (A_cascaderef04_Stands_2 xat @xmap xlen e_api_Value e_api_Pair m  v1_0 v1_1 v1_2 v1_3 v1_4 v5 v6 o2_0 o2_1 o2_2 o2_3 o2_4 o4_0 o4_1 o4_2 o4_3_g o4_3 o4_4_g o4_4 stk) = (Sum.elim (fun (v1_0, v1_1, v1_2, v1_3, v1_4, v5, v6, o2_0, o2_1, o2_2, o2_3, o2_4, o4_0, o4_1, o4_2, o4_3_g, o4_3, o4_4_g, o4_4) => (A_cascaderef04_Stands_2 xat @xmap xlen e_api_Value e_api_Pair m  v1_0 v1_1 v1_2 v1_3 v1_4 v5 v6 o2_0 o2_1 o2_2 o2_3 o2_4 o4_0 o4_1 o4_2 o4_3_g o4_3 o4_4_g o4_4 stk)) (O_cascaderef04_Stands @xmap e_api_Value e_api_Pair m  stk)) out := by
 subst hPP
 simp only [b_cascaderef04_Stands_2] at hp
 unfold A_cascaderef04_Stands_2
 rw [h.at_, hT]
 cbv
 try simp only [h.len]
 cases c12 : xcmp .lss v6 (plen v1_3) with
 | false =>
  simp only [c12] at hp ⊢
  cbv
  cases c : l_8 v5 o2_0 o2_1 o2_2 o2_3 o2_4 o4_0 o4_1 o4_2 o4_3_g o4_3 o4_4_g o4_4 with
  | none => simp only [c] at hp; cases hp
  | some o22 =>
   simp only [c] at hp
   cases hp
   first | exact h_l_8 c stk | (have q := h_l_8 c stk; simp only [A_cascaderef04_Stands_8, h.map_cons, h.map_nil, h.mapE_nil, h.len_nil, hA] at q; first | exact q | (cbv; exact q))
 | true =>
  simp only [c12] at hp ⊢
  cbv
  rw [h.at_, hT]
  cbv
  cases c14 : pidx v1_3 v6 with
  | none => simp only [c14] at hp; cases hp
  | some y21 =>
   obtain ⟨a13_0, a13_1, a13_2, a13_3, a13_4⟩ := y21
   simp only [c14] at hp
   obtain ⟨q1, q2⟩ := h.idx e_api_Value c14
   try simp only [hA.2.2.1] at q2
   simp only [q1, Bool.false_eq_true, if_false]
   cbv
   try simp only [q2]
   cbv
   cases c16 : c_cascaderef04_Stands ⟨a13_0, a13_1, a13_2, a13_3, a13_4⟩ with
   | none => simp only [c16] at hp; cases hp
   | some y20 =>
    obtain ⟨⟨r15_0_0, r15_0_1, r15_0_2, r15_0_3, r15_0_4⟩, r15_1⟩ := y20
    simp only [c16] at hp
    have qc := fun s => (h_cascaderef04_Stands c16 s).1
    simp only [qc]
    cbv
    simp only [h.allsz_nil, h.allsz_cons]
    cbv
    simp only [h.allsz_nil, h.allsz_cons]
    cbv
    cases c18 : papp 80 o4_3 [⟨r15_0_0, r15_0_1, r15_0_2, r15_0_3, r15_0_4⟩] with
    | none => simp only [c18] at hp; cases hp
    | some l17 =>
     simp only [c18] at hp
     obtain ⟨q1, q2, q3⟩ := h.app e_api_Value c18 rfl
     simp only [h.map_cons, h.map_nil, h.len_nil, hA.2.2.1] at q1 q2 q3
     try simp only [h.len_nil]
     cbv
     simp only [q1, q2, q3, if_true]
     cbv
     cases v5 with
     | false =>
      simp only at hp
      cbv
      first | exact h_l_4 hp stk | (have q := h_l_4 hp stk; simp only [A_cascaderef04_Stands_4, h.map_cons, h.map_nil, h.mapE_nil, h.len_nil, hA] at q; first | exact q | (cbv; exact q))
     | true =>
      simp only at hp
      cbv
      first | exact h_l_4 hp stk | (have q := h_l_4 hp stk; simp only [A_cascaderef04_Stands_4, h.map_cons, h.map_nil, h.mapE_nil, h.len_nil, hA] at q; first | exact q | (cbv; exact q))
def b_cascaderef04_Stands_5 (P : Prims) (c_cascaderef04_Stands : S_api_Value → Option (S_api_Value × Bool)) (l_7 : T_cascaderef04_Stands_7) (l_8 : T_cascaderef04_Stands_8) (v1_0 v1_1 : Int) (v1_2 : Str) (v1_3 : Ls0) (v1_4 : Ls1) (v5 : Bool) (v9 o2_0 o2_1 : Int) (o2_2 : Str) (o2_3 : Ls0) (o2_4 : Ls1) (o4_0 o4_1 : Int) (o4_2 : Str) (o4_3_g : Nat) (o4_3 : Ls0) (o4_4_g : Nat) (o4_4 : Ls1) : Option ((Int × Int × Str × Ls0 × Ls1 × Bool × Int × Int × Int × Str × Ls0 × Ls1 × Int × Int × Str × Nat × Ls0 × Nat × Ls1) ⊕ (S_api_Value × Bool)) :=
 match P.cmp .lss v9 (P.len v1_4) with
 | false =>
  match l_8 v5 o2_0 o2_1 o2_2 o2_3 o2_4 o4_0 o4_1 o4_2 o4_3_g o4_3 o4_4_g o4_4 with | none => none | some o33 => some (.inr o33)
 | true =>
  match P.idx v1_4 v9 with
  | none => none
  | some ⟨a24_0, ⟨a24_1_0, a24_1_1, a24_1_2, a24_1_3, a24_1_4⟩⟩ =>
   match c_cascaderef04_Stands ⟨a24_1_0, a24_1_1, a24_1_2, a24_1_3, a24_1_4⟩ with
   | none => none
   | some (⟨r26_0_0, r26_0_1, r26_0_2, r26_0_3, r26_0_4⟩, r26_1) =>
    match P.app 96 o4_4 [⟨a24_0, ⟨r26_0_0, r26_0_1, r26_0_2, r26_0_3, r26_0_4⟩⟩] with
    | none => none
    | some l28 =>
     match v5 with
     | false =>
      l_7 v1_0 v1_1 v1_2 v1_3 v1_4 false v9 o2_0 o2_1 o2_2 o2_3 o2_4 o4_0 o4_1 o4_2 o4_3_g o4_3 (o4_4_g + 1) l28
     | true =>
      l_7 v1_0 v1_1 v1_2 v1_3 v1_4 r26_1 v9 o2_0 o2_1 o2_2 o2_3 o2_4 o4_0 o4_1 o4_2 o4_3_g o4_3 (o4_4_g + 1) l28
theorem o_cascaderef04_Stands_5 (l_7 : T_cascaderef04_Stands_7) (l_8 : T_cascaderef04_Stands_8) (v1_0 v1_1 : Int) (v1_2 : Str) (v1_3 : Ls0) (v1_4 : Ls1) (v5 : Bool) (v9 o2_0 o2_1 : Int) (o2_2 : Str) (o2_3 : Ls0) (o2_4 : Ls1) (o4_0 o4_1 : Int) (o4_2 : Str) (o4_3_g : Nat) (o4_3 : Ls0) (o4_4_g : Nat) (o4_4 : Ls1)  (h_l_7 : H_cascaderef04_Stands_7 xat @xmap xlen e_api_Value e_api_Pair m  l_7) (h_l_8 : H_cascaderef04_Stands_8 xat @xmap xlen e_api_Value e_api_Pair m  l_8) {out} (hp : b_cascaderef04_Stands_5 PP c_cascaderef04_Stands l_7 l_8 v1_0 v1_1 v1_2 v1_3 v1_4 v5 v9 o2_0 o2_1 o2_2 o2_3 o2_4 o4_0 o4_1 o4_2 o4_3_g o4_3 o4_4_g o4_4 = some out) : (A_cascaderef04_Stands_5 xat @xmap xlen e_api_Value e_api_Pair m  v1_0 v1_1 v1_2 v1_3 v1_4 v5 v9 o2_0 o2_1 o2_2 o2_3 o2_4 o4_0 o4_1 o4_2 o4_3_g o4_3 o4_4_g o4_4 stk) = (Sum.elim (fun (v1_0, v1_1, v1_2, v1_3, v1_4, v5, v9, o2_0, o2_1, o2_2, o2_3, o2_4, o4_0, o4_1, o4_2, o4_3_g, o4_3, o4_4_g, o4_4) => (A_cascaderef04_Stands_5 xat @xmap xlen e_api_Value e_api_Pair m  v1_0 v1_1 v1_2 v1_3 v1_4 v5 v9 o2_0 o2_1 o2_2 o2_3 o2_4 o4_0 o4_1 o4_2 o4_3_g o4_3 o4_4_g o4_4 stk)) (O_cascaderef04_Stands @xmap e_api_Value e_api_Pair m  stk)) out := by
 subst hPP
 simp only [b_cascaderef04_Stands_5] at hp
 unfold A_cascaderef04_Stands_5
 rw [h.at_, hT]
 cbv
 try simp only [h.len]
 cases c23 : xcmp .lss v9 (plen v1_4) with
 | false =>
  simp only [c23] at hp ⊢
  cbv
  cases c : l_8 v5 o2_0 o2_1 o2_2 o2_3 o2_4 o4_0 o4_1 o4_2 o4_3_g o4_3 o4_4_g o4_4 with
  | none => simp only [c] at hp; cases hp
  | some o33 =>
   simp only [c] at hp
   cases hp
   first | exact h_l_8 c stk | (have q := h_l_8 c stk; simp only [A_cascaderef04_Stands_8, h.map_cons, h.map_nil, h.mapE_nil, h.len_nil, hA] at q; first | exact q | (cbv; exact q))
 | true =>
  simp only [c23] at hp ⊢
  cbv
  rw [h.at_, hT]
  cbv
  cases c25 : pidx v1_4 v9 with
  | none => simp only [c25] at hp; cases hp
  | some y32 =>
   obtain ⟨a24_0, ⟨a24_1_0, a24_1_1, a24_1_2, a24_1_3, a24_1_4⟩⟩ := y32
   simp only [c25] at hp
   obtain ⟨q1, q2⟩ := h.idx e_api_Pair c25
   try simp only [hA.2.2.2.1] at q2
   simp only [q1, Bool.false_eq_true, if_false]
   cbv
   try simp only [q2]
   cbv
   cases c27 : c_cascaderef04_Stands ⟨a24_1_0, a24_1_1, a24_1_2, a24_1_3, a24_1_4⟩ with
   | none => simp only [c27] at hp; cases hp
   | some y31 =>
    obtain ⟨⟨r26_0_0, r26_0_1, r26_0_2, r26_0_3, r26_0_4⟩, r26_1⟩ := y31
    simp only [c27] at hp
    have qc := fun s => (h_cascaderef04_Stands c27 s).1
    simp only [qc]
    cbv
    obtain ⟨q1, q2⟩ := h.idx e_api_Pair c25
    try simp only [hA.2.2.2.1] at q2
    simp only [q1, Bool.false_eq_true, if_false]
    cbv
    try simp only [q2]
    cbv
    simp only [h.allsz_nil, h.allsz_cons]
    cbv
    simp only [h.allsz_nil, h.allsz_cons]
    cbv
    cases c29 : papp 96 o4_4 [⟨a24_0, ⟨r26_0_0, r26_0_1, r26_0_2, r26_0_3, r26_0_4⟩⟩] with
    | none => simp only [c29] at hp; cases hp
    | some l28 =>
     simp only [c29] at hp
     obtain ⟨q1, q2, q3⟩ := h.app e_api_Pair c29 rfl
     simp only [h.map_cons, h.map_nil, h.len_nil, hA.2.2.2.1] at q1 q2 q3
     try simp only [h.len_nil]
     cbv
     simp only [q1, q2, q3, if_true]
     cbv
     cases v5 with
     | false =>
      simp only at hp
      cbv
      first | exact h_l_7 hp stk | (have q := h_l_7 hp stk; simp only [A_cascaderef04_Stands_7, h.map_cons, h.map_nil, h.mapE_nil, h.len_nil, hA] at q; first | exact q | (cbv; exact q))
     | true =>
      simp only at hp
      cbv
      first | exact h_l_7 hp stk | (have q := h_l_7 hp stk; simp only [A_cascaderef04_Stands_7, h.map_cons, h.map_nil, h.mapE_nil, h.len_nil, hA] at q; first | exact q | (cbv; exact q))
def b_cascaderef04_Stands_4 (P : Prims) (c_cascaderef04_Stands : S_api_Value → Option (S_api_Value × Bool))  (v1_0 v1_1 : Int) (v1_2 : Str) (v1_3 : Ls0) (v1_4 : Ls1) (v5 : Bool) (v6 o2_0 o2_1 : Int) (o2_2 : Str) (o2_3 : Ls0) (o2_4 : Ls1) (o4_0 o4_1 : Int) (o4_2 : Str) (o4_3_g : Nat) (o4_3 : Ls0) (o4_4_g : Nat) (o4_4 : Ls1) : Option ((Int × Int × Str × Ls0 × Ls1 × Bool × Int × Int × Int × Str × Ls0 × Ls1 × Int × Int × Str × Nat × Ls0 × Nat × Ls1) ⊕ (S_api_Value × Bool)) :=
 some (.inl (v1_0, v1_1, v1_2, v1_3, v1_4, v5, P.ar .add .i64 v6 1, o2_0, o2_1, o2_2, o2_3, o2_4, o4_0, o4_1, o4_2, o4_3_g, o4_3, o4_4_g, o4_4))
theorem o_cascaderef04_Stands_4  (v1_0 v1_1 : Int) (v1_2 : Str) (v1_3 : Ls0) (v1_4 : Ls1) (v5 : Bool) (v6 o2_0 o2_1 : Int) (o2_2 : Str) (o2_3 : Ls0) (o2_4 : Ls1) (o4_0 o4_1 : Int) (o4_2 : Str) (o4_3_g : Nat) (o4_3 : Ls0) (o4_4_g : Nat) (o4_4 : Ls1)   {out} (hp : b_cascaderef04_Stands_4 PP c_cascaderef04_Stands  v1_0 v1_1 v1_2 v1_3 v1_4 v5 v6 o2_0 o2_1 o2_2 o2_3 o2_4 o4_0 o4_1 o4_2 o4_3_g o4_3 o4_4_g o4_4 = some out) : (A_cascaderef04_Stands_4 xat @xmap xlen e_api_Value e_api_Pair m  v1_0 v1_1 v1_2 v1_3 v1_4 v5 v6 o2_0 o2_1 o2_2 o2_3 o2_4 o4_0 o4_1 o4_2 o4_3_g o4_3 o4_4_g o4_4 stk) = (Sum.elim (fun (v1_0, v1_1, v1_2, v1_3, v1_4, v5, v6, o2_0, o2_1, o2_2, o2_3, o2_4, o4_0, o4_1, o4_2, o4_3_g, o4_3, o4_4_g, o4_4) => (A_cascaderef04_Stands_2 xat @xmap xlen e_api_Value e_api_Pair m  v1_0 v1_1 v1_2 v1_3 v1_4 v5 v6 o2_0 o2_1 o2_2 o2_3 o2_4 o4_0 o4_1 o4_2 o4_3_g o4_3 o4_4_g o4_4 stk)) (O_cascaderef04_Stands @xmap e_api_Value e_api_Pair m  stk)) out := by
 subst hPP
 simp only [b_cascaderef04_Stands_4] at hp
 unfold A_cascaderef04_Stands_4
 rw [h.at_, hT]
 cbv
 cases hp
 all_goals first | rfl | (cbv; done) | (simp only [h.nadd0, h.nle_refl, h.cut_all, h.cut_nil, h.map_cons, h.map_nil, h.mapE_nil, h.len_nil, hA, O_cascaderef04_Stands, A_cascaderef04_Stands_2, if_true]; first | done | rfl | (cbv; done) | (cbv; simp only [h.map_cons, h.map_nil, h.mapE_nil, h.len_nil, hA, O_cascaderef04_Stands, A_cascaderef04_Stands_2]; done))
def b_cascaderef04_Stands_7 (P : Prims) (c_cascaderef04_Stands : S_api_Value → Option (S_api_Value × Bool))  (v1_0 v1_1 : Int) (v1_2 : Str) (v1_3 : Ls0) (v1_4 : Ls1) (v5 : Bool) (v9 o2_0 o2_1 : Int) (o2_2 : Str) (o2_3 : Ls0) (o2_4 : Ls1) (o4_0 o4_1 : Int) (o4_2 : Str) (o4_3_g : Nat) (o4_3 : Ls0) (o4_4_g : Nat) (o4_4 : Ls1) : Option ((Int × Int × Str × Ls0 × Ls1 × Bool × Int × Int × Int × Str × Ls0 × Ls1 × Int × Int × Str × Nat × Ls0 × Nat × Ls1) ⊕ (S_api_Value × Bool)) :=
 some (.inl (v1_0, v1_1, v1_2, v1_3, v1_4, v5, P.ar .add .i64 v9 1, o2_0, o2_1, o2_2, o2_3, o2_4, o4_0, o4_1, o4_2, o4_3_g, o4_3, o4_4_g, o4_4))
theorem o_cascaderef04_Stands_7  (v1_0 v1_1 : Int) (v1_2 : Str) (v1_3 : Ls0) (v1_4 : Ls1) (v5 : Bool) (v9 o2_0 o2_1 : Int) (o2_2 : Str) (o2_3 : Ls0) (o2_4 : Ls1) (o4_0 o4_1 : Int) (o4_2 : Str) (o4_3_g : Nat) (o4_3 : Ls0) (o4_4_g : Nat) (o4_4 : Ls1)   {out} (hp : b_cascaderef04_Stands_7 PP c_cascaderef04_Stands  v1_0 v1_1 v1_2 v1_3 v1_4 v5 v9 o2_0 o2_1 o2_2 o2_3 o2_4 o4_0 o4_1 o4_2 o4_3_g o4_3 o4_4_g o4_4 = some out) : (A_cascaderef04_Stands_7 xat @xmap xlen e_api_Value e_api_Pair m  v1_0 v1_1 v1_2 v1_3 v1_4 v5 v9 o2_0 o2_1 o2_2 o2_3 o2_4 o4_0 o4_1 o4_2 o4_3_g o4_3 o4_4_g o4_4 stk) = (Sum.elim (fun (v1_0, v1_1, v1_2, v1_3, v1_4, v5, v9, o2_0, o2_1, o2_2, o2_3, o2_4, o4_0, o4_1, o4_2, o4_3_g, o4_3, o4_4_g, o4_4) => (A_cascaderef04_Stands_5 xat @xmap xlen e_api_Value e_api_Pair m  v1_0 v1_1 v1_2 v1_3 v1_4 v5 v9 o2_0 o2_1 o2_2 o2_3 o2_4 o4_0 o4_1 o4_2 o4_3_g o4_3 o4_4_g o4_4 stk)) (O_cascaderef04_Stands @xmap e_api_Value e_api_Pair m  stk)) out := by
 subst hPP
 simp only [b_cascaderef04_Stands_7] at hp
 unfold A_cascaderef04_Stands_7
 rw [h.at_, hT]
 cbv
 cases hp
 all_goals first | rfl | (cbv; done) | (simp only [h.nadd0, h.nle_refl, h.cut_all, h.cut_nil, h.map_cons, h.map_nil, h.mapE_nil, h.len_nil, hA, O_cascaderef04_Stands, A_cascaderef04_Stands_5, if_true]; first | done | rfl | (cbv; done) | (cbv; simp only [h.map_cons, h.map_nil, h.mapE_nil, h.len_nil, hA, O_cascaderef04_Stands, A_cascaderef04_Stands_5]; done))
end
def b_cascaderef01_Size_0 (P : Prims)  (l_2 : T_cascaderef01_Size_2) (v0 : Str) (v1 : Int) : Option (Int × Int) :=
 match P.sidx v0 v1 with
 | none => none
 | some b1 =>
  match P.cmp .lss (P.wrap .i64 b1) 128 with
  | false =>
   match P.cmp .geq (P.wrap .i64 b1) 194 with
   | false =>
    l_2 v0 v1 (P.wrap .i64 b1) 0 0 0
   | true =>
    match P.cmp .lss (P.wrap .i64 b1) 224 with
    | false =>
     l_2 v0 v1 (P.wrap .i64 b1) 0 0 0
    | true =>
     l_2 v0 v1 (P.wrap .i64 b1) 2 (P.ar .sub .i64 (P.wrap .i64 b1) 192) 128
  | true =>
   some (1, P.wrap .i32 (P.wrap .i64 b1))
section
variable   (stk : Stk) (m : Nat)   
include   stk m  
theorem o_cascaderef01_Size_0 (l_2 : T_cascaderef01_Size_2) (v0 : Str) (v1 : Int)  (h_l_2 : H_cascaderef01_Size_2 xat m  l_2) {out} (hp : b_cascaderef01_Size_0 PP  l_2 v0 v1 = some out) : (A_cascaderef01_Size_0 xat m  v0 v1 stk) = (O_cascaderef01_Size  m  stk) out := by
 subst hPP
 simp only [b_cascaderef01_Size_0] at hp
 unfold A_cascaderef01_Size_0
 rw [h.at_, hT]
 cbv
 cases c2 : psidx v0 v1 with
 | none => simp only [c2] at hp; cases hp
 | some b1 =>
  simp only [c2] at hp
  obtain ⟨w, q1, q2, q3⟩ := h.sidx c2
  simp only [q1, q2, q3, Bool.false_eq_true, if_false]
  cbv
  cases c3 : xcmp .lss (xwrap .i64 b1) 128 with
  | false =>
   simp only [c3] at hp ⊢
   cbv
   rw [h.at_, hT]
   cbv
   cases c4 : xcmp .geq (xwrap .i64 b1) 194 with
   | false =>
    simp only [c4] at hp ⊢
    cbv
    first | exact h_l_2 hp stk | (have q := h_l_2 hp stk; simp only [A_cascaderef01_Size_2, h.map_cons, h.map_nil, h.mapE_nil, h.len_nil, hA] at q; first | exact q | (cbv; exact q))
   | true =>
    simp only [c4] at hp ⊢
    cbv
    cases c5 : xcmp .lss (xwrap .i64 b1) 224 with
    | false =>
     simp only [c5] at hp ⊢
     cbv
     first | exact h_l_2 hp stk | (have q := h_l_2 hp stk; simp only [A_cascaderef01_Size_2, h.map_cons, h.map_nil, h.mapE_nil, h.len_nil, hA] at q; first | exact q | (cbv; exact q))
    | true =>
     simp only [c5] at hp ⊢
     cbv
     first | exact h_l_2 hp stk | (have q := h_l_2 hp stk; simp only [A_cascaderef01_Size_2, h.map_cons, h.map_nil, h.mapE_nil, h.len_nil, hA] at q; first | exact q | (cbv; exact q))
  | true =>
   simp only [c3] at hp ⊢
   cbv
   cases hp
   all_goals first | rfl | (cbv; done)
def b_cascaderef01_Size_2 (P : Prims)  (l_3 : T_cascaderef01_Size_3) (v0 : Str) (v1 v6 v7 v8 v9 : Int) : Option (Int × Int) :=
 match P.cmp .geq v6 224 with
 | false =>
  l_3 v0 v1 v6 v7 v8 v9
 | true =>
  match P.cmp .lss v6 240 with
  | false =>
   l_3 v0 v1 v6 v7 v8 v9
  | true =>
   l_3 v0 v1 v6 3 (P.ar .sub .i64 v6 224) 2048
theorem o_cascaderef01_Size_2 (l_3 : T_cascaderef01_Size_3) (v0 : Str) (v1 v6 v7 v8 v9 : Int)  (h_l_3 : H_cascaderef01_Size_3 xat m  l_3) {out} (hp : b_cascaderef01_Size_2 PP  l_3 v0 v1 v6 v7 v8 v9 = some out) : (A_cascaderef01_Size_2 xat m  v0 v1 v6 v7 v8 v9 stk) = (O_cascaderef01_Size  m  stk) out := by
 subst hPP
 simp only [b_cascaderef01_Size_2] at hp
 unfold A_cascaderef01_Size_2
 rw [h.at_, hT]
 cbv
 cases c6 : xcmp .geq v6 224 with
 | false =>
  simp only [c6] at hp ⊢
  cbv
  first | exact h_l_3 hp stk | (have q := h_l_3 hp stk; simp only [A_cascaderef01_Size_3, h.map_cons, h.map_nil, h.mapE_nil, h.len_nil, hA] at q; first | exact q | (cbv; exact q))
 | true =>
  simp only [c6] at hp ⊢
  cbv
  cases c7 : xcmp .lss v6 240 with
  | false =>
   simp only [c7] at hp ⊢
   cbv
   first | exact h_l_3 hp stk | (have q := h_l_3 hp stk; simp only [A_cascaderef01_Size_3, h.map_cons, h.map_nil, h.mapE_nil, h.len_nil, hA] at q; first | exact q | (cbv; exact q))
  | true =>
   simp only [c7] at hp ⊢
   cbv
   first | exact h_l_3 hp stk | (have q := h_l_3 hp stk; simp only [A_cascaderef01_Size_3, h.map_cons, h.map_nil, h.mapE_nil, h.len_nil, hA] at q; first | exact q | (cbv; exact q))
def b_cascaderef01_Size_3 (P : Prims)  (l_4 : T_cascaderef01_Size_4) (v0 : Str) (v1 v6 v7 v8 v9 : Int) : Option (Int × Int) :=
 match P.cmp .geq v6 240 with
 | false =>
  l_4 v0 v1 v7 v8 v9
 | true =>
  match P.cmp .lss v6 245 with
  | false =>
   l_4 v0 v1 v7 v8 v9
  | true =>
   l_4 v0 v1 4 (P.ar .sub .i64 v6 240) 65536
theorem o_cascaderef01_Size_3 (l_4 : T_cascaderef01_Size_4) (v0 : Str) (v1 v6 v7 v8 v9 : Int)  (h_l_4 : H_cascaderef01_Size_4 xat m  l_4) {out} (hp : b_cascaderef01_Size_3 PP  l_4 v0 v1 v6 v7 v8 v9 = some out) : (A_cascaderef01_Size_3 xat m  v0 v1 v6 v7 v8 v9 stk) = (O_cascaderef01_Size  m  stk) out := by
 subst hPP
 simp only [b_cascaderef01_Size_3] at hp
 unfold A_cascaderef01_Size_3
 rw [h.at_, hT]
 cbv
 cases c8 : xcmp .geq v6 240 with
 | false =>
  simp only [c8] at hp ⊢
  cbv
  first | exact h_l_4 hp stk | (have q := h_l_4 hp stk; simp only [A_cascaderef01_Size_4, h.map_cons, h.map_nil, h.mapE_nil, h.len_nil, hA] at q; first | exact q | (cbv; exact q))
 | true =>
  simp only [c8] at hp ⊢
  cbv
  cases c9 : xcmp .lss v6 245 with
  | false =>
   simp only [c9] at hp ⊢
   cbv
   first | exact h_l_4 hp stk | (have q := h_l_4 hp stk; simp only [A_cascaderef01_Size_4, h.map_cons, h.map_nil, h.mapE_nil, h.len_nil, hA] at q; first | exact q | (cbv; exact q))
  | true =>
   simp only [c9] at hp ⊢
   cbv
   first | exact h_l_4 hp stk | (have q := h_l_4 hp stk; simp only [A_cascaderef01_Size_4, h.map_cons, h.map_nil, h.mapE_nil, h.len_nil, hA] at q; first | exact q | (cbv; exact q))
def b_cascaderef01_Size_4 (P : Prims)  (l_6 : T_cascaderef01_Size_6) (v0 : Str) (v1 v7 v8 v9 : Int) : Option (Int × Int) :=
 match P.cmp .eql v7 0 with
 | false =>
  match P.cmp .geq v1 (P.ar .add .i64 (P.ar .sub .i64 (P.slen v0) v7) 1) with
  | false =>
   l_6 v0 v1 v7 v8 v9 1
  | true =>
   some (0, 0)
 | true =>
  some (0, 0)
theorem o_cascaderef01_Size_4 (l_6 : T_cascaderef01_Size_6) (v0 : Str) (v1 v7 v8 v9 : Int)  (h_l_6 : H_cascaderef01_Size_6 xat m  l_6) {out} (hp : b_cascaderef01_Size_4 PP  l_6 v0 v1 v7 v8 v9 = some out) : (A_cascaderef01_Size_4 xat m  v0 v1 v7 v8 v9 stk) = (O_cascaderef01_Size  m  stk) out := by
 subst hPP
 simp only [b_cascaderef01_Size_4] at hp
 unfold A_cascaderef01_Size_4
 rw [h.at_, hT]
 cbv
 cases c10 : xcmp .eql v7 0 with
 | false =>
  simp only [c10] at hp ⊢
  cbv
  try simp only [h.slen]
  cases c11 : xcmp .geq v1 (xar .add .i64 (xar .sub .i64 (pslen v0) v7) 1) with
  | false =>
   simp only [c11] at hp ⊢
   cbv
   rw [h.at_, hT]
   cbv
   first | exact h_l_6 hp stk | (have q := h_l_6 hp stk; simp only [A_cascaderef01_Size_6, h.map_cons, h.map_nil, h.mapE_nil, h.len_nil, hA] at q; first | exact q | (cbv; exact q))
  | true =>
   simp only [c11] at hp ⊢
   cbv
   cases hp
   all_goals first | rfl | (cbv; done)
 | true =>
  simp only [c10] at hp ⊢
  cbv
  cases hp
  all_goals first | rfl | (cbv; done)
def b_cascaderef01_Size_6 (P : Prims)  (l_11 : T_cascaderef01_Size_11) (v0 : Str) (v1 v7 v8 v9 v10 : Int) : Option ((Str × Int × Int × Int × Int × Int) ⊕ (Int × Int)) :=
 match P.cmp .lss v10 v7 with
 | false =>
  match P.cmp .lss v8 v9 with
  | false =>
   match P.cmp .gtr v8 1114111 with
   | false =>
    match P.cmp .geq v8 55296 with
    | false =>
     match l_11 v7 v8 with | none => none | some o22 => some (.inr o22)
    | true =>
     match P.cmp .lss v8 57344 with
     | false =>
      match l_11 v7 v8 with | none => none | some o21 => some (.inr o21)
     | true =>
      some (.inr (0, 0))
   | true =>
    some (.inr (0, 0))
  | true =>
   some (.inr (0, 0))
 | true =>
  match P.sidx v0 (P.ar .add .i64 v1 v10) with
  | none => none
  | some b13 =>
   match P.cmp .lss (P.wrap .i64 b13) 128 with
   | false =>
    match P.cmp .geq (P.wrap .i64 b13) 192 with
    | false =>
     some (.inl (v0, v1, v7, P.ar .sub .i64 (P.ar .add .i64 (P.ar .mul .i64 v8 64) (P.wrap .i64 b13)) 128, v9, P.ar .add .i64 v10 1))
    | true =>
     some (.inr (0, 0))
   | true =>
    some (.inr (0, 0))
theorem o_cascaderef01_Size_6 (l_11 : T_cascaderef01_Size_11) (v0 : Str) (v1 v7 v8 v9 v10 : Int)  (h_l_11 : H_cascaderef01_Size_11 xat m  l_11) {out} (hp : b_cascaderef01_Size_6 PP  l_11 v0 v1 v7 v8 v9 v10 = some out) : (A_cascaderef01_Size_6 xat m  v0 v1 v7 v8 v9 v10 stk) = (Sum.elim (fun (v0, v1, v7, v8, v9, v10) => (A_cascaderef01_Size_6 xat m  v0 v1 v7 v8 v9 v10 stk)) (O_cascaderef01_Size  m  stk)) out := by
 subst hPP
 simp only [b_cascaderef01_Size_6] at hp
 unfold A_cascaderef01_Size_6
 rw [h.at_, hT]
 cbv
 cases c12 : xcmp .lss v10 v7 with
 | false =>
  simp only [c12] at hp ⊢
  cbv
  rw [h.at_, hT]
  cbv
  cases c17 : xcmp .lss v8 v9 with
  | false =>
   simp only [c17] at hp ⊢
   cbv
   cases c18 : xcmp .gtr v8 1114111 with
   | false =>
    simp only [c18] at hp ⊢
    cbv
    cases c19 : xcmp .geq v8 55296 with
    | false =>
     simp only [c19] at hp ⊢
     cbv
     cases c : l_11 v7 v8 with
     | none => simp only [c] at hp; cases hp
     | some o22 =>
      simp only [c] at hp
      cases hp
      first | exact h_l_11 c stk | (have q := h_l_11 c stk; simp only [A_cascaderef01_Size_11, h.map_cons, h.map_nil, h.mapE_nil, h.len_nil, hA] at q; first | exact q | (cbv; exact q))
    | true =>
     simp only [c19] at hp ⊢
     cbv
     cases c20 : xcmp .lss v8 57344 with
     | false =>
      simp only [c20] at hp ⊢
      cbv
      cases c : l_11 v7 v8 with
      | none => simp only [c] at hp; cases hp
      | some o21 =>
       simp only [c] at hp
       cases hp
       first | exact h_l_11 c stk | (have q := h_l_11 c stk; simp only [A_cascaderef01_Size_11, h.map_cons, h.map_nil, h.mapE_nil, h.len_nil, hA] at q; first | exact q | (cbv; exact q))
     | true =>
      simp only [c20] at hp ⊢
      cbv
      cases hp
      all_goals first | rfl | (cbv; done)
   | true =>
    simp only [c18] at hp ⊢
    cbv
    cases hp
    all_goals first | rfl | (cbv; done)
  | true =>
   simp only [c17] at hp ⊢
   cbv
   cases hp
   all_goals first | rfl | (cbv; done)
 | true =>
  simp only [c12] at hp ⊢
  cbv
  rw [h.at_, hT]
  cbv
  cases c14 : psidx v0 (xar .add .i64 v1 v10) with
  | none => simp only [c14] at hp; cases hp
  | some b13 =>
   simp only [c14] at hp
   obtain ⟨w, q1, q2, q3⟩ := h.sidx c14
   simp only [q1, q2, q3, Bool.false_eq_true, if_false]
   cbv
   cases c15 : xcmp .lss (xwrap .i64 b13) 128 with
   | false =>
    simp only [c15] at hp ⊢
    cbv
    cases c16 : xcmp .geq (xwrap .i64 b13) 192 with
    | false =>
     simp only [c16] at hp ⊢
     cbv
     rw [h.at_, hT]
     cbv
     rw [h.at_, hT]
     cbv
     cases hp
     all_goals first | rfl | (cbv; done)
    | true =>
     simp only [c16] at hp ⊢
     cbv
     cases hp
     all_goals first | rfl | (cbv; done)
   | true =>
    simp only [c15] at hp ⊢
    cbv
    cases hp
    all_goals first | rfl | (cbv; done)
def b_cascaderef01_Size_11 (P : Prims)   (v7 v8 : Int) : Option (Int × Int) :=
 some (v7, P.wrap .i32 v8)
theorem o_cascaderef01_Size_11  (v7 v8 : Int)   {out} (hp : b_cascaderef01_Size_11 PP   v7 v8 = some out) : (A_cascaderef01_Size_11 xat m  v7 v8 stk) = (O_cascaderef01_Size  m  stk) out := by
 subst hPP
 simp only [b_cascaderef01_Size_11] at hp
 unfold A_cascaderef01_Size_11
 rw [h.at_, hT]
 cbv
 cases hp
 all_goals first | rfl | (cbv; done)
end
def b_cascaderef01_Bad_0 (P : Prims) (c_cascaderef01_Size : Str → Int → Option (Int × Int)) (l_1 : T_cascaderef01_Bad_1) (v0 : Str) : Option (Int) :=
 l_1 v0 0
section
variable (c_cascaderef01_Size : Str → Int → Option (Int × Int)) (h_cascaderef01_Size : (C_cascaderef01_Size xpcall xfcall c_cascaderef01_Size)) (stk : Stk) (m : Nat)   
include c_cascaderef01_Size h_cascaderef01_Size stk m  
theorem o_cascaderef01_Bad_0 (l_1 : T_cascaderef01_Bad_1) (v0 : Str)  (h_l_1 : H_cascaderef01_Bad_1 xat m  l_1) {out} (hp : b_cascaderef01_Bad_0 PP c_cascaderef01_Size l_1 v0 = some out) : (A_cascaderef01_Bad_0 xat m  v0 stk) = (O_cascaderef01_Bad  m  stk) out := by
 subst hPP
 simp only [b_cascaderef01_Bad_0] at hp
 unfold A_cascaderef01_Bad_0
 rw [h.at_, hT]
 cbv
 first | exact h_l_1 hp stk | (have q := h_l_1 hp stk; simp only [A_cascaderef01_Bad_1, h.map_cons, h.map_nil, h.mapE_nil, h.len_nil, hA] at q; first | exact q | (cbv; exact q))
def b_cascaderef01_Bad_1 (P : Prims) (c_cascaderef01_Size : Str → Int → Option (Int × Int))  (v0 : Str) (v3 : Int) : Option ((Str × Int) ⊕ (Int)) :=
 match P.cmp .lss v3 (P.slen v0) with
 | false =>
  some (.inr (-1))
 | true =>
  match c_cascaderef01_Size v0 v3 with
  | none => none
  | some (r2_0, r2_1) =>
   match P.cmp .eql r2_0 0 with
   | false =>
    some (.inl (v0, P.ar .add .i64 v3 r2_0))
   | true =>
    some (.inr v3)
theorem o_cascaderef01_Bad_1  (v0 : Str) (v3 : Int)   {out} (hp : b_cascaderef01_Bad_1 PP c_cascaderef01_Size  v0 v3 = some out) : (A_cascaderef01_Bad_1 xat m  v0 v3 stk) = (Sum.elim (fun (v0, v3) => (A_cascaderef01_Bad_1 xat m  v0 v3 stk)) (O_cascaderef01_Bad  m  stk)) out := by
 subst hPP
 simp only [b_cascaderef01_Bad_1] at hp
 unfold A_cascaderef01_Bad_1
 rw [h.at_, hT]
 cbv
 try simp only [h.slen]
 cases c1 : xcmp .lss v3 (pslen v0) with
 | false =>
  simp only [c1] at hp ⊢
  cbv
  rw [h.at_, hT]
  cbv
  cases hp
  all_goals first | rfl | (cbv; done)
 | true =>
  simp only [c1] at hp ⊢
  cbv
  rw [h.at_, hT]
  cbv
  cases c3 : c_cascaderef01_Size v0 v3 with
  | none => simp only [c3] at hp; cases hp
  | some y5 =>
   obtain ⟨r2_0, r2_1⟩ := y5
   simp only [c3] at hp
   have qc := fun s => (h_cascaderef01_Size c3 s).1
   simp only [qc]
   cbv
   cases c4 : xcmp .eql r2_0 0 with
   | false =>
    simp only [c4] at hp ⊢
    cbv
    rw [h.at_, hT]
    cbv
    cases hp
    all_goals first | rfl | (cbv; done)
   | true =>
    simp only [c4] at hp ⊢
    cbv
    cases hp
    all_goals first | rfl | (cbv; done)
end
def b_cascaderef01_Right_0 (P : Prims) (c_cascaderef01_Bad : Str → Option (Int))  (v0 : Str) : Option (Bool) :=
 match c_cascaderef01_Bad v0 with
 | none => none
 | some r1_0 =>
  some (P.cmp .eql r1_0 (-1))
section
variable (c_cascaderef01_Bad : Str → Option (Int)) (h_cascaderef01_Bad : (C_cascaderef01_Bad xpcall xfcall c_cascaderef01_Bad)) (stk : Stk) (m : Nat)   
include c_cascaderef01_Bad h_cascaderef01_Bad stk m  
theorem o_cascaderef01_Right_0  (v0 : Str)   {out} (hp : b_cascaderef01_Right_0 PP c_cascaderef01_Bad  v0 = some out) : (A_cascaderef01_Right_0 xat m  v0 stk) = (O_cascaderef01_Right  m  stk) out := by
 subst hPP
 simp only [b_cascaderef01_Right_0] at hp
 unfold A_cascaderef01_Right_0
 rw [h.at_, hT]
 cbv
 cases c2 : c_cascaderef01_Bad v0 with
 | none => simp only [c2] at hp; cases hp
 | some r1_0 =>
  simp only [c2] at hp
  have qc := fun s => (h_cascaderef01_Bad c2 s).1
  simp only [qc]
  cbv
  cases hp
  all_goals first | rfl | (cbv; done)
end
def b_cascaderef03_right_0 (P : Prims) (c_cascaderef01_Right : Str → Option (Bool)) (c_cascaderef03_right : S_api_Value → Int → Option (Bool)) (l_2 : T_cascaderef03_right_2) (v0_0 v0_1 : Int) (v0_2 : Str) (v0_3 : Ls0) (v0_4 : Ls1) (v1 : Int) : Option (Bool) :=
 match P.cmp .lss v1 1 with
 | false =>
  match P.cmp .lss v0_0 0 with
  | false =>
   match P.cmp .gtr v0_0 5 with
   | false =>
    match P.cmp .neq v0_0 1 with
    | false =>
     match P.cmp .neq v0_0 3 with
     | false =>
      match P.cmp .neq v0_0 4 with
      | false =>
       match P.cmp .neq v0_0 5 with
       | false =>
        l_2 v1 v0_0 v0_1 v0_2 v0_3 v0_4
       | true =>
        match P.cmp .gtr (P.len v0_4) 0 with
        | false =>
         l_2 v1 v0_0 v0_1 v0_2 v0_3 v0_4
        | true =>
         some false
      | true =>
       match P.cmp .gtr (P.len v0_3) 0 with
       | false =>
        match P.cmp .neq v0_0 5 with
        | false =>
         l_2 v1 v0_0 v0_1 v0_2 v0_3 v0_4
        | true =>
         match P.cmp .gtr (P.len v0_4) 0 with
         | false =>
          l_2 v1 v0_0 v0_1 v0_2 v0_3 v0_4
         | true =>
          some false
       | true =>
        some false
     | true =>
      match P.seq v0_2 [] with
      | false =>
       some false
      | true =>
       match P.cmp .neq v0_0 4 with
       | false =>
        match P.cmp .neq v0_0 5 with
        | false =>
         l_2 v1 v0_0 v0_1 v0_2 v0_3 v0_4
        | true =>
         match P.cmp .gtr (P.len v0_4) 0 with
         | false =>
          l_2 v1 v0_0 v0_1 v0_2 v0_3 v0_4
         | true =>
          some false
       | true =>
        match P.cmp .gtr (P.len v0_3) 0 with
        | false =>
         match P.cmp .neq v0_0 5 with
         | false =>
          l_2 v1 v0_0 v0_1 v0_2 v0_3 v0_4
         | true =>
          match P.cmp .gtr (P.len v0_4) 0 with
          | false =>
           l_2 v1 v0_0 v0_1 v0_2 v0_3 v0_4
          | true =>
           some false
        | true =>
         some false
    | true =>
     match P.cmp .neq v0_0 2 with
     | false =>
      match P.cmp .neq v0_0 3 with
      | false =>
       match P.cmp .neq v0_0 4 with
       | false =>
        match P.cmp .neq v0_0 5 with
        | false =>
         l_2 v1 v0_0 v0_1 v0_2 v0_3 v0_4
        | true =>
         match P.cmp .gtr (P.len v0_4) 0 with
         | false =>
          l_2 v1 v0_0 v0_1 v0_2 v0_3 v0_4
         | true =>
          some false
       | true =>
        match P.cmp .gtr (P.len v0_3) 0 with
        | false =>
         match P.cmp .neq v0_0 5 with
         | false =>
          l_2 v1 v0_0 v0_1 v0_2 v0_3 v0_4
         | true =>
          match P.cmp .gtr (P.len v0_4) 0 with
          | false =>
           l_2 v1 v0_0 v0_1 v0_2 v0_3 v0_4
          | true =>
           some false
        | true =>
         some false
      | true =>
       match P.seq v0_2 [] with
       | false =>
        some false
       | true =>
        match P.cmp .neq v0_0 4 with
        | false =>
         match P.cmp .neq v0_0 5 with
         | false =>
          l_2 v1 v0_0 v0_1 v0_2 v0_3 v0_4
         | true =>
          match P.cmp .gtr (P.len v0_4) 0 with
          | false =>
           l_2 v1 v0_0 v0_1 v0_2 v0_3 v0_4
          | true =>
           some false
        | true =>
         match P.cmp .gtr (P.len v0_3) 0 with
         | false =>
          match P.cmp .neq v0_0 5 with
          | false =>
           l_2 v1 v0_0 v0_1 v0_2 v0_3 v0_4
          | true =>
           match P.cmp .gtr (P.len v0_4) 0 with
           | false =>
            l_2 v1 v0_0 v0_1 v0_2 v0_3 v0_4
           | true =>
            some false
         | true =>
          some false
     | true =>
      match P.cmp .neq v0_1 0 with
      | false =>
       match P.cmp .neq v0_0 3 with
       | false =>
        match P.cmp .neq v0_0 4 with
        | false =>
         match P.cmp .neq v0_0 5 with
         | false =>
          l_2 v1 v0_0 v0_1 v0_2 v0_3 v0_4
         | true =>
          match P.cmp .gtr (P.len v0_4) 0 with
          | false =>
           l_2 v1 v0_0 v0_1 v0_2 v0_3 v0_4
          | true =>
           some false
        | true =>
         match P.cmp .gtr (P.len v0_3) 0 with
         | false =>
          match P.cmp .neq v0_0 5 with
          | false =>
           l_2 v1 v0_0 v0_1 v0_2 v0_3 v0_4
          | true =>
           match P.cmp .gtr (P.len v0_4) 0 with
           | false =>
            l_2 v1 v0_0 v0_1 v0_2 v0_3 v0_4
           | true =>
            some false
         | true =>
          some false
       | true =>
        match P.seq v0_2 [] with
        | false =>
         some false
        | true =>
         match P.cmp .neq v0_0 4 with
         | false =>
          match P.cmp .neq v0_0 5 with
          | false =>
           l_2 v1 v0_0 v0_1 v0_2 v0_3 v0_4
          | true =>
           match P.cmp .gtr (P.len v0_4) 0 with
           | false =>
            l_2 v1 v0_0 v0_1 v0_2 v0_3 v0_4
           | true =>
            some false
         | true =>
          match P.cmp .gtr (P.len v0_3) 0 with
          | false =>
           match P.cmp .neq v0_0 5 with
           | false =>
            l_2 v1 v0_0 v0_1 v0_2 v0_3 v0_4
           | true =>
            match P.cmp .gtr (P.len v0_4) 0 with
            | false =>
             l_2 v1 v0_0 v0_1 v0_2 v0_3 v0_4
            | true =>
             some false
          | true =>
           some false
      | true =>
       some false
   | true =>
    some false
  | true =>
   some false
 | true =>
  some false
section
variable (c_cascaderef01_Right : Str → Option (Bool)) (c_cascaderef03_right : S_api_Value → Int → Option (Bool)) (h_cascaderef01_Right : (C_cascaderef01_Right xpcall xfcall c_cascaderef01_Right)) (h_cascaderef03_right : (C_cascaderef03_right xpcall xfcall @xmap e_api_Value e_api_Pair c_cascaderef03_right)) (stk : Stk) (m : Nat)   
include c_cascaderef01_Right c_cascaderef03_right h_cascaderef01_Right h_cascaderef03_right stk m  
theorem o_cascaderef03_right_0 (l_2 : T_cascaderef03_right_2) (v0_0 v0_1 : Int) (v0_2 : Str) (v0_3 : Ls0) (v0_4 : Ls1) (v1 : Int)  (h_l_2 : H_cascaderef03_right_2 xat @xmap e_api_Value e_api_Pair m  l_2) {out} (hp : b_cascaderef03_right_0 PP c_cascaderef01_Right c_cascaderef03_right l_2 v0_0 v0_1 v0_2 v0_3 v0_4 v1 = some out) : (A_cascaderef03_right_0 xat @xmap e_api_Value e_api_Pair m  v0_0 v0_1 v0_2 v0_3 v0_4 v1 stk) = (O_cascaderef03_right  m  stk) out := by
 subst hPP
 simp only [b_cascaderef03_right_0] at hp
 unfold A_cascaderef03_right_0
 rw [h.at_, hT]
 cbv
 cases c1 : xcmp .lss v1 1 with
 | false =>
  simp only [c1] at hp ⊢
  cbv
  cases c2 : xcmp .lss v0_0 0 with
  | false =>
   simp only [c2] at hp ⊢
   cbv
   cases c3 : xcmp .gtr v0_0 5 with
   | false =>
    simp only [c3] at hp ⊢
    cbv
    rw [h.at_, hT]
    cbv
    cases c4 : xcmp .neq v0_0 1 with
    | false =>
     simp only [c4] at hp ⊢
     cbv
     cases c35 : xcmp .neq v0_0 3 with
     | false =>
      simp only [c35] at hp ⊢
      cbv
      cases c43 : xcmp .neq v0_0 4 with
      | false =>
       simp only [c43] at hp ⊢
       cbv
       cases c47 : xcmp .neq v0_0 5 with
       | false =>
        simp only [c47] at hp ⊢
        cbv
        first | exact h_l_2 hp stk | (have q := h_l_2 hp stk; simp only [A_cascaderef03_right_2, h.map_cons, h.map_nil, h.mapE_nil, h.len_nil, hA] at q; first | exact q | (cbv; exact q))
       | true =>
        simp only [c47] at hp ⊢
        cbv
        try simp only [h.len]
        cases c48 : xcmp .gtr (plen v0_4) 0 with
        | false =>
         simp only [c48] at hp ⊢
         cbv
         first | exact h_l_2 hp stk | (have q := h_l_2 hp stk; simp only [A_cascaderef03_right_2, h.map_cons, h.map_nil, h.mapE_nil, h.len_nil, hA] at q; first | exact q | (cbv; exact q))
        | true =>
         simp only [c48] at hp ⊢
         cbv
         cases hp
         all_goals first | rfl | (cbv; done)
      | true =>
       simp only [c43] at hp ⊢
       cbv
       try simp only [h.len]
       cases c44 : xcmp .gtr (plen v0_3) 0 with
       | false =>
        simp only [c44] at hp ⊢
        cbv
        cases c45 : xcmp .neq v0_0 5 with
        | false =>
         simp only [c45] at hp ⊢
         cbv
         first | exact h_l_2 hp stk | (have q := h_l_2 hp stk; simp only [A_cascaderef03_right_2, h.map_cons, h.map_nil, h.mapE_nil, h.len_nil, hA] at q; first | exact q | (cbv; exact q))
        | true =>
         simp only [c45] at hp ⊢
         cbv
         try simp only [h.len]
         cases c46 : xcmp .gtr (plen v0_4) 0 with
         | false =>
          simp only [c46] at hp ⊢
          cbv
          first | exact h_l_2 hp stk | (have q := h_l_2 hp stk; simp only [A_cascaderef03_right_2, h.map_cons, h.map_nil, h.mapE_nil, h.len_nil, hA] at q; first | exact q | (cbv; exact q))
         | true =>
          simp only [c46] at hp ⊢
          cbv
          cases hp
          all_goals first | rfl | (cbv; done)
       | true =>
        simp only [c44] at hp ⊢
        cbv
        cases hp
        all_goals first | rfl | (cbv; done)
     | true =>
      simp only [c35] at hp ⊢
      cbv
      cases c36 : xseq v0_2 [] with
      | false =>
       simp only [c36] at hp ⊢
       cbv
       cases hp
       all_goals first | rfl | (cbv; done)
      | true =>
       simp only [c36] at hp ⊢
       cbv
       cases c37 : xcmp .neq v0_0 4 with
       | false =>
        simp only [c37] at hp ⊢
        cbv
        cases c41 : xcmp .neq v0_0 5 with
        | false =>
         simp only [c41] at hp ⊢
         cbv
         first | exact h_l_2 hp stk | (have q := h_l_2 hp stk; simp only [A_cascaderef03_right_2, h.map_cons, h.map_nil, h.mapE_nil, h.len_nil, hA] at q; first | exact q | (cbv; exact q))
        | true =>
         simp only [c41] at hp ⊢
         cbv
         try simp only [h.len]
         cases c42 : xcmp .gtr (plen v0_4) 0 with
         | false =>
          simp only [c42] at hp ⊢
          cbv
          first | exact h_l_2 hp stk | (have q := h_l_2 hp stk; simp only [A_cascaderef03_right_2, h.map_cons, h.map_nil, h.mapE_nil, h.len_nil, hA] at q; first | exact q | (cbv; exact q))
         | true =>
          simp only [c42] at hp ⊢
          cbv
          cases hp
          all_goals first | rfl | (cbv; done)
       | true =>
        simp only [c37] at hp ⊢
        cbv
        try simp only [h.len]
        cases c38 : xcmp .gtr (plen v0_3) 0 with
        | false =>
         simp only [c38] at hp ⊢
         cbv
         cases c39 : xcmp .neq v0_0 5 with
         | false =>
          simp only [c39] at hp ⊢
          cbv
          first | exact h_l_2 hp stk | (have q := h_l_2 hp stk; simp only [A_cascaderef03_right_2, h.map_cons, h.map_nil, h.mapE_nil, h.len_nil, hA] at q; first | exact q | (cbv; exact q))
         | true =>
          simp only [c39] at hp ⊢
          cbv
          try simp only [h.len]
          cases c40 : xcmp .gtr (plen v0_4) 0 with
          | false =>
           simp only [c40] at hp ⊢
           cbv
           first | exact h_l_2 hp stk | (have q := h_l_2 hp stk; simp only [A_cascaderef03_right_2, h.map_cons, h.map_nil, h.mapE_nil, h.len_nil, hA] at q; first | exact q | (cbv; exact q))
          | true =>
           simp only [c40] at hp ⊢
           cbv
           cases hp
           all_goals first | rfl | (cbv; done)
        | true =>
         simp only [c38] at hp ⊢
         cbv
         cases hp
         all_goals first | rfl | (cbv; done)
    | true =>
     simp only [c4] at hp ⊢
     cbv
     cases c5 : xcmp .neq v0_0 2 with
     | false =>
      simp only [c5] at hp ⊢
      cbv
      cases c21 : xcmp .neq v0_0 3 with
      | false =>
       simp only [c21] at hp ⊢
       cbv
       cases c29 : xcmp .neq v0_0 4 with
       | false =>
        simp only [c29] at hp ⊢
        cbv
        cases c33 : xcmp .neq v0_0 5 with
        | false =>
         simp only [c33] at hp ⊢
         cbv
         first | exact h_l_2 hp stk | (have q := h_l_2 hp stk; simp only [A_cascaderef03_right_2, h.map_cons, h.map_nil, h.mapE_nil, h.len_nil, hA] at q; first | exact q | (cbv; exact q))
        | true =>
         simp only [c33] at hp ⊢
         cbv
         try simp only [h.len]
         cases c34 : xcmp .gtr (plen v0_4) 0 with
         | false =>
          simp only [c34] at hp ⊢
          cbv
          first | exact h_l_2 hp stk | (have q := h_l_2 hp stk; simp only [A_cascaderef03_right_2, h.map_cons, h.map_nil, h.mapE_nil, h.len_nil, hA] at q; first | exact q | (cbv; exact q))
         | true =>
          simp only [c34] at hp ⊢
          cbv
          cases hp
          all_goals first | rfl | (cbv; done)
       | true =>
        simp only [c29] at hp ⊢
        cbv
        try simp only [h.len]
        cases c30 : xcmp .gtr (plen v0_3) 0 with
        | false =>
         simp only [c30] at hp ⊢
         cbv
         cases c31 : xcmp .neq v0_0 5 with
         | false =>
          simp only [c31] at hp ⊢
          cbv
          first | exact h_l_2 hp stk | (have q := h_l_2 hp stk; simp only [A_cascaderef03_right_2, h.map_cons, h.map_nil, h.mapE_nil, h.len_nil, hA] at q; first | exact q | (cbv; exact q))
         | true =>
          simp only [c31] at hp ⊢
          cbv
          try simp only [h.len]
          cases c32 : xcmp .gtr (plen v0_4) 0 with
          | false =>
           simp only [c32] at hp ⊢
           cbv
           first | exact h_l_2 hp stk | (have q := h_l_2 hp stk; simp only [A_cascaderef03_right_2, h.map_cons, h.map_nil, h.mapE_nil, h.len_nil, hA] at q; first | exact q | (cbv; exact q))
          | true =>
           simp only [c32] at hp ⊢
           cbv
           cases hp
           all_goals first | rfl | (cbv; done)
        | true =>
         simp only [c30] at hp ⊢
         cbv
         cases hp
         all_goals first | rfl | (cbv; done)
      | true =>
       simp only [c21] at hp ⊢
       cbv
       cases c22 : xseq v0_2 [] with
       | false =>
        simp only [c22] at hp ⊢
        cbv
        cases hp
        all_goals first | rfl | (cbv; done)
       | true =>
        simp only [c22] at hp ⊢
        cbv
        cases c23 : xcmp .neq v0_0 4 with
        | false =>
         simp only [c23] at hp ⊢
         cbv
         cases c27 : xcmp .neq v0_0 5 with
         | false =>
          simp only [c27] at hp ⊢
          cbv
          first | exact h_l_2 hp stk | (have q := h_l_2 hp stk; simp only [A_cascaderef03_right_2, h.map_cons, h.map_nil, h.mapE_nil, h.len_nil, hA] at q; first | exact q | (cbv; exact q))
         | true =>
          simp only [c27] at hp ⊢
          cbv
          try simp only [h.len]
          cases c28 : xcmp .gtr (plen v0_4) 0 with
          | false =>
           simp only [c28] at hp ⊢
           cbv
           first | exact h_l_2 hp stk | (have q := h_l_2 hp stk; simp only [A_cascaderef03_right_2, h.map_cons, h.map_nil, h.mapE_nil, h.len_nil, hA] at q; first | exact q | (cbv; exact q))
          | true =>
           simp only [c28] at hp ⊢
           cbv
           cases hp
           all_goals first | rfl | (cbv; done)
        | true =>
         simp only [c23] at hp ⊢
         cbv
         try simp only [h.len]
         cases c24 : xcmp .gtr (plen v0_3) 0 with
         | false =>
          simp only [c24] at hp ⊢
          cbv
          cases c25 : xcmp .neq v0_0 5 with
          | false =>
           simp only [c25] at hp ⊢
           cbv
           first | exact h_l_2 hp stk | (have q := h_l_2 hp stk; simp only [A_cascaderef03_right_2, h.map_cons, h.map_nil, h.mapE_nil, h.len_nil, hA] at q; first | exact q | (cbv; exact q))
          | true =>
           simp only [c25] at hp ⊢
           cbv
           try simp only [h.len]
           cases c26 : xcmp .gtr (plen v0_4) 0 with
           | false =>
            simp only [c26] at hp ⊢
            cbv
            first | exact h_l_2 hp stk | (have q := h_l_2 hp stk; simp only [A_cascaderef03_right_2, h.map_cons, h.map_nil, h.mapE_nil, h.len_nil, hA] at q; first | exact q | (cbv; exact q))
           | true =>
            simp only [c26] at hp ⊢
            cbv
            cases hp
            all_goals first | rfl | (cbv; done)
         | true =>
          simp only [c24] at hp ⊢
          cbv
          cases hp
          all_goals first | rfl | (cbv; done)
     | true =>
      simp only [c5] at hp ⊢
      cbv
      cases c6 : xcmp .neq v0_1 0 with
      | false =>
       simp only [c6] at hp ⊢
       cbv
       cases c7 : xcmp .neq v0_0 3 with
       | false =>
        simp only [c7] at hp ⊢
        cbv
        cases c15 : xcmp .neq v0_0 4 with
        | false =>
         simp only [c15] at hp ⊢
         cbv
         cases c19 : xcmp .neq v0_0 5 with
         | false =>
          simp only [c19] at hp ⊢
          cbv
          first | exact h_l_2 hp stk | (have q := h_l_2 hp stk; simp only [A_cascaderef03_right_2, h.map_cons, h.map_nil, h.mapE_nil, h.len_nil, hA] at q; first | exact q | (cbv; exact q))
         | true =>
          simp only [c19] at hp ⊢
          cbv
          try simp only [h.len]
          cases c20 : xcmp .gtr (plen v0_4) 0 with
          | false =>
           simp only [c20] at hp ⊢
           cbv
           first | exact h_l_2 hp stk | (have q := h_l_2 hp stk; simp only [A_cascaderef03_right_2, h.map_cons, h.map_nil, h.mapE_nil, h.len_nil, hA] at q; first | exact q | (cbv; exact q))
          | true =>
           simp only [c20] at hp ⊢
           cbv
           cases hp
           all_goals first | rfl | (cbv; done)
        | true =>
         simp only [c15] at hp ⊢
         cbv
         try simp only [h.len]
         cases c16 : xcmp .gtr (plen v0_3) 0 with
         | false =>
          simp only [c16] at hp ⊢
          cbv
          cases c17 : xcmp .neq v0_0 5 with
          | false =>
           simp only [c17] at hp ⊢
           cbv
           first | exact h_l_2 hp stk | (have q := h_l_2 hp stk; simp only [A_cascaderef03_right_2, h.map_cons, h.map_nil, h.mapE_nil, h.len_nil, hA] at q; first | exact q | (cbv; exact q))
          | true =>
           simp only [c17] at hp ⊢
           cbv
           try simp only [h.len]
           cases c18 : xcmp .gtr (plen v0_4) 0 with
           | false =>
            simp only [c18] at hp ⊢
            cbv
            first | exact h_l_2 hp stk | (have q := h_l_2 hp stk; simp only [A_cascaderef03_right_2, h.map_cons, h.map_nil, h.mapE_nil, h.len_nil, hA] at q; first | exact q | (cbv; exact q))
           | true =>
            simp only [c18] at hp ⊢
            cbv
            cases hp
            all_goals first | rfl | (cbv; done)
         | true =>
          simp only [c16] at hp ⊢
          cbv
          cases hp
          all_goals first | rfl | (cbv; done)
       | true =>
        simp only [c7] at hp ⊢
        cbv
        cases c8 : xseq v0_2 [] with
        | false =>
         simp only [c8] at hp ⊢
         cbv
         cases hp
         all_goals first | rfl | (cbv; done)
        | true =>
         simp only [c8] at hp ⊢
         cbv
         cases c9 : xcmp .neq v0_0 4 with
         | false =>
          simp only [c9] at hp ⊢
          cbv
          cases c13 : xcmp .neq v0_0 5 with
          | false =>
           simp only [c13] at hp ⊢
           cbv
           first | exact h_l_2 hp stk | (have q := h_l_2 hp stk; simp only [A_cascaderef03_right_2, h.map_cons, h.map_nil, h.mapE_nil, h.len_nil, hA] at q; first | exact q | (cbv; exact q))
          | true =>
           simp only [c13] at hp ⊢
           cbv
           try simp only [h.len]
           cases c14 : xcmp .gtr (plen v0_4) 0 with
           | false =>
            simp only [c14] at hp ⊢
            cbv
            first | exact h_l_2 hp stk | (have q := h_l_2 hp stk; simp only [A_cascaderef03_right_2, h.map_cons, h.map_nil, h.mapE_nil, h.len_nil, hA] at q; first | exact q | (cbv; exact q))
           | true =>
            simp only [c14] at hp ⊢
            cbv
            cases hp
            all_goals first | rfl | (cbv; done)
         | true =>
          simp only [c9] at hp ⊢
          cbv
          try simp only [h.len]
          cases c10 : xcmp .gtr (plen v0_3) 0 with
          | false =>
           simp only [c10] at hp ⊢
           cbv
           cases c11 : xcmp .neq v0_0 5 with
           | false =>
            simp only [c11] at hp ⊢
            cbv
            first | exact h_l_2 hp stk | (have q := h_l_2 hp stk; simp only [A_cascaderef03_right_2, h.map_cons, h.map_nil, h.mapE_nil, h.len_nil, hA] at q; first | exact q | (cbv; exact q))
           | true =>
            simp only [c11] at hp ⊢
            cbv
            try simp only [h.len]
            cases c12 : xcmp .gtr (plen v0_4) 0 with
            | false =>
             simp only [c12] at hp ⊢
             cbv
             first | exact h_l_2 hp stk | (have q := h_l_2 hp stk; simp only [A_cascaderef03_right_2, h.map_cons, h.map_nil, h.mapE_nil, h.len_nil, hA] at q; first | exact q | (cbv; exact q))
            | true =>
             simp only [c12] at hp ⊢
             cbv
             cases hp
             all_goals first | rfl | (cbv; done)
          | true =>
           simp only [c10] at hp ⊢
           cbv
           cases hp
           all_goals first | rfl | (cbv; done)
      | true =>
       simp only [c6] at hp ⊢
       cbv
       cases hp
       all_goals first | rfl | (cbv; done)
   | true =>
    simp only [c3] at hp ⊢
    cbv
    cases hp
    all_goals first | rfl | (cbv; done)
  | true =>
   simp only [c2] at hp ⊢
   cbv
   cases hp
   all_goals first | rfl | (cbv; done)
 | true =>
  simp only [c1] at hp ⊢
  cbv
  cases hp
  all_goals first | rfl | (cbv; done)
def b_cascaderef03_right_2 (P : Prims) (c_cascaderef01_Right : Str → Option (Bool)) (c_cascaderef03_right : S_api_Value → Int → Option (Bool)) (l_3 : T_cascaderef03_right_3) (v1 v2_0 v2_1 : Int) (v2_2 : Str) (v2_3 : Ls0) (v2_4 : Ls1) : Option (Bool) :=
 match P.cmp .eql v2_0 1 with
 | false =>
  match P.cmp .gtr v2_1 9007199254740991 with
  | false =>
   match P.cmp .lss v2_1 (-9007199254740991) with
   | false =>
    match c_cascaderef01_Right v2_2 with
    | none => none
    | some r64_0 =>
     match r64_0 with
     | false =>
      some false
     | true =>
      l_3 v1 v2_0 v2_1 v2_2 v2_3 v2_4
   | true =>
    some false
  | true =>
   some false
 | true =>
  match P.cmp .neq v2_1 0 with
  | false =>
   match P.cmp .gtr v2_1 9007199254740991 with
   | false =>
    match P.cmp .lss v2_1 (-9007199254740991) with
    | false =>
     match c_cascaderef01_Right v2_2 with
     | none => none
     | some r59_0 =>
      match r59_0 with
      | false =>
       some false
      | true =>
       l_3 v1 v2_0 v2_1 v2_2 v2_3 v2_4
    | true =>
     some false
   | true =>
    some false
  | true =>
   match P.cmp .neq v2_1 1 with
   | false =>
    match P.cmp .gtr v2_1 9007199254740991 with
    | false =>
     match P.cmp .lss v2_1 (-9007199254740991) with
     | false =>
      match c_cascaderef01_Right v2_2 with
      | none => none
      | some r54_0 =>
       match r54_0 with
       | false =>
        some false
       | true =>
        l_3 v1 v2_0 v2_1 v2_2 v2_3 v2_4
     | true =>
      some false
    | true =>
     some false
   | true =>
    some false
theorem o_cascaderef03_right_2 (l_3 : T_cascaderef03_right_3) (v1 v2_0 v2_1 : Int) (v2_2 : Str) (v2_3 : Ls0) (v2_4 : Ls1)  (h_l_3 : H_cascaderef03_right_3 xat @xmap e_api_Value e_api_Pair m  l_3) {out} (hp : b_cascaderef03_right_2 PP c_cascaderef01_Right c_cascaderef03_right l_3 v1 v2_0 v2_1 v2_2 v2_3 v2_4 = some out) : (A_cascaderef03_right_2 xat @xmap e_api_Value e_api_Pair m  v1 v2_0 v2_1 v2_2 v2_3 v2_4 stk) = (O_cascaderef03_right  m  stk) out := by
 subst hPP
 simp only [b_cascaderef03_right_2] at hp
 unfold A_cascaderef03_right_2
 rw [h.at_, hT]
 cbv
 cases c49 : xcmp .eql v2_0 1 with
 | false =>
  simp only [c49] at hp ⊢
  cbv
  cases c62 : xcmp .gtr v2_1 9007199254740991 with
  | false =>
   simp only [c62] at hp ⊢
   cbv
   cases c63 : xcmp .lss v2_1 (-9007199254740991) with
   | false =>
    simp only [c63] at hp ⊢
    cbv
    cases c65 : c_cascaderef01_Right v2_2 with
    | none => simp only [c65] at hp; cases hp
    | some r64_0 =>
     simp only [c65] at hp
     have qc := fun s => (h_cascaderef01_Right c65 s).1
     simp only [qc]
     cbv
     cases r64_0 with
     | false =>
      simp only at hp
      cbv
      cases hp
      all_goals first | rfl | (cbv; done)
     | true =>
      simp only at hp
      cbv
      first | exact h_l_3 hp stk | (have q := h_l_3 hp stk; simp only [A_cascaderef03_right_3, h.map_cons, h.map_nil, h.mapE_nil, h.len_nil, hA] at q; first | exact q | (cbv; exact q))
   | true =>
    simp only [c63] at hp ⊢
    cbv
    cases hp
    all_goals first | rfl | (cbv; done)
  | true =>
   simp only [c62] at hp ⊢
   cbv
   cases hp
   all_goals first | rfl | (cbv; done)
 | true =>
  simp only [c49] at hp ⊢
  cbv
  cases c50 : xcmp .neq v2_1 0 with
  | false =>
   simp only [c50] at hp ⊢
   cbv
   cases c57 : xcmp .gtr v2_1 9007199254740991 with
   | false =>
    simp only [c57] at hp ⊢
    cbv
    cases c58 : xcmp .lss v2_1 (-9007199254740991) with
    | false =>
     simp only [c58] at hp ⊢
     cbv
     cases c60 : c_cascaderef01_Right v2_2 with
     | none => simp only [c60] at hp; cases hp
     | some r59_0 =>
      simp only [c60] at hp
      have qc := fun s => (h_cascaderef01_Right c60 s).1
      simp only [qc]
      cbv
      cases r59_0 with
      | false =>
       simp only at hp
       cbv
       cases hp
       all_goals first | rfl | (cbv; done)
      | true =>
       simp only at hp
       cbv
       first | exact h_l_3 hp stk | (have q := h_l_3 hp stk; simp only [A_cascaderef03_right_3, h.map_cons, h.map_nil, h.mapE_nil, h.len_nil, hA] at q; first | exact q | (cbv; exact q))
    | true =>
     simp only [c58] at hp ⊢
     cbv
     cases hp
     all_goals first | rfl | (cbv; done)
   | true =>
    simp only [c57] at hp ⊢
    cbv
    cases hp
    all_goals first | rfl | (cbv; done)
  | true =>
   simp only [c50] at hp ⊢
   cbv
   cases c51 : xcmp .neq v2_1 1 with
   | false =>
    simp only [c51] at hp ⊢
    cbv
    cases c52 : xcmp .gtr v2_1 9007199254740991 with
    | false =>
     simp only [c52] at hp ⊢
     cbv
     cases c53 : xcmp .lss v2_1 (-9007199254740991) with
     | false =>
      simp only [c53] at hp ⊢
      cbv
      cases c55 : c_cascaderef01_Right v2_2 with
      | none => simp only [c55] at hp; cases hp
      | some r54_0 =>
       simp only [c55] at hp
       have qc := fun s => (h_cascaderef01_Right c55 s).1
       simp only [qc]
       cbv
       cases r54_0 with
       | false =>
        simp only at hp
        cbv
        cases hp
        all_goals first | rfl | (cbv; done)
       | true =>
        simp only at hp
        cbv
        first | exact h_l_3 hp stk | (have q := h_l_3 hp stk; simp only [A_cascaderef03_right_3, h.map_cons, h.map_nil, h.mapE_nil, h.len_nil, hA] at q; first | exact q | (cbv; exact q))
     | true =>
      simp only [c53] at hp ⊢
      cbv
      cases hp
      all_goals first | rfl | (cbv; done)
    | true =>
     simp only [c52] at hp ⊢
     cbv
     cases hp
     all_goals first | rfl | (cbv; done)
   | true =>
    simp only [c51] at hp ⊢
    cbv
    cases hp
    all_goals first | rfl | (cbv; done)
def b_cascaderef03_right_3 (P : Prims) (c_cascaderef01_Right : Str → Option (Bool)) (c_cascaderef03_right : S_api_Value → Int → Option (Bool)) (l_4 : T_cascaderef03_right_4) (v1 v2_0 v2_1 : Int) (v2_2 : Str) (v2_3 : Ls0) (v2_4 : Ls1) : Option (Bool) :=
 l_4 v1 v2_0 v2_1 v2_2 v2_3 v2_4 0
theorem o_cascaderef03_right_3 (l_4 : T_cascaderef03_right_4) (v1 v2_0 v2_1 : Int) (v2_2 : Str) (v2_3 : Ls0) (v2_4 : Ls1)  (h_l_4 : H_cascaderef03_right_4 xat @xmap e_api_Value e_api_Pair m  l_4) {out} (hp : b_cascaderef03_right_3 PP c_cascaderef01_Right c_cascaderef03_right l_4 v1 v2_0 v2_1 v2_2 v2_3 v2_4 = some out) : (A_cascaderef03_right_3 xat @xmap e_api_Value e_api_Pair m  v1 v2_0 v2_1 v2_2 v2_3 v2_4 stk) = (O_cascaderef03_right  m  stk) out := by
 subst hPP
 simp only [b_cascaderef03_right_3] at hp
 unfold A_cascaderef03_right_3
 rw [h.at_, hT]
 cbv
 first | exact h_l_4 hp stk | (have q := h_l_4 hp stk; simp only [A_cascaderef03_right_4, h.map_cons, h.map_nil, h.mapE_nil, h.len_nil, hA] at q; first | exact q | (cbv; exact q))
def b_cascaderef03_right_4 (P : Prims) (c_cascaderef01_Right : Str → Option (Bool)) (c_cascaderef03_right : S_api_Value → Int → Option (Bool)) (l_8 : T_cascaderef03_right_8) (v1 v2_0 v2_1 : Int) (v2_2 : Str) (v2_3 : Ls0) (v2_4 : Ls1) (v5 : Int) : Option ((Int × Int × Int × Str × Ls0 × Ls1 × Int) ⊕ (Bool)) :=
 match P.cmp .lss v5 (P.len v2_3) with
 | false =>
  match l_8 v1 v2_0 v2_1 v2_2 v2_3 v2_4 0 with | none => none | some o74 => some (.inr o74)
 | true =>
  match P.idx v2_3 v5 with
  | none => none
  | some ⟨a68_0, a68_1, a68_2, a68_3, a68_4⟩ =>
   match c_cascaderef03_right ⟨a68_0, a68_1, a68_2, a68_3, a68_4⟩ (P.ar .sub .i64 v1 1) with
   | none => none
   | some r70_0 =>
    match r70_0 with
    | false =>
     some (.inr false)
    | true =>
     some (.inl (v1, v2_0, v2_1, v2_2, v2_3, v2_4, P.ar .add .i64 v5 1))
theorem o_cascaderef03_right_4 (l_8 : T_cascaderef03_right_8) (v1 v2_0 v2_1 : Int) (v2_2 : Str) (v2_3 : Ls0) (v2_4 : Ls1) (v5 : Int)  (h_l_8 : H_cascaderef03_right_8 xat @xmap e_api_Value e_api_Pair m  l_8) {out} (hp : b_cascaderef03_right_4 PP c_cascaderef01_Right c_cascaderef03_right l_8 v1 v2_0 v2_1 v2_2 v2_3 v2_4 v5 = some out) : (A_cascaderef03_right_4 xat @xmap e_api_Value e_api_Pair m  v1 v2_0 v2_1 v2_2 v2_3 v2_4 v5 stk) = (Sum.elim (fun (v1, v2_0, v2_1, v2_2, v2_3, v2_4, v5) => (A_cascaderef03_right_4 xat @xmap e_api_Value e_api_Pair m  v1 v2_0 v2_1 v2_2 v2_3 v2_4 v5 stk)) (O_cascaderef03_right  m  stk)) out := by
 subst hPP
 simp only [b_cascaderef03_right_4] at hp
 unfold A_cascaderef03_right_4
 rw [h.at_, hT]
 cbv
 try simp only [h.len]
 cases c67 : xcmp .lss v5 (plen v2_3) with
 | false =>
  simp only [c67] at hp ⊢
  cbv
  rw [h.at_, hT]
  cbv
  cases c : l_8 v1 v2_0 v2_1 v2_2 v2_3 v2_4 0 with
  | none => simp only [c] at hp; cases hp
  | some o74 =>
   simp only [c] at hp
   cases hp
   first | exact h_l_8 c stk | (have q := h_l_8 c stk; simp only [A_cascaderef03_right_8, h.map_cons, h.map_nil, h.mapE_nil, h.len_nil, hA] at q; first | exact q | (cbv; exact q))
 | true =>
  simp only [c67] at hp ⊢
  cbv
  rw [h.at_, hT]
  cbv
  cases c69 : pidx v2_3 v5 with
  | none => simp only [c69] at hp; cases hp
  | some y73 =>
   obtain ⟨a68_0, a68_1, a68_2, a68_3, a68_4⟩ := y73
   simp only [c69] at hp
   obtain ⟨q1, q2⟩ := h.idx e_api_Value c69
   try simp only [hA.2.2.1] at q2
   simp only [q1, Bool.false_eq_true, if_false]
   cbv
   try simp only [q2]
   cbv
   cases c71 : c_cascaderef03_right ⟨a68_0, a68_1, a68_2, a68_3, a68_4⟩ (xar .sub .i64 v1 1) with
   | none => simp only [c71] at hp; cases hp
   | some r70_0 =>
    simp only [c71] at hp
    have qc := fun s => (h_cascaderef03_right c71 s).1
    simp only [qc]
    cbv
    cases r70_0 with
    | false =>
     simp only at hp
     cbv
     cases hp
     all_goals first | rfl | (cbv; done)
    | true =>
     simp only at hp
     cbv
     rw [h.at_, hT]
     cbv
     cases hp
     all_goals first | rfl | (cbv; done)
def b_cascaderef03_right_8 (P : Prims) (c_cascaderef01_Right : Str → Option (Bool)) (c_cascaderef03_right : S_api_Value → Int → Option (Bool)) (l_11 : T_cascaderef03_right_11) (v1 v2_0 v2_1 : Int) (v2_2 : Str) (v2_3 : Ls0) (v2_4 : Ls1) (v6 : Int) : Option ((Int × Int × Int × Str × Ls0 × Ls1 × Int) ⊕ (Bool)) :=
 match P.cmp .lss v6 (P.len v2_4) with
 | false =>
  some (.inr true)
 | true =>
  match P.idx v2_4 v6 with
  | none => none
  | some ⟨a76_0, ⟨a76_1_0, a76_1_1, a76_1_2, a76_1_3, a76_1_4⟩⟩ =>
   match c_cascaderef01_Right a76_0 with
   | none => none
   | some r78_0 =>
    match r78_0 with
    | false =>
     some (.inr false)
    | true =>
     match c_cascaderef03_right ⟨a76_1_0, a76_1_1, a76_1_2, a76_1_3, a76_1_4⟩ (P.ar .sub .i64 v1 1) with
     | none => none
     | some r81_0 =>
      match r81_0 with
      | false =>
       some (.inr false)
      | true =>
       l_11 v1 v2_0 v2_1 v2_2 v2_3 v2_4 v6 0
theorem o_cascaderef03_right_8 (l_11 : T_cascaderef03_right_11) (v1 v2_0 v2_1 : Int) (v2_2 : Str) (v2_3 : Ls0) (v2_4 : Ls1) (v6 : Int)  (h_l_11 : H_cascaderef03_right_11 xat @xmap e_api_Value e_api_Pair m  l_11) {out} (hp : b_cascaderef03_right_8 PP c_cascaderef01_Right c_cascaderef03_right l_11 v1 v2_0 v2_1 v2_2 v2_3 v2_4 v6 = some out) : (A_cascaderef03_right_8 xat @xmap e_api_Value e_api_Pair m  v1 v2_0 v2_1 v2_2 v2_3 v2_4 v6 stk) = (Sum.elim (fun (v1, v2_0, v2_1, v2_2, v2_3, v2_4, v6) => (A_cascaderef03_right_8 xat @xmap e_api_Value e_api_Pair m  v1 v2_0 v2_1 v2_2 v2_3 v2_4 v6 stk)) (O_cascaderef03_right  m  stk)) out := by
 subst hPP
 simp only [b_cascaderef03_right_8] at hp
 unfold A_cascaderef03_right_8
 rw [h.at_, hT]
 cbv
 try simp only [h.len]
 cases c75 : xcmp .lss v6 (plen v2_4) with
 | false =>
  simp only [c75] at hp ⊢
  cbv
  rw [h.at_, hT]
  cbv
  cases hp
  all_goals first | rfl | (cbv; done)
 | true =>
  simp only [c75] at hp ⊢
  cbv
  rw [h.at_, hT]
  cbv
  cases c77 : pidx v2_4 v6 with
  | none => simp only [c77] at hp; cases hp
  | some y84 =>
   obtain ⟨a76_0, ⟨a76_1_0, a76_1_1, a76_1_2, a76_1_3, a76_1_4⟩⟩ := y84
   simp only [c77] at hp
   obtain ⟨q1, q2⟩ := h.idx e_api_Pair c77
   try simp only [hA.2.2.2.1] at q2
   simp only [q1, Bool.false_eq_true, if_false]
   cbv
   try simp only [q2]
   cbv
   cases c79 : c_cascaderef01_Right a76_0 with
   | none => simp only [c79] at hp; cases hp
   | some r78_0 =>
    simp only [c79] at hp
    have qc := fun s => (h_cascaderef01_Right c79 s).1
    simp only [qc]
    cbv
    cases r78_0 with
    | false =>
     simp only at hp
     cbv
     cases hp
     all_goals first | rfl | (cbv; done)
    | true =>
     simp only at hp
     cbv
     obtain ⟨q1, q2⟩ := h.idx e_api_Pair c77
     try simp only [hA.2.2.2.1] at q2
     simp only [q1, Bool.false_eq_true, if_false]
     cbv
     try simp only [q2]
     cbv
     cases c82 : c_cascaderef03_right ⟨a76_1_0, a76_1_1, a76_1_2, a76_1_3, a76_1_4⟩ (xar .sub .i64 v1 1) with
     | none => simp only [c82] at hp; cases hp
     | some r81_0 =>
      simp only [c82] at hp
      have qc := fun s => (h_cascaderef03_right c82 s).1
      simp only [qc]
      cbv
      cases r81_0 with
      | false =>
       simp only at hp
       cbv
       cases hp
       all_goals first | rfl | (cbv; done)
      | true =>
       simp only at hp
       cbv
       rw [h.at_, hT]
       cbv
       first | exact h_l_11 hp stk | (have q := h_l_11 hp stk; simp only [A_cascaderef03_right_11, h.map_cons, h.map_nil, h.mapE_nil, h.len_nil, hA] at q; first | exact q | (cbv; exact q))
def b_cascaderef03_right_11 (P : Prims) (c_cascaderef01_Right : Str → Option (Bool)) (c_cascaderef03_right : S_api_Value → Int → Option (Bool))  (v1 v2_0 v2_1 : Int) (v2_2 : Str) (v2_3 : Ls0) (v2_4 : Ls1) (v6 v7 : Int) : Option ((Int × Int × Int × Str × Ls0 × Ls1 × Int × Int) ⊕ ((Int × Int × Int × Str × Ls0 × Ls1 × Int) ⊕ (Bool))) :=
 match P.cmp .lss v7 v6 with
 | false =>
  some (.inr (.inl (v1, v2_0, v2_1, v2_2, v2_3, v2_4, P.ar .add .i64 v6 1)))
 | true =>
  match P.idx v2_4 v7 with
  | none => none
  | some ⟨a86_0, ⟨a86_1_0, a86_1_1, a86_1_2, a86_1_3, a86_1_4⟩⟩ =>
   match P.idx v2_4 v6 with
   | none => none
   | some ⟨a88_0, ⟨a88_1_0, a88_1_1, a88_1_2, a88_1_3, a88_1_4⟩⟩ =>
    match P.seq a86_0 a88_0 with
    | false =>
     some (.inl (v1, v2_0, v2_1, v2_2, v2_3, v2_4, v6, P.ar .add .i64 v7 1))
    | true =>
     some (.inr (.inr false))
theorem o_cascaderef03_right_11  (v1 v2_0 v2_1 : Int) (v2_2 : Str) (v2_3 : Ls0) (v2_4 : Ls1) (v6 v7 : Int)   {out} (hp : b_cascaderef03_right_11 PP c_cascaderef01_Right c_cascaderef03_right  v1 v2_0 v2_1 v2_2 v2_3 v2_4 v6 v7 = some out) : (A_cascaderef03_right_11 xat @xmap e_api_Value e_api_Pair m  v1 v2_0 v2_1 v2_2 v2_3 v2_4 v6 v7 stk) = (Sum.elim (fun (v1, v2_0, v2_1, v2_2, v2_3, v2_4, v6, v7) => (A_cascaderef03_right_11 xat @xmap e_api_Value e_api_Pair m  v1 v2_0 v2_1 v2_2 v2_3 v2_4 v6 v7 stk)) (Sum.elim (fun (v1, v2_0, v2_1, v2_2, v2_3, v2_4, v6) => (A_cascaderef03_right_8 xat @xmap e_api_Value e_api_Pair m  v1 v2_0 v2_1 v2_2 v2_3 v2_4 v6 stk)) (O_cascaderef03_right  m  stk))) out := by
 subst hPP
 simp only [b_cascaderef03_right_11] at hp
 unfold A_cascaderef03_right_11
 rw [h.at_, hT]
 cbv
 cases c85 : xcmp .lss v7 v6 with
 | false =>
  simp only [c85] at hp ⊢
  cbv
  rw [h.at_, hT]
  cbv
  cases hp
  all_goals first | rfl | (cbv; done)
 | true =>
  simp only [c85] at hp ⊢
  cbv
  rw [h.at_, hT]
  cbv
  cases c87 : pidx v2_4 v7 with
  | none => simp only [c87] at hp; cases hp
  | some y92 =>
   obtain ⟨a86_0, ⟨a86_1_0, a86_1_1, a86_1_2, a86_1_3, a86_1_4⟩⟩ := y92
   simp only [c87] at hp
   obtain ⟨q1, q2⟩ := h.idx e_api_Pair c87
   try simp only [hA.2.2.2.1] at q2
   simp only [q1, Bool.false_eq_true, if_false]
   cbv
   try simp only [q2]
   cbv
   cases c89 : pidx v2_4 v6 with
   | none => simp only [c89] at hp; cases hp
   | some y91 =>
    obtain ⟨a88_0, ⟨a88_1_0, a88_1_1, a88_1_2, a88_1_3, a88_1_4⟩⟩ := y91
    simp only [c89] at hp
    obtain ⟨q1, q2⟩ := h.idx e_api_Pair c89
    try simp only [hA.2.2.2.1] at q2
    simp only [q1, Bool.false_eq_true, if_false]
    cbv
    try simp only [q2]
    cbv
    cases c90 : xseq a86_0 a88_0 with
    | false =>
     simp only [c90] at hp ⊢
     cbv
     rw [h.at_, hT]
     cbv
     cases hp
     all_goals first | rfl | (cbv; done)
    | true =>
     simp only [c90] at hp ⊢
     cbv
     cases hp
     all_goals first | rfl | (cbv; done)
end
def b_cascaderef03_Right_0 (P : Prims) (c_cascaderef03_right : S_api_Value → Int → Option (Bool))  (v0_0 v0_1 : Int) (v0_2 : Str) (v0_3 : Ls0) (v0_4 : Ls1) : Option (Bool) :=
 match c_cascaderef03_right ⟨v0_0, v0_1, v0_2, v0_3, v0_4⟩ 12 with
 | none => none
 | some r1_0 =>
  some r1_0
section
variable (c_cascaderef03_right : S_api_Value → Int → Option (Bool)) (h_cascaderef03_right : (C_cascaderef03_right xpcall xfcall @xmap e_api_Value e_api_Pair c_cascaderef03_right)) (stk : Stk) (m : Nat)   
include c_cascaderef03_right h_cascaderef03_right stk m  
theorem o_cascaderef03_Right_0  (v0_0 v0_1 : Int) (v0_2 : Str) (v0_3 : Ls0) (v0_4 : Ls1)   {out} (hp : b_cascaderef03_Right_0 PP c_cascaderef03_right  v0_0 v0_1 v0_2 v0_3 v0_4 = some out) : (A_cascaderef03_Right_0 xat @xmap e_api_Value e_api_Pair m  v0_0 v0_1 v0_2 v0_3 v0_4 stk) = (O_cascaderef03_Right  m  stk) out := by
 subst hPP
 simp only [b_cascaderef03_Right_0] at hp
 unfold A_cascaderef03_Right_0
 rw [h.at_, hT]
 cbv
 cases c2 : c_cascaderef03_right ⟨v0_0, v0_1, v0_2, v0_3, v0_4⟩ 12 with
 | none => simp only [c2] at hp; cases hp
 | some r1_0 =>
  simp only [c2] at hp
  have qc := fun s => (h_cascaderef03_right c2 s).1
  simp only [qc]
  cbv
  cases hp
  all_goals first | rfl | (cbv; done)
end
def b_cascaderef04_From_0 (P : Prims) (c_cascaderef04_Stands : S_api_Value → Option (S_api_Value × Bool)) (c_cascaderef03_Right : S_api_Value → Option (Bool))  (v0_0 v0_1 : Int) (v0_2 : Str) (v0_3 : Ls0) (v0_4 : Ls1) : Option (S_api_Value × Int) :=
 match c_cascaderef04_Stands ⟨v0_0, v0_1, v0_2, v0_3, v0_4⟩ with
 | none => none
 | some (⟨r1_0_0, r1_0_1, r1_0_2, r1_0_3, r1_0_4⟩, r1_1) =>
  match r1_1 with
  | false =>
   some (⟨0, 0, [], [], []⟩, 1)
  | true =>
   match c_cascaderef03_Right ⟨r1_0_0, r1_0_1, r1_0_2, r1_0_3, r1_0_4⟩ with
   | none => none
   | some r4_0 =>
    match r4_0 with
    | false =>
     some (⟨0, 0, [], [], []⟩, 1)
    | true =>
     some (⟨r1_0_0, r1_0_1, r1_0_2, r1_0_3, r1_0_4⟩, 0)
section
variable (c_cascaderef04_Stands : S_api_Value → Option (S_api_Value × Bool)) (c_cascaderef03_Right : S_api_Value → Option (Bool)) (h_cascaderef04_Stands : (C_cascaderef04_Stands xpcall xfcall @xmap e_api_Value e_api_Pair c_cascaderef04_Stands)) (h_cascaderef03_Right : (C_cascaderef03_Right xpcall xfcall @xmap e_api_Value e_api_Pair c_cascaderef03_Right)) (stk : Stk) (m : Nat)   
include c_cascaderef04_Stands c_cascaderef03_Right h_cascaderef04_Stands h_cascaderef03_Right stk m  
theorem o_cascaderef04_From_0  (v0_0 v0_1 : Int) (v0_2 : Str) (v0_3 : Ls0) (v0_4 : Ls1)   {out} (hp : b_cascaderef04_From_0 PP c_cascaderef04_Stands c_cascaderef03_Right  v0_0 v0_1 v0_2 v0_3 v0_4 = some out) : (A_cascaderef04_From_0 xat @xmap e_api_Value e_api_Pair m  v0_0 v0_1 v0_2 v0_3 v0_4 stk) = (O_cascaderef04_From @xmap e_api_Value e_api_Pair m  stk) out := by
 subst hPP
 simp only [b_cascaderef04_From_0] at hp
 unfold A_cascaderef04_From_0
 rw [h.at_, hT]
 cbv
 cases c2 : c_cascaderef04_Stands ⟨v0_0, v0_1, v0_2, v0_3, v0_4⟩ with
 | none => simp only [c2] at hp; cases hp
 | some y7 =>
  obtain ⟨⟨r1_0_0, r1_0_1, r1_0_2, r1_0_3, r1_0_4⟩, r1_1⟩ := y7
  simp only [c2] at hp
  have qc := fun s => (h_cascaderef04_Stands c2 s).1
  simp only [qc]
  cbv
  cases r1_1 with
  | false =>
   simp only at hp
   cbv
   cases hp
   all_goals first | rfl | (cbv; done) | (simp only [h.nadd0, h.nle_refl, h.cut_all, h.cut_nil, h.map_cons, h.map_nil, h.mapE_nil, h.len_nil, hA, O_cascaderef04_From, if_true]; first | done | rfl | (cbv; done) | (cbv; simp only [h.map_cons, h.map_nil, h.mapE_nil, h.len_nil, hA, O_cascaderef04_From]; done))
  | true =>
   simp only at hp
   cbv
   cases c5 : c_cascaderef03_Right ⟨r1_0_0, r1_0_1, r1_0_2, r1_0_3, r1_0_4⟩ with
   | none => simp only [c5] at hp; cases hp
   | some r4_0 =>
    simp only [c5] at hp
    have qc := fun s => (h_cascaderef03_Right c5 s).1
    simp only [qc]
    cbv
    cases r4_0 with
    | false =>
     simp only at hp
     cbv
     cases hp
     all_goals first | rfl | (cbv; done) | (simp only [h.nadd0, h.nle_refl, h.cut_all, h.cut_nil, h.map_cons, h.map_nil, h.mapE_nil, h.len_nil, hA, O_cascaderef04_From, if_true]; first | done | rfl | (cbv; done) | (cbv; simp only [h.map_cons, h.map_nil, h.mapE_nil, h.len_nil, hA, O_cascaderef04_From]; done))
    | true =>
     simp only at hp
     cbv
     rw [h.at_, hT]
     cbv
     cases hp
     all_goals first | rfl | (cbv; done)
end
def b_cascaderef03_Same_0 (P : Prims) (c_cascaderef03_Same : S_api_Value → S_api_Value → Option (Bool)) (l_2 : T_cascaderef03_Same_2) (v0_0 v0_1 : Int) (v0_2 : Str) (v0_3 : Ls0) (v0_4 : Ls1) (v1_0 v1_1 : Int) (v1_2 : Str) (v1_3 : Ls0) (v1_4 : Ls1) : Option (Bool) :=
 match P.cmp .neq v0_0 v1_0 with
 | false =>
  match P.cmp .neq v0_1 v1_1 with
  | false =>
   match P.seq v0_2 v1_2 with
   | false =>
    some false
   | true =>
    match P.cmp .neq (P.len v0_3) (P.len v1_3) with
    | false =>
     match P.cmp .neq (P.len v0_4) (P.len v1_4) with
     | false =>
      l_2 v0_0 v0_1 v0_2 v0_3 v0_4 v1_0 v1_1 v1_2 v1_3 v1_4 0
     | true =>
      some false
    | true =>
     some false
  | true =>
   some false
 | true =>
  some false
section
variable (c_cascaderef03_Same : S_api_Value → S_api_Value → Option (Bool)) (h_cascaderef03_Same : (C_cascaderef03_Same xpcall xfcall @xmap e_api_Value e_api_Pair c_cascaderef03_Same)) (stk : Stk) (m : Nat)   
include c_cascaderef03_Same h_cascaderef03_Same stk m  
theorem o_cascaderef03_Same_0 (l_2 : T_cascaderef03_Same_2) (v0_0 v0_1 : Int) (v0_2 : Str) (v0_3 : Ls0) (v0_4 : Ls1) (v1_0 v1_1 : Int) (v1_2 : Str) (v1_3 : Ls0) (v1_4 : Ls1)  (h_l_2 : H_cascaderef03_Same_2 xat @xmap e_api_Value e_api_Pair m  l_2) {out} (hp : b_cascaderef03_Same_0 PP c_cascaderef03_Same l_2 v0_0 v0_1 v0_2 v0_3 v0_4 v1_0 v1_1 v1_2 v1_3 v1_4 = some out) : (A_cascaderef03_Same_0 xat @xmap e_api_Value e_api_Pair m  v0_0 v0_1 v0_2 v0_3 v0_4 v1_0 v1_1 v1_2 v1_3 v1_4 stk) = (O_cascaderef03_Same  m  stk) out := by
 subst hPP
 simp only [b_cascaderef03_Same_0] at hp
 unfold A_cascaderef03_Same_0
 rw [h.at_, hT]
 cbv
 cases c1 : xcmp .neq v0_0 v1_0 with
 | false =>
  simp only [c1] at hp ⊢
  cbv
  cases c2 : xcmp .neq v0_1 v1_1 with
  | false =>
   simp only [c2] at hp ⊢
   cbv
   cases c3 : xseq v0_2 v1_2 with
   | false =>
    simp only [c3] at hp ⊢
    cbv
    cases hp
    all_goals first | rfl | (cbv; done)
   | true =>
    simp only [c3] at hp ⊢
    cbv
    try simp only [h.len]
    try simp only [h.len]
    cases c4 : xcmp .neq (plen v0_3) (plen v1_3) with
    | false =>
     simp only [c4] at hp ⊢
     cbv
     try simp only [h.len]
     try simp only [h.len]
     cases c5 : xcmp .neq (plen v0_4) (plen v1_4) with
     | false =>
      simp only [c5] at hp ⊢
      cbv
      rw [h.at_, hT]
      cbv
      first | exact h_l_2 hp stk | (have q := h_l_2 hp stk; simp only [A_cascaderef03_Same_2, h.map_cons, h.map_nil, h.mapE_nil, h.len_nil, hA] at q; first | exact q | (cbv; exact q))
     | true =>
      simp only [c5] at hp ⊢
      cbv
      cases hp
      all_goals first | rfl | (cbv; done)
    | true =>
     simp only [c4] at hp ⊢
     cbv
     cases hp
     all_goals first | rfl | (cbv; done)
  | true =>
   simp only [c2] at hp ⊢
   cbv
   cases hp
   all_goals first | rfl | (cbv; done)
 | true =>
  simp only [c1] at hp ⊢
  cbv
  cases hp
  all_goals first | rfl | (cbv; done)
def b_cascaderef03_Same_2 (P : Prims) (c_cascaderef03_Same : S_api_Value → S_api_Value → Option (Bool)) (l_6 : T_cascaderef03_Same_6) (v2_0 v2_1 : Int) (v2_2 : Str) (v2_3 : Ls0) (v2_4 : Ls1) (v3_0 v3_1 : Int) (v3_2 : Str) (v3_3 : Ls0) (v3_4 : Ls1) (v5 : Int) : Option ((Int × Int × Str × Ls0 × Ls1 × Int × Int × Str × Ls0 × Ls1 × Int) ⊕ (Bool)) :=
 match P.cmp .lss v5 (P.len v2_3) with
 | false =>
  match l_6 v2_0 v2_1 v2_2 v2_3 v2_4 v3_0 v3_1 v3_2 v3_3 v3_4 0 with | none => none | some o16 => some (.inr o16)
 | true =>
  match P.idx v2_3 v5 with
  | none => none
  | some ⟨a7_0, a7_1, a7_2, a7_3, a7_4⟩ =>
   match P.idx v3_3 v5 with
   | none => none
   | some ⟨a9_0, a9_1, a9_2, a9_3, a9_4⟩ =>
    match c_cascaderef03_Same ⟨a7_0, a7_1, a7_2, a7_3, a7_4⟩ ⟨a9_0, a9_1, a9_2, a9_3, a9_4⟩ with
    | none => none
    | some r11_0 =>
     match r11_0 with
     | false =>
      some (.inr false)
     | true =>
      some (.inl (v2_0, v2_1, v2_2, v2_3, v2_4, v3_0, v3_1, v3_2, v3_3, v3_4, P.ar .add .i64 v5 1))
theorem o_cascaderef03_Same_2 (l_6 : T_cascaderef03_Same_6) (v2_0 v2_1 : Int) (v2_2 : Str) (v2_3 : Ls0) (v2_4 : Ls1) (v3_0 v3_1 : Int) (v3_2 : Str) (v3_3 : Ls0) (v3_4 : Ls1) (v5 : Int)  (h_l_6 : H_cascaderef03_Same_6 xat @xmap e_api_Value e_api_Pair m  l_6) {out} (hp : b_cascaderef03_Same_2 PP c_cascaderef03_Same l_6 v2_0 v2_1 v2_2 v2_3 v2_4 v3_0 v3_1 v3_2 v3_3 v3_4 v5 = some out) : (A_cascaderef03_Same_2 xat @xmap e_api_Value e_api_Pair m  v2_0 v2_1 v2_2 v2_3 v2_4 v3_0 v3_1 v3_2 v3_3 v3_4 v5 stk) = (Sum.elim (fun (v2_0, v2_1, v2_2, v2_3, v2_4, v3_0, v3_1, v3_2, v3_3, v3_4, v5) => (A_cascaderef03_Same_2 xat @xmap e_api_Value e_api_Pair m  v2_0 v2_1 v2_2 v2_3 v2_4 v3_0 v3_1 v3_2 v3_3 v3_4 v5 stk)) (O_cascaderef03_Same  m  stk)) out := by
 subst hPP
 simp only [b_cascaderef03_Same_2] at hp
 unfold A_cascaderef03_Same_2
 rw [h.at_, hT]
 cbv
 try simp only [h.len]
 cases c6 : xcmp .lss v5 (plen v2_3) with
 | false =>
  simp only [c6] at hp ⊢
  cbv
  rw [h.at_, hT]
  cbv
  cases c : l_6 v2_0 v2_1 v2_2 v2_3 v2_4 v3_0 v3_1 v3_2 v3_3 v3_4 0 with
  | none => simp only [c] at hp; cases hp
  | some o16 =>
   simp only [c] at hp
   cases hp
   first | exact h_l_6 c stk | (have q := h_l_6 c stk; simp only [A_cascaderef03_Same_6, h.map_cons, h.map_nil, h.mapE_nil, h.len_nil, hA] at q; first | exact q | (cbv; exact q))
 | true =>
  simp only [c6] at hp ⊢
  cbv
  rw [h.at_, hT]
  cbv
  cases c8 : pidx v2_3 v5 with
  | none => simp only [c8] at hp; cases hp
  | some y15 =>
   obtain ⟨a7_0, a7_1, a7_2, a7_3, a7_4⟩ := y15
   simp only [c8] at hp
   obtain ⟨q1, q2⟩ := h.idx e_api_Value c8
   try simp only [hA.2.2.1] at q2
   simp only [q1, Bool.false_eq_true, if_false]
   cbv
   try simp only [q2]
   cbv
   cases c10 : pidx v3_3 v5 with
   | none => simp only [c10] at hp; cases hp
   | some y14 =>
    obtain ⟨a9_0, a9_1, a9_2, a9_3, a9_4⟩ := y14
    simp only [c10] at hp
    obtain ⟨q1, q2⟩ := h.idx e_api_Value c10
    try simp only [hA.2.2.1] at q2
    simp only [q1, Bool.false_eq_true, if_false]
    cbv
    try simp only [q2]
    cbv
    cases c12 : c_cascaderef03_Same ⟨a7_0, a7_1, a7_2, a7_3, a7_4⟩ ⟨a9_0, a9_1, a9_2, a9_3, a9_4⟩ with
    | none => simp only [c12] at hp; cases hp
    | some r11_0 =>
     simp only [c12] at hp
     have qc := fun s => (h_cascaderef03_Same c12 s).1
     simp only [qc]
     cbv
     cases r11_0 with
     | false =>
      simp only at hp
      cbv
      cases hp
      all_goals first | rfl | (cbv; done)
     | true =>
      simp only at hp
      cbv
      rw [h.at_, hT]
      cbv
      cases hp
      all_goals first | rfl | (cbv; done)
def b_cascaderef03_Same_6 (P : Prims) (c_cascaderef03_Same : S_api_Value → S_api_Value → Option (Bool))  (v2_0 v2_1 : Int) (v2_2 : Str) (v2_3 : Ls0) (v2_4 : Ls1) (v3_0 v3_1 : Int) (v3_2 : Str) (v3_3 : Ls0) (v3_4 : Ls1) (v6 : Int) : Option ((Int × Int × Str × Ls0 × Ls1 × Int × Int × Str × Ls0 × Ls1 × Int) ⊕ (Bool)) :=
 match P.cmp .lss v6 (P.len v2_4) with
 | false =>
  some (.inr true)
 | true =>
  match P.idx v2_4 v6 with
  | none => none
  | some ⟨a18_0, ⟨a18_1_0, a18_1_1, a18_1_2, a18_1_3, a18_1_4⟩⟩ =>
   match P.idx v3_4 v6 with
   | none => none
   | some ⟨a20_0, ⟨a20_1_0, a20_1_1, a20_1_2, a20_1_3, a20_1_4⟩⟩ =>
    match P.seq a18_0 a20_0 with
    | false =>
     some (.inr false)
    | true =>
     match c_cascaderef03_Same ⟨a18_1_0, a18_1_1, a18_1_2, a18_1_3, a18_1_4⟩ ⟨a20_1_0, a20_1_1, a20_1_2, a20_1_3, a20_1_4⟩ with
     | none => none
     | some r23_0 =>
      match r23_0 with
      | false =>
       some (.inr false)
      | true =>
       some (.inl (v2_0, v2_1, v2_2, v2_3, v2_4, v3_0, v3_1, v3_2, v3_3, v3_4, P.ar .add .i64 v6 1))
theorem o_cascaderef03_Same_6  (v2_0 v2_1 : Int) (v2_2 : Str) (v2_3 : Ls0) (v2_4 : Ls1) (v3_0 v3_1 : Int) (v3_2 : Str) (v3_3 : Ls0) (v3_4 : Ls1) (v6 : Int)   {out} (hp : b_cascaderef03_Same_6 PP c_cascaderef03_Same  v2_0 v2_1 v2_2 v2_3 v2_4 v3_0 v3_1 v3_2 v3_3 v3_4 v6 = some out) : (A_cascaderef03_Same_6 xat @xmap e_api_Value e_api_Pair m  v2_0 v2_1 v2_2 v2_3 v2_4 v3_0 v3_1 v3_2 v3_3 v3_4 v6 stk) = (Sum.elim (fun (v2_0, v2_1, v2_2, v2_3, v2_4, v3_0, v3_1, v3_2, v3_3, v3_4, v6) => (A_cascaderef03_Same_6 xat @xmap e_api_Value e_api_Pair m  v2_0 v2_1 v2_2 v2_3 v2_4 v3_0 v3_1 v3_2 v3_3 v3_4 v6 stk)) (O_cascaderef03_Same  m  stk)) out := by
 subst hPP
 simp only [b_cascaderef03_Same_6] at hp
 unfold A_cascaderef03_Same_6
 rw [h.at_, hT]
 cbv
 try simp only [h.len]
 cases c17 : xcmp .lss v6 (plen v2_4) with
 | false =>
  simp only [c17] at hp ⊢
  cbv
  rw [h.at_, hT]
  cbv
  cases hp
  all_goals first | rfl | (cbv; done)
 | true =>
  simp only [c17] at hp ⊢
  cbv
  rw [h.at_, hT]
  cbv
  cases c19 : pidx v2_4 v6 with
  | none => simp only [c19] at hp; cases hp
  | some y27 =>
   obtain ⟨a18_0, ⟨a18_1_0, a18_1_1, a18_1_2, a18_1_3, a18_1_4⟩⟩ := y27
   simp only [c19] at hp
   obtain ⟨q1, q2⟩ := h.idx e_api_Pair c19
   try simp only [hA.2.2.2.1] at q2
   simp only [q1, Bool.false_eq_true, if_false]
   cbv
   try simp only [q2]
   cbv
   cases c21 : pidx v3_4 v6 with
   | none => simp only [c21] at hp; cases hp
   | some y26 =>
    obtain ⟨a20_0, ⟨a20_1_0, a20_1_1, a20_1_2, a20_1_3, a20_1_4⟩⟩ := y26
    simp only [c21] at hp
    obtain ⟨q1, q2⟩ := h.idx e_api_Pair c21
    try simp only [hA.2.2.2.1] at q2
    simp only [q1, Bool.false_eq_true, if_false]
    cbv
    try simp only [q2]
    cbv
    cases c22 : xseq a18_0 a20_0 with
    | false =>
     simp only [c22] at hp ⊢
     cbv
     cases hp
     all_goals first | rfl | (cbv; done)
    | true =>
     simp only [c22] at hp ⊢
     cbv
     obtain ⟨q1, q2⟩ := h.idx e_api_Pair c19
     try simp only [hA.2.2.2.1] at q2
     simp only [q1, Bool.false_eq_true, if_false]
     cbv
     try simp only [q2]
     cbv
     obtain ⟨q1, q2⟩ := h.idx e_api_Pair c21
     try simp only [hA.2.2.2.1] at q2
     simp only [q1, Bool.false_eq_true, if_false]
     cbv
     try simp only [q2]
     cbv
     cases c24 : c_cascaderef03_Same ⟨a18_1_0, a18_1_1, a18_1_2, a18_1_3, a18_1_4⟩ ⟨a20_1_0, a20_1_1, a20_1_2, a20_1_3, a20_1_4⟩ with
     | none => simp only [c24] at hp; cases hp
     | some r23_0 =>
      simp only [c24] at hp
      have qc := fun s => (h_cascaderef03_Same c24 s).1
      simp only [qc]
      cbv
      cases r23_0 with
      | false =>
       simp only at hp
       cbv
       cases hp
       all_goals first | rfl | (cbv; done)
      | true =>
       simp only at hp
       cbv
       rw [h.at_, hT]
       cbv
       cases hp
       all_goals first | rfl | (cbv; done)
end
def b_cascaderef04_Kind_0 (P : Prims) (c_cascaderef04_Stands : S_api_Value → Option (S_api_Value × Bool))  (v0_0 v0_1 : Int) (v0_2 : Str) (v0_3 : Ls0) (v0_4 : Ls1) : Option (Int) :=
 match P.cmp .eql v0_0 10 with
 | false =>
  match c_cascaderef04_Stands ⟨v0_0, v0_1, v0_2, v0_3, v0_4⟩ with
  | none => none
  | some (⟨r2_0_0, r2_0_1, r2_0_2, r2_0_3, r2_0_4⟩, r2_1) =>
   some r2_0_0
 | true =>
  some (-1)
section
variable (c_cascaderef04_Stands : S_api_Value → Option (S_api_Value × Bool)) (h_cascaderef04_Stands : (C_cascaderef04_Stands xpcall xfcall @xmap e_api_Value e_api_Pair c_cascaderef04_Stands)) (stk : Stk) (m : Nat)   
include c_cascaderef04_Stands h_cascaderef04_Stands stk m  
theorem o_cascaderef04_Kind_0  (v0_0 v0_1 : Int) (v0_2 : Str) (v0_3 : Ls0) (v0_4 : Ls1)   {out} (hp : b_cascaderef04_Kind_0 PP c_cascaderef04_Stands  v0_0 v0_1 v0_2 v0_3 v0_4 = some out) : (A_cascaderef04_Kind_0 xat @xmap e_api_Value e_api_Pair m  v0_0 v0_1 v0_2 v0_3 v0_4 stk) = (O_cascaderef04_Kind  m  stk) out := by
 subst hPP
 simp only [b_cascaderef04_Kind_0] at hp
 unfold A_cascaderef04_Kind_0
 rw [h.at_, hT]
 cbv
 cases c1 : xcmp .eql v0_0 10 with
 | false =>
  simp only [c1] at hp ⊢
  cbv
  rw [h.at_, hT]
  cbv
  cases c3 : c_cascaderef04_Stands ⟨v0_0, v0_1, v0_2, v0_3, v0_4⟩ with
  | none => simp only [c3] at hp; cases hp
  | some y4 =>
   obtain ⟨⟨r2_0_0, r2_0_1, r2_0_2, r2_0_3, r2_0_4⟩, r2_1⟩ := y4
   simp only [c3] at hp
   have qc := fun s => (h_cascaderef04_Stands c3 s).1
   simp only [qc]
   cbv
   cases hp
   all_goals first | rfl | (cbv; done)
 | true =>
  simp only [c1] at hp ⊢
  cbv
  cases hp
  all_goals first | rfl | (cbv; done)
end
def b_cascadelaw04_DynFrom_0 (P : Prims) (c_cascadelaw04_awake : Option (Bool)) (c_cascaderef03_Few : S_api_Value → Int → Option (Bool)) (c_dyn_Odd : S_api_Value → Option (S_any)) (c_dyn_From : S_any → Option (S_api_Value × Int)) (c_cascaderef04_From : S_api_Value → Option (S_api_Value × Int)) (c_cascaderef03_Same : S_api_Value → S_api_Value → Option (Bool)) (c_dyn_Kind : S_any → Option (Int)) (c_cascaderef04_Kind : S_api_Value → Option (Int))  (v0_0 v0_1 : Int) (v0_2 : Str) (v0_3 : Ls0) (v0_4 : Ls1) : Option (Bool) :=
 match c_cascadelaw04_awake with
 | none => none
 | some r1_0 =>
  match r1_0 with
  | false =>
   some r1_0
  | true =>
   match c_cascaderef03_Few ⟨v0_0, v0_1, v0_2, v0_3, v0_4⟩ 60 with
   | none => none
   | some r4_0 =>
    match r4_0 with
    | false =>
     some r1_0
    | true =>
     match c_dyn_Odd ⟨v0_0, v0_1, v0_2, v0_3, v0_4⟩ with
     | none => none
     | some r7_0 =>
      match c_dyn_From r7_0 with
      | none => none
      | some (⟨r9_0_0, r9_0_1, r9_0_2, r9_0_3, r9_0_4⟩, r9_1) =>
       match c_cascaderef04_From ⟨v0_0, v0_1, v0_2, v0_3, v0_4⟩ with
       | none => none
       | some (⟨r11_0_0, r11_0_1, r11_0_2, r11_0_3, r11_0_4⟩, r11_1) =>
        match P.cmp .eql r9_1 r11_1 with
        | false =>
         some false
        | true =>
         match c_cascaderef03_Same ⟨r9_0_0, r9_0_1, r9_0_2, r9_0_3, r9_0_4⟩ ⟨r11_0_0, r11_0_1, r11_0_2, r11_0_3, r11_0_4⟩ with
         | none => none
         | some r14_0 =>
          match r14_0 with
          | false =>
           some false
          | true =>
           match c_dyn_Kind r7_0 with
           | none => none
           | some r17_0 =>
            match c_cascaderef04_Kind ⟨v0_0, v0_1, v0_2, v0_3, v0_4⟩ with
            | none => none
            | some r19_0 =>
             some (P.cmp .eql r17_0 r19_0)
section
variable (c_cascadelaw04_awake : Option (Bool)) (c_cascaderef03_Few : S_api_Value → Int → Option (Bool)) (c_dyn_Odd : S_api_Value → Option (S_any)) (c_dyn_From : S_any → Option (S_api_Value × Int)) (c_cascaderef04_From : S_api_Value → Option (S_api_Value × Int)) (c_cascaderef03_Same : S_api_Value → S_api_Value → Option (Bool)) (c_dyn_Kind : S_any → Option (Int)) (c_cascaderef04_Kind : S_api_Value → Option (Int)) (h_cascadelaw04_awake : (C_cascadelaw04_awake xpcall xfcall c_cascadelaw04_awake)) (h_cascaderef03_Few : (C_cascaderef03_Few xpcall xfcall @xmap e_api_Value e_api_Pair c_cascaderef03_Few)) (h_dyn_Odd : (C_dyn_Odd xpcall xfcall @xmap e_any e_api_Value e_api_Pair c_dyn_Odd)) (h_dyn_From : (C_dyn_From xpcall xfcall @xmap e_any e_api_Value e_api_Pair c_dyn_From)) (h_cascaderef04_From : (C_cascaderef04_From xpcall xfcall @xmap e_api_Value e_api_Pair c_cascaderef04_From)) (h_cascaderef03_Same : (C_cascaderef03_Same xpcall xfcall @xmap e_api_Value e_api_Pair c_cascaderef03_Same)) (h_dyn_Kind : (C_dyn_Kind xpcall xfcall e_any c_dyn_Kind)) (h_cascaderef04_Kind : (C_cascaderef04_Kind xpcall xfcall @xmap e_api_Value e_api_Pair c_cascaderef04_Kind)) (stk : Stk) (m : Nat)   
include c_cascadelaw04_awake c_cascaderef03_Few c_dyn_Odd c_dyn_From c_cascaderef04_From c_cascaderef03_Same c_dyn_Kind c_cascaderef04_Kind h_cascadelaw04_awake h_cascaderef03_Few h_dyn_Odd h_dyn_From h_cascaderef04_From h_cascaderef03_Same h_dyn_Kind h_cascaderef04_Kind stk m  
theorem o_cascadelaw04_DynFrom_0  (v0_0 v0_1 : Int) (v0_2 : Str) (v0_3 : Ls0) (v0_4 : Ls1)   {out} (hp : b_cascadelaw04_DynFrom_0 PP c_cascadelaw04_awake c_cascaderef03_Few c_dyn_Odd c_dyn_From c_cascaderef04_From c_cascaderef03_Same c_dyn_Kind c_cascaderef04_Kind  v0_0 v0_1 v0_2 v0_3 v0_4 = some out) : (A_cascadelaw04_DynFrom_0 xat @xmap e_api_Value e_api_Pair m  v0_0 v0_1 v0_2 v0_3 v0_4 stk) = (O_cascadelaw04_DynFrom  m  stk) out := by
 subst hPP
 simp only [b_cascadelaw04_DynFrom_0] at hp
 unfold A_cascadelaw04_DynFrom_0
 rw [h.at_, hT]
 cbv
 cases c2 : c_cascadelaw04_awake with
 | none => simp only [c2] at hp; cases hp
 | some r1_0 =>
  simp only [c2] at hp
  have qc := fun s => (h_cascadelaw04_awake c2 s).1
  simp only [qc]
  cbv
  cases r1_0 with
  | false =>
   simp only at hp
   cbv
   have qc := fun s => (h_cascadelaw04_awake c2 s).1
   simp only [qc]
   cbv
   cases hp
   all_goals first | rfl | (cbv; done)
  | true =>
   simp only at hp
   cbv
   cases c5 : c_cascaderef03_Few ⟨v0_0, v0_1, v0_2, v0_3, v0_4⟩ 60 with
   | none => simp only [c5] at hp; cases hp
   | some r4_0 =>
    simp only [c5] at hp
    have qc := fun s => (h_cascaderef03_Few c5 s).1
    simp only [qc]
    cbv
    cases r4_0 with
    | false =>
     simp only at hp
     cbv
     have qc := fun s => (h_cascadelaw04_awake c2 s).1
     simp only [qc]
     cbv
     cases hp
     all_goals first | rfl | (cbv; done)
    | true =>
     simp only at hp
     cbv
     rw [h.at_, hT]
     cbv
     cases c8 : c_dyn_Odd ⟨v0_0, v0_1, v0_2, v0_3, v0_4⟩ with
     | none => simp only [c8] at hp; cases hp
     | some r7_0 =>
      simp only [c8] at hp
      have qc := fun s => (h_dyn_Odd c8 s).1
      simp only [qc]
      cbv
      cases c10 : c_dyn_From r7_0 with
      | none => simp only [c10] at hp; cases hp
      | some y22 =>
       obtain ⟨⟨r9_0_0, r9_0_1, r9_0_2, r9_0_3, r9_0_4⟩, r9_1⟩ := y22
       simp only [c10] at hp
       have qc := fun s => (h_dyn_From c10 s).1
       simp only [qc]
       cbv
       cases c12 : c_cascaderef04_From ⟨v0_0, v0_1, v0_2, v0_3, v0_4⟩ with
       | none => simp only [c12] at hp; cases hp
       | some y21 =>
        obtain ⟨⟨r11_0_0, r11_0_1, r11_0_2, r11_0_3, r11_0_4⟩, r11_1⟩ := y21
        simp only [c12] at hp
        have qc := fun s => (h_cascaderef04_From c12 s).1
        simp only [qc]
        cbv
        cases c13 : xcmp .eql r9_1 r11_1 with
        | false =>
         simp only [c13] at hp ⊢
         cbv
         cases hp
         all_goals first | rfl | (cbv; done)
        | true =>
         simp only [c13] at hp ⊢
         cbv
         cases c15 : c_cascaderef03_Same ⟨r9_0_0, r9_0_1, r9_0_2, r9_0_3, r9_0_4⟩ ⟨r11_0_0, r11_0_1, r11_0_2, r11_0_3, r11_0_4⟩ with
         | none => simp only [c15] at hp; cases hp
         | some r14_0 =>
          simp only [c15] at hp
          have qc := fun s => (h_cascaderef03_Same c15 s).1
          simp only [qc]
          cbv
          cases r14_0 with
          | false =>
           simp only at hp
           cbv
           cases hp
           all_goals first | rfl | (cbv; done)
          | true =>
           simp only at hp
           cbv
           cases c18 : c_dyn_Kind r7_0 with
           | none => simp only [c18] at hp; cases hp
           | some r17_0 =>
            simp only [c18] at hp
            have qc := fun s => (h_dyn_Kind c18 s).1
            simp only [qc]
            cbv
            cases c20 : c_cascaderef04_Kind ⟨v0_0, v0_1, v0_2, v0_3, v0_4⟩ with
            | none => simp only [c20] at hp; cases hp
            | some r19_0 =>
             simp only [c20] at hp
             have qc := fun s => (h_cascaderef04_Kind c20 s).1
             simp only [qc]
             cbv
             cases hp
             all_goals first | rfl | (cbv; done)
end
def b_dyn_To_0 (P : Prims) (c_tree_Right : S_api_Value → Option (Bool)) (c_dyn_to : S_api_Value → Option (S_any))  (v0_0 v0_1 : Int) (v0_2 : Str) (v0_3 : Ls0) (v0_4 : Ls1) : Option (S_any × Int) :=
 match c_tree_Right ⟨v0_0, v0_1, v0_2, v0_3, v0_4⟩ with
 | none => none
 | some r1_0 =>
  match r1_0 with
  | false =>
   some (.n, 1)
  | true =>
   match c_dyn_to ⟨v0_0, v0_1, v0_2, v0_3, v0_4⟩ with
   | none => none
   | some r4_0 =>
    some (r4_0, 0)
section
variable (c_tree_Right : S_api_Value → Option (Bool)) (c_dyn_to : S_api_Value → Option (S_any)) (h_tree_Right : (C_tree_Right xpcall xfcall @xmap e_api_Value e_api_Pair c_tree_Right)) (h_dyn_to : (C_dyn_to xpcall xfcall @xmap e_any e_api_Value e_api_Pair c_dyn_to)) (stk : Stk) (m : Nat)   
include c_tree_Right c_dyn_to h_tree_Right h_dyn_to stk m  
theorem o_dyn_To_0  (v0_0 v0_1 : Int) (v0_2 : Str) (v0_3 : Ls0) (v0_4 : Ls1)   {out} (hp : b_dyn_To_0 PP c_tree_Right c_dyn_to  v0_0 v0_1 v0_2 v0_3 v0_4 = some out) : (A_dyn_To_0 xat @xmap e_api_Value e_api_Pair m  v0_0 v0_1 v0_2 v0_3 v0_4 stk) = (O_dyn_To e_any m  stk) out := by
 subst hPP
 simp only [b_dyn_To_0] at hp
 unfold A_dyn_To_0
 rw [h.at_, hT]
 cbv
 cases c2 : c_tree_Right ⟨v0_0, v0_1, v0_2, v0_3, v0_4⟩ with
 | none => simp only [c2] at hp; cases hp
 | some r1_0 =>
  simp only [c2] at hp
  have qc := fun s => (h_tree_Right c2 s).1
  simp only [qc]
  cbv
  cases r1_0 with
  | false =>
   simp only at hp
   cbv
   cases hp
   all_goals first | rfl | (cbv; done) | (simp only [h.nadd0, h.nle_refl, h.cut_all, h.cut_nil, h.map_cons, h.map_nil, h.mapE_nil, h.len_nil, hA, O_dyn_To, if_true]; first | done | rfl | (cbv; done) | (cbv; simp only [h.map_cons, h.map_nil, h.mapE_nil, h.len_nil, hA, O_dyn_To]; done))
  | true =>
   simp only at hp
   cbv
   rw [h.at_, hT]
   cbv
   cases c5 : c_dyn_to ⟨v0_0, v0_1, v0_2, v0_3, v0_4⟩ with
   | none => simp only [c5] at hp; cases hp
   | some r4_0 =>
    simp only [c5] at hp
    have qc := fun s => (h_dyn_to c5 s).1
    simp only [qc]
    cbv
    cases hp
    all_goals first | rfl | (cbv; done)
end
def b_cascadelaw04_DynTo_0 (P : Prims) (c_cascadelaw04_awake : Option (Bool)) (c_cascaderef03_Few : S_api_Value → Int → Option (Bool)) (c_dyn_To : S_api_Value → Option (S_any × Int)) (c_cascaderef03_Right : S_api_Value → Option (Bool)) (c_dyn_From : S_any → Option (S_api_Value × Int)) (c_dyn_Odd : S_api_Value → Option (S_any)) (c_cascaderef03_Same : S_api_Value → S_api_Value → Option (Bool)) (c_dyn_Kind : S_any → Option (Int))  (v0_0 v0_1 : Int) (v0_2 : Str) (v0_3 : Ls0) (v0_4 : Ls1) : Option (Bool) :=
 match c_cascadelaw04_awake with
 | none => none
 | some r1_0 =>
  match r1_0 with
  | false =>
   some r1_0
  | true =>
   match c_cascaderef03_Few ⟨v0_0, v0_1, v0_2, v0_3, v0_4⟩ 60 with
   | none => none
   | some r4_0 =>
    match r4_0 with
    | false =>
     some r1_0
    | true =>
     match c_dyn_To ⟨v0_0, v0_1, v0_2, v0_3, v0_4⟩ with
     | none => none
     | some (r7_0, r7_1) =>
      match c_cascaderef03_Right ⟨v0_0, v0_1, v0_2, v0_3, v0_4⟩ with
      | none => none
      | some r9_0 =>
       match r9_0 with
       | false =>
        match P.cmp .eql r7_1 1 with
        | false =>
         some false
        | true =>
         match r7_0 with
         | .n =>
          some true
         | .c2 y32 =>
          some false
         | .c3 y33 =>
          some false
         | .c4 y34 =>
          some false
         | .c9 y35 =>
          some false
         | .c66 y36 =>
          some false
         | .c68 y37 =>
          some false
         | .c71 =>
          some false
       | true =>
        match c_dyn_From r7_0 with
        | none => none
        | some (⟨r12_0_0, r12_0_1, r12_0_2, r12_0_3, r12_0_4⟩, r12_1) =>
         match c_dyn_Odd ⟨v0_0, v0_1, v0_2, v0_3, v0_4⟩ with
         | none => none
         | some r14_0 =>
          match c_dyn_From r14_0 with
          | none => none
          | some (⟨r16_0_0, r16_0_1, r16_0_2, r16_0_3, r16_0_4⟩, r16_1) =>
           match P.cmp .eql r7_1 0 with
           | false =>
            some false
           | true =>
            match P.cmp .eql r12_1 0 with
            | false =>
             some false
            | true =>
             match c_cascaderef03_Same ⟨v0_0, v0_1, v0_2, v0_3, v0_4⟩ ⟨r12_0_0, r12_0_1, r12_0_2, r12_0_3, r12_0_4⟩ with
             | none => none
             | some r20_0 =>
              match r20_0 with
              | false =>
               some false
              | true =>
               match c_dyn_Kind r7_0 with
               | none => none
               | some r23_0 =>
                match P.cmp .eql r23_0 v0_0 with
                | false =>
                 some false
                | true =>
                 match P.cmp .eql r16_1 0 with
                 | false =>
                  some false
                 | true =>
                  match c_cascaderef03_Same ⟨v0_0, v0_1, v0_2, v0_3, v0_4⟩ ⟨r16_0_0, r16_0_1, r16_0_2, r16_0_3, r16_0_4⟩ with
                  | none => none
                  | some r27_0 =>
                   some r27_0
section
variable (c_cascadelaw04_awake : Option (Bool)) (c_cascaderef03_Few : S_api_Value → Int → Option (Bool)) (c_dyn_To : S_api_Value → Option (S_any × Int)) (c_cascaderef03_Right : S_api_Value → Option (Bool)) (c_dyn_From : S_any → Option (S_api_Value × Int)) (c_dyn_Odd : S_api_Value → Option (S_any)) (c_cascaderef03_Same : S_api_Value → S_api_Value → Option (Bool)) (c_dyn_Kind : S_any → Option (Int)) (h_cascadelaw04_awake : (C_cascadelaw04_awake xpcall xfcall c_cascadelaw04_awake)) (h_cascaderef03_Few : (C_cascaderef03_Few xpcall xfcall @xmap e_api_Value e_api_Pair c_cascaderef03_Few)) (h_dyn_To : (C_dyn_To xpcall xfcall @xmap e_any e_api_Value e_api_Pair c_dyn_To)) (h_cascaderef03_Right : (C_cascaderef03_Right xpcall xfcall @xmap e_api_Value e_api_Pair c_cascaderef03_Right)) (h_dyn_From : (C_dyn_From xpcall xfcall @xmap e_any e_api_Value e_api_Pair c_dyn_From)) (h_dyn_Odd : (C_dyn_Odd xpcall xfcall @xmap e_any e_api_Value e_api_Pair c_dyn_Odd)) (h_cascaderef03_Same : (C_cascaderef03_Same xpcall xfcall @xmap e_api_Value e_api_Pair c_cascaderef03_Same)) (h_dyn_Kind : (C_dyn_Kind xpcall xfcall e_any c_dyn_Kind)) (stk : Stk) (m : Nat)   
include c_cascadelaw04_awake c_cascaderef03_Few c_dyn_To c_cascaderef03_Right c_dyn_From c_dyn_Odd c_cascaderef03_Same c_dyn_Kind h_cascadelaw04_awake h_cascaderef03_Few h_dyn_To h_cascaderef03_Right h_dyn_From h_dyn_Odd h_cascaderef03_Same h_dyn_Kind stk m  
theorem o_cascadelaw04_DynTo_0  (v0_0 v0_1 : Int) (v0_2 : Str) (v0_3 : Ls0) (v0_4 : Ls1)   {out} (hp : b_cascadelaw04_DynTo_0 PP c_cascadelaw04_awake c_cascaderef03_Few c_dyn_To c_cascaderef03_Right c_dyn_From c_dyn_Odd c_cascaderef03_Same c_dyn_Kind  v0_0 v0_1 v0_2 v0_3 v0_4 = some out) : (A_cascadelaw04_DynTo_0 xat @xmap e_api_Value e_api_Pair m  v0_0 v0_1 v0_2 v0_3 v0_4 stk) = (O_cascadelaw04_DynTo  m  stk) out := by
 subst hPP
 simp only [b_cascadelaw04_DynTo_0] at hp
 unfold A_cascadelaw04_DynTo_0
 rw [h.at_, hT]
 cbv
 cases c2 : c_cascadelaw04_awake with
 | none => simp only [c2] at hp; cases hp
 | some r1_0 =>
  simp only [c2] at hp
  have qc := fun s => (h_cascadelaw04_awake c2 s).1
  simp only [qc]
  cbv
  cases r1_0 with
  | false =>
   simp only at hp
   cbv
   have qc := fun s => (h_cascadelaw04_awake c2 s).1
   simp only [qc]
   cbv
   cases hp
   all_goals first | rfl | (cbv; done)
  | true =>
   simp only at hp
   cbv
   cases c5 : c_cascaderef03_Few ⟨v0_0, v0_1, v0_2, v0_3, v0_4⟩ 60 with
   | none => simp only [c5] at hp; cases hp
   | some r4_0 =>
    simp only [c5] at hp
    have qc := fun s => (h_cascaderef03_Few c5 s).1
    simp only [qc]
    cbv
    cases r4_0 with
    | false =>
     simp only at hp
     cbv
     have qc := fun s => (h_cascadelaw04_awake c2 s).1
     simp only [qc]
     cbv
     cases hp
     all_goals first | rfl | (cbv; done)
    | true =>
     simp only at hp
     cbv
     rw [h.at_, hT]
     cbv
     cases c8 : c_dyn_To ⟨v0_0, v0_1, v0_2, v0_3, v0_4⟩ with
     | none => simp only [c8] at hp; cases hp
     | some y38 =>
      obtain ⟨r7_0, r7_1⟩ := y38
      simp only [c8] at hp
      have qc := fun s => (h_dyn_To c8 s).1
      simp only [qc]
      cbv
      cases c10 : c_cascaderef03_Right ⟨v0_0, v0_1, v0_2, v0_3, v0_4⟩ with
      | none => simp only [c10] at hp; cases hp
      | some r9_0 =>
       simp only [c10] at hp
       have qc := fun s => (h_cascaderef03_Right c10 s).1
       simp only [qc]
       cbv
       cases r9_0 with
       | false =>
        simp only at hp
        cbv
        cases c31 : xcmp .eql r7_1 1 with
        | false =>
         simp only [c31] at hp ⊢
         cbv
         cases hp
         all_goals first | rfl | (cbv; done)
        | true =>
         simp only [c31] at hp ⊢
         cbv
         cases r7_0 with
         | n =>
          simp only at hp
          try simp only [hA.1]
          cbv
          cases hp
          all_goals first | rfl | (cbv; done)
         | c2 y32 =>
          simp only at hp
          try simp only [hA.1]
          cbv
          cases hp
          all_goals first | rfl | (cbv; done)
         | c3 y33 =>
          simp only at hp
          try simp only [hA.1]
          cbv
          cases hp
          all_goals first | rfl | (cbv; done)
         | c4 y34 =>
          simp only at hp
          try simp only [hA.1]
          cbv
          cases hp
          all_goals first | rfl | (cbv; done)
         | c9 y35 =>
          simp only at hp
          try simp only [hA.1]
          cbv
          cases hp
          all_goals first | rfl | (cbv; done)
         | c66 y36 =>
          simp only at hp
          try simp only [hA.1]
          cbv
          cases hp
          all_goals first | rfl | (cbv; done)
         | c68 y37 =>
          simp only at hp
          try simp only [hA.1]
          cbv
          cases hp
          all_goals first | rfl | (cbv; done)
         | c71 =>
          simp only at hp
          try simp only [hA.1]
          cbv
          cases hp
          all_goals first | rfl | (cbv; done)
       | true =>
        simp only at hp
        cbv
        rw [h.at_, hT]
        cbv
        cases c13 : c_dyn_From r7_0 with
        | none => simp only [c13] at hp; cases hp
        | some y30 =>
         obtain ⟨⟨r12_0_0, r12_0_1, r12_0_2, r12_0_3, r12_0_4⟩, r12_1⟩ := y30
         simp only [c13] at hp
         have qc := fun s => (h_dyn_From c13 s).1
         simp only [qc]
         cbv
         cases c15 : c_dyn_Odd ⟨v0_0, v0_1, v0_2, v0_3, v0_4⟩ with
         | none => simp only [c15] at hp; cases hp
         | some r14_0 =>
          simp only [c15] at hp
          have qc := fun s => (h_dyn_Odd c15 s).1
          simp only [qc]
          cbv
          cases c17 : c_dyn_From r14_0 with
          | none => simp only [c17] at hp; cases hp
          | some y29 =>
           obtain ⟨⟨r16_0_0, r16_0_1, r16_0_2, r16_0_3, r16_0_4⟩, r16_1⟩ := y29
           simp only [c17] at hp
           have qc := fun s => (h_dyn_From c17 s).1
           simp only [qc]
           cbv
           cases c18 : xcmp .eql r7_1 0 with
           | false =>
            simp only [c18] at hp ⊢
            cbv
            cases hp
            all_goals first | rfl | (cbv; done)
           | true =>
            simp only [c18] at hp ⊢
            cbv
            cases c19 : xcmp .eql r12_1 0 with
            | false =>
             simp only [c19] at hp ⊢
             cbv
             cases hp
             all_goals first | rfl | (cbv; done)
            | true =>
             simp only [c19] at hp ⊢
             cbv
             cases c21 : c_cascaderef03_Same ⟨v0_0, v0_1, v0_2, v0_3, v0_4⟩ ⟨r12_0_0, r12_0_1, r12_0_2, r12_0_3, r12_0_4⟩ with
             | none => simp only [c21] at hp; cases hp
             | some r20_0 =>
              simp only [c21] at hp
              have qc := fun s => (h_cascaderef03_Same c21 s).1
              simp only [qc]
              cbv
              cases r20_0 with
              | false =>
               simp only at hp
               cbv
               cases hp
               all_goals first | rfl | (cbv; done)
              | true =>
               simp only at hp
               cbv
               cases c24 : c_dyn_Kind r7_0 with
               | none => simp only [c24] at hp; cases hp
               | some r23_0 =>
                simp only [c24] at hp
                have qc := fun s => (h_dyn_Kind c24 s).1
                simp only [qc]
                cbv
                cases c25 : xcmp .eql r23_0 v0_0 with
                | false =>
                 simp only [c25] at hp ⊢
                 cbv
                 cases hp
                 all_goals first | rfl | (cbv; done)
                | true =>
                 simp only [c25] at hp ⊢
                 cbv
                 cases c26 : xcmp .eql r16_1 0 with
                 | false =>
                  simp only [c26] at hp ⊢
                  cbv
                  cases hp
                  all_goals first | rfl | (cbv; done)
                 | true =>
                  simp only [c26] at hp ⊢
                  cbv
                  cases c28 : c_cascaderef03_Same ⟨v0_0, v0_1, v0_2, v0_3, v0_4⟩ ⟨r16_0_0, r16_0_1, r16_0_2, r16_0_3, r16_0_4⟩ with
                  | none => simp only [c28] at hp; cases hp
                  | some r27_0 =>
                   simp only [c28] at hp
                   have qc := fun s => (h_cascaderef03_Same c28 s).1
                   simp only [qc]
                   cbv
                   cases hp
                   all_goals first | rfl | (cbv; done)
end
def b_dyn_member_0 (P : Prims)  (l_1 : T_dyn_member_1) (v0 : Ls3) (v1 : Str) : Option (S_any × Bool) :=
 l_1 v1 v0 (P.len v0) 0
section
variable   (stk : Stk) (m : Nat)   
include   stk m  
theorem o_dyn_member_0 (l_1 : T_dyn_member_1) (v0 : Ls3) (v1 : Str)  (h_l_1 : H_dyn_member_1 xat @xmap e_any e_dyn_Member m  l_1) {out} (hp : b_dyn_member_0 PP  l_1 v0 v1 = some out) : (A_dyn_member_0 xat @xmap e_dyn_Member m  v0 v1 stk) = (O_dyn_member e_any m  stk) out := by
 subst hPP
 simp only [b_dyn_member_0] at hp
 unfold A_dyn_member_0
 rw [h.at_, hT]
 cbv
 try simp only [h.len]
 first | exact h_l_1 hp stk | (have q := h_l_1 hp stk; simp only [A_dyn_member_1, h.map_cons, h.map_nil, h.mapE_nil, h.len_nil, hA] at q; first | exact q | (cbv; exact q))
def b_dyn_member_1 (P : Prims)   (v1 : Str) (v8 : Ls3) (v9 v10 : Int) : Option ((Str × Ls3 × Int × Int) ⊕ (S_any × Bool)) :=
 match P.cmp .lss v10 v9 with
 | false =>
  some (.inr (.n, false))
 | true =>
  match P.idx v8 v10 with
  | none => none
  | some ⟨a2_0, a2_1⟩ =>
   match P.seq a2_0 v1 with
   | false =>
    some (.inl (v1, v8, v9, P.ar .add .i64 v10 1))
   | true =>
    some (.inr (a2_1, true))
theorem o_dyn_member_1  (v1 : Str) (v8 : Ls3) (v9 v10 : Int)   {out} (hp : b_dyn_member_1 PP   v1 v8 v9 v10 = some out) : (A_dyn_member_1 xat @xmap e_dyn_Member m  v1 v8 v9 v10 stk) = (Sum.elim (fun (v1, v8, v9, v10) => (A_dyn_member_1 xat @xmap e_dyn_Member m  v1 v8 v9 v10 stk)) (O_dyn_member e_any m  stk)) out := by
 subst hPP
 simp only [b_dyn_member_1] at hp
 unfold A_dyn_member_1
 rw [h.at_, hT]
 cbv
 cases c1 : xcmp .lss v10 v9 with
 | false =>
  simp only [c1] at hp ⊢
  cbv
  rw [h.at_, hT]
  cbv
  cases hp
  all_goals first | rfl | (cbv; done) | (simp only [h.nadd0, h.nle_refl, h.cut_all, h.cut_nil, h.map_cons, h.map_nil, h.mapE_nil, h.len_nil, hA, O_dyn_member, A_dyn_member_1, if_true]; first | done | rfl | (cbv; done) | (cbv; simp only [h.map_cons, h.map_nil, h.mapE_nil, h.len_nil, hA, O_dyn_member, A_dyn_member_1]; done))
 | true =>
  simp only [c1] at hp ⊢
  cbv
  rw [h.at_, hT]
  cbv
  cases c3 : pidx v8 v10 with
  | none => simp only [c3] at hp; cases hp
  | some y5 =>
   obtain ⟨a2_0, a2_1⟩ := y5
   simp only [c3] at hp
   obtain ⟨q1, q2⟩ := h.idx e_dyn_Member c3
   try simp only [hA.2.1] at q2
   simp only [q1, Bool.false_eq_true, if_false]
   cbv
   try simp only [q2]
   cbv
   cases c4 : xseq a2_0 v1 with
   | false =>
    simp only [c4] at hp ⊢
    cbv
    rw [h.at_, hT]
    cbv
    cases hp
    all_goals first | rfl | (cbv; done)
   | true =>
    simp only [c4] at hp ⊢
    cbv
    cases hp
    all_goals first | rfl | (cbv; done)
end
def b_dyn_Go_0 (P : Prims) (c_dyn_member : Ls3 → Str → Option (S_any × Bool)) (l_1 : T_dyn_Go_1) (v0 : S_any) (v1 : (List Str)) : Option (S_any × Bool) :=
 l_1 v0 v1 (P.len v1) 0
section
variable (c_dyn_member : Ls3 → Str → Option (S_any × Bool)) (h_dyn_member : (C_dyn_member xpcall xfcall @xmap e_any e_dyn_Member c_dyn_member)) (stk : Stk) (m : Nat)   
include c_dyn_member h_dyn_member stk m  
theorem o_dyn_Go_0 (l_1 : T_dyn_Go_1) (v0 : S_any) (v1 : (List Str))  (h_l_1 : H_dyn_Go_1 xat @xmap e_any e_string m  l_1) {out} (hp : b_dyn_Go_0 PP c_dyn_member l_1 v0 v1 = some out) : (A_dyn_Go_0 xat @xmap e_any e_string m  v0 v1 stk) = (O_dyn_Go e_any m  stk) out := by
 subst hPP
 simp only [b_dyn_Go_0] at hp
 unfold A_dyn_Go_0
 rw [h.at_, hT]
 cbv
 try simp only [h.len]
 first | exact h_l_1 hp stk | (have q := h_l_1 hp stk; simp only [A_dyn_Go_1, h.map_cons, h.map_nil, h.mapE_nil, h.len_nil, hA] at q; first | exact q | (cbv; exact q))
def b_dyn_Go_1 (P : Prims) (c_dyn_member : Ls3 → Str → Option (S_any × Bool))  (v0 : S_any) (v10 : (List Str)) (v11 v12 : Int) : Option ((S_any × (List Str) × Int × Int) ⊕ (S_any × Bool)) :=
 match P.cmp .lss v12 v11 with
 | false =>
  some (.inr (v0, true))
 | true =>
  match P.idx v10 v12 with
  | none => none
  | some a2 =>
   match v0 with
   | .n =>
    some (.inr (.n, false))
   | .c2 y4 =>
    some (.inr (.n, false))
   | .c3 y5 =>
    some (.inr (.n, false))
   | .c4 y6 =>
    some (.inr (.n, false))
   | .c9 y7 =>
    some (.inr (.n, false))
   | .c66 y8 =>
    some (.inr (.n, false))
   | .c68 y9 =>
    match c_dyn_member y9 a2 with
    | none => none
    | some (r10_0, r10_1) =>
     match r10_1 with
     | false =>
      some (.inr (.n, false))
     | true =>
      some (.inl (r10_0, v10, v11, P.ar .add .i64 v12 1))
   | .c71 =>
    some (.inr (.n, false))
theorem o_dyn_Go_1  (v0 : S_any) (v10 : (List Str)) (v11 v12 : Int)   {out} (hp : b_dyn_Go_1 PP c_dyn_member  v0 v10 v11 v12 = some out) : (A_dyn_Go_1 xat @xmap e_any e_string m  v0 v10 v11 v12 stk) = (Sum.elim (fun (v0, v10, v11, v12) => (A_dyn_Go_1 xat @xmap e_any e_string m  v0 v10 v11 v12 stk)) (O_dyn_Go e_any m  stk)) out := by
 subst hPP
 simp only [b_dyn_Go_1] at hp
 unfold A_dyn_Go_1
 rw [h.at_, hT]
 cbv
 cases c1 : xcmp .lss v12 v11 with
 | false =>
  simp only [c1] at hp ⊢
  cbv
  rw [h.at_, hT]
  cbv
  cases hp
  all_goals first | rfl | (cbv; done)
 | true =>
  simp only [c1] at hp ⊢
  cbv
  rw [h.at_, hT]
  cbv
  cases c3 : pidx v10 v12 with
  | none => simp only [c3] at hp; cases hp
  | some a2 =>
   simp only [c3] at hp
   obtain ⟨q1, q2⟩ := h.idx e_string c3
   try simp only [hA.2.2.2.2.2] at q2
   simp only [q1, Bool.false_eq_true, if_false]
   cbv
   try simp only [q2]
   cbv
   cases v0 with
   | n =>
    simp only at hp
    try simp only [hA.1]
    cbv
    cases hp
    all_goals first | rfl | (cbv; done) | (simp only [h.nadd0, h.nle_refl, h.cut_all, h.cut_nil, h.map_cons, h.map_nil, h.mapE_nil, h.len_nil, hA, O_dyn_Go, A_dyn_Go_1, if_true]; first | done | rfl | (cbv; done) | (cbv; simp only [h.map_cons, h.map_nil, h.mapE_nil, h.len_nil, hA, O_dyn_Go, A_dyn_Go_1]; done))
   | c2 y4 =>
    simp only at hp
    try simp only [hA.1]
    cbv
    cases hp
    all_goals first | rfl | (cbv; done) | (simp only [h.nadd0, h.nle_refl, h.cut_all, h.cut_nil, h.map_cons, h.map_nil, h.mapE_nil, h.len_nil, hA, O_dyn_Go, A_dyn_Go_1, if_true]; first | done | rfl | (cbv; done) | (cbv; simp only [h.map_cons, h.map_nil, h.mapE_nil, h.len_nil, hA, O_dyn_Go, A_dyn_Go_1]; done))
   | c3 y5 =>
    simp only at hp
    try simp only [hA.1]
    cbv
    cases hp
    all_goals first | rfl | (cbv; done) | (simp only [h.nadd0, h.nle_refl, h.cut_all, h.cut_nil, h.map_cons, h.map_nil, h.mapE_nil, h.len_nil, hA, O_dyn_Go, A_dyn_Go_1, if_true]; first | done | rfl | (cbv; done) | (cbv; simp only [h.map_cons, h.map_nil, h.mapE_nil, h.len_nil, hA, O_dyn_Go, A_dyn_Go_1]; done))
   | c4 y6 =>
    simp only at hp
    try simp only [hA.1]
    cbv
    cases hp
    all_goals first | rfl | (cbv; done) | (simp only [h.nadd0, h.nle_refl, h.cut_all, h.cut_nil, h.map_cons, h.map_nil, h.mapE_nil, h.len_nil, hA, O_dyn_Go, A_dyn_Go_1, if_true]; first | done | rfl | (cbv; done) | (cbv; simp only [h.map_cons, h.map_nil, h.mapE_nil, h.len_nil, hA, O_dyn_Go, A_dyn_Go_1]; done))
   | c9 y7 =>
    simp only at hp
    try simp only [hA.1]
    cbv
    cases hp
    all_goals first | rfl | (cbv; done) | (simp only [h.nadd0, h.nle_refl, h.cut_all, h.cut_nil, h.map_cons, h.map_nil, h.mapE_nil, h.len_nil, hA, O_dyn_Go, A_dyn_Go_1, if_true]; first | done | rfl | (cbv; done) | (cbv; simp only [h.map_cons, h.map_nil, h.mapE_nil, h.len_nil, hA, O_dyn_Go, A_dyn_Go_1]; done))
   | c66 y8 =>
    simp only at hp
    try simp only [hA.1]
    cbv
    cases hp
    all_goals first | rfl | (cbv; done) | (simp only [h.nadd0, h.nle_refl, h.cut_all, h.cut_nil, h.map_cons, h.map_nil, h.mapE_nil, h.len_nil, hA, O_dyn_Go, A_dyn_Go_1, if_true]; first | done | rfl | (cbv; done) | (cbv; simp only [h.map_cons, h.map_nil, h.mapE_nil, h.len_nil, hA, O_dyn_Go, A_dyn_Go_1]; done))
   | c68 y9 =>
    simp only at hp
    try simp only [hA.1]
    cbv
    rw [h.at_, hT]
    cbv
    cases c11 : c_dyn_member y9 a2 with
    | none => simp only [c11] at hp; cases hp
    | some y13 =>
     obtain ⟨r10_0, r10_1⟩ := y13
     simp only [c11] at hp
     have qc := fun s => (h_dyn_member c11 s).1
     simp only [qc]
     cbv
     cases r10_1 with
     | false =>
      simp only at hp
      cbv
      cases hp
      all_goals first | rfl | (cbv; done) | (simp only [h.nadd0, h.nle_refl, h.cut_all, h.cut_nil, h.map_cons, h.map_nil, h.mapE_nil, h.len_nil, hA, O_dyn_Go, A_dyn_Go_1, if_true]; first | done | rfl | (cbv; done) | (cbv; simp only [h.map_cons, h.map_nil, h.mapE_nil, h.len_nil, hA, O_dyn_Go, A_dyn_Go_1]; done))
     | true =>
      simp only at hp
      cbv
      rw [h.at_, hT]
      cbv
      cases hp
      all_goals first | rfl | (cbv; done)
   | c71 =>
    simp only at hp
    try simp only [hA.1]
    cbv
    cases hp
    all_goals first | rfl | (cbv; done) | (simp only [h.nadd0, h.nle_refl, h.cut_all, h.cut_nil, h.map_cons, h.map_nil, h.mapE_nil, h.len_nil, hA, O_dyn_Go, A_dyn_Go_1, if_true]; first | done | rfl | (cbv; done) | (cbv; simp only [h.map_cons, h.map_nil, h.mapE_nil, h.len_nil, hA, O_dyn_Go, A_dyn_Go_1]; done))
end
def b_cascaderef03_At_0 (P : Prims)  (l_1 : T_cascaderef03_At_1) (v0_0 v0_1 : Int) (v0_2 : Str) (v0_3 : Ls0) (v0_4 : Ls1) (v1 : Str) : Option (Int) :=
 l_1 v1 v0_0 v0_1 v0_2 v0_3 v0_4 0
section
variable   (stk : Stk) (m : Nat)   
include   stk m  
theorem o_cascaderef03_At_0 (l_1 : T_cascaderef03_At_1) (v0_0 v0_1 : Int) (v0_2 : Str) (v0_3 : Ls0) (v0_4 : Ls1) (v1 : Str)  (h_l_1 : H_cascaderef03_At_1 xat @xmap e_api_Value e_api_Pair m  l_1) {out} (hp : b_cascaderef03_At_0 PP  l_1 v0_0 v0_1 v0_2 v0_3 v0_4 v1 = some out) : (A_cascaderef03_At_0 xat @xmap e_api_Value e_api_Pair m  v0_0 v0_1 v0_2 v0_3 v0_4 v1 stk) = (O_cascaderef03_At  m  stk) out := by
 subst hPP
 simp only [b_cascaderef03_At_0] at hp
 unfold A_cascaderef03_At_0
 rw [h.at_, hT]
 cbv
 first | exact h_l_1 hp stk | (have q := h_l_1 hp stk; simp only [A_cascaderef03_At_1, h.map_cons, h.map_nil, h.mapE_nil, h.len_nil, hA] at q; first | exact q | (cbv; exact q))
def b_cascaderef03_At_1 (P : Prims)   (v1 : Str) (v2_0 v2_1 : Int) (v2_2 : Str) (v2_3 : Ls0) (v2_4 : Ls1) (v5 : Int) : Option ((Str × Int × Int × Str × Ls0 × Ls1 × Int) ⊕ (Int)) :=
 match P.cmp .lss v5 (P.len v2_4) with
 | false =>
  some (.inr (-1))
 | true =>
  match P.idx v2_4 v5 with
  | none => none
  | some ⟨a2_0, ⟨a2_1_0, a2_1_1, a2_1_2, a2_1_3, a2_1_4⟩⟩ =>
   match P.seq a2_0 v1 with
   | false =>
    some (.inl (v1, v2_0, v2_1, v2_2, v2_3, v2_4, P.ar .add .i64 v5 1))
   | true =>
    some (.inr v5)
theorem o_cascaderef03_At_1  (v1 : Str) (v2_0 v2_1 : Int) (v2_2 : Str) (v2_3 : Ls0) (v2_4 : Ls1) (v5 : Int)   {out} (hp : b_cascaderef03_At_1 PP   v1 v2_0 v2_1 v2_2 v2_3 v2_4 v5 = some out) : (A_cascaderef03_At_1 xat @xmap e_api_Value e_api_Pair m  v1 v2_0 v2_1 v2_2 v2_3 v2_4 v5 stk) = (Sum.elim (fun (v1, v2_0, v2_1, v2_2, v2_3, v2_4, v5) => (A_cascaderef03_At_1 xat @xmap e_api_Value e_api_Pair m  v1 v2_0 v2_1 v2_2 v2_3 v2_4 v5 stk)) (O_cascaderef03_At  m  stk)) out := by
 subst hPP
 simp only [b_cascaderef03_At_1] at hp
 unfold A_cascaderef03_At_1
 rw [h.at_, hT]
 cbv
 try simp only [h.len]
 cases c1 : xcmp .lss v5 (plen v2_4) with
 | false =>
  simp only [c1] at hp ⊢
  cbv
  rw [h.at_, hT]
  cbv
  cases hp
  all_goals first | rfl | (cbv; done)
 | true =>
  simp only [c1] at hp ⊢
  cbv
  rw [h.at_, hT]
  cbv
  cases c3 : pidx v2_4 v5 with
  | none => simp only [c3] at hp; cases hp
  | some y5 =>
   obtain ⟨a2_0, ⟨a2_1_0, a2_1_1, a2_1_2, a2_1_3, a2_1_4⟩⟩ := y5
   simp only [c3] at hp
   obtain ⟨q1, q2⟩ := h.idx e_api_Pair c3
   try simp only [hA.2.2.2.1] at q2
   simp only [q1, Bool.false_eq_true, if_false]
   cbv
   try simp only [q2]
   cbv
   cases c4 : xseq a2_0 v1 with
   | false =>
    simp only [c4] at hp ⊢
    cbv
    rw [h.at_, hT]
    cbv
    cases hp
    all_goals first | rfl | (cbv; done)
   | true =>
    simp only [c4] at hp ⊢
    cbv
    cases hp
    all_goals first | rfl | (cbv; done)
end
def b_cascaderef04_Go_0 (P : Prims) (c_cascaderef03_At : S_api_Value → Str → Option (Int)) (l_1 : T_cascaderef04_Go_1) (v0_0 v0_1 : Int) (v0_2 : Str) (v0_3 : Ls0) (v0_4 : Ls1) (v1 : (List Str)) : Option (S_api_Value × Bool) :=
 l_1 v1 0 v0_0 v0_1 v0_2 v0_3 v0_4 0 0 [] [] []
section
variable (c_cascaderef03_At : S_api_Value → Str → Option (Int)) (h_cascaderef03_At : (C_cascaderef03_At xpcall xfcall @xmap e_api_Value e_api_Pair c_cascaderef03_At)) (stk : Stk) (m : Nat)   
include c_cascaderef03_At h_cascaderef03_At stk m  
theorem o_cascaderef04_Go_0 (l_1 : T_cascaderef04_Go_1) (v0_0 v0_1 : Int) (v0_2 : Str) (v0_3 : Ls0) (v0_4 : Ls1) (v1 : (List Str))  (h_l_1 : H_cascaderef04_Go_1 xat @xmap e_api_Value e_api_Pair e_string m  l_1) {out} (hp : b_cascaderef04_Go_0 PP c_cascaderef03_At l_1 v0_0 v0_1 v0_2 v0_3 v0_4 v1 = some out) : (A_cascaderef04_Go_0 xat @xmap e_api_Value e_api_Pair e_string m  v0_0 v0_1 v0_2 v0_3 v0_4 v1 stk) = (O_cascaderef04_Go @xmap e_api_Value e_api_Pair m  stk) out := by
 subst hPP
 simp only [b_cascaderef04_Go_0] at hp
 unfold A_cascaderef04_Go_0
 rw [h.at_, hT]
 cbv
 first | exact h_l_1 hp stk | (have q := h_l_1 hp stk; simp only [A_cascaderef04_Go_1, h.map_cons, h.map_nil, h.mapE_nil, h.len_nil, hA] at q; first | exact q | (cbv; exact q))
def b_cascaderef04_Go_1 (P : Prims) (c_cascaderef03_At : S_api_Value → Str → Option (Int))  (v1 : (List Str)) (v6 o2_0 o2_1 : Int) (o2_2 : Str) (o2_3 : Ls0) (o2_4 : Ls1) (o4_0 o4_1 : Int) (o4_2 : Str) (o4_3 : Ls0) (o4_4 : Ls1) : Option (((List Str) × Int × Int × Int × Str × Ls0 × Ls1 × Int × Int × Str × Ls0 × Ls1) ⊕ (S_api_Value × Bool)) :=
 match P.cmp .lss v6 (P.len v1) with
 | false =>
  some (.inr (⟨o2_0, o2_1, o2_2, o2_3, o2_4⟩, true))
 | true =>
  match P.cmp .neq o2_0 5 with
  | false =>
   match P.idx v1 v6 with
   | none => none
   | some a3 =>
    match c_cascaderef03_At ⟨o2_0, o2_1, o2_2, o2_3, o2_4⟩ a3 with
    | none => none
    | some r5_0 =>
     match P.cmp .lss r5_0 0 with
     | false =>
      match P.idx o2_4 r5_0 with
      | none => none
      | some ⟨a8_0, ⟨a8_1_0, a8_1_1, a8_1_2, a8_1_3, a8_1_4⟩⟩ =>
       some (.inl (v1, P.ar .add .i64 v6 1, a8_1_0, a8_1_1, a8_1_2, a8_1_3, a8_1_4, o4_0, o4_1, o4_2, o4_3, o4_4))
     | true =>
      some (.inr (⟨0, 0, [], [], []⟩, false))
  | true =>
   some (.inr (⟨0, 0, [], [], []⟩, false))
theorem o_cascaderef04_Go_1  (v1 : (List Str)) (v6 o2_0 o2_1 : Int) (o2_2 : Str) (o2_3 : Ls0) (o2_4 : Ls1) (o4_0 o4_1 : Int) (o4_2 : Str) (o4_3 : Ls0) (o4_4 : Ls1)   {out} (hp : b_cascaderef04_Go_1 PP c_cascaderef03_At  v1 v6 o2_0 o2_1 o2_2 o2_3 o2_4 o4_0 o4_1 o4_2 o4_3 o4_4 = some out) : (A_cascaderef04_Go_1 xat @xmap e_api_Value e_api_Pair e_string m  v1 v6 o2_0 o2_1 o2_2 o2_3 o2_4 o4_0 o4_1 o4_2 o4_3 o4_4 stk) = (Sum.elim (fun (v1, v6, o2_0, o2_1, o2_2, o2_3, o2_4, o4_0, o4_1, o4_2, o4_3, o4_4) => (A_cascaderef04_Go_1 xat @xmap e_api_Value e_api_Pair e_string m  v1 v6 o2_0 o2_1 o2_2 o2_3 o2_4 o4_0 o4_1 o4_2 o4_3 o4_4 stk)) (O_cascaderef04_Go @xmap e_api_Value e_api_Pair m  stk)) out := by
 subst hPP
 simp only [b_cascaderef04_Go_1] at hp
 unfold A_cascaderef04_Go_1
 rw [h.at_, hT]
 cbv
 try simp only [h.len]
 cases c1 : xcmp .lss v6 (plen v1) with
 | false =>
  simp only [c1] at hp ⊢
  cbv
  rw [h.at_, hT]
  cbv
  cases hp
  all_goals first | rfl | (cbv; done)
 | true =>
  simp only [c1] at hp ⊢
  cbv
  rw [h.at_, hT]
  cbv
  cases c2 : xcmp .neq o2_0 5 with
  | false =>
   simp only [c2] at hp ⊢
   cbv
   rw [h.at_, hT]
   cbv
   cases c4 : pidx v1 v6 with
   | none => simp only [c4] at hp; cases hp
   | some a3 =>
    simp only [c4] at hp
    obtain ⟨q1, q2⟩ := h.idx e_string c4
    try simp only [hA.2.2.2.2.2] at q2
    simp only [q1, Bool.false_eq_true, if_false]
    cbv
    try simp only [q2]
    cbv
    cases c6 : c_cascaderef03_At ⟨o2_0, o2_1, o2_2, o2_3, o2_4⟩ a3 with
    | none => simp only [c6] at hp; cases hp
    | some r5_0 =>
     simp only [c6] at hp
     have qc := fun s => (h_cascaderef03_At c6 s).1
     simp only [qc]
     cbv
     cases c7 : xcmp .lss r5_0 0 with
     | false =>
      simp only [c7] at hp ⊢
      cbv
      rw [h.at_, hT]
      cbv
      cases c9 : pidx o2_4 r5_0 with
      | none => simp only [c9] at hp; cases hp
      | some y10 =>
       obtain ⟨a8_0, ⟨a8_1_0, a8_1_1, a8_1_2, a8_1_3, a8_1_4⟩⟩ := y10
       simp only [c9] at hp
       obtain ⟨q1, q2⟩ := h.idx e_api_Pair c9
       try simp only [hA.2.2.2.1] at q2
       simp only [q1, Bool.false_eq_true, if_false]
       cbv
       try simp only [q2]
       cbv
       rw [h.at_, hT]
       cbv
       cases hp
       all_goals first | rfl | (cbv; done)
     | true =>
      simp only [c7] at hp ⊢
      cbv
      cases hp
      all_goals first | rfl | (cbv; done) | (simp only [h.nadd0, h.nle_refl, h.cut_all, h.cut_nil, h.map_cons, h.map_nil, h.mapE_nil, h.len_nil, hA, O_cascaderef04_Go, A_cascaderef04_Go_1, if_true]; first | done | rfl | (cbv; done) | (cbv; simp only [h.map_cons, h.map_nil, h.mapE_nil, h.len_nil, hA, O_cascaderef04_Go, A_cascaderef04_Go_1]; done))
  | true =>
   simp only [c2] at hp ⊢
   cbv
   cases hp
   all_goals first | rfl | (cbv; done) | (simp only [h.nadd0, h.nle_refl, h.cut_all, h.cut_nil, h.map_cons, h.map_nil, h.mapE_nil, h.len_nil, hA, O_cascaderef04_Go, A_cascaderef04_Go_1, if_true]; first | done | rfl | (cbv; done) | (cbv; simp only [h.map_cons, h.map_nil, h.mapE_nil, h.len_nil, hA, O_cascaderef04_Go, A_cascaderef04_Go_1]; done))
end
end
end Go.Abs.T
