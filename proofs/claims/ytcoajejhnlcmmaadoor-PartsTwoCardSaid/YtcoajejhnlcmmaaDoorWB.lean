import Derived.Test.YtcoajejhnlcmmaaDoorDfB
set_option linter.unusedSimpArgs false
set_option linter.unusedVariables false
set_option linter.unusedSectionVars false
namespace Go.Abs.B
set_option maxRecDepth 100000
section
variable {PP : Prims} {xR : FuncId → Option RF} {xiter : (St → Rs) → St → Rs} {xG : Nat → Option (List D)} {xcall : CallF} {xpcall : FuncId → List V → Stk → Option V} {xfcall : FuncId → List V → Stk → Option (V × Stk)} {xkcall : FuncId → List (List Nat) → List V → Stk → Option (V × Level × Stk)} {xlen : List D → Nat} {xnth : List D → Nat → Option D} {xcut : List D → Nat → Nat → List D} {xapp : List D → List D → List D} {xset : List D → Nat → D → List D} {xrep : Nat → D → List D} {xallsz : Nat → List D → Bool} {xslen : Str → Nat} {xsnth : Str → Nat → Option UInt8} {xscut : Str → Nat → Nat → Str} {xsapp : Str → Str → Str} {xseq : Str → Str → Bool} {xslt : Str → Str → Bool} {xofStr : Str → List D} {xtoStr : List D → Option Str} {xdec : Str → Nat → Nat × Nat} {xenc : Int → Str} {xar : BinOp → IntKind → Int → Int → Int} {xcmp : BinOp → Int → Int → Bool} {xwrap : IntKind → Int → Int} {xisz : Int → Bool} {xneg : Int → Bool} {xnat : Int → Nat} {xofN : Nat → Int} {xbyte : UInt8 → Int} {xnle : Nat → Nat → Bool} {xnadd : Nat → Nat → Nat} {xnsub : Nat → Nat → Nat} {xfits : Nat → Nat → Bool} {xfind : D → List (D × Nat × V) → Option (Option V)} {xputE : D → Nat → V → List (D × Nat × V) → Option (List (D × Nat × V))} {xfindK : D → List D → List D → Option (Option D)} {xelen : List (D × Nat × V) → Nat} {xfrzM : List (D × Nat × V) → Option (List D × List D)} {xat : AtF} {xsetO : Stk → Lab → O → Stk} {xtop : Stk → Nat} {xsame : Stk → Stk → Bool} {xmap : {α : Type} → (α → D) → List α → List D} {xmapE : {α : Type} → (α → D) → List (Str × Nat × α) → List (D × Nat × V)} {pquo : BinOp → IntKind → Int → Int → Option Int} {pshf : BinOp → IntKind → Int → Int → Option Int} {pslen : Str → Int} {psidx : Str → Int → Option Int} {pssub : Str → Option Int → Option Int → Option Str} {pscat : Str → Str → Option Str} {psit : Str → Nat → Option (Int × Int × Nat)} {pslist : Str → Option (List Int)} {pofBytes : List Int → Str} {plen : {α : Type} → List α → Int} {pidx : {α : Type} → List α → Int → Option α} {psub : {α : Type} → List α → Option Int → Option Int → Option (List α)} {papp : {α : Type} → Nat → List α → List α → Option (List α)} {pset : {α : Type} → List α → Int → α → Option (List α)} {pmake : {α : Type} → Nat → α → Int → Option (List α)} {pmfind : {α : Type} → Str → List (Str × Nat × α) → Option α} {pmput : {α : Type} → Str → Nat → α → List (Str × Nat × α) → List (Str × Nat × α)} {ploop : {σ ρ : Type} → (σ → Option (σ ⊕ ρ)) → σ → Option ρ} {xT : FuncId → Option KF}
  (h : KLaws xR xiter xG xcall xpcall xfcall xkcall xlen xnth xcut xapp xset xrep xallsz xslen xsnth xscut xsapp xseq xslt xofStr xtoStr xdec xenc xar xcmp xwrap xisz xneg xnat xofN xbyte xnle xnadd xnsub xfits xfind xputE xfindK xelen xfrzM xat xsetO xtop xsame @xmap @xmapE pquo pshf pslen psidx pssub pscat psit pslist pofBytes @plen @pidx @psub @papp @pset @pmake @pmfind @pmput @ploop xT) (hT : xT = table) (hPP : PP = ⟨xar, xcmp, xwrap, xseq, xslt, xenc, pquo, pshf, pslen, psidx, pssub, pscat, psit, pslist, pofBytes, @plen, @pidx, @psub, @papp, @pset, @pmake, @pmfind, @pmput, @ploop⟩)
variable {e_string : Str → D} {e_uint8 : Int → D} (he_e_string : ∀ (x : Str), e_string x = (.str x)) (hz_e_string : ∀ l, xallsz 1 (xmap e_string l) = true) (he_e_uint8 : ∀ (x : Int), e_uint8 x = (.int .u8 x)) (hz_e_uint8 : ∀ l, xallsz 1 (xmap e_uint8 l) = true)
include h hT hPP he_e_string hz_e_string he_e_uint8 hz_e_uint8
def b_parts_End_0 (P : Prims)    : Option (Str) :=
 some [45, 45, 99, 117, 116, 45, 45, 13, 10]
theorem o_parts_End_0   (stk : Stk) (m : Nat)        {out} (hp : b_parts_End_0 PP    = some out) : (A_parts_End_0 xat m   stk) = (O_parts_End  m  stk) out := by
 subst hPP
 simp only [b_parts_End_0] at hp
 unfold A_parts_End_0
 rw [h.at_, hT]
 cbv
 cases hp
 all_goals first | rfl | (cbv; done)
def b_parts_New__0_0 (P : Prims)    : Option (Str × Int × Bool × Int) :=
 some ([], 0, false, 0)
theorem o_parts_New__0_0   (stk : Stk) (m : Nat)        {out} (hp : b_parts_New__0_0 PP    = some out) : (A_parts_New__0_0 xat m   stk) = (O_parts_New__0  m  stk) out := by
 subst hPP
 simp only [b_parts_New__0_0] at hp
 unfold A_parts_New__0_0
 rw [h.at_, hT]
 cbv
 cases hp
 all_goals first | rfl | (cbv; done)
def b_cascadelaw28_awake_0 (P : Prims) (c_parts_End : Option (Str)) (c_parts_New__0 : Option (Str × Int × Bool × Int))   : Option (Bool) :=
 match c_parts_End with
 | none => none
 | some r1_0 =>
  match P.seq r1_0 [45, 45, 99, 117, 116, 45, 45, 13, 10] with
  | false =>
   some false
  | true =>
   match c_parts_New__0 with
   | none => none
   | some (r4_0, r4_1, r4_2, r4_3) =>
    some true
theorem o_cascadelaw28_awake_0 (c_parts_End : Option (Str)) (c_parts_New__0 : Option (Str × Int × Bool × Int)) (h_parts_End : (C_parts_End xpcall xfcall c_parts_End)) (h_parts_New__0 : (C_parts_New__0 xkcall c_parts_New__0)) (stk : Stk) (m : Nat)        {out} (hp : b_cascadelaw28_awake_0 PP c_parts_End c_parts_New__0   = some out) : (A_cascadelaw28_awake_0 xat m   stk) = (O_cascadelaw28_awake  m  stk) out := by
 subst hPP
 simp only [b_cascadelaw28_awake_0] at hp
 unfold A_cascadelaw28_awake_0
 rw [h.at_, hT]
 cbv
 cases c2 : c_parts_End with
 | none => simp only [c2] at hp; cases hp
 | some r1_0 =>
  simp only [c2] at hp
  have qc := fun s => (h_parts_End c2 s).1
  simp only [qc]
  cbv
  cases c3 : xseq r1_0 [45, 45, 99, 117, 116, 45, 45, 13, 10] with
  | false =>
   simp only [c3] at hp ⊢
   cbv
   cases hp
   all_goals first | rfl | (cbv; done)
  | true =>
   simp only [c3] at hp ⊢
   cbv
   cases c5 : c_parts_New__0 with
   | none => simp only [c5] at hp; cases hp
   | some y6 =>
    obtain ⟨r4_0, r4_1, r4_2, r4_3⟩ := y6
    simp only [c5] at hp
    have qc := h_parts_New__0 c5 (⟨m, []⟩ :: stk)  (m + 1) rfl
    simp only [qc]
    cbv
    cases hp
    all_goals first | rfl | (cbv; done)
def b_cascadelaw28_few_0 (P : Prims)  (l_1 : T_cascadelaw28_few_1) (v0 : (List Str)) (v1 : Int) (v2 : Int) : Option (Bool) :=
 l_1 v0 v1 v2 0
theorem o_cascadelaw28_few_0   (stk : Stk) (m : Nat)    (l_1 : T_cascadelaw28_few_1) (v0 : (List Str)) (v1 : Int) (v2 : Int)  (h_l_1 : H_cascadelaw28_few_1 xat @xmap e_string m  l_1) {out} (hp : b_cascadelaw28_few_0 PP  l_1 v0 v1 v2 = some out) : (A_cascadelaw28_few_0 xat @xmap e_string m  v0 v1 v2 stk) = (O_cascadelaw28_few  m  stk) out := by
 subst hPP
 simp only [b_cascadelaw28_few_0] at hp
 unfold A_cascadelaw28_few_0
 rw [h.at_, hT]
 cbv
 first | exact h_l_1 hp stk | (have q := h_l_1 hp stk; simp only [A_cascadelaw28_few_1, h.map_cons, h.map_nil, h.mapE_nil, h.len_nil, he_e_string, he_e_uint8] at q; first | exact q | (cbv; exact q))
def b_cascadelaw28_few_1 (P : Prims)  (l_4 : T_cascadelaw28_few_4) (v0 : (List Str)) (v1 : Int) (v2 : Int) (v7 : Int) : Option (((List Str) × Int × Int × Int) ⊕ (Bool)) :=
 match P.cmp .lss v7 (P.len v0) with
 | false =>
  match l_4 v0 v1 with | none => none | some o7 => some (.inr o7)
 | true =>
  match P.cmp .lss v7 100 with
  | false =>
   match l_4 v0 v1 with | none => none | some o6 => some (.inr o6)
  | true =>
   match P.idx v0 v7 with
   | none => none
   | some a3 =>
    match P.cmp .gtr (P.slen a3) v2 with
    | false =>
     some (.inl (v0, v1, v2, P.ar .add .i64 v7 1))
    | true =>
     some (.inr false)
theorem o_cascadelaw28_few_1   (stk : Stk) (m : Nat)    (l_4 : T_cascadelaw28_few_4) (v0 : (List Str)) (v1 : Int) (v2 : Int) (v7 : Int)  (h_l_4 : H_cascadelaw28_few_4 xat @xmap e_string m  l_4) {out} (hp : b_cascadelaw28_few_1 PP  l_4 v0 v1 v2 v7 = some out) : (A_cascadelaw28_few_1 xat @xmap e_string m  v0 v1 v2 v7 stk) = (Sum.elim (fun (v0, v1, v2, v7) => (A_cascadelaw28_few_1 xat @xmap e_string m  v0 v1 v2 v7 stk)) (O_cascadelaw28_few  m  stk)) out := by
 subst hPP
 simp only [b_cascadelaw28_few_1] at hp
 unfold A_cascadelaw28_few_1
 rw [h.at_, hT]
 cbv
 try simp only [h.len]
 cases c1 : xcmp .lss v7 (plen v0) with
 | false =>
  simp only [c1] at hp ⊢
  cbv
  cases c : l_4 v0 v1 with
  | none => simp only [c] at hp; cases hp
  | some o7 =>
   simp only [c] at hp
   cases hp
   first | exact h_l_4 c stk | (have q := h_l_4 c stk; simp only [A_cascadelaw28_few_4, h.map_cons, h.map_nil, h.mapE_nil, h.len_nil, he_e_string, he_e_uint8] at q; first | exact q | (cbv; exact q))
 | true =>
  simp only [c1] at hp ⊢
  cbv
  cases c2 : xcmp .lss v7 100 with
  | false =>
   simp only [c2] at hp ⊢
   cbv
   cases c : l_4 v0 v1 with
   | none => simp only [c] at hp; cases hp
   | some o6 =>
    simp only [c] at hp
    cases hp
    first | exact h_l_4 c stk | (have q := h_l_4 c stk; simp only [A_cascadelaw28_few_4, h.map_cons, h.map_nil, h.mapE_nil, h.len_nil, he_e_string, he_e_uint8] at q; first | exact q | (cbv; exact q))
  | true =>
   simp only [c2] at hp ⊢
   cbv
   rw [h.at_, hT]
   cbv
   cases c4 : pidx v0 v7 with
   | none => simp only [c4] at hp; cases hp
   | some a3 =>
    simp only [c4] at hp
    obtain ⟨q1, q2⟩ := h.idx e_string c4
    simp only [he_e_string] at q2
    simp only [q1, Bool.false_eq_true, if_false]
    cbv
    try simp only [q2]
    cbv
    try simp only [h.slen]
    cases c5 : xcmp .gtr (pslen a3) v2 with
    | false =>
     simp only [c5] at hp ⊢
     cbv
     rw [h.at_, hT]
     cbv
     cases hp
     all_goals first | rfl | (cbv; done)
    | true =>
     simp only [c5] at hp ⊢
     cbv
     cases hp
     all_goals first | rfl | (cbv; done)
def b_cascadelaw28_few_4 (P : Prims)   (v0 : (List Str)) (v1 : Int) : Option (Bool) :=
 some (P.cmp .leq (P.len v0) v1)
theorem o_cascadelaw28_few_4   (stk : Stk) (m : Nat)     (v0 : (List Str)) (v1 : Int)   {out} (hp : b_cascadelaw28_few_4 PP   v0 v1 = some out) : (A_cascadelaw28_few_4 xat @xmap e_string m  v0 v1 stk) = (O_cascadelaw28_few  m  stk) out := by
 subst hPP
 simp only [b_cascadelaw28_few_4] at hp
 unfold A_cascadelaw28_few_4
 rw [h.at_, hT]
 cbv
 try simp only [h.len]
 cases hp
 all_goals first | rfl | (cbv; done)
def b_parts_Part_0 (P : Prims) (c_strconv_Itoa : Int → Option (Str))  (v0 : Str) : Option (Str × Int) :=
 match P.cmp .gtr (P.slen v0) 16777216 with
 | false =>
  match c_strconv_Itoa (P.slen v0) with
  | none => none
  | some r2_0 =>
   match P.scat [45, 45, 99, 117, 116, 13, 10, 67, 111, 110, 116, 101, 110, 116, 45, 84, 121, 112, 101, 58, 32, 97, 112, 112, 108, 105, 99, 97, 116, 105, 111, 110, 47, 106, 115, 111, 110, 13, 10, 67, 111, 110, 116, 101, 110, 116, 45, 76, 101, 110, 103, 116, 104, 58, 32] r2_0 with
   | none => none
   | some s4 =>
    match P.scat s4 [13, 10, 13, 10] with
    | none => none
    | some s6 =>
     match P.scat s6 v0 with
     | none => none
     | some s8 =>
      match P.scat s8 [13, 10] with
      | none => none
      | some s10 =>
       some (s10, 0)
 | true =>
  some ([], 6)
theorem o_parts_Part_0 (c_strconv_Itoa : Int → Option (Str)) (h_strconv_Itoa : (C_strconv_Itoa xpcall xfcall c_strconv_Itoa)) (stk : Stk) (m : Nat)     (v0 : Str)   {out} (hp : b_parts_Part_0 PP c_strconv_Itoa  v0 = some out) : (A_parts_Part_0 xat m  v0 stk) = (O_parts_Part  m  stk) out := by
 subst hPP
 simp only [b_parts_Part_0] at hp
 unfold A_parts_Part_0
 rw [h.at_, hT]
 cbv
 try simp only [h.slen]
 cases c1 : xcmp .gtr (pslen v0) 16777216 with
 | false =>
  simp only [c1] at hp ⊢
  cbv
  rw [h.at_, hT]
  cbv
  try simp only [h.slen]
  cases c3 : c_strconv_Itoa (pslen v0) with
  | none => simp only [c3] at hp; cases hp
  | some r2_0 =>
   simp only [c3] at hp
   have qc := fun s => (h_strconv_Itoa c3 s).1
   simp only [qc]
   cbv
   cases c5 : pscat [45, 45, 99, 117, 116, 13, 10, 67, 111, 110, 116, 101, 110, 116, 45, 84, 121, 112, 101, 58, 32, 97, 112, 112, 108, 105, 99, 97, 116, 105, 111, 110, 47, 106, 115, 111, 110, 13, 10, 67, 111, 110, 116, 101, 110, 116, 45, 76, 101, 110, 103, 116, 104, 58, 32] r2_0 with
   | none => simp only [c5] at hp; cases hp
   | some s4 =>
    simp only [c5] at hp
    obtain ⟨q1, q2⟩ := h.scat c5
    simp only [q1, q2, if_true]
    cbv
    cases c7 : pscat s4 [13, 10, 13, 10] with
    | none => simp only [c7] at hp; cases hp
    | some s6 =>
     simp only [c7] at hp
     obtain ⟨q1, q2⟩ := h.scat c7
     simp only [q1, q2, if_true]
     cbv
     cases c9 : pscat s6 v0 with
     | none => simp only [c9] at hp; cases hp
     | some s8 =>
      simp only [c9] at hp
      obtain ⟨q1, q2⟩ := h.scat c9
      simp only [q1, q2, if_true]
      cbv
      cases c11 : pscat s8 [13, 10] with
      | none => simp only [c11] at hp; cases hp
      | some s10 =>
       simp only [c11] at hp
       obtain ⟨q1, q2⟩ := h.scat c11
       simp only [q1, q2, if_true]
       cbv
       cases hp
       all_goals first | rfl | (cbv; done)
 | true =>
  simp only [c1] at hp ⊢
  cbv
  cases hp
  all_goals first | rfl | (cbv; done)
def b_parts_Whole_0 (P : Prims) (c_parts_Part : Str → Option (Str × Int)) (c_strings_Builder_WriteString : Str → Str → Option (Str × Int)) (c_parts_End : Option (Str)) (c_strings_Builder_String : Str → Option Str) (l_1 : T_parts_Whole_1) (v0 : (List Str)) : Option (Str × Int) :=
 l_1 v0 (P.len v0) 0 false 0 []
theorem o_parts_Whole_0 (c_parts_Part : Str → Option (Str × Int)) (c_strings_Builder_WriteString : Str → Str → Option (Str × Int)) (c_parts_End : Option (Str)) (c_strings_Builder_String : Str → Option Str) (h_parts_Part : (C_parts_Part xpcall xfcall c_parts_Part)) (h_strings_Builder_WriteString : (C_strings_Builder_WriteString xfcall c_strings_Builder_WriteString)) (h_parts_End : (C_parts_End xpcall xfcall c_parts_End)) (h_strings_Builder_String : (C_strings_Builder_String xfcall c_strings_Builder_String)) (stk : Stk) (m : Nat)    (l_1 : T_parts_Whole_1) (v0 : (List Str))  (h_l_1 : H_parts_Whole_1 xat @xmap e_string m  l_1) {out} (hp : b_parts_Whole_0 PP c_parts_Part c_strings_Builder_WriteString c_parts_End c_strings_Builder_String l_1 v0 = some out) : (A_parts_Whole_0 xat @xmap e_string m  v0 stk) = (O_parts_Whole  m  stk) out := by
 subst hPP
 simp only [b_parts_Whole_0] at hp
 unfold A_parts_Whole_0
 rw [h.at_, hT]
 cbv
 try simp only [h.len]
 first | exact h_l_1 hp stk | (have q := h_l_1 hp stk; simp only [A_parts_Whole_1, h.map_cons, h.map_nil, h.mapE_nil, h.len_nil, he_e_string, he_e_uint8] at q; first | exact q | (cbv; exact q))
def b_parts_Whole_1 (P : Prims) (c_parts_Part : Str → Option (Str × Int)) (c_strings_Builder_WriteString : Str → Str → Option (Str × Int)) (c_parts_End : Option (Str)) (c_strings_Builder_String : Str → Option Str)  (v9 : (List Str)) (v10 : Int) (v11 : Int) (o4_u : Bool) (o4_1_g : Nat) (o4_1_s : Str) : Option (((List Str) × Int × Int × Bool × Nat × Str) ⊕ (Str × Int)) :=
 match P.cmp .lss v11 v10 with
 | false =>
  match c_parts_End with
  | none => none
  | some r11_0 =>
   match c_strings_Builder_WriteString o4_1_s r11_0 with
   | none => none
   | some (s13, s13_n) =>
    match c_strings_Builder_String s13 with
    | none => none
    | some s15 =>
     some (.inr (s15, 0))
 | true =>
  match P.idx v9 v11 with
  | none => none
  | some a2 =>
   match c_parts_Part a2 with
   | none => none
   | some (r4_0, r4_1) =>
    match P.cmp .neq r4_1 0 with
    | false =>
     match c_strings_Builder_WriteString o4_1_s r4_0 with
     | none => none
     | some (s7, s7_n) =>
      some (.inl (v9, v10, P.ar .add .i64 v11 1, true, o4_1_g + 1, s7))
    | true =>
     some (.inr ([], r4_1))
theorem o_parts_Whole_1 (c_parts_Part : Str → Option (Str × Int)) (c_strings_Builder_WriteString : Str → Str → Option (Str × Int)) (c_parts_End : Option (Str)) (c_strings_Builder_String : Str → Option Str) (h_parts_Part : (C_parts_Part xpcall xfcall c_parts_Part)) (h_strings_Builder_WriteString : (C_strings_Builder_WriteString xfcall c_strings_Builder_WriteString)) (h_parts_End : (C_parts_End xpcall xfcall c_parts_End)) (h_strings_Builder_String : (C_strings_Builder_String xfcall c_strings_Builder_String)) (stk : Stk) (m : Nat)     (v9 : (List Str)) (v10 : Int) (v11 : Int) (o4_u : Bool) (o4_1_g : Nat) (o4_1_s : Str)   {out} (hp : b_parts_Whole_1 PP c_parts_Part c_strings_Builder_WriteString c_parts_End c_strings_Builder_String  v9 v10 v11 o4_u o4_1_g o4_1_s = some out) : (A_parts_Whole_1 xat @xmap e_string m  v9 v10 v11 o4_u o4_1_g o4_1_s stk) = (Sum.elim (fun (v9, v10, v11, o4_u, o4_1_g, o4_1_s) => (A_parts_Whole_1 xat @xmap e_string m  v9 v10 v11 o4_u o4_1_g o4_1_s stk)) (O_parts_Whole  m  stk)) out := by
 subst hPP
 simp only [b_parts_Whole_1] at hp
 unfold A_parts_Whole_1
 rw [h.at_, hT]
 cbv
 cases c1 : xcmp .lss v11 v10 with
 | false =>
  simp only [c1] at hp ⊢
  cbv
  rw [h.at_, hT]
  cbv
  cases c12 : c_parts_End with
  | none => simp only [c12] at hp; cases hp
  | some r11_0 =>
   simp only [c12] at hp
   have qc := fun s => (h_parts_End c12 s).1
   simp only [qc]
   cbv
   cases c14 : c_strings_Builder_WriteString o4_1_s r11_0 with
   | none => simp only [c14] at hp; cases hp
   | some y17 =>
    obtain ⟨s13, s13_n⟩ := y17
    simp only [c14] at hp
    have qc := h_strings_Builder_WriteString c14 (⟨m, [([4], (.bld 42 o4_u (.msl ⟨m, [4, 1]⟩ o4_1_g 0 0))), ([4, 1], (.hid 5 o4_1_g o4_1_s))]⟩ :: stk) ⟨m, [4]⟩ ⟨m, [4, 1]⟩ o4_u o4_1_g (by cbv) (by cbv)
    simp only [qc]
    cbv
    cases c16 : c_strings_Builder_String s13 with
    | none => simp only [c16] at hp; cases hp
    | some s15 =>
     simp only [c16] at hp
     have qc := h_strings_Builder_String c16 (⟨m, [([4], (.bld 42 true (.msl ⟨m, [4, 1]⟩ (o4_1_g + 1) 0 0))), ([4, 1], (.hid 5 (o4_1_g + 1) s13))]⟩ :: stk) ⟨m, [4]⟩ ⟨m, [4, 1]⟩ true (o4_1_g + 1) (by cbv) (by cbv)
     simp only [qc]
     cbv
     cases hp
     all_goals first | rfl | (cbv; done)
 | true =>
  simp only [c1] at hp ⊢
  cbv
  rw [h.at_, hT]
  cbv
  cases c3 : pidx v9 v11 with
  | none => simp only [c3] at hp; cases hp
  | some a2 =>
   simp only [c3] at hp
   obtain ⟨q1, q2⟩ := h.idx e_string c3
   simp only [he_e_string] at q2
   simp only [q1, Bool.false_eq_true, if_false]
   cbv
   try simp only [q2]
   cbv
   cases c5 : c_parts_Part a2 with
   | none => simp only [c5] at hp; cases hp
   | some y10 =>
    obtain ⟨r4_0, r4_1⟩ := y10
    simp only [c5] at hp
    have qc := fun s => (h_parts_Part c5 s).1
    simp only [qc]
    cbv
    cases c6 : xcmp .neq r4_1 0 with
    | false =>
     simp only [c6] at hp ⊢
     cbv
     rw [h.at_, hT]
     cbv
     cases c8 : c_strings_Builder_WriteString o4_1_s r4_0 with
     | none => simp only [c8] at hp; cases hp
     | some y9 =>
      obtain ⟨s7, s7_n⟩ := y9
      simp only [c8] at hp
      have qc := h_strings_Builder_WriteString c8 (⟨m, [([4], (.bld 42 o4_u (.msl ⟨m, [4, 1]⟩ o4_1_g 0 0))), ([4, 1], (.hid 5 o4_1_g o4_1_s))]⟩ :: stk) ⟨m, [4]⟩ ⟨m, [4, 1]⟩ o4_u o4_1_g (by cbv) (by cbv)
      simp only [qc]
      cbv
      rw [h.at_, hT]
      cbv
      cases hp
      all_goals first | rfl | (cbv; done)
    | true =>
     simp only [c6] at hp ⊢
     cbv
     cases hp
     all_goals first | rfl | (cbv; done)
def b_parts_Whole__1_0 (P : Prims) (c_parts_Part : Str → Option (Str × Int)) (c_strings_Builder_WriteString : Str → Str → Option (Str × Int)) (c_parts_End : Option (Str)) (c_strings_Builder_String : Str → Option Str) (l_1 : T_parts_Whole__1_1) (L0_g : Nat) (L0 : (List Str)) : Option (Str × Int) :=
 l_1 L0_g L0 (P.len L0) 0 false 0 []
theorem o_parts_Whole__1_0 (c_parts_Part : Str → Option (Str × Int)) (c_strings_Builder_WriteString : Str → Str → Option (Str × Int)) (c_parts_End : Option (Str)) (c_strings_Builder_String : Str → Option Str) (h_parts_Part : (C_parts_Part xpcall xfcall c_parts_Part)) (h_strings_Builder_WriteString : (C_strings_Builder_WriteString xfcall c_strings_Builder_WriteString)) (h_parts_End : (C_parts_End xpcall xfcall c_parts_End)) (h_strings_Builder_String : (C_strings_Builder_String xfcall c_strings_Builder_String)) (stk : Stk) (m : Nat) (n0 : Nat) (k0 : List Nat) (hl0 : n0 < m)  (l_1 : T_parts_Whole__1_1) (L0_g : Nat) (L0 : (List Str)) (hg0 : getO stk ⟨n0, k0⟩ = some (.arr L0_g 1 (xmap e_string L0))) (h_l_1 : H_parts_Whole__1_1 xat @xmap xlen e_string m n0 k0 l_1) {out} (hp : b_parts_Whole__1_0 PP c_parts_Part c_strings_Builder_WriteString c_parts_End c_strings_Builder_String l_1 L0_g L0 = some out) : (A_parts_Whole__1_0 xat @xmap xlen e_string m n0 k0 L0_g L0 stk) = (O_parts_Whole__1  m n0 k0 stk) out := by
 have hn0 : (n0 = m) = False := eq_false (Nat.ne_of_lt hl0)
 have hm0 : decide (n0 < m) = true := decide_eq_true hl0
 subst hPP
 simp only [b_parts_Whole__1_0] at hp
 unfold A_parts_Whole__1_0
 rw [h.at_, hT]
 cbv
 try simp only [h.len]
 try simp only [if_false, if_true, hn0, hm0]
 first | exact h_l_1 hp stk (hg0) | (have q := h_l_1 hp stk (hg0); simp only [A_parts_Whole__1_1, h.map_cons, h.map_nil, h.mapE_nil, h.len_nil, he_e_string, he_e_uint8] at q; first | exact q | (cbv; exact q))
def b_parts_Whole__1_1 (P : Prims) (c_parts_Part : Str → Option (Str × Int)) (c_strings_Builder_WriteString : Str → Str → Option (Str × Int)) (c_parts_End : Option (Str)) (c_strings_Builder_String : Str → Option Str)  (L0_g : Nat) (L0 : (List Str)) (v10 : Int) (v11 : Int) (o4_u : Bool) (o4_1_g : Nat) (o4_1_s : Str) : Option ((Int × Int × Bool × Nat × Str) ⊕ (Str × Int)) :=
 match P.cmp .lss v11 v10 with
 | false =>
  match c_parts_End with
  | none => none
  | some r12_0 =>
   match c_strings_Builder_WriteString o4_1_s r12_0 with
   | none => none
   | some (s14, s14_n) =>
    match c_strings_Builder_String s14 with
    | none => none
    | some s16 =>
     some (.inr (s16, 0))
 | true =>
  match P.idx L0 v11 with
  | none => none
  | some a3 =>
   match c_parts_Part a3 with
   | none => none
   | some (r5_0, r5_1) =>
    match P.cmp .neq r5_1 0 with
    | false =>
     match c_strings_Builder_WriteString o4_1_s r5_0 with
     | none => none
     | some (s8, s8_n) =>
      some (.inl (v10, P.ar .add .i64 v11 1, true, o4_1_g + 1, s8))
    | true =>
     some (.inr ([], r5_1))
theorem o_parts_Whole__1_1 (c_parts_Part : Str → Option (Str × Int)) (c_strings_Builder_WriteString : Str → Str → Option (Str × Int)) (c_parts_End : Option (Str)) (c_strings_Builder_String : Str → Option Str) (h_parts_Part : (C_parts_Part xpcall xfcall c_parts_Part)) (h_strings_Builder_WriteString : (C_strings_Builder_WriteString xfcall c_strings_Builder_WriteString)) (h_parts_End : (C_parts_End xpcall xfcall c_parts_End)) (h_strings_Builder_String : (C_strings_Builder_String xfcall c_strings_Builder_String)) (stk : Stk) (m : Nat) (n0 : Nat) (k0 : List Nat) (hl0 : n0 < m)   (L0_g : Nat) (L0 : (List Str)) (v10 : Int) (v11 : Int) (o4_u : Bool) (o4_1_g : Nat) (o4_1_s : Str) (hg0 : getO stk ⟨n0, k0⟩ = some (.arr L0_g 1 (xmap e_string L0)))  {out} (hp : b_parts_Whole__1_1 PP c_parts_Part c_strings_Builder_WriteString c_parts_End c_strings_Builder_String  L0_g L0 v10 v11 o4_u o4_1_g o4_1_s = some out) : (A_parts_Whole__1_1 xat @xmap xlen e_string m n0 k0 L0_g L0 v10 v11 o4_u o4_1_g o4_1_s stk) = (Sum.elim (fun (v10, v11, o4_u, o4_1_g, o4_1_s) => (A_parts_Whole__1_1 xat @xmap xlen e_string m n0 k0 L0_g L0 v10 v11 o4_u o4_1_g o4_1_s stk)) (O_parts_Whole__1  m n0 k0 stk)) out := by
 have hn0 : (n0 = m) = False := eq_false (Nat.ne_of_lt hl0)
 have hm0 : decide (n0 < m) = true := decide_eq_true hl0
 subst hPP
 simp only [b_parts_Whole__1_1] at hp
 unfold A_parts_Whole__1_1
 rw [h.at_, hT]
 cbv
 cases c1 : xcmp .lss v11 v10 with
 | false =>
  simp only [c1] at hp ⊢
  cbv
  try simp only [if_false, if_true, hn0, hm0]
  try cbv
  rw [h.at_, hT]
  cbv
  cases c13 : c_parts_End with
  | none => simp only [c13] at hp; cases hp
  | some r12_0 =>
   simp only [c13] at hp
   have qc := fun s => (h_parts_End c13 s).1
   simp only [qc]
   cbv
   cases c15 : c_strings_Builder_WriteString o4_1_s r12_0 with
   | none => simp only [c15] at hp; cases hp
   | some y18 =>
    obtain ⟨s14, s14_n⟩ := y18
    simp only [c15] at hp
    have qc := h_strings_Builder_WriteString c15 (⟨m, [([4], (.bld 42 o4_u (.msl ⟨m, [4, 1]⟩ o4_1_g 0 0))), ([4, 1], (.hid 5 o4_1_g o4_1_s))]⟩ :: stk) ⟨m, [4]⟩ ⟨m, [4, 1]⟩ o4_u o4_1_g (by cbv) (by cbv)
    simp only [qc]
    cbv
    cases c17 : c_strings_Builder_String s14 with
    | none => simp only [c17] at hp; cases hp
    | some s16 =>
     simp only [c17] at hp
     have qc := h_strings_Builder_String c17 (⟨m, [([4], (.bld 42 true (.msl ⟨m, [4, 1]⟩ (o4_1_g + 1) 0 0))), ([4, 1], (.hid 5 (o4_1_g + 1) s14))]⟩ :: stk) ⟨m, [4]⟩ ⟨m, [4, 1]⟩ true (o4_1_g + 1) (by cbv) (by cbv)
     simp only [qc]
     cbv
     cases hp
     try simp only [if_false, if_true, hn0, hm0]
     all_goals first | rfl | (cbv; done)
 | true =>
  simp only [c1] at hp ⊢
  cbv
  try simp only [if_false, if_true, hn0, hm0]
  try cbv
  rw [h.at_, hT]
  cbv
  cases c4 : pidx L0 v11 with
  | none => simp only [c4] at hp; cases hp
  | some a3 =>
   simp only [c4] at hp
   obtain ⟨q1, q2, q3, w2⟩ := h.idxm e_string c4
   simp only [he_e_string] at w2
   simp only [q1, Bool.false_eq_true, if_false]
   cbv
   simp only [if_false, if_true, hn0, hm0, hg0]
   cbv
   simp only [q2, q3, if_true]
   cbv
   simp only [if_false, if_true, hn0, hm0, hg0]
   cbv
   simp only [w2]
   cbv
   cases c6 : c_parts_Part a3 with
   | none => simp only [c6] at hp; cases hp
   | some y11 =>
    obtain ⟨r5_0, r5_1⟩ := y11
    simp only [c6] at hp
    have qc := fun s => (h_parts_Part c6 s).1
    simp only [qc]
    cbv
    cases c7 : xcmp .neq r5_1 0 with
    | false =>
     simp only [c7] at hp ⊢
     cbv
     try simp only [if_false, if_true, hn0, hm0]
     try cbv
     rw [h.at_, hT]
     cbv
     cases c9 : c_strings_Builder_WriteString o4_1_s r5_0 with
     | none => simp only [c9] at hp; cases hp
     | some y10 =>
      obtain ⟨s8, s8_n⟩ := y10
      simp only [c9] at hp
      have qc := h_strings_Builder_WriteString c9 (⟨m, [([4], (.bld 42 o4_u (.msl ⟨m, [4, 1]⟩ o4_1_g 0 0))), ([4, 1], (.hid 5 o4_1_g o4_1_s))]⟩ :: stk) ⟨m, [4]⟩ ⟨m, [4, 1]⟩ o4_u o4_1_g (by cbv) (by cbv)
      simp only [qc]
      cbv
      try simp only [if_false, if_true, hn0, hm0]
      try cbv
      rw [h.at_, hT]
      cbv
      cases hp
      try simp only [if_false, if_true, hn0, hm0]
      all_goals first | rfl | (cbv; done) | (simp only [h.nadd0, h.nle_refl, h.cut_all, h.cut_nil, h.map_cons, h.map_nil, h.mapE_nil, h.len_nil, he_e_string, he_e_uint8, O_parts_Whole__1, A_parts_Whole__1_1, if_true]; done) | (simp only [h.nadd0, h.nle_refl, h.cut_all, h.cut_nil, h.map_cons, h.map_nil, h.mapE_nil, h.len_nil, he_e_string, he_e_uint8, O_parts_Whole__1, A_parts_Whole__1_1, if_true]; first | rfl | (cbv; done) | (cbv; simp only [h.map_cons, h.map_nil, h.mapE_nil, h.len_nil, he_e_string, he_e_uint8, O_parts_Whole__1, A_parts_Whole__1_1]; done))
    | true =>
     simp only [c7] at hp ⊢
     cbv
     cases hp
     try simp only [if_false, if_true, hn0, hm0]
     all_goals first | rfl | (cbv; done)
def b_cascadelaw28_PartsTwo_0 (P : Prims) (c_cascadelaw28_awake : Option (Bool)) (c_cascadelaw28_few : (List Str) → Int → Int → Option (Bool)) (c_parts_Whole : (List Str) → Option (Str × Int)) (c_parts_Whole__1 : Nat → (List Str) → Option (Str × Int)) (c_parts_End : Option (Str))  (v0 : (List Str)) (v1 : (List Str)) : Option (Bool) :=
 match c_cascadelaw28_awake with
 | none => none
 | some r1_0 =>
  match r1_0 with
  | false =>
   some r1_0
  | true =>
   match c_cascadelaw28_few v0 10 200 with
   | none => none
   | some r4_0 =>
    match r4_0 with
    | false =>
     some r1_0
    | true =>
     match c_cascadelaw28_few v1 10 200 with
     | none => none
     | some r7_0 =>
      match r7_0 with
      | false =>
       some r1_0
      | true =>
       match P.app 16 ([] : List Str) v0 with
       | none => none
       | some l10 =>
        match P.app 16 l10 v1 with
        | none => none
        | some l12 =>
         match c_parts_Whole v0 with
         | none => none
         | some (r14_0, r14_1) =>
          match c_parts_Whole v1 with
          | none => none
          | some (r16_0, r16_1) =>
           match c_parts_Whole__1 2 l12 with
           | none => none
           | some (r18_0, r18_1) =>
            match c_parts_End with
            | none => none
            | some r20_0 =>
             match P.cmp .eql r14_1 0 with
             | false =>
              some false
             | true =>
              match P.cmp .eql r16_1 0 with
              | false =>
               some false
              | true =>
               match P.cmp .eql r18_1 0 with
               | false =>
                some false
               | true =>
                match P.cmp .geq (P.ar .sub .i64 (P.slen r14_0) (P.slen r20_0)) 0 with
                | false =>
                 some false
                | true =>
                 match P.ssub r14_0 none (some (P.ar .sub .i64 (P.slen r14_0) (P.slen r20_0))) with
                 | none => none
                 | some s26 =>
                  match P.scat s26 r16_0 with
                  | none => none
                  | some s28 =>
                   some (P.seq r18_0 s28)
theorem o_cascadelaw28_PartsTwo_0 (c_cascadelaw28_awake : Option (Bool)) (c_cascadelaw28_few : (List Str) → Int → Int → Option (Bool)) (c_parts_Whole : (List Str) → Option (Str × Int)) (c_parts_Whole__1 : Nat → (List Str) → Option (Str × Int)) (c_parts_End : Option (Str)) (h_cascadelaw28_awake : (C_cascadelaw28_awake xpcall xfcall c_cascadelaw28_awake)) (h_cascadelaw28_few : (C_cascadelaw28_few xpcall xfcall @xmap e_string c_cascadelaw28_few)) (h_parts_Whole : (C_parts_Whole xpcall xfcall @xmap e_string c_parts_Whole)) (h_parts_Whole__1 : (C_parts_Whole__1 xpcall xfcall @xmap xlen e_string c_parts_Whole__1)) (h_parts_End : (C_parts_End xpcall xfcall c_parts_End)) (stk : Stk) (m : Nat)     (v0 : (List Str)) (v1 : (List Str))   {out} (hp : b_cascadelaw28_PartsTwo_0 PP c_cascadelaw28_awake c_cascadelaw28_few c_parts_Whole c_parts_Whole__1 c_parts_End  v0 v1 = some out) : (A_cascadelaw28_PartsTwo_0 xat @xmap e_string m  v0 v1 stk) = (O_cascadelaw28_PartsTwo  m  stk) out := by
 subst hPP
 simp only [b_cascadelaw28_PartsTwo_0] at hp
 unfold A_cascadelaw28_PartsTwo_0
 rw [h.at_, hT]
 cbv
 cases c2 : c_cascadelaw28_awake with
 | none => simp only [c2] at hp; cases hp
 | some r1_0 =>
  simp only [c2] at hp
  have qc := fun s => (h_cascadelaw28_awake c2 s).1
  simp only [qc]
  cbv
  cases r1_0 with
  | false =>
   simp only at hp
   cbv
   have qc := fun s => (h_cascadelaw28_awake c2 s).1
   simp only [qc]
   cbv
   cases hp
   all_goals first | rfl | (cbv; done)
  | true =>
   simp only at hp
   cbv
   cases c5 : c_cascadelaw28_few v0 10 200 with
   | none => simp only [c5] at hp; cases hp
   | some r4_0 =>
    simp only [c5] at hp
    have qc := fun s => (h_cascadelaw28_few c5 s).1
    simp only [qc]
    cbv
    cases r4_0 with
    | false =>
     simp only at hp
     cbv
     have qc := fun s => (h_cascadelaw28_awake c2 s).1
     simp only [qc]
     cbv
     cases hp
     all_goals first | rfl | (cbv; done)
    | true =>
     simp only at hp
     cbv
     cases c8 : c_cascadelaw28_few v1 10 200 with
     | none => simp only [c8] at hp; cases hp
     | some r7_0 =>
      simp only [c8] at hp
      have qc := fun s => (h_cascadelaw28_few c8 s).1
      simp only [qc]
      cbv
      cases r7_0 with
      | false =>
       simp only at hp
       cbv
       have qc := fun s => (h_cascadelaw28_awake c2 s).1
       simp only [qc]
       cbv
       cases hp
       all_goals first | rfl | (cbv; done)
      | true =>
       simp only at hp
       cbv
       rw [h.at_, hT]
       cbv
       try simp only [hz_e_string, if_true]
       cbv
       cases c11 : papp 16 ([] : List Str) v0 with
       | none => simp only [c11] at hp; cases hp
       | some l10 =>
        simp only [c11] at hp
        obtain ⟨q1, q2, q3⟩ := h.app e_string c11 rfl
        simp only [h.map_cons, h.map_nil, h.len_nil, he_e_string] at q1 q2 q3
        try simp only [h.len_nil]
        cbv
        simp only [q1, q2, q3, if_true]
        cbv
        try simp only [hz_e_string, if_true]
        cbv
        cases c13 : papp 16 l10 v1 with
        | none => simp only [c13] at hp; cases hp
        | some l12 =>
         simp only [c13] at hp
         obtain ⟨q1, q2, q3⟩ := h.app e_string c13 rfl
         try simp only [h.len_nil]
         cbv
         simp only [q1, q2, q3, if_true]
         cbv
         cases c15 : c_parts_Whole v0 with
         | none => simp only [c15] at hp; cases hp
         | some y32 =>
          obtain ⟨r14_0, r14_1⟩ := y32
          simp only [c15] at hp
          have qc := fun s => (h_parts_Whole c15 s).1
          simp only [qc]
          cbv
          cases c17 : c_parts_Whole v1 with
          | none => simp only [c17] at hp; cases hp
          | some y31 =>
           obtain ⟨r16_0, r16_1⟩ := y31
           simp only [c17] at hp
           have qc := fun s => (h_parts_Whole c17 s).1
           simp only [qc]
           cbv
           cases c19 : c_parts_Whole__1 2 l12 with
           | none => simp only [c19] at hp; cases hp
           | some y30 =>
            obtain ⟨r18_0, r18_1⟩ := y30
            simp only [c19] at hp
            have qc := (h_parts_Whole__1 c19 (⟨m, [([5], (.arr 2 1 (xmap e_string l12)))]⟩ :: stk) m [5] (h.gt _ _ _ _) (Nat.le_refl _)).1
            simp only [qc]
            cbv
            try simp only [h.slen]
            cases c21 : c_parts_End with
            | none => simp only [c21] at hp; cases hp
            | some r20_0 =>
             simp only [c21] at hp
             have qc := fun s => (h_parts_End c21 s).1
             simp only [qc]
             cbv
             try simp only [h.slen]
             cases c22 : xcmp .eql r14_1 0 with
             | false =>
              simp only [c22] at hp ⊢
              cbv
              cases hp
              all_goals first | rfl | (cbv; done)
             | true =>
              simp only [c22] at hp ⊢
              cbv
              cases c23 : xcmp .eql r16_1 0 with
              | false =>
               simp only [c23] at hp ⊢
               cbv
               cases hp
               all_goals first | rfl | (cbv; done)
              | true =>
               simp only [c23] at hp ⊢
               cbv
               cases c24 : xcmp .eql r18_1 0 with
               | false =>
                simp only [c24] at hp ⊢
                cbv
                cases hp
                all_goals first | rfl | (cbv; done)
               | true =>
                simp only [c24] at hp ⊢
                cbv
                cases c25 : xcmp .geq (xar .sub .i64 (pslen r14_0) (pslen r20_0)) 0 with
                | false =>
                 simp only [c25] at hp ⊢
                 cbv
                 cases hp
                 all_goals first | rfl | (cbv; done)
                | true =>
                 simp only [c25] at hp ⊢
                 cbv
                 cases c27 : pssub r14_0 none (some (xar .sub .i64 (pslen r14_0) (pslen r20_0))) with
                 | none => simp only [c27] at hp; cases hp
                 | some s26 =>
                  simp only [c27] at hp
                  obtain ⟨q0, q1, q2, q3⟩ := h.ssub0 c27
                  simp only [q0, q1, q2, q3, Bool.false_eq_true, if_false, if_true]
                  cbv
                  try simp only [q0, q1, q2, q3, if_true]
                  cbv
                  cases c29 : pscat s26 r16_0 with
                  | none => simp only [c29] at hp; cases hp
                  | some s28 =>
                   simp only [c29] at hp
                   obtain ⟨q1, q2⟩ := h.scat c29
                   simp only [q1, q2, if_true]
                   cbv
                   cases hp
                   all_goals first | rfl | (cbv; done)
def b_cascaderef05_Number_0 (P : Prims)  (l_2 : T_cascaderef05_Number_2) (v0 : Int) : Option (Str) :=
 match P.cmp .eql v0 0 with
 | false =>
  match P.cmp .lss v0 0 with
  | false =>
   l_2 v0 [] []
  | true =>
   l_2 v0 [] [45]
 | true =>
  some [48]
theorem o_cascaderef05_Number_0   (stk : Stk) (m : Nat)    (l_2 : T_cascaderef05_Number_2) (v0 : Int)  (h_l_2 : H_cascaderef05_Number_2 xat m  l_2) {out} (hp : b_cascaderef05_Number_0 PP  l_2 v0 = some out) : (A_cascaderef05_Number_0 xat m  v0 stk) = (O_cascaderef05_Number  m  stk) out := by
 subst hPP
 simp only [b_cascaderef05_Number_0] at hp
 unfold A_cascaderef05_Number_0
 rw [h.at_, hT]
 cbv
 cases c1 : xcmp .eql v0 0 with
 | false =>
  simp only [c1] at hp ⊢
  cbv
  rw [h.at_, hT]
  cbv
  cases c2 : xcmp .lss v0 0 with
  | false =>
   simp only [c2] at hp ⊢
   cbv
   first | exact h_l_2 hp stk | (have q := h_l_2 hp stk; simp only [A_cascaderef05_Number_2, h.map_cons, h.map_nil, h.mapE_nil, h.len_nil, he_e_string, he_e_uint8] at q; first | exact q | (cbv; exact q))
  | true =>
   simp only [c2] at hp ⊢
   cbv
   first | exact h_l_2 hp stk | (have q := h_l_2 hp stk; simp only [A_cascaderef05_Number_2, h.map_cons, h.map_nil, h.mapE_nil, h.len_nil, he_e_string, he_e_uint8] at q; first | exact q | (cbv; exact q))
 | true =>
  simp only [c1] at hp ⊢
  cbv
  cases hp
  all_goals first | rfl | (cbv; done)
def b_cascaderef05_Number_2 (P : Prims)  (l_3 : T_cascaderef05_Number_3) (v0 : Int) (v3 : Str) (v4 : Str) : Option (Str) :=
 l_3 v0 v3 v4 0
theorem o_cascaderef05_Number_2   (stk : Stk) (m : Nat)    (l_3 : T_cascaderef05_Number_3) (v0 : Int) (v3 : Str) (v4 : Str)  (h_l_3 : H_cascaderef05_Number_3 xat m  l_3) {out} (hp : b_cascaderef05_Number_2 PP  l_3 v0 v3 v4 = some out) : (A_cascaderef05_Number_2 xat m  v0 v3 v4 stk) = (O_cascaderef05_Number  m  stk) out := by
 subst hPP
 simp only [b_cascaderef05_Number_2] at hp
 unfold A_cascaderef05_Number_2
 rw [h.at_, hT]
 cbv
 first | exact h_l_3 hp stk | (have q := h_l_3 hp stk; simp only [A_cascaderef05_Number_3, h.map_cons, h.map_nil, h.mapE_nil, h.len_nil, he_e_string, he_e_uint8] at q; first | exact q | (cbv; exact q))
def b_cascaderef05_Number_3 (P : Prims)  (l_5 : T_cascaderef05_Number_5) (l_7 : T_cascaderef05_Number_7) (v0 : Int) (v3 : Str) (v4 : Str) (v5 : Int) : Option ((Int × Str × Str × Int) ⊕ (Str)) :=
 match P.cmp .lss v5 20 with
 | false =>
  match l_7 v3 v4 with | none => none | some o9 => some (.inr o9)
 | true =>
  match P.cmp .neq v0 0 with
  | false =>
   match l_7 v3 v4 with | none => none | some o8 => some (.inr o8)
  | true =>
   match P.quo .rem .i64 v0 10 with
   | none => none
   | some n5 =>
    match P.cmp .lss n5 0 with
    | false =>
     l_5 v0 v3 v4 v5 n5
    | true =>
     l_5 v0 v3 v4 v5 (P.ar .sub .i64 0 n5)
theorem o_cascaderef05_Number_3   (stk : Stk) (m : Nat)    (l_5 : T_cascaderef05_Number_5) (l_7 : T_cascaderef05_Number_7) (v0 : Int) (v3 : Str) (v4 : Str) (v5 : Int)  (h_l_5 : H_cascaderef05_Number_5 xat m  l_5) (h_l_7 : H_cascaderef05_Number_7 xat m  l_7) {out} (hp : b_cascaderef05_Number_3 PP  l_5 l_7 v0 v3 v4 v5 = some out) : (A_cascaderef05_Number_3 xat m  v0 v3 v4 v5 stk) = (Sum.elim (fun (v0, v3, v4, v5) => (A_cascaderef05_Number_3 xat m  v0 v3 v4 v5 stk)) (O_cascaderef05_Number  m  stk)) out := by
 subst hPP
 simp only [b_cascaderef05_Number_3] at hp
 unfold A_cascaderef05_Number_3
 rw [h.at_, hT]
 cbv
 cases c3 : xcmp .lss v5 20 with
 | false =>
  simp only [c3] at hp ⊢
  cbv
  cases c : l_7 v3 v4 with
  | none => simp only [c] at hp; cases hp
  | some o9 =>
   simp only [c] at hp
   cases hp
   first | exact h_l_7 c stk | (have q := h_l_7 c stk; simp only [A_cascaderef05_Number_7, h.map_cons, h.map_nil, h.mapE_nil, h.len_nil, he_e_string, he_e_uint8] at q; first | exact q | (cbv; exact q))
 | true =>
  simp only [c3] at hp ⊢
  cbv
  cases c4 : xcmp .neq v0 0 with
  | false =>
   simp only [c4] at hp ⊢
   cbv
   cases c : l_7 v3 v4 with
   | none => simp only [c] at hp; cases hp
   | some o8 =>
    simp only [c] at hp
    cases hp
    first | exact h_l_7 c stk | (have q := h_l_7 c stk; simp only [A_cascaderef05_Number_7, h.map_cons, h.map_nil, h.mapE_nil, h.len_nil, he_e_string, he_e_uint8] at q; first | exact q | (cbv; exact q))
  | true =>
   simp only [c4] at hp ⊢
   cbv
   rw [h.at_, hT]
   cbv
   cases c6 : pquo .rem .i64 v0 10 with
   | none => simp only [c6] at hp; cases hp
   | some n5 =>
    simp only [c6] at hp
    obtain ⟨q1, q2⟩ := h.quo c6
    simp only [q1, q2, Bool.false_eq_true, if_false]
    cbv
    cases c7 : xcmp .lss n5 0 with
    | false =>
     simp only [c7] at hp ⊢
     cbv
     first | exact h_l_5 hp stk | (have q := h_l_5 hp stk; simp only [A_cascaderef05_Number_5, h.map_cons, h.map_nil, h.mapE_nil, h.len_nil, he_e_string, he_e_uint8] at q; first | exact q | (cbv; exact q))
    | true =>
     simp only [c7] at hp ⊢
     cbv
     first | exact h_l_5 hp stk | (have q := h_l_5 hp stk; simp only [A_cascaderef05_Number_5, h.map_cons, h.map_nil, h.mapE_nil, h.len_nil, he_e_string, he_e_uint8] at q; first | exact q | (cbv; exact q))
def b_cascaderef05_Number_5 (P : Prims)   (v0 : Int) (v3 : Str) (v4 : Str) (v5 : Int) (v6 : Int) : Option ((Int × Str × Str × Int) ⊕ (Str)) :=
 match P.scat (P.ofBytes [P.wrap .u8 (P.ar .add .i64 48 v6)]) v3 with
 | none => none
 | some s10 =>
  match P.quo .quo .i64 v0 10 with
  | none => none
  | some n12 =>
   some (.inl (n12, s10, v4, P.ar .add .i64 v5 1))
theorem o_cascaderef05_Number_5   (stk : Stk) (m : Nat)     (v0 : Int) (v3 : Str) (v4 : Str) (v5 : Int) (v6 : Int)   {out} (hp : b_cascaderef05_Number_5 PP   v0 v3 v4 v5 v6 = some out) : (A_cascaderef05_Number_5 xat m  v0 v3 v4 v5 v6 stk) = (Sum.elim (fun (v0, v3, v4, v5) => (A_cascaderef05_Number_3 xat m  v0 v3 v4 v5 stk)) (O_cascaderef05_Number  m  stk)) out := by
 subst hPP
 simp only [b_cascaderef05_Number_5] at hp
 unfold A_cascaderef05_Number_5
 rw [h.at_, hT]
 cbv
 simp only [h.allsz_nil, h.allsz_cons]
 cbv
 have qb := h.ofBytes e_uint8 he_e_uint8 [xwrap .u8 (xar .add .i64 48 v6)]
 try simp only [h.map_cons, h.map_nil, he_e_uint8] at qb
 simp only [qb]
 cbv
 cases c11 : pscat (pofBytes [xwrap .u8 (xar .add .i64 48 v6)]) v3 with
 | none => simp only [c11] at hp; cases hp
 | some s10 =>
  simp only [c11] at hp
  obtain ⟨q1, q2⟩ := h.scat c11
  simp only [q1, q2, if_true]
  cbv
  cases c13 : pquo .quo .i64 v0 10 with
  | none => simp only [c13] at hp; cases hp
  | some n12 =>
   simp only [c13] at hp
   obtain ⟨q1, q2⟩ := h.quo c13
   simp only [q1, q2, Bool.false_eq_true, if_false]
   cbv
   rw [h.at_, hT]
   cbv
   cases hp
   all_goals first | rfl | (cbv; done)
def b_cascaderef05_Number_7 (P : Prims)   (v3 : Str) (v4 : Str) : Option (Str) :=
 match P.scat v4 v3 with
 | none => none
 | some s14 =>
  some s14
theorem o_cascaderef05_Number_7   (stk : Stk) (m : Nat)     (v3 : Str) (v4 : Str)   {out} (hp : b_cascaderef05_Number_7 PP   v3 v4 = some out) : (A_cascaderef05_Number_7 xat m  v3 v4 stk) = (O_cascaderef05_Number  m  stk) out := by
 subst hPP
 simp only [b_cascaderef05_Number_7] at hp
 unfold A_cascaderef05_Number_7
 rw [h.at_, hT]
 cbv
 cases c15 : pscat v4 v3 with
 | none => simp only [c15] at hp; cases hp
 | some s14 =>
  simp only [c15] at hp
  obtain ⟨q1, q2⟩ := h.scat c15
  simp only [q1, q2, if_true]
  cbv
  cases hp
  all_goals first | rfl | (cbv; done)
def b_cascaderef28_Part_0 (P : Prims) (c_cascaderef05_Number : Int → Option (Str))  (v0 : Str) : Option (Str) :=
 match c_cascaderef05_Number (P.slen v0) with
 | none => none
 | some r1_0 =>
  match P.scat [45, 45, 99, 117, 116, 13, 10, 67, 111, 110, 116, 101, 110, 116, 45, 84, 121, 112, 101, 58, 32, 97, 112, 112, 108, 105, 99, 97, 116, 105, 111, 110, 47, 106, 115, 111, 110, 13, 10, 67, 111, 110, 116, 101, 110, 116, 45, 76, 101, 110, 103, 116, 104, 58, 32] r1_0 with
  | none => none
  | some s3 =>
   match P.scat s3 [13, 10, 13, 10] with
   | none => none
   | some s5 =>
    match P.scat s5 v0 with
    | none => none
    | some s7 =>
     match P.scat s7 [13, 10] with
     | none => none
     | some s9 =>
      some s9
theorem o_cascaderef28_Part_0 (c_cascaderef05_Number : Int → Option (Str)) (h_cascaderef05_Number : (C_cascaderef05_Number xpcall xfcall c_cascaderef05_Number)) (stk : Stk) (m : Nat)     (v0 : Str)   {out} (hp : b_cascaderef28_Part_0 PP c_cascaderef05_Number  v0 = some out) : (A_cascaderef28_Part_0 xat m  v0 stk) = (O_cascaderef28_Part  m  stk) out := by
 subst hPP
 simp only [b_cascaderef28_Part_0] at hp
 unfold A_cascaderef28_Part_0
 rw [h.at_, hT]
 cbv
 try simp only [h.slen]
 cases c2 : c_cascaderef05_Number (pslen v0) with
 | none => simp only [c2] at hp; cases hp
 | some r1_0 =>
  simp only [c2] at hp
  have qc := fun s => (h_cascaderef05_Number c2 s).1
  simp only [qc]
  cbv
  cases c4 : pscat [45, 45, 99, 117, 116, 13, 10, 67, 111, 110, 116, 101, 110, 116, 45, 84, 121, 112, 101, 58, 32, 97, 112, 112, 108, 105, 99, 97, 116, 105, 111, 110, 47, 106, 115, 111, 110, 13, 10, 67, 111, 110, 116, 101, 110, 116, 45, 76, 101, 110, 103, 116, 104, 58, 32] r1_0 with
  | none => simp only [c4] at hp; cases hp
  | some s3 =>
   simp only [c4] at hp
   obtain ⟨q1, q2⟩ := h.scat c4
   simp only [q1, q2, if_true]
   cbv
   cases c6 : pscat s3 [13, 10, 13, 10] with
   | none => simp only [c6] at hp; cases hp
   | some s5 =>
    simp only [c6] at hp
    obtain ⟨q1, q2⟩ := h.scat c6
    simp only [q1, q2, if_true]
    cbv
    cases c8 : pscat s5 v0 with
    | none => simp only [c8] at hp; cases hp
    | some s7 =>
     simp only [c8] at hp
     obtain ⟨q1, q2⟩ := h.scat c8
     simp only [q1, q2, if_true]
     cbv
     cases c10 : pscat s7 [13, 10] with
     | none => simp only [c10] at hp; cases hp
     | some s9 =>
      simp only [c10] at hp
      obtain ⟨q1, q2⟩ := h.scat c10
      simp only [q1, q2, if_true]
      cbv
      cases hp
      all_goals first | rfl | (cbv; done)
def b_parts_Reader_Feed__0_0 (P : Prims)   (v1 : Str) (L0_0 : Str) (L0_1 : Int) (L0_2 : Bool) (L0_3 : Int) : Option (Str × Int × Bool × Int) :=
 match P.scat L0_0 v1 with
 | none => none
 | some s1 =>
  some (s1, L0_1, L0_2, L0_3)
theorem o_parts_Reader_Feed__0_0   (stk : Stk) (m : Nat) (n0 : Nat) (k0 : List Nat) (hl0 : n0 < m)   (v1 : Str) (L0_0 : Str) (L0_1 : Int) (L0_2 : Bool) (L0_3 : Int) (hg0 : getO stk ⟨n0, k0⟩ = some (.cells [(.d (.str L0_0)), (.d (.int .i64 L0_1)), (.d (.bool L0_2)), (.d (.int .i64 L0_3))]))  {out} (hp : b_parts_Reader_Feed__0_0 PP   v1 L0_0 L0_1 L0_2 L0_3 = some out) : (A_parts_Reader_Feed__0_0 xat m n0 k0 v1 L0_0 L0_1 L0_2 L0_3 stk) = (O_parts_Reader_Feed__0 xsetO m n0 k0 stk) out := by
 have hn0 : (n0 = m) = False := eq_false (Nat.ne_of_lt hl0)
 have hm0 : decide (n0 < m) = true := decide_eq_true hl0
 subst hPP
 simp only [b_parts_Reader_Feed__0_0] at hp
 unfold A_parts_Reader_Feed__0_0
 rw [h.at_, hT]
 cbv
 simp only [if_false, if_true, hn0, hm0, hg0]
 cbv
 cases c2 : pscat L0_0 v1 with
 | none => simp only [c2] at hp; cases hp
 | some s1 =>
  simp only [c2] at hp
  obtain ⟨q1, q2⟩ := h.scat c2
  simp only [q1, q2, if_true]
  cbv
  try simp only [if_false, if_true, hn0, hm0, hg0]
  try cbv
  try simp only [h.set_o, h.st_, h.sb_ hl0, if_false, if_true, hn0, hm0, (h.gs (hg0) _)]
  try cbv
  cases hp
  try simp only [O_parts_Reader_Feed__0, Sum.elim_inl, Sum.elim_inr]
  try (simp only [h.so])
  try simp only [if_false, if_true, hn0, hm0]
  all_goals first | rfl | (cbv; done) | (simp only [h.nadd0, h.nle_refl, h.cut_all, h.cut_nil, h.map_cons, h.map_nil, h.mapE_nil, h.len_nil, he_e_string, he_e_uint8, O_parts_Reader_Feed__0, if_true]; done) | (simp only [h.nadd0, h.nle_refl, h.cut_all, h.cut_nil, h.map_cons, h.map_nil, h.mapE_nil, h.len_nil, he_e_string, he_e_uint8, O_parts_Reader_Feed__0, if_true]; first | rfl | (cbv; done) | (cbv; simp only [h.map_cons, h.map_nil, h.mapE_nil, h.len_nil, he_e_string, he_e_uint8, O_parts_Reader_Feed__0]; done))
def b_parts_scan_text__0_0 (P : Prims)  (l_1 : T_parts_scan_text__0_1) (v1 : Str) (L0_0 : Str) (L0_1 : Int) (L0_2 : Int) : Option (Str × Int × Int) :=
 l_1 v1 0 L0_0 L0_1 L0_2
theorem o_parts_scan_text__0_0   (stk : Stk) (m : Nat) (n0 : Nat) (k0 : List Nat) (hl0 : n0 < m)  (l_1 : T_parts_scan_text__0_1) (v1 : Str) (L0_0 : Str) (L0_1 : Int) (L0_2 : Int) (hg0 : getO stk ⟨n0, k0⟩ = some (.cells [(.d (.str L0_0)), (.d (.int .i64 L0_1)), (.d (.int .i64 L0_2))])) (h_l_1 : H_parts_scan_text__0_1 xat xsetO m n0 k0 l_1) {out} (hp : b_parts_scan_text__0_0 PP  l_1 v1 L0_0 L0_1 L0_2 = some out) : (A_parts_scan_text__0_0 xat m n0 k0 v1 L0_0 L0_1 L0_2 stk) = (O_parts_scan_text__0 xsetO m n0 k0 stk) out := by
 have hn0 : (n0 = m) = False := eq_false (Nat.ne_of_lt hl0)
 have hm0 : decide (n0 < m) = true := decide_eq_true hl0
 subst hPP
 simp only [b_parts_scan_text__0_0] at hp
 unfold A_parts_scan_text__0_0
 rw [h.at_, hT]
 cbv
 try simp only [if_false, if_true, hn0, hm0]
 first | exact h_l_1 hp stk (hg0) | (have q := h_l_1 hp stk (hg0); simp only [A_parts_scan_text__0_1, h.map_cons, h.map_nil, h.mapE_nil, h.len_nil, he_e_string, he_e_uint8] at q; first | exact q | (cbv; exact q))
def b_parts_scan_text__0_1 (P : Prims)  (l_3 : T_parts_scan_text__0_3) (v1 : Str) (v4 : Int) (L0_0 : Str) (L0_1 : Int) (L0_2 : Int) : Option ((Str × Int × Str × Int × Int) ⊕ (Str × Int × Int)) :=
 match P.cmp .lss v4 (P.slen v1) with
 | false =>
  some (.inr (L0_0, L0_1, L0_2))
 | true =>
  match P.cmp .eql L0_2 0 with
  | false =>
   some (.inr (L0_0, L0_1, L0_2))
  | true =>
   match P.cmp .eql L0_1 (P.slen L0_0) with
   | false =>
    match P.sidx L0_0 L0_1 with
    | none => none
    | some b4 =>
     match P.sidx v1 v4 with
     | none => none
     | some b6 =>
      match P.cmp .neq b4 b6 with
      | false =>
       l_3 v1 v4 L0_0 (P.ar .add .i64 L0_1 1) L0_2
      | true =>
       l_3 v1 v4 L0_0 L0_1 2
   | true =>
    l_3 v1 v4 L0_0 L0_1 1
theorem o_parts_scan_text__0_1   (stk : Stk) (m : Nat) (n0 : Nat) (k0 : List Nat) (hl0 : n0 < m)  (l_3 : T_parts_scan_text__0_3) (v1 : Str) (v4 : Int) (L0_0 : Str) (L0_1 : Int) (L0_2 : Int) (hg0 : getO stk ⟨n0, k0⟩ = some (.cells [(.d (.str L0_0)), (.d (.int .i64 L0_1)), (.d (.int .i64 L0_2))])) (h_l_3 : H_parts_scan_text__0_3 xat xsetO m n0 k0 l_3) {out} (hp : b_parts_scan_text__0_1 PP  l_3 v1 v4 L0_0 L0_1 L0_2 = some out) : (A_parts_scan_text__0_1 xat m n0 k0 v1 v4 L0_0 L0_1 L0_2 stk) = (Sum.elim (fun (v1, v4, L0_0, L0_1, L0_2) => (A_parts_scan_text__0_1 xat m n0 k0 v1 v4 L0_0 L0_1 L0_2 (xsetO stk ⟨n0, k0⟩ (.cells [(.d (.str L0_0)), (.d (.int .i64 L0_1)), (.d (.int .i64 L0_2))])))) (O_parts_scan_text__0 xsetO m n0 k0 stk)) out := by
 have hn0 : (n0 = m) = False := eq_false (Nat.ne_of_lt hl0)
 have hm0 : decide (n0 < m) = true := decide_eq_true hl0
 subst hPP
 simp only [b_parts_scan_text__0_1] at hp
 unfold A_parts_scan_text__0_1
 rw [h.at_, hT]
 cbv
 try simp only [h.slen]
 cases c1 : xcmp .lss v4 (pslen v1) with
 | false =>
  simp only [c1] at hp ⊢
  cbv
  cases hp
  try simp only [O_parts_scan_text__0, A_parts_scan_text__0_1, Sum.elim_inl, Sum.elim_inr]
  try (simp only [h.ss hg0])
  try simp only [if_false, if_true, hn0, hm0]
  all_goals first | rfl | (cbv; done)
 | true =>
  simp only [c1] at hp ⊢
  cbv
  simp only [if_false, if_true, hn0, hm0, hg0]
  cbv
  cases c2 : xcmp .eql L0_2 0 with
  | false =>
   simp only [c2] at hp ⊢
   cbv
   cases hp
   try simp only [O_parts_scan_text__0, A_parts_scan_text__0_1, Sum.elim_inl, Sum.elim_inr]
   try (simp only [h.ss hg0])
   try simp only [if_false, if_true, hn0, hm0]
   all_goals first | rfl | (cbv; done)
  | true =>
   simp only [c2] at hp ⊢
   cbv
   try simp only [if_false, if_true, hn0, hm0]
   try cbv
   rw [h.at_, hT]
   cbv
   simp only [if_false, if_true, hn0, hm0, hg0]
   cbv
   simp only [if_false, if_true, hn0, hm0, hg0]
   cbv
   try simp only [h.slen]
   cases c3 : xcmp .eql L0_1 (pslen L0_0) with
   | false =>
    simp only [c3] at hp ⊢
    cbv
    simp only [if_false, if_true, hn0, hm0, hg0]
    cbv
    simp only [if_false, if_true, hn0, hm0, hg0]
    cbv
    cases c5 : psidx L0_0 L0_1 with
    | none => simp only [c5] at hp; cases hp
    | some b4 =>
     simp only [c5] at hp
     obtain ⟨w, q1, q2, q3⟩ := h.sidx c5
     simp only [q1, q2, q3, Bool.false_eq_true, if_false]
     cbv
     cases c7 : psidx v1 v4 with
     | none => simp only [c7] at hp; cases hp
     | some b6 =>
      simp only [c7] at hp
      obtain ⟨w, q1, q2, q3⟩ := h.sidx c7
      simp only [q1, q2, q3, Bool.false_eq_true, if_false]
      cbv
      cases c8 : xcmp .neq b4 b6 with
      | false =>
       simp only [c8] at hp ⊢
       cbv
       simp only [if_false, if_true, hn0, hm0, hg0]
       cbv
       try simp only [if_false, if_true, hn0, hm0, hg0]
       try cbv
       try simp only [h.set_o, h.st_, h.sb_ hl0, if_false, if_true, hn0, hm0, (h.gs (hg0) _)]
       try cbv
       try simp only [if_false, if_true, hn0, hm0]
       have q := h_l_3 hp (xsetO stk ⟨n0, k0⟩ (.cells [(.d (.str L0_0)), (.d (.int .i64 (xar .add .i64 L0_1 1))), (.d (.int .i64 L0_2))])) ((h.gs (hg0) _))
       first | (refine q.trans ?_; rcases out with ⟨_, _, _, _, _⟩ | (⟨_, _, _⟩) <;> first | (simp only [Sum.elim_inl, Sum.elim_inr, h.so, O_parts_scan_text__0, A_parts_scan_text__0_1]; done) | (simp only [Sum.elim_inl, Sum.elim_inr, h.so, O_parts_scan_text__0, A_parts_scan_text__0_1]; rfl)) | (refine q.trans ?_; simp only [h.so, O_parts_scan_text__0, A_parts_scan_text__0_1]; done) | (refine q.trans ?_; simp only [h.so, O_parts_scan_text__0, A_parts_scan_text__0_1]; rfl) | (simp only [h.map_cons, h.map_nil, h.mapE_nil, h.len_nil, he_e_string, he_e_uint8, O_parts_scan_text__0, A_parts_scan_text__0_1, A_parts_scan_text__0_3] at q; cbv; refine q.trans ?_; simp only [h.so, O_parts_scan_text__0, A_parts_scan_text__0_1]; done) | (simp only [h.map_cons, h.map_nil, h.mapE_nil, h.len_nil, he_e_string, he_e_uint8, O_parts_scan_text__0, A_parts_scan_text__0_1, A_parts_scan_text__0_3] at q; cbv; refine q.trans ?_; simp only [h.so, O_parts_scan_text__0, A_parts_scan_text__0_1]; rfl)
      | true =>
       simp only [c8] at hp ⊢
       cbv
       try simp only [if_false, if_true, hn0, hm0, hg0]
       try cbv
       try simp only [h.set_o, h.st_, h.sb_ hl0, if_false, if_true, hn0, hm0, (h.gs (hg0) _)]
       try cbv
       try simp only [if_false, if_true, hn0, hm0]
       have q := h_l_3 hp (xsetO stk ⟨n0, k0⟩ (.cells [(.d (.str L0_0)), (.d (.int .i64 L0_1)), (.d (.int .i64 2))])) ((h.gs (hg0) _))
       first | (refine q.trans ?_; rcases out with ⟨_, _, _, _, _⟩ | (⟨_, _, _⟩) <;> first | (simp only [Sum.elim_inl, Sum.elim_inr, h.so, O_parts_scan_text__0, A_parts_scan_text__0_1]; done) | (simp only [Sum.elim_inl, Sum.elim_inr, h.so, O_parts_scan_text__0, A_parts_scan_text__0_1]; rfl)) | (refine q.trans ?_; simp only [h.so, O_parts_scan_text__0, A_parts_scan_text__0_1]; done) | (refine q.trans ?_; simp only [h.so, O_parts_scan_text__0, A_parts_scan_text__0_1]; rfl) | (simp only [h.map_cons, h.map_nil, h.mapE_nil, h.len_nil, he_e_string, he_e_uint8, O_parts_scan_text__0, A_parts_scan_text__0_1, A_parts_scan_text__0_3] at q; cbv; refine q.trans ?_; simp only [h.so, O_parts_scan_text__0, A_parts_scan_text__0_1]; done) | (simp only [h.map_cons, h.map_nil, h.mapE_nil, h.len_nil, he_e_string, he_e_uint8, O_parts_scan_text__0, A_parts_scan_text__0_1, A_parts_scan_text__0_3] at q; cbv; refine q.trans ?_; simp only [h.so, O_parts_scan_text__0, A_parts_scan_text__0_1]; rfl)
   | true =>
    simp only [c3] at hp ⊢
    cbv
    try simp only [if_false, if_true, hn0, hm0, hg0]
    try cbv
    try simp only [h.set_o, h.st_, h.sb_ hl0, if_false, if_true, hn0, hm0, (h.gs (hg0) _)]
    try cbv
    try simp only [if_false, if_true, hn0, hm0]
    have q := h_l_3 hp (xsetO stk ⟨n0, k0⟩ (.cells [(.d (.str L0_0)), (.d (.int .i64 L0_1)), (.d (.int .i64 1))])) ((h.gs (hg0) _))
    first | (refine q.trans ?_; rcases out with ⟨_, _, _, _, _⟩ | (⟨_, _, _⟩) <;> first | (simp only [Sum.elim_inl, Sum.elim_inr, h.so, O_parts_scan_text__0, A_parts_scan_text__0_1]; done) | (simp only [Sum.elim_inl, Sum.elim_inr, h.so, O_parts_scan_text__0, A_parts_scan_text__0_1]; rfl)) | (refine q.trans ?_; simp only [h.so, O_parts_scan_text__0, A_parts_scan_text__0_1]; done) | (refine q.trans ?_; simp only [h.so, O_parts_scan_text__0, A_parts_scan_text__0_1]; rfl) | (simp only [h.map_cons, h.map_nil, h.mapE_nil, h.len_nil, he_e_string, he_e_uint8, O_parts_scan_text__0, A_parts_scan_text__0_1, A_parts_scan_text__0_3] at q; cbv; refine q.trans ?_; simp only [h.so, O_parts_scan_text__0, A_parts_scan_text__0_1]; done) | (simp only [h.map_cons, h.map_nil, h.mapE_nil, h.len_nil, he_e_string, he_e_uint8, O_parts_scan_text__0, A_parts_scan_text__0_1, A_parts_scan_text__0_3] at q; cbv; refine q.trans ?_; simp only [h.so, O_parts_scan_text__0, A_parts_scan_text__0_1]; rfl)
def b_parts_scan_text__0_3 (P : Prims)   (v1 : Str) (v4 : Int) (L0_0 : Str) (L0_1 : Int) (L0_2 : Int) : Option ((Str × Int × Str × Int × Int) ⊕ (Str × Int × Int)) :=
 some (.inl (v1, P.ar .add .i64 v4 1, L0_0, L0_1, L0_2))
theorem o_parts_scan_text__0_3   (stk : Stk) (m : Nat) (n0 : Nat) (k0 : List Nat) (hl0 : n0 < m)   (v1 : Str) (v4 : Int) (L0_0 : Str) (L0_1 : Int) (L0_2 : Int) (hg0 : getO stk ⟨n0, k0⟩ = some (.cells [(.d (.str L0_0)), (.d (.int .i64 L0_1)), (.d (.int .i64 L0_2))]))  {out} (hp : b_parts_scan_text__0_3 PP   v1 v4 L0_0 L0_1 L0_2 = some out) : (A_parts_scan_text__0_3 xat m n0 k0 v1 v4 L0_0 L0_1 L0_2 stk) = (Sum.elim (fun (v1, v4, L0_0, L0_1, L0_2) => (A_parts_scan_text__0_1 xat m n0 k0 v1 v4 L0_0 L0_1 L0_2 (xsetO stk ⟨n0, k0⟩ (.cells [(.d (.str L0_0)), (.d (.int .i64 L0_1)), (.d (.int .i64 L0_2))])))) (O_parts_scan_text__0 xsetO m n0 k0 stk)) out := by
 have hn0 : (n0 = m) = False := eq_false (Nat.ne_of_lt hl0)
 have hm0 : decide (n0 < m) = true := decide_eq_true hl0
 subst hPP
 simp only [b_parts_scan_text__0_3] at hp
 unfold A_parts_scan_text__0_3
 rw [h.at_, hT]
 cbv
 cases hp
 try simp only [O_parts_scan_text__0, A_parts_scan_text__0_1, Sum.elim_inl, Sum.elim_inr]
 try (simp only [h.ss hg0])
 try simp only [if_false, if_true, hn0, hm0]
 all_goals first | rfl | (cbv; done)
def b_parts_scan_is__0_0 (P : Prims)   (v1 : Int) (L0_0 : Str) (L0_1 : Int) (L0_2 : Int) : Option (Bool) :=
 match P.cmp .eql L0_2 0 with
 | false =>
  some false
 | true =>
  match P.cmp .lss L0_1 (P.slen L0_0) with
  | false =>
   some false
  | true =>
   match P.sidx L0_0 L0_1 with
   | none => none
   | some b3 =>
    some (P.cmp .eql b3 v1)
theorem o_parts_scan_is__0_0   (stk : Stk) (m : Nat) (n0 : Nat) (k0 : List Nat) (hl0 : n0 < m)   (v1 : Int) (L0_0 : Str) (L0_1 : Int) (L0_2 : Int) (hg0 : getO stk ⟨n0, k0⟩ = some (.cells [(.d (.str L0_0)), (.d (.int .i64 L0_1)), (.d (.int .i64 L0_2))]))  {out} (hp : b_parts_scan_is__0_0 PP   v1 L0_0 L0_1 L0_2 = some out) : (A_parts_scan_is__0_0 xat m n0 k0 v1 L0_0 L0_1 L0_2 stk) = (O_parts_scan_is__0  m n0 k0 stk) out := by
 have hn0 : (n0 = m) = False := eq_false (Nat.ne_of_lt hl0)
 have hm0 : decide (n0 < m) = true := decide_eq_true hl0
 subst hPP
 simp only [b_parts_scan_is__0_0] at hp
 unfold A_parts_scan_is__0_0
 rw [h.at_, hT]
 cbv
 simp only [if_false, if_true, hn0, hm0, hg0]
 cbv
 cases c1 : xcmp .eql L0_2 0 with
 | false =>
  simp only [c1] at hp ⊢
  cbv
  cases hp
  try simp only [if_false, if_true, hn0, hm0]
  all_goals first | rfl | (cbv; done)
 | true =>
  simp only [c1] at hp ⊢
  cbv
  simp only [if_false, if_true, hn0, hm0, hg0]
  cbv
  simp only [if_false, if_true, hn0, hm0, hg0]
  cbv
  try simp only [h.slen]
  cases c2 : xcmp .lss L0_1 (pslen L0_0) with
  | false =>
   simp only [c2] at hp ⊢
   cbv
   cases hp
   try simp only [if_false, if_true, hn0, hm0]
   all_goals first | rfl | (cbv; done)
  | true =>
   simp only [c2] at hp ⊢
   cbv
   simp only [if_false, if_true, hn0, hm0, hg0]
   cbv
   simp only [if_false, if_true, hn0, hm0, hg0]
   cbv
   cases c4 : psidx L0_0 L0_1 with
   | none => simp only [c4] at hp; cases hp
   | some b3 =>
    simp only [c4] at hp
    obtain ⟨w, q1, q2, q3⟩ := h.sidx c4
    simp only [q1, q2, q3, Bool.false_eq_true, if_false]
    cbv
    cases hp
    try simp only [if_false, if_true, hn0, hm0]
    all_goals first | rfl | (cbv; done)
def b_parts_scan_number_1__0_0 (P : Prims)   (L1_0 : Str) (L1_1 : Int) (L1_2 : Int) : Option (Bool) :=
 match P.cmp .eql L1_2 0 with
 | false =>
  some false
 | true =>
  match P.cmp .lss L1_1 (P.slen L1_0) with
  | false =>
   some false
  | true =>
   match P.sidx L1_0 L1_1 with
   | none => none
   | some b3 =>
    match P.cmp .geq b3 48 with
    | false =>
     some false
    | true =>
     some (P.cmp .leq b3 57)
theorem o_parts_scan_number_1__0_0   (stk : Stk) (m : Nat) (n0 : Nat) (k0 : List Nat) (n1 : Nat) (k1 : List Nat) (hl0 : n0 < m) (hl1 : n1 < m) (hd0_1 : (⟨n0, k0⟩ : Lab) ≠ ⟨n1, k1⟩)  (L1_0 : Str) (L1_1 : Int) (L1_2 : Int) (hg0 : getO stk ⟨n0, k0⟩ = some (.cells [(.ref ⟨n1, k1⟩ 0)])) (hg1 : getO stk ⟨n1, k1⟩ = some (.cells [(.d (.str L1_0)), (.d (.int .i64 L1_1)), (.d (.int .i64 L1_2))]))  {out} (hp : b_parts_scan_number_1__0_0 PP   L1_0 L1_1 L1_2 = some out) : (A_parts_scan_number_1__0_0 xat m n0 k0 n1 k1 L1_0 L1_1 L1_2 stk) = (O_parts_scan_number_1__0  m n0 k0 n1 k1 stk) out := by
 have hn0 : (n0 = m) = False := eq_false (Nat.ne_of_lt hl0)
 have hn1 : (n1 = m) = False := eq_false (Nat.ne_of_lt hl1)
 have hm0 : decide (n0 < m) = true := decide_eq_true hl0
 have hm1 : decide (n1 < m) = true := decide_eq_true hl1
 subst hPP
 simp only [b_parts_scan_number_1__0_0] at hp
 unfold A_parts_scan_number_1__0_0
 rw [h.at_, hT]
 cbv
 simp only [if_false, if_true, hn0, hm0, hn1, hm1, hg0, hg1]
 cbv
 simp only [if_false, if_true, hn0, hm0, hn1, hm1, hg0, hg1]
 cbv
 cases c1 : xcmp .eql L1_2 0 with
 | false =>
  simp only [c1] at hp ⊢
  cbv
  cases hp
  try simp only [if_false, if_true, hn0, hm0, hn1, hm1]
  all_goals first | rfl | (cbv; done)
 | true =>
  simp only [c1] at hp ⊢
  cbv
  simp only [if_false, if_true, hn0, hm0, hn1, hm1, hg0, hg1]
  cbv
  simp only [if_false, if_true, hn0, hm0, hn1, hm1, hg0, hg1]
  cbv
  simp only [if_false, if_true, hn0, hm0, hn1, hm1, hg0, hg1]
  cbv
  simp only [if_false, if_true, hn0, hm0, hn1, hm1, hg0, hg1]
  cbv
  try simp only [h.slen]
  cases c2 : xcmp .lss L1_1 (pslen L1_0) with
  | false =>
   simp only [c2] at hp ⊢
   cbv
   cases hp
   try simp only [if_false, if_true, hn0, hm0, hn1, hm1]
   all_goals first | rfl | (cbv; done)
  | true =>
   simp only [c2] at hp ⊢
   cbv
   simp only [if_false, if_true, hn0, hm0, hn1, hm1, hg0, hg1]
   cbv
   simp only [if_false, if_true, hn0, hm0, hn1, hm1, hg0, hg1]
   cbv
   simp only [if_false, if_true, hn0, hm0, hn1, hm1, hg0, hg1]
   cbv
   simp only [if_false, if_true, hn0, hm0, hn1, hm1, hg0, hg1]
   cbv
   cases c4 : psidx L1_0 L1_1 with
   | none => simp only [c4] at hp; cases hp
   | some b3 =>
    simp only [c4] at hp
    obtain ⟨w, q1, q2, q3⟩ := h.sidx c4
    simp only [q1, q2, q3, Bool.false_eq_true, if_false]
    cbv
    cases c5 : xcmp .geq b3 48 with
    | false =>
     simp only [c5] at hp ⊢
     cbv
     cases hp
     try simp only [if_false, if_true, hn0, hm0, hn1, hm1]
     all_goals first | rfl | (cbv; done)
    | true =>
     simp only [c5] at hp ⊢
     cbv
     simp only [if_false, if_true, hn0, hm0, hn1, hm1, hg0, hg1]
     cbv
     simp only [if_false, if_true, hn0, hm0, hn1, hm1, hg0, hg1]
     cbv
     simp only [if_false, if_true, hn0, hm0, hn1, hm1, hg0, hg1]
     cbv
     simp only [if_false, if_true, hn0, hm0, hn1, hm1, hg0, hg1]
     cbv
     obtain ⟨w, q1, q2, q3⟩ := h.sidx c4
     simp only [q1, q2, q3, Bool.false_eq_true, if_false]
     cbv
     cases hp
     try simp only [if_false, if_true, hn0, hm0, hn1, hm1]
     all_goals first | rfl | (cbv; done)
def b_parts_scan_number__0_0 (P : Prims) (c_parts_scan_number_1__0 : Str → Int → Int → Option (Bool)) (l_1 : T_parts_scan_number__0_1) (L0_0 : Str) (L0_1 : Int) (L0_2 : Int) : Option (Int × Str × Int × Int) :=
 l_1 0 L0_1 L0_0 L0_1 L0_2
theorem o_parts_scan_number__0_0 (c_parts_scan_number_1__0 : Str → Int → Int → Option (Bool)) (h_parts_scan_number_1__0 : (C_parts_scan_number_1__0 xpcall xfcall c_parts_scan_number_1__0)) (stk : Stk) (m : Nat) (n0 : Nat) (k0 : List Nat) (hl0 : n0 < m)  (l_1 : T_parts_scan_number__0_1) (L0_0 : Str) (L0_1 : Int) (L0_2 : Int) (hg0 : getO stk ⟨n0, k0⟩ = some (.cells [(.d (.str L0_0)), (.d (.int .i64 L0_1)), (.d (.int .i64 L0_2))])) (h_l_1 : H_parts_scan_number__0_1 xat xsetO m n0 k0 l_1) {out} (hp : b_parts_scan_number__0_0 PP c_parts_scan_number_1__0 l_1 L0_0 L0_1 L0_2 = some out) : (A_parts_scan_number__0_0 xat m n0 k0 L0_0 L0_1 L0_2 stk) = (O_parts_scan_number__0 xsetO m n0 k0 stk) out := by
 have hn0 : (n0 = m) = False := eq_false (Nat.ne_of_lt hl0)
 have hm0 : decide (n0 < m) = true := decide_eq_true hl0
 subst hPP
 simp only [b_parts_scan_number__0_0] at hp
 unfold A_parts_scan_number__0_0
 rw [h.at_, hT]
 cbv
 try simp only [if_false, if_true, hn0, hm0]
 try cbv
 simp only [if_false, if_true, hn0, hm0, hg0]
 cbv
 try simp only [if_false, if_true, hn0, hm0]
 first | exact h_l_1 hp stk (hg0) | (have q := h_l_1 hp stk (hg0); simp only [A_parts_scan_number__0_1, h.map_cons, h.map_nil, h.mapE_nil, h.len_nil, he_e_string, he_e_uint8] at q; first | exact q | (cbv; exact q))
def b_parts_scan_number__0_1 (P : Prims) (c_parts_scan_number_1__0 : Str → Int → Int → Option (Bool)) (l_3 : T_parts_scan_number__0_3) (l_5 : T_parts_scan_number__0_5) (v3 : Int) (v4 : Int) (L0_0 : Str) (L0_1 : Int) (L0_2 : Int) : Option ((Int × Int × Str × Int × Int) ⊕ (Int × Str × Int × Int)) :=
 match c_parts_scan_number_1__0 L0_0 L0_1 L0_2 with
 | none => none
 | some r1_0 =>
  match r1_0 with
  | false =>
   match P.cmp .eql L0_1 v4 with
   | false =>
    match l_5 v3 L0_0 L0_1 L0_2 with | none => none | some o16 => some (.inr o16)
   | true =>
    match P.cmp .eql L0_2 0 with
    | false =>
     match l_5 v3 L0_0 L0_1 L0_2 with | none => none | some o15 => some (.inr o15)
    | true =>
     match P.cmp .eql L0_1 (P.slen L0_0) with
     | false =>
      match l_5 v3 L0_0 L0_1 2 with | none => none | some o14 => some (.inr o14)
     | true =>
      match l_5 v3 L0_0 L0_1 1 with | none => none | some o13 => some (.inr o13)
  | true =>
   match P.sidx L0_0 L0_1 with
   | none => none
   | some b4 =>
    match P.cmp .gtr L0_1 v4 with
    | false =>
     match P.cmp .gtr (P.ar .add .i64 (P.ar .mul .i64 v3 10) (P.wrap .i64 (P.ar .sub .u8 b4 48))) 16777216 with
     | false =>
      l_3 v3 v4 (P.wrap .i64 (P.ar .sub .u8 b4 48)) L0_0 L0_1 L0_2
     | true =>
      some (.inr (0, L0_0, L0_1, 2))
    | true =>
     match P.cmp .eql v3 0 with
     | false =>
      match P.cmp .gtr (P.ar .add .i64 (P.ar .mul .i64 v3 10) (P.wrap .i64 (P.ar .sub .u8 b4 48))) 16777216 with
      | false =>
       l_3 v3 v4 (P.wrap .i64 (P.ar .sub .u8 b4 48)) L0_0 L0_1 L0_2
      | true =>
       some (.inr (0, L0_0, L0_1, 2))
     | true =>
      some (.inr (0, L0_0, L0_1, 2))
theorem o_parts_scan_number__0_1 (c_parts_scan_number_1__0 : Str → Int → Int → Option (Bool)) (h_parts_scan_number_1__0 : (C_parts_scan_number_1__0 xpcall xfcall c_parts_scan_number_1__0)) (stk : Stk) (m : Nat) (n0 : Nat) (k0 : List Nat) (hl0 : n0 < m)  (l_3 : T_parts_scan_number__0_3) (l_5 : T_parts_scan_number__0_5) (v3 : Int) (v4 : Int) (L0_0 : Str) (L0_1 : Int) (L0_2 : Int) (hg0 : getO stk ⟨n0, k0⟩ = some (.cells [(.d (.str L0_0)), (.d (.int .i64 L0_1)), (.d (.int .i64 L0_2))])) (h_l_3 : H_parts_scan_number__0_3 xat xsetO m n0 k0 l_3) (h_l_5 : H_parts_scan_number__0_5 xat xsetO m n0 k0 l_5) {out} (hp : b_parts_scan_number__0_1 PP c_parts_scan_number_1__0 l_3 l_5 v3 v4 L0_0 L0_1 L0_2 = some out) : (A_parts_scan_number__0_1 xat m n0 k0 v3 v4 L0_0 L0_1 L0_2 stk) = (Sum.elim (fun (v3, v4, L0_0, L0_1, L0_2) => (A_parts_scan_number__0_1 xat m n0 k0 v3 v4 L0_0 L0_1 L0_2 (xsetO stk ⟨n0, k0⟩ (.cells [(.d (.str L0_0)), (.d (.int .i64 L0_1)), (.d (.int .i64 L0_2))])))) (O_parts_scan_number__0 xsetO m n0 k0 stk)) out := by
 have hn0 : (n0 = m) = False := eq_false (Nat.ne_of_lt hl0)
 have hm0 : decide (n0 < m) = true := decide_eq_true hl0
 subst hPP
 simp only [b_parts_scan_number__0_1] at hp
 unfold A_parts_scan_number__0_1
 rw [h.at_, hT]
 cbv
 cases c2 : c_parts_scan_number_1__0 L0_0 L0_1 L0_2 with
 | none => simp only [c2] at hp; cases hp
 | some r1_0 =>
  simp only [c2] at hp
  have qc := (h_parts_scan_number_1__0 c2 (⟨m, [([1], (.cells [(.ref ⟨n0, k0⟩ 0)]))]⟩ :: stk) m [1] n0 k0 (h.gt _ _ _ _) ((h.gb hl0 _ _).trans (hg0)) (Nat.le_refl _) (Nat.le_of_lt hl0) (Ne.symm (h.dl hl0))).1
  simp only [qc]
  cbv
  cases r1_0 with
  | false =>
   simp only at hp
   cbv
   try simp only [if_false, if_true, hn0, hm0]
   try cbv
   rw [h.at_, hT]
   cbv
   simp only [if_false, if_true, hn0, hm0, hg0]
   cbv
   cases c10 : xcmp .eql L0_1 v4 with
   | false =>
    simp only [c10] at hp ⊢
    cbv
    cases c : l_5 v3 L0_0 L0_1 L0_2 with
    | none => simp only [c] at hp; cases hp
    | some o16 =>
     simp only [c] at hp
     cases hp
     try simp only [if_false, if_true, hn0, hm0]
     first | exact h_l_5 c stk (hg0) | (have q := h_l_5 c stk (hg0); simp only [A_parts_scan_number__0_5, h.map_cons, h.map_nil, h.mapE_nil, h.len_nil, he_e_string, he_e_uint8] at q; first | exact q | (cbv; exact q))
   | true =>
    simp only [c10] at hp ⊢
    cbv
    simp only [if_false, if_true, hn0, hm0, hg0]
    cbv
    cases c11 : xcmp .eql L0_2 0 with
    | false =>
     simp only [c11] at hp ⊢
     cbv
     cases c : l_5 v3 L0_0 L0_1 L0_2 with
     | none => simp only [c] at hp; cases hp
     | some o15 =>
      simp only [c] at hp
      cases hp
      try simp only [if_false, if_true, hn0, hm0]
      first | exact h_l_5 c stk (hg0) | (have q := h_l_5 c stk (hg0); simp only [A_parts_scan_number__0_5, h.map_cons, h.map_nil, h.mapE_nil, h.len_nil, he_e_string, he_e_uint8] at q; first | exact q | (cbv; exact q))
    | true =>
     simp only [c11] at hp ⊢
     cbv
     try simp only [if_false, if_true, hn0, hm0, hg0]
     try cbv
     try simp only [h.set_o, h.st_, h.sb_ hl0, if_false, if_true, hn0, hm0, (h.gs (hg0) _)]
     try cbv
     simp only [if_false, if_true, hn0, hm0, (h.gs (hg0) _)]
     cbv
     simp only [if_false, if_true, hn0, hm0, (h.gs (hg0) _)]
     cbv
     try simp only [h.slen]
     cases c12 : xcmp .eql L0_1 (pslen L0_0) with
     | false =>
      simp only [c12] at hp ⊢
      cbv
      cases c : l_5 v3 L0_0 L0_1 2 with
      | none => simp only [c] at hp; cases hp
      | some o14 =>
       simp only [c] at hp
       cases hp
       try simp only [if_false, if_true, hn0, hm0]
       have q := h_l_5 c (xsetO stk ⟨n0, k0⟩ (.cells [(.d (.str L0_0)), (.d (.int .i64 L0_1)), (.d (.int .i64 2))])) ((h.gs (hg0) _))
       first | (refine q.trans ?_; rcases o14 with ⟨_, _, _, _⟩ <;> first | (simp only [Sum.elim_inl, Sum.elim_inr, h.so, O_parts_scan_number__0, A_parts_scan_number__0_1]; done) | (simp only [Sum.elim_inl, Sum.elim_inr, h.so, O_parts_scan_number__0, A_parts_scan_number__0_1]; rfl)) | (refine q.trans ?_; simp only [h.so, O_parts_scan_number__0, A_parts_scan_number__0_1]; done) | (refine q.trans ?_; simp only [h.so, O_parts_scan_number__0, A_parts_scan_number__0_1]; rfl) | (simp only [h.map_cons, h.map_nil, h.mapE_nil, h.len_nil, he_e_string, he_e_uint8, O_parts_scan_number__0, A_parts_scan_number__0_1, A_parts_scan_number__0_5] at q; cbv; refine q.trans ?_; simp only [h.so, O_parts_scan_number__0, A_parts_scan_number__0_1]; done) | (simp only [h.map_cons, h.map_nil, h.mapE_nil, h.len_nil, he_e_string, he_e_uint8, O_parts_scan_number__0, A_parts_scan_number__0_1, A_parts_scan_number__0_5] at q; cbv; refine q.trans ?_; simp only [h.so, O_parts_scan_number__0, A_parts_scan_number__0_1]; rfl)
     | true =>
      simp only [c12] at hp ⊢
      cbv
      try simp only [if_false, if_true, hn0, hm0, (h.gs (hg0) _)]
      try cbv
      try simp only [h.set_o, h.st_, h.sb_ hl0, if_false, if_true, hn0, hm0, (h.gs (hg0) _)]
      try simp only [h.so, if_false, if_true, hn0, hm0, (h.gs (hg0) _)]
      try cbv
      cases c : l_5 v3 L0_0 L0_1 1 with
      | none => simp only [c] at hp; cases hp
      | some o13 =>
       simp only [c] at hp
       cases hp
       try simp only [if_false, if_true, hn0, hm0]
       have q := h_l_5 c (xsetO stk ⟨n0, k0⟩ (.cells [(.d (.str L0_0)), (.d (.int .i64 L0_1)), (.d (.int .i64 1))])) ((h.gs (hg0) _))
       first | (refine q.trans ?_; rcases o13 with ⟨_, _, _, _⟩ <;> first | (simp only [Sum.elim_inl, Sum.elim_inr, h.so, O_parts_scan_number__0, A_parts_scan_number__0_1]; done) | (simp only [Sum.elim_inl, Sum.elim_inr, h.so, O_parts_scan_number__0, A_parts_scan_number__0_1]; rfl)) | (refine q.trans ?_; simp only [h.so, O_parts_scan_number__0, A_parts_scan_number__0_1]; done) | (refine q.trans ?_; simp only [h.so, O_parts_scan_number__0, A_parts_scan_number__0_1]; rfl) | (simp only [h.map_cons, h.map_nil, h.mapE_nil, h.len_nil, he_e_string, he_e_uint8, O_parts_scan_number__0, A_parts_scan_number__0_1, A_parts_scan_number__0_5] at q; cbv; refine q.trans ?_; simp only [h.so, O_parts_scan_number__0, A_parts_scan_number__0_1]; done) | (simp only [h.map_cons, h.map_nil, h.mapE_nil, h.len_nil, he_e_string, he_e_uint8, O_parts_scan_number__0, A_parts_scan_number__0_1, A_parts_scan_number__0_5] at q; cbv; refine q.trans ?_; simp only [h.so, O_parts_scan_number__0, A_parts_scan_number__0_1]; rfl)
  | true =>
   simp only at hp
   cbv
   try simp only [if_false, if_true, hn0, hm0]
   try cbv
   rw [h.at_, hT]
   cbv
   simp only [if_false, if_true, hn0, hm0, hg0]
   cbv
   simp only [if_false, if_true, hn0, hm0, hg0]
   cbv
   cases c5 : psidx L0_0 L0_1 with
   | none => simp only [c5] at hp; cases hp
   | some b4 =>
    simp only [c5] at hp
    obtain ⟨w, q1, q2, q3⟩ := h.sidx c5
    simp only [q1, q2, q3, Bool.false_eq_true, if_false]
    cbv
    simp only [if_false, if_true, hn0, hm0, hg0]
    cbv
    cases c6 : xcmp .gtr L0_1 v4 with
    | false =>
     simp only [c6] at hp ⊢
     cbv
     cases c9 : xcmp .gtr (xar .add .i64 (xar .mul .i64 v3 10) (xwrap .i64 (xar .sub .u8 b4 48))) 16777216 with
     | false =>
      simp only [c9] at hp ⊢
      cbv
      try simp only [if_false, if_true, hn0, hm0]
      first | exact h_l_3 hp stk (hg0) | (have q := h_l_3 hp stk (hg0); simp only [A_parts_scan_number__0_3, h.map_cons, h.map_nil, h.mapE_nil, h.len_nil, he_e_string, he_e_uint8] at q; first | exact q | (cbv; exact q))
     | true =>
      simp only [c9] at hp ⊢
      cbv
      try simp only [if_false, if_true, hn0, hm0, hg0]
      try cbv
      try simp only [h.set_o, h.st_, h.sb_ hl0, if_false, if_true, hn0, hm0, (h.gs (hg0) _)]
      try cbv
      cases hp
      try simp only [O_parts_scan_number__0, A_parts_scan_number__0_1, Sum.elim_inl, Sum.elim_inr]
      try (simp only [h.so])
      try simp only [if_false, if_true, hn0, hm0]
      all_goals first | rfl | (cbv; done) | (simp only [h.nadd0, h.nle_refl, h.cut_all, h.cut_nil, h.map_cons, h.map_nil, h.mapE_nil, h.len_nil, he_e_string, he_e_uint8, O_parts_scan_number__0, A_parts_scan_number__0_1, A_parts_scan_number__0_5, if_true]; done) | (simp only [h.nadd0, h.nle_refl, h.cut_all, h.cut_nil, h.map_cons, h.map_nil, h.mapE_nil, h.len_nil, he_e_string, he_e_uint8, O_parts_scan_number__0, A_parts_scan_number__0_1, A_parts_scan_number__0_5, if_true]; first | rfl | (cbv; done) | (cbv; simp only [h.map_cons, h.map_nil, h.mapE_nil, h.len_nil, he_e_string, he_e_uint8, O_parts_scan_number__0, A_parts_scan_number__0_1, A_parts_scan_number__0_5]; done))
    | true =>
     simp only [c6] at hp ⊢
     cbv
     cases c7 : xcmp .eql v3 0 with
     | false =>
      simp only [c7] at hp ⊢
      cbv
      cases c8 : xcmp .gtr (xar .add .i64 (xar .mul .i64 v3 10) (xwrap .i64 (xar .sub .u8 b4 48))) 16777216 with
      | false =>
       simp only [c8] at hp ⊢
       cbv
       try simp only [if_false, if_true, hn0, hm0]
       first | exact h_l_3 hp stk (hg0) | (have q := h_l_3 hp stk (hg0); simp only [A_parts_scan_number__0_3, h.map_cons, h.map_nil, h.mapE_nil, h.len_nil, he_e_string, he_e_uint8] at q; first | exact q | (cbv; exact q))
      | true =>
       simp only [c8] at hp ⊢
       cbv
       try simp only [if_false, if_true, hn0, hm0, hg0]
       try cbv
       try simp only [h.set_o, h.st_, h.sb_ hl0, if_false, if_true, hn0, hm0, (h.gs (hg0) _)]
       try cbv
       cases hp
       try simp only [O_parts_scan_number__0, A_parts_scan_number__0_1, Sum.elim_inl, Sum.elim_inr]
       try (simp only [h.so])
       try simp only [if_false, if_true, hn0, hm0]
       all_goals first | rfl | (cbv; done) | (simp only [h.nadd0, h.nle_refl, h.cut_all, h.cut_nil, h.map_cons, h.map_nil, h.mapE_nil, h.len_nil, he_e_string, he_e_uint8, O_parts_scan_number__0, A_parts_scan_number__0_1, A_parts_scan_number__0_5, if_true]; done) | (simp only [h.nadd0, h.nle_refl, h.cut_all, h.cut_nil, h.map_cons, h.map_nil, h.mapE_nil, h.len_nil, he_e_string, he_e_uint8, O_parts_scan_number__0, A_parts_scan_number__0_1, A_parts_scan_number__0_5, if_true]; first | rfl | (cbv; done) | (cbv; simp only [h.map_cons, h.map_nil, h.mapE_nil, h.len_nil, he_e_string, he_e_uint8, O_parts_scan_number__0, A_parts_scan_number__0_1, A_parts_scan_number__0_5]; done))
     | true =>
      simp only [c7] at hp ⊢
      cbv
      try simp only [if_false, if_true, hn0, hm0, hg0]
      try cbv
      try simp only [h.set_o, h.st_, h.sb_ hl0, if_false, if_true, hn0, hm0, (h.gs (hg0) _)]
      try cbv
      cases hp
      try simp only [O_parts_scan_number__0, A_parts_scan_number__0_1, Sum.elim_inl, Sum.elim_inr]
      try (simp only [h.so])
      try simp only [if_false, if_true, hn0, hm0]
      all_goals first | rfl | (cbv; done) | (simp only [h.nadd0, h.nle_refl, h.cut_all, h.cut_nil, h.map_cons, h.map_nil, h.mapE_nil, h.len_nil, he_e_string, he_e_uint8, O_parts_scan_number__0, A_parts_scan_number__0_1, A_parts_scan_number__0_5, if_true]; done) | (simp only [h.nadd0, h.nle_refl, h.cut_all, h.cut_nil, h.map_cons, h.map_nil, h.mapE_nil, h.len_nil, he_e_string, he_e_uint8, O_parts_scan_number__0, A_parts_scan_number__0_1, A_parts_scan_number__0_5, if_true]; first | rfl | (cbv; done) | (cbv; simp only [h.map_cons, h.map_nil, h.mapE_nil, h.len_nil, he_e_string, he_e_uint8, O_parts_scan_number__0, A_parts_scan_number__0_1, A_parts_scan_number__0_5]; done))
def b_parts_scan_number__0_3 (P : Prims) (c_parts_scan_number_1__0 : Str → Int → Int → Option (Bool))  (v3 : Int) (v4 : Int) (v6 : Int) (L0_0 : Str) (L0_1 : Int) (L0_2 : Int) : Option ((Int × Int × Str × Int × Int) ⊕ (Int × Str × Int × Int)) :=
 some (.inl (P.ar .add .i64 (P.ar .mul .i64 v3 10) v6, v4, L0_0, P.ar .add .i64 L0_1 1, L0_2))
theorem o_parts_scan_number__0_3 (c_parts_scan_number_1__0 : Str → Int → Int → Option (Bool)) (h_parts_scan_number_1__0 : (C_parts_scan_number_1__0 xpcall xfcall c_parts_scan_number_1__0)) (stk : Stk) (m : Nat) (n0 : Nat) (k0 : List Nat) (hl0 : n0 < m)   (v3 : Int) (v4 : Int) (v6 : Int) (L0_0 : Str) (L0_1 : Int) (L0_2 : Int) (hg0 : getO stk ⟨n0, k0⟩ = some (.cells [(.d (.str L0_0)), (.d (.int .i64 L0_1)), (.d (.int .i64 L0_2))]))  {out} (hp : b_parts_scan_number__0_3 PP c_parts_scan_number_1__0  v3 v4 v6 L0_0 L0_1 L0_2 = some out) : (A_parts_scan_number__0_3 xat m n0 k0 v3 v4 v6 L0_0 L0_1 L0_2 stk) = (Sum.elim (fun (v3, v4, L0_0, L0_1, L0_2) => (A_parts_scan_number__0_1 xat m n0 k0 v3 v4 L0_0 L0_1 L0_2 (xsetO stk ⟨n0, k0⟩ (.cells [(.d (.str L0_0)), (.d (.int .i64 L0_1)), (.d (.int .i64 L0_2))])))) (O_parts_scan_number__0 xsetO m n0 k0 stk)) out := by
 have hn0 : (n0 = m) = False := eq_false (Nat.ne_of_lt hl0)
 have hm0 : decide (n0 < m) = true := decide_eq_true hl0
 subst hPP
 simp only [b_parts_scan_number__0_3] at hp
 unfold A_parts_scan_number__0_3
 rw [h.at_, hT]
 cbv
 simp only [if_false, if_true, hn0, hm0, hg0]
 cbv
 try simp only [if_false, if_true, hn0, hm0, hg0]
 try cbv
 try simp only [h.set_o, h.st_, h.sb_ hl0, if_false, if_true, hn0, hm0, (h.gs (hg0) _)]
 try cbv
 cases hp
 try simp only [O_parts_scan_number__0, A_parts_scan_number__0_1, Sum.elim_inl, Sum.elim_inr]
 try (simp only [h.so])
 try simp only [if_false, if_true, hn0, hm0]
 all_goals first | rfl | (cbv; done) | (simp only [h.nadd0, h.nle_refl, h.cut_all, h.cut_nil, h.map_cons, h.map_nil, h.mapE_nil, h.len_nil, he_e_string, he_e_uint8, O_parts_scan_number__0, A_parts_scan_number__0_1, if_true]; done) | (simp only [h.nadd0, h.nle_refl, h.cut_all, h.cut_nil, h.map_cons, h.map_nil, h.mapE_nil, h.len_nil, he_e_string, he_e_uint8, O_parts_scan_number__0, A_parts_scan_number__0_1, if_true]; first | rfl | (cbv; done) | (cbv; simp only [h.map_cons, h.map_nil, h.mapE_nil, h.len_nil, he_e_string, he_e_uint8, O_parts_scan_number__0, A_parts_scan_number__0_1]; done))
def b_parts_scan_number__0_5 (P : Prims) (c_parts_scan_number_1__0 : Str → Int → Int → Option (Bool))  (v3 : Int) (L0_0 : Str) (L0_1 : Int) (L0_2 : Int) : Option (Int × Str × Int × Int) :=
 some (v3, L0_0, L0_1, L0_2)
theorem o_parts_scan_number__0_5 (c_parts_scan_number_1__0 : Str → Int → Int → Option (Bool)) (h_parts_scan_number_1__0 : (C_parts_scan_number_1__0 xpcall xfcall c_parts_scan_number_1__0)) (stk : Stk) (m : Nat) (n0 : Nat) (k0 : List Nat) (hl0 : n0 < m)   (v3 : Int) (L0_0 : Str) (L0_1 : Int) (L0_2 : Int) (hg0 : getO stk ⟨n0, k0⟩ = some (.cells [(.d (.str L0_0)), (.d (.int .i64 L0_1)), (.d (.int .i64 L0_2))]))  {out} (hp : b_parts_scan_number__0_5 PP c_parts_scan_number_1__0  v3 L0_0 L0_1 L0_2 = some out) : (A_parts_scan_number__0_5 xat m n0 k0 v3 L0_0 L0_1 L0_2 stk) = (O_parts_scan_number__0 xsetO m n0 k0 stk) out := by
 have hn0 : (n0 = m) = False := eq_false (Nat.ne_of_lt hl0)
 have hm0 : decide (n0 < m) = true := decide_eq_true hl0
 subst hPP
 simp only [b_parts_scan_number__0_5] at hp
 unfold A_parts_scan_number__0_5
 rw [h.at_, hT]
 cbv
 cases hp
 try simp only [O_parts_scan_number__0, Sum.elim_inl, Sum.elim_inr]
 try (simp only [h.ss hg0])
 try simp only [if_false, if_true, hn0, hm0]
 all_goals first | rfl | (cbv; done)
def b_parts_scan_take__0_0 (P : Prims)   (v1 : Int) (L0_0 : Str) (L0_1 : Int) (L0_2 : Int) : Option (Str × Str × Int × Int) :=
 match P.cmp .neq L0_2 0 with
 | false =>
  match P.cmp .lss (P.ar .sub .i64 (P.slen L0_0) L0_1) v1 with
  | false =>
   match P.ssub L0_0 (some L0_1) (some (P.ar .add .i64 L0_1 v1)) with
   | none => none
   | some s3 =>
    some (s3, L0_0, P.ar .add .i64 L0_1 v1, L0_2)
  | true =>
   some ([], L0_0, P.slen L0_0, 1)
 | true =>
  some ([], L0_0, L0_1, L0_2)
theorem o_parts_scan_take__0_0   (stk : Stk) (m : Nat) (n0 : Nat) (k0 : List Nat) (hl0 : n0 < m)   (v1 : Int) (L0_0 : Str) (L0_1 : Int) (L0_2 : Int) (hg0 : getO stk ⟨n0, k0⟩ = some (.cells [(.d (.str L0_0)), (.d (.int .i64 L0_1)), (.d (.int .i64 L0_2))]))  {out} (hp : b_parts_scan_take__0_0 PP   v1 L0_0 L0_1 L0_2 = some out) : (A_parts_scan_take__0_0 xat m n0 k0 v1 L0_0 L0_1 L0_2 stk) = (O_parts_scan_take__0 xsetO m n0 k0 stk) out := by
 have hn0 : (n0 = m) = False := eq_false (Nat.ne_of_lt hl0)
 have hm0 : decide (n0 < m) = true := decide_eq_true hl0
 subst hPP
 simp only [b_parts_scan_take__0_0] at hp
 unfold A_parts_scan_take__0_0
 rw [h.at_, hT]
 cbv
 simp only [if_false, if_true, hn0, hm0, hg0]
 cbv
 cases c1 : xcmp .neq L0_2 0 with
 | false =>
  simp only [c1] at hp ⊢
  cbv
  try simp only [if_false, if_true, hn0, hm0]
  try cbv
  rw [h.at_, hT]
  cbv
  simp only [if_false, if_true, hn0, hm0, hg0]
  cbv
  try simp only [h.slen]
  simp only [if_false, if_true, hn0, hm0, hg0]
  cbv
  cases c2 : xcmp .lss (xar .sub .i64 (pslen L0_0) L0_1) v1 with
  | false =>
   simp only [c2] at hp ⊢
   cbv
   try simp only [if_false, if_true, hn0, hm0]
   try cbv
   rw [h.at_, hT]
   cbv
   simp only [if_false, if_true, hn0, hm0, hg0]
   cbv
   simp only [if_false, if_true, hn0, hm0, hg0]
   cbv
   simp only [if_false, if_true, hn0, hm0, hg0]
   cbv
   cases c4 : pssub L0_0 (some L0_1) (some (xar .add .i64 L0_1 v1)) with
   | none => simp only [c4] at hp; cases hp
   | some s3 =>
    simp only [c4] at hp
    obtain ⟨q0, q1, q2, q3, q4⟩ := h.ssub2 c4
    simp only [q0, q1, q2, q3, q4, Bool.false_eq_true, if_false, if_true]
    cbv
    try simp only [q0, q1, q2, q3, q4, if_true]
    cbv
    simp only [if_false, if_true, hn0, hm0, hg0]
    cbv
    try simp only [if_false, if_true, hn0, hm0, hg0]
    try cbv
    try simp only [h.set_o, h.st_, h.sb_ hl0, if_false, if_true, hn0, hm0, (h.gs (hg0) _)]
    try cbv
    cases hp
    try simp only [O_parts_scan_take__0, Sum.elim_inl, Sum.elim_inr]
    try (simp only [h.so])
    try simp only [if_false, if_true, hn0, hm0]
    all_goals first | rfl | (cbv; done) | (simp only [h.nadd0, h.nle_refl, h.cut_all, h.cut_nil, h.map_cons, h.map_nil, h.mapE_nil, h.len_nil, he_e_string, he_e_uint8, O_parts_scan_take__0, if_true]; done) | (simp only [h.nadd0, h.nle_refl, h.cut_all, h.cut_nil, h.map_cons, h.map_nil, h.mapE_nil, h.len_nil, he_e_string, he_e_uint8, O_parts_scan_take__0, if_true]; first | rfl | (cbv; done) | (cbv; simp only [h.map_cons, h.map_nil, h.mapE_nil, h.len_nil, he_e_string, he_e_uint8, O_parts_scan_take__0]; done))
  | true =>
   simp only [c2] at hp ⊢
   cbv
   simp only [if_false, if_true, hn0, hm0, hg0]
   cbv
   try simp only [h.slen]
   try simp only [if_false, if_true, hn0, hm0, hg0]
   try cbv
   try simp only [h.set_o, h.st_, h.sb_ hl0, if_false, if_true, hn0, hm0, (h.gs (hg0) _)]
   try cbv
   try simp only [if_false, if_true, hn0, hm0, (h.gs (hg0) _)]
   try cbv
   try simp only [h.set_o, h.st_, h.sb_ hl0, if_false, if_true, hn0, hm0, (h.gs (hg0) _)]
   try simp only [h.so, if_false, if_true, hn0, hm0, (h.gs (hg0) _)]
   try cbv
   cases hp
   try simp only [O_parts_scan_take__0, Sum.elim_inl, Sum.elim_inr]
   try (simp only [h.so])
   try simp only [if_false, if_true, hn0, hm0]
   all_goals first | rfl | (cbv; done) | (simp only [h.nadd0, h.nle_refl, h.cut_all, h.cut_nil, h.map_cons, h.map_nil, h.mapE_nil, h.len_nil, he_e_string, he_e_uint8, O_parts_scan_take__0, if_true]; done) | (simp only [h.nadd0, h.nle_refl, h.cut_all, h.cut_nil, h.map_cons, h.map_nil, h.mapE_nil, h.len_nil, he_e_string, he_e_uint8, O_parts_scan_take__0, if_true]; first | rfl | (cbv; done) | (cbv; simp only [h.map_cons, h.map_nil, h.mapE_nil, h.len_nil, he_e_string, he_e_uint8, O_parts_scan_take__0]; done))
 | true =>
  simp only [c1] at hp ⊢
  cbv
  cases hp
  try simp only [O_parts_scan_take__0, Sum.elim_inl, Sum.elim_inr]
  try (simp only [h.ss hg0])
  try simp only [if_false, if_true, hn0, hm0]
  all_goals first | rfl | (cbv; done)
def b_parts_scan_part__0_0 (P : Prims) (c_parts_scan_text__0 : Str → Str → Int → Int → Option (Str × Int × Int)) (c_parts_scan_is__0 : Int → Str → Int → Int → Option (Bool)) (c_parts_scan_number__0 : Str → Int → Int → Option (Int × Str × Int × Int)) (c_parts_scan_take__0 : Int → Str → Int → Int → Option (Str × Str × Int × Int))  (L0_0 : Str) (L0_1 : Int) (L0_2 : Int) : Option (Str × Bool × Str × Int × Int) :=
 match c_parts_scan_text__0 [45, 45, 99, 117, 116] L0_0 L0_1 L0_2 with
 | none => none
 | some (r1_w0_0, r1_w0_1, r1_w0_2) =>
  match c_parts_scan_is__0 45 r1_w0_0 r1_w0_1 r1_w0_2 with
  | none => none
  | some r3_0 =>
   match r3_0 with
   | false =>
    match c_parts_scan_text__0 [13, 10, 67, 111, 110, 116, 101, 110, 116, 45, 84, 121, 112, 101, 58, 32, 97, 112, 112, 108, 105, 99, 97, 116, 105, 111, 110, 47, 106, 115, 111, 110, 13, 10, 67, 111, 110, 116, 101, 110, 116, 45, 76, 101, 110, 103, 116, 104, 58, 32] r1_w0_0 r1_w0_1 r1_w0_2 with
    | none => none
    | some (r9_w0_0, r9_w0_1, r9_w0_2) =>
     match c_parts_scan_number__0 r9_w0_0 r9_w0_1 r9_w0_2 with
     | none => none
     | some (r11_0, r11_w0_0, r11_w0_1, r11_w0_2) =>
      match c_parts_scan_text__0 [13, 10, 13, 10] r11_w0_0 r11_w0_1 r11_w0_2 with
      | none => none
      | some (r13_w0_0, r13_w0_1, r13_w0_2) =>
       match c_parts_scan_take__0 r11_0 r13_w0_0 r13_w0_1 r13_w0_2 with
       | none => none
       | some (r15_0, r15_w0_0, r15_w0_1, r15_w0_2) =>
        match c_parts_scan_text__0 [13, 10] r15_w0_0 r15_w0_1 r15_w0_2 with
        | none => none
        | some (r17_w0_0, r17_w0_1, r17_w0_2) =>
         some (r15_0, true, r17_w0_0, r17_w0_1, r17_w0_2)
   | true =>
    match c_parts_scan_text__0 [45, 45, 13, 10] r1_w0_0 r1_w0_1 r1_w0_2 with
    | none => none
    | some (r6_w0_0, r6_w0_1, r6_w0_2) =>
     some ([], false, r6_w0_0, r6_w0_1, r6_w0_2)
theorem o_parts_scan_part__0_0 (c_parts_scan_text__0 : Str → Str → Int → Int → Option (Str × Int × Int)) (c_parts_scan_is__0 : Int → Str → Int → Int → Option (Bool)) (c_parts_scan_number__0 : Str → Int → Int → Option (Int × Str × Int × Int)) (c_parts_scan_take__0 : Int → Str → Int → Int → Option (Str × Str × Int × Int)) (h_parts_scan_text__0 : (C_parts_scan_text__0 xfcall xsetO c_parts_scan_text__0)) (h_parts_scan_is__0 : (C_parts_scan_is__0 xpcall xfcall c_parts_scan_is__0)) (h_parts_scan_number__0 : (C_parts_scan_number__0 xfcall xsetO c_parts_scan_number__0)) (h_parts_scan_take__0 : (C_parts_scan_take__0 xfcall xsetO c_parts_scan_take__0)) (stk : Stk) (m : Nat) (n0 : Nat) (k0 : List Nat) (hl0 : n0 < m)   (L0_0 : Str) (L0_1 : Int) (L0_2 : Int) (hg0 : getO stk ⟨n0, k0⟩ = some (.cells [(.d (.str L0_0)), (.d (.int .i64 L0_1)), (.d (.int .i64 L0_2))]))  {out} (hp : b_parts_scan_part__0_0 PP c_parts_scan_text__0 c_parts_scan_is__0 c_parts_scan_number__0 c_parts_scan_take__0  L0_0 L0_1 L0_2 = some out) : (A_parts_scan_part__0_0 xat m n0 k0 L0_0 L0_1 L0_2 stk) = (O_parts_scan_part__0 xsetO m n0 k0 stk) out := by
 have hn0 : (n0 = m) = False := eq_false (Nat.ne_of_lt hl0)
 have hm0 : decide (n0 < m) = true := decide_eq_true hl0
 subst hPP
 simp only [b_parts_scan_part__0_0] at hp
 unfold A_parts_scan_part__0_0
 rw [h.at_, hT]
 cbv
 cases c2 : c_parts_scan_text__0 [45, 45, 99, 117, 116] L0_0 L0_1 L0_2 with
 | none => simp only [c2] at hp; cases hp
 | some y24 =>
  obtain ⟨r1_w0_0, r1_w0_1, r1_w0_2⟩ := y24
  simp only [c2] at hp
  have qc := h_parts_scan_text__0 c2 (⟨m, []⟩ :: stk) n0 k0 ((h.gb hl0 _ _).trans (hg0)) (Nat.le_of_lt hl0)
  simp only [qc]
  simp only [h.st_, h.sb_ hl0]
  cbv
  cases c4 : c_parts_scan_is__0 45 r1_w0_0 r1_w0_1 r1_w0_2 with
  | none => simp only [c4] at hp; cases hp
  | some r3_0 =>
   simp only [c4] at hp
   have qc := (h_parts_scan_is__0 c4 (⟨m, []⟩ :: (xsetO stk ⟨n0, k0⟩ (.cells [(.d (.str r1_w0_0)), (.d (.int .i64 r1_w0_1)), (.d (.int .i64 r1_w0_2))]))) n0 k0 ((h.gb hl0 _ _).trans ((h.gs (hg0) _))) (Nat.le_of_lt hl0)).1
   simp only [qc]
   cbv
   cases r3_0 with
   | false =>
    simp only at hp
    cbv
    try simp only [if_false, if_true, hn0, hm0]
    try cbv
    rw [h.at_, hT]
    cbv
    cases c10 : c_parts_scan_text__0 [13, 10, 67, 111, 110, 116, 101, 110, 116, 45, 84, 121, 112, 101, 58, 32, 97, 112, 112, 108, 105, 99, 97, 116, 105, 111, 110, 47, 106, 115, 111, 110, 13, 10, 67, 111, 110, 116, 101, 110, 116, 45, 76, 101, 110, 103, 116, 104, 58, 32] r1_w0_0 r1_w0_1 r1_w0_2 with
    | none => simp only [c10] at hp; cases hp
    | some y23 =>
     obtain ⟨r9_w0_0, r9_w0_1, r9_w0_2⟩ := y23
     simp only [c10] at hp
     have qc := h_parts_scan_text__0 c10 (⟨m, []⟩ :: (xsetO stk ⟨n0, k0⟩ (.cells [(.d (.str r1_w0_0)), (.d (.int .i64 r1_w0_1)), (.d (.int .i64 r1_w0_2))]))) n0 k0 ((h.gb hl0 _ _).trans ((h.gs (hg0) _))) (Nat.le_of_lt hl0)
     simp only [qc]
     simp only [h.st_, h.sb_ hl0]
     try simp only [h.so]
     cbv
     cases c12 : c_parts_scan_number__0 r9_w0_0 r9_w0_1 r9_w0_2 with
     | none => simp only [c12] at hp; cases hp
     | some y22 =>
      obtain ⟨r11_0, r11_w0_0, r11_w0_1, r11_w0_2⟩ := y22
      simp only [c12] at hp
      have qc := h_parts_scan_number__0 c12 (⟨m, []⟩ :: (xsetO stk ⟨n0, k0⟩ (.cells [(.d (.str r9_w0_0)), (.d (.int .i64 r9_w0_1)), (.d (.int .i64 r9_w0_2))]))) n0 k0 ((h.gb hl0 _ _).trans ((h.gs (hg0) _))) (Nat.le_of_lt hl0)
      simp only [qc]
      simp only [h.st_, h.sb_ hl0]
      try simp only [h.so]
      cbv
      cases c14 : c_parts_scan_text__0 [13, 10, 13, 10] r11_w0_0 r11_w0_1 r11_w0_2 with
      | none => simp only [c14] at hp; cases hp
      | some y21 =>
       obtain ⟨r13_w0_0, r13_w0_1, r13_w0_2⟩ := y21
       simp only [c14] at hp
       have qc := h_parts_scan_text__0 c14 (⟨m, []⟩ :: (xsetO stk ⟨n0, k0⟩ (.cells [(.d (.str r11_w0_0)), (.d (.int .i64 r11_w0_1)), (.d (.int .i64 r11_w0_2))]))) n0 k0 ((h.gb hl0 _ _).trans ((h.gs (hg0) _))) (Nat.le_of_lt hl0)
       simp only [qc]
       simp only [h.st_, h.sb_ hl0]
       try simp only [h.so]
       cbv
       cases c16 : c_parts_scan_take__0 r11_0 r13_w0_0 r13_w0_1 r13_w0_2 with
       | none => simp only [c16] at hp; cases hp
       | some y20 =>
        obtain ⟨r15_0, r15_w0_0, r15_w0_1, r15_w0_2⟩ := y20
        simp only [c16] at hp
        have qc := h_parts_scan_take__0 c16 (⟨m, []⟩ :: (xsetO stk ⟨n0, k0⟩ (.cells [(.d (.str r13_w0_0)), (.d (.int .i64 r13_w0_1)), (.d (.int .i64 r13_w0_2))]))) n0 k0 ((h.gb hl0 _ _).trans ((h.gs (hg0) _))) (Nat.le_of_lt hl0)
        simp only [qc]
        simp only [h.st_, h.sb_ hl0]
        try simp only [h.so]
        cbv
        cases c18 : c_parts_scan_text__0 [13, 10] r15_w0_0 r15_w0_1 r15_w0_2 with
        | none => simp only [c18] at hp; cases hp
        | some y19 =>
         obtain ⟨r17_w0_0, r17_w0_1, r17_w0_2⟩ := y19
         simp only [c18] at hp
         have qc := h_parts_scan_text__0 c18 (⟨m, []⟩ :: (xsetO stk ⟨n0, k0⟩ (.cells [(.d (.str r15_w0_0)), (.d (.int .i64 r15_w0_1)), (.d (.int .i64 r15_w0_2))]))) n0 k0 ((h.gb hl0 _ _).trans ((h.gs (hg0) _))) (Nat.le_of_lt hl0)
         simp only [qc]
         simp only [h.st_, h.sb_ hl0]
         try simp only [h.so]
         cbv
         cases hp
         try simp only [O_parts_scan_part__0, Sum.elim_inl, Sum.elim_inr]
         try (simp only [h.so])
         try simp only [if_false, if_true, hn0, hm0]
         all_goals first | rfl | (cbv; done) | (simp only [h.nadd0, h.nle_refl, h.cut_all, h.cut_nil, h.map_cons, h.map_nil, h.mapE_nil, h.len_nil, he_e_string, he_e_uint8, O_parts_scan_part__0, if_true]; done) | (simp only [h.nadd0, h.nle_refl, h.cut_all, h.cut_nil, h.map_cons, h.map_nil, h.mapE_nil, h.len_nil, he_e_string, he_e_uint8, O_parts_scan_part__0, if_true]; first | rfl | (cbv; done) | (cbv; simp only [h.map_cons, h.map_nil, h.mapE_nil, h.len_nil, he_e_string, he_e_uint8, O_parts_scan_part__0]; done))
   | true =>
    simp only at hp
    cbv
    cases c7 : c_parts_scan_text__0 [45, 45, 13, 10] r1_w0_0 r1_w0_1 r1_w0_2 with
    | none => simp only [c7] at hp; cases hp
    | some y8 =>
     obtain ⟨r6_w0_0, r6_w0_1, r6_w0_2⟩ := y8
     simp only [c7] at hp
     have qc := h_parts_scan_text__0 c7 (⟨m, []⟩ :: (xsetO stk ⟨n0, k0⟩ (.cells [(.d (.str r1_w0_0)), (.d (.int .i64 r1_w0_1)), (.d (.int .i64 r1_w0_2))]))) n0 k0 ((h.gb hl0 _ _).trans ((h.gs (hg0) _))) (Nat.le_of_lt hl0)
     simp only [qc]
     simp only [h.st_, h.sb_ hl0]
     try simp only [h.so]
     cbv
     cases hp
     try simp only [O_parts_scan_part__0, Sum.elim_inl, Sum.elim_inr]
     try (simp only [h.so])
     try simp only [if_false, if_true, hn0, hm0]
     all_goals first | rfl | (cbv; done) | (simp only [h.nadd0, h.nle_refl, h.cut_all, h.cut_nil, h.map_cons, h.map_nil, h.mapE_nil, h.len_nil, he_e_string, he_e_uint8, O_parts_scan_part__0, if_true]; done) | (simp only [h.nadd0, h.nle_refl, h.cut_all, h.cut_nil, h.map_cons, h.map_nil, h.mapE_nil, h.len_nil, he_e_string, he_e_uint8, O_parts_scan_part__0, if_true]; first | rfl | (cbv; done) | (cbv; simp only [h.map_cons, h.map_nil, h.mapE_nil, h.len_nil, he_e_string, he_e_uint8, O_parts_scan_part__0]; done))
def b_parts_Reader_Next__0_0 (P : Prims) (c_parts_scan_part__0 : Str → Int → Int → Option (Str × Bool × Str × Int × Int)) (c_parts_Reader_Next__0 : Str → Int → Bool → Int → Option (Str × Bool × Str × Int × Bool × Int))  (L0_0 : Str) (L0_1 : Int) (L0_2 : Bool) (L0_3 : Int) : Option (Str × Bool × Str × Int × Bool × Int) :=
 match P.cmp .gtr L0_3 0 with
 | false =>
  match P.seq L0_0 [] with
  | false =>
   match L0_2 with
   | false =>
    match c_parts_scan_part__0 L0_0 0 0 with
    | none => none
    | some (r4_0, r4_1, r4_w0_0, r4_w0_1, r4_w0_2) =>
     match P.cmp .eql r4_w0_2 2 with
     | false =>
      match P.cmp .eql r4_w0_2 1 with
      | false =>
       match P.ssub L0_0 (some r4_w0_1) none with
       | none => none
       | some s8 =>
        match r4_1 with
        | false =>
         match c_parts_Reader_Next__0 s8 (P.ar .add .i64 L0_1 r4_w0_1) true L0_3 with
         | none => none
         | some (r11_0, r11_1, r11_w0_0, r11_w0_1, r11_w0_2, r11_w0_3) =>
          some (r11_0, r11_1, r11_w0_0, r11_w0_1, r11_w0_2, r11_w0_3)
        | true =>
         some (r4_0, true, s8, P.ar .add .i64 L0_1 r4_w0_1, false, L0_3)
      | true =>
       some ([], false, L0_0, L0_1, false, L0_3)
     | true =>
      some ([], false, L0_0, L0_1, false, P.ar .add .i64 (P.ar .add .i64 L0_1 r4_w0_1) 1)
   | true =>
    some ([], false, L0_0, L0_1, true, P.ar .add .i64 L0_1 1)
  | true =>
   some ([], false, L0_0, L0_1, L0_2, L0_3)
 | true =>
  some ([], false, L0_0, L0_1, L0_2, L0_3)
theorem o_parts_Reader_Next__0_0 (c_parts_scan_part__0 : Str → Int → Int → Option (Str × Bool × Str × Int × Int)) (c_parts_Reader_Next__0 : Str → Int → Bool → Int → Option (Str × Bool × Str × Int × Bool × Int)) (h_parts_scan_part__0 : (C_parts_scan_part__0 xfcall xsetO c_parts_scan_part__0)) (h_parts_Reader_Next__0 : (C_parts_Reader_Next__0 xfcall xsetO c_parts_Reader_Next__0)) (stk : Stk) (m : Nat) (n0 : Nat) (k0 : List Nat) (hl0 : n0 < m)   (L0_0 : Str) (L0_1 : Int) (L0_2 : Bool) (L0_3 : Int) (hg0 : getO stk ⟨n0, k0⟩ = some (.cells [(.d (.str L0_0)), (.d (.int .i64 L0_1)), (.d (.bool L0_2)), (.d (.int .i64 L0_3))]))  {out} (hp : b_parts_Reader_Next__0_0 PP c_parts_scan_part__0 c_parts_Reader_Next__0  L0_0 L0_1 L0_2 L0_3 = some out) : (A_parts_Reader_Next__0_0 xat m n0 k0 L0_0 L0_1 L0_2 L0_3 stk) = (O_parts_Reader_Next__0 xsetO m n0 k0 stk) out := by
 have hn0 : (n0 = m) = False := eq_false (Nat.ne_of_lt hl0)
 have hm0 : decide (n0 < m) = true := decide_eq_true hl0
 subst hPP
 simp only [b_parts_Reader_Next__0_0] at hp
 unfold A_parts_Reader_Next__0_0
 rw [h.at_, hT]
 cbv
 simp only [if_false, if_true, hn0, hm0, hg0]
 cbv
 cases c1 : xcmp .gtr L0_3 0 with
 | false =>
  simp only [c1] at hp ⊢
  cbv
  simp only [if_false, if_true, hn0, hm0, hg0]
  cbv
  cases c2 : xseq L0_0 [] with
  | false =>
   simp only [c2] at hp ⊢
   cbv
   simp only [if_false, if_true, hn0, hm0, hg0]
   cbv
   cases L0_2 with
   | false =>
    simp only at hp
    cbv
    try simp only [if_false, if_true, hn0, hm0]
    try cbv
    rw [h.at_, hT]
    cbv
    simp only [if_false, if_true, hn0, hm0, hg0]
    cbv
    cases c5 : c_parts_scan_part__0 L0_0 0 0 with
    | none => simp only [c5] at hp; cases hp
    | some y14 =>
     obtain ⟨r4_0, r4_1, r4_w0_0, r4_w0_1, r4_w0_2⟩ := y14
     simp only [c5] at hp
     have qc := h_parts_scan_part__0 c5 (⟨m, [([38], (.cells [(.d (.str L0_0)), (.d (.int .i64 0)), (.d (.int .i64 0))]))]⟩ :: stk) m [38] (h.gt _ _ _ _) (Nat.le_refl _)
     simp only [qc]
     simp only [h.st_]
     cbv
     cases c6 : xcmp .eql r4_w0_2 2 with
     | false =>
      simp only [c6] at hp ⊢
      cbv
      cases c7 : xcmp .eql r4_w0_2 1 with
      | false =>
       simp only [c7] at hp ⊢
       cbv
       try simp only [if_false, if_true, hn0, hm0]
       try cbv
       rw [h.at_, hT]
       cbv
       simp only [if_false, if_true, hn0, hm0, hg0]
       cbv
       cases c9 : pssub L0_0 (some r4_w0_1) none with
       | none => simp only [c9] at hp; cases hp
       | some s8 =>
        simp only [c9] at hp
        obtain ⟨q0, q1, q2, q3⟩ := h.ssub1 c9
        simp only [q0, q1, q2, q3, Bool.false_eq_true, if_false, if_true]
        cbv
        try simp only [q0, q1, q2, q3, if_true]
        cbv
        simp only [if_false, if_true, hn0, hm0, hg0]
        cbv
        try simp only [if_false, if_true, hn0, hm0, hg0]
        try cbv
        try simp only [h.set_o, h.st_, h.sb_ hl0, if_false, if_true, hn0, hm0, (h.gs (hg0) _)]
        try cbv
        try simp only [if_false, if_true, hn0, hm0, (h.gs (hg0) _)]
        try cbv
        try simp only [h.set_o, h.st_, h.sb_ hl0, if_false, if_true, hn0, hm0, (h.gs (hg0) _)]
        try simp only [h.so, if_false, if_true, hn0, hm0, (h.gs (hg0) _)]
        try cbv
        cases r4_1 with
        | false =>
         simp only at hp
         cbv
         try simp only [if_false, if_true, hn0, hm0, (h.gs (hg0) _)]
         try cbv
         try simp only [h.set_o, h.st_, h.sb_ hl0, if_false, if_true, hn0, hm0, (h.gs (hg0) _)]
         try simp only [h.so, if_false, if_true, hn0, hm0, (h.gs (hg0) _)]
         try cbv
         cases c12 : c_parts_Reader_Next__0 s8 (xar .add .i64 L0_1 r4_w0_1) true L0_3 with
         | none => simp only [c12] at hp; cases hp
         | some y13 =>
          obtain ⟨r11_0, r11_1, r11_w0_0, r11_w0_1, r11_w0_2, r11_w0_3⟩ := y13
          simp only [c12] at hp
          have qc := h_parts_Reader_Next__0 c12 (⟨m, [([38], (.cells [(.d (.str r4_w0_0)), (.d (.int .i64 r4_w0_1)), (.d (.int .i64 r4_w0_2))]))]⟩ :: (xsetO stk ⟨n0, k0⟩ (.cells [(.d (.str s8)), (.d (.int .i64 (xar .add .i64 L0_1 r4_w0_1))), (.d (.bool true)), (.d (.int .i64 L0_3))]))) n0 k0 ((h.gb hl0 _ _).trans ((h.gs (hg0) _))) (Nat.le_of_lt hl0)
          simp only [qc]
          simp only [h.st_, h.sb_ hl0]
          try simp only [h.so]
          cbv
          cases hp
          try simp only [O_parts_Reader_Next__0, Sum.elim_inl, Sum.elim_inr]
          try (simp only [h.so])
          try simp only [if_false, if_true, hn0, hm0]
          all_goals first | rfl | (cbv; done) | (simp only [h.nadd0, h.nle_refl, h.cut_all, h.cut_nil, h.map_cons, h.map_nil, h.mapE_nil, h.len_nil, he_e_string, he_e_uint8, O_parts_Reader_Next__0, if_true]; done) | (simp only [h.nadd0, h.nle_refl, h.cut_all, h.cut_nil, h.map_cons, h.map_nil, h.mapE_nil, h.len_nil, he_e_string, he_e_uint8, O_parts_Reader_Next__0, if_true]; first | rfl | (cbv; done) | (cbv; simp only [h.map_cons, h.map_nil, h.mapE_nil, h.len_nil, he_e_string, he_e_uint8, O_parts_Reader_Next__0]; done))
        | true =>
         simp only at hp
         cbv
         try simp only [if_false, if_true, hn0, hm0]
         try cbv
         rw [h.at_, hT]
         cbv
         cases hp
         try simp only [O_parts_Reader_Next__0, Sum.elim_inl, Sum.elim_inr]
         try (simp only [h.so])
         try simp only [if_false, if_true, hn0, hm0]
         all_goals first | rfl | (cbv; done) | (simp only [h.nadd0, h.nle_refl, h.cut_all, h.cut_nil, h.map_cons, h.map_nil, h.mapE_nil, h.len_nil, he_e_string, he_e_uint8, O_parts_Reader_Next__0, if_true]; done) | (simp only [h.nadd0, h.nle_refl, h.cut_all, h.cut_nil, h.map_cons, h.map_nil, h.mapE_nil, h.len_nil, he_e_string, he_e_uint8, O_parts_Reader_Next__0, if_true]; first | rfl | (cbv; done) | (cbv; simp only [h.map_cons, h.map_nil, h.mapE_nil, h.len_nil, he_e_string, he_e_uint8, O_parts_Reader_Next__0]; done))
      | true =>
       simp only [c7] at hp ⊢
       cbv
       cases hp
       try simp only [O_parts_Reader_Next__0, Sum.elim_inl, Sum.elim_inr]
       try (simp only [h.ss hg0])
       try simp only [if_false, if_true, hn0, hm0]
       all_goals first | rfl | (cbv; done)
     | true =>
      simp only [c6] at hp ⊢
      cbv
      simp only [if_false, if_true, hn0, hm0, hg0]
      cbv
      try simp only [if_false, if_true, hn0, hm0, hg0]
      try cbv
      try simp only [h.set_o, h.st_, h.sb_ hl0, if_false, if_true, hn0, hm0, (h.gs (hg0) _)]
      try cbv
      cases hp
      try simp only [O_parts_Reader_Next__0, Sum.elim_inl, Sum.elim_inr]
      try (simp only [h.so])
      try simp only [if_false, if_true, hn0, hm0]
      all_goals first | rfl | (cbv; done) | (simp only [h.nadd0, h.nle_refl, h.cut_all, h.cut_nil, h.map_cons, h.map_nil, h.mapE_nil, h.len_nil, he_e_string, he_e_uint8, O_parts_Reader_Next__0, if_true]; done) | (simp only [h.nadd0, h.nle_refl, h.cut_all, h.cut_nil, h.map_cons, h.map_nil, h.mapE_nil, h.len_nil, he_e_string, he_e_uint8, O_parts_Reader_Next__0, if_true]; first | rfl | (cbv; done) | (cbv; simp only [h.map_cons, h.map_nil, h.mapE_nil, h.len_nil, he_e_string, he_e_uint8, O_parts_Reader_Next__0]; done))
   | true =>
    simp only at hp
    cbv
    simp only [if_false, if_true, hn0, hm0, hg0]
    cbv
    try simp only [if_false, if_true, hn0, hm0, hg0]
    try cbv
    try simp only [h.set_o, h.st_, h.sb_ hl0, if_false, if_true, hn0, hm0, (h.gs (hg0) _)]
    try cbv
    cases hp
    try simp only [O_parts_Reader_Next__0, Sum.elim_inl, Sum.elim_inr]
    try (simp only [h.so])
    try simp only [if_false, if_true, hn0, hm0]
    all_goals first | rfl | (cbv; done) | (simp only [h.nadd0, h.nle_refl, h.cut_all, h.cut_nil, h.map_cons, h.map_nil, h.mapE_nil, h.len_nil, he_e_string, he_e_uint8, O_parts_Reader_Next__0, if_true]; done) | (simp only [h.nadd0, h.nle_refl, h.cut_all, h.cut_nil, h.map_cons, h.map_nil, h.mapE_nil, h.len_nil, he_e_string, he_e_uint8, O_parts_Reader_Next__0, if_true]; first | rfl | (cbv; done) | (cbv; simp only [h.map_cons, h.map_nil, h.mapE_nil, h.len_nil, he_e_string, he_e_uint8, O_parts_Reader_Next__0]; done))
  | true =>
   simp only [c2] at hp ⊢
   cbv
   cases hp
   try simp only [O_parts_Reader_Next__0, Sum.elim_inl, Sum.elim_inr]
   try (simp only [h.ss hg0])
   try simp only [if_false, if_true, hn0, hm0]
   all_goals first | rfl | (cbv; done)
 | true =>
  simp only [c1] at hp ⊢
  cbv
  cases hp
  try simp only [O_parts_Reader_Next__0, Sum.elim_inl, Sum.elim_inr]
  try (simp only [h.ss hg0])
  try simp only [if_false, if_true, hn0, hm0]
  all_goals first | rfl | (cbv; done)
def b_cascadelaw28_drain__0_0 (P : Prims) (c_parts_Reader_Next__0 : Str → Int → Bool → Int → Option (Str × Bool × Str × Int × Bool × Int)) (l_1 : T_cascadelaw28_drain__0_1) (L0_0 : Str) (L0_1 : Int) (L0_2 : Bool) (L0_3 : Int) : Option ((List Str) × Str × Int × Bool × Int) :=
 l_1 0 L0_0 L0_1 L0_2 L0_3
theorem o_cascadelaw28_drain__0_0 (c_parts_Reader_Next__0 : Str → Int → Bool → Int → Option (Str × Bool × Str × Int × Bool × Int)) (h_parts_Reader_Next__0 : (C_parts_Reader_Next__0 xfcall xsetO c_parts_Reader_Next__0)) (stk : Stk) (m : Nat) (n0 : Nat) (k0 : List Nat) (hl0 : n0 < m)  (l_1 : T_cascadelaw28_drain__0_1) (L0_0 : Str) (L0_1 : Int) (L0_2 : Bool) (L0_3 : Int) (hg0 : getO stk ⟨n0, k0⟩ = some (.cells [(.d (.str L0_0)), (.d (.int .i64 L0_1)), (.d (.bool L0_2)), (.d (.int .i64 L0_3))])) (h_l_1 : H_cascadelaw28_drain__0_1 xat @xmap xsetO e_string m n0 k0 l_1) {out} (hp : b_cascadelaw28_drain__0_0 PP c_parts_Reader_Next__0 l_1 L0_0 L0_1 L0_2 L0_3 = some out) : (A_cascadelaw28_drain__0_0 xat m n0 k0 L0_0 L0_1 L0_2 L0_3 stk) = (O_cascadelaw28_drain__0 @xmap xsetO e_string m n0 k0 stk) out := by
 have hn0 : (n0 = m) = False := eq_false (Nat.ne_of_lt hl0)
 have hm0 : decide (n0 < m) = true := decide_eq_true hl0
 subst hPP
 simp only [b_cascadelaw28_drain__0_0] at hp
 unfold A_cascadelaw28_drain__0_0
 rw [h.at_, hT]
 cbv
 try simp only [if_false, if_true, hn0, hm0]
 first | exact h_l_1 hp stk (hg0) | (have q := h_l_1 hp stk (hg0); simp only [A_cascadelaw28_drain__0_1, h.map_cons, h.map_nil, h.mapE_nil, h.len_nil, he_e_string, he_e_uint8] at q; first | exact q | (cbv; exact q))
def b_cascadelaw28_drain__0_1 (P : Prims) (c_parts_Reader_Next__0 : Str → Int → Bool → Int → Option (Str × Bool × Str × Int × Bool × Int)) (l_2 : T_cascadelaw28_drain__0_2) (l_5 : T_cascadelaw28_drain__0_5) (v5 : Int) (L0_0 : Str) (L0_1 : Int) (L0_2 : Bool) (L0_3 : Int) : Option ((Int × Str × Int × Bool × Int) ⊕ ((List Str) × Str × Int × Bool × Int)) :=
 match P.cmp .lss v5 500 with
 | false =>
  match l_5 L0_0 L0_1 L0_2 L0_3 with | none => none | some o2 => some (.inr o2)
 | true =>
  l_2 v5 L0_0 L0_1 L0_2 L0_3
theorem o_cascadelaw28_drain__0_1 (c_parts_Reader_Next__0 : Str → Int → Bool → Int → Option (Str × Bool × Str × Int × Bool × Int)) (h_parts_Reader_Next__0 : (C_parts_Reader_Next__0 xfcall xsetO c_parts_Reader_Next__0)) (stk : Stk) (m : Nat) (n0 : Nat) (k0 : List Nat) (hl0 : n0 < m)  (l_2 : T_cascadelaw28_drain__0_2) (l_5 : T_cascadelaw28_drain__0_5) (v5 : Int) (L0_0 : Str) (L0_1 : Int) (L0_2 : Bool) (L0_3 : Int) (hg0 : getO stk ⟨n0, k0⟩ = some (.cells [(.d (.str L0_0)), (.d (.int .i64 L0_1)), (.d (.bool L0_2)), (.d (.int .i64 L0_3))])) (h_l_2 : H_cascadelaw28_drain__0_2 xat @xmap xsetO e_string m n0 k0 l_2) (h_l_5 : H_cascadelaw28_drain__0_5 xat @xmap xsetO e_string m n0 k0 l_5) {out} (hp : b_cascadelaw28_drain__0_1 PP c_parts_Reader_Next__0 l_2 l_5 v5 L0_0 L0_1 L0_2 L0_3 = some out) : (A_cascadelaw28_drain__0_1 xat m n0 k0 v5 L0_0 L0_1 L0_2 L0_3 stk) = (Sum.elim (fun (v5, L0_0, L0_1, L0_2, L0_3) => (A_cascadelaw28_drain__0_1 xat m n0 k0 v5 L0_0 L0_1 L0_2 L0_3 (xsetO stk ⟨n0, k0⟩ (.cells [(.d (.str L0_0)), (.d (.int .i64 L0_1)), (.d (.bool L0_2)), (.d (.int .i64 L0_3))])))) (O_cascadelaw28_drain__0 @xmap xsetO e_string m n0 k0 stk)) out := by
 have hn0 : (n0 = m) = False := eq_false (Nat.ne_of_lt hl0)
 have hm0 : decide (n0 < m) = true := decide_eq_true hl0
 subst hPP
 simp only [b_cascadelaw28_drain__0_1] at hp
 unfold A_cascadelaw28_drain__0_1
 rw [h.at_, hT]
 cbv
 cases c1 : xcmp .lss v5 500 with
 | false =>
  simp only [c1] at hp ⊢
  cbv
  cases c : l_5 L0_0 L0_1 L0_2 L0_3 with
  | none => simp only [c] at hp; cases hp
  | some o2 =>
   simp only [c] at hp
   cases hp
   try simp only [if_false, if_true, hn0, hm0]
   first | exact h_l_5 c stk (hg0) | (have q := h_l_5 c stk (hg0); simp only [A_cascadelaw28_drain__0_5, h.map_cons, h.map_nil, h.mapE_nil, h.len_nil, he_e_string, he_e_uint8] at q; first | exact q | (cbv; exact q))
 | true =>
  simp only [c1] at hp ⊢
  cbv
  try simp only [if_false, if_true, hn0, hm0]
  first | exact h_l_2 hp stk (hg0) | (have q := h_l_2 hp stk (hg0); simp only [A_cascadelaw28_drain__0_2, h.map_cons, h.map_nil, h.mapE_nil, h.len_nil, he_e_string, he_e_uint8] at q; first | exact q | (cbv; exact q))
def b_cascadelaw28_drain__0_2 (P : Prims) (c_parts_Reader_Next__0 : Str → Int → Bool → Int → Option (Str × Bool × Str × Int × Bool × Int)) (l_3 : T_cascadelaw28_drain__0_3) (v5 : Int) (L0_0 : Str) (L0_1 : Int) (L0_2 : Bool) (L0_3 : Int) : Option ((Int × Str × Int × Bool × Int) ⊕ ((List Str) × Str × Int × Bool × Int)) :=
 match c_parts_Reader_Next__0 L0_0 L0_1 L0_2 L0_3 with
 | none => none
 | some (r3_0, r3_1, r3_w0_0, r3_w0_1, r3_w0_2, r3_w0_3) =>
  match r3_1 with
  | false =>
   some (.inr ([], r3_w0_0, r3_w0_1, r3_w0_2, r3_w0_3))
  | true =>
   l_3 v5 r3_0 r3_w0_0 r3_w0_1 r3_w0_2 r3_w0_3
theorem o_cascadelaw28_drain__0_2 (c_parts_Reader_Next__0 : Str → Int → Bool → Int → Option (Str × Bool × Str × Int × Bool × Int)) (h_parts_Reader_Next__0 : (C_parts_Reader_Next__0 xfcall xsetO c_parts_Reader_Next__0)) (stk : Stk) (m : Nat) (n0 : Nat) (k0 : List Nat) (hl0 : n0 < m)  (l_3 : T_cascadelaw28_drain__0_3) (v5 : Int) (L0_0 : Str) (L0_1 : Int) (L0_2 : Bool) (L0_3 : Int) (hg0 : getO stk ⟨n0, k0⟩ = some (.cells [(.d (.str L0_0)), (.d (.int .i64 L0_1)), (.d (.bool L0_2)), (.d (.int .i64 L0_3))])) (h_l_3 : H_cascadelaw28_drain__0_3 xat @xmap xsetO e_string m n0 k0 l_3) {out} (hp : b_cascadelaw28_drain__0_2 PP c_parts_Reader_Next__0 l_3 v5 L0_0 L0_1 L0_2 L0_3 = some out) : (A_cascadelaw28_drain__0_2 xat m n0 k0 v5 L0_0 L0_1 L0_2 L0_3 stk) = (Sum.elim (fun (v5, L0_0, L0_1, L0_2, L0_3) => (A_cascadelaw28_drain__0_1 xat m n0 k0 v5 L0_0 L0_1 L0_2 L0_3 (xsetO stk ⟨n0, k0⟩ (.cells [(.d (.str L0_0)), (.d (.int .i64 L0_1)), (.d (.bool L0_2)), (.d (.int .i64 L0_3))])))) (O_cascadelaw28_drain__0 @xmap xsetO e_string m n0 k0 stk)) out := by
 have hn0 : (n0 = m) = False := eq_false (Nat.ne_of_lt hl0)
 have hm0 : decide (n0 < m) = true := decide_eq_true hl0
 subst hPP
 simp only [b_cascadelaw28_drain__0_2] at hp
 unfold A_cascadelaw28_drain__0_2
 rw [h.at_, hT]
 cbv
 cases c4 : c_parts_Reader_Next__0 L0_0 L0_1 L0_2 L0_3 with
 | none => simp only [c4] at hp; cases hp
 | some y6 =>
  obtain ⟨r3_0, r3_1, r3_w0_0, r3_w0_1, r3_w0_2, r3_w0_3⟩ := y6
  simp only [c4] at hp
  have qc := h_parts_Reader_Next__0 c4 (⟨m, []⟩ :: stk) n0 k0 ((h.gb hl0 _ _).trans (hg0)) (Nat.le_of_lt hl0)
  simp only [qc]
  simp only [h.st_, h.sb_ hl0]
  cbv
  cases r3_1 with
  | false =>
   simp only at hp
   cbv
   cases hp
   try simp only [O_cascadelaw28_drain__0, A_cascadelaw28_drain__0_1, Sum.elim_inl, Sum.elim_inr]
   try (simp only [h.so])
   try simp only [if_false, if_true, hn0, hm0]
   all_goals first | rfl | (cbv; done) | (simp only [h.nadd0, h.nle_refl, h.cut_all, h.cut_nil, h.map_cons, h.map_nil, h.mapE_nil, h.len_nil, he_e_string, he_e_uint8, O_cascadelaw28_drain__0, A_cascadelaw28_drain__0_1, if_true]; done) | (simp only [h.nadd0, h.nle_refl, h.cut_all, h.cut_nil, h.map_cons, h.map_nil, h.mapE_nil, h.len_nil, he_e_string, he_e_uint8, O_cascadelaw28_drain__0, A_cascadelaw28_drain__0_1, if_true]; first | rfl | (cbv; done) | (cbv; simp only [h.map_cons, h.map_nil, h.mapE_nil, h.len_nil, he_e_string, he_e_uint8, O_cascadelaw28_drain__0, A_cascadelaw28_drain__0_1]; done))
  | true =>
   simp only at hp
   cbv
   try simp only [if_false, if_true, hn0, hm0]
   have q := h_l_3 hp (xsetO stk ⟨n0, k0⟩ (.cells [(.d (.str r3_w0_0)), (.d (.int .i64 r3_w0_1)), (.d (.bool r3_w0_2)), (.d (.int .i64 r3_w0_3))])) ((h.gs (hg0) _))
   first | (refine q.trans ?_; rcases out with ⟨_, _, _, _, _⟩ | (⟨_, _, _, _, _⟩) <;> first | (simp only [Sum.elim_inl, Sum.elim_inr, h.so, O_cascadelaw28_drain__0, A_cascadelaw28_drain__0_1]; done) | (simp only [Sum.elim_inl, Sum.elim_inr, h.so, O_cascadelaw28_drain__0, A_cascadelaw28_drain__0_1]; rfl)) | (refine q.trans ?_; simp only [h.so, O_cascadelaw28_drain__0, A_cascadelaw28_drain__0_1]; done) | (refine q.trans ?_; simp only [h.so, O_cascadelaw28_drain__0, A_cascadelaw28_drain__0_1]; rfl) | (simp only [h.map_cons, h.map_nil, h.mapE_nil, h.len_nil, he_e_string, he_e_uint8, O_cascadelaw28_drain__0, A_cascadelaw28_drain__0_1, A_cascadelaw28_drain__0_3] at q; cbv; refine q.trans ?_; simp only [h.so, O_cascadelaw28_drain__0, A_cascadelaw28_drain__0_1]; done) | (simp only [h.map_cons, h.map_nil, h.mapE_nil, h.len_nil, he_e_string, he_e_uint8, O_cascadelaw28_drain__0, A_cascadelaw28_drain__0_1, A_cascadelaw28_drain__0_3] at q; cbv; refine q.trans ?_; simp only [h.so, O_cascadelaw28_drain__0, A_cascadelaw28_drain__0_1]; rfl)
def b_cascadelaw28_drain__0_5 (P : Prims) (c_parts_Reader_Next__0 : Str → Int → Bool → Int → Option (Str × Bool × Str × Int × Bool × Int))  (L0_0 : Str) (L0_1 : Int) (L0_2 : Bool) (L0_3 : Int) : Option ((List Str) × Str × Int × Bool × Int) :=
 some ([], L0_0, L0_1, L0_2, L0_3)
theorem o_cascadelaw28_drain__0_5 (c_parts_Reader_Next__0 : Str → Int → Bool → Int → Option (Str × Bool × Str × Int × Bool × Int)) (h_parts_Reader_Next__0 : (C_parts_Reader_Next__0 xfcall xsetO c_parts_Reader_Next__0)) (stk : Stk) (m : Nat) (n0 : Nat) (k0 : List Nat) (hl0 : n0 < m)   (L0_0 : Str) (L0_1 : Int) (L0_2 : Bool) (L0_3 : Int) (hg0 : getO stk ⟨n0, k0⟩ = some (.cells [(.d (.str L0_0)), (.d (.int .i64 L0_1)), (.d (.bool L0_2)), (.d (.int .i64 L0_3))]))  {out} (hp : b_cascadelaw28_drain__0_5 PP c_parts_Reader_Next__0  L0_0 L0_1 L0_2 L0_3 = some out) : (A_cascadelaw28_drain__0_5 xat m n0 k0 L0_0 L0_1 L0_2 L0_3 stk) = (O_cascadelaw28_drain__0 @xmap xsetO e_string m n0 k0 stk) out := by
 have hn0 : (n0 = m) = False := eq_false (Nat.ne_of_lt hl0)
 have hm0 : decide (n0 < m) = true := decide_eq_true hl0
 subst hPP
 simp only [b_cascadelaw28_drain__0_5] at hp
 unfold A_cascadelaw28_drain__0_5
 rw [h.at_, hT]
 cbv
 cases hp
 try simp only [O_cascadelaw28_drain__0, Sum.elim_inl, Sum.elim_inr]
 try (simp only [h.ss hg0])
 try simp only [if_false, if_true, hn0, hm0]
 all_goals first | rfl | (cbv; done) | (simp only [h.nadd0, h.nle_refl, h.cut_all, h.cut_nil, h.map_cons, h.map_nil, h.mapE_nil, h.len_nil, he_e_string, he_e_uint8, O_cascadelaw28_drain__0, if_true]; done) | (simp only [h.nadd0, h.nle_refl, h.cut_all, h.cut_nil, h.map_cons, h.map_nil, h.mapE_nil, h.len_nil, he_e_string, he_e_uint8, O_cascadelaw28_drain__0, if_true]; first | rfl | (cbv; done) | (cbv; simp only [h.map_cons, h.map_nil, h.mapE_nil, h.len_nil, he_e_string, he_e_uint8, O_cascadelaw28_drain__0]; done))
def b_cascadelaw28_drain__0_3 (P : Prims) (c_parts_Reader_Next__0 : Str → Int → Bool → Int → Option (Str × Bool × Str × Int × Bool × Int)) (l_4 : T_cascadelaw28_drain__0_4) (v5 : Int) (v6 : Str) (L0_0 : Str) (L0_1 : Int) (L0_2 : Bool) (L0_3 : Int) : Option ((Int × Str × Int × Bool × Int) ⊕ ((List Str) × Str × Int × Bool × Int)) :=
 match P.app 16 ([] : List Str) [v6] with
 | none => none
 | some l7 =>
  l_4 0 l7 v5 L0_0 L0_1 L0_2 L0_3
theorem o_cascadelaw28_drain__0_3 (c_parts_Reader_Next__0 : Str → Int → Bool → Int → Option (Str × Bool × Str × Int × Bool × Int)) (h_parts_Reader_Next__0 : (C_parts_Reader_Next__0 xfcall xsetO c_parts_Reader_Next__0)) (stk : Stk) (m : Nat) (n0 : Nat) (k0 : List Nat) (hl0 : n0 < m)  (l_4 : T_cascadelaw28_drain__0_4) (v5 : Int) (v6 : Str) (L0_0 : Str) (L0_1 : Int) (L0_2 : Bool) (L0_3 : Int) (hg0 : getO stk ⟨n0, k0⟩ = some (.cells [(.d (.str L0_0)), (.d (.int .i64 L0_1)), (.d (.bool L0_2)), (.d (.int .i64 L0_3))])) (h_l_4 : H_cascadelaw28_drain__0_4 xat @xmap xlen xsetO e_string m n0 k0 l_4) {out} (hp : b_cascadelaw28_drain__0_3 PP c_parts_Reader_Next__0 l_4 v5 v6 L0_0 L0_1 L0_2 L0_3 = some out) : (A_cascadelaw28_drain__0_3 xat m n0 k0 v5 v6 L0_0 L0_1 L0_2 L0_3 stk) = (Sum.elim (fun (v5, L0_0, L0_1, L0_2, L0_3) => (A_cascadelaw28_drain__0_1 xat m n0 k0 v5 L0_0 L0_1 L0_2 L0_3 (xsetO stk ⟨n0, k0⟩ (.cells [(.d (.str L0_0)), (.d (.int .i64 L0_1)), (.d (.bool L0_2)), (.d (.int .i64 L0_3))])))) (O_cascadelaw28_drain__0 @xmap xsetO e_string m n0 k0 stk)) out := by
 have hn0 : (n0 = m) = False := eq_false (Nat.ne_of_lt hl0)
 have hm0 : decide (n0 < m) = true := decide_eq_true hl0
 subst hPP
 simp only [b_cascadelaw28_drain__0_3] at hp
 unfold A_cascadelaw28_drain__0_3
 rw [h.at_, hT]
 cbv
 simp only [h.allsz_nil, h.allsz_cons]
 cbv
 simp only [h.allsz_nil, h.allsz_cons]
 cbv
 cases c8 : papp 16 ([] : List Str) [v6] with
 | none => simp only [c8] at hp; cases hp
 | some l7 =>
  simp only [c8] at hp
  obtain ⟨q1, q2, q3⟩ := h.app0 e_string c8 rfl
  simp only [h.map_cons, h.map_nil, he_e_string] at q1 q2 q3
  simp only [q1, if_true]
  try simp only [q3]
  try simp only [q2]
  cbv
  try simp only [if_false, if_true, hn0, hm0]
  first | exact h_l_4 hp stk (hg0) | (have q := h_l_4 hp stk (hg0); simp only [A_cascadelaw28_drain__0_4, h.map_cons, h.map_nil, h.mapE_nil, h.len_nil, he_e_string, he_e_uint8] at q; first | exact q | (cbv; exact q))
def b_cascadelaw28_drain__0_4 (P : Prims) (c_parts_Reader_Next__0 : Str → Int → Bool → Int → Option (Str × Bool × Str × Int × Bool × Int)) (l_6 : T_cascadelaw28_drain__0_6) (o23_g : Nat) (o23 : (List Str)) (v5 : Int) (L0_0 : Str) (L0_1 : Int) (L0_2 : Bool) (L0_3 : Int) : Option ((Int × Str × Int × Bool × Int) ⊕ ((List Str) × Str × Int × Bool × Int)) :=
 match l_6 o23_g o23 (P.ar .add .i64 v5 1) L0_0 L0_1 L0_2 L0_3 with | none => none | some o9 => some (.inr o9)
theorem o_cascadelaw28_drain__0_4 (c_parts_Reader_Next__0 : Str → Int → Bool → Int → Option (Str × Bool × Str × Int × Bool × Int)) (h_parts_Reader_Next__0 : (C_parts_Reader_Next__0 xfcall xsetO c_parts_Reader_Next__0)) (stk : Stk) (m : Nat) (n0 : Nat) (k0 : List Nat) (hl0 : n0 < m)  (l_6 : T_cascadelaw28_drain__0_6) (o23_g : Nat) (o23 : (List Str)) (v5 : Int) (L0_0 : Str) (L0_1 : Int) (L0_2 : Bool) (L0_3 : Int) (hg0 : getO stk ⟨n0, k0⟩ = some (.cells [(.d (.str L0_0)), (.d (.int .i64 L0_1)), (.d (.bool L0_2)), (.d (.int .i64 L0_3))])) (h_l_6 : H_cascadelaw28_drain__0_6 xat @xmap xlen xsetO e_string m n0 k0 l_6) {out} (hp : b_cascadelaw28_drain__0_4 PP c_parts_Reader_Next__0 l_6 o23_g o23 v5 L0_0 L0_1 L0_2 L0_3 = some out) : (A_cascadelaw28_drain__0_4 xat @xmap xlen e_string m n0 k0 o23_g o23 v5 L0_0 L0_1 L0_2 L0_3 stk) = (Sum.elim (fun (v5, L0_0, L0_1, L0_2, L0_3) => (A_cascadelaw28_drain__0_1 xat m n0 k0 v5 L0_0 L0_1 L0_2 L0_3 (xsetO stk ⟨n0, k0⟩ (.cells [(.d (.str L0_0)), (.d (.int .i64 L0_1)), (.d (.bool L0_2)), (.d (.int .i64 L0_3))])))) (O_cascadelaw28_drain__0 @xmap xsetO e_string m n0 k0 stk)) out := by
 have hn0 : (n0 = m) = False := eq_false (Nat.ne_of_lt hl0)
 have hm0 : decide (n0 < m) = true := decide_eq_true hl0
 subst hPP
 simp only [b_cascadelaw28_drain__0_4] at hp
 unfold A_cascadelaw28_drain__0_4
 rw [h.at_, hT]
 cbv
 cases c : l_6 o23_g o23 (xar .add .i64 v5 1) L0_0 L0_1 L0_2 L0_3 with
 | none => simp only [c] at hp; cases hp
 | some o9 =>
  simp only [c] at hp
  cases hp
  try simp only [if_false, if_true, hn0, hm0]
  first | exact h_l_6 c stk (hg0) | (have q := h_l_6 c stk (hg0); simp only [A_cascadelaw28_drain__0_6, h.map_cons, h.map_nil, h.mapE_nil, h.len_nil, he_e_string, he_e_uint8] at q; first | exact q | (cbv; exact q))
def b_cascadelaw28_drain__0_6 (P : Prims) (c_parts_Reader_Next__0 : Str → Int → Bool → Int → Option (Str × Bool × Str × Int × Bool × Int)) (l_7 : T_cascadelaw28_drain__0_7) (l_8 : T_cascadelaw28_drain__0_8) (o23_g : Nat) (o23 : (List Str)) (v5 : Int) (L0_0 : Str) (L0_1 : Int) (L0_2 : Bool) (L0_3 : Int) : Option ((Nat × (List Str) × Int × Str × Int × Bool × Int) ⊕ ((List Str) × Str × Int × Bool × Int)) :=
 match P.cmp .lss v5 500 with
 | false =>
  match l_8 o23_g o23 L0_0 L0_1 L0_2 L0_3 with | none => none | some o11 => some (.inr o11)
 | true =>
  l_7 o23_g o23 v5 L0_0 L0_1 L0_2 L0_3
theorem o_cascadelaw28_drain__0_6 (c_parts_Reader_Next__0 : Str → Int → Bool → Int → Option (Str × Bool × Str × Int × Bool × Int)) (h_parts_Reader_Next__0 : (C_parts_Reader_Next__0 xfcall xsetO c_parts_Reader_Next__0)) (stk : Stk) (m : Nat) (n0 : Nat) (k0 : List Nat) (hl0 : n0 < m)  (l_7 : T_cascadelaw28_drain__0_7) (l_8 : T_cascadelaw28_drain__0_8) (o23_g : Nat) (o23 : (List Str)) (v5 : Int) (L0_0 : Str) (L0_1 : Int) (L0_2 : Bool) (L0_3 : Int) (hg0 : getO stk ⟨n0, k0⟩ = some (.cells [(.d (.str L0_0)), (.d (.int .i64 L0_1)), (.d (.bool L0_2)), (.d (.int .i64 L0_3))])) (h_l_7 : H_cascadelaw28_drain__0_7 xat @xmap xlen xsetO e_string m n0 k0 l_7) (h_l_8 : H_cascadelaw28_drain__0_8 xat @xmap xlen xsetO e_string m n0 k0 l_8) {out} (hp : b_cascadelaw28_drain__0_6 PP c_parts_Reader_Next__0 l_7 l_8 o23_g o23 v5 L0_0 L0_1 L0_2 L0_3 = some out) : (A_cascadelaw28_drain__0_6 xat @xmap xlen e_string m n0 k0 o23_g o23 v5 L0_0 L0_1 L0_2 L0_3 stk) = (Sum.elim (fun (o23_g, o23, v5, L0_0, L0_1, L0_2, L0_3) => (A_cascadelaw28_drain__0_6 xat @xmap xlen e_string m n0 k0 o23_g o23 v5 L0_0 L0_1 L0_2 L0_3 (xsetO stk ⟨n0, k0⟩ (.cells [(.d (.str L0_0)), (.d (.int .i64 L0_1)), (.d (.bool L0_2)), (.d (.int .i64 L0_3))])))) (O_cascadelaw28_drain__0 @xmap xsetO e_string m n0 k0 stk)) out := by
 have hn0 : (n0 = m) = False := eq_false (Nat.ne_of_lt hl0)
 have hm0 : decide (n0 < m) = true := decide_eq_true hl0
 subst hPP
 simp only [b_cascadelaw28_drain__0_6] at hp
 unfold A_cascadelaw28_drain__0_6
 rw [h.at_, hT]
 cbv
 cases c10 : xcmp .lss v5 500 with
 | false =>
  simp only [c10] at hp ⊢
  cbv
  cases c : l_8 o23_g o23 L0_0 L0_1 L0_2 L0_3 with
  | none => simp only [c] at hp; cases hp
  | some o11 =>
   simp only [c] at hp
   cases hp
   try simp only [if_false, if_true, hn0, hm0]
   first | exact h_l_8 c stk (hg0) | (have q := h_l_8 c stk (hg0); simp only [A_cascadelaw28_drain__0_8, h.map_cons, h.map_nil, h.mapE_nil, h.len_nil, he_e_string, he_e_uint8] at q; first | exact q | (cbv; exact q))
 | true =>
  simp only [c10] at hp ⊢
  cbv
  try simp only [if_false, if_true, hn0, hm0]
  first | exact h_l_7 hp stk (hg0) | (have q := h_l_7 hp stk (hg0); simp only [A_cascadelaw28_drain__0_7, h.map_cons, h.map_nil, h.mapE_nil, h.len_nil, he_e_string, he_e_uint8] at q; first | exact q | (cbv; exact q))
def b_cascadelaw28_drain__0_7 (P : Prims) (c_parts_Reader_Next__0 : Str → Int → Bool → Int → Option (Str × Bool × Str × Int × Bool × Int)) (l_9 : T_cascadelaw28_drain__0_9) (o23_g : Nat) (o23 : (List Str)) (v5 : Int) (L0_0 : Str) (L0_1 : Int) (L0_2 : Bool) (L0_3 : Int) : Option ((Nat × (List Str) × Int × Str × Int × Bool × Int) ⊕ ((List Str) × Str × Int × Bool × Int)) :=
 match c_parts_Reader_Next__0 L0_0 L0_1 L0_2 L0_3 with
 | none => none
 | some (r12_0, r12_1, r12_w0_0, r12_w0_1, r12_w0_2, r12_w0_3) =>
  match r12_1 with
  | false =>
   some (.inr (o23, r12_w0_0, r12_w0_1, r12_w0_2, r12_w0_3))
  | true =>
   l_9 o23_g o23 v5 r12_0 r12_w0_0 r12_w0_1 r12_w0_2 r12_w0_3
theorem o_cascadelaw28_drain__0_7 (c_parts_Reader_Next__0 : Str → Int → Bool → Int → Option (Str × Bool × Str × Int × Bool × Int)) (h_parts_Reader_Next__0 : (C_parts_Reader_Next__0 xfcall xsetO c_parts_Reader_Next__0)) (stk : Stk) (m : Nat) (n0 : Nat) (k0 : List Nat) (hl0 : n0 < m)  (l_9 : T_cascadelaw28_drain__0_9) (o23_g : Nat) (o23 : (List Str)) (v5 : Int) (L0_0 : Str) (L0_1 : Int) (L0_2 : Bool) (L0_3 : Int) (hg0 : getO stk ⟨n0, k0⟩ = some (.cells [(.d (.str L0_0)), (.d (.int .i64 L0_1)), (.d (.bool L0_2)), (.d (.int .i64 L0_3))])) (h_l_9 : H_cascadelaw28_drain__0_9 xat @xmap xlen xsetO e_string m n0 k0 l_9) {out} (hp : b_cascadelaw28_drain__0_7 PP c_parts_Reader_Next__0 l_9 o23_g o23 v5 L0_0 L0_1 L0_2 L0_3 = some out) : (A_cascadelaw28_drain__0_7 xat @xmap xlen e_string m n0 k0 o23_g o23 v5 L0_0 L0_1 L0_2 L0_3 stk) = (Sum.elim (fun (o23_g, o23, v5, L0_0, L0_1, L0_2, L0_3) => (A_cascadelaw28_drain__0_6 xat @xmap xlen e_string m n0 k0 o23_g o23 v5 L0_0 L0_1 L0_2 L0_3 (xsetO stk ⟨n0, k0⟩ (.cells [(.d (.str L0_0)), (.d (.int .i64 L0_1)), (.d (.bool L0_2)), (.d (.int .i64 L0_3))])))) (O_cascadelaw28_drain__0 @xmap xsetO e_string m n0 k0 stk)) out := by
 have hn0 : (n0 = m) = False := eq_false (Nat.ne_of_lt hl0)
 have hm0 : decide (n0 < m) = true := decide_eq_true hl0
 subst hPP
 simp only [b_cascadelaw28_drain__0_7] at hp
 unfold A_cascadelaw28_drain__0_7
 rw [h.at_, hT]
 cbv
 cases c13 : c_parts_Reader_Next__0 L0_0 L0_1 L0_2 L0_3 with
 | none => simp only [c13] at hp; cases hp
 | some y15 =>
  obtain ⟨r12_0, r12_1, r12_w0_0, r12_w0_1, r12_w0_2, r12_w0_3⟩ := y15
  simp only [c13] at hp
  have qc := h_parts_Reader_Next__0 c13 (⟨m, [([23], (.arr o23_g 1 (xmap e_string o23)))]⟩ :: stk) n0 k0 ((h.gb hl0 _ _).trans (hg0)) (Nat.le_of_lt hl0)
  simp only [qc]
  simp only [h.st_, h.sb_ hl0]
  cbv
  cases r12_1 with
  | false =>
   simp only at hp
   cbv
   cases hp
   try simp only [O_cascadelaw28_drain__0, A_cascadelaw28_drain__0_6, Sum.elim_inl, Sum.elim_inr]
   try (simp only [h.so])
   try simp only [if_false, if_true, hn0, hm0]
   all_goals first | rfl | (cbv; done) | (simp only [h.nadd0, h.nle_refl, h.cut_all, h.cut_nil, h.map_cons, h.map_nil, h.mapE_nil, h.len_nil, he_e_string, he_e_uint8, O_cascadelaw28_drain__0, A_cascadelaw28_drain__0_6, if_true]; done) | (simp only [h.nadd0, h.nle_refl, h.cut_all, h.cut_nil, h.map_cons, h.map_nil, h.mapE_nil, h.len_nil, he_e_string, he_e_uint8, O_cascadelaw28_drain__0, A_cascadelaw28_drain__0_6, if_true]; first | rfl | (cbv; done) | (cbv; simp only [h.map_cons, h.map_nil, h.mapE_nil, h.len_nil, he_e_string, he_e_uint8, O_cascadelaw28_drain__0, A_cascadelaw28_drain__0_6]; done))
  | true =>
   simp only at hp
   cbv
   try simp only [if_false, if_true, hn0, hm0]
   have q := h_l_9 hp (xsetO stk ⟨n0, k0⟩ (.cells [(.d (.str r12_w0_0)), (.d (.int .i64 r12_w0_1)), (.d (.bool r12_w0_2)), (.d (.int .i64 r12_w0_3))])) ((h.gs (hg0) _))
   first | (refine q.trans ?_; rcases out with ⟨_, _, _, _, _, _, _⟩ | (⟨_, _, _, _, _⟩) <;> first | (simp only [Sum.elim_inl, Sum.elim_inr, h.so, O_cascadelaw28_drain__0, A_cascadelaw28_drain__0_6]; done) | (simp only [Sum.elim_inl, Sum.elim_inr, h.so, O_cascadelaw28_drain__0, A_cascadelaw28_drain__0_6]; rfl)) | (refine q.trans ?_; simp only [h.so, O_cascadelaw28_drain__0, A_cascadelaw28_drain__0_6]; done) | (refine q.trans ?_; simp only [h.so, O_cascadelaw28_drain__0, A_cascadelaw28_drain__0_6]; rfl) | (simp only [h.map_cons, h.map_nil, h.mapE_nil, h.len_nil, he_e_string, he_e_uint8, O_cascadelaw28_drain__0, A_cascadelaw28_drain__0_6, A_cascadelaw28_drain__0_9] at q; cbv; refine q.trans ?_; simp only [h.so, O_cascadelaw28_drain__0, A_cascadelaw28_drain__0_6]; done) | (simp only [h.map_cons, h.map_nil, h.mapE_nil, h.len_nil, he_e_string, he_e_uint8, O_cascadelaw28_drain__0, A_cascadelaw28_drain__0_6, A_cascadelaw28_drain__0_9] at q; cbv; refine q.trans ?_; simp only [h.so, O_cascadelaw28_drain__0, A_cascadelaw28_drain__0_6]; rfl)
def b_cascadelaw28_drain__0_8 (P : Prims) (c_parts_Reader_Next__0 : Str → Int → Bool → Int → Option (Str × Bool × Str × Int × Bool × Int))  (o23_g : Nat) (o23 : (List Str)) (L0_0 : Str) (L0_1 : Int) (L0_2 : Bool) (L0_3 : Int) : Option ((List Str) × Str × Int × Bool × Int) :=
 some (o23, L0_0, L0_1, L0_2, L0_3)
theorem o_cascadelaw28_drain__0_8 (c_parts_Reader_Next__0 : Str → Int → Bool → Int → Option (Str × Bool × Str × Int × Bool × Int)) (h_parts_Reader_Next__0 : (C_parts_Reader_Next__0 xfcall xsetO c_parts_Reader_Next__0)) (stk : Stk) (m : Nat) (n0 : Nat) (k0 : List Nat) (hl0 : n0 < m)   (o23_g : Nat) (o23 : (List Str)) (L0_0 : Str) (L0_1 : Int) (L0_2 : Bool) (L0_3 : Int) (hg0 : getO stk ⟨n0, k0⟩ = some (.cells [(.d (.str L0_0)), (.d (.int .i64 L0_1)), (.d (.bool L0_2)), (.d (.int .i64 L0_3))]))  {out} (hp : b_cascadelaw28_drain__0_8 PP c_parts_Reader_Next__0  o23_g o23 L0_0 L0_1 L0_2 L0_3 = some out) : (A_cascadelaw28_drain__0_8 xat @xmap xlen e_string m n0 k0 o23_g o23 L0_0 L0_1 L0_2 L0_3 stk) = (O_cascadelaw28_drain__0 @xmap xsetO e_string m n0 k0 stk) out := by
 have hn0 : (n0 = m) = False := eq_false (Nat.ne_of_lt hl0)
 have hm0 : decide (n0 < m) = true := decide_eq_true hl0
 subst hPP
 simp only [b_cascadelaw28_drain__0_8] at hp
 unfold A_cascadelaw28_drain__0_8
 rw [h.at_, hT]
 cbv
 cases hp
 try simp only [O_cascadelaw28_drain__0, Sum.elim_inl, Sum.elim_inr]
 try (simp only [h.ss hg0])
 try simp only [if_false, if_true, hn0, hm0]
 all_goals first | rfl | (cbv; done) | (simp only [h.nadd0, h.nle_refl, h.cut_all, h.cut_nil, h.map_cons, h.map_nil, h.mapE_nil, h.len_nil, he_e_string, he_e_uint8, O_cascadelaw28_drain__0, if_true]; done) | (simp only [h.nadd0, h.nle_refl, h.cut_all, h.cut_nil, h.map_cons, h.map_nil, h.mapE_nil, h.len_nil, he_e_string, he_e_uint8, O_cascadelaw28_drain__0, if_true]; first | rfl | (cbv; done) | (cbv; simp only [h.map_cons, h.map_nil, h.mapE_nil, h.len_nil, he_e_string, he_e_uint8, O_cascadelaw28_drain__0]; done))
def b_cascadelaw28_drain__0_9 (P : Prims) (c_parts_Reader_Next__0 : Str → Int → Bool → Int → Option (Str × Bool × Str × Int × Bool × Int)) (l_10 : T_cascadelaw28_drain__0_10) (o23_g : Nat) (o23 : (List Str)) (v5 : Int) (v6 : Str) (L0_0 : Str) (L0_1 : Int) (L0_2 : Bool) (L0_3 : Int) : Option ((Nat × (List Str) × Int × Str × Int × Bool × Int) ⊕ ((List Str) × Str × Int × Bool × Int)) :=
 match P.app 16 o23 [v6] with
 | none => none
 | some l16 =>
  l_10 (o23_g + 1) l16 v5 L0_0 L0_1 L0_2 L0_3
theorem o_cascadelaw28_drain__0_9 (c_parts_Reader_Next__0 : Str → Int → Bool → Int → Option (Str × Bool × Str × Int × Bool × Int)) (h_parts_Reader_Next__0 : (C_parts_Reader_Next__0 xfcall xsetO c_parts_Reader_Next__0)) (stk : Stk) (m : Nat) (n0 : Nat) (k0 : List Nat) (hl0 : n0 < m)  (l_10 : T_cascadelaw28_drain__0_10) (o23_g : Nat) (o23 : (List Str)) (v5 : Int) (v6 : Str) (L0_0 : Str) (L0_1 : Int) (L0_2 : Bool) (L0_3 : Int) (hg0 : getO stk ⟨n0, k0⟩ = some (.cells [(.d (.str L0_0)), (.d (.int .i64 L0_1)), (.d (.bool L0_2)), (.d (.int .i64 L0_3))])) (h_l_10 : H_cascadelaw28_drain__0_10 xat @xmap xlen xsetO e_string m n0 k0 l_10) {out} (hp : b_cascadelaw28_drain__0_9 PP c_parts_Reader_Next__0 l_10 o23_g o23 v5 v6 L0_0 L0_1 L0_2 L0_3 = some out) : (A_cascadelaw28_drain__0_9 xat @xmap xlen e_string m n0 k0 o23_g o23 v5 v6 L0_0 L0_1 L0_2 L0_3 stk) = (Sum.elim (fun (o23_g, o23, v5, L0_0, L0_1, L0_2, L0_3) => (A_cascadelaw28_drain__0_6 xat @xmap xlen e_string m n0 k0 o23_g o23 v5 L0_0 L0_1 L0_2 L0_3 (xsetO stk ⟨n0, k0⟩ (.cells [(.d (.str L0_0)), (.d (.int .i64 L0_1)), (.d (.bool L0_2)), (.d (.int .i64 L0_3))])))) (O_cascadelaw28_drain__0 @xmap xsetO e_string m n0 k0 stk)) out := by
 have hn0 : (n0 = m) = False := eq_false (Nat.ne_of_lt hl0)
 have hm0 : decide (n0 < m) = true := decide_eq_true hl0
 subst hPP
 simp only [b_cascadelaw28_drain__0_9] at hp
 unfold A_cascadelaw28_drain__0_9
 rw [h.at_, hT]
 cbv
 simp only [h.allsz_nil, h.allsz_cons]
 cbv
 simp only [h.allsz_nil, h.allsz_cons]
 cbv
 cases c17 : papp 16 o23 [v6] with
 | none => simp only [c17] at hp; cases hp
 | some l16 =>
  simp only [c17] at hp
  obtain ⟨q1, q2, q3⟩ := h.app e_string c17 rfl
  simp only [h.map_cons, h.map_nil, h.len_nil, he_e_string] at q1 q2 q3
  try simp only [h.len_nil]
  cbv
  simp only [q1, q2, q3, if_true]
  cbv
  try simp only [if_false, if_true, hn0, hm0]
  first | exact h_l_10 hp stk (hg0) | (have q := h_l_10 hp stk (hg0); simp only [A_cascadelaw28_drain__0_10, h.map_cons, h.map_nil, h.mapE_nil, h.len_nil, he_e_string, he_e_uint8] at q; first | exact q | (cbv; exact q))
def b_cascadelaw28_drain__0_10 (P : Prims) (c_parts_Reader_Next__0 : Str → Int → Bool → Int → Option (Str × Bool × Str × Int × Bool × Int))  (o23_g : Nat) (o23 : (List Str)) (v5 : Int) (L0_0 : Str) (L0_1 : Int) (L0_2 : Bool) (L0_3 : Int) : Option ((Nat × (List Str) × Int × Str × Int × Bool × Int) ⊕ ((List Str) × Str × Int × Bool × Int)) :=
 some (.inl (o23_g, o23, P.ar .add .i64 v5 1, L0_0, L0_1, L0_2, L0_3))
theorem o_cascadelaw28_drain__0_10 (c_parts_Reader_Next__0 : Str → Int → Bool → Int → Option (Str × Bool × Str × Int × Bool × Int)) (h_parts_Reader_Next__0 : (C_parts_Reader_Next__0 xfcall xsetO c_parts_Reader_Next__0)) (stk : Stk) (m : Nat) (n0 : Nat) (k0 : List Nat) (hl0 : n0 < m)   (o23_g : Nat) (o23 : (List Str)) (v5 : Int) (L0_0 : Str) (L0_1 : Int) (L0_2 : Bool) (L0_3 : Int) (hg0 : getO stk ⟨n0, k0⟩ = some (.cells [(.d (.str L0_0)), (.d (.int .i64 L0_1)), (.d (.bool L0_2)), (.d (.int .i64 L0_3))]))  {out} (hp : b_cascadelaw28_drain__0_10 PP c_parts_Reader_Next__0  o23_g o23 v5 L0_0 L0_1 L0_2 L0_3 = some out) : (A_cascadelaw28_drain__0_10 xat @xmap xlen e_string m n0 k0 o23_g o23 v5 L0_0 L0_1 L0_2 L0_3 stk) = (Sum.elim (fun (o23_g, o23, v5, L0_0, L0_1, L0_2, L0_3) => (A_cascadelaw28_drain__0_6 xat @xmap xlen e_string m n0 k0 o23_g o23 v5 L0_0 L0_1 L0_2 L0_3 (xsetO stk ⟨n0, k0⟩ (.cells [(.d (.str L0_0)), (.d (.int .i64 L0_1)), (.d (.bool L0_2)), (.d (.int .i64 L0_3))])))) (O_cascadelaw28_drain__0 @xmap xsetO e_string m n0 k0 stk)) out := by
 have hn0 : (n0 = m) = False := eq_false (Nat.ne_of_lt hl0)
 have hm0 : decide (n0 < m) = true := decide_eq_true hl0
 subst hPP
 simp only [b_cascadelaw28_drain__0_10] at hp
 unfold A_cascadelaw28_drain__0_10
 rw [h.at_, hT]
 cbv
 cases hp
 try simp only [O_cascadelaw28_drain__0, A_cascadelaw28_drain__0_6, Sum.elim_inl, Sum.elim_inr]
 try (simp only [h.ss hg0])
 try simp only [if_false, if_true, hn0, hm0]
 all_goals first | rfl | (cbv; done) | (simp only [h.nadd0, h.nle_refl, h.cut_all, h.cut_nil, h.map_cons, h.map_nil, h.mapE_nil, h.len_nil, he_e_string, he_e_uint8, O_cascadelaw28_drain__0, A_cascadelaw28_drain__0_6, if_true]; done) | (simp only [h.nadd0, h.nle_refl, h.cut_all, h.cut_nil, h.map_cons, h.map_nil, h.mapE_nil, h.len_nil, he_e_string, he_e_uint8, O_cascadelaw28_drain__0, A_cascadelaw28_drain__0_6, if_true]; first | rfl | (cbv; done) | (cbv; simp only [h.map_cons, h.map_nil, h.mapE_nil, h.len_nil, he_e_string, he_e_uint8, O_cascadelaw28_drain__0, A_cascadelaw28_drain__0_6]; done))
def b_cascaderef28_Whole_0 (P : Prims) (c_cascaderef28_Part : Str → Option (Str)) (l_1 : T_cascaderef28_Whole_1) (v0 : (List Str)) : Option (Str) :=
 l_1 v0 [] 0
theorem o_cascaderef28_Whole_0 (c_cascaderef28_Part : Str → Option (Str)) (h_cascaderef28_Part : (C_cascaderef28_Part xpcall xfcall c_cascaderef28_Part)) (stk : Stk) (m : Nat)    (l_1 : T_cascaderef28_Whole_1) (v0 : (List Str))  (h_l_1 : H_cascaderef28_Whole_1 xat @xmap e_string m  l_1) {out} (hp : b_cascaderef28_Whole_0 PP c_cascaderef28_Part l_1 v0 = some out) : (A_cascaderef28_Whole_0 xat @xmap e_string m  v0 stk) = (O_cascaderef28_Whole  m  stk) out := by
 subst hPP
 simp only [b_cascaderef28_Whole_0] at hp
 unfold A_cascaderef28_Whole_0
 rw [h.at_, hT]
 cbv
 first | exact h_l_1 hp stk | (have q := h_l_1 hp stk; simp only [A_cascaderef28_Whole_1, h.map_cons, h.map_nil, h.mapE_nil, h.len_nil, he_e_string, he_e_uint8] at q; first | exact q | (cbv; exact q))
def b_cascaderef28_Whole_1 (P : Prims) (c_cascaderef28_Part : Str → Option (Str))  (v0 : (List Str)) (v3 : Str) (v4 : Int) : Option (((List Str) × Str × Int) ⊕ (Str)) :=
 match P.cmp .lss v4 (P.len v0) with
 | false =>
  match P.scat v3 [45, 45, 99, 117, 116, 45, 45, 13, 10] with
  | none => none
  | some s8 =>
   some (.inr s8)
 | true =>
  match P.idx v0 v4 with
  | none => none
  | some a2 =>
   match c_cascaderef28_Part a2 with
   | none => none
   | some r4_0 =>
    match P.scat v3 r4_0 with
    | none => none
    | some s6 =>
     some (.inl (v0, s6, P.ar .add .i64 v4 1))
theorem o_cascaderef28_Whole_1 (c_cascaderef28_Part : Str → Option (Str)) (h_cascaderef28_Part : (C_cascaderef28_Part xpcall xfcall c_cascaderef28_Part)) (stk : Stk) (m : Nat)     (v0 : (List Str)) (v3 : Str) (v4 : Int)   {out} (hp : b_cascaderef28_Whole_1 PP c_cascaderef28_Part  v0 v3 v4 = some out) : (A_cascaderef28_Whole_1 xat @xmap e_string m  v0 v3 v4 stk) = (Sum.elim (fun (v0, v3, v4) => (A_cascaderef28_Whole_1 xat @xmap e_string m  v0 v3 v4 stk)) (O_cascaderef28_Whole  m  stk)) out := by
 subst hPP
 simp only [b_cascaderef28_Whole_1] at hp
 unfold A_cascaderef28_Whole_1
 rw [h.at_, hT]
 cbv
 try simp only [h.len]
 cases c1 : xcmp .lss v4 (plen v0) with
 | false =>
  simp only [c1] at hp ⊢
  cbv
  rw [h.at_, hT]
  cbv
  cases c9 : pscat v3 [45, 45, 99, 117, 116, 45, 45, 13, 10] with
  | none => simp only [c9] at hp; cases hp
  | some s8 =>
   simp only [c9] at hp
   obtain ⟨q1, q2⟩ := h.scat c9
   simp only [q1, q2, if_true]
   cbv
   cases hp
   all_goals first | rfl | (cbv; done)
 | true =>
  simp only [c1] at hp ⊢
  cbv
  rw [h.at_, hT]
  cbv
  cases c3 : pidx v0 v4 with
  | none => simp only [c3] at hp; cases hp
  | some a2 =>
   simp only [c3] at hp
   obtain ⟨q1, q2⟩ := h.idx e_string c3
   simp only [he_e_string] at q2
   simp only [q1, Bool.false_eq_true, if_false]
   cbv
   try simp only [q2]
   cbv
   cases c5 : c_cascaderef28_Part a2 with
   | none => simp only [c5] at hp; cases hp
   | some r4_0 =>
    simp only [c5] at hp
    have qc := fun s => (h_cascaderef28_Part c5 s).1
    simp only [qc]
    cbv
    cases c7 : pscat v3 r4_0 with
    | none => simp only [c7] at hp; cases hp
    | some s6 =>
     simp only [c7] at hp
     obtain ⟨q1, q2⟩ := h.scat c7
     simp only [q1, q2, if_true]
     cbv
     rw [h.at_, hT]
     cbv
     cases hp
     all_goals first | rfl | (cbv; done)
def b_cascaderef12_SameNames_0 (P : Prims)  (l_2 : T_cascaderef12_SameNames_2) (v0 : (List Str)) (v1 : (List Str)) : Option (Bool) :=
 match P.cmp .neq (P.len v0) (P.len v1) with
 | false =>
  l_2 v0 v1 0
 | true =>
  some false
theorem o_cascaderef12_SameNames_0   (stk : Stk) (m : Nat)    (l_2 : T_cascaderef12_SameNames_2) (v0 : (List Str)) (v1 : (List Str))  (h_l_2 : H_cascaderef12_SameNames_2 xat @xmap e_string m  l_2) {out} (hp : b_cascaderef12_SameNames_0 PP  l_2 v0 v1 = some out) : (A_cascaderef12_SameNames_0 xat @xmap e_string m  v0 v1 stk) = (O_cascaderef12_SameNames  m  stk) out := by
 subst hPP
 simp only [b_cascaderef12_SameNames_0] at hp
 unfold A_cascaderef12_SameNames_0
 rw [h.at_, hT]
 cbv
 try simp only [h.len]
 try simp only [h.len]
 cases c1 : xcmp .neq (plen v0) (plen v1) with
 | false =>
  simp only [c1] at hp ⊢
  cbv
  rw [h.at_, hT]
  cbv
  first | exact h_l_2 hp stk | (have q := h_l_2 hp stk; simp only [A_cascaderef12_SameNames_2, h.map_cons, h.map_nil, h.mapE_nil, h.len_nil, he_e_string, he_e_uint8] at q; first | exact q | (cbv; exact q))
 | true =>
  simp only [c1] at hp ⊢
  cbv
  cases hp
  all_goals first | rfl | (cbv; done)
def b_cascaderef12_SameNames_2 (P : Prims)   (v0 : (List Str)) (v1 : (List Str)) (v5 : Int) : Option (((List Str) × (List Str) × Int) ⊕ (Bool)) :=
 match P.cmp .lss v5 (P.len v0) with
 | false =>
  some (.inr true)
 | true =>
  match P.idx v0 v5 with
  | none => none
  | some a3 =>
   match P.idx v1 v5 with
   | none => none
   | some a5 =>
    match P.seq a3 a5 with
    | false =>
     some (.inr false)
    | true =>
     some (.inl (v0, v1, P.ar .add .i64 v5 1))
theorem o_cascaderef12_SameNames_2   (stk : Stk) (m : Nat)     (v0 : (List Str)) (v1 : (List Str)) (v5 : Int)   {out} (hp : b_cascaderef12_SameNames_2 PP   v0 v1 v5 = some out) : (A_cascaderef12_SameNames_2 xat @xmap e_string m  v0 v1 v5 stk) = (Sum.elim (fun (v0, v1, v5) => (A_cascaderef12_SameNames_2 xat @xmap e_string m  v0 v1 v5 stk)) (O_cascaderef12_SameNames  m  stk)) out := by
 subst hPP
 simp only [b_cascaderef12_SameNames_2] at hp
 unfold A_cascaderef12_SameNames_2
 rw [h.at_, hT]
 cbv
 try simp only [h.len]
 cases c2 : xcmp .lss v5 (plen v0) with
 | false =>
  simp only [c2] at hp ⊢
  cbv
  rw [h.at_, hT]
  cbv
  cases hp
  all_goals first | rfl | (cbv; done)
 | true =>
  simp only [c2] at hp ⊢
  cbv
  rw [h.at_, hT]
  cbv
  cases c4 : pidx v0 v5 with
  | none => simp only [c4] at hp; cases hp
  | some a3 =>
   simp only [c4] at hp
   obtain ⟨q1, q2⟩ := h.idx e_string c4
   simp only [he_e_string] at q2
   simp only [q1, Bool.false_eq_true, if_false]
   cbv
   try simp only [q2]
   cbv
   cases c6 : pidx v1 v5 with
   | none => simp only [c6] at hp; cases hp
   | some a5 =>
    simp only [c6] at hp
    obtain ⟨q1, q2⟩ := h.idx e_string c6
    simp only [he_e_string] at q2
    simp only [q1, Bool.false_eq_true, if_false]
    cbv
    try simp only [q2]
    cbv
    cases c7 : xseq a3 a5 with
    | false =>
     simp only [c7] at hp ⊢
     cbv
     cases hp
     all_goals first | rfl | (cbv; done)
    | true =>
     simp only [c7] at hp ⊢
     cbv
     rw [h.at_, hT]
     cbv
     cases hp
     all_goals first | rfl | (cbv; done)
def b_parts_Reader_Over__0_0 (P : Prims)   (L0_0 : Str) (L0_1 : Int) (L0_2 : Bool) (L0_3 : Int) : Option (Bool) :=
 some L0_2
theorem o_parts_Reader_Over__0_0   (stk : Stk) (m : Nat) (n0 : Nat) (k0 : List Nat) (hl0 : n0 < m)   (L0_0 : Str) (L0_1 : Int) (L0_2 : Bool) (L0_3 : Int) (hg0 : getO stk ⟨n0, k0⟩ = some (.cells [(.d (.str L0_0)), (.d (.int .i64 L0_1)), (.d (.bool L0_2)), (.d (.int .i64 L0_3))]))  {out} (hp : b_parts_Reader_Over__0_0 PP   L0_0 L0_1 L0_2 L0_3 = some out) : (A_parts_Reader_Over__0_0 xat m n0 k0 L0_0 L0_1 L0_2 L0_3 stk) = (O_parts_Reader_Over__0  m n0 k0 stk) out := by
 have hn0 : (n0 = m) = False := eq_false (Nat.ne_of_lt hl0)
 have hm0 : decide (n0 < m) = true := decide_eq_true hl0
 subst hPP
 simp only [b_parts_Reader_Over__0_0] at hp
 unfold A_parts_Reader_Over__0_0
 rw [h.at_, hT]
 cbv
 simp only [if_false, if_true, hn0, hm0, hg0]
 cbv
 cases hp
 try simp only [if_false, if_true, hn0, hm0]
 all_goals first | rfl | (cbv; done)
def b_parts_Reader_Bad__0_0 (P : Prims)   (L0_0 : Str) (L0_1 : Int) (L0_2 : Bool) (L0_3 : Int) : Option (Int) :=
 some (P.ar .sub .i64 L0_3 1)
theorem o_parts_Reader_Bad__0_0   (stk : Stk) (m : Nat) (n0 : Nat) (k0 : List Nat) (hl0 : n0 < m)   (L0_0 : Str) (L0_1 : Int) (L0_2 : Bool) (L0_3 : Int) (hg0 : getO stk ⟨n0, k0⟩ = some (.cells [(.d (.str L0_0)), (.d (.int .i64 L0_1)), (.d (.bool L0_2)), (.d (.int .i64 L0_3))]))  {out} (hp : b_parts_Reader_Bad__0_0 PP   L0_0 L0_1 L0_2 L0_3 = some out) : (A_parts_Reader_Bad__0_0 xat m n0 k0 L0_0 L0_1 L0_2 L0_3 stk) = (O_parts_Reader_Bad__0  m n0 k0 stk) out := by
 have hn0 : (n0 = m) = False := eq_false (Nat.ne_of_lt hl0)
 have hm0 : decide (n0 < m) = true := decide_eq_true hl0
 subst hPP
 simp only [b_parts_Reader_Bad__0_0] at hp
 unfold A_parts_Reader_Bad__0_0
 rw [h.at_, hT]
 cbv
 simp only [if_false, if_true, hn0, hm0, hg0]
 cbv
 cases hp
 try simp only [if_false, if_true, hn0, hm0]
 all_goals first | rfl | (cbv; done)
def b_cascadelaw28_PartsWhole_0 (P : Prims) (c_cascadelaw28_awake : Option (Bool)) (c_cascadelaw28_few : (List Str) → Int → Int → Option (Bool)) (c_parts_Part : Str → Option (Str × Int)) (c_cascaderef28_Part : Str → Option (Str)) (c_parts_Whole : (List Str) → Option (Str × Int)) (c_parts_New__0 : Option (Str × Int × Bool × Int)) (c_parts_Reader_Feed__0 : Str → Str → Int → Bool → Int → Option (Str × Int × Bool × Int)) (c_cascadelaw28_drain__0 : Str → Int → Bool → Int → Option ((List Str) × Str × Int × Bool × Int)) (c_cascaderef28_Whole : (List Str) → Option (Str)) (c_cascaderef12_SameNames : (List Str) → (List Str) → Option (Bool)) (c_parts_Reader_Over__0 : Str → Int → Bool → Int → Option (Bool)) (c_parts_Reader_Bad__0 : Str → Int → Bool → Int → Option (Int)) (l_2 : T_cascadelaw28_PartsWhole_2) (v0 : (List Str)) : Option (Bool) :=
 match c_cascadelaw28_awake with
 | none => none
 | some r1_0 =>
  match r1_0 with
  | false =>
   some r1_0
  | true =>
   match c_cascadelaw28_few v0 20 300 with
   | none => none
   | some r4_0 =>
    match r4_0 with
    | false =>
     some r1_0
    | true =>
     l_2 v0 0
theorem o_cascadelaw28_PartsWhole_0 (c_cascadelaw28_awake : Option (Bool)) (c_cascadelaw28_few : (List Str) → Int → Int → Option (Bool)) (c_parts_Part : Str → Option (Str × Int)) (c_cascaderef28_Part : Str → Option (Str)) (c_parts_Whole : (List Str) → Option (Str × Int)) (c_parts_New__0 : Option (Str × Int × Bool × Int)) (c_parts_Reader_Feed__0 : Str → Str → Int → Bool → Int → Option (Str × Int × Bool × Int)) (c_cascadelaw28_drain__0 : Str → Int → Bool → Int → Option ((List Str) × Str × Int × Bool × Int)) (c_cascaderef28_Whole : (List Str) → Option (Str)) (c_cascaderef12_SameNames : (List Str) → (List Str) → Option (Bool)) (c_parts_Reader_Over__0 : Str → Int → Bool → Int → Option (Bool)) (c_parts_Reader_Bad__0 : Str → Int → Bool → Int → Option (Int)) (h_cascadelaw28_awake : (C_cascadelaw28_awake xpcall xfcall c_cascadelaw28_awake)) (h_cascadelaw28_few : (C_cascadelaw28_few xpcall xfcall @xmap e_string c_cascadelaw28_few)) (h_parts_Part : (C_parts_Part xpcall xfcall c_parts_Part)) (h_cascaderef28_Part : (C_cascaderef28_Part xpcall xfcall c_cascaderef28_Part)) (h_parts_Whole : (C_parts_Whole xpcall xfcall @xmap e_string c_parts_Whole)) (h_parts_New__0 : (C_parts_New__0 xkcall c_parts_New__0)) (h_parts_Reader_Feed__0 : (C_parts_Reader_Feed__0 xfcall xsetO c_parts_Reader_Feed__0)) (h_cascadelaw28_drain__0 : (C_cascadelaw28_drain__0 xfcall @xmap xsetO e_string c_cascadelaw28_drain__0)) (h_cascaderef28_Whole : (C_cascaderef28_Whole xpcall xfcall @xmap e_string c_cascaderef28_Whole)) (h_cascaderef12_SameNames : (C_cascaderef12_SameNames xpcall xfcall @xmap e_string c_cascaderef12_SameNames)) (h_parts_Reader_Over__0 : (C_parts_Reader_Over__0 xpcall xfcall c_parts_Reader_Over__0)) (h_parts_Reader_Bad__0 : (C_parts_Reader_Bad__0 xpcall xfcall c_parts_Reader_Bad__0)) (stk : Stk) (m : Nat)    (l_2 : T_cascadelaw28_PartsWhole_2) (v0 : (List Str))  (h_l_2 : H_cascadelaw28_PartsWhole_2 xat @xmap e_string m  l_2) {out} (hp : b_cascadelaw28_PartsWhole_0 PP c_cascadelaw28_awake c_cascadelaw28_few c_parts_Part c_cascaderef28_Part c_parts_Whole c_parts_New__0 c_parts_Reader_Feed__0 c_cascadelaw28_drain__0 c_cascaderef28_Whole c_cascaderef12_SameNames c_parts_Reader_Over__0 c_parts_Reader_Bad__0 l_2 v0 = some out) : (A_cascadelaw28_PartsWhole_0 xat @xmap e_string m  v0 stk) = (O_cascadelaw28_PartsWhole  m  stk) out := by
 subst hPP
 simp only [b_cascadelaw28_PartsWhole_0] at hp
 unfold A_cascadelaw28_PartsWhole_0
 rw [h.at_, hT]
 cbv
 cases c2 : c_cascadelaw28_awake with
 | none => simp only [c2] at hp; cases hp
 | some r1_0 =>
  simp only [c2] at hp
  have qc := fun s => (h_cascadelaw28_awake c2 s).1
  simp only [qc]
  cbv
  cases r1_0 with
  | false =>
   simp only at hp
   cbv
   have qc := fun s => (h_cascadelaw28_awake c2 s).1
   simp only [qc]
   cbv
   cases hp
   all_goals first | rfl | (cbv; done)
  | true =>
   simp only at hp
   cbv
   cases c5 : c_cascadelaw28_few v0 20 300 with
   | none => simp only [c5] at hp; cases hp
   | some r4_0 =>
    simp only [c5] at hp
    have qc := fun s => (h_cascadelaw28_few c5 s).1
    simp only [qc]
    cbv
    cases r4_0 with
    | false =>
     simp only at hp
     cbv
     have qc := fun s => (h_cascadelaw28_awake c2 s).1
     simp only [qc]
     cbv
     cases hp
     all_goals first | rfl | (cbv; done)
    | true =>
     simp only at hp
     cbv
     rw [h.at_, hT]
     cbv
     first | exact h_l_2 hp stk | (have q := h_l_2 hp stk; simp only [A_cascadelaw28_PartsWhole_2, h.map_cons, h.map_nil, h.mapE_nil, h.len_nil, he_e_string, he_e_uint8] at q; first | exact q | (cbv; exact q))
def b_cascadelaw28_PartsWhole_2 (P : Prims) (c_cascadelaw28_awake : Option (Bool)) (c_cascadelaw28_few : (List Str) → Int → Int → Option (Bool)) (c_parts_Part : Str → Option (Str × Int)) (c_cascaderef28_Part : Str → Option (Str)) (c_parts_Whole : (List Str) → Option (Str × Int)) (c_parts_New__0 : Option (Str × Int × Bool × Int)) (c_parts_Reader_Feed__0 : Str → Str → Int → Bool → Int → Option (Str × Int × Bool × Int)) (c_cascadelaw28_drain__0 : Str → Int → Bool → Int → Option ((List Str) × Str × Int × Bool × Int)) (c_cascaderef28_Whole : (List Str) → Option (Str)) (c_cascaderef12_SameNames : (List Str) → (List Str) → Option (Bool)) (c_parts_Reader_Over__0 : Str → Int → Bool → Int → Option (Bool)) (c_parts_Reader_Bad__0 : Str → Int → Bool → Int → Option (Int))  (v0 : (List Str)) (v3 : Int) : Option (((List Str) × Int) ⊕ (Bool)) :=
 match P.cmp .lss v3 (P.len v0) with
 | false =>
  match c_parts_Whole v0 with
  | none => none
  | some (r17_0, r17_1) =>
   match c_parts_New__0 with
   | none => none
   | some (r19_0, r19_1, r19_2, r19_3) =>
    match c_parts_Reader_Feed__0 r17_0 r19_0 r19_1 r19_2 r19_3 with
    | none => none
    | some (r21_w0_0, r21_w0_1, r21_w0_2, r21_w0_3) =>
     match c_cascadelaw28_drain__0 r21_w0_0 r21_w0_1 r21_w0_2 r21_w0_3 with
     | none => none
     | some (r23_0, r23_w0_0, r23_w0_1, r23_w0_2, r23_w0_3) =>
      match P.cmp .eql r17_1 0 with
      | false =>
       some (.inr false)
      | true =>
       match c_cascaderef28_Whole v0 with
       | none => none
       | some r26_0 =>
        match P.seq r17_0 r26_0 with
        | false =>
         some (.inr false)
        | true =>
         match c_cascaderef12_SameNames r23_0 v0 with
         | none => none
         | some r29_0 =>
          match r29_0 with
          | false =>
           some (.inr false)
          | true =>
           match c_parts_Reader_Over__0 r23_w0_0 r23_w0_1 r23_w0_2 r23_w0_3 with
           | none => none
           | some r32_0 =>
            match r32_0 with
            | false =>
             some (.inr false)
            | true =>
             match c_parts_Reader_Bad__0 r23_w0_0 r23_w0_1 r23_w0_2 r23_w0_3 with
             | none => none
             | some r35_0 =>
              some (.inr (P.cmp .eql r35_0 (-1)))
 | true =>
  match P.idx v0 v3 with
  | none => none
  | some a8 =>
   match c_parts_Part a8 with
   | none => none
   | some (r10_0, r10_1) =>
    match P.cmp .neq r10_1 0 with
    | false =>
     match c_cascaderef28_Part a8 with
     | none => none
     | some r13_0 =>
      match P.seq r10_0 r13_0 with
      | false =>
       some (.inr false)
      | true =>
       some (.inl (v0, P.ar .add .i64 v3 1))
    | true =>
     some (.inr false)
theorem o_cascadelaw28_PartsWhole_2 (c_cascadelaw28_awake : Option (Bool)) (c_cascadelaw28_few : (List Str) → Int → Int → Option (Bool)) (c_parts_Part : Str → Option (Str × Int)) (c_cascaderef28_Part : Str → Option (Str)) (c_parts_Whole : (List Str) → Option (Str × Int)) (c_parts_New__0 : Option (Str × Int × Bool × Int)) (c_parts_Reader_Feed__0 : Str → Str → Int → Bool → Int → Option (Str × Int × Bool × Int)) (c_cascadelaw28_drain__0 : Str → Int → Bool → Int → Option ((List Str) × Str × Int × Bool × Int)) (c_cascaderef28_Whole : (List Str) → Option (Str)) (c_cascaderef12_SameNames : (List Str) → (List Str) → Option (Bool)) (c_parts_Reader_Over__0 : Str → Int → Bool → Int → Option (Bool)) (c_parts_Reader_Bad__0 : Str → Int → Bool → Int → Option (Int)) (h_cascadelaw28_awake : (C_cascadelaw28_awake xpcall xfcall c_cascadelaw28_awake)) (h_cascadelaw28_few : (C_cascadelaw28_few xpcall xfcall @xmap e_string c_cascadelaw28_few)) (h_parts_Part : (C_parts_Part xpcall xfcall c_parts_Part)) (h_cascaderef28_Part : (C_cascaderef28_Part xpcall xfcall c_cascaderef28_Part)) (h_parts_Whole : (C_parts_Whole xpcall xfcall @xmap e_string c_parts_Whole)) (h_parts_New__0 : (C_parts_New__0 xkcall c_parts_New__0)) (h_parts_Reader_Feed__0 : (C_parts_Reader_Feed__0 xfcall xsetO c_parts_Reader_Feed__0)) (h_cascadelaw28_drain__0 : (C_cascadelaw28_drain__0 xfcall @xmap xsetO e_string c_cascadelaw28_drain__0)) (h_cascaderef28_Whole : (C_cascaderef28_Whole xpcall xfcall @xmap e_string c_cascaderef28_Whole)) (h_cascaderef12_SameNames : (C_cascaderef12_SameNames xpcall xfcall @xmap e_string c_cascaderef12_SameNames)) (h_parts_Reader_Over__0 : (C_parts_Reader_Over__0 xpcall xfcall c_parts_Reader_Over__0)) (h_parts_Reader_Bad__0 : (C_parts_Reader_Bad__0 xpcall xfcall c_parts_Reader_Bad__0)) (stk : Stk) (m : Nat)     (v0 : (List Str)) (v3 : Int)   {out} (hp : b_cascadelaw28_PartsWhole_2 PP c_cascadelaw28_awake c_cascadelaw28_few c_parts_Part c_cascaderef28_Part c_parts_Whole c_parts_New__0 c_parts_Reader_Feed__0 c_cascadelaw28_drain__0 c_cascaderef28_Whole c_cascaderef12_SameNames c_parts_Reader_Over__0 c_parts_Reader_Bad__0  v0 v3 = some out) : (A_cascadelaw28_PartsWhole_2 xat @xmap e_string m  v0 v3 stk) = (Sum.elim (fun (v0, v3) => (A_cascadelaw28_PartsWhole_2 xat @xmap e_string m  v0 v3 stk)) (O_cascadelaw28_PartsWhole  m  stk)) out := by
 subst hPP
 simp only [b_cascadelaw28_PartsWhole_2] at hp
 unfold A_cascadelaw28_PartsWhole_2
 rw [h.at_, hT]
 cbv
 try simp only [h.len]
 cases c7 : xcmp .lss v3 (plen v0) with
 | false =>
  simp only [c7] at hp ⊢
  cbv
  rw [h.at_, hT]
  cbv
  cases c18 : c_parts_Whole v0 with
  | none => simp only [c18] at hp; cases hp
  | some y40 =>
   obtain ⟨r17_0, r17_1⟩ := y40
   simp only [c18] at hp
   have qc := fun s => (h_parts_Whole c18 s).1
   simp only [qc]
   cbv
   cases c20 : c_parts_New__0 with
   | none => simp only [c20] at hp; cases hp
   | some y39 =>
    obtain ⟨r19_0, r19_1, r19_2, r19_3⟩ := y39
    simp only [c20] at hp
    have qc := h_parts_New__0 c20 (⟨m, []⟩ :: stk)  (m + 1) rfl
    simp only [qc]
    cbv
    cases c22 : c_parts_Reader_Feed__0 r17_0 r19_0 r19_1 r19_2 r19_3 with
    | none => simp only [c22] at hp; cases hp
    | some y38 =>
     obtain ⟨r21_w0_0, r21_w0_1, r21_w0_2, r21_w0_3⟩ := y38
     simp only [c22] at hp
     have qc := h_parts_Reader_Feed__0 c22 (⟨m, [([48, 2], (.cells [(.d (.str r19_0)), (.d (.int .i64 r19_1)), (.d (.bool r19_2)), (.d (.int .i64 r19_3))]))]⟩ :: stk) m [48, 2] (h.gt _ _ _ _) (Nat.le_refl _)
     simp only [qc]
     simp only [h.st_]
     cbv
     cases c24 : c_cascadelaw28_drain__0 r21_w0_0 r21_w0_1 r21_w0_2 r21_w0_3 with
     | none => simp only [c24] at hp; cases hp
     | some y37 =>
      obtain ⟨r23_0, r23_w0_0, r23_w0_1, r23_w0_2, r23_w0_3⟩ := y37
      simp only [c24] at hp
      have qc := h_cascadelaw28_drain__0 c24 (⟨m, [([48, 2], (.cells [(.d (.str r21_w0_0)), (.d (.int .i64 r21_w0_1)), (.d (.bool r21_w0_2)), (.d (.int .i64 r21_w0_3))]))]⟩ :: stk) m [48, 2] (h.gt _ _ _ _) (Nat.le_refl _)
      simp only [qc]
      simp only [h.st_]
      cbv
      cases c25 : xcmp .eql r17_1 0 with
      | false =>
       simp only [c25] at hp ⊢
       cbv
       cases hp
       all_goals first | rfl | (cbv; done)
      | true =>
       simp only [c25] at hp ⊢
       cbv
       cases c27 : c_cascaderef28_Whole v0 with
       | none => simp only [c27] at hp; cases hp
       | some r26_0 =>
        simp only [c27] at hp
        have qc := fun s => (h_cascaderef28_Whole c27 s).1
        simp only [qc]
        cbv
        cases c28 : xseq r17_0 r26_0 with
        | false =>
         simp only [c28] at hp ⊢
         cbv
         cases hp
         all_goals first | rfl | (cbv; done)
        | true =>
         simp only [c28] at hp ⊢
         cbv
         cases c30 : c_cascaderef12_SameNames r23_0 v0 with
         | none => simp only [c30] at hp; cases hp
         | some r29_0 =>
          simp only [c30] at hp
          have qc := fun s => (h_cascaderef12_SameNames c30 s).1
          simp only [qc]
          cbv
          cases r29_0 with
          | false =>
           simp only at hp
           cbv
           cases hp
           all_goals first | rfl | (cbv; done)
          | true =>
           simp only at hp
           cbv
           cases c33 : c_parts_Reader_Over__0 r23_w0_0 r23_w0_1 r23_w0_2 r23_w0_3 with
           | none => simp only [c33] at hp; cases hp
           | some r32_0 =>
            simp only [c33] at hp
            have qc := (h_parts_Reader_Over__0 c33 (⟨m, [([48, 2], (.cells [(.d (.str r23_w0_0)), (.d (.int .i64 r23_w0_1)), (.d (.bool r23_w0_2)), (.d (.int .i64 r23_w0_3))]))]⟩ :: stk) m [48, 2] (h.gt _ _ _ _) (Nat.le_refl _)).1
            simp only [qc]
            cbv
            cases r32_0 with
            | false =>
             simp only at hp
             cbv
             cases hp
             all_goals first | rfl | (cbv; done)
            | true =>
             simp only at hp
             cbv
             cases c36 : c_parts_Reader_Bad__0 r23_w0_0 r23_w0_1 r23_w0_2 r23_w0_3 with
             | none => simp only [c36] at hp; cases hp
             | some r35_0 =>
              simp only [c36] at hp
              have qc := (h_parts_Reader_Bad__0 c36 (⟨m, [([48, 2], (.cells [(.d (.str r23_w0_0)), (.d (.int .i64 r23_w0_1)), (.d (.bool r23_w0_2)), (.d (.int .i64 r23_w0_3))]))]⟩ :: stk) m [48, 2] (h.gt _ _ _ _) (Nat.le_refl _)).1
              simp only [qc]
              cbv
              cases hp
              all_goals first | rfl | (cbv; done)
 | true =>
  simp only [c7] at hp ⊢
  cbv
  rw [h.at_, hT]
  cbv
  cases c9 : pidx v0 v3 with
  | none => simp only [c9] at hp; cases hp
  | some a8 =>
   simp only [c9] at hp
   obtain ⟨q1, q2⟩ := h.idx e_string c9
   simp only [he_e_string] at q2
   simp only [q1, Bool.false_eq_true, if_false]
   cbv
   try simp only [q2]
   cbv
   cases c11 : c_parts_Part a8 with
   | none => simp only [c11] at hp; cases hp
   | some y16 =>
    obtain ⟨r10_0, r10_1⟩ := y16
    simp only [c11] at hp
    have qc := fun s => (h_parts_Part c11 s).1
    simp only [qc]
    cbv
    cases c12 : xcmp .neq r10_1 0 with
    | false =>
     simp only [c12] at hp ⊢
     cbv
     obtain ⟨q1, q2⟩ := h.idx e_string c9
     simp only [he_e_string] at q2
     simp only [q1, Bool.false_eq_true, if_false]
     cbv
     try simp only [q2]
     cbv
     cases c14 : c_cascaderef28_Part a8 with
     | none => simp only [c14] at hp; cases hp
     | some r13_0 =>
      simp only [c14] at hp
      have qc := fun s => (h_cascaderef28_Part c14 s).1
      simp only [qc]
      cbv
      cases c15 : xseq r10_0 r13_0 with
      | false =>
       simp only [c15] at hp ⊢
       cbv
       cases hp
       all_goals first | rfl | (cbv; done)
      | true =>
       simp only [c15] at hp ⊢
       cbv
       rw [h.at_, hT]
       cbv
       cases hp
       all_goals first | rfl | (cbv; done)
    | true =>
     simp only [c12] at hp ⊢
     cbv
     cases hp
     all_goals first | rfl | (cbv; done)
end
end Go.Abs.B
