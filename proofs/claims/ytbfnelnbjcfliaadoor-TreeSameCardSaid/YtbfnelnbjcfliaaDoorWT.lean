import Derived.Test.YtbfnelnbjcfliaaDoorDfT
set_option linter.unusedSimpArgs false
set_option linter.unusedVariables false
set_option linter.unusedSectionVars false
namespace Go.Abs.T
set_option maxRecDepth 100000
section
variable {PP : Prims} {xR : FuncId → Option RF} {xiter : (St → Rs) → St → Rs} {xG : Nat → Option (List D)} {xcall : CallF} {xpcall : FuncId → List V → Stk → Option V} {xfcall : FuncId → List V → Stk → Option (V × Stk)} {xkcall : FuncId → List (List Nat) → List V → Stk → Option (V × Level × Stk)} {xlen : List D → Nat} {xnth : List D → Nat → Option D} {xcut : List D → Nat → Nat → List D} {xapp : List D → List D → List D} {xset : List D → Nat → D → List D} {xrep : Nat → D → List D} {xallsz : Nat → List D → Bool} {xslen : Str → Nat} {xsnth : Str → Nat → Option UInt8} {xscut : Str → Nat → Nat → Str} {xsapp : Str → Str → Str} {xseq : Str → Str → Bool} {xslt : Str → Str → Bool} {xofStr : Str → List D} {xtoStr : List D → Option Str} {xdec : Str → Nat → Nat × Nat} {xenc : Int → Str} {xar : BinOp → IntKind → Int → Int → Int} {xcmp : BinOp → Int → Int → Bool} {xwrap : IntKind → Int → Int} {xisz : Int → Bool} {xneg : Int → Bool} {xnat : Int → Nat} {xofN : Nat → Int} {xbyte : UInt8 → Int} {xnle : Nat → Nat → Bool} {xnadd : Nat → Nat → Nat} {xnsub : Nat → Nat → Nat} {xfits : Nat → Nat → Bool} {xfind : D → List (D × Nat × V) → Option (Option V)} {xputE : D → Nat → V → List (D × Nat × V) → Option (List (D × Nat × V))} {xfindK : D → List D → List D → Option (Option D)} {xelen : List (D × Nat × V) → Nat} {xfrzM : List (D × Nat × V) → Option (List D × List D)} {xsamev : V → V → Bool} {xat : AtF} {xsetO : Stk → Lab → O → Stk} {xtop : Stk → Nat} {xsame : Stk → Stk → Bool} {xmap : {α : Type} → (α → D) → List α → List D} {xmapE : {α : Type} → (α → D) → List (Str × Nat × α) → List (D × Nat × V)} {pquo : BinOp → IntKind → Int → Int → Option Int} {pshf : BinOp → IntKind → Int → Int → Option Int} {pslen : Str → Int} {psidx : Str → Int → Option Int} {pssub : Str → Option Int → Option Int → Option Str} {pscat : Str → Str → Option Str} {psit : Str → Nat → Option (Int × Int × Nat)} {pslist : Str → Option (List Int)} {pofBytes : List Int → Str} {plen : {α : Type} → List α → Int} {pidx : {α : Type} → List α → Int → Option α} {psub : {α : Type} → List α → Option Int → Option Int → Option (List α)} {papp : {α : Type} → Nat → List α → List α → Option (List α)} {pset : {α : Type} → List α → Int → α → Option (List α)} {pmake : {α : Type} → Nat → α → Int → Option (List α)} {pmfind : {α : Type} → Str → List (Str × Nat × α) → Option α} {pmput : {α : Type} → Str → Nat → α → List (Str × Nat × α) → List (Str × Nat × α)} {ploop : {σ ρ : Type} → (σ → Option (σ ⊕ ρ)) → σ → Option ρ} {xT : FuncId → Option KF}
  (h : KLaws xR xiter xG xcall xpcall xfcall xkcall xlen xnth xcut xapp xset xrep xallsz xslen xsnth xscut xsapp xseq xslt xofStr xtoStr xdec xenc xar xcmp xwrap xisz xneg xnat xofN xbyte xnle xnadd xnsub xfits xfind xputE xfindK xelen xfrzM xsamev xat xsetO xtop xsame @xmap @xmapE pquo pshf pslen psidx pssub pscat psit pslist pofBytes @plen @pidx @psub @papp @pset @pmake @pmfind @pmput @ploop xT) (hT : xT = table) (hPP : PP = ⟨xar, xcmp, xwrap, xseq, xslt, xenc, pquo, pshf, pslen, psidx, pssub, pscat, psit, pslist, pofBytes, @plen, @pidx, @psub, @papp, @pset, @pmake, @pmfind, @pmput, @ploop⟩)
variable {e_api_Value : S_api_Value → D} {e_api_Pair : S_api_Pair → D} {e_int : Int → D} (he_e_api_Value : ∀ (x_0 x_1 : Int) (x_2 : Str) (x_3 : Ls0) (x_4 : Ls1), e_api_Value ⟨x_0, x_1, x_2, x_3, x_4⟩ = (.agg [(.int .i64 x_0), (.int .i64 x_1), (.str x_2), (.sl (xmap e_api_Value x_3)), (.sl (xmap e_api_Pair x_4))])) (hz_e_api_Value : ∀ l, xallsz 5 (xmap e_api_Value l) = true) (he_e_api_Pair : ∀ (x_0 : Str) (x_1_0 x_1_1 : Int) (x_1_2 : Str) (x_1_3 : Ls0) (x_1_4 : Ls1), e_api_Pair ⟨x_0, ⟨x_1_0, x_1_1, x_1_2, x_1_3, x_1_4⟩⟩ = (.agg [(.str x_0), (.int .i64 x_1_0), (.int .i64 x_1_1), (.str x_1_2), (.sl (xmap e_api_Value x_1_3)), (.sl (xmap e_api_Pair x_1_4))])) (hz_e_api_Pair : ∀ l, xallsz 6 (xmap e_api_Pair l) = true) (he_e_int : ∀ (x : Int), e_int x = (.int .i64 x)) (hz_e_int : ∀ l, xallsz 1 (xmap e_int l) = true)
include h hT hPP he_e_api_Value hz_e_api_Value he_e_api_Pair hz_e_api_Pair he_e_int hz_e_int
def b_tree_unused_0 (P : Prims)   (v0_0 v0_1 : Int) (v0_2 : Str) (v0_3 : Ls0) (v0_4 : Ls1) : Option (Bool) :=
 match P.cmp .eql v0_0 1 with
 | false =>
  match P.cmp .eql v0_0 2 with
  | false =>
   match P.cmp .eql v0_1 0 with
   | false =>
    some false
   | true =>
    match P.cmp .eql v0_0 3 with
    | false =>
     match P.seq v0_2 [] with
     | false =>
      some false
     | true =>
      match P.cmp .eql v0_0 4 with
      | false =>
       match P.cmp .eql (P.len v0_3) 0 with
       | false =>
        some false
       | true =>
        match P.cmp .eql v0_0 5 with
        | false =>
         some (P.cmp .eql (P.len v0_4) 0)
        | true =>
         some true
      | true =>
       match P.cmp .eql v0_0 5 with
       | false =>
        some (P.cmp .eql (P.len v0_4) 0)
       | true =>
        some true
    | true =>
     match P.cmp .eql v0_0 4 with
     | false =>
      match P.cmp .eql (P.len v0_3) 0 with
      | false =>
       some false
      | true =>
       match P.cmp .eql v0_0 5 with
       | false =>
        some (P.cmp .eql (P.len v0_4) 0)
       | true =>
        some true
     | true =>
      match P.cmp .eql v0_0 5 with
      | false =>
       some (P.cmp .eql (P.len v0_4) 0)
      | true =>
       some true
  | true =>
   match P.cmp .eql v0_0 3 with
   | false =>
    match P.seq v0_2 [] with
    | false =>
     some false
    | true =>
     match P.cmp .eql v0_0 4 with
     | false =>
      match P.cmp .eql (P.len v0_3) 0 with
      | false =>
       some false
      | true =>
       match P.cmp .eql v0_0 5 with
       | false =>
        some (P.cmp .eql (P.len v0_4) 0)
       | true =>
        some true
     | true =>
      match P.cmp .eql v0_0 5 with
      | false =>
       some (P.cmp .eql (P.len v0_4) 0)
      | true =>
       some true
   | true =>
    match P.cmp .eql v0_0 4 with
    | false =>
     match P.cmp .eql (P.len v0_3) 0 with
     | false =>
      some false
     | true =>
      match P.cmp .eql v0_0 5 with
      | false =>
       some (P.cmp .eql (P.len v0_4) 0)
      | true =>
       some true
    | true =>
     match P.cmp .eql v0_0 5 with
     | false =>
      some (P.cmp .eql (P.len v0_4) 0)
     | true =>
      some true
 | true =>
  match P.cmp .eql v0_0 3 with
  | false =>
   match P.seq v0_2 [] with
   | false =>
    some false
   | true =>
    match P.cmp .eql v0_0 4 with
    | false =>
     match P.cmp .eql (P.len v0_3) 0 with
     | false =>
      some false
     | true =>
      match P.cmp .eql v0_0 5 with
      | false =>
       some (P.cmp .eql (P.len v0_4) 0)
      | true =>
       some true
    | true =>
     match P.cmp .eql v0_0 5 with
     | false =>
      some (P.cmp .eql (P.len v0_4) 0)
     | true =>
      some true
  | true =>
   match P.cmp .eql v0_0 4 with
   | false =>
    match P.cmp .eql (P.len v0_3) 0 with
    | false =>
     some false
    | true =>
     match P.cmp .eql v0_0 5 with
     | false =>
      some (P.cmp .eql (P.len v0_4) 0)
     | true =>
      some true
   | true =>
    match P.cmp .eql v0_0 5 with
    | false =>
     some (P.cmp .eql (P.len v0_4) 0)
    | true =>
     some true
section
variable   (stk : Stk) (m : Nat)   
include   stk m  
theorem o_tree_unused_0  (v0_0 v0_1 : Int) (v0_2 : Str) (v0_3 : Ls0) (v0_4 : Ls1)   {out} (hp : b_tree_unused_0 PP   v0_0 v0_1 v0_2 v0_3 v0_4 = some out) : (A_tree_unused_0 xat @xmap e_api_Value e_api_Pair m  v0_0 v0_1 v0_2 v0_3 v0_4 stk) = (O_tree_unused  m  stk) out := by
 subst hPP
 simp only [b_tree_unused_0] at hp
 unfold A_tree_unused_0
 rw [h.at_, hT]
 cbv
 cases c1 : xcmp .eql v0_0 1 with
 | false =>
  simp only [c1] at hp ⊢
  cbv
  cases c12 : xcmp .eql v0_0 2 with
  | false =>
   simp only [c12] at hp ⊢
   cbv
   cases c23 : xcmp .eql v0_1 0 with
   | false =>
    simp only [c23] at hp ⊢
    cbv
    cases hp
    all_goals first | rfl | (cbv; done)
   | true =>
    simp only [c23] at hp ⊢
    cbv
    cases c24 : xcmp .eql v0_0 3 with
    | false =>
     simp only [c24] at hp ⊢
     cbv
     cases c29 : xseq v0_2 [] with
     | false =>
      simp only [c29] at hp ⊢
      cbv
      cases hp
      all_goals first | rfl | (cbv; done)
     | true =>
      simp only [c29] at hp ⊢
      cbv
      cases c30 : xcmp .eql v0_0 4 with
      | false =>
       simp only [c30] at hp ⊢
       cbv
       try simp only [h.len]
       cases c32 : xcmp .eql (plen v0_3) 0 with
       | false =>
        simp only [c32] at hp ⊢
        cbv
        cases hp
        all_goals first | rfl | (cbv; done)
       | true =>
        simp only [c32] at hp ⊢
        cbv
        cases c33 : xcmp .eql v0_0 5 with
        | false =>
         simp only [c33] at hp ⊢
         cbv
         try simp only [h.len]
         cases hp
         all_goals first | rfl | (cbv; done)
        | true =>
         simp only [c33] at hp ⊢
         cbv
         cases hp
         all_goals first | rfl | (cbv; done)
      | true =>
       simp only [c30] at hp ⊢
       cbv
       cases c31 : xcmp .eql v0_0 5 with
       | false =>
        simp only [c31] at hp ⊢
        cbv
        try simp only [h.len]
        cases hp
        all_goals first | rfl | (cbv; done)
       | true =>
        simp only [c31] at hp ⊢
        cbv
        cases hp
        all_goals first | rfl | (cbv; done)
    | true =>
     simp only [c24] at hp ⊢
     cbv
     cases c25 : xcmp .eql v0_0 4 with
     | false =>
      simp only [c25] at hp ⊢
      cbv
      try simp only [h.len]
      cases c27 : xcmp .eql (plen v0_3) 0 with
      | false =>
       simp only [c27] at hp ⊢
       cbv
       cases hp
       all_goals first | rfl | (cbv; done)
      | true =>
       simp only [c27] at hp ⊢
       cbv
       cases c28 : xcmp .eql v0_0 5 with
       | false =>
        simp only [c28] at hp ⊢
        cbv
        try simp only [h.len]
        cases hp
        all_goals first | rfl | (cbv; done)
       | true =>
        simp only [c28] at hp ⊢
        cbv
        cases hp
        all_goals first | rfl | (cbv; done)
     | true =>
      simp only [c25] at hp ⊢
      cbv
      cases c26 : xcmp .eql v0_0 5 with
      | false =>
       simp only [c26] at hp ⊢
       cbv
       try simp only [h.len]
       cases hp
       all_goals first | rfl | (cbv; done)
      | true =>
       simp only [c26] at hp ⊢
       cbv
       cases hp
       all_goals first | rfl | (cbv; done)
  | true =>
   simp only [c12] at hp ⊢
   cbv
   cases c13 : xcmp .eql v0_0 3 with
   | false =>
    simp only [c13] at hp ⊢
    cbv
    cases c18 : xseq v0_2 [] with
    | false =>
     simp only [c18] at hp ⊢
     cbv
     cases hp
     all_goals first | rfl | (cbv; done)
    | true =>
     simp only [c18] at hp ⊢
     cbv
     cases c19 : xcmp .eql v0_0 4 with
     | false =>
      simp only [c19] at hp ⊢
      cbv
      try simp only [h.len]
      cases c21 : xcmp .eql (plen v0_3) 0 with
      | false =>
       simp only [c21] at hp ⊢
       cbv
       cases hp
       all_goals first | rfl | (cbv; done)
      | true =>
       simp only [c21] at hp ⊢
       cbv
       cases c22 : xcmp .eql v0_0 5 with
       | false =>
        simp only [c22] at hp ⊢
        cbv
        try simp only [h.len]
        cases hp
        all_goals first | rfl | (cbv; done)
       | true =>
        simp only [c22] at hp ⊢
        cbv
        cases hp
        all_goals first | rfl | (cbv; done)
     | true =>
      simp only [c19] at hp ⊢
      cbv
      cases c20 : xcmp .eql v0_0 5 with
      | false =>
       simp only [c20] at hp ⊢
       cbv
       try simp only [h.len]
       cases hp
       all_goals first | rfl | (cbv; done)
      | true =>
       simp only [c20] at hp ⊢
       cbv
       cases hp
       all_goals first | rfl | (cbv; done)
   | true =>
    simp only [c13] at hp ⊢
    cbv
    cases c14 : xcmp .eql v0_0 4 with
    | false =>
     simp only [c14] at hp ⊢
     cbv
     try simp only [h.len]
     cases c16 : xcmp .eql (plen v0_3) 0 with
     | false =>
      simp only [c16] at hp ⊢
      cbv
      cases hp
      all_goals first | rfl | (cbv; done)
     | true =>
      simp only [c16] at hp ⊢
      cbv
      cases c17 : xcmp .eql v0_0 5 with
      | false =>
       simp only [c17] at hp ⊢
       cbv
       try simp only [h.len]
       cases hp
       all_goals first | rfl | (cbv; done)
      | true =>
       simp only [c17] at hp ⊢
       cbv
       cases hp
       all_goals first | rfl | (cbv; done)
    | true =>
     simp only [c14] at hp ⊢
     cbv
     cases c15 : xcmp .eql v0_0 5 with
     | false =>
      simp only [c15] at hp ⊢
      cbv
      try simp only [h.len]
      cases hp
      all_goals first | rfl | (cbv; done)
     | true =>
      simp only [c15] at hp ⊢
      cbv
      cases hp
      all_goals first | rfl | (cbv; done)
 | true =>
  simp only [c1] at hp ⊢
  cbv
  cases c2 : xcmp .eql v0_0 3 with
  | false =>
   simp only [c2] at hp ⊢
   cbv
   cases c7 : xseq v0_2 [] with
   | false =>
    simp only [c7] at hp ⊢
    cbv
    cases hp
    all_goals first | rfl | (cbv; done)
   | true =>
    simp only [c7] at hp ⊢
    cbv
    cases c8 : xcmp .eql v0_0 4 with
    | false =>
     simp only [c8] at hp ⊢
     cbv
     try simp only [h.len]
     cases c10 : xcmp .eql (plen v0_3) 0 with
     | false =>
      simp only [c10] at hp ⊢
      cbv
      cases hp
      all_goals first | rfl | (cbv; done)
     | true =>
      simp only [c10] at hp ⊢
      cbv
      cases c11 : xcmp .eql v0_0 5 with
      | false =>
       simp only [c11] at hp ⊢
       cbv
       try simp only [h.len]
       cases hp
       all_goals first | rfl | (cbv; done)
      | true =>
       simp only [c11] at hp ⊢
       cbv
       cases hp
       all_goals first | rfl | (cbv; done)
    | true =>
     simp only [c8] at hp ⊢
     cbv
     cases c9 : xcmp .eql v0_0 5 with
     | false =>
      simp only [c9] at hp ⊢
      cbv
      try simp only [h.len]
      cases hp
      all_goals first | rfl | (cbv; done)
     | true =>
      simp only [c9] at hp ⊢
      cbv
      cases hp
      all_goals first | rfl | (cbv; done)
  | true =>
   simp only [c2] at hp ⊢
   cbv
   cases c3 : xcmp .eql v0_0 4 with
   | false =>
    simp only [c3] at hp ⊢
    cbv
    try simp only [h.len]
    cases c5 : xcmp .eql (plen v0_3) 0 with
    | false =>
     simp only [c5] at hp ⊢
     cbv
     cases hp
     all_goals first | rfl | (cbv; done)
    | true =>
     simp only [c5] at hp ⊢
     cbv
     cases c6 : xcmp .eql v0_0 5 with
     | false =>
      simp only [c6] at hp ⊢
      cbv
      try simp only [h.len]
      cases hp
      all_goals first | rfl | (cbv; done)
     | true =>
      simp only [c6] at hp ⊢
      cbv
      cases hp
      all_goals first | rfl | (cbv; done)
   | true =>
    simp only [c3] at hp ⊢
    cbv
    cases c4 : xcmp .eql v0_0 5 with
    | false =>
     simp only [c4] at hp ⊢
     cbv
     try simp only [h.len]
     cases hp
     all_goals first | rfl | (cbv; done)
    | true =>
     simp only [c4] at hp ⊢
     cbv
     cases hp
     all_goals first | rfl | (cbv; done)
end
def b_text_Bad_0 (P : Prims) (c_unicode_utf8_DecodeRuneInString : Str → Option (Int × Int)) (l_1 : T_text_Bad_1) (v0 : Str) : Option (Int) :=
 l_1 v0 v0 0
section
variable (c_unicode_utf8_DecodeRuneInString : Str → Option (Int × Int)) (h_unicode_utf8_DecodeRuneInString : (C_unicode_utf8_DecodeRuneInString xpcall xfcall c_unicode_utf8_DecodeRuneInString)) (stk : Stk) (m : Nat)   
include c_unicode_utf8_DecodeRuneInString h_unicode_utf8_DecodeRuneInString stk m  
theorem o_text_Bad_0 (l_1 : T_text_Bad_1) (v0 : Str)  (h_l_1 : H_text_Bad_1 xat m  l_1) {out} (hp : b_text_Bad_0 PP c_unicode_utf8_DecodeRuneInString l_1 v0 = some out) : (A_text_Bad_0 xat m  v0 stk) = (O_text_Bad  m  stk) out := by
 subst hPP
 simp only [b_text_Bad_0] at hp
 unfold A_text_Bad_0
 rw [h.at_, hT]
 cbv
 first | exact h_l_1 hp stk | (have q := h_l_1 hp stk; simp only [A_text_Bad_1, h.map_cons, h.map_nil, h.mapE_nil, h.len_nil, he_e_api_Value, he_e_api_Pair, he_e_int] at q; first | exact q | (cbv; exact q))
def b_text_Bad_1 (P : Prims) (c_unicode_utf8_DecodeRuneInString : Str → Option (Int × Int))  (v0 o8_s : Str) (o8_p : Nat) : Option ((Str × Str × Nat) ⊕ (Int)) :=
 match P.sit o8_s o8_p with
 | none =>
  some (.inr (-1))
 | some (i1, r2, n3) =>
  match P.cmp .neq r2 65533 with
  | false =>
   match P.ssub v0 (some i1) none with
   | none => none
   | some s5 =>
    match c_unicode_utf8_DecodeRuneInString s5 with
    | none => none
    | some (r7_0, r7_1) =>
     match P.cmp .eql r7_1 1 with
     | false =>
      some (.inl (v0, o8_s, n3))
     | true =>
      some (.inr i1)
  | true =>
   some (.inl (v0, o8_s, n3))
theorem o_text_Bad_1  (v0 o8_s : Str) (o8_p : Nat)   {out} (hp : b_text_Bad_1 PP c_unicode_utf8_DecodeRuneInString  v0 o8_s o8_p = some out) : (A_text_Bad_1 xat m  v0 o8_s o8_p stk) = (Sum.elim (fun (v0, o8_s, o8_p) => (A_text_Bad_1 xat m  v0 o8_s o8_p stk)) (O_text_Bad  m  stk)) out := by
 subst hPP
 simp only [b_text_Bad_1] at hp
 unfold A_text_Bad_1
 rw [h.at_, hT]
 cbv
 cases c11 : psit o8_s o8_p with
 | none =>
  simp only [c11] at hp
  have q1 := h.sit0 c11
  simp only [q1, Bool.false_eq_true, if_false]
  cbv
  rw [h.at_, hT]
  cbv
  cases hp
  all_goals first | rfl | (cbv; done)
 | some y12 =>
  obtain ⟨i1, r2, n3⟩ := y12
  simp only [c11] at hp
  obtain ⟨q1, q2, q3, q4⟩ := h.sit1 c11
  simp only [q1, q2, q3, q4, if_true]
  cbv
  rw [h.at_, hT]
  cbv
  cases c4 : xcmp .neq r2 65533 with
  | false =>
   simp only [c4] at hp ⊢
   cbv
   rw [h.at_, hT]
   cbv
   cases c6 : pssub v0 (some i1) none with
   | none => simp only [c6] at hp; cases hp
   | some s5 =>
    simp only [c6] at hp
    obtain ⟨q0, q1, q2, q3⟩ := h.ssub1 c6
    simp only [q0, q1, q2, q3, Bool.false_eq_true, if_false, if_true]
    cbv
    try simp only [q0, q1, q2, q3, if_true]
    cbv
    cases c8 : c_unicode_utf8_DecodeRuneInString s5 with
    | none => simp only [c8] at hp; cases hp
    | some y10 =>
     obtain ⟨r7_0, r7_1⟩ := y10
     simp only [c8] at hp
     have qc := fun s => (h_unicode_utf8_DecodeRuneInString c8 s).1
     simp only [qc]
     cbv
     cases c9 : xcmp .eql r7_1 1 with
     | false =>
      simp only [c9] at hp ⊢
      cbv
      cases hp
      all_goals first | rfl | (cbv; done)
     | true =>
      simp only [c9] at hp ⊢
      cbv
      cases hp
      all_goals first | rfl | (cbv; done)
  | true =>
   simp only [c4] at hp ⊢
   cbv
   cases hp
   all_goals first | rfl | (cbv; done)
end
def b_text_Right_0 (P : Prims) (c_text_Bad : Str → Option (Int))  (v0 : Str) : Option (Bool) :=
 match c_text_Bad v0 with
 | none => none
 | some r1_0 =>
  some (P.cmp .lss r1_0 0)
section
variable (c_text_Bad : Str → Option (Int)) (h_text_Bad : (C_text_Bad xpcall xfcall c_text_Bad)) (stk : Stk) (m : Nat)   
include c_text_Bad h_text_Bad stk m  
theorem o_text_Right_0  (v0 : Str)   {out} (hp : b_text_Right_0 PP c_text_Bad  v0 = some out) : (A_text_Right_0 xat m  v0 stk) = (O_text_Right  m  stk) out := by
 subst hPP
 simp only [b_text_Right_0] at hp
 unfold A_text_Right_0
 rw [h.at_, hT]
 cbv
 cases c2 : c_text_Bad v0 with
 | none => simp only [c2] at hp; cases hp
 | some r1_0 =>
  simp only [c2] at hp
  have qc := fun s => (h_text_Bad c2 s).1
  simp only [qc]
  cbv
  cases hp
  all_goals first | rfl | (cbv; done)
end
def b_tree_keys_0 (P : Prims) (c_text_Right : Str → Option (Bool)) (l_1 : T_tree_keys_1) (v0 : Ls1) : Option (Bool) :=
 l_1 v0 (P.len v0) 0 0 []
section
variable (c_text_Right : Str → Option (Bool)) (h_text_Right : (C_text_Right xpcall xfcall c_text_Right)) (stk : Stk) (m : Nat)   
include c_text_Right h_text_Right stk m  
theorem o_tree_keys_0 (l_1 : T_tree_keys_1) (v0 : Ls1)  (h_l_1 : H_tree_keys_1 xat @xmap @xmapE e_api_Pair e_int m  l_1) {out} (hp : b_tree_keys_0 PP c_text_Right l_1 v0 = some out) : (A_tree_keys_0 xat @xmap e_api_Pair m  v0 stk) = (O_tree_keys  m  stk) out := by
 subst hPP
 simp only [b_tree_keys_0] at hp
 unfold A_tree_keys_0
 rw [h.at_, hT]
 cbv
 try simp only [h.len]
 simp only [h.frzM0]
 cbv
 first | exact h_l_1 hp stk | (have q := h_l_1 hp stk; simp only [A_tree_keys_1, h.map_cons, h.map_nil, h.mapE_nil, h.len_nil, he_e_api_Value, he_e_api_Pair, he_e_int] at q; first | exact q | (cbv; exact q))
def b_tree_keys_1 (P : Prims) (c_text_Right : Str → Option (Bool)) (l_3 : T_tree_keys_3) (v7 : Ls1) (v8 v9 : Int) (o6_c : Nat) (o6 : (List (Str × Nat × Int))) : Option ((Ls1 × Int × Int × Nat × (List (Str × Nat × Int))) ⊕ (Bool)) :=
 match P.cmp .lss v9 v8 with
 | false =>
  some (.inr true)
 | true =>
  match P.idx v7 v9 with
  | none => none
  | some ⟨a2_0, ⟨a2_1_0, a2_1_1, a2_1_2, a2_1_3, a2_1_4⟩⟩ =>
   match P.mfind a2_0 o6 with
   | none =>
    match P.mfind a2_0 (P.mput a2_0 o6_c (P.ar .add .i64 0 1) o6) with
    | none =>
     match P.cmp .gtr 0 1 with
     | false =>
      match c_text_Right a2_0 with
      | none => none
      | some r32_0 =>
       match r32_0 with
       | false =>
        some (.inr false)
       | true =>
        l_3 v7 v8 v9 (o6_c + 1) (P.mput a2_0 o6_c (P.ar .add .i64 0 1) o6)
     | true =>
      some (.inr false)
    | some f25 =>
     match P.cmp .gtr f25 1 with
     | false =>
      match c_text_Right a2_0 with
      | none => none
      | some r28_0 =>
       match r28_0 with
       | false =>
        some (.inr false)
       | true =>
        l_3 v7 v8 v9 (o6_c + 1) (P.mput a2_0 o6_c (P.ar .add .i64 0 1) o6)
     | true =>
      some (.inr false)
   | some f5 =>
    match P.mfind a2_0 (P.mput a2_0 o6_c (P.ar .add .i64 f5 1) o6) with
    | none =>
     match P.cmp .gtr 0 1 with
     | false =>
      match c_text_Right a2_0 with
      | none => none
      | some r18_0 =>
       match r18_0 with
       | false =>
        some (.inr false)
       | true =>
        l_3 v7 v8 v9 o6_c (P.mput a2_0 o6_c (P.ar .add .i64 f5 1) o6)
     | true =>
      some (.inr false)
    | some f11 =>
     match P.cmp .gtr f11 1 with
     | false =>
      match c_text_Right a2_0 with
      | none => none
      | some r14_0 =>
       match r14_0 with
       | false =>
        some (.inr false)
       | true =>
        l_3 v7 v8 v9 o6_c (P.mput a2_0 o6_c (P.ar .add .i64 f5 1) o6)
     | true =>
      some (.inr false)
theorem o_tree_keys_1 (l_3 : T_tree_keys_3) (v7 : Ls1) (v8 v9 : Int) (o6_c : Nat) (o6 : (List (Str × Nat × Int)))  (h_l_3 : H_tree_keys_3 xat @xmap @xmapE e_api_Pair e_int m  l_3) {out} (hp : b_tree_keys_1 PP c_text_Right l_3 v7 v8 v9 o6_c o6 = some out) : (A_tree_keys_1 xat @xmap @xmapE e_api_Pair e_int m  v7 v8 v9 o6_c o6 stk) = (Sum.elim (fun (v7, v8, v9, o6_c, o6) => (A_tree_keys_1 xat @xmap @xmapE e_api_Pair e_int m  v7 v8 v9 o6_c o6 stk)) (O_tree_keys  m  stk)) out := by
 subst hPP
 simp only [b_tree_keys_1] at hp
 unfold A_tree_keys_1
 rw [h.at_, hT]
 cbv
 cases c1 : xcmp .lss v9 v8 with
 | false =>
  simp only [c1] at hp ⊢
  cbv
  rw [h.at_, hT]
  cbv
  cases hp
  all_goals first | rfl | (cbv; done)
 | true =>
  simp only [c1] at hp ⊢
  cbv
  simp only [h.frzM]
  cbv
  rw [h.at_, hT]
  cbv
  cases c3 : pidx v7 v9 with
  | none => simp only [c3] at hp; cases hp
  | some y35 =>
   obtain ⟨a2_0, ⟨a2_1_0, a2_1_1, a2_1_2, a2_1_3, a2_1_4⟩⟩ := y35
   simp only [c3] at hp
   obtain ⟨q1, q2⟩ := h.idx e_api_Pair c3
   simp only [he_e_api_Pair] at q2
   simp only [q1, Bool.false_eq_true, if_false]
   cbv
   try simp only [q2]
   cbv
   cases c4 : pmfind a2_0 o6 with
   | none =>
    simp only [c4] at hp
    have q1 := h.mfind0 e_int c4
    simp only [q1]
    cbv
    have q1 := h.mfind0 e_int c4
    have q2 := h.mput e_int a2_0 o6_c (xar .add .i64 0 1) o6 (he_e_int _)
    simp only [q1, q2]
    cbv
    cases c24 : pmfind a2_0 (pmput a2_0 o6_c (xar .add .i64 0 1) o6) with
    | none =>
     simp only [c24] at hp
     have q1 := h.mfind0 e_int c24
     simp only [q1]
     cbv
     cases c31 : xcmp .gtr 0 1 with
     | false =>
      simp only [c31] at hp ⊢
      cbv
      cases c33 : c_text_Right a2_0 with
      | none => simp only [c33] at hp; cases hp
      | some r32_0 =>
       simp only [c33] at hp
       have qc := fun s => (h_text_Right c33 s).1
       simp only [qc]
       cbv
       cases r32_0 with
       | false =>
        simp only at hp
        cbv
        cases hp
        all_goals first | rfl | (cbv; done)
       | true =>
        simp only at hp
        cbv
        simp only [h.frzM]
        cbv
        first | exact h_l_3 hp stk | (have q := h_l_3 hp stk; simp only [A_tree_keys_3, h.map_cons, h.map_nil, h.mapE_nil, h.len_nil, he_e_api_Value, he_e_api_Pair, he_e_int] at q; first | exact q | (cbv; exact q))
     | true =>
      simp only [c31] at hp ⊢
      cbv
      cases hp
      all_goals first | rfl | (cbv; done)
    | some f25 =>
     simp only [c24] at hp
     have q1 := h.mfind1 e_int c24
     simp only [he_e_int] at q1
     simp only [q1]
     cbv
     cases c27 : xcmp .gtr f25 1 with
     | false =>
      simp only [c27] at hp ⊢
      cbv
      cases c29 : c_text_Right a2_0 with
      | none => simp only [c29] at hp; cases hp
      | some r28_0 =>
       simp only [c29] at hp
       have qc := fun s => (h_text_Right c29 s).1
       simp only [qc]
       cbv
       cases r28_0 with
       | false =>
        simp only at hp
        cbv
        cases hp
        all_goals first | rfl | (cbv; done)
       | true =>
        simp only at hp
        cbv
        simp only [h.frzM]
        cbv
        first | exact h_l_3 hp stk | (have q := h_l_3 hp stk; simp only [A_tree_keys_3, h.map_cons, h.map_nil, h.mapE_nil, h.len_nil, he_e_api_Value, he_e_api_Pair, he_e_int] at q; first | exact q | (cbv; exact q))
     | true =>
      simp only [c27] at hp ⊢
      cbv
      cases hp
      all_goals first | rfl | (cbv; done)
   | some f5 =>
    simp only [c4] at hp
    have q1 := h.mfind1 e_int c4
    simp only [he_e_int] at q1
    simp only [q1]
    cbv
    have q1 := h.mfind1 e_int c4
    have q2 := h.mput e_int a2_0 o6_c (xar .add .i64 f5 1) o6 (he_e_int _)
    simp only [q1, q2]
    cbv
    cases c10 : pmfind a2_0 (pmput a2_0 o6_c (xar .add .i64 f5 1) o6) with
    | none =>
     simp only [c10] at hp
     have q1 := h.mfind0 e_int c10
     simp only [q1]
     cbv
     cases c17 : xcmp .gtr 0 1 with
     | false =>
      simp only [c17] at hp ⊢
      cbv
      cases c19 : c_text_Right a2_0 with
      | none => simp only [c19] at hp; cases hp
      | some r18_0 =>
       simp only [c19] at hp
       have qc := fun s => (h_text_Right c19 s).1
       simp only [qc]
       cbv
       cases r18_0 with
       | false =>
        simp only at hp
        cbv
        cases hp
        all_goals first | rfl | (cbv; done)
       | true =>
        simp only at hp
        cbv
        simp only [h.frzM]
        cbv
        first | exact h_l_3 hp stk | (have q := h_l_3 hp stk; simp only [A_tree_keys_3, h.map_cons, h.map_nil, h.mapE_nil, h.len_nil, he_e_api_Value, he_e_api_Pair, he_e_int] at q; first | exact q | (cbv; exact q))
     | true =>
      simp only [c17] at hp ⊢
      cbv
      cases hp
      all_goals first | rfl | (cbv; done)
    | some f11 =>
     simp only [c10] at hp
     have q1 := h.mfind1 e_int c10
     simp only [he_e_int] at q1
     simp only [q1]
     cbv
     cases c13 : xcmp .gtr f11 1 with
     | false =>
      simp only [c13] at hp ⊢
      cbv
      cases c15 : c_text_Right a2_0 with
      | none => simp only [c15] at hp; cases hp
      | some r14_0 =>
       simp only [c15] at hp
       have qc := fun s => (h_text_Right c15 s).1
       simp only [qc]
       cbv
       cases r14_0 with
       | false =>
        simp only at hp
        cbv
        cases hp
        all_goals first | rfl | (cbv; done)
       | true =>
        simp only at hp
        cbv
        simp only [h.frzM]
        cbv
        first | exact h_l_3 hp stk | (have q := h_l_3 hp stk; simp only [A_tree_keys_3, h.map_cons, h.map_nil, h.mapE_nil, h.len_nil, he_e_api_Value, he_e_api_Pair, he_e_int] at q; first | exact q | (cbv; exact q))
     | true =>
      simp only [c13] at hp ⊢
      cbv
      cases hp
      all_goals first | rfl | (cbv; done)
def b_tree_keys_3 (P : Prims) (c_text_Right : Str → Option (Bool))  (v7 : Ls1) (v8 v9 : Int) (o6_c : Nat) (o6 : (List (Str × Nat × Int))) : Option ((Ls1 × Int × Int × Nat × (List (Str × Nat × Int))) ⊕ (Bool)) :=
 some (.inl (v7, v8, P.ar .add .i64 v9 1, o6_c, o6))
theorem o_tree_keys_3  (v7 : Ls1) (v8 v9 : Int) (o6_c : Nat) (o6 : (List (Str × Nat × Int)))   {out} (hp : b_tree_keys_3 PP c_text_Right  v7 v8 v9 o6_c o6 = some out) : (A_tree_keys_3 xat @xmap @xmapE e_api_Pair e_int m  v7 v8 v9 o6_c o6 stk) = (Sum.elim (fun (v7, v8, v9, o6_c, o6) => (A_tree_keys_1 xat @xmap @xmapE e_api_Pair e_int m  v7 v8 v9 o6_c o6 stk)) (O_tree_keys  m  stk)) out := by
 subst hPP
 simp only [b_tree_keys_3] at hp
 unfold A_tree_keys_3
 rw [h.at_, hT]
 cbv
 cases hp
 simp only [h.frzM]
 cbv
 all_goals first | rfl | (cbv; done) | (simp only [h.nadd0, h.nle_refl, h.cut_all, h.cut_nil, h.map_cons, h.map_nil, h.mapE_nil, h.len_nil, he_e_api_Value, he_e_api_Pair, he_e_int, O_tree_keys, A_tree_keys_1, if_true]; first | done | rfl | (cbv; done) | (cbv; simp only [h.map_cons, h.map_nil, h.mapE_nil, h.len_nil, he_e_api_Value, he_e_api_Pair, he_e_int, O_tree_keys, A_tree_keys_1]; done))
end
def b_tree_Right_1_1__0_0 (P : Prims) (c_tree_Right_1__0 : S_api_Value → Int → Option (Bool))  (v0_0 v0_1 : Int) (v0_2 : Str) (v0_3 : Ls0) (v0_4 : Ls1) (v2_0 : Int) : Option (Bool) :=
 match c_tree_Right_1__0 ⟨v0_0, v0_1, v0_2, v0_3, v0_4⟩ (P.ar .sub .i64 v2_0 1) with
 | none => none
 | some r1_0 =>
  match r1_0 with
  | false =>
   some true
  | true =>
   some false
section
variable (c_tree_Right_1__0 : S_api_Value → Int → Option (Bool)) (h_tree_Right_1__0 : (C_tree_Right_1__0 xpcall xfcall @xmap e_api_Value e_api_Pair c_tree_Right_1__0)) (stk : Stk) (m : Nat) (n0 : Nat) (k0 : List Nat) (hl0 : n0 < m) 
include c_tree_Right_1__0 h_tree_Right_1__0 stk m n0 k0 hl0
theorem o_tree_Right_1_1__0_0  (v0_0 v0_1 : Int) (v0_2 : Str) (v0_3 : Ls0) (v0_4 : Ls1) (v2_0 : Int) (hg0 : getO stk ⟨n0, k0⟩ = some (.cells [(.clos (.func F.tree_Right_1) [] [(.ref ⟨n0, k0⟩ 0)])]))  {out} (hp : b_tree_Right_1_1__0_0 PP c_tree_Right_1__0  v0_0 v0_1 v0_2 v0_3 v0_4 v2_0 = some out) : (A_tree_Right_1_1__0_0 xat @xmap e_api_Value e_api_Pair m n0 k0 v0_0 v0_1 v0_2 v0_3 v0_4 v2_0 stk) = (O_tree_Right_1_1__0  m n0 k0 stk) out := by
 have hn0 : (n0 = m) = False := eq_false (Nat.ne_of_lt hl0)
 have hm0 : decide (n0 < m) = true := decide_eq_true hl0
 subst hPP
 simp only [b_tree_Right_1_1__0_0] at hp
 unfold A_tree_Right_1_1__0_0
 rw [h.at_, hT]
 cbv
 simp only [if_false, if_true, hn0, hm0, hg0]
 cbv
 cases c2 : c_tree_Right_1__0 ⟨v0_0, v0_1, v0_2, v0_3, v0_4⟩ (xar .sub .i64 v2_0 1) with
 | none => simp only [c2] at hp; cases hp
 | some r1_0 =>
  simp only [c2] at hp
  have qc := (h_tree_Right_1__0 c2 (⟨m, []⟩ :: stk) n0 k0 ((h.gb hl0 _ _).trans (hg0)) (Nat.le_of_lt hl0)).1
  simp only [qc]
  cbv
  cases r1_0 with
  | false =>
   simp only at hp
   cbv
   cases hp
   try simp only [if_false, if_true, hn0, hm0]
   all_goals first | rfl | (cbv; done)
  | true =>
   simp only at hp
   cbv
   cases hp
   try simp only [if_false, if_true, hn0, hm0]
   all_goals first | rfl | (cbv; done)
end
def b_tree_Right_1__0_0 (P : Prims) (c_tree_unused : S_api_Value → Option (Bool)) (c_text_Right : Str → Option (Bool)) (c_slices_ContainsFunc__api_Value_api_Value__0 : Ls0 → Int → Option (Bool)) (c_tree_keys : Ls1 → Option (Bool)) (c_slices_ContainsFunc__api_Pair_api_Pair__0 : Ls1 → Int → Option (Bool))  (v0_0 v0_1 : Int) (v0_2 : Str) (v0_3 : Ls0) (v0_4 : Ls1) (v1 : Int) : Option (Bool) :=
 match P.cmp .lss v1 1 with
 | false =>
  match c_tree_unused ⟨v0_0, v0_1, v0_2, v0_3, v0_4⟩ with
  | none => none
  | some r2_0 =>
   match r2_0 with
   | false =>
    some false
   | true =>
    match P.cmp .eql v0_0 0 with
    | false =>
     match P.cmp .eql v0_0 1 with
     | false =>
      match P.cmp .eql v0_0 2 with
      | false =>
       match P.cmp .eql v0_0 3 with
       | false =>
        match P.cmp .eql v0_0 4 with
        | false =>
         match P.cmp .eql v0_0 5 with
         | false =>
          some false
         | true =>
          match c_tree_keys v0_4 with
          | none => none
          | some r18_0 =>
           match r18_0 with
           | false =>
            some false
           | true =>
            match c_slices_ContainsFunc__api_Pair_api_Pair__0 v0_4 v1 with
            | none => none
            | some r21_0 =>
             match r21_0 with
             | false =>
              some true
             | true =>
              some false
        | true =>
         match c_slices_ContainsFunc__api_Value_api_Value__0 v0_3 v1 with
         | none => none
         | some r14_0 =>
          match r14_0 with
          | false =>
           some true
          | true =>
           some false
       | true =>
        match c_text_Right v0_2 with
        | none => none
        | some r11_0 =>
         some r11_0
      | true =>
       match P.cmp .geq v0_1 (-9007199254740991) with
       | false =>
        some false
       | true =>
        some (P.cmp .leq v0_1 9007199254740991)
     | true =>
      match P.cmp .eql v0_1 0 with
      | false =>
       some (P.cmp .eql v0_1 1)
      | true =>
       some true
    | true =>
     some true
 | true =>
  some false
section
variable (c_tree_unused : S_api_Value → Option (Bool)) (c_text_Right : Str → Option (Bool)) (c_slices_ContainsFunc__api_Value_api_Value__0 : Ls0 → Int → Option (Bool)) (c_tree_keys : Ls1 → Option (Bool)) (c_slices_ContainsFunc__api_Pair_api_Pair__0 : Ls1 → Int → Option (Bool)) (h_tree_unused : (C_tree_unused xpcall xfcall @xmap e_api_Value e_api_Pair c_tree_unused)) (h_text_Right : (C_text_Right xpcall xfcall c_text_Right)) (h_slices_ContainsFunc__api_Value_api_Value__0 : (C_slices_ContainsFunc__api_Value_api_Value__0 xpcall xfcall @xmap e_api_Value c_slices_ContainsFunc__api_Value_api_Value__0)) (h_tree_keys : (C_tree_keys xpcall xfcall @xmap e_api_Pair c_tree_keys)) (h_slices_ContainsFunc__api_Pair_api_Pair__0 : (C_slices_ContainsFunc__api_Pair_api_Pair__0 xpcall xfcall @xmap e_api_Pair c_slices_ContainsFunc__api_Pair_api_Pair__0)) (stk : Stk) (m : Nat) (n0 : Nat) (k0 : List Nat) (hl0 : n0 < m) 
include c_tree_unused c_text_Right c_slices_ContainsFunc__api_Value_api_Value__0 c_tree_keys c_slices_ContainsFunc__api_Pair_api_Pair__0 h_tree_unused h_text_Right h_slices_ContainsFunc__api_Value_api_Value__0 h_tree_keys h_slices_ContainsFunc__api_Pair_api_Pair__0 stk m n0 k0 hl0
theorem o_tree_Right_1__0_0  (v0_0 v0_1 : Int) (v0_2 : Str) (v0_3 : Ls0) (v0_4 : Ls1) (v1 : Int) (hg0 : getO stk ⟨n0, k0⟩ = some (.cells [(.clos (.func F.tree_Right_1) [] [(.ref ⟨n0, k0⟩ 0)])]))  {out} (hp : b_tree_Right_1__0_0 PP c_tree_unused c_text_Right c_slices_ContainsFunc__api_Value_api_Value__0 c_tree_keys c_slices_ContainsFunc__api_Pair_api_Pair__0  v0_0 v0_1 v0_2 v0_3 v0_4 v1 = some out) : (A_tree_Right_1__0_0 xat @xmap e_api_Value e_api_Pair m n0 k0 v0_0 v0_1 v0_2 v0_3 v0_4 v1 stk) = (O_tree_Right_1__0  m n0 k0 stk) out := by
 have hn0 : (n0 = m) = False := eq_false (Nat.ne_of_lt hl0)
 have hm0 : decide (n0 < m) = true := decide_eq_true hl0
 subst hPP
 simp only [b_tree_Right_1__0_0] at hp
 unfold A_tree_Right_1__0_0
 rw [h.at_, hT]
 cbv
 cases c1 : xcmp .lss v1 1 with
 | false =>
  simp only [c1] at hp ⊢
  cbv
  cases c3 : c_tree_unused ⟨v0_0, v0_1, v0_2, v0_3, v0_4⟩ with
  | none => simp only [c3] at hp; cases hp
  | some r2_0 =>
   simp only [c3] at hp
   have qc := fun s => (h_tree_unused c3 s).1
   simp only [qc]
   cbv
   cases r2_0 with
   | false =>
    simp only at hp
    cbv
    cases hp
    try simp only [if_false, if_true, hn0, hm0]
    all_goals first | rfl | (cbv; done)
   | true =>
    simp only at hp
    cbv
    try simp only [if_false, if_true, hn0, hm0]
    try cbv
    rw [h.at_, hT]
    cbv
    cases c5 : xcmp .eql v0_0 0 with
    | false =>
     simp only [c5] at hp ⊢
     cbv
     cases c6 : xcmp .eql v0_0 1 with
     | false =>
      simp only [c6] at hp ⊢
      cbv
      cases c8 : xcmp .eql v0_0 2 with
      | false =>
       simp only [c8] at hp ⊢
       cbv
       cases c10 : xcmp .eql v0_0 3 with
       | false =>
        simp only [c10] at hp ⊢
        cbv
        cases c13 : xcmp .eql v0_0 4 with
        | false =>
         simp only [c13] at hp ⊢
         cbv
         cases c17 : xcmp .eql v0_0 5 with
         | false =>
          simp only [c17] at hp ⊢
          cbv
          try simp only [if_false, if_true, hn0, hm0]
          try cbv
          rw [h.at_, hT]
          cbv
          cases hp
          try simp only [if_false, if_true, hn0, hm0]
          all_goals first | rfl | (cbv; done)
         | true =>
          simp only [c17] at hp ⊢
          cbv
          cases c19 : c_tree_keys v0_4 with
          | none => simp only [c19] at hp; cases hp
          | some r18_0 =>
           simp only [c19] at hp
           have qc := fun s => (h_tree_keys c19 s).1
           simp only [qc]
           cbv
           cases r18_0 with
           | false =>
            simp only at hp
            cbv
            cases hp
            try simp only [if_false, if_true, hn0, hm0]
            all_goals first | rfl | (cbv; done)
           | true =>
            simp only at hp
            cbv
            cases c22 : c_slices_ContainsFunc__api_Pair_api_Pair__0 v0_4 v1 with
            | none => simp only [c22] at hp; cases hp
            | some r21_0 =>
             simp only [c22] at hp
             have qc := (h_slices_ContainsFunc__api_Pair_api_Pair__0 c22 (⟨m, []⟩ :: stk) n0 k0 ((h.gb hl0 _ _).trans (hg0)) (Nat.le_of_lt hl0)).1
             simp only [qc]
             cbv
             cases r21_0 with
             | false =>
              simp only at hp
              cbv
              cases hp
              try simp only [if_false, if_true, hn0, hm0]
              all_goals first | rfl | (cbv; done)
             | true =>
              simp only at hp
              cbv
              cases hp
              try simp only [if_false, if_true, hn0, hm0]
              all_goals first | rfl | (cbv; done)
        | true =>
         simp only [c13] at hp ⊢
         cbv
         cases c15 : c_slices_ContainsFunc__api_Value_api_Value__0 v0_3 v1 with
         | none => simp only [c15] at hp; cases hp
         | some r14_0 =>
          simp only [c15] at hp
          have qc := (h_slices_ContainsFunc__api_Value_api_Value__0 c15 (⟨m, []⟩ :: stk) n0 k0 ((h.gb hl0 _ _).trans (hg0)) (Nat.le_of_lt hl0)).1
          simp only [qc]
          cbv
          cases r14_0 with
          | false =>
           simp only at hp
           cbv
           cases hp
           try simp only [if_false, if_true, hn0, hm0]
           all_goals first | rfl | (cbv; done)
          | true =>
           simp only at hp
           cbv
           cases hp
           try simp only [if_false, if_true, hn0, hm0]
           all_goals first | rfl | (cbv; done)
       | true =>
        simp only [c10] at hp ⊢
        cbv
        cases c12 : c_text_Right v0_2 with
        | none => simp only [c12] at hp; cases hp
        | some r11_0 =>
         simp only [c12] at hp
         have qc := fun s => (h_text_Right c12 s).1
         simp only [qc]
         cbv
         cases hp
         try simp only [if_false, if_true, hn0, hm0]
         all_goals first | rfl | (cbv; done)
      | true =>
       simp only [c8] at hp ⊢
       cbv
       cases c9 : xcmp .geq v0_1 (-9007199254740991) with
       | false =>
        simp only [c9] at hp ⊢
        cbv
        cases hp
        try simp only [if_false, if_true, hn0, hm0]
        all_goals first | rfl | (cbv; done)
       | true =>
        simp only [c9] at hp ⊢
        cbv
        cases hp
        try simp only [if_false, if_true, hn0, hm0]
        all_goals first | rfl | (cbv; done)
     | true =>
      simp only [c6] at hp ⊢
      cbv
      cases c7 : xcmp .eql v0_1 0 with
      | false =>
       simp only [c7] at hp ⊢
       cbv
       cases hp
       try simp only [if_false, if_true, hn0, hm0]
       all_goals first | rfl | (cbv; done)
      | true =>
       simp only [c7] at hp ⊢
       cbv
       cases hp
       try simp only [if_false, if_true, hn0, hm0]
       all_goals first | rfl | (cbv; done)
    | true =>
     simp only [c5] at hp ⊢
     cbv
     cases hp
     try simp only [if_false, if_true, hn0, hm0]
     all_goals first | rfl | (cbv; done)
 | true =>
  simp only [c1] at hp ⊢
  cbv
  cases hp
  try simp only [if_false, if_true, hn0, hm0]
  all_goals first | rfl | (cbv; done)
end
def b_slices_ContainsFunc__api_Value_api_Value__0_0 (P : Prims) (c_slices_IndexFunc__api_Value_api_Value__0 : Ls0 → Int → Option (Int))  (v0 : Ls0) (v1_c1_0 : Int) : Option (Bool) :=
 match c_slices_IndexFunc__api_Value_api_Value__0 v0 v1_c1_0 with
 | none => none
 | some r1_0 =>
  some (P.cmp .geq r1_0 0)
section
variable (c_slices_IndexFunc__api_Value_api_Value__0 : Ls0 → Int → Option (Int)) (h_slices_IndexFunc__api_Value_api_Value__0 : (C_slices_IndexFunc__api_Value_api_Value__0 xpcall xfcall @xmap e_api_Value c_slices_IndexFunc__api_Value_api_Value__0)) (stk : Stk) (m : Nat) (n0 : Nat) (k0 : List Nat) (hl0 : n0 < m) 
include c_slices_IndexFunc__api_Value_api_Value__0 h_slices_IndexFunc__api_Value_api_Value__0 stk m n0 k0 hl0
theorem o_slices_ContainsFunc__api_Value_api_Value__0_0  (v0 : Ls0) (v1_c1_0 : Int) (hg0 : getO stk ⟨n0, k0⟩ = some (.cells [(.clos (.func F.tree_Right_1) [] [(.ref ⟨n0, k0⟩ 0)])]))  {out} (hp : b_slices_ContainsFunc__api_Value_api_Value__0_0 PP c_slices_IndexFunc__api_Value_api_Value__0  v0 v1_c1_0 = some out) : (A_slices_ContainsFunc__api_Value_api_Value__0_0 xat @xmap e_api_Value m n0 k0 v0 v1_c1_0 stk) = (O_slices_ContainsFunc__api_Value_api_Value__0  m n0 k0 stk) out := by
 have hn0 : (n0 = m) = False := eq_false (Nat.ne_of_lt hl0)
 have hm0 : decide (n0 < m) = true := decide_eq_true hl0
 subst hPP
 simp only [b_slices_ContainsFunc__api_Value_api_Value__0_0] at hp
 unfold A_slices_ContainsFunc__api_Value_api_Value__0_0
 rw [h.at_, hT]
 cbv
 cases c2 : c_slices_IndexFunc__api_Value_api_Value__0 v0 v1_c1_0 with
 | none => simp only [c2] at hp; cases hp
 | some r1_0 =>
  simp only [c2] at hp
  have qc := (h_slices_IndexFunc__api_Value_api_Value__0 c2 (⟨m, []⟩ :: stk) n0 k0 ((h.gb hl0 _ _).trans (hg0)) (Nat.le_of_lt hl0)).1
  simp only [qc]
  cbv
  cases hp
  try simp only [if_false, if_true, hn0, hm0]
  all_goals first | rfl | (cbv; done)
end
def b_slices_IndexFunc__api_Value_api_Value__0_0 (P : Prims) (c_tree_Right_1_1__0 : S_api_Value → Int → Option (Bool)) (l_1 : T_slices_IndexFunc__api_Value_api_Value__0_1) (v0 : Ls0) (v1_c1_0 : Int) : Option (Int) :=
 l_1 v0 v1_c1_0 (P.len v0) 0
section
variable (c_tree_Right_1_1__0 : S_api_Value → Int → Option (Bool)) (h_tree_Right_1_1__0 : (C_tree_Right_1_1__0 xpcall xfcall @xmap e_api_Value e_api_Pair c_tree_Right_1_1__0)) (stk : Stk) (m : Nat) (n0 : Nat) (k0 : List Nat) (hl0 : n0 < m) 
include c_tree_Right_1_1__0 h_tree_Right_1_1__0 stk m n0 k0 hl0
theorem o_slices_IndexFunc__api_Value_api_Value__0_0 (l_1 : T_slices_IndexFunc__api_Value_api_Value__0_1) (v0 : Ls0) (v1_c1_0 : Int) (hg0 : getO stk ⟨n0, k0⟩ = some (.cells [(.clos (.func F.tree_Right_1) [] [(.ref ⟨n0, k0⟩ 0)])])) (h_l_1 : H_slices_IndexFunc__api_Value_api_Value__0_1 xat @xmap e_api_Value m n0 k0 l_1) {out} (hp : b_slices_IndexFunc__api_Value_api_Value__0_0 PP c_tree_Right_1_1__0 l_1 v0 v1_c1_0 = some out) : (A_slices_IndexFunc__api_Value_api_Value__0_0 xat @xmap e_api_Value m n0 k0 v0 v1_c1_0 stk) = (O_slices_IndexFunc__api_Value_api_Value__0  m n0 k0 stk) out := by
 have hn0 : (n0 = m) = False := eq_false (Nat.ne_of_lt hl0)
 have hm0 : decide (n0 < m) = true := decide_eq_true hl0
 subst hPP
 simp only [b_slices_IndexFunc__api_Value_api_Value__0_0] at hp
 unfold A_slices_IndexFunc__api_Value_api_Value__0_0
 rw [h.at_, hT]
 cbv
 try simp only [h.len]
 try simp only [if_false, if_true, hn0, hm0]
 first | exact h_l_1 hp stk (hg0) | (have q := h_l_1 hp stk (hg0); simp only [A_slices_IndexFunc__api_Value_api_Value__0_1, h.map_cons, h.map_nil, h.mapE_nil, h.len_nil, he_e_api_Value, he_e_api_Pair, he_e_int] at q; first | exact q | (cbv; exact q))
def b_slices_IndexFunc__api_Value_api_Value__0_1 (P : Prims) (c_tree_Right_1_1__0 : S_api_Value → Int → Option (Bool))  (v0 : Ls0) (v1_c1_0 v7 v8 : Int) : Option ((Ls0 × Int × Int × Int) ⊕ (Int)) :=
 match P.cmp .lss v8 v7 with
 | false =>
  some (.inr (-1))
 | true =>
  match P.idx v0 v8 with
  | none => none
  | some ⟨a2_0, a2_1, a2_2, a2_3, a2_4⟩ =>
   match c_tree_Right_1_1__0 ⟨a2_0, a2_1, a2_2, a2_3, a2_4⟩ v1_c1_0 with
   | none => none
   | some r4_0 =>
    match r4_0 with
    | false =>
     some (.inl (v0, v1_c1_0, v7, P.ar .add .i64 v8 1))
    | true =>
     some (.inr v8)
theorem o_slices_IndexFunc__api_Value_api_Value__0_1  (v0 : Ls0) (v1_c1_0 v7 v8 : Int) (hg0 : getO stk ⟨n0, k0⟩ = some (.cells [(.clos (.func F.tree_Right_1) [] [(.ref ⟨n0, k0⟩ 0)])]))  {out} (hp : b_slices_IndexFunc__api_Value_api_Value__0_1 PP c_tree_Right_1_1__0  v0 v1_c1_0 v7 v8 = some out) : (A_slices_IndexFunc__api_Value_api_Value__0_1 xat @xmap e_api_Value m n0 k0 v0 v1_c1_0 v7 v8 stk) = (Sum.elim (fun (v0, v1_c1_0, v7, v8) => (A_slices_IndexFunc__api_Value_api_Value__0_1 xat @xmap e_api_Value m n0 k0 v0 v1_c1_0 v7 v8 stk)) (O_slices_IndexFunc__api_Value_api_Value__0  m n0 k0 stk)) out := by
 have hn0 : (n0 = m) = False := eq_false (Nat.ne_of_lt hl0)
 have hm0 : decide (n0 < m) = true := decide_eq_true hl0
 subst hPP
 simp only [b_slices_IndexFunc__api_Value_api_Value__0_1] at hp
 unfold A_slices_IndexFunc__api_Value_api_Value__0_1
 rw [h.at_, hT]
 cbv
 cases c1 : xcmp .lss v8 v7 with
 | false =>
  simp only [c1] at hp ⊢
  cbv
  try simp only [if_false, if_true, hn0, hm0]
  try cbv
  rw [h.at_, hT]
  cbv
  cases hp
  try simp only [if_false, if_true, hn0, hm0]
  all_goals first | rfl | (cbv; done)
 | true =>
  simp only [c1] at hp ⊢
  cbv
  try simp only [if_false, if_true, hn0, hm0]
  try cbv
  rw [h.at_, hT]
  cbv
  cases c3 : pidx v0 v8 with
  | none => simp only [c3] at hp; cases hp
  | some y7 =>
   obtain ⟨a2_0, a2_1, a2_2, a2_3, a2_4⟩ := y7
   simp only [c3] at hp
   obtain ⟨q1, q2⟩ := h.idx e_api_Value c3
   simp only [he_e_api_Value] at q2
   simp only [q1, Bool.false_eq_true, if_false]
   cbv
   try simp only [q2]
   cbv
   cases c5 : c_tree_Right_1_1__0 ⟨a2_0, a2_1, a2_2, a2_3, a2_4⟩ v1_c1_0 with
   | none => simp only [c5] at hp; cases hp
   | some r4_0 =>
    simp only [c5] at hp
    have qc := (h_tree_Right_1_1__0 c5 (⟨m, []⟩ :: stk) n0 k0 ((h.gb hl0 _ _).trans (hg0)) (Nat.le_of_lt hl0)).1
    simp only [qc]
    cbv
    cases r4_0 with
    | false =>
     simp only at hp
     cbv
     try simp only [if_false, if_true, hn0, hm0]
     try cbv
     rw [h.at_, hT]
     cbv
     cases hp
     try simp only [if_false, if_true, hn0, hm0]
     all_goals first | rfl | (cbv; done)
    | true =>
     simp only at hp
     cbv
     cases hp
     try simp only [if_false, if_true, hn0, hm0]
     all_goals first | rfl | (cbv; done)
end
def b_slices_ContainsFunc__api_Pair_api_Pair__0_0 (P : Prims) (c_slices_IndexFunc__api_Pair_api_Pair__0 : Ls1 → Int → Option (Int))  (v0 : Ls1) (v1_c1_0 : Int) : Option (Bool) :=
 match c_slices_IndexFunc__api_Pair_api_Pair__0 v0 v1_c1_0 with
 | none => none
 | some r1_0 =>
  some (P.cmp .geq r1_0 0)
section
variable (c_slices_IndexFunc__api_Pair_api_Pair__0 : Ls1 → Int → Option (Int)) (h_slices_IndexFunc__api_Pair_api_Pair__0 : (C_slices_IndexFunc__api_Pair_api_Pair__0 xpcall xfcall @xmap e_api_Pair c_slices_IndexFunc__api_Pair_api_Pair__0)) (stk : Stk) (m : Nat) (n0 : Nat) (k0 : List Nat) (hl0 : n0 < m) 
include c_slices_IndexFunc__api_Pair_api_Pair__0 h_slices_IndexFunc__api_Pair_api_Pair__0 stk m n0 k0 hl0
theorem o_slices_ContainsFunc__api_Pair_api_Pair__0_0  (v0 : Ls1) (v1_c1_0 : Int) (hg0 : getO stk ⟨n0, k0⟩ = some (.cells [(.clos (.func F.tree_Right_1) [] [(.ref ⟨n0, k0⟩ 0)])]))  {out} (hp : b_slices_ContainsFunc__api_Pair_api_Pair__0_0 PP c_slices_IndexFunc__api_Pair_api_Pair__0  v0 v1_c1_0 = some out) : (A_slices_ContainsFunc__api_Pair_api_Pair__0_0 xat @xmap e_api_Pair m n0 k0 v0 v1_c1_0 stk) = (O_slices_ContainsFunc__api_Pair_api_Pair__0  m n0 k0 stk) out := by
 have hn0 : (n0 = m) = False := eq_false (Nat.ne_of_lt hl0)
 have hm0 : decide (n0 < m) = true := decide_eq_true hl0
 subst hPP
 simp only [b_slices_ContainsFunc__api_Pair_api_Pair__0_0] at hp
 unfold A_slices_ContainsFunc__api_Pair_api_Pair__0_0
 rw [h.at_, hT]
 cbv
 cases c2 : c_slices_IndexFunc__api_Pair_api_Pair__0 v0 v1_c1_0 with
 | none => simp only [c2] at hp; cases hp
 | some r1_0 =>
  simp only [c2] at hp
  have qc := (h_slices_IndexFunc__api_Pair_api_Pair__0 c2 (⟨m, []⟩ :: stk) n0 k0 ((h.gb hl0 _ _).trans (hg0)) (Nat.le_of_lt hl0)).1
  simp only [qc]
  cbv
  cases hp
  try simp only [if_false, if_true, hn0, hm0]
  all_goals first | rfl | (cbv; done)
end
def b_slices_IndexFunc__api_Pair_api_Pair__0_0 (P : Prims) (c_tree_Right_1_2__0 : S_api_Pair → Int → Option (Bool)) (l_1 : T_slices_IndexFunc__api_Pair_api_Pair__0_1) (v0 : Ls1) (v1_c1_0 : Int) : Option (Int) :=
 l_1 v0 v1_c1_0 (P.len v0) 0
section
variable (c_tree_Right_1_2__0 : S_api_Pair → Int → Option (Bool)) (h_tree_Right_1_2__0 : (C_tree_Right_1_2__0 xpcall xfcall @xmap e_api_Value e_api_Pair c_tree_Right_1_2__0)) (stk : Stk) (m : Nat) (n0 : Nat) (k0 : List Nat) (hl0 : n0 < m) 
include c_tree_Right_1_2__0 h_tree_Right_1_2__0 stk m n0 k0 hl0
theorem o_slices_IndexFunc__api_Pair_api_Pair__0_0 (l_1 : T_slices_IndexFunc__api_Pair_api_Pair__0_1) (v0 : Ls1) (v1_c1_0 : Int) (hg0 : getO stk ⟨n0, k0⟩ = some (.cells [(.clos (.func F.tree_Right_1) [] [(.ref ⟨n0, k0⟩ 0)])])) (h_l_1 : H_slices_IndexFunc__api_Pair_api_Pair__0_1 xat @xmap e_api_Pair m n0 k0 l_1) {out} (hp : b_slices_IndexFunc__api_Pair_api_Pair__0_0 PP c_tree_Right_1_2__0 l_1 v0 v1_c1_0 = some out) : (A_slices_IndexFunc__api_Pair_api_Pair__0_0 xat @xmap e_api_Pair m n0 k0 v0 v1_c1_0 stk) = (O_slices_IndexFunc__api_Pair_api_Pair__0  m n0 k0 stk) out := by
 have hn0 : (n0 = m) = False := eq_false (Nat.ne_of_lt hl0)
 have hm0 : decide (n0 < m) = true := decide_eq_true hl0
 subst hPP
 simp only [b_slices_IndexFunc__api_Pair_api_Pair__0_0] at hp
 unfold A_slices_IndexFunc__api_Pair_api_Pair__0_0
 rw [h.at_, hT]
 cbv
 try simp only [h.len]
 try simp only [if_false, if_true, hn0, hm0]
 first | exact h_l_1 hp stk (hg0) | (have q := h_l_1 hp stk (hg0); simp only [A_slices_IndexFunc__api_Pair_api_Pair__0_1, h.map_cons, h.map_nil, h.mapE_nil, h.len_nil, he_e_api_Value, he_e_api_Pair, he_e_int] at q; first | exact q | (cbv; exact q))
def b_slices_IndexFunc__api_Pair_api_Pair__0_1 (P : Prims) (c_tree_Right_1_2__0 : S_api_Pair → Int → Option (Bool))  (v0 : Ls1) (v1_c1_0 v7 v8 : Int) : Option ((Ls1 × Int × Int × Int) ⊕ (Int)) :=
 match P.cmp .lss v8 v7 with
 | false =>
  some (.inr (-1))
 | true =>
  match P.idx v0 v8 with
  | none => none
  | some ⟨a2_0, ⟨a2_1_0, a2_1_1, a2_1_2, a2_1_3, a2_1_4⟩⟩ =>
   match c_tree_Right_1_2__0 ⟨a2_0, ⟨a2_1_0, a2_1_1, a2_1_2, a2_1_3, a2_1_4⟩⟩ v1_c1_0 with
   | none => none
   | some r4_0 =>
    match r4_0 with
    | false =>
     some (.inl (v0, v1_c1_0, v7, P.ar .add .i64 v8 1))
    | true =>
     some (.inr v8)
theorem o_slices_IndexFunc__api_Pair_api_Pair__0_1  (v0 : Ls1) (v1_c1_0 v7 v8 : Int) (hg0 : getO stk ⟨n0, k0⟩ = some (.cells [(.clos (.func F.tree_Right_1) [] [(.ref ⟨n0, k0⟩ 0)])]))  {out} (hp : b_slices_IndexFunc__api_Pair_api_Pair__0_1 PP c_tree_Right_1_2__0  v0 v1_c1_0 v7 v8 = some out) : (A_slices_IndexFunc__api_Pair_api_Pair__0_1 xat @xmap e_api_Pair m n0 k0 v0 v1_c1_0 v7 v8 stk) = (Sum.elim (fun (v0, v1_c1_0, v7, v8) => (A_slices_IndexFunc__api_Pair_api_Pair__0_1 xat @xmap e_api_Pair m n0 k0 v0 v1_c1_0 v7 v8 stk)) (O_slices_IndexFunc__api_Pair_api_Pair__0  m n0 k0 stk)) out := by
 have hn0 : (n0 = m) = False := eq_false (Nat.ne_of_lt hl0)
 have hm0 : decide (n0 < m) = true := decide_eq_true hl0
 subst hPP
 simp only [b_slices_IndexFunc__api_Pair_api_Pair__0_1] at hp
 unfold A_slices_IndexFunc__api_Pair_api_Pair__0_1
 rw [h.at_, hT]
 cbv
 cases c1 : xcmp .lss v8 v7 with
 | false =>
  simp only [c1] at hp ⊢
  cbv
  try simp only [if_false, if_true, hn0, hm0]
  try cbv
  rw [h.at_, hT]
  cbv
  cases hp
  try simp only [if_false, if_true, hn0, hm0]
  all_goals first | rfl | (cbv; done)
 | true =>
  simp only [c1] at hp ⊢
  cbv
  try simp only [if_false, if_true, hn0, hm0]
  try cbv
  rw [h.at_, hT]
  cbv
  cases c3 : pidx v0 v8 with
  | none => simp only [c3] at hp; cases hp
  | some y7 =>
   obtain ⟨a2_0, ⟨a2_1_0, a2_1_1, a2_1_2, a2_1_3, a2_1_4⟩⟩ := y7
   simp only [c3] at hp
   obtain ⟨q1, q2⟩ := h.idx e_api_Pair c3
   simp only [he_e_api_Pair] at q2
   simp only [q1, Bool.false_eq_true, if_false]
   cbv
   try simp only [q2]
   cbv
   cases c5 : c_tree_Right_1_2__0 ⟨a2_0, ⟨a2_1_0, a2_1_1, a2_1_2, a2_1_3, a2_1_4⟩⟩ v1_c1_0 with
   | none => simp only [c5] at hp; cases hp
   | some r4_0 =>
    simp only [c5] at hp
    have qc := (h_tree_Right_1_2__0 c5 (⟨m, []⟩ :: stk) n0 k0 ((h.gb hl0 _ _).trans (hg0)) (Nat.le_of_lt hl0)).1
    simp only [qc]
    cbv
    cases r4_0 with
    | false =>
     simp only at hp
     cbv
     try simp only [if_false, if_true, hn0, hm0]
     try cbv
     rw [h.at_, hT]
     cbv
     cases hp
     try simp only [if_false, if_true, hn0, hm0]
     all_goals first | rfl | (cbv; done)
    | true =>
     simp only at hp
     cbv
     cases hp
     try simp only [if_false, if_true, hn0, hm0]
     all_goals first | rfl | (cbv; done)
end
def b_tree_Right_1_2__0_0 (P : Prims) (c_tree_Right_1__0 : S_api_Value → Int → Option (Bool))  (v0_0 : Str) (v0_1_0 v0_1_1 : Int) (v0_1_2 : Str) (v0_1_3 : Ls0) (v0_1_4 : Ls1) (v2_0 : Int) : Option (Bool) :=
 match c_tree_Right_1__0 ⟨v0_1_0, v0_1_1, v0_1_2, v0_1_3, v0_1_4⟩ (P.ar .sub .i64 v2_0 1) with
 | none => none
 | some r1_0 =>
  match r1_0 with
  | false =>
   some true
  | true =>
   some false
section
variable (c_tree_Right_1__0 : S_api_Value → Int → Option (Bool)) (h_tree_Right_1__0 : (C_tree_Right_1__0 xpcall xfcall @xmap e_api_Value e_api_Pair c_tree_Right_1__0)) (stk : Stk) (m : Nat) (n0 : Nat) (k0 : List Nat) (hl0 : n0 < m) 
include c_tree_Right_1__0 h_tree_Right_1__0 stk m n0 k0 hl0
theorem o_tree_Right_1_2__0_0  (v0_0 : Str) (v0_1_0 v0_1_1 : Int) (v0_1_2 : Str) (v0_1_3 : Ls0) (v0_1_4 : Ls1) (v2_0 : Int) (hg0 : getO stk ⟨n0, k0⟩ = some (.cells [(.clos (.func F.tree_Right_1) [] [(.ref ⟨n0, k0⟩ 0)])]))  {out} (hp : b_tree_Right_1_2__0_0 PP c_tree_Right_1__0  v0_0 v0_1_0 v0_1_1 v0_1_2 v0_1_3 v0_1_4 v2_0 = some out) : (A_tree_Right_1_2__0_0 xat @xmap e_api_Value e_api_Pair m n0 k0 v0_0 v0_1_0 v0_1_1 v0_1_2 v0_1_3 v0_1_4 v2_0 stk) = (O_tree_Right_1_2__0  m n0 k0 stk) out := by
 have hn0 : (n0 = m) = False := eq_false (Nat.ne_of_lt hl0)
 have hm0 : decide (n0 < m) = true := decide_eq_true hl0
 subst hPP
 simp only [b_tree_Right_1_2__0_0] at hp
 unfold A_tree_Right_1_2__0_0
 rw [h.at_, hT]
 cbv
 simp only [if_false, if_true, hn0, hm0, hg0]
 cbv
 cases c2 : c_tree_Right_1__0 ⟨v0_1_0, v0_1_1, v0_1_2, v0_1_3, v0_1_4⟩ (xar .sub .i64 v2_0 1) with
 | none => simp only [c2] at hp; cases hp
 | some r1_0 =>
  simp only [c2] at hp
  have qc := (h_tree_Right_1__0 c2 (⟨m, []⟩ :: stk) n0 k0 ((h.gb hl0 _ _).trans (hg0)) (Nat.le_of_lt hl0)).1
  simp only [qc]
  cbv
  cases r1_0 with
  | false =>
   simp only at hp
   cbv
   cases hp
   try simp only [if_false, if_true, hn0, hm0]
   all_goals first | rfl | (cbv; done)
  | true =>
   simp only at hp
   cbv
   cases hp
   try simp only [if_false, if_true, hn0, hm0]
   all_goals first | rfl | (cbv; done)
end
def b_tree_Right_0 (P : Prims) (c_tree_Right_1__0 : S_api_Value → Int → Option (Bool))  (v0_0 v0_1 : Int) (v0_2 : Str) (v0_3 : Ls0) (v0_4 : Ls1) : Option (Bool) :=
 match c_tree_Right_1__0 ⟨v0_0, v0_1, v0_2, v0_3, v0_4⟩ 12 with
 | none => none
 | some r1_0 =>
  some r1_0
section
variable (c_tree_Right_1__0 : S_api_Value → Int → Option (Bool)) (h_tree_Right_1__0 : (C_tree_Right_1__0 xpcall xfcall @xmap e_api_Value e_api_Pair c_tree_Right_1__0)) (stk : Stk) (m : Nat)   
include c_tree_Right_1__0 h_tree_Right_1__0 stk m  
theorem o_tree_Right_0  (v0_0 v0_1 : Int) (v0_2 : Str) (v0_3 : Ls0) (v0_4 : Ls1)   {out} (hp : b_tree_Right_0 PP c_tree_Right_1__0  v0_0 v0_1 v0_2 v0_3 v0_4 = some out) : (A_tree_Right_0 xat @xmap e_api_Value e_api_Pair m  v0_0 v0_1 v0_2 v0_3 v0_4 stk) = (O_tree_Right  m  stk) out := by
 subst hPP
 simp only [b_tree_Right_0] at hp
 unfold A_tree_Right_0
 rw [h.at_, hT]
 cbv
 cases c2 : c_tree_Right_1__0 ⟨v0_0, v0_1, v0_2, v0_3, v0_4⟩ 12 with
 | none => simp only [c2] at hp; cases hp
 | some r1_0 =>
  simp only [c2] at hp
  have qc := (h_tree_Right_1__0 c2 (⟨m, [([3], (.cells [(.clos (.func F.tree_Right_1) [] [(.ref ⟨m, [3]⟩ 0)])]))]⟩ :: stk) m [3] (h.gt _ _ _ _) (Nat.le_refl _)).1
  simp only [qc]
  cbv
  cases hp
  all_goals first | rfl | (cbv; done)
end
def b_tree_count_0 (P : Prims) (c_tree_count : S_api_Value → Option (Int)) (l_1 : T_tree_count_1) (v0_0 v0_1 : Int) (v0_2 : Str) (v0_3 : Ls0) (v0_4 : Ls1) : Option (Int) :=
 l_1 v0_0 v0_1 v0_2 v0_3 v0_4 1 v0_3 (P.len v0_3) 0
section
variable (c_tree_count : S_api_Value → Option (Int)) (h_tree_count : (C_tree_count xpcall xfcall @xmap e_api_Value e_api_Pair c_tree_count)) (stk : Stk) (m : Nat)   
include c_tree_count h_tree_count stk m  
theorem o_tree_count_0 (l_1 : T_tree_count_1) (v0_0 v0_1 : Int) (v0_2 : Str) (v0_3 : Ls0) (v0_4 : Ls1)  (h_l_1 : H_tree_count_1 xat @xmap e_api_Value e_api_Pair m  l_1) {out} (hp : b_tree_count_0 PP c_tree_count l_1 v0_0 v0_1 v0_2 v0_3 v0_4 = some out) : (A_tree_count_0 xat @xmap e_api_Value e_api_Pair m  v0_0 v0_1 v0_2 v0_3 v0_4 stk) = (O_tree_count  m  stk) out := by
 subst hPP
 simp only [b_tree_count_0] at hp
 unfold A_tree_count_0
 rw [h.at_, hT]
 cbv
 try simp only [h.len]
 first | exact h_l_1 hp stk | (have q := h_l_1 hp stk; simp only [A_tree_count_1, h.map_cons, h.map_nil, h.mapE_nil, h.len_nil, he_e_api_Value, he_e_api_Pair, he_e_int] at q; first | exact q | (cbv; exact q))
def b_tree_count_1 (P : Prims) (c_tree_count : S_api_Value → Option (Int)) (l_5 : T_tree_count_5) (v1_0 v1_1 : Int) (v1_2 : Str) (v1_3 : Ls0) (v1_4 : Ls1) (v3 : Int) (v9 : Ls0) (v10 v11 : Int) : Option ((Int × Int × Str × Ls0 × Ls1 × Int × Ls0 × Int × Int) ⊕ (Int)) :=
 match P.cmp .lss v11 v10 with
 | false =>
  match l_5 v3 v1_4 (P.len v1_4) 0 with | none => none | some o7 => some (.inr o7)
 | true =>
  match P.idx v9 v11 with
  | none => none
  | some ⟨a2_0, a2_1, a2_2, a2_3, a2_4⟩ =>
   match c_tree_count ⟨a2_0, a2_1, a2_2, a2_3, a2_4⟩ with
   | none => none
   | some r4_0 =>
    some (.inl (v1_0, v1_1, v1_2, v1_3, v1_4, P.ar .add .i64 v3 r4_0, v9, v10, P.ar .add .i64 v11 1))
theorem o_tree_count_1 (l_5 : T_tree_count_5) (v1_0 v1_1 : Int) (v1_2 : Str) (v1_3 : Ls0) (v1_4 : Ls1) (v3 : Int) (v9 : Ls0) (v10 v11 : Int)  (h_l_5 : H_tree_count_5 xat @xmap e_api_Pair m  l_5) {out} (hp : b_tree_count_1 PP c_tree_count l_5 v1_0 v1_1 v1_2 v1_3 v1_4 v3 v9 v10 v11 = some out) : (A_tree_count_1 xat @xmap e_api_Value e_api_Pair m  v1_0 v1_1 v1_2 v1_3 v1_4 v3 v9 v10 v11 stk) = (Sum.elim (fun (v1_0, v1_1, v1_2, v1_3, v1_4, v3, v9, v10, v11) => (A_tree_count_1 xat @xmap e_api_Value e_api_Pair m  v1_0 v1_1 v1_2 v1_3 v1_4 v3 v9 v10 v11 stk)) (O_tree_count  m  stk)) out := by
 subst hPP
 simp only [b_tree_count_1] at hp
 unfold A_tree_count_1
 rw [h.at_, hT]
 cbv
 cases c1 : xcmp .lss v11 v10 with
 | false =>
  simp only [c1] at hp ⊢
  cbv
  rw [h.at_, hT]
  cbv
  try simp only [h.len]
  cases c : l_5 v3 v1_4 (plen v1_4) 0 with
  | none => simp only [c] at hp; cases hp
  | some o7 =>
   simp only [c] at hp
   cases hp
   first | exact h_l_5 c stk | (have q := h_l_5 c stk; simp only [A_tree_count_5, h.map_cons, h.map_nil, h.mapE_nil, h.len_nil, he_e_api_Value, he_e_api_Pair, he_e_int] at q; first | exact q | (cbv; exact q))
 | true =>
  simp only [c1] at hp ⊢
  cbv
  rw [h.at_, hT]
  cbv
  cases c3 : pidx v9 v11 with
  | none => simp only [c3] at hp; cases hp
  | some y6 =>
   obtain ⟨a2_0, a2_1, a2_2, a2_3, a2_4⟩ := y6
   simp only [c3] at hp
   obtain ⟨q1, q2⟩ := h.idx e_api_Value c3
   simp only [he_e_api_Value] at q2
   simp only [q1, Bool.false_eq_true, if_false]
   cbv
   try simp only [q2]
   cbv
   cases c5 : c_tree_count ⟨a2_0, a2_1, a2_2, a2_3, a2_4⟩ with
   | none => simp only [c5] at hp; cases hp
   | some r4_0 =>
    simp only [c5] at hp
    have qc := fun s => (h_tree_count c5 s).1
    simp only [qc]
    cbv
    rw [h.at_, hT]
    cbv
    cases hp
    all_goals first | rfl | (cbv; done)
def b_tree_count_5 (P : Prims) (c_tree_count : S_api_Value → Option (Int))  (v3 : Int) (v21 : Ls1) (v22 v23 : Int) : Option ((Int × Ls1 × Int × Int) ⊕ (Int)) :=
 match P.cmp .lss v23 v22 with
 | false =>
  some (.inr v3)
 | true =>
  match P.idx v21 v23 with
  | none => none
  | some ⟨a9_0, ⟨a9_1_0, a9_1_1, a9_1_2, a9_1_3, a9_1_4⟩⟩ =>
   match c_tree_count ⟨a9_1_0, a9_1_1, a9_1_2, a9_1_3, a9_1_4⟩ with
   | none => none
   | some r11_0 =>
    some (.inl (P.ar .add .i64 v3 r11_0, v21, v22, P.ar .add .i64 v23 1))
theorem o_tree_count_5  (v3 : Int) (v21 : Ls1) (v22 v23 : Int)   {out} (hp : b_tree_count_5 PP c_tree_count  v3 v21 v22 v23 = some out) : (A_tree_count_5 xat @xmap e_api_Pair m  v3 v21 v22 v23 stk) = (Sum.elim (fun (v3, v21, v22, v23) => (A_tree_count_5 xat @xmap e_api_Pair m  v3 v21 v22 v23 stk)) (O_tree_count  m  stk)) out := by
 subst hPP
 simp only [b_tree_count_5] at hp
 unfold A_tree_count_5
 rw [h.at_, hT]
 cbv
 cases c8 : xcmp .lss v23 v22 with
 | false =>
  simp only [c8] at hp ⊢
  cbv
  rw [h.at_, hT]
  cbv
  cases hp
  all_goals first | rfl | (cbv; done)
 | true =>
  simp only [c8] at hp ⊢
  cbv
  rw [h.at_, hT]
  cbv
  cases c10 : pidx v21 v23 with
  | none => simp only [c10] at hp; cases hp
  | some y13 =>
   obtain ⟨a9_0, ⟨a9_1_0, a9_1_1, a9_1_2, a9_1_3, a9_1_4⟩⟩ := y13
   simp only [c10] at hp
   obtain ⟨q1, q2⟩ := h.idx e_api_Pair c10
   simp only [he_e_api_Pair] at q2
   simp only [q1, Bool.false_eq_true, if_false]
   cbv
   try simp only [q2]
   cbv
   cases c12 : c_tree_count ⟨a9_1_0, a9_1_1, a9_1_2, a9_1_3, a9_1_4⟩ with
   | none => simp only [c12] at hp; cases hp
   | some r11_0 =>
    simp only [c12] at hp
    have qc := fun s => (h_tree_count c12 s).1
    simp only [qc]
    cbv
    rw [h.at_, hT]
    cbv
    cases hp
    all_goals first | rfl | (cbv; done)
end
def b_tree_Count_0 (P : Prims) (c_tree_Right : S_api_Value → Option (Bool)) (c_tree_count : S_api_Value → Option (Int))  (v0_0 v0_1 : Int) (v0_2 : Str) (v0_3 : Ls0) (v0_4 : Ls1) : Option (Int) :=
 match c_tree_Right ⟨v0_0, v0_1, v0_2, v0_3, v0_4⟩ with
 | none => none
 | some r1_0 =>
  match r1_0 with
  | false =>
   some 0
  | true =>
   match c_tree_count ⟨v0_0, v0_1, v0_2, v0_3, v0_4⟩ with
   | none => none
   | some r4_0 =>
    some r4_0
section
variable (c_tree_Right : S_api_Value → Option (Bool)) (c_tree_count : S_api_Value → Option (Int)) (h_tree_Right : (C_tree_Right xpcall xfcall @xmap e_api_Value e_api_Pair c_tree_Right)) (h_tree_count : (C_tree_count xpcall xfcall @xmap e_api_Value e_api_Pair c_tree_count)) (stk : Stk) (m : Nat)   
include c_tree_Right c_tree_count h_tree_Right h_tree_count stk m  
theorem o_tree_Count_0  (v0_0 v0_1 : Int) (v0_2 : Str) (v0_3 : Ls0) (v0_4 : Ls1)   {out} (hp : b_tree_Count_0 PP c_tree_Right c_tree_count  v0_0 v0_1 v0_2 v0_3 v0_4 = some out) : (A_tree_Count_0 xat @xmap e_api_Value e_api_Pair m  v0_0 v0_1 v0_2 v0_3 v0_4 stk) = (O_tree_Count  m  stk) out := by
 subst hPP
 simp only [b_tree_Count_0] at hp
 unfold A_tree_Count_0
 rw [h.at_, hT]
 cbv
 cases c2 : c_tree_Right ⟨v0_0, v0_1, v0_2, v0_3, v0_4⟩ with
 | none => simp only [c2] at hp; cases hp
 | some r1_0 =>
  simp only [c2] at hp
  have qc := fun s => (h_tree_Right c2 s).1
  simp only [qc]
  cbv
  cases r1_0 with
  | false =>
   simp only at hp
   cbv
   cases hp
   all_goals first | rfl | (cbv; done)
  | true =>
   simp only at hp
   cbv
   rw [h.at_, hT]
   cbv
   cases c5 : c_tree_count ⟨v0_0, v0_1, v0_2, v0_3, v0_4⟩ with
   | none => simp only [c5] at hp; cases hp
   | some r4_0 =>
    simp only [c5] at hp
    have qc := fun s => (h_tree_count c5 s).1
    simp only [qc]
    cbv
    cases hp
    all_goals first | rfl | (cbv; done)
end
def b_cascadelaw03_awake_0 (P : Prims) (c_tree_Right : S_api_Value → Option (Bool)) (c_tree_Count : S_api_Value → Option (Int))   : Option (Bool) :=
 match c_tree_Right ⟨0, 0, [], [], []⟩ with
 | none => none
 | some r1_0 =>
  match r1_0 with
  | false =>
   some false
  | true =>
   match c_tree_Count ⟨2, 5, [], [], []⟩ with
   | none => none
   | some r4_0 =>
    some (P.cmp .eql r4_0 1)
section
variable (c_tree_Right : S_api_Value → Option (Bool)) (c_tree_Count : S_api_Value → Option (Int)) (h_tree_Right : (C_tree_Right xpcall xfcall @xmap e_api_Value e_api_Pair c_tree_Right)) (h_tree_Count : (C_tree_Count xpcall xfcall @xmap e_api_Value e_api_Pair c_tree_Count)) (stk : Stk) (m : Nat)   
include c_tree_Right c_tree_Count h_tree_Right h_tree_Count stk m  
theorem o_cascadelaw03_awake_0     {out} (hp : b_cascadelaw03_awake_0 PP c_tree_Right c_tree_Count   = some out) : (A_cascadelaw03_awake_0 xat m   stk) = (O_cascadelaw03_awake  m  stk) out := by
 subst hPP
 simp only [b_cascadelaw03_awake_0] at hp
 unfold A_cascadelaw03_awake_0
 rw [h.at_, hT]
 cbv
 cases c2 : c_tree_Right ⟨0, 0, [], [], []⟩ with
 | none => simp only [c2] at hp; cases hp
 | some r1_0 =>
  simp only [c2] at hp
  have qc := fun s => (h_tree_Right c2 s).1
  try simp only [h.map_nil] at qc
  simp only [qc]
  cbv
  cases r1_0 with
  | false =>
   simp only at hp
   cbv
   cases hp
   all_goals first | rfl | (cbv; done)
  | true =>
   simp only at hp
   cbv
   cases c5 : c_tree_Count ⟨2, 5, [], [], []⟩ with
   | none => simp only [c5] at hp; cases hp
   | some r4_0 =>
    simp only [c5] at hp
    have qc := fun s => (h_tree_Count c5 s).1
    try simp only [h.map_nil] at qc
    simp only [qc]
    cbv
    cases hp
    all_goals first | rfl | (cbv; done)
end
def b_cascaderef03_few_0 (P : Prims) (c_cascaderef03_few : S_api_Value → Int → Option (Int)) (l_2 : T_cascaderef03_few_2) (v0_0 v0_1 : Int) (v0_2 : Str) (v0_3 : Ls0) (v0_4 : Ls1) (v1 : Int) : Option (Int) :=
 match P.cmp .lss v1 1 with
 | false =>
  match P.cmp .gtr (P.slen v0_2) 500 with
  | false =>
   l_2 (P.ar .sub .i64 v1 1) v0_0 v0_1 v0_2 v0_3 v0_4 0
  | true =>
   some (-1)
 | true =>
  some (-1)
section
variable (c_cascaderef03_few : S_api_Value → Int → Option (Int)) (h_cascaderef03_few : (C_cascaderef03_few xpcall xfcall @xmap e_api_Value e_api_Pair c_cascaderef03_few)) (stk : Stk) (m : Nat)   
include c_cascaderef03_few h_cascaderef03_few stk m  
theorem o_cascaderef03_few_0 (l_2 : T_cascaderef03_few_2) (v0_0 v0_1 : Int) (v0_2 : Str) (v0_3 : Ls0) (v0_4 : Ls1) (v1 : Int)  (h_l_2 : H_cascaderef03_few_2 xat @xmap e_api_Value e_api_Pair m  l_2) {out} (hp : b_cascaderef03_few_0 PP c_cascaderef03_few l_2 v0_0 v0_1 v0_2 v0_3 v0_4 v1 = some out) : (A_cascaderef03_few_0 xat @xmap e_api_Value e_api_Pair m  v0_0 v0_1 v0_2 v0_3 v0_4 v1 stk) = (O_cascaderef03_few  m  stk) out := by
 subst hPP
 simp only [b_cascaderef03_few_0] at hp
 unfold A_cascaderef03_few_0
 rw [h.at_, hT]
 cbv
 cases c1 : xcmp .lss v1 1 with
 | false =>
  simp only [c1] at hp ⊢
  cbv
  try simp only [h.slen]
  cases c2 : xcmp .gtr (pslen v0_2) 500 with
  | false =>
   simp only [c2] at hp ⊢
   cbv
   rw [h.at_, hT]
   cbv
   first | exact h_l_2 hp stk | (have q := h_l_2 hp stk; simp only [A_cascaderef03_few_2, h.map_cons, h.map_nil, h.mapE_nil, h.len_nil, he_e_api_Value, he_e_api_Pair, he_e_int] at q; first | exact q | (cbv; exact q))
  | true =>
   simp only [c2] at hp ⊢
   cbv
   cases hp
   all_goals first | rfl | (cbv; done)
 | true =>
  simp only [c1] at hp ⊢
  cbv
  cases hp
  all_goals first | rfl | (cbv; done)
def b_cascaderef03_few_2 (P : Prims) (c_cascaderef03_few : S_api_Value → Int → Option (Int)) (l_5 : T_cascaderef03_few_5) (v1 v2_0 v2_1 : Int) (v2_2 : Str) (v2_3 : Ls0) (v2_4 : Ls1) (v5 : Int) : Option ((Int × Int × Int × Str × Ls0 × Ls1 × Int) ⊕ (Int)) :=
 match P.cmp .lss v5 (P.len v2_3) with
 | false =>
  match l_5 v1 v2_0 v2_1 v2_2 v2_3 v2_4 with | none => none | some o11 => some (.inr o11)
 | true =>
  match P.cmp .geq v1 0 with
  | false =>
   match l_5 v1 v2_0 v2_1 v2_2 v2_3 v2_4 with | none => none | some o10 => some (.inr o10)
  | true =>
   match P.idx v2_3 v5 with
   | none => none
   | some ⟨a5_0, a5_1, a5_2, a5_3, a5_4⟩ =>
    match c_cascaderef03_few ⟨a5_0, a5_1, a5_2, a5_3, a5_4⟩ v1 with
    | none => none
    | some r7_0 =>
     some (.inl (r7_0, v2_0, v2_1, v2_2, v2_3, v2_4, P.ar .add .i64 v5 1))
theorem o_cascaderef03_few_2 (l_5 : T_cascaderef03_few_5) (v1 v2_0 v2_1 : Int) (v2_2 : Str) (v2_3 : Ls0) (v2_4 : Ls1) (v5 : Int)  (h_l_5 : H_cascaderef03_few_5 xat @xmap e_api_Value e_api_Pair m  l_5) {out} (hp : b_cascaderef03_few_2 PP c_cascaderef03_few l_5 v1 v2_0 v2_1 v2_2 v2_3 v2_4 v5 = some out) : (A_cascaderef03_few_2 xat @xmap e_api_Value e_api_Pair m  v1 v2_0 v2_1 v2_2 v2_3 v2_4 v5 stk) = (Sum.elim (fun (v1, v2_0, v2_1, v2_2, v2_3, v2_4, v5) => (A_cascaderef03_few_2 xat @xmap e_api_Value e_api_Pair m  v1 v2_0 v2_1 v2_2 v2_3 v2_4 v5 stk)) (O_cascaderef03_few  m  stk)) out := by
 subst hPP
 simp only [b_cascaderef03_few_2] at hp
 unfold A_cascaderef03_few_2
 rw [h.at_, hT]
 cbv
 try simp only [h.len]
 cases c3 : xcmp .lss v5 (plen v2_3) with
 | false =>
  simp only [c3] at hp ⊢
  cbv
  cases c : l_5 v1 v2_0 v2_1 v2_2 v2_3 v2_4 with
  | none => simp only [c] at hp; cases hp
  | some o11 =>
   simp only [c] at hp
   cases hp
   first | exact h_l_5 c stk | (have q := h_l_5 c stk; simp only [A_cascaderef03_few_5, h.map_cons, h.map_nil, h.mapE_nil, h.len_nil, he_e_api_Value, he_e_api_Pair, he_e_int] at q; first | exact q | (cbv; exact q))
 | true =>
  simp only [c3] at hp ⊢
  cbv
  cases c4 : xcmp .geq v1 0 with
  | false =>
   simp only [c4] at hp ⊢
   cbv
   cases c : l_5 v1 v2_0 v2_1 v2_2 v2_3 v2_4 with
   | none => simp only [c] at hp; cases hp
   | some o10 =>
    simp only [c] at hp
    cases hp
    first | exact h_l_5 c stk | (have q := h_l_5 c stk; simp only [A_cascaderef03_few_5, h.map_cons, h.map_nil, h.mapE_nil, h.len_nil, he_e_api_Value, he_e_api_Pair, he_e_int] at q; first | exact q | (cbv; exact q))
  | true =>
   simp only [c4] at hp ⊢
   cbv
   rw [h.at_, hT]
   cbv
   cases c6 : pidx v2_3 v5 with
   | none => simp only [c6] at hp; cases hp
   | some y9 =>
    obtain ⟨a5_0, a5_1, a5_2, a5_3, a5_4⟩ := y9
    simp only [c6] at hp
    obtain ⟨q1, q2⟩ := h.idx e_api_Value c6
    simp only [he_e_api_Value] at q2
    simp only [q1, Bool.false_eq_true, if_false]
    cbv
    try simp only [q2]
    cbv
    cases c8 : c_cascaderef03_few ⟨a5_0, a5_1, a5_2, a5_3, a5_4⟩ v1 with
    | none => simp only [c8] at hp; cases hp
    | some r7_0 =>
     simp only [c8] at hp
     have qc := fun s => (h_cascaderef03_few c8 s).1
     simp only [qc]
     cbv
     rw [h.at_, hT]
     cbv
     cases hp
     all_goals first | rfl | (cbv; done)
def b_cascaderef03_few_5 (P : Prims) (c_cascaderef03_few : S_api_Value → Int → Option (Int)) (l_6 : T_cascaderef03_few_6) (v1 v2_0 v2_1 : Int) (v2_2 : Str) (v2_3 : Ls0) (v2_4 : Ls1) : Option (Int) :=
 l_6 v1 v2_0 v2_1 v2_2 v2_3 v2_4 0
theorem o_cascaderef03_few_5 (l_6 : T_cascaderef03_few_6) (v1 v2_0 v2_1 : Int) (v2_2 : Str) (v2_3 : Ls0) (v2_4 : Ls1)  (h_l_6 : H_cascaderef03_few_6 xat @xmap e_api_Value e_api_Pair m  l_6) {out} (hp : b_cascaderef03_few_5 PP c_cascaderef03_few l_6 v1 v2_0 v2_1 v2_2 v2_3 v2_4 = some out) : (A_cascaderef03_few_5 xat @xmap e_api_Value e_api_Pair m  v1 v2_0 v2_1 v2_2 v2_3 v2_4 stk) = (O_cascaderef03_few  m  stk) out := by
 subst hPP
 simp only [b_cascaderef03_few_5] at hp
 unfold A_cascaderef03_few_5
 rw [h.at_, hT]
 cbv
 first | exact h_l_6 hp stk | (have q := h_l_6 hp stk; simp only [A_cascaderef03_few_6, h.map_cons, h.map_nil, h.mapE_nil, h.len_nil, he_e_api_Value, he_e_api_Pair, he_e_int] at q; first | exact q | (cbv; exact q))
def b_cascaderef03_few_6 (P : Prims) (c_cascaderef03_few : S_api_Value → Int → Option (Int)) (l_10 : T_cascaderef03_few_10) (v1 v2_0 v2_1 : Int) (v2_2 : Str) (v2_3 : Ls0) (v2_4 : Ls1) (v6 : Int) : Option ((Int × Int × Int × Str × Ls0 × Ls1 × Int) ⊕ (Int)) :=
 match P.cmp .lss v6 (P.len v2_4) with
 | false =>
  match l_10 v1 with | none => none | some o21 => some (.inr o21)
 | true =>
  match P.cmp .geq v1 0 with
  | false =>
   match l_10 v1 with | none => none | some o20 => some (.inr o20)
  | true =>
   match P.idx v2_4 v6 with
   | none => none
   | some ⟨a14_0, ⟨a14_1_0, a14_1_1, a14_1_2, a14_1_3, a14_1_4⟩⟩ =>
    match P.cmp .gtr (P.slen a14_0) 500 with
    | false =>
     match c_cascaderef03_few ⟨a14_1_0, a14_1_1, a14_1_2, a14_1_3, a14_1_4⟩ v1 with
     | none => none
     | some r17_0 =>
      some (.inl (r17_0, v2_0, v2_1, v2_2, v2_3, v2_4, P.ar .add .i64 v6 1))
    | true =>
     some (.inr (-1))
theorem o_cascaderef03_few_6 (l_10 : T_cascaderef03_few_10) (v1 v2_0 v2_1 : Int) (v2_2 : Str) (v2_3 : Ls0) (v2_4 : Ls1) (v6 : Int)  (h_l_10 : H_cascaderef03_few_10 xat m  l_10) {out} (hp : b_cascaderef03_few_6 PP c_cascaderef03_few l_10 v1 v2_0 v2_1 v2_2 v2_3 v2_4 v6 = some out) : (A_cascaderef03_few_6 xat @xmap e_api_Value e_api_Pair m  v1 v2_0 v2_1 v2_2 v2_3 v2_4 v6 stk) = (Sum.elim (fun (v1, v2_0, v2_1, v2_2, v2_3, v2_4, v6) => (A_cascaderef03_few_6 xat @xmap e_api_Value e_api_Pair m  v1 v2_0 v2_1 v2_2 v2_3 v2_4 v6 stk)) (O_cascaderef03_few  m  stk)) out := by
 subst hPP
 simp only [b_cascaderef03_few_6] at hp
 unfold A_cascaderef03_few_6
 rw [h.at_, hT]
 cbv
 try simp only [h.len]
 cases c12 : xcmp .lss v6 (plen v2_4) with
 | false =>
  simp only [c12] at hp ⊢
  cbv
  cases c : l_10 v1 with
  | none => simp only [c] at hp; cases hp
  | some o21 =>
   simp only [c] at hp
   cases hp
   first | exact h_l_10 c stk | (have q := h_l_10 c stk; simp only [A_cascaderef03_few_10, h.map_cons, h.map_nil, h.mapE_nil, h.len_nil, he_e_api_Value, he_e_api_Pair, he_e_int] at q; first | exact q | (cbv; exact q))
 | true =>
  simp only [c12] at hp ⊢
  cbv
  cases c13 : xcmp .geq v1 0 with
  | false =>
   simp only [c13] at hp ⊢
   cbv
   cases c : l_10 v1 with
   | none => simp only [c] at hp; cases hp
   | some o20 =>
    simp only [c] at hp
    cases hp
    first | exact h_l_10 c stk | (have q := h_l_10 c stk; simp only [A_cascaderef03_few_10, h.map_cons, h.map_nil, h.mapE_nil, h.len_nil, he_e_api_Value, he_e_api_Pair, he_e_int] at q; first | exact q | (cbv; exact q))
  | true =>
   simp only [c13] at hp ⊢
   cbv
   rw [h.at_, hT]
   cbv
   cases c15 : pidx v2_4 v6 with
   | none => simp only [c15] at hp; cases hp
   | some y19 =>
    obtain ⟨a14_0, ⟨a14_1_0, a14_1_1, a14_1_2, a14_1_3, a14_1_4⟩⟩ := y19
    simp only [c15] at hp
    obtain ⟨q1, q2⟩ := h.idx e_api_Pair c15
    simp only [he_e_api_Pair] at q2
    simp only [q1, Bool.false_eq_true, if_false]
    cbv
    try simp only [q2]
    cbv
    try simp only [h.slen]
    cases c16 : xcmp .gtr (pslen a14_0) 500 with
    | false =>
     simp only [c16] at hp ⊢
     cbv
     rw [h.at_, hT]
     cbv
     obtain ⟨q1, q2⟩ := h.idx e_api_Pair c15
     simp only [he_e_api_Pair] at q2
     simp only [q1, Bool.false_eq_true, if_false]
     cbv
     try simp only [q2]
     cbv
     cases c18 : c_cascaderef03_few ⟨a14_1_0, a14_1_1, a14_1_2, a14_1_3, a14_1_4⟩ v1 with
     | none => simp only [c18] at hp; cases hp
     | some r17_0 =>
      simp only [c18] at hp
      have qc := fun s => (h_cascaderef03_few c18 s).1
      simp only [qc]
      cbv
      rw [h.at_, hT]
      cbv
      cases hp
      all_goals first | rfl | (cbv; done)
    | true =>
     simp only [c16] at hp ⊢
     cbv
     cases hp
     all_goals first | rfl | (cbv; done)
def b_cascaderef03_few_10 (P : Prims) (c_cascaderef03_few : S_api_Value → Int → Option (Int))  (v1 : Int) : Option (Int) :=
 some v1
theorem o_cascaderef03_few_10  (v1 : Int)   {out} (hp : b_cascaderef03_few_10 PP c_cascaderef03_few  v1 = some out) : (A_cascaderef03_few_10 xat m  v1 stk) = (O_cascaderef03_few  m  stk) out := by
 subst hPP
 simp only [b_cascaderef03_few_10] at hp
 unfold A_cascaderef03_few_10
 rw [h.at_, hT]
 cbv
 cases hp
 all_goals first | rfl | (cbv; done)
end
def b_cascaderef03_Few_0 (P : Prims) (c_cascaderef03_few : S_api_Value → Int → Option (Int))  (v0_0 v0_1 : Int) (v0_2 : Str) (v0_3 : Ls0) (v0_4 : Ls1) (v1 : Int) : Option (Bool) :=
 match c_cascaderef03_few ⟨v0_0, v0_1, v0_2, v0_3, v0_4⟩ v1 with
 | none => none
 | some r1_0 =>
  some (P.cmp .geq r1_0 0)
section
variable (c_cascaderef03_few : S_api_Value → Int → Option (Int)) (h_cascaderef03_few : (C_cascaderef03_few xpcall xfcall @xmap e_api_Value e_api_Pair c_cascaderef03_few)) (stk : Stk) (m : Nat)   
include c_cascaderef03_few h_cascaderef03_few stk m  
theorem o_cascaderef03_Few_0  (v0_0 v0_1 : Int) (v0_2 : Str) (v0_3 : Ls0) (v0_4 : Ls1) (v1 : Int)   {out} (hp : b_cascaderef03_Few_0 PP c_cascaderef03_few  v0_0 v0_1 v0_2 v0_3 v0_4 v1 = some out) : (A_cascaderef03_Few_0 xat @xmap e_api_Value e_api_Pair m  v0_0 v0_1 v0_2 v0_3 v0_4 v1 stk) = (O_cascaderef03_Few  m  stk) out := by
 subst hPP
 simp only [b_cascaderef03_Few_0] at hp
 unfold A_cascaderef03_Few_0
 rw [h.at_, hT]
 cbv
 cases c2 : c_cascaderef03_few ⟨v0_0, v0_1, v0_2, v0_3, v0_4⟩ v1 with
 | none => simp only [c2] at hp; cases hp
 | some r1_0 =>
  simp only [c2] at hp
  have qc := fun s => (h_cascaderef03_few c2 s).1
  simp only [qc]
  cbv
  cases hp
  all_goals first | rfl | (cbv; done)
end
def b_cascaderef01_Size_0 (P : Prims)  (l_2 : T_cascaderef01_Size_2) (v0 : Str) (v1 : Int) : Option (Int × Int) :=
 match P.sidx v0 v1 with
 | none => none
 | some b1 =>
  match P.cmp .lss (P.wrap .i64 b1) 128 with
  | false =>
   match P.cmp .geq (P.wrap .i64 b1) 194 with
   | false =>
    l_2 v0 v1 (P.wrap .i64 b1) 0 0 0
   | true =>
    match P.cmp .lss (P.wrap .i64 b1) 224 with
    | false =>
     l_2 v0 v1 (P.wrap .i64 b1) 0 0 0
    | true =>
     l_2 v0 v1 (P.wrap .i64 b1) 2 (P.ar .sub .i64 (P.wrap .i64 b1) 192) 128
  | true =>
   some (1, P.wrap .i32 (P.wrap .i64 b1))
section
variable   (stk : Stk) (m : Nat)   
include   stk m  
theorem o_cascaderef01_Size_0 (l_2 : T_cascaderef01_Size_2) (v0 : Str) (v1 : Int)  (h_l_2 : H_cascaderef01_Size_2 xat m  l_2) {out} (hp : b_cascaderef01_Size_0 PP  l_2 v0 v1 = some out) : (A_cascaderef01_Size_0 xat m  v0 v1 stk) = (O_cascaderef01_Size  m  stk) out := by
 subst hPP
 simp only [b_cascaderef01_Size_0] at hp
 unfold A_cascaderef01_Size_0
 rw [h.at_, hT]
 cbv
 cases c2 : psidx v0 v1 with
 | none => simp only [c2] at hp; cases hp
 | some b1 =>
  simp only [c2] at hp
  obtain ⟨w, q1, q2, q3⟩ := h.sidx c2
  simp only [q1, q2, q3, Bool.false_eq_true, if_false]
  cbv
  cases c3 : xcmp .lss (xwrap .i64 b1) 128 with
  | false =>
   simp only [c3] at hp ⊢
   cbv
   rw [h.at_, hT]
   cbv
   cases c4 : xcmp .geq (xwrap .i64 b1) 194 with
   | false =>
    simp only [c4] at hp ⊢
    cbv
    first | exact h_l_2 hp stk | (have q := h_l_2 hp stk; simp only [A_cascaderef01_Size_2, h.map_cons, h.map_nil, h.mapE_nil, h.len_nil, he_e_api_Value, he_e_api_Pair, he_e_int] at q; first | exact q | (cbv; exact q))
   | true =>
    simp only [c4] at hp ⊢
    cbv
    cases c5 : xcmp .lss (xwrap .i64 b1) 224 with
    | false =>
     simp only [c5] at hp ⊢
     cbv
     first | exact h_l_2 hp stk | (have q := h_l_2 hp stk; simp only [A_cascaderef01_Size_2, h.map_cons, h.map_nil, h.mapE_nil, h.len_nil, he_e_api_Value, he_e_api_Pair, he_e_int] at q; first | exact q | (cbv; exact q))
    | true =>
     simp only [c5] at hp ⊢
     cbv
     first | exact h_l_2 hp stk | (have q := h_l_2 hp stk; simp only [A_cascaderef01_Size_2, h.map_cons, h.map_nil, h.mapE_nil, h.len_nil, he_e_api_Value, he_e_api_Pair, he_e_int] at q; first | exact q | (cbv; exact q))
  | true =>
   simp only [c3] at hp ⊢
   cbv
   cases hp
   all_goals first | rfl | (cbv; done)
def b_cascaderef01_Size_2 (P : Prims)  (l_3 : T_cascaderef01_Size_3) (v0 : Str) (v1 v6 v7 v8 v9 : Int) : Option (Int × Int) :=
 match P.cmp .geq v6 224 with
 | false =>
  l_3 v0 v1 v6 v7 v8 v9
 | true =>
  match P.cmp .lss v6 240 with
  | false =>
   l_3 v0 v1 v6 v7 v8 v9
  | true =>
   l_3 v0 v1 v6 3 (P.ar .sub .i64 v6 224) 2048
theorem o_cascaderef01_Size_2 (l_3 : T_cascaderef01_Size_3) (v0 : Str) (v1 v6 v7 v8 v9 : Int)  (h_l_3 : H_cascaderef01_Size_3 xat m  l_3) {out} (hp : b_cascaderef01_Size_2 PP  l_3 v0 v1 v6 v7 v8 v9 = some out) : (A_cascaderef01_Size_2 xat m  v0 v1 v6 v7 v8 v9 stk) = (O_cascaderef01_Size  m  stk) out := by
 subst hPP
 simp only [b_cascaderef01_Size_2] at hp
 unfold A_cascaderef01_Size_2
 rw [h.at_, hT]
 cbv
 cases c6 : xcmp .geq v6 224 with
 | false =>
  simp only [c6] at hp ⊢
  cbv
  first | exact h_l_3 hp stk | (have q := h_l_3 hp stk; simp only [A_cascaderef01_Size_3, h.map_cons, h.map_nil, h.mapE_nil, h.len_nil, he_e_api_Value, he_e_api_Pair, he_e_int] at q; first | exact q | (cbv; exact q))
 | true =>
  simp only [c6] at hp ⊢
  cbv
  cases c7 : xcmp .lss v6 240 with
  | false =>
   simp only [c7] at hp ⊢
   cbv
   first | exact h_l_3 hp stk | (have q := h_l_3 hp stk; simp only [A_cascaderef01_Size_3, h.map_cons, h.map_nil, h.mapE_nil, h.len_nil, he_e_api_Value, he_e_api_Pair, he_e_int] at q; first | exact q | (cbv; exact q))
  | true =>
   simp only [c7] at hp ⊢
   cbv
   first | exact h_l_3 hp stk | (have q := h_l_3 hp stk; simp only [A_cascaderef01_Size_3, h.map_cons, h.map_nil, h.mapE_nil, h.len_nil, he_e_api_Value, he_e_api_Pair, he_e_int] at q; first | exact q | (cbv; exact q))
def b_cascaderef01_Size_3 (P : Prims)  (l_4 : T_cascaderef01_Size_4) (v0 : Str) (v1 v6 v7 v8 v9 : Int) : Option (Int × Int) :=
 match P.cmp .geq v6 240 with
 | false =>
  l_4 v0 v1 v7 v8 v9
 | true =>
  match P.cmp .lss v6 245 with
  | false =>
   l_4 v0 v1 v7 v8 v9
  | true =>
   l_4 v0 v1 4 (P.ar .sub .i64 v6 240) 65536
theorem o_cascaderef01_Size_3 (l_4 : T_cascaderef01_Size_4) (v0 : Str) (v1 v6 v7 v8 v9 : Int)  (h_l_4 : H_cascaderef01_Size_4 xat m  l_4) {out} (hp : b_cascaderef01_Size_3 PP  l_4 v0 v1 v6 v7 v8 v9 = some out) : (A_cascaderef01_Size_3 xat m  v0 v1 v6 v7 v8 v9 stk) = (O_cascaderef01_Size  m  stk) out := by
 subst hPP
 simp only [b_cascaderef01_Size_3] at hp
 unfold A_cascaderef01_Size_3
 rw [h.at_, hT]
 cbv
 cases c8 : xcmp .geq v6 240 with
 | false =>
  simp only [c8] at hp ⊢
  cbv
  first | exact h_l_4 hp stk | (have q := h_l_4 hp stk; simp only [A_cascaderef01_Size_4, h.map_cons, h.map_nil, h.mapE_nil, h.len_nil, he_e_api_Value, he_e_api_Pair, he_e_int] at q; first | exact q | (cbv; exact q))
 | true =>
  simp only [c8] at hp ⊢
  cbv
  cases c9 : xcmp .lss v6 245 with
  | false =>
   simp only [c9] at hp ⊢
   cbv
   first | exact h_l_4 hp stk | (have q := h_l_4 hp stk; simp only [A_cascaderef01_Size_4, h.map_cons, h.map_nil, h.mapE_nil, h.len_nil, he_e_api_Value, he_e_api_Pair, he_e_int] at q; first | exact q | (cbv; exact q))
  | true =>
   simp only [c9] at hp ⊢
   cbv
   first | exact h_l_4 hp stk | (have q := h_l_4 hp stk; simp only [A_cascaderef01_Size_4, h.map_cons, h.map_nil, h.mapE_nil, h.len_nil, he_e_api_Value, he_e_api_Pair, he_e_int] at q; first | exact q | (cbv; exact q))
def b_cascaderef01_Size_4 (P : Prims)  (l_6 : T_cascaderef01_Size_6) (v0 : Str) (v1 v7 v8 v9 : Int) : Option (Int × Int) :=
 match P.cmp .eql v7 0 with
 | false =>
  match P.cmp .geq v1 (P.ar .add .i64 (P.ar .sub .i64 (P.slen v0) v7) 1) with
  | false =>
   l_6 v0 v1 v7 v8 v9 1
  | true =>
   some (0, 0)
 | true =>
  some (0, 0)
theorem o_cascaderef01_Size_4 (l_6 : T_cascaderef01_Size_6) (v0 : Str) (v1 v7 v8 v9 : Int)  (h_l_6 : H_cascaderef01_Size_6 xat m  l_6) {out} (hp : b_cascaderef01_Size_4 PP  l_6 v0 v1 v7 v8 v9 = some out) : (A_cascaderef01_Size_4 xat m  v0 v1 v7 v8 v9 stk) = (O_cascaderef01_Size  m  stk) out := by
 subst hPP
 simp only [b_cascaderef01_Size_4] at hp
 unfold A_cascaderef01_Size_4
 rw [h.at_, hT]
 cbv
 cases c10 : xcmp .eql v7 0 with
 | false =>
  simp only [c10] at hp ⊢
  cbv
  try simp only [h.slen]
  cases c11 : xcmp .geq v1 (xar .add .i64 (xar .sub .i64 (pslen v0) v7) 1) with
  | false =>
   simp only [c11] at hp ⊢
   cbv
   rw [h.at_, hT]
   cbv
   first | exact h_l_6 hp stk | (have q := h_l_6 hp stk; simp only [A_cascaderef01_Size_6, h.map_cons, h.map_nil, h.mapE_nil, h.len_nil, he_e_api_Value, he_e_api_Pair, he_e_int] at q; first | exact q | (cbv; exact q))
  | true =>
   simp only [c11] at hp ⊢
   cbv
   cases hp
   all_goals first | rfl | (cbv; done)
 | true =>
  simp only [c10] at hp ⊢
  cbv
  cases hp
  all_goals first | rfl | (cbv; done)
def b_cascaderef01_Size_6 (P : Prims)  (l_11 : T_cascaderef01_Size_11) (v0 : Str) (v1 v7 v8 v9 v10 : Int) : Option ((Str × Int × Int × Int × Int × Int) ⊕ (Int × Int)) :=
 match P.cmp .lss v10 v7 with
 | false =>
  match P.cmp .lss v8 v9 with
  | false =>
   match P.cmp .gtr v8 1114111 with
   | false =>
    match P.cmp .geq v8 55296 with
    | false =>
     match l_11 v7 v8 with | none => none | some o22 => some (.inr o22)
    | true =>
     match P.cmp .lss v8 57344 with
     | false =>
      match l_11 v7 v8 with | none => none | some o21 => some (.inr o21)
     | true =>
      some (.inr (0, 0))
   | true =>
    some (.inr (0, 0))
  | true =>
   some (.inr (0, 0))
 | true =>
  match P.sidx v0 (P.ar .add .i64 v1 v10) with
  | none => none
  | some b13 =>
   match P.cmp .lss (P.wrap .i64 b13) 128 with
   | false =>
    match P.cmp .geq (P.wrap .i64 b13) 192 with
    | false =>
     some (.inl (v0, v1, v7, P.ar .sub .i64 (P.ar .add .i64 (P.ar .mul .i64 v8 64) (P.wrap .i64 b13)) 128, v9, P.ar .add .i64 v10 1))
    | true =>
     some (.inr (0, 0))
   | true =>
    some (.inr (0, 0))
theorem o_cascaderef01_Size_6 (l_11 : T_cascaderef01_Size_11) (v0 : Str) (v1 v7 v8 v9 v10 : Int)  (h_l_11 : H_cascaderef01_Size_11 xat m  l_11) {out} (hp : b_cascaderef01_Size_6 PP  l_11 v0 v1 v7 v8 v9 v10 = some out) : (A_cascaderef01_Size_6 xat m  v0 v1 v7 v8 v9 v10 stk) = (Sum.elim (fun (v0, v1, v7, v8, v9, v10) => (A_cascaderef01_Size_6 xat m  v0 v1 v7 v8 v9 v10 stk)) (O_cascaderef01_Size  m  stk)) out := by
 subst hPP
 simp only [b_cascaderef01_Size_6] at hp
 unfold A_cascaderef01_Size_6
 rw [h.at_, hT]
 cbv
 cases c12 : xcmp .lss v10 v7 with
 | false =>
  simp only [c12] at hp ⊢
  cbv
  rw [h.at_, hT]
  cbv
  cases c17 : xcmp .lss v8 v9 with
  | false =>
   simp only [c17] at hp ⊢
   cbv
   cases c18 : xcmp .gtr v8 1114111 with
   | false =>
    simp only [c18] at hp ⊢
    cbv
    cases c19 : xcmp .geq v8 55296 with
    | false =>
     simp only [c19] at hp ⊢
     cbv
     cases c : l_11 v7 v8 with
     | none => simp only [c] at hp; cases hp
     | some o22 =>
      simp only [c] at hp
      cases hp
      first | exact h_l_11 c stk | (have q := h_l_11 c stk; simp only [A_cascaderef01_Size_11, h.map_cons, h.map_nil, h.mapE_nil, h.len_nil, he_e_api_Value, he_e_api_Pair, he_e_int] at q; first | exact q | (cbv; exact q))
    | true =>
     simp only [c19] at hp ⊢
     cbv
     cases c20 : xcmp .lss v8 57344 with
     | false =>
      simp only [c20] at hp ⊢
      cbv
      cases c : l_11 v7 v8 with
      | none => simp only [c] at hp; cases hp
      | some o21 =>
       simp only [c] at hp
       cases hp
       first | exact h_l_11 c stk | (have q := h_l_11 c stk; simp only [A_cascaderef01_Size_11, h.map_cons, h.map_nil, h.mapE_nil, h.len_nil, he_e_api_Value, he_e_api_Pair, he_e_int] at q; first | exact q | (cbv; exact q))
     | true =>
      simp only [c20] at hp ⊢
      cbv
      cases hp
      all_goals first | rfl | (cbv; done)
   | true =>
    simp only [c18] at hp ⊢
    cbv
    cases hp
    all_goals first | rfl | (cbv; done)
  | true =>
   simp only [c17] at hp ⊢
   cbv
   cases hp
   all_goals first | rfl | (cbv; done)
 | true =>
  simp only [c12] at hp ⊢
  cbv
  rw [h.at_, hT]
  cbv
  cases c14 : psidx v0 (xar .add .i64 v1 v10) with
  | none => simp only [c14] at hp; cases hp
  | some b13 =>
   simp only [c14] at hp
   obtain ⟨w, q1, q2, q3⟩ := h.sidx c14
   simp only [q1, q2, q3, Bool.false_eq_true, if_false]
   cbv
   cases c15 : xcmp .lss (xwrap .i64 b13) 128 with
   | false =>
    simp only [c15] at hp ⊢
    cbv
    cases c16 : xcmp .geq (xwrap .i64 b13) 192 with
    | false =>
     simp only [c16] at hp ⊢
     cbv
     rw [h.at_, hT]
     cbv
     rw [h.at_, hT]
     cbv
     cases hp
     all_goals first | rfl | (cbv; done)
    | true =>
     simp only [c16] at hp ⊢
     cbv
     cases hp
     all_goals first | rfl | (cbv; done)
   | true =>
    simp only [c15] at hp ⊢
    cbv
    cases hp
    all_goals first | rfl | (cbv; done)
def b_cascaderef01_Size_11 (P : Prims)   (v7 v8 : Int) : Option (Int × Int) :=
 some (v7, P.wrap .i32 v8)
theorem o_cascaderef01_Size_11  (v7 v8 : Int)   {out} (hp : b_cascaderef01_Size_11 PP   v7 v8 = some out) : (A_cascaderef01_Size_11 xat m  v7 v8 stk) = (O_cascaderef01_Size  m  stk) out := by
 subst hPP
 simp only [b_cascaderef01_Size_11] at hp
 unfold A_cascaderef01_Size_11
 rw [h.at_, hT]
 cbv
 cases hp
 all_goals first | rfl | (cbv; done)
end
def b_cascaderef01_Bad_0 (P : Prims) (c_cascaderef01_Size : Str → Int → Option (Int × Int)) (l_1 : T_cascaderef01_Bad_1) (v0 : Str) : Option (Int) :=
 l_1 v0 0
section
variable (c_cascaderef01_Size : Str → Int → Option (Int × Int)) (h_cascaderef01_Size : (C_cascaderef01_Size xpcall xfcall c_cascaderef01_Size)) (stk : Stk) (m : Nat)   
include c_cascaderef01_Size h_cascaderef01_Size stk m  
theorem o_cascaderef01_Bad_0 (l_1 : T_cascaderef01_Bad_1) (v0 : Str)  (h_l_1 : H_cascaderef01_Bad_1 xat m  l_1) {out} (hp : b_cascaderef01_Bad_0 PP c_cascaderef01_Size l_1 v0 = some out) : (A_cascaderef01_Bad_0 xat m  v0 stk) = (O_cascaderef01_Bad  m  stk) out := by
 subst hPP
 simp only [b_cascaderef01_Bad_0] at hp
 unfold A_cascaderef01_Bad_0
 rw [h.at_, hT]
 cbv
 first | exact h_l_1 hp stk | (have q := h_l_1 hp stk; simp only [A_cascaderef01_Bad_1, h.map_cons, h.map_nil, h.mapE_nil, h.len_nil, he_e_api_Value, he_e_api_Pair, he_e_int] at q; first | exact q | (cbv; exact q))
def b_cascaderef01_Bad_1 (P : Prims) (c_cascaderef01_Size : Str → Int → Option (Int × Int))  (v0 : Str) (v3 : Int) : Option ((Str × Int) ⊕ (Int)) :=
 match P.cmp .lss v3 (P.slen v0) with
 | false =>
  some (.inr (-1))
 | true =>
  match c_cascaderef01_Size v0 v3 with
  | none => none
  | some (r2_0, r2_1) =>
   match P.cmp .eql r2_0 0 with
   | false =>
    some (.inl (v0, P.ar .add .i64 v3 r2_0))
   | true =>
    some (.inr v3)
theorem o_cascaderef01_Bad_1  (v0 : Str) (v3 : Int)   {out} (hp : b_cascaderef01_Bad_1 PP c_cascaderef01_Size  v0 v3 = some out) : (A_cascaderef01_Bad_1 xat m  v0 v3 stk) = (Sum.elim (fun (v0, v3) => (A_cascaderef01_Bad_1 xat m  v0 v3 stk)) (O_cascaderef01_Bad  m  stk)) out := by
 subst hPP
 simp only [b_cascaderef01_Bad_1] at hp
 unfold A_cascaderef01_Bad_1
 rw [h.at_, hT]
 cbv
 try simp only [h.slen]
 cases c1 : xcmp .lss v3 (pslen v0) with
 | false =>
  simp only [c1] at hp ⊢
  cbv
  rw [h.at_, hT]
  cbv
  cases hp
  all_goals first | rfl | (cbv; done)
 | true =>
  simp only [c1] at hp ⊢
  cbv
  rw [h.at_, hT]
  cbv
  cases c3 : c_cascaderef01_Size v0 v3 with
  | none => simp only [c3] at hp; cases hp
  | some y5 =>
   obtain ⟨r2_0, r2_1⟩ := y5
   simp only [c3] at hp
   have qc := fun s => (h_cascaderef01_Size c3 s).1
   simp only [qc]
   cbv
   cases c4 : xcmp .eql r2_0 0 with
   | false =>
    simp only [c4] at hp ⊢
    cbv
    rw [h.at_, hT]
    cbv
    cases hp
    all_goals first | rfl | (cbv; done)
   | true =>
    simp only [c4] at hp ⊢
    cbv
    cases hp
    all_goals first | rfl | (cbv; done)
end
def b_cascaderef01_Right_0 (P : Prims) (c_cascaderef01_Bad : Str → Option (Int))  (v0 : Str) : Option (Bool) :=
 match c_cascaderef01_Bad v0 with
 | none => none
 | some r1_0 =>
  some (P.cmp .eql r1_0 (-1))
section
variable (c_cascaderef01_Bad : Str → Option (Int)) (h_cascaderef01_Bad : (C_cascaderef01_Bad xpcall xfcall c_cascaderef01_Bad)) (stk : Stk) (m : Nat)   
include c_cascaderef01_Bad h_cascaderef01_Bad stk m  
theorem o_cascaderef01_Right_0  (v0 : Str)   {out} (hp : b_cascaderef01_Right_0 PP c_cascaderef01_Bad  v0 = some out) : (A_cascaderef01_Right_0 xat m  v0 stk) = (O_cascaderef01_Right  m  stk) out := by
 subst hPP
 simp only [b_cascaderef01_Right_0] at hp
 unfold A_cascaderef01_Right_0
 rw [h.at_, hT]
 cbv
 cases c2 : c_cascaderef01_Bad v0 with
 | none => simp only [c2] at hp; cases hp
 | some r1_0 =>
  simp only [c2] at hp
  have qc := fun s => (h_cascaderef01_Bad c2 s).1
  simp only [qc]
  cbv
  cases hp
  all_goals first | rfl | (cbv; done)
end
def b_cascaderef03_right_0 (P : Prims) (c_cascaderef01_Right : Str → Option (Bool)) (c_cascaderef03_right : S_api_Value → Int → Option (Bool)) (l_2 : T_cascaderef03_right_2) (v0_0 v0_1 : Int) (v0_2 : Str) (v0_3 : Ls0) (v0_4 : Ls1) (v1 : Int) : Option (Bool) :=
 match P.cmp .lss v1 1 with
 | false =>
  match P.cmp .lss v0_0 0 with
  | false =>
   match P.cmp .gtr v0_0 5 with
   | false =>
    match P.cmp .neq v0_0 1 with
    | false =>
     match P.cmp .neq v0_0 3 with
     | false =>
      match P.cmp .neq v0_0 4 with
      | false =>
       match P.cmp .neq v0_0 5 with
       | false =>
        l_2 v1 v0_0 v0_1 v0_2 v0_3 v0_4
       | true =>
        match P.cmp .gtr (P.len v0_4) 0 with
        | false =>
         l_2 v1 v0_0 v0_1 v0_2 v0_3 v0_4
        | true =>
         some false
      | true =>
       match P.cmp .gtr (P.len v0_3) 0 with
       | false =>
        match P.cmp .neq v0_0 5 with
        | false =>
         l_2 v1 v0_0 v0_1 v0_2 v0_3 v0_4
        | true =>
         match P.cmp .gtr (P.len v0_4) 0 with
         | false =>
          l_2 v1 v0_0 v0_1 v0_2 v0_3 v0_4
         | true =>
          some false
       | true =>
        some false
     | true =>
      match P.seq v0_2 [] with
      | false =>
       some false
      | true =>
       match P.cmp .neq v0_0 4 with
       | false =>
        match P.cmp .neq v0_0 5 with
        | false =>
         l_2 v1 v0_0 v0_1 v0_2 v0_3 v0_4
        | true =>
         match P.cmp .gtr (P.len v0_4) 0 with
         | false =>
          l_2 v1 v0_0 v0_1 v0_2 v0_3 v0_4
         | true =>
          some false
       | true =>
        match P.cmp .gtr (P.len v0_3) 0 with
        | false =>
         match P.cmp .neq v0_0 5 with
         | false =>
          l_2 v1 v0_0 v0_1 v0_2 v0_3 v0_4
         | true =>
          match P.cmp .gtr (P.len v0_4) 0 with
          | false =>
           l_2 v1 v0_0 v0_1 v0_2 v0_3 v0_4
          | true =>
           some false
        | true =>
         some false
    | true =>
     match P.cmp .neq v0_0 2 with
     | false =>
      match P.cmp .neq v0_0 3 with
      | false =>
       match P.cmp .neq v0_0 4 with
       | false =>
        match P.cmp .neq v0_0 5 with
        | false =>
         l_2 v1 v0_0 v0_1 v0_2 v0_3 v0_4
        | true =>
         match P.cmp .gtr (P.len v0_4) 0 with
         | false =>
          l_2 v1 v0_0 v0_1 v0_2 v0_3 v0_4
         | true =>
          some false
       | true =>
        match P.cmp .gtr (P.len v0_3) 0 with
        | false =>
         match P.cmp .neq v0_0 5 with
         | false =>
          l_2 v1 v0_0 v0_1 v0_2 v0_3 v0_4
         | true =>
          match P.cmp .gtr (P.len v0_4) 0 with
          | false =>
           l_2 v1 v0_0 v0_1 v0_2 v0_3 v0_4
          | true =>
           some false
        | true =>
         some false
      | true =>
       match P.seq v0_2 [] with
       | false =>
        some false
       | true =>
        match P.cmp .neq v0_0 4 with
        | false =>
         match P.cmp .neq v0_0 5 with
         | false =>
          l_2 v1 v0_0 v0_1 v0_2 v0_3 v0_4
         | true =>
          match P.cmp .gtr (P.len v0_4) 0 with
          | false =>
           l_2 v1 v0_0 v0_1 v0_2 v0_3 v0_4
          | true =>
           some false
        | true =>
         match P.cmp .gtr (P.len v0_3) 0 with
         | false =>
          match P.cmp .neq v0_0 5 with
          | false =>
           l_2 v1 v0_0 v0_1 v0_2 v0_3 v0_4
          | true =>
           match P.cmp .gtr (P.len v0_4) 0 with
           | false =>
            l_2 v1 v0_0 v0_1 v0_2 v0_3 v0_4
           | true =>
            some false
         | true =>
          some false
     | true =>
      match P.cmp .neq v0_1 0 with
      | false =>
       match P.cmp .neq v0_0 3 with
       | false =>
        match P.cmp .neq v0_0 4 with
        | false =>
         match P.cmp .neq v0_0 5 with
         | false =>
          l_2 v1 v0_0 v0_1 v0_2 v0_3 v0_4
         | true =>
          match P.cmp .gtr (P.len v0_4) 0 with
          | false =>
           l_2 v1 v0_0 v0_1 v0_2 v0_3 v0_4
          | true =>
           some false
        | true =>
         match P.cmp .gtr (P.len v0_3) 0 with
         | false =>
          match P.cmp .neq v0_0 5 with
          | false =>
           l_2 v1 v0_0 v0_1 v0_2 v0_3 v0_4
          | true =>
           match P.cmp .gtr (P.len v0_4) 0 with
           | false =>
            l_2 v1 v0_0 v0_1 v0_2 v0_3 v0_4
           | true =>
            some false
         | true =>
          some false
       | true =>
        match P.seq v0_2 [] with
        | false =>
         some false
        | true =>
         match P.cmp .neq v0_0 4 with
         | false =>
          match P.cmp .neq v0_0 5 with
          | false =>
           l_2 v1 v0_0 v0_1 v0_2 v0_3 v0_4
          | true =>
           match P.cmp .gtr (P.len v0_4) 0 with
           | false =>
            l_2 v1 v0_0 v0_1 v0_2 v0_3 v0_4
           | true =>
            some false
         | true =>
          match P.cmp .gtr (P.len v0_3) 0 with
          | false =>
           match P.cmp .neq v0_0 5 with
           | false =>
            l_2 v1 v0_0 v0_1 v0_2 v0_3 v0_4
           | true =>
            match P.cmp .gtr (P.len v0_4) 0 with
            | false =>
             l_2 v1 v0_0 v0_1 v0_2 v0_3 v0_4
            | true =>
             some false
          | true =>
           some false
      | true =>
       some false
   | true =>
    some false
  | true =>
   some false
 | true =>
  some false
section
variable (c_cascaderef01_Right : Str → Option (Bool)) (c_cascaderef03_right : S_api_Value → Int → Option (Bool)) (h_cascaderef01_Right : (C_cascaderef01_Right xpcall xfcall c_cascaderef01_Right)) (h_cascaderef03_right : (C_cascaderef03_right xpcall xfcall @xmap e_api_Value e_api_Pair c_cascaderef03_right)) (stk : Stk) (m : Nat)   
include c_cascaderef01_Right c_cascaderef03_right h_cascaderef01_Right h_cascaderef03_right stk m  
theorem o_cascaderef03_right_0 (l_2 : T_cascaderef03_right_2) (v0_0 v0_1 : Int) (v0_2 : Str) (v0_3 : Ls0) (v0_4 : Ls1) (v1 : Int)  (h_l_2 : H_cascaderef03_right_2 xat @xmap e_api_Value e_api_Pair m  l_2) {out} (hp : b_cascaderef03_right_0 PP c_cascaderef01_Right c_cascaderef03_right l_2 v0_0 v0_1 v0_2 v0_3 v0_4 v1 = some out) : (A_cascaderef03_right_0 xat @xmap e_api_Value e_api_Pair m  v0_0 v0_1 v0_2 v0_3 v0_4 v1 stk) = (O_cascaderef03_right  m  stk) out := by
 subst hPP
 simp only [b_cascaderef03_right_0] at hp
 unfold A_cascaderef03_right_0
 rw [h.at_, hT]
 cbv
 cases c1 : xcmp .lss v1 1 with
 | false =>
  simp only [c1] at hp ⊢
  cbv
  cases c2 : xcmp .lss v0_0 0 with
  | false =>
   simp only [c2] at hp ⊢
   cbv
   cases c3 : xcmp .gtr v0_0 5 with
   | false =>
    simp only [c3] at hp ⊢
    cbv
    rw [h.at_, hT]
    cbv
    cases c4 : xcmp .neq v0_0 1 with
    | false =>
     simp only [c4] at hp ⊢
     cbv
     cases c35 : xcmp .neq v0_0 3 with
     | false =>
      simp only [c35] at hp ⊢
      cbv
      cases c43 : xcmp .neq v0_0 4 with
      | false =>
       simp only [c43] at hp ⊢
       cbv
       cases c47 : xcmp .neq v0_0 5 with
       | false =>
        simp only [c47] at hp ⊢
        cbv
        first | exact h_l_2 hp stk | (have q := h_l_2 hp stk; simp only [A_cascaderef03_right_2, h.map_cons, h.map_nil, h.mapE_nil, h.len_nil, he_e_api_Value, he_e_api_Pair, he_e_int] at q; first | exact q | (cbv; exact q))
       | true =>
        simp only [c47] at hp ⊢
        cbv
        try simp only [h.len]
        cases c48 : xcmp .gtr (plen v0_4) 0 with
        | false =>
         simp only [c48] at hp ⊢
         cbv
         first | exact h_l_2 hp stk | (have q := h_l_2 hp stk; simp only [A_cascaderef03_right_2, h.map_cons, h.map_nil, h.mapE_nil, h.len_nil, he_e_api_Value, he_e_api_Pair, he_e_int] at q; first | exact q | (cbv; exact q))
        | true =>
         simp only [c48] at hp ⊢
         cbv
         cases hp
         all_goals first | rfl | (cbv; done)
      | true =>
       simp only [c43] at hp ⊢
       cbv
       try simp only [h.len]
       cases c44 : xcmp .gtr (plen v0_3) 0 with
       | false =>
        simp only [c44] at hp ⊢
        cbv
        cases c45 : xcmp .neq v0_0 5 with
        | false =>
         simp only [c45] at hp ⊢
         cbv
         first | exact h_l_2 hp stk | (have q := h_l_2 hp stk; simp only [A_cascaderef03_right_2, h.map_cons, h.map_nil, h.mapE_nil, h.len_nil, he_e_api_Value, he_e_api_Pair, he_e_int] at q; first | exact q | (cbv; exact q))
        | true =>
         simp only [c45] at hp ⊢
         cbv
         try simp only [h.len]
         cases c46 : xcmp .gtr (plen v0_4) 0 with
         | false =>
          simp only [c46] at hp ⊢
          cbv
          first | exact h_l_2 hp stk | (have q := h_l_2 hp stk; simp only [A_cascaderef03_right_2, h.map_cons, h.map_nil, h.mapE_nil, h.len_nil, he_e_api_Value, he_e_api_Pair, he_e_int] at q; first | exact q | (cbv; exact q))
         | true =>
          simp only [c46] at hp ⊢
          cbv
          cases hp
          all_goals first | rfl | (cbv; done)
       | true =>
        simp only [c44] at hp ⊢
        cbv
        cases hp
        all_goals first | rfl | (cbv; done)
     | true =>
      simp only [c35] at hp ⊢
      cbv
      cases c36 : xseq v0_2 [] with
      | false =>
       simp only [c36] at hp ⊢
       cbv
       cases hp
       all_goals first | rfl | (cbv; done)
      | true =>
       simp only [c36] at hp ⊢
       cbv
       cases c37 : xcmp .neq v0_0 4 with
       | false =>
        simp only [c37] at hp ⊢
        cbv
        cases c41 : xcmp .neq v0_0 5 with
        | false =>
         simp only [c41] at hp ⊢
         cbv
         first | exact h_l_2 hp stk | (have q := h_l_2 hp stk; simp only [A_cascaderef03_right_2, h.map_cons, h.map_nil, h.mapE_nil, h.len_nil, he_e_api_Value, he_e_api_Pair, he_e_int] at q; first | exact q | (cbv; exact q))
        | true =>
         simp only [c41] at hp ⊢
         cbv
         try simp only [h.len]
         cases c42 : xcmp .gtr (plen v0_4) 0 with
         | false =>
          simp only [c42] at hp ⊢
          cbv
          first | exact h_l_2 hp stk | (have q := h_l_2 hp stk; simp only [A_cascaderef03_right_2, h.map_cons, h.map_nil, h.mapE_nil, h.len_nil, he_e_api_Value, he_e_api_Pair, he_e_int] at q; first | exact q | (cbv; exact q))
         | true =>
          simp only [c42] at hp ⊢
          cbv
          cases hp
          all_goals first | rfl | (cbv; done)
       | true =>
        simp only [c37] at hp ⊢
        cbv
        try simp only [h.len]
        cases c38 : xcmp .gtr (plen v0_3) 0 with
        | false =>
         simp only [c38] at hp ⊢
         cbv
         cases c39 : xcmp .neq v0_0 5 with
         | false =>
          simp only [c39] at hp ⊢
          cbv
          first | exact h_l_2 hp stk | (have q := h_l_2 hp stk; simp only [A_cascaderef03_right_2, h.map_cons, h.map_nil, h.mapE_nil, h.len_nil, he_e_api_Value, he_e_api_Pair, he_e_int] at q; first | exact q | (cbv; exact q))
         | true =>
          simp only [c39] at hp ⊢
          cbv
          try simp only [h.len]
          cases c40 : xcmp .gtr (plen v0_4) 0 with
          | false =>
           simp only [c40] at hp ⊢
           cbv
           first | exact h_l_2 hp stk | (have q := h_l_2 hp stk; simp only [A_cascaderef03_right_2, h.map_cons, h.map_nil, h.mapE_nil, h.len_nil, he_e_api_Value, he_e_api_Pair, he_e_int] at q; first | exact q | (cbv; exact q))
          | true =>
           simp only [c40] at hp ⊢
           cbv
           cases hp
           all_goals first | rfl | (cbv; done)
        | true =>
         simp only [c38] at hp ⊢
         cbv
         cases hp
         all_goals first | rfl | (cbv; done)
    | true =>
     simp only [c4] at hp ⊢
     cbv
     cases c5 : xcmp .neq v0_0 2 with
     | false =>
      simp only [c5] at hp ⊢
      cbv
      cases c21 : xcmp .neq v0_0 3 with
      | false =>
       simp only [c21] at hp ⊢
       cbv
       cases c29 : xcmp .neq v0_0 4 with
       | false =>
        simp only [c29] at hp ⊢
        cbv
        cases c33 : xcmp .neq v0_0 5 with
        | false =>
         simp only [c33] at hp ⊢
         cbv
         first | exact h_l_2 hp stk | (have q := h_l_2 hp stk; simp only [A_cascaderef03_right_2, h.map_cons, h.map_nil, h.mapE_nil, h.len_nil, he_e_api_Value, he_e_api_Pair, he_e_int] at q; first | exact q | (cbv; exact q))
        | true =>
         simp only [c33] at hp ⊢
         cbv
         try simp only [h.len]
         cases c34 : xcmp .gtr (plen v0_4) 0 with
         | false =>
          simp only [c34] at hp ⊢
          cbv
          first | exact h_l_2 hp stk | (have q := h_l_2 hp stk; simp only [A_cascaderef03_right_2, h.map_cons, h.map_nil, h.mapE_nil, h.len_nil, he_e_api_Value, he_e_api_Pair, he_e_int] at q; first | exact q | (cbv; exact q))
         | true =>
          simp only [c34] at hp ⊢
          cbv
          cases hp
          all_goals first | rfl | (cbv; done)
       | true =>
        simp only [c29] at hp ⊢
        cbv
        try simp only [h.len]
        cases c30 : xcmp .gtr (plen v0_3) 0 with
        | false =>
         simp only [c30] at hp ⊢
         cbv
         cases c31 : xcmp .neq v0_0 5 with
         | false =>
          simp only [c31] at hp ⊢
          cbv
          first | exact h_l_2 hp stk | (have q := h_l_2 hp stk; simp only [A_cascaderef03_right_2, h.map_cons, h.map_nil, h.mapE_nil, h.len_nil, he_e_api_Value, he_e_api_Pair, he_e_int] at q; first | exact q | (cbv; exact q))
         | true =>
          simp only [c31] at hp ⊢
          cbv
          try simp only [h.len]
          cases c32 : xcmp .gtr (plen v0_4) 0 with
          | false =>
           simp only [c32] at hp ⊢
           cbv
           first | exact h_l_2 hp stk | (have q := h_l_2 hp stk; simp only [A_cascaderef03_right_2, h.map_cons, h.map_nil, h.mapE_nil, h.len_nil, he_e_api_Value, he_e_api_Pair, he_e_int] at q; first | exact q | (cbv; exact q))
          | true =>
           simp only [c32] at hp ⊢
           cbv
           cases hp
           all_goals first | rfl | (cbv; done)
        | true =>
         simp only [c30] at hp ⊢
         cbv
         cases hp
         all_goals first | rfl | (cbv; done)
      | true =>
       simp only [c21] at hp ⊢
       cbv
       cases c22 : xseq v0_2 [] with
       | false =>
        simp only [c22] at hp ⊢
        cbv
        cases hp
        all_goals first | rfl | (cbv; done)
       | true =>
        simp only [c22] at hp ⊢
        cbv
        cases c23 : xcmp .neq v0_0 4 with
        | false =>
         simp only [c23] at hp ⊢
         cbv
         cases c27 : xcmp .neq v0_0 5 with
         | false =>
          simp only [c27] at hp ⊢
          cbv
          first | exact h_l_2 hp stk | (have q := h_l_2 hp stk; simp only [A_cascaderef03_right_2, h.map_cons, h.map_nil, h.mapE_nil, h.len_nil, he_e_api_Value, he_e_api_Pair, he_e_int] at q; first | exact q | (cbv; exact q))
         | true =>
          simp only [c27] at hp ⊢
          cbv
          try simp only [h.len]
          cases c28 : xcmp .gtr (plen v0_4) 0 with
          | false =>
           simp only [c28] at hp ⊢
           cbv
           first | exact h_l_2 hp stk | (have q := h_l_2 hp stk; simp only [A_cascaderef03_right_2, h.map_cons, h.map_nil, h.mapE_nil, h.len_nil, he_e_api_Value, he_e_api_Pair, he_e_int] at q; first | exact q | (cbv; exact q))
          | true =>
           simp only [c28] at hp ⊢
           cbv
           cases hp
           all_goals first | rfl | (cbv; done)
        | true =>
         simp only [c23] at hp ⊢
         cbv
         try simp only [h.len]
         cases c24 : xcmp .gtr (plen v0_3) 0 with
         | false =>
          simp only [c24] at hp ⊢
          cbv
          cases c25 : xcmp .neq v0_0 5 with
          | false =>
           simp only [c25] at hp ⊢
           cbv
           first | exact h_l_2 hp stk | (have q := h_l_2 hp stk; simp only [A_cascaderef03_right_2, h.map_cons, h.map_nil, h.mapE_nil, h.len_nil, he_e_api_Value, he_e_api_Pair, he_e_int] at q; first | exact q | (cbv; exact q))
          | true =>
           simp only [c25] at hp ⊢
           cbv
           try simp only [h.len]
           cases c26 : xcmp .gtr (plen v0_4) 0 with
           | false =>
            simp only [c26] at hp ⊢
            cbv
            first | exact h_l_2 hp stk | (have q := h_l_2 hp stk; simp only [A_cascaderef03_right_2, h.map_cons, h.map_nil, h.mapE_nil, h.len_nil, he_e_api_Value, he_e_api_Pair, he_e_int] at q; first | exact q | (cbv; exact q))
           | true =>
            simp only [c26] at hp ⊢
            cbv
            cases hp
            all_goals first | rfl | (cbv; done)
         | true =>
          simp only [c24] at hp ⊢
          cbv
          cases hp
          all_goals first | rfl | (cbv; done)
     | true =>
      simp only [c5] at hp ⊢
      cbv
      cases c6 : xcmp .neq v0_1 0 with
      | false =>
       simp only [c6] at hp ⊢
       cbv
       cases c7 : xcmp .neq v0_0 3 with
       | false =>
        simp only [c7] at hp ⊢
        cbv
        cases c15 : xcmp .neq v0_0 4 with
        | false =>
         simp only [c15] at hp ⊢
         cbv
         cases c19 : xcmp .neq v0_0 5 with
         | false =>
          simp only [c19] at hp ⊢
          cbv
          first | exact h_l_2 hp stk | (have q := h_l_2 hp stk; simp only [A_cascaderef03_right_2, h.map_cons, h.map_nil, h.mapE_nil, h.len_nil, he_e_api_Value, he_e_api_Pair, he_e_int] at q; first | exact q | (cbv; exact q))
         | true =>
          simp only [c19] at hp ⊢
          cbv
          try simp only [h.len]
          cases c20 : xcmp .gtr (plen v0_4) 0 with
          | false =>
           simp only [c20] at hp ⊢
           cbv
           first | exact h_l_2 hp stk | (have q := h_l_2 hp stk; simp only [A_cascaderef03_right_2, h.map_cons, h.map_nil, h.mapE_nil, h.len_nil, he_e_api_Value, he_e_api_Pair, he_e_int] at q; first | exact q | (cbv; exact q))
          | true =>
           simp only [c20] at hp ⊢
           cbv
           cases hp
           all_goals first | rfl | (cbv; done)
        | true =>
         simp only [c15] at hp ⊢
         cbv
         try simp only [h.len]
         cases c16 : xcmp .gtr (plen v0_3) 0 with
         | false =>
          simp only [c16] at hp ⊢
          cbv
          cases c17 : xcmp .neq v0_0 5 with
          | false =>
           simp only [c17] at hp ⊢
           cbv
           first | exact h_l_2 hp stk | (have q := h_l_2 hp stk; simp only [A_cascaderef03_right_2, h.map_cons, h.map_nil, h.mapE_nil, h.len_nil, he_e_api_Value, he_e_api_Pair, he_e_int] at q; first | exact q | (cbv; exact q))
          | true =>
           simp only [c17] at hp ⊢
           cbv
           try simp only [h.len]
           cases c18 : xcmp .gtr (plen v0_4) 0 with
           | false =>
            simp only [c18] at hp ⊢
            cbv
            first | exact h_l_2 hp stk | (have q := h_l_2 hp stk; simp only [A_cascaderef03_right_2, h.map_cons, h.map_nil, h.mapE_nil, h.len_nil, he_e_api_Value, he_e_api_Pair, he_e_int] at q; first | exact q | (cbv; exact q))
           | true =>
            simp only [c18] at hp ⊢
            cbv
            cases hp
            all_goals first | rfl | (cbv; done)
         | true =>
          simp only [c16] at hp ⊢
          cbv
          cases hp
          all_goals first | rfl | (cbv; done)
       | true =>
        simp only [c7] at hp ⊢
        cbv
        cases c8 : xseq v0_2 [] with
        | false =>
         simp only [c8] at hp ⊢
         cbv
         cases hp
         all_goals first | rfl | (cbv; done)
        | true =>
         simp only [c8] at hp ⊢
         cbv
         cases c9 : xcmp .neq v0_0 4 with
         | false =>
          simp only [c9] at hp ⊢
          cbv
          cases c13 : xcmp .neq v0_0 5 with
          | false =>
           simp only [c13] at hp ⊢
           cbv
           first | exact h_l_2 hp stk | (have q := h_l_2 hp stk; simp only [A_cascaderef03_right_2, h.map_cons, h.map_nil, h.mapE_nil, h.len_nil, he_e_api_Value, he_e_api_Pair, he_e_int] at q; first | exact q | (cbv; exact q))
          | true =>
           simp only [c13] at hp ⊢
           cbv
           try simp only [h.len]
           cases c14 : xcmp .gtr (plen v0_4) 0 with
           | false =>
            simp only [c14] at hp ⊢
            cbv
            first | exact h_l_2 hp stk | (have q := h_l_2 hp stk; simp only [A_cascaderef03_right_2, h.map_cons, h.map_nil, h.mapE_nil, h.len_nil, he_e_api_Value, he_e_api_Pair, he_e_int] at q; first | exact q | (cbv; exact q))
           | true =>
            simp only [c14] at hp ⊢
            cbv
            cases hp
            all_goals first | rfl | (cbv; done)
         | true =>
          simp only [c9] at hp ⊢
          cbv
          try simp only [h.len]
          cases c10 : xcmp .gtr (plen v0_3) 0 with
          | false =>
           simp only [c10] at hp ⊢
           cbv
           cases c11 : xcmp .neq v0_0 5 with
           | false =>
            simp only [c11] at hp ⊢
            cbv
            first | exact h_l_2 hp stk | (have q := h_l_2 hp stk; simp only [A_cascaderef03_right_2, h.map_cons, h.map_nil, h.mapE_nil, h.len_nil, he_e_api_Value, he_e_api_Pair, he_e_int] at q; first | exact q | (cbv; exact q))
           | true =>
            simp only [c11] at hp ⊢
            cbv
            try simp only [h.len]
            cases c12 : xcmp .gtr (plen v0_4) 0 with
            | false =>
             simp only [c12] at hp ⊢
             cbv
             first | exact h_l_2 hp stk | (have q := h_l_2 hp stk; simp only [A_cascaderef03_right_2, h.map_cons, h.map_nil, h.mapE_nil, h.len_nil, he_e_api_Value, he_e_api_Pair, he_e_int] at q; first | exact q | (cbv; exact q))
            | true =>
             simp only [c12] at hp ⊢
             cbv
             cases hp
             all_goals first | rfl | (cbv; done)
          | true =>
           simp only [c10] at hp ⊢
           cbv
           cases hp
           all_goals first | rfl | (cbv; done)
      | true =>
       simp only [c6] at hp ⊢
       cbv
       cases hp
       all_goals first | rfl | (cbv; done)
   | true =>
    simp only [c3] at hp ⊢
    cbv
    cases hp
    all_goals first | rfl | (cbv; done)
  | true =>
   simp only [c2] at hp ⊢
   cbv
   cases hp
   all_goals first | rfl | (cbv; done)
 | true =>
  simp only [c1] at hp ⊢
  cbv
  cases hp
  all_goals first | rfl | (cbv; done)
def b_cascaderef03_right_2 (P : Prims) (c_cascaderef01_Right : Str → Option (Bool)) (c_cascaderef03_right : S_api_Value → Int → Option (Bool)) (l_3 : T_cascaderef03_right_3) (v1 v2_0 v2_1 : Int) (v2_2 : Str) (v2_3 : Ls0) (v2_4 : Ls1) : Option (Bool) :=
 match P.cmp .eql v2_0 1 with
 | false =>
  match P.cmp .gtr v2_1 9007199254740991 with
  | false =>
   match P.cmp .lss v2_1 (-9007199254740991) with
   | false =>
    match c_cascaderef01_Right v2_2 with
    | none => none
    | some r64_0 =>
     match r64_0 with
     | false =>
      some false
     | true =>
      l_3 v1 v2_0 v2_1 v2_2 v2_3 v2_4
   | true =>
    some false
  | true =>
   some false
 | true =>
  match P.cmp .neq v2_1 0 with
  | false =>
   match P.cmp .gtr v2_1 9007199254740991 with
   | false =>
    match P.cmp .lss v2_1 (-9007199254740991) with
    | false =>
     match c_cascaderef01_Right v2_2 with
     | none => none
     | some r59_0 =>
      match r59_0 with
      | false =>
       some false
      | true =>
       l_3 v1 v2_0 v2_1 v2_2 v2_3 v2_4
    | true =>
     some false
   | true =>
    some false
  | true =>
   match P.cmp .neq v2_1 1 with
   | false =>
    match P.cmp .gtr v2_1 9007199254740991 with
    | false =>
     match P.cmp .lss v2_1 (-9007199254740991) with
     | false =>
      match c_cascaderef01_Right v2_2 with
      | none => none
      | some r54_0 =>
       match r54_0 with
       | false =>
        some false
       | true =>
        l_3 v1 v2_0 v2_1 v2_2 v2_3 v2_4
     | true =>
      some false
    | true =>
     some false
   | true =>
    some false
theorem o_cascaderef03_right_2 (l_3 : T_cascaderef03_right_3) (v1 v2_0 v2_1 : Int) (v2_2 : Str) (v2_3 : Ls0) (v2_4 : Ls1)  (h_l_3 : H_cascaderef03_right_3 xat @xmap e_api_Value e_api_Pair m  l_3) {out} (hp : b_cascaderef03_right_2 PP c_cascaderef01_Right c_cascaderef03_right l_3 v1 v2_0 v2_1 v2_2 v2_3 v2_4 = some out) : (A_cascaderef03_right_2 xat @xmap e_api_Value e_api_Pair m  v1 v2_0 v2_1 v2_2 v2_3 v2_4 stk) = (O_cascaderef03_right  m  stk) out := by
 subst hPP
 simp only [b_cascaderef03_right_2] at hp
 unfold A_cascaderef03_right_2
 rw [h.at_, hT]
 cbv
 cases c49 : xcmp .eql v2_0 1 with
 | false =>
  simp only [c49] at hp ⊢
  cbv
  cases c62 : xcmp .gtr v2_1 9007199254740991 with
  | false =>
   simp only [c62] at hp ⊢
   cbv
   cases c63 : xcmp .lss v2_1 (-9007199254740991) with
   | false =>
    simp only [c63] at hp ⊢
    cbv
    cases c65 : c_cascaderef01_Right v2_2 with
    | none => simp only [c65] at hp; cases hp
    | some r64_0 =>
     simp only [c65] at hp
     have qc := fun s => (h_cascaderef01_Right c65 s).1
     simp only [qc]
     cbv
     cases r64_0 with
     | false =>
      simp only at hp
      cbv
      cases hp
      all_goals first | rfl | (cbv; done)
     | true =>
      simp only at hp
      cbv
      first | exact h_l_3 hp stk | (have q := h_l_3 hp stk; simp only [A_cascaderef03_right_3, h.map_cons, h.map_nil, h.mapE_nil, h.len_nil, he_e_api_Value, he_e_api_Pair, he_e_int] at q; first | exact q | (cbv; exact q))
   | true =>
    simp only [c63] at hp ⊢
    cbv
    cases hp
    all_goals first | rfl | (cbv; done)
  | true =>
   simp only [c62] at hp ⊢
   cbv
   cases hp
   all_goals first | rfl | (cbv; done)
 | true =>
  simp only [c49] at hp ⊢
  cbv
  cases c50 : xcmp .neq v2_1 0 with
  | false =>
   simp only [c50] at hp ⊢
   cbv
   cases c57 : xcmp .gtr v2_1 9007199254740991 with
   | false =>
    simp only [c57] at hp ⊢
    cbv
    cases c58 : xcmp .lss v2_1 (-9007199254740991) with
    | false =>
     simp only [c58] at hp ⊢
     cbv
     cases c60 : c_cascaderef01_Right v2_2 with
     | none => simp only [c60] at hp; cases hp
     | some r59_0 =>
      simp only [c60] at hp
      have qc := fun s => (h_cascaderef01_Right c60 s).1
      simp only [qc]
      cbv
      cases r59_0 with
      | false =>
       simp only at hp
       cbv
       cases hp
       all_goals first | rfl | (cbv; done)
      | true =>
       simp only at hp
       cbv
       first | exact h_l_3 hp stk | (have q := h_l_3 hp stk; simp only [A_cascaderef03_right_3, h.map_cons, h.map_nil, h.mapE_nil, h.len_nil, he_e_api_Value, he_e_api_Pair, he_e_int] at q; first | exact q | (cbv; exact q))
    | true =>
     simp only [c58] at hp ⊢
     cbv
     cases hp
     all_goals first | rfl | (cbv; done)
   | true =>
    simp only [c57] at hp ⊢
    cbv
    cases hp
    all_goals first | rfl | (cbv; done)
  | true =>
   simp only [c50] at hp ⊢
   cbv
   cases c51 : xcmp .neq v2_1 1 with
   | false =>
    simp only [c51] at hp ⊢
    cbv
    cases c52 : xcmp .gtr v2_1 9007199254740991 with
    | false =>
     simp only [c52] at hp ⊢
     cbv
     cases c53 : xcmp .lss v2_1 (-9007199254740991) with
     | false =>
      simp only [c53] at hp ⊢
      cbv
      cases c55 : c_cascaderef01_Right v2_2 with
      | none => simp only [c55] at hp; cases hp
      | some r54_0 =>
       simp only [c55] at hp
       have qc := fun s => (h_cascaderef01_Right c55 s).1
       simp only [qc]
       cbv
       cases r54_0 with
       | false =>
        simp only at hp
        cbv
        cases hp
        all_goals first | rfl | (cbv; done)
       | true =>
        simp only at hp
        cbv
        first | exact h_l_3 hp stk | (have q := h_l_3 hp stk; simp only [A_cascaderef03_right_3, h.map_cons, h.map_nil, h.mapE_nil, h.len_nil, he_e_api_Value, he_e_api_Pair, he_e_int] at q; first | exact q | (cbv; exact q))
     | true =>
      simp only [c53] at hp ⊢
      cbv
      cases hp
      all_goals first | rfl | (cbv; done)
    | true =>
     simp only [c52] at hp ⊢
     cbv
     cases hp
     all_goals first | rfl | (cbv; done)
   | true =>
    simp only [c51] at hp ⊢
    cbv
    cases hp
    all_goals first | rfl | (cbv; done)
def b_cascaderef03_right_3 (P : Prims) (c_cascaderef01_Right : Str → Option (Bool)) (c_cascaderef03_right : S_api_Value → Int → Option (Bool)) (l_4 : T_cascaderef03_right_4) (v1 v2_0 v2_1 : Int) (v2_2 : Str) (v2_3 : Ls0) (v2_4 : Ls1) : Option (Bool) :=
 l_4 v1 v2_0 v2_1 v2_2 v2_3 v2_4 0
theorem o_cascaderef03_right_3 (l_4 : T_cascaderef03_right_4) (v1 v2_0 v2_1 : Int) (v2_2 : Str) (v2_3 : Ls0) (v2_4 : Ls1)  (h_l_4 : H_cascaderef03_right_4 xat @xmap e_api_Value e_api_Pair m  l_4) {out} (hp : b_cascaderef03_right_3 PP c_cascaderef01_Right c_cascaderef03_right l_4 v1 v2_0 v2_1 v2_2 v2_3 v2_4 = some out) : (A_cascaderef03_right_3 xat @xmap e_api_Value e_api_Pair m  v1 v2_0 v2_1 v2_2 v2_3 v2_4 stk) = (O_cascaderef03_right  m  stk) out := by
 subst hPP
 simp only [b_cascaderef03_right_3] at hp
 unfold A_cascaderef03_right_3
 rw [h.at_, hT]
 cbv
 first | exact h_l_4 hp stk | (have q := h_l_4 hp stk; simp only [A_cascaderef03_right_4, h.map_cons, h.map_nil, h.mapE_nil, h.len_nil, he_e_api_Value, he_e_api_Pair, he_e_int] at q; first | exact q | (cbv; exact q))
def b_cascaderef03_right_4 (P : Prims) (c_cascaderef01_Right : Str → Option (Bool)) (c_cascaderef03_right : S_api_Value → Int → Option (Bool)) (l_8 : T_cascaderef03_right_8) (v1 v2_0 v2_1 : Int) (v2_2 : Str) (v2_3 : Ls0) (v2_4 : Ls1) (v5 : Int) : Option ((Int × Int × Int × Str × Ls0 × Ls1 × Int) ⊕ (Bool)) :=
 match P.cmp .lss v5 (P.len v2_3) with
 | false =>
  match l_8 v1 v2_0 v2_1 v2_2 v2_3 v2_4 0 with | none => none | some o74 => some (.inr o74)
 | true =>
  match P.idx v2_3 v5 with
  | none => none
  | some ⟨a68_0, a68_1, a68_2, a68_3, a68_4⟩ =>
   match c_cascaderef03_right ⟨a68_0, a68_1, a68_2, a68_3, a68_4⟩ (P.ar .sub .i64 v1 1) with
   | none => none
   | some r70_0 =>
    match r70_0 with
    | false =>
     some (.inr false)
    | true =>
     some (.inl (v1, v2_0, v2_1, v2_2, v2_3, v2_4, P.ar .add .i64 v5 1))
theorem o_cascaderef03_right_4 (l_8 : T_cascaderef03_right_8) (v1 v2_0 v2_1 : Int) (v2_2 : Str) (v2_3 : Ls0) (v2_4 : Ls1) (v5 : Int)  (h_l_8 : H_cascaderef03_right_8 xat @xmap e_api_Value e_api_Pair m  l_8) {out} (hp : b_cascaderef03_right_4 PP c_cascaderef01_Right c_cascaderef03_right l_8 v1 v2_0 v2_1 v2_2 v2_3 v2_4 v5 = some out) : (A_cascaderef03_right_4 xat @xmap e_api_Value e_api_Pair m  v1 v2_0 v2_1 v2_2 v2_3 v2_4 v5 stk) = (Sum.elim (fun (v1, v2_0, v2_1, v2_2, v2_3, v2_4, v5) => (A_cascaderef03_right_4 xat @xmap e_api_Value e_api_Pair m  v1 v2_0 v2_1 v2_2 v2_3 v2_4 v5 stk)) (O_cascaderef03_right  m  stk)) out := by
 subst hPP
 simp only [b_cascaderef03_right_4] at hp
 unfold A_cascaderef03_right_4
 rw [h.at_, hT]
 cbv
 try simp only [h.len]
 cases c67 : xcmp .lss v5 (plen v2_3) with
 | false =>
  simp only [c67] at hp ⊢
  cbv
  rw [h.at_, hT]
  cbv
  cases c : l_8 v1 v2_0 v2_1 v2_2 v2_3 v2_4 0 with
  | none => simp only [c] at hp; cases hp
  | some o74 =>
   simp only [c] at hp
   cases hp
   first | exact h_l_8 c stk | (have q := h_l_8 c stk; simp only [A_cascaderef03_right_8, h.map_cons, h.map_nil, h.mapE_nil, h.len_nil, he_e_api_Value, he_e_api_Pair, he_e_int] at q; first | exact q | (cbv; exact q))
 | true =>
  simp only [c67] at hp ⊢
  cbv
  rw [h.at_, hT]
  cbv
  cases c69 : pidx v2_3 v5 with
  | none => simp only [c69] at hp; cases hp
  | some y73 =>
   obtain ⟨a68_0, a68_1, a68_2, a68_3, a68_4⟩ := y73
   simp only [c69] at hp
   obtain ⟨q1, q2⟩ := h.idx e_api_Value c69
   simp only [he_e_api_Value] at q2
   simp only [q1, Bool.false_eq_true, if_false]
   cbv
   try simp only [q2]
   cbv
   cases c71 : c_cascaderef03_right ⟨a68_0, a68_1, a68_2, a68_3, a68_4⟩ (xar .sub .i64 v1 1) with
   | none => simp only [c71] at hp; cases hp
   | some r70_0 =>
    simp only [c71] at hp
    have qc := fun s => (h_cascaderef03_right c71 s).1
    simp only [qc]
    cbv
    cases r70_0 with
    | false =>
     simp only at hp
     cbv
     cases hp
     all_goals first | rfl | (cbv; done)
    | true =>
     simp only at hp
     cbv
     rw [h.at_, hT]
     cbv
     cases hp
     all_goals first | rfl | (cbv; done)
def b_cascaderef03_right_8 (P : Prims) (c_cascaderef01_Right : Str → Option (Bool)) (c_cascaderef03_right : S_api_Value → Int → Option (Bool)) (l_11 : T_cascaderef03_right_11) (v1 v2_0 v2_1 : Int) (v2_2 : Str) (v2_3 : Ls0) (v2_4 : Ls1) (v6 : Int) : Option ((Int × Int × Int × Str × Ls0 × Ls1 × Int) ⊕ (Bool)) :=
 match P.cmp .lss v6 (P.len v2_4) with
 | false =>
  some (.inr true)
 | true =>
  match P.idx v2_4 v6 with
  | none => none
  | some ⟨a76_0, ⟨a76_1_0, a76_1_1, a76_1_2, a76_1_3, a76_1_4⟩⟩ =>
   match c_cascaderef01_Right a76_0 with
   | none => none
   | some r78_0 =>
    match r78_0 with
    | false =>
     some (.inr false)
    | true =>
     match c_cascaderef03_right ⟨a76_1_0, a76_1_1, a76_1_2, a76_1_3, a76_1_4⟩ (P.ar .sub .i64 v1 1) with
     | none => none
     | some r81_0 =>
      match r81_0 with
      | false =>
       some (.inr false)
      | true =>
       l_11 v1 v2_0 v2_1 v2_2 v2_3 v2_4 v6 0
theorem o_cascaderef03_right_8 (l_11 : T_cascaderef03_right_11) (v1 v2_0 v2_1 : Int) (v2_2 : Str) (v2_3 : Ls0) (v2_4 : Ls1) (v6 : Int)  (h_l_11 : H_cascaderef03_right_11 xat @xmap e_api_Value e_api_Pair m  l_11) {out} (hp : b_cascaderef03_right_8 PP c_cascaderef01_Right c_cascaderef03_right l_11 v1 v2_0 v2_1 v2_2 v2_3 v2_4 v6 = some out) : (A_cascaderef03_right_8 xat @xmap e_api_Value e_api_Pair m  v1 v2_0 v2_1 v2_2 v2_3 v2_4 v6 stk) = (Sum.elim (fun (v1, v2_0, v2_1, v2_2, v2_3, v2_4, v6) => (A_cascaderef03_right_8 xat @xmap e_api_Value e_api_Pair m  v1 v2_0 v2_1 v2_2 v2_3 v2_4 v6 stk)) (O_cascaderef03_right  m  stk)) out := by
 subst hPP
 simp only [b_cascaderef03_right_8] at hp
 unfold A_cascaderef03_right_8
 rw [h.at_, hT]
 cbv
 try simp only [h.len]
 cases c75 : xcmp .lss v6 (plen v2_4) with
 | false =>
  simp only [c75] at hp ⊢
  cbv
  rw [h.at_, hT]
  cbv
  cases hp
  all_goals first | rfl | (cbv; done)
 | true =>
  simp only [c75] at hp ⊢
  cbv
  rw [h.at_, hT]
  cbv
  cases c77 : pidx v2_4 v6 with
  | none => simp only [c77] at hp; cases hp
  | some y84 =>
   obtain ⟨a76_0, ⟨a76_1_0, a76_1_1, a76_1_2, a76_1_3, a76_1_4⟩⟩ := y84
   simp only [c77] at hp
   obtain ⟨q1, q2⟩ := h.idx e_api_Pair c77
   simp only [he_e_api_Pair] at q2
   simp only [q1, Bool.false_eq_true, if_false]
   cbv
   try simp only [q2]
   cbv
   cases c79 : c_cascaderef01_Right a76_0 with
   | none => simp only [c79] at hp; cases hp
   | some r78_0 =>
    simp only [c79] at hp
    have qc := fun s => (h_cascaderef01_Right c79 s).1
    simp only [qc]
    cbv
    cases r78_0 with
    | false =>
     simp only at hp
     cbv
     cases hp
     all_goals first | rfl | (cbv; done)
    | true =>
     simp only at hp
     cbv
     obtain ⟨q1, q2⟩ := h.idx e_api_Pair c77
     simp only [he_e_api_Pair] at q2
     simp only [q1, Bool.false_eq_true, if_false]
     cbv
     try simp only [q2]
     cbv
     cases c82 : c_cascaderef03_right ⟨a76_1_0, a76_1_1, a76_1_2, a76_1_3, a76_1_4⟩ (xar .sub .i64 v1 1) with
     | none => simp only [c82] at hp; cases hp
     | some r81_0 =>
      simp only [c82] at hp
      have qc := fun s => (h_cascaderef03_right c82 s).1
      simp only [qc]
      cbv
      cases r81_0 with
      | false =>
       simp only at hp
       cbv
       cases hp
       all_goals first | rfl | (cbv; done)
      | true =>
       simp only at hp
       cbv
       rw [h.at_, hT]
       cbv
       first | exact h_l_11 hp stk | (have q := h_l_11 hp stk; simp only [A_cascaderef03_right_11, h.map_cons, h.map_nil, h.mapE_nil, h.len_nil, he_e_api_Value, he_e_api_Pair, he_e_int] at q; first | exact q | (cbv; exact q))
def b_cascaderef03_right_11 (P : Prims) (c_cascaderef01_Right : Str → Option (Bool)) (c_cascaderef03_right : S_api_Value → Int → Option (Bool))  (v1 v2_0 v2_1 : Int) (v2_2 : Str) (v2_3 : Ls0) (v2_4 : Ls1) (v6 v7 : Int) : Option ((Int × Int × Int × Str × Ls0 × Ls1 × Int × Int) ⊕ ((Int × Int × Int × Str × Ls0 × Ls1 × Int) ⊕ (Bool))) :=
 match P.cmp .lss v7 v6 with
 | false =>
  some (.inr (.inl (v1, v2_0, v2_1, v2_2, v2_3, v2_4, P.ar .add .i64 v6 1)))
 | true =>
  match P.idx v2_4 v7 with
  | none => none
  | some ⟨a86_0, ⟨a86_1_0, a86_1_1, a86_1_2, a86_1_3, a86_1_4⟩⟩ =>
   match P.idx v2_4 v6 with
   | none => none
   | some ⟨a88_0, ⟨a88_1_0, a88_1_1, a88_1_2, a88_1_3, a88_1_4⟩⟩ =>
    match P.seq a86_0 a88_0 with
    | false =>
     some (.inl (v1, v2_0, v2_1, v2_2, v2_3, v2_4, v6, P.ar .add .i64 v7 1))
    | true =>
     some (.inr (.inr false))
theorem o_cascaderef03_right_11  (v1 v2_0 v2_1 : Int) (v2_2 : Str) (v2_3 : Ls0) (v2_4 : Ls1) (v6 v7 : Int)   {out} (hp : b_cascaderef03_right_11 PP c_cascaderef01_Right c_cascaderef03_right  v1 v2_0 v2_1 v2_2 v2_3 v2_4 v6 v7 = some out) : (A_cascaderef03_right_11 xat @xmap e_api_Value e_api_Pair m  v1 v2_0 v2_1 v2_2 v2_3 v2_4 v6 v7 stk) = (Sum.elim (fun (v1, v2_0, v2_1, v2_2, v2_3, v2_4, v6, v7) => (A_cascaderef03_right_11 xat @xmap e_api_Value e_api_Pair m  v1 v2_0 v2_1 v2_2 v2_3 v2_4 v6 v7 stk)) (Sum.elim (fun (v1, v2_0, v2_1, v2_2, v2_3, v2_4, v6) => (A_cascaderef03_right_8 xat @xmap e_api_Value e_api_Pair m  v1 v2_0 v2_1 v2_2 v2_3 v2_4 v6 stk)) (O_cascaderef03_right  m  stk))) out := by
 subst hPP
 simp only [b_cascaderef03_right_11] at hp
 unfold A_cascaderef03_right_11
 rw [h.at_, hT]
 cbv
 cases c85 : xcmp .lss v7 v6 with
 | false =>
  simp only [c85] at hp ⊢
  cbv
  rw [h.at_, hT]
  cbv
  cases hp
  all_goals first | rfl | (cbv; done)
 | true =>
  simp only [c85] at hp ⊢
  cbv
  rw [h.at_, hT]
  cbv
  cases c87 : pidx v2_4 v7 with
  | none => simp only [c87] at hp; cases hp
  | some y92 =>
   obtain ⟨a86_0, ⟨a86_1_0, a86_1_1, a86_1_2, a86_1_3, a86_1_4⟩⟩ := y92
   simp only [c87] at hp
   obtain ⟨q1, q2⟩ := h.idx e_api_Pair c87
   simp only [he_e_api_Pair] at q2
   simp only [q1, Bool.false_eq_true, if_false]
   cbv
   try simp only [q2]
   cbv
   cases c89 : pidx v2_4 v6 with
   | none => simp only [c89] at hp; cases hp
   | some y91 =>
    obtain ⟨a88_0, ⟨a88_1_0, a88_1_1, a88_1_2, a88_1_3, a88_1_4⟩⟩ := y91
    simp only [c89] at hp
    obtain ⟨q1, q2⟩ := h.idx e_api_Pair c89
    simp only [he_e_api_Pair] at q2
    simp only [q1, Bool.false_eq_true, if_false]
    cbv
    try simp only [q2]
    cbv
    cases c90 : xseq a86_0 a88_0 with
    | false =>
     simp only [c90] at hp ⊢
     cbv
     rw [h.at_, hT]
     cbv
     cases hp
     all_goals first | rfl | (cbv; done)
    | true =>
     simp only [c90] at hp ⊢
     cbv
     cases hp
     all_goals first | rfl | (cbv; done)
end
def b_cascaderef03_Right_0 (P : Prims) (c_cascaderef03_right : S_api_Value → Int → Option (Bool))  (v0_0 v0_1 : Int) (v0_2 : Str) (v0_3 : Ls0) (v0_4 : Ls1) : Option (Bool) :=
 match c_cascaderef03_right ⟨v0_0, v0_1, v0_2, v0_3, v0_4⟩ 12 with
 | none => none
 | some r1_0 =>
  some r1_0
section
variable (c_cascaderef03_right : S_api_Value → Int → Option (Bool)) (h_cascaderef03_right : (C_cascaderef03_right xpcall xfcall @xmap e_api_Value e_api_Pair c_cascaderef03_right)) (stk : Stk) (m : Nat)   
include c_cascaderef03_right h_cascaderef03_right stk m  
theorem o_cascaderef03_Right_0  (v0_0 v0_1 : Int) (v0_2 : Str) (v0_3 : Ls0) (v0_4 : Ls1)   {out} (hp : b_cascaderef03_Right_0 PP c_cascaderef03_right  v0_0 v0_1 v0_2 v0_3 v0_4 = some out) : (A_cascaderef03_Right_0 xat @xmap e_api_Value e_api_Pair m  v0_0 v0_1 v0_2 v0_3 v0_4 stk) = (O_cascaderef03_Right  m  stk) out := by
 subst hPP
 simp only [b_cascaderef03_Right_0] at hp
 unfold A_cascaderef03_Right_0
 rw [h.at_, hT]
 cbv
 cases c2 : c_cascaderef03_right ⟨v0_0, v0_1, v0_2, v0_3, v0_4⟩ 12 with
 | none => simp only [c2] at hp; cases hp
 | some r1_0 =>
  simp only [c2] at hp
  have qc := fun s => (h_cascaderef03_right c2 s).1
  simp only [qc]
  cbv
  cases hp
  all_goals first | rfl | (cbv; done)
end
def b_slices_EqualFunc__api_Value__api_Value_api_Value_api_Value__0_0 (P : Prims) (c_tree_same : S_api_Value → S_api_Value → Option (Bool)) (l_2 : T_slices_EqualFunc__api_Value__api_Value_api_Value_api_Value__0_2) (v0 v1 : Ls0) : Option (Bool) :=
 match P.cmp .neq (P.len v0) (P.len v1) with
 | false =>
  l_2 v1 v0 (P.len v0) 0
 | true =>
  some false
section
variable (c_tree_same : S_api_Value → S_api_Value → Option (Bool)) (h_tree_same : (C_tree_same xpcall xfcall @xmap e_api_Value e_api_Pair c_tree_same)) (stk : Stk) (m : Nat)   
include c_tree_same h_tree_same stk m  
theorem o_slices_EqualFunc__api_Value__api_Value_api_Value_api_Value__0_0 (l_2 : T_slices_EqualFunc__api_Value__api_Value_api_Value_api_Value__0_2) (v0 v1 : Ls0)  (h_l_2 : H_slices_EqualFunc__api_Value__api_Value_api_Value_api_Value__0_2 xat @xmap e_api_Value m  l_2) {out} (hp : b_slices_EqualFunc__api_Value__api_Value_api_Value_api_Value__0_0 PP c_tree_same l_2 v0 v1 = some out) : (A_slices_EqualFunc__api_Value__api_Value_api_Value_api_Value__0_0 xat @xmap e_api_Value m  v0 v1 stk) = (O_slices_EqualFunc__api_Value__api_Value_api_Value_api_Value__0  m  stk) out := by
 subst hPP
 simp only [b_slices_EqualFunc__api_Value__api_Value_api_Value_api_Value__0_0] at hp
 unfold A_slices_EqualFunc__api_Value__api_Value_api_Value_api_Value__0_0
 rw [h.at_, hT]
 cbv
 try simp only [h.len]
 try simp only [h.len]
 cases c1 : xcmp .neq (plen v0) (plen v1) with
 | false =>
  simp only [c1] at hp ⊢
  cbv
  rw [h.at_, hT]
  cbv
  try simp only [h.len]
  first | exact h_l_2 hp stk | (have q := h_l_2 hp stk; simp only [A_slices_EqualFunc__api_Value__api_Value_api_Value_api_Value__0_2, h.map_cons, h.map_nil, h.mapE_nil, h.len_nil, he_e_api_Value, he_e_api_Pair, he_e_int] at q; first | exact q | (cbv; exact q))
 | true =>
  simp only [c1] at hp ⊢
  cbv
  cases hp
  all_goals first | rfl | (cbv; done)
def b_slices_EqualFunc__api_Value__api_Value_api_Value_api_Value__0_2 (P : Prims) (c_tree_same : S_api_Value → S_api_Value → Option (Bool))  (v1 v15 : Ls0) (v16 v17 : Int) : Option ((Ls0 × Ls0 × Int × Int) ⊕ (Bool)) :=
 match P.cmp .lss v17 v16 with
 | false =>
  some (.inr true)
 | true =>
  match P.idx v15 v17 with
  | none => none
  | some ⟨a3_0, a3_1, a3_2, a3_3, a3_4⟩ =>
   match P.idx v1 v17 with
   | none => none
   | some ⟨a5_0, a5_1, a5_2, a5_3, a5_4⟩ =>
    match c_tree_same ⟨a3_0, a3_1, a3_2, a3_3, a3_4⟩ ⟨a5_0, a5_1, a5_2, a5_3, a5_4⟩ with
    | none => none
    | some r7_0 =>
     match r7_0 with
     | false =>
      some (.inr false)
     | true =>
      some (.inl (v1, v15, v16, P.ar .add .i64 v17 1))
theorem o_slices_EqualFunc__api_Value__api_Value_api_Value_api_Value__0_2  (v1 v15 : Ls0) (v16 v17 : Int)   {out} (hp : b_slices_EqualFunc__api_Value__api_Value_api_Value_api_Value__0_2 PP c_tree_same  v1 v15 v16 v17 = some out) : (A_slices_EqualFunc__api_Value__api_Value_api_Value_api_Value__0_2 xat @xmap e_api_Value m  v1 v15 v16 v17 stk) = (Sum.elim (fun (v1, v15, v16, v17) => (A_slices_EqualFunc__api_Value__api_Value_api_Value_api_Value__0_2 xat @xmap e_api_Value m  v1 v15 v16 v17 stk)) (O_slices_EqualFunc__api_Value__api_Value_api_Value_api_Value__0  m  stk)) out := by
 subst hPP
 simp only [b_slices_EqualFunc__api_Value__api_Value_api_Value_api_Value__0_2] at hp
 unfold A_slices_EqualFunc__api_Value__api_Value_api_Value_api_Value__0_2
 rw [h.at_, hT]
 cbv
 cases c2 : xcmp .lss v17 v16 with
 | false =>
  simp only [c2] at hp ⊢
  cbv
  rw [h.at_, hT]
  cbv
  cases hp
  all_goals first | rfl | (cbv; done)
 | true =>
  simp only [c2] at hp ⊢
  cbv
  rw [h.at_, hT]
  cbv
  cases c4 : pidx v15 v17 with
  | none => simp only [c4] at hp; cases hp
  | some y11 =>
   obtain ⟨a3_0, a3_1, a3_2, a3_3, a3_4⟩ := y11
   simp only [c4] at hp
   obtain ⟨q1, q2⟩ := h.idx e_api_Value c4
   simp only [he_e_api_Value] at q2
   simp only [q1, Bool.false_eq_true, if_false]
   cbv
   try simp only [q2]
   cbv
   cases c6 : pidx v1 v17 with
   | none => simp only [c6] at hp; cases hp
   | some y10 =>
    obtain ⟨a5_0, a5_1, a5_2, a5_3, a5_4⟩ := y10
    simp only [c6] at hp
    obtain ⟨q1, q2⟩ := h.idx e_api_Value c6
    simp only [he_e_api_Value] at q2
    simp only [q1, Bool.false_eq_true, if_false]
    cbv
    try simp only [q2]
    cbv
    cases c8 : c_tree_same ⟨a3_0, a3_1, a3_2, a3_3, a3_4⟩ ⟨a5_0, a5_1, a5_2, a5_3, a5_4⟩ with
    | none => simp only [c8] at hp; cases hp
    | some r7_0 =>
     simp only [c8] at hp
     have qc := fun s => (h_tree_same c8 s).1
     simp only [qc]
     cbv
     cases r7_0 with
     | false =>
      simp only at hp
      cbv
      cases hp
      all_goals first | rfl | (cbv; done)
     | true =>
      simp only at hp
      cbv
      rw [h.at_, hT]
      cbv
      cases hp
      all_goals first | rfl | (cbv; done)
end
def b_tree_same_0 (P : Prims) (c_slices_EqualFunc__api_Value__api_Value_api_Value_api_Value__0 : Ls0 → Ls0 → Option (Bool)) (c_slices_EqualFunc__api_Pair__api_Pair_api_Pair_api_Pair__0 : Ls1 → Ls1 → Option (Bool))  (v0_0 v0_1 : Int) (v0_2 : Str) (v0_3 : Ls0) (v0_4 : Ls1) (v1_0 v1_1 : Int) (v1_2 : Str) (v1_3 : Ls0) (v1_4 : Ls1) : Option (Bool) :=
 match P.cmp .eql v0_0 v1_0 with
 | false =>
  some false
 | true =>
  match P.cmp .eql v0_1 v1_1 with
  | false =>
   some false
  | true =>
   match P.seq v0_2 v1_2 with
   | false =>
    some false
   | true =>
    match c_slices_EqualFunc__api_Value__api_Value_api_Value_api_Value__0 v0_3 v1_3 with
    | none => none
    | some r4_0 =>
     match r4_0 with
     | false =>
      some false
     | true =>
      match c_slices_EqualFunc__api_Pair__api_Pair_api_Pair_api_Pair__0 v0_4 v1_4 with
      | none => none
      | some r7_0 =>
       some r7_0
section
variable (c_slices_EqualFunc__api_Value__api_Value_api_Value_api_Value__0 : Ls0 → Ls0 → Option (Bool)) (c_slices_EqualFunc__api_Pair__api_Pair_api_Pair_api_Pair__0 : Ls1 → Ls1 → Option (Bool)) (h_slices_EqualFunc__api_Value__api_Value_api_Value_api_Value__0 : (C_slices_EqualFunc__api_Value__api_Value_api_Value_api_Value__0 xpcall xfcall @xmap e_api_Value c_slices_EqualFunc__api_Value__api_Value_api_Value_api_Value__0)) (h_slices_EqualFunc__api_Pair__api_Pair_api_Pair_api_Pair__0 : (C_slices_EqualFunc__api_Pair__api_Pair_api_Pair_api_Pair__0 xpcall xfcall @xmap e_api_Pair c_slices_EqualFunc__api_Pair__api_Pair_api_Pair_api_Pair__0)) (stk : Stk) (m : Nat)   
include c_slices_EqualFunc__api_Value__api_Value_api_Value_api_Value__0 c_slices_EqualFunc__api_Pair__api_Pair_api_Pair_api_Pair__0 h_slices_EqualFunc__api_Value__api_Value_api_Value_api_Value__0 h_slices_EqualFunc__api_Pair__api_Pair_api_Pair_api_Pair__0 stk m  
theorem o_tree_same_0  (v0_0 v0_1 : Int) (v0_2 : Str) (v0_3 : Ls0) (v0_4 : Ls1) (v1_0 v1_1 : Int) (v1_2 : Str) (v1_3 : Ls0) (v1_4 : Ls1)   {out} (hp : b_tree_same_0 PP c_slices_EqualFunc__api_Value__api_Value_api_Value_api_Value__0 c_slices_EqualFunc__api_Pair__api_Pair_api_Pair_api_Pair__0  v0_0 v0_1 v0_2 v0_3 v0_4 v1_0 v1_1 v1_2 v1_3 v1_4 = some out) : (A_tree_same_0 xat @xmap e_api_Value e_api_Pair m  v0_0 v0_1 v0_2 v0_3 v0_4 v1_0 v1_1 v1_2 v1_3 v1_4 stk) = (O_tree_same  m  stk) out := by
 subst hPP
 simp only [b_tree_same_0] at hp
 unfold A_tree_same_0
 rw [h.at_, hT]
 cbv
 cases c1 : xcmp .eql v0_0 v1_0 with
 | false =>
  simp only [c1] at hp ⊢
  cbv
  cases hp
  all_goals first | rfl | (cbv; done)
 | true =>
  simp only [c1] at hp ⊢
  cbv
  cases c2 : xcmp .eql v0_1 v1_1 with
  | false =>
   simp only [c2] at hp ⊢
   cbv
   cases hp
   all_goals first | rfl | (cbv; done)
  | true =>
   simp only [c2] at hp ⊢
   cbv
   cases c3 : xseq v0_2 v1_2 with
   | false =>
    simp only [c3] at hp ⊢
    cbv
    cases hp
    all_goals first | rfl | (cbv; done)
   | true =>
    simp only [c3] at hp ⊢
    cbv
    cases c5 : c_slices_EqualFunc__api_Value__api_Value_api_Value_api_Value__0 v0_3 v1_3 with
    | none => simp only [c5] at hp; cases hp
    | some r4_0 =>
     simp only [c5] at hp
     have qc := fun s => (h_slices_EqualFunc__api_Value__api_Value_api_Value_api_Value__0 c5 s).1
     simp only [qc]
     cbv
     cases r4_0 with
     | false =>
      simp only at hp
      cbv
      cases hp
      all_goals first | rfl | (cbv; done)
     | true =>
      simp only at hp
      cbv
      cases c8 : c_slices_EqualFunc__api_Pair__api_Pair_api_Pair_api_Pair__0 v0_4 v1_4 with
      | none => simp only [c8] at hp; cases hp
      | some r7_0 =>
       simp only [c8] at hp
       have qc := fun s => (h_slices_EqualFunc__api_Pair__api_Pair_api_Pair_api_Pair__0 c8 s).1
       simp only [qc]
       cbv
       cases hp
       all_goals first | rfl | (cbv; done)
end
def b_slices_EqualFunc__api_Pair__api_Pair_api_Pair_api_Pair__0_0 (P : Prims) (c_tree_same_1 : S_api_Pair → S_api_Pair → Option (Bool)) (l_2 : T_slices_EqualFunc__api_Pair__api_Pair_api_Pair_api_Pair__0_2) (v0 v1 : Ls1) : Option (Bool) :=
 match P.cmp .neq (P.len v0) (P.len v1) with
 | false =>
  l_2 v1 v0 (P.len v0) 0
 | true =>
  some false
section
variable (c_tree_same_1 : S_api_Pair → S_api_Pair → Option (Bool)) (h_tree_same_1 : (C_tree_same_1 xpcall xfcall @xmap e_api_Value e_api_Pair c_tree_same_1)) (stk : Stk) (m : Nat)   
include c_tree_same_1 h_tree_same_1 stk m  
theorem o_slices_EqualFunc__api_Pair__api_Pair_api_Pair_api_Pair__0_0 (l_2 : T_slices_EqualFunc__api_Pair__api_Pair_api_Pair_api_Pair__0_2) (v0 v1 : Ls1)  (h_l_2 : H_slices_EqualFunc__api_Pair__api_Pair_api_Pair_api_Pair__0_2 xat @xmap e_api_Pair m  l_2) {out} (hp : b_slices_EqualFunc__api_Pair__api_Pair_api_Pair_api_Pair__0_0 PP c_tree_same_1 l_2 v0 v1 = some out) : (A_slices_EqualFunc__api_Pair__api_Pair_api_Pair_api_Pair__0_0 xat @xmap e_api_Pair m  v0 v1 stk) = (O_slices_EqualFunc__api_Pair__api_Pair_api_Pair_api_Pair__0  m  stk) out := by
 subst hPP
 simp only [b_slices_EqualFunc__api_Pair__api_Pair_api_Pair_api_Pair__0_0] at hp
 unfold A_slices_EqualFunc__api_Pair__api_Pair_api_Pair_api_Pair__0_0
 rw [h.at_, hT]
 cbv
 try simp only [h.len]
 try simp only [h.len]
 cases c1 : xcmp .neq (plen v0) (plen v1) with
 | false =>
  simp only [c1] at hp ⊢
  cbv
  rw [h.at_, hT]
  cbv
  try simp only [h.len]
  first | exact h_l_2 hp stk | (have q := h_l_2 hp stk; simp only [A_slices_EqualFunc__api_Pair__api_Pair_api_Pair_api_Pair__0_2, h.map_cons, h.map_nil, h.mapE_nil, h.len_nil, he_e_api_Value, he_e_api_Pair, he_e_int] at q; first | exact q | (cbv; exact q))
 | true =>
  simp only [c1] at hp ⊢
  cbv
  cases hp
  all_goals first | rfl | (cbv; done)
def b_slices_EqualFunc__api_Pair__api_Pair_api_Pair_api_Pair__0_2 (P : Prims) (c_tree_same_1 : S_api_Pair → S_api_Pair → Option (Bool))  (v1 v15 : Ls1) (v16 v17 : Int) : Option ((Ls1 × Ls1 × Int × Int) ⊕ (Bool)) :=
 match P.cmp .lss v17 v16 with
 | false =>
  some (.inr true)
 | true =>
  match P.idx v15 v17 with
  | none => none
  | some ⟨a3_0, ⟨a3_1_0, a3_1_1, a3_1_2, a3_1_3, a3_1_4⟩⟩ =>
   match P.idx v1 v17 with
   | none => none
   | some ⟨a5_0, ⟨a5_1_0, a5_1_1, a5_1_2, a5_1_3, a5_1_4⟩⟩ =>
    match c_tree_same_1 ⟨a3_0, ⟨a3_1_0, a3_1_1, a3_1_2, a3_1_3, a3_1_4⟩⟩ ⟨a5_0, ⟨a5_1_0, a5_1_1, a5_1_2, a5_1_3, a5_1_4⟩⟩ with
    | none => none
    | some r7_0 =>
     match r7_0 with
     | false =>
      some (.inr false)
     | true =>
      some (.inl (v1, v15, v16, P.ar .add .i64 v17 1))
theorem o_slices_EqualFunc__api_Pair__api_Pair_api_Pair_api_Pair__0_2  (v1 v15 : Ls1) (v16 v17 : Int)   {out} (hp : b_slices_EqualFunc__api_Pair__api_Pair_api_Pair_api_Pair__0_2 PP c_tree_same_1  v1 v15 v16 v17 = some out) : (A_slices_EqualFunc__api_Pair__api_Pair_api_Pair_api_Pair__0_2 xat @xmap e_api_Pair m  v1 v15 v16 v17 stk) = (Sum.elim (fun (v1, v15, v16, v17) => (A_slices_EqualFunc__api_Pair__api_Pair_api_Pair_api_Pair__0_2 xat @xmap e_api_Pair m  v1 v15 v16 v17 stk)) (O_slices_EqualFunc__api_Pair__api_Pair_api_Pair_api_Pair__0  m  stk)) out := by
 subst hPP
 simp only [b_slices_EqualFunc__api_Pair__api_Pair_api_Pair_api_Pair__0_2] at hp
 unfold A_slices_EqualFunc__api_Pair__api_Pair_api_Pair_api_Pair__0_2
 rw [h.at_, hT]
 cbv
 cases c2 : xcmp .lss v17 v16 with
 | false =>
  simp only [c2] at hp ⊢
  cbv
  rw [h.at_, hT]
  cbv
  cases hp
  all_goals first | rfl | (cbv; done)
 | true =>
  simp only [c2] at hp ⊢
  cbv
  rw [h.at_, hT]
  cbv
  cases c4 : pidx v15 v17 with
  | none => simp only [c4] at hp; cases hp
  | some y11 =>
   obtain ⟨a3_0, ⟨a3_1_0, a3_1_1, a3_1_2, a3_1_3, a3_1_4⟩⟩ := y11
   simp only [c4] at hp
   obtain ⟨q1, q2⟩ := h.idx e_api_Pair c4
   simp only [he_e_api_Pair] at q2
   simp only [q1, Bool.false_eq_true, if_false]
   cbv
   try simp only [q2]
   cbv
   cases c6 : pidx v1 v17 with
   | none => simp only [c6] at hp; cases hp
   | some y10 =>
    obtain ⟨a5_0, ⟨a5_1_0, a5_1_1, a5_1_2, a5_1_3, a5_1_4⟩⟩ := y10
    simp only [c6] at hp
    obtain ⟨q1, q2⟩ := h.idx e_api_Pair c6
    simp only [he_e_api_Pair] at q2
    simp only [q1, Bool.false_eq_true, if_false]
    cbv
    try simp only [q2]
    cbv
    cases c8 : c_tree_same_1 ⟨a3_0, ⟨a3_1_0, a3_1_1, a3_1_2, a3_1_3, a3_1_4⟩⟩ ⟨a5_0, ⟨a5_1_0, a5_1_1, a5_1_2, a5_1_3, a5_1_4⟩⟩ with
    | none => simp only [c8] at hp; cases hp
    | some r7_0 =>
     simp only [c8] at hp
     have qc := fun s => (h_tree_same_1 c8 s).1
     simp only [qc]
     cbv
     cases r7_0 with
     | false =>
      simp only at hp
      cbv
      cases hp
      all_goals first | rfl | (cbv; done)
     | true =>
      simp only at hp
      cbv
      rw [h.at_, hT]
      cbv
      cases hp
      all_goals first | rfl | (cbv; done)
end
def b_tree_same_1_0 (P : Prims) (c_tree_same : S_api_Value → S_api_Value → Option (Bool))  (v0_0 : Str) (v0_1_0 v0_1_1 : Int) (v0_1_2 : Str) (v0_1_3 : Ls0) (v0_1_4 : Ls1) (v1_0 : Str) (v1_1_0 v1_1_1 : Int) (v1_1_2 : Str) (v1_1_3 : Ls0) (v1_1_4 : Ls1) : Option (Bool) :=
 match P.seq v0_0 v1_0 with
 | false =>
  some false
 | true =>
  match c_tree_same ⟨v0_1_0, v0_1_1, v0_1_2, v0_1_3, v0_1_4⟩ ⟨v1_1_0, v1_1_1, v1_1_2, v1_1_3, v1_1_4⟩ with
  | none => none
  | some r2_0 =>
   some r2_0
section
variable (c_tree_same : S_api_Value → S_api_Value → Option (Bool)) (h_tree_same : (C_tree_same xpcall xfcall @xmap e_api_Value e_api_Pair c_tree_same)) (stk : Stk) (m : Nat)   
include c_tree_same h_tree_same stk m  
theorem o_tree_same_1_0  (v0_0 : Str) (v0_1_0 v0_1_1 : Int) (v0_1_2 : Str) (v0_1_3 : Ls0) (v0_1_4 : Ls1) (v1_0 : Str) (v1_1_0 v1_1_1 : Int) (v1_1_2 : Str) (v1_1_3 : Ls0) (v1_1_4 : Ls1)   {out} (hp : b_tree_same_1_0 PP c_tree_same  v0_0 v0_1_0 v0_1_1 v0_1_2 v0_1_3 v0_1_4 v1_0 v1_1_0 v1_1_1 v1_1_2 v1_1_3 v1_1_4 = some out) : (A_tree_same_1_0 xat @xmap e_api_Value e_api_Pair m  v0_0 v0_1_0 v0_1_1 v0_1_2 v0_1_3 v0_1_4 v1_0 v1_1_0 v1_1_1 v1_1_2 v1_1_3 v1_1_4 stk) = (O_tree_same_1  m  stk) out := by
 subst hPP
 simp only [b_tree_same_1_0] at hp
 unfold A_tree_same_1_0
 rw [h.at_, hT]
 cbv
 cases c1 : xseq v0_0 v1_0 with
 | false =>
  simp only [c1] at hp ⊢
  cbv
  cases hp
  all_goals first | rfl | (cbv; done)
 | true =>
  simp only [c1] at hp ⊢
  cbv
  cases c3 : c_tree_same ⟨v0_1_0, v0_1_1, v0_1_2, v0_1_3, v0_1_4⟩ ⟨v1_1_0, v1_1_1, v1_1_2, v1_1_3, v1_1_4⟩ with
  | none => simp only [c3] at hp; cases hp
  | some r2_0 =>
   simp only [c3] at hp
   have qc := fun s => (h_tree_same c3 s).1
   simp only [qc]
   cbv
   cases hp
   all_goals first | rfl | (cbv; done)
end
def b_tree_Same_0 (P : Prims) (c_tree_Right : S_api_Value → Option (Bool)) (c_tree_same : S_api_Value → S_api_Value → Option (Bool))  (v0_0 v0_1 : Int) (v0_2 : Str) (v0_3 : Ls0) (v0_4 : Ls1) (v1_0 v1_1 : Int) (v1_2 : Str) (v1_3 : Ls0) (v1_4 : Ls1) : Option (Bool) :=
 match c_tree_Right ⟨v0_0, v0_1, v0_2, v0_3, v0_4⟩ with
 | none => none
 | some r1_0 =>
  match r1_0 with
  | false =>
   some false
  | true =>
   match c_tree_Right ⟨v1_0, v1_1, v1_2, v1_3, v1_4⟩ with
   | none => none
   | some r4_0 =>
    match r4_0 with
    | false =>
     some false
    | true =>
     match c_tree_same ⟨v0_0, v0_1, v0_2, v0_3, v0_4⟩ ⟨v1_0, v1_1, v1_2, v1_3, v1_4⟩ with
     | none => none
     | some r7_0 =>
      some r7_0
section
variable (c_tree_Right : S_api_Value → Option (Bool)) (c_tree_same : S_api_Value → S_api_Value → Option (Bool)) (h_tree_Right : (C_tree_Right xpcall xfcall @xmap e_api_Value e_api_Pair c_tree_Right)) (h_tree_same : (C_tree_same xpcall xfcall @xmap e_api_Value e_api_Pair c_tree_same)) (stk : Stk) (m : Nat)   
include c_tree_Right c_tree_same h_tree_Right h_tree_same stk m  
theorem o_tree_Same_0  (v0_0 v0_1 : Int) (v0_2 : Str) (v0_3 : Ls0) (v0_4 : Ls1) (v1_0 v1_1 : Int) (v1_2 : Str) (v1_3 : Ls0) (v1_4 : Ls1)   {out} (hp : b_tree_Same_0 PP c_tree_Right c_tree_same  v0_0 v0_1 v0_2 v0_3 v0_4 v1_0 v1_1 v1_2 v1_3 v1_4 = some out) : (A_tree_Same_0 xat @xmap e_api_Value e_api_Pair m  v0_0 v0_1 v0_2 v0_3 v0_4 v1_0 v1_1 v1_2 v1_3 v1_4 stk) = (O_tree_Same  m  stk) out := by
 subst hPP
 simp only [b_tree_Same_0] at hp
 unfold A_tree_Same_0
 rw [h.at_, hT]
 cbv
 cases c2 : c_tree_Right ⟨v0_0, v0_1, v0_2, v0_3, v0_4⟩ with
 | none => simp only [c2] at hp; cases hp
 | some r1_0 =>
  simp only [c2] at hp
  have qc := fun s => (h_tree_Right c2 s).1
  simp only [qc]
  cbv
  cases r1_0 with
  | false =>
   simp only at hp
   cbv
   cases hp
   all_goals first | rfl | (cbv; done)
  | true =>
   simp only at hp
   cbv
   cases c5 : c_tree_Right ⟨v1_0, v1_1, v1_2, v1_3, v1_4⟩ with
   | none => simp only [c5] at hp; cases hp
   | some r4_0 =>
    simp only [c5] at hp
    have qc := fun s => (h_tree_Right c5 s).1
    simp only [qc]
    cbv
    cases r4_0 with
    | false =>
     simp only at hp
     cbv
     cases hp
     all_goals first | rfl | (cbv; done)
    | true =>
     simp only at hp
     cbv
     cases c8 : c_tree_same ⟨v0_0, v0_1, v0_2, v0_3, v0_4⟩ ⟨v1_0, v1_1, v1_2, v1_3, v1_4⟩ with
     | none => simp only [c8] at hp; cases hp
     | some r7_0 =>
      simp only [c8] at hp
      have qc := fun s => (h_tree_same c8 s).1
      simp only [qc]
      cbv
      cases hp
      all_goals first | rfl | (cbv; done)
end
def b_cascaderef03_Same_0 (P : Prims) (c_cascaderef03_Same : S_api_Value → S_api_Value → Option (Bool)) (l_2 : T_cascaderef03_Same_2) (v0_0 v0_1 : Int) (v0_2 : Str) (v0_3 : Ls0) (v0_4 : Ls1) (v1_0 v1_1 : Int) (v1_2 : Str) (v1_3 : Ls0) (v1_4 : Ls1) : Option (Bool) :=
 match P.cmp .neq v0_0 v1_0 with
 | false =>
  match P.cmp .neq v0_1 v1_1 with
  | false =>
   match P.seq v0_2 v1_2 with
   | false =>
    some false
   | true =>
    match P.cmp .neq (P.len v0_3) (P.len v1_3) with
    | false =>
     match P.cmp .neq (P.len v0_4) (P.len v1_4) with
     | false =>
      l_2 v0_0 v0_1 v0_2 v0_3 v0_4 v1_0 v1_1 v1_2 v1_3 v1_4 0
     | true =>
      some false
    | true =>
     some false
  | true =>
   some false
 | true =>
  some false
section
variable (c_cascaderef03_Same : S_api_Value → S_api_Value → Option (Bool)) (h_cascaderef03_Same : (C_cascaderef03_Same xpcall xfcall @xmap e_api_Value e_api_Pair c_cascaderef03_Same)) (stk : Stk) (m : Nat)   
include c_cascaderef03_Same h_cascaderef03_Same stk m  
theorem o_cascaderef03_Same_0 (l_2 : T_cascaderef03_Same_2) (v0_0 v0_1 : Int) (v0_2 : Str) (v0_3 : Ls0) (v0_4 : Ls1) (v1_0 v1_1 : Int) (v1_2 : Str) (v1_3 : Ls0) (v1_4 : Ls1)  (h_l_2 : H_cascaderef03_Same_2 xat @xmap e_api_Value e_api_Pair m  l_2) {out} (hp : b_cascaderef03_Same_0 PP c_cascaderef03_Same l_2 v0_0 v0_1 v0_2 v0_3 v0_4 v1_0 v1_1 v1_2 v1_3 v1_4 = some out) : (A_cascaderef03_Same_0 xat @xmap e_api_Value e_api_Pair m  v0_0 v0_1 v0_2 v0_3 v0_4 v1_0 v1_1 v1_2 v1_3 v1_4 stk) = (O_cascaderef03_Same  m  stk) out := by
 subst hPP
 simp only [b_cascaderef03_Same_0] at hp
 unfold A_cascaderef03_Same_0
 rw [h.at_, hT]
 cbv
 cases c1 : xcmp .neq v0_0 v1_0 with
 | false =>
  simp only [c1] at hp ⊢
  cbv
  cases c2 : xcmp .neq v0_1 v1_1 with
  | false =>
   simp only [c2] at hp ⊢
   cbv
   cases c3 : xseq v0_2 v1_2 with
   | false =>
    simp only [c3] at hp ⊢
    cbv
    cases hp
    all_goals first | rfl | (cbv; done)
   | true =>
    simp only [c3] at hp ⊢
    cbv
    try simp only [h.len]
    try simp only [h.len]
    cases c4 : xcmp .neq (plen v0_3) (plen v1_3) with
    | false =>
     simp only [c4] at hp ⊢
     cbv
     try simp only [h.len]
     try simp only [h.len]
     cases c5 : xcmp .neq (plen v0_4) (plen v1_4) with
     | false =>
      simp only [c5] at hp ⊢
      cbv
      rw [h.at_, hT]
      cbv
      first | exact h_l_2 hp stk | (have q := h_l_2 hp stk; simp only [A_cascaderef03_Same_2, h.map_cons, h.map_nil, h.mapE_nil, h.len_nil, he_e_api_Value, he_e_api_Pair, he_e_int] at q; first | exact q | (cbv; exact q))
     | true =>
      simp only [c5] at hp ⊢
      cbv
      cases hp
      all_goals first | rfl | (cbv; done)
    | true =>
     simp only [c4] at hp ⊢
     cbv
     cases hp
     all_goals first | rfl | (cbv; done)
  | true =>
   simp only [c2] at hp ⊢
   cbv
   cases hp
   all_goals first | rfl | (cbv; done)
 | true =>
  simp only [c1] at hp ⊢
  cbv
  cases hp
  all_goals first | rfl | (cbv; done)
def b_cascaderef03_Same_2 (P : Prims) (c_cascaderef03_Same : S_api_Value → S_api_Value → Option (Bool)) (l_6 : T_cascaderef03_Same_6) (v2_0 v2_1 : Int) (v2_2 : Str) (v2_3 : Ls0) (v2_4 : Ls1) (v3_0 v3_1 : Int) (v3_2 : Str) (v3_3 : Ls0) (v3_4 : Ls1) (v5 : Int) : Option ((Int × Int × Str × Ls0 × Ls1 × Int × Int × Str × Ls0 × Ls1 × Int) ⊕ (Bool)) :=
 match P.cmp .lss v5 (P.len v2_3) with
 | false =>
  match l_6 v2_0 v2_1 v2_2 v2_3 v2_4 v3_0 v3_1 v3_2 v3_3 v3_4 0 with | none => none | some o16 => some (.inr o16)
 | true =>
  match P.idx v2_3 v5 with
  | none => none
  | some ⟨a7_0, a7_1, a7_2, a7_3, a7_4⟩ =>
   match P.idx v3_3 v5 with
   | none => none
   | some ⟨a9_0, a9_1, a9_2, a9_3, a9_4⟩ =>
    match c_cascaderef03_Same ⟨a7_0, a7_1, a7_2, a7_3, a7_4⟩ ⟨a9_0, a9_1, a9_2, a9_3, a9_4⟩ with
    | none => none
    | some r11_0 =>
     match r11_0 with
     | false =>
      some (.inr false)
     | true =>
      some (.inl (v2_0, v2_1, v2_2, v2_3, v2_4, v3_0, v3_1, v3_2, v3_3, v3_4, P.ar .add .i64 v5 1))
theorem o_cascaderef03_Same_2 (l_6 : T_cascaderef03_Same_6) (v2_0 v2_1 : Int) (v2_2 : Str) (v2_3 : Ls0) (v2_4 : Ls1) (v3_0 v3_1 : Int) (v3_2 : Str) (v3_3 : Ls0) (v3_4 : Ls1) (v5 : Int)  (h_l_6 : H_cascaderef03_Same_6 xat @xmap e_api_Value e_api_Pair m  l_6) {out} (hp : b_cascaderef03_Same_2 PP c_cascaderef03_Same l_6 v2_0 v2_1 v2_2 v2_3 v2_4 v3_0 v3_1 v3_2 v3_3 v3_4 v5 = some out) : (A_cascaderef03_Same_2 xat @xmap e_api_Value e_api_Pair m  v2_0 v2_1 v2_2 v2_3 v2_4 v3_0 v3_1 v3_2 v3_3 v3_4 v5 stk) = (Sum.elim (fun (v2_0, v2_1, v2_2, v2_3, v2_4, v3_0, v3_1, v3_2, v3_3, v3_4, v5) => (A_cascaderef03_Same_2 xat @xmap e_api_Value e_api_Pair m  v2_0 v2_1 v2_2 v2_3 v2_4 v3_0 v3_1 v3_2 v3_3 v3_4 v5 stk)) (O_cascaderef03_Same  m  stk)) out := by
 subst hPP
 simp only [b_cascaderef03_Same_2] at hp
 unfold A_cascaderef03_Same_2
 rw [h.at_, hT]
 cbv
 try simp only [h.len]
 cases c6 : xcmp .lss v5 (plen v2_3) with
 | false =>
  simp only [c6] at hp ⊢
  cbv
  rw [h.at_, hT]
  cbv
  cases c : l_6 v2_0 v2_1 v2_2 v2_3 v2_4 v3_0 v3_1 v3_2 v3_3 v3_4 0 with
  | none => simp only [c] at hp; cases hp
  | some o16 =>
   simp only [c] at hp
   cases hp
   first | exact h_l_6 c stk | (have q := h_l_6 c stk; simp only [A_cascaderef03_Same_6, h.map_cons, h.map_nil, h.mapE_nil, h.len_nil, he_e_api_Value, he_e_api_Pair, he_e_int] at q; first | exact q | (cbv; exact q))
 | true =>
  simp only [c6] at hp ⊢
  cbv
  rw [h.at_, hT]
  cbv
  cases c8 : pidx v2_3 v5 with
  | none => simp only [c8] at hp; cases hp
  | some y15 =>
   obtain ⟨a7_0, a7_1, a7_2, a7_3, a7_4⟩ := y15
   simp only [c8] at hp
   obtain ⟨q1, q2⟩ := h.idx e_api_Value c8
   simp only [he_e_api_Value] at q2
   simp only [q1, Bool.false_eq_true, if_false]
   cbv
   try simp only [q2]
   cbv
   cases c10 : pidx v3_3 v5 with
   | none => simp only [c10] at hp; cases hp
   | some y14 =>
    obtain ⟨a9_0, a9_1, a9_2, a9_3, a9_4⟩ := y14
    simp only [c10] at hp
    obtain ⟨q1, q2⟩ := h.idx e_api_Value c10
    simp only [he_e_api_Value] at q2
    simp only [q1, Bool.false_eq_true, if_false]
    cbv
    try simp only [q2]
    cbv
    cases c12 : c_cascaderef03_Same ⟨a7_0, a7_1, a7_2, a7_3, a7_4⟩ ⟨a9_0, a9_1, a9_2, a9_3, a9_4⟩ with
    | none => simp only [c12] at hp; cases hp
    | some r11_0 =>
     simp only [c12] at hp
     have qc := fun s => (h_cascaderef03_Same c12 s).1
     simp only [qc]
     cbv
     cases r11_0 with
     | false =>
      simp only at hp
      cbv
      cases hp
      all_goals first | rfl | (cbv; done)
     | true =>
      simp only at hp
      cbv
      rw [h.at_, hT]
      cbv
      cases hp
      all_goals first | rfl | (cbv; done)
def b_cascaderef03_Same_6 (P : Prims) (c_cascaderef03_Same : S_api_Value → S_api_Value → Option (Bool))  (v2_0 v2_1 : Int) (v2_2 : Str) (v2_3 : Ls0) (v2_4 : Ls1) (v3_0 v3_1 : Int) (v3_2 : Str) (v3_3 : Ls0) (v3_4 : Ls1) (v6 : Int) : Option ((Int × Int × Str × Ls0 × Ls1 × Int × Int × Str × Ls0 × Ls1 × Int) ⊕ (Bool)) :=
 match P.cmp .lss v6 (P.len v2_4) with
 | false =>
  some (.inr true)
 | true =>
  match P.idx v2_4 v6 with
  | none => none
  | some ⟨a18_0, ⟨a18_1_0, a18_1_1, a18_1_2, a18_1_3, a18_1_4⟩⟩ =>
   match P.idx v3_4 v6 with
   | none => none
   | some ⟨a20_0, ⟨a20_1_0, a20_1_1, a20_1_2, a20_1_3, a20_1_4⟩⟩ =>
    match P.seq a18_0 a20_0 with
    | false =>
     some (.inr false)
    | true =>
     match c_cascaderef03_Same ⟨a18_1_0, a18_1_1, a18_1_2, a18_1_3, a18_1_4⟩ ⟨a20_1_0, a20_1_1, a20_1_2, a20_1_3, a20_1_4⟩ with
     | none => none
     | some r23_0 =>
      match r23_0 with
      | false =>
       some (.inr false)
      | true =>
       some (.inl (v2_0, v2_1, v2_2, v2_3, v2_4, v3_0, v3_1, v3_2, v3_3, v3_4, P.ar .add .i64 v6 1))
theorem o_cascaderef03_Same_6  (v2_0 v2_1 : Int) (v2_2 : Str) (v2_3 : Ls0) (v2_4 : Ls1) (v3_0 v3_1 : Int) (v3_2 : Str) (v3_3 : Ls0) (v3_4 : Ls1) (v6 : Int)   {out} (hp : b_cascaderef03_Same_6 PP c_cascaderef03_Same  v2_0 v2_1 v2_2 v2_3 v2_4 v3_0 v3_1 v3_2 v3_3 v3_4 v6 = some out) : (A_cascaderef03_Same_6 xat @xmap e_api_Value e_api_Pair m  v2_0 v2_1 v2_2 v2_3 v2_4 v3_0 v3_1 v3_2 v3_3 v3_4 v6 stk) = (Sum.elim (fun (v2_0, v2_1, v2_2, v2_3, v2_4, v3_0, v3_1, v3_2, v3_3, v3_4, v6) => (A_cascaderef03_Same_6 xat @xmap e_api_Value e_api_Pair m  v2_0 v2_1 v2_2 v2_3 v2_4 v3_0 v3_1 v3_2 v3_3 v3_4 v6 stk)) (O_cascaderef03_Same  m  stk)) out := by
 subst hPP
 simp only [b_cascaderef03_Same_6] at hp
 unfold A_cascaderef03_Same_6
 rw [h.at_, hT]
 cbv
 try simp only [h.len]
 cases c17 : xcmp .lss v6 (plen v2_4) with
 | false =>
  simp only [c17] at hp ⊢
  cbv
  rw [h.at_, hT]
  cbv
  cases hp
  all_goals first | rfl | (cbv; done)
 | true =>
  simp only [c17] at hp ⊢
  cbv
  rw [h.at_, hT]
  cbv
  cases c19 : pidx v2_4 v6 with
  | none => simp only [c19] at hp; cases hp
  | some y27 =>
   obtain ⟨a18_0, ⟨a18_1_0, a18_1_1, a18_1_2, a18_1_3, a18_1_4⟩⟩ := y27
   simp only [c19] at hp
   obtain ⟨q1, q2⟩ := h.idx e_api_Pair c19
   simp only [he_e_api_Pair] at q2
   simp only [q1, Bool.false_eq_true, if_false]
   cbv
   try simp only [q2]
   cbv
   cases c21 : pidx v3_4 v6 with
   | none => simp only [c21] at hp; cases hp
   | some y26 =>
    obtain ⟨a20_0, ⟨a20_1_0, a20_1_1, a20_1_2, a20_1_3, a20_1_4⟩⟩ := y26
    simp only [c21] at hp
    obtain ⟨q1, q2⟩ := h.idx e_api_Pair c21
    simp only [he_e_api_Pair] at q2
    simp only [q1, Bool.false_eq_true, if_false]
    cbv
    try simp only [q2]
    cbv
    cases c22 : xseq a18_0 a20_0 with
    | false =>
     simp only [c22] at hp ⊢
     cbv
     cases hp
     all_goals first | rfl | (cbv; done)
    | true =>
     simp only [c22] at hp ⊢
     cbv
     obtain ⟨q1, q2⟩ := h.idx e_api_Pair c19
     simp only [he_e_api_Pair] at q2
     simp only [q1, Bool.false_eq_true, if_false]
     cbv
     try simp only [q2]
     cbv
     obtain ⟨q1, q2⟩ := h.idx e_api_Pair c21
     simp only [he_e_api_Pair] at q2
     simp only [q1, Bool.false_eq_true, if_false]
     cbv
     try simp only [q2]
     cbv
     cases c24 : c_cascaderef03_Same ⟨a18_1_0, a18_1_1, a18_1_2, a18_1_3, a18_1_4⟩ ⟨a20_1_0, a20_1_1, a20_1_2, a20_1_3, a20_1_4⟩ with
     | none => simp only [c24] at hp; cases hp
     | some r23_0 =>
      simp only [c24] at hp
      have qc := fun s => (h_cascaderef03_Same c24 s).1
      simp only [qc]
      cbv
      cases r23_0 with
      | false =>
       simp only at hp
       cbv
       cases hp
       all_goals first | rfl | (cbv; done)
      | true =>
       simp only at hp
       cbv
       rw [h.at_, hT]
       cbv
       cases hp
       all_goals first | rfl | (cbv; done)
end
def b_tree_get_0 (P : Prims)  (l_1 : T_tree_get_1) (v0_0 v0_1 : Int) (v0_2 : Str) (v0_3 : Ls0) (v0_4 : Ls1) (v1 : Str) : Option (S_api_Value × Bool) :=
 l_1 v1 v0_4 (P.len v0_4) 0 0 0 [] [] []
section
variable   (stk : Stk) (m : Nat)   
include   stk m  
theorem o_tree_get_0 (l_1 : T_tree_get_1) (v0_0 v0_1 : Int) (v0_2 : Str) (v0_3 : Ls0) (v0_4 : Ls1) (v1 : Str)  (h_l_1 : H_tree_get_1 xat @xmap e_api_Value e_api_Pair m  l_1) {out} (hp : b_tree_get_0 PP  l_1 v0_0 v0_1 v0_2 v0_3 v0_4 v1 = some out) : (A_tree_get_0 xat @xmap e_api_Value e_api_Pair m  v0_0 v0_1 v0_2 v0_3 v0_4 v1 stk) = (O_tree_get @xmap e_api_Value e_api_Pair m  stk) out := by
 subst hPP
 simp only [b_tree_get_0] at hp
 unfold A_tree_get_0
 rw [h.at_, hT]
 cbv
 try simp only [h.len]
 first | exact h_l_1 hp stk | (have q := h_l_1 hp stk; simp only [A_tree_get_1, h.map_cons, h.map_nil, h.mapE_nil, h.len_nil, he_e_api_Value, he_e_api_Pair, he_e_int] at q; first | exact q | (cbv; exact q))
def b_tree_get_1 (P : Prims)   (v1 : Str) (v9 : Ls1) (v10 v11 o4_0 o4_1 : Int) (o4_2 : Str) (o4_3 : Ls0) (o4_4 : Ls1) : Option ((Str × Ls1 × Int × Int × Int × Int × Str × Ls0 × Ls1) ⊕ (S_api_Value × Bool)) :=
 match P.cmp .lss v11 v10 with
 | false =>
  some (.inr (⟨0, 0, [], [], []⟩, false))
 | true =>
  match P.idx v9 v11 with
  | none => none
  | some ⟨a2_0, ⟨a2_1_0, a2_1_1, a2_1_2, a2_1_3, a2_1_4⟩⟩ =>
   match P.seq a2_0 v1 with
   | false =>
    some (.inl (v1, v9, v10, P.ar .add .i64 v11 1, o4_0, o4_1, o4_2, o4_3, o4_4))
   | true =>
    some (.inr (⟨a2_1_0, a2_1_1, a2_1_2, a2_1_3, a2_1_4⟩, true))
theorem o_tree_get_1  (v1 : Str) (v9 : Ls1) (v10 v11 o4_0 o4_1 : Int) (o4_2 : Str) (o4_3 : Ls0) (o4_4 : Ls1)   {out} (hp : b_tree_get_1 PP   v1 v9 v10 v11 o4_0 o4_1 o4_2 o4_3 o4_4 = some out) : (A_tree_get_1 xat @xmap e_api_Value e_api_Pair m  v1 v9 v10 v11 o4_0 o4_1 o4_2 o4_3 o4_4 stk) = (Sum.elim (fun (v1, v9, v10, v11, o4_0, o4_1, o4_2, o4_3, o4_4) => (A_tree_get_1 xat @xmap e_api_Value e_api_Pair m  v1 v9 v10 v11 o4_0 o4_1 o4_2 o4_3 o4_4 stk)) (O_tree_get @xmap e_api_Value e_api_Pair m  stk)) out := by
 subst hPP
 simp only [b_tree_get_1] at hp
 unfold A_tree_get_1
 rw [h.at_, hT]
 cbv
 cases c1 : xcmp .lss v11 v10 with
 | false =>
  simp only [c1] at hp ⊢
  cbv
  rw [h.at_, hT]
  cbv
  cases hp
  all_goals first | rfl | (cbv; done) | (simp only [h.nadd0, h.nle_refl, h.cut_all, h.cut_nil, h.map_cons, h.map_nil, h.mapE_nil, h.len_nil, he_e_api_Value, he_e_api_Pair, he_e_int, O_tree_get, A_tree_get_1, if_true]; first | done | rfl | (cbv; done) | (cbv; simp only [h.map_cons, h.map_nil, h.mapE_nil, h.len_nil, he_e_api_Value, he_e_api_Pair, he_e_int, O_tree_get, A_tree_get_1]; done))
 | true =>
  simp only [c1] at hp ⊢
  cbv
  rw [h.at_, hT]
  cbv
  cases c3 : pidx v9 v11 with
  | none => simp only [c3] at hp; cases hp
  | some y5 =>
   obtain ⟨a2_0, ⟨a2_1_0, a2_1_1, a2_1_2, a2_1_3, a2_1_4⟩⟩ := y5
   simp only [c3] at hp
   obtain ⟨q1, q2⟩ := h.idx e_api_Pair c3
   simp only [he_e_api_Pair] at q2
   simp only [q1, Bool.false_eq_true, if_false]
   cbv
   try simp only [q2]
   cbv
   cases c4 : xseq a2_0 v1 with
   | false =>
    simp only [c4] at hp ⊢
    cbv
    rw [h.at_, hT]
    cbv
    cases hp
    all_goals first | rfl | (cbv; done)
   | true =>
    simp only [c4] at hp ⊢
    cbv
    cases hp
    all_goals first | rfl | (cbv; done)
end
def b_slices_EqualFunc__api_Value__api_Value_api_Value_api_Value__1_0 (P : Prims) (c_tree_alike : S_api_Value → S_api_Value → Option (Bool)) (l_2 : T_slices_EqualFunc__api_Value__api_Value_api_Value_api_Value__1_2) (v0 v1 : Ls0) : Option (Bool) :=
 match P.cmp .neq (P.len v0) (P.len v1) with
 | false =>
  l_2 v1 v0 (P.len v0) 0
 | true =>
  some false
section
variable (c_tree_alike : S_api_Value → S_api_Value → Option (Bool)) (h_tree_alike : (C_tree_alike xpcall xfcall @xmap e_api_Value e_api_Pair c_tree_alike)) (stk : Stk) (m : Nat)   
include c_tree_alike h_tree_alike stk m  
theorem o_slices_EqualFunc__api_Value__api_Value_api_Value_api_Value__1_0 (l_2 : T_slices_EqualFunc__api_Value__api_Value_api_Value_api_Value__1_2) (v0 v1 : Ls0)  (h_l_2 : H_slices_EqualFunc__api_Value__api_Value_api_Value_api_Value__1_2 xat @xmap e_api_Value m  l_2) {out} (hp : b_slices_EqualFunc__api_Value__api_Value_api_Value_api_Value__1_0 PP c_tree_alike l_2 v0 v1 = some out) : (A_slices_EqualFunc__api_Value__api_Value_api_Value_api_Value__1_0 xat @xmap e_api_Value m  v0 v1 stk) = (O_slices_EqualFunc__api_Value__api_Value_api_Value_api_Value__1  m  stk) out := by
 subst hPP
 simp only [b_slices_EqualFunc__api_Value__api_Value_api_Value_api_Value__1_0] at hp
 unfold A_slices_EqualFunc__api_Value__api_Value_api_Value_api_Value__1_0
 rw [h.at_, hT]
 cbv
 try simp only [h.len]
 try simp only [h.len]
 cases c1 : xcmp .neq (plen v0) (plen v1) with
 | false =>
  simp only [c1] at hp ⊢
  cbv
  rw [h.at_, hT]
  cbv
  try simp only [h.len]
  first | exact h_l_2 hp stk | (have q := h_l_2 hp stk; simp only [A_slices_EqualFunc__api_Value__api_Value_api_Value_api_Value__1_2, h.map_cons, h.map_nil, h.mapE_nil, h.len_nil, he_e_api_Value, he_e_api_Pair, he_e_int] at q; first | exact q | (cbv; exact q))
 | true =>
  simp only [c1] at hp ⊢
  cbv
  cases hp
  all_goals first | rfl | (cbv; done)
def b_slices_EqualFunc__api_Value__api_Value_api_Value_api_Value__1_2 (P : Prims) (c_tree_alike : S_api_Value → S_api_Value → Option (Bool))  (v1 v15 : Ls0) (v16 v17 : Int) : Option ((Ls0 × Ls0 × Int × Int) ⊕ (Bool)) :=
 match P.cmp .lss v17 v16 with
 | false =>
  some (.inr true)
 | true =>
  match P.idx v15 v17 with
  | none => none
  | some ⟨a3_0, a3_1, a3_2, a3_3, a3_4⟩ =>
   match P.idx v1 v17 with
   | none => none
   | some ⟨a5_0, a5_1, a5_2, a5_3, a5_4⟩ =>
    match c_tree_alike ⟨a3_0, a3_1, a3_2, a3_3, a3_4⟩ ⟨a5_0, a5_1, a5_2, a5_3, a5_4⟩ with
    | none => none
    | some r7_0 =>
     match r7_0 with
     | false =>
      some (.inr false)
     | true =>
      some (.inl (v1, v15, v16, P.ar .add .i64 v17 1))
theorem o_slices_EqualFunc__api_Value__api_Value_api_Value_api_Value__1_2  (v1 v15 : Ls0) (v16 v17 : Int)   {out} (hp : b_slices_EqualFunc__api_Value__api_Value_api_Value_api_Value__1_2 PP c_tree_alike  v1 v15 v16 v17 = some out) : (A_slices_EqualFunc__api_Value__api_Value_api_Value_api_Value__1_2 xat @xmap e_api_Value m  v1 v15 v16 v17 stk) = (Sum.elim (fun (v1, v15, v16, v17) => (A_slices_EqualFunc__api_Value__api_Value_api_Value_api_Value__1_2 xat @xmap e_api_Value m  v1 v15 v16 v17 stk)) (O_slices_EqualFunc__api_Value__api_Value_api_Value_api_Value__1  m  stk)) out := by
 subst hPP
 simp only [b_slices_EqualFunc__api_Value__api_Value_api_Value_api_Value__1_2] at hp
 unfold A_slices_EqualFunc__api_Value__api_Value_api_Value_api_Value__1_2
 rw [h.at_, hT]
 cbv
 cases c2 : xcmp .lss v17 v16 with
 | false =>
  simp only [c2] at hp ⊢
  cbv
  rw [h.at_, hT]
  cbv
  cases hp
  all_goals first | rfl | (cbv; done)
 | true =>
  simp only [c2] at hp ⊢
  cbv
  rw [h.at_, hT]
  cbv
  cases c4 : pidx v15 v17 with
  | none => simp only [c4] at hp; cases hp
  | some y11 =>
   obtain ⟨a3_0, a3_1, a3_2, a3_3, a3_4⟩ := y11
   simp only [c4] at hp
   obtain ⟨q1, q2⟩ := h.idx e_api_Value c4
   simp only [he_e_api_Value] at q2
   simp only [q1, Bool.false_eq_true, if_false]
   cbv
   try simp only [q2]
   cbv
   cases c6 : pidx v1 v17 with
   | none => simp only [c6] at hp; cases hp
   | some y10 =>
    obtain ⟨a5_0, a5_1, a5_2, a5_3, a5_4⟩ := y10
    simp only [c6] at hp
    obtain ⟨q1, q2⟩ := h.idx e_api_Value c6
    simp only [he_e_api_Value] at q2
    simp only [q1, Bool.false_eq_true, if_false]
    cbv
    try simp only [q2]
    cbv
    cases c8 : c_tree_alike ⟨a3_0, a3_1, a3_2, a3_3, a3_4⟩ ⟨a5_0, a5_1, a5_2, a5_3, a5_4⟩ with
    | none => simp only [c8] at hp; cases hp
    | some r7_0 =>
     simp only [c8] at hp
     have qc := fun s => (h_tree_alike c8 s).1
     simp only [qc]
     cbv
     cases r7_0 with
     | false =>
      simp only at hp
      cbv
      cases hp
      all_goals first | rfl | (cbv; done)
     | true =>
      simp only at hp
      cbv
      rw [h.at_, hT]
      cbv
      cases hp
      all_goals first | rfl | (cbv; done)
end
def b_tree_alike_0 (P : Prims) (c_slices_EqualFunc__api_Value__api_Value_api_Value_api_Value__1 : Ls0 → Ls0 → Option (Bool)) (c_tree_get : S_api_Value → Str → Option (S_api_Value × Bool)) (c_tree_alike : S_api_Value → S_api_Value → Option (Bool)) (l_2 : T_tree_alike_2) (v0_0 v0_1 : Int) (v0_2 : Str) (v0_3 : Ls0) (v0_4 : Ls1) (v1_0 v1_1 : Int) (v1_2 : Str) (v1_3 : Ls0) (v1_4 : Ls1) : Option (Bool) :=
 match P.cmp .neq v0_0 v1_0 with
 | false =>
  match P.cmp .neq v0_1 v1_1 with
  | false =>
   match P.seq v0_2 v1_2 with
   | false =>
    some false
   | true =>
    match P.cmp .neq (P.len v0_4) (P.len v1_4) with
    | false =>
     match c_slices_EqualFunc__api_Value__api_Value_api_Value_api_Value__1 v0_3 v1_3 with
     | none => none
     | some r5_0 =>
      match r5_0 with
      | false =>
       some false
      | true =>
       l_2 v1_0 v1_1 v1_2 v1_3 v1_4 v0_4 (P.len v0_4) 0
    | true =>
     some false
  | true =>
   some false
 | true =>
  some false
section
variable (c_slices_EqualFunc__api_Value__api_Value_api_Value_api_Value__1 : Ls0 → Ls0 → Option (Bool)) (c_tree_get : S_api_Value → Str → Option (S_api_Value × Bool)) (c_tree_alike : S_api_Value → S_api_Value → Option (Bool)) (h_slices_EqualFunc__api_Value__api_Value_api_Value_api_Value__1 : (C_slices_EqualFunc__api_Value__api_Value_api_Value_api_Value__1 xpcall xfcall @xmap e_api_Value c_slices_EqualFunc__api_Value__api_Value_api_Value_api_Value__1)) (h_tree_get : (C_tree_get xpcall xfcall @xmap e_api_Value e_api_Pair c_tree_get)) (h_tree_alike : (C_tree_alike xpcall xfcall @xmap e_api_Value e_api_Pair c_tree_alike)) (stk : Stk) (m : Nat)   
include c_slices_EqualFunc__api_Value__api_Value_api_Value_api_Value__1 c_tree_get c_tree_alike h_slices_EqualFunc__api_Value__api_Value_api_Value_api_Value__1 h_tree_get h_tree_alike stk m  
theorem o_tree_alike_0 (l_2 : T_tree_alike_2) (v0_0 v0_1 : Int) (v0_2 : Str) (v0_3 : Ls0) (v0_4 : Ls1) (v1_0 v1_1 : Int) (v1_2 : Str) (v1_3 : Ls0) (v1_4 : Ls1)  (h_l_2 : H_tree_alike_2 xat @xmap e_api_Value e_api_Pair m  l_2) {out} (hp : b_tree_alike_0 PP c_slices_EqualFunc__api_Value__api_Value_api_Value_api_Value__1 c_tree_get c_tree_alike l_2 v0_0 v0_1 v0_2 v0_3 v0_4 v1_0 v1_1 v1_2 v1_3 v1_4 = some out) : (A_tree_alike_0 xat @xmap e_api_Value e_api_Pair m  v0_0 v0_1 v0_2 v0_3 v0_4 v1_0 v1_1 v1_2 v1_3 v1_4 stk) = (O_tree_alike  m  stk) out := by
 subst hPP
 simp only [b_tree_alike_0] at hp
 unfold A_tree_alike_0
 rw [h.at_, hT]
 cbv
 cases c1 : xcmp .neq v0_0 v1_0 with
 | false =>
  simp only [c1] at hp ⊢
  cbv
  cases c2 : xcmp .neq v0_1 v1_1 with
  | false =>
   simp only [c2] at hp ⊢
   cbv
   cases c3 : xseq v0_2 v1_2 with
   | false =>
    simp only [c3] at hp ⊢
    cbv
    cases hp
    all_goals first | rfl | (cbv; done)
   | true =>
    simp only [c3] at hp ⊢
    cbv
    try simp only [h.len]
    try simp only [h.len]
    cases c4 : xcmp .neq (plen v0_4) (plen v1_4) with
    | false =>
     simp only [c4] at hp ⊢
     cbv
     cases c6 : c_slices_EqualFunc__api_Value__api_Value_api_Value_api_Value__1 v0_3 v1_3 with
     | none => simp only [c6] at hp; cases hp
     | some r5_0 =>
      simp only [c6] at hp
      have qc := fun s => (h_slices_EqualFunc__api_Value__api_Value_api_Value_api_Value__1 c6 s).1
      simp only [qc]
      cbv
      cases r5_0 with
      | false =>
       simp only at hp
       cbv
       cases hp
       all_goals first | rfl | (cbv; done)
      | true =>
       simp only at hp
       cbv
       rw [h.at_, hT]
       cbv
       try simp only [h.len]
       first | exact h_l_2 hp stk | (have q := h_l_2 hp stk; simp only [A_tree_alike_2, h.map_cons, h.map_nil, h.mapE_nil, h.len_nil, he_e_api_Value, he_e_api_Pair, he_e_int] at q; first | exact q | (cbv; exact q))
    | true =>
     simp only [c4] at hp ⊢
     cbv
     cases hp
     all_goals first | rfl | (cbv; done)
  | true =>
   simp only [c2] at hp ⊢
   cbv
   cases hp
   all_goals first | rfl | (cbv; done)
 | true =>
  simp only [c1] at hp ⊢
  cbv
  cases hp
  all_goals first | rfl | (cbv; done)
def b_tree_alike_2 (P : Prims) (c_slices_EqualFunc__api_Value__api_Value_api_Value_api_Value__1 : Ls0 → Ls0 → Option (Bool)) (c_tree_get : S_api_Value → Str → Option (S_api_Value × Bool)) (c_tree_alike : S_api_Value → S_api_Value → Option (Bool))  (v3_0 v3_1 : Int) (v3_2 : Str) (v3_3 : Ls0) (v3_4 v46 : Ls1) (v47 v48 : Int) : Option ((Int × Int × Str × Ls0 × Ls1 × Ls1 × Int × Int) ⊕ (Bool)) :=
 match P.cmp .lss v48 v47 with
 | false =>
  some (.inr true)
 | true =>
  match P.idx v46 v48 with
  | none => none
  | some ⟨a9_0, ⟨a9_1_0, a9_1_1, a9_1_2, a9_1_3, a9_1_4⟩⟩ =>
   match c_tree_get ⟨v3_0, v3_1, v3_2, v3_3, v3_4⟩ a9_0 with
   | none => none
   | some (⟨r11_0_0, r11_0_1, r11_0_2, r11_0_3, r11_0_4⟩, r11_1) =>
    match r11_1 with
    | false =>
     some (.inr false)
    | true =>
     match c_tree_alike ⟨a9_1_0, a9_1_1, a9_1_2, a9_1_3, a9_1_4⟩ ⟨r11_0_0, r11_0_1, r11_0_2, r11_0_3, r11_0_4⟩ with
     | none => none
     | some r14_0 =>
      match r14_0 with
      | false =>
       some (.inr false)
      | true =>
       some (.inl (v3_0, v3_1, v3_2, v3_3, v3_4, v46, v47, P.ar .add .i64 v48 1))
theorem o_tree_alike_2  (v3_0 v3_1 : Int) (v3_2 : Str) (v3_3 : Ls0) (v3_4 v46 : Ls1) (v47 v48 : Int)   {out} (hp : b_tree_alike_2 PP c_slices_EqualFunc__api_Value__api_Value_api_Value_api_Value__1 c_tree_get c_tree_alike  v3_0 v3_1 v3_2 v3_3 v3_4 v46 v47 v48 = some out) : (A_tree_alike_2 xat @xmap e_api_Value e_api_Pair m  v3_0 v3_1 v3_2 v3_3 v3_4 v46 v47 v48 stk) = (Sum.elim (fun (v3_0, v3_1, v3_2, v3_3, v3_4, v46, v47, v48) => (A_tree_alike_2 xat @xmap e_api_Value e_api_Pair m  v3_0 v3_1 v3_2 v3_3 v3_4 v46 v47 v48 stk)) (O_tree_alike  m  stk)) out := by
 subst hPP
 simp only [b_tree_alike_2] at hp
 unfold A_tree_alike_2
 rw [h.at_, hT]
 cbv
 cases c8 : xcmp .lss v48 v47 with
 | false =>
  simp only [c8] at hp ⊢
  cbv
  rw [h.at_, hT]
  cbv
  cases hp
  all_goals first | rfl | (cbv; done)
 | true =>
  simp only [c8] at hp ⊢
  cbv
  rw [h.at_, hT]
  cbv
  cases c10 : pidx v46 v48 with
  | none => simp only [c10] at hp; cases hp
  | some y18 =>
   obtain ⟨a9_0, ⟨a9_1_0, a9_1_1, a9_1_2, a9_1_3, a9_1_4⟩⟩ := y18
   simp only [c10] at hp
   obtain ⟨q1, q2⟩ := h.idx e_api_Pair c10
   simp only [he_e_api_Pair] at q2
   simp only [q1, Bool.false_eq_true, if_false]
   cbv
   try simp only [q2]
   cbv
   cases c12 : c_tree_get ⟨v3_0, v3_1, v3_2, v3_3, v3_4⟩ a9_0 with
   | none => simp only [c12] at hp; cases hp
   | some y17 =>
    obtain ⟨⟨r11_0_0, r11_0_1, r11_0_2, r11_0_3, r11_0_4⟩, r11_1⟩ := y17
    simp only [c12] at hp
    have qc := fun s => (h_tree_get c12 s).1
    simp only [qc]
    cbv
    cases r11_1 with
    | false =>
     simp only at hp
     cbv
     cases hp
     all_goals first | rfl | (cbv; done)
    | true =>
     simp only at hp
     cbv
     cases c15 : c_tree_alike ⟨a9_1_0, a9_1_1, a9_1_2, a9_1_3, a9_1_4⟩ ⟨r11_0_0, r11_0_1, r11_0_2, r11_0_3, r11_0_4⟩ with
     | none => simp only [c15] at hp; cases hp
     | some r14_0 =>
      simp only [c15] at hp
      have qc := fun s => (h_tree_alike c15 s).1
      simp only [qc]
      cbv
      cases r14_0 with
      | false =>
       simp only at hp
       cbv
       cases hp
       all_goals first | rfl | (cbv; done)
      | true =>
       simp only at hp
       cbv
       rw [h.at_, hT]
       cbv
       cases hp
       all_goals first | rfl | (cbv; done)
end
def b_tree_Alike_0 (P : Prims) (c_tree_Right : S_api_Value → Option (Bool)) (c_tree_alike : S_api_Value → S_api_Value → Option (Bool))  (v0_0 v0_1 : Int) (v0_2 : Str) (v0_3 : Ls0) (v0_4 : Ls1) (v1_0 v1_1 : Int) (v1_2 : Str) (v1_3 : Ls0) (v1_4 : Ls1) : Option (Bool) :=
 match c_tree_Right ⟨v0_0, v0_1, v0_2, v0_3, v0_4⟩ with
 | none => none
 | some r1_0 =>
  match r1_0 with
  | false =>
   some false
  | true =>
   match c_tree_Right ⟨v1_0, v1_1, v1_2, v1_3, v1_4⟩ with
   | none => none
   | some r4_0 =>
    match r4_0 with
    | false =>
     some false
    | true =>
     match c_tree_alike ⟨v0_0, v0_1, v0_2, v0_3, v0_4⟩ ⟨v1_0, v1_1, v1_2, v1_3, v1_4⟩ with
     | none => none
     | some r7_0 =>
      some r7_0
section
variable (c_tree_Right : S_api_Value → Option (Bool)) (c_tree_alike : S_api_Value → S_api_Value → Option (Bool)) (h_tree_Right : (C_tree_Right xpcall xfcall @xmap e_api_Value e_api_Pair c_tree_Right)) (h_tree_alike : (C_tree_alike xpcall xfcall @xmap e_api_Value e_api_Pair c_tree_alike)) (stk : Stk) (m : Nat)   
include c_tree_Right c_tree_alike h_tree_Right h_tree_alike stk m  
theorem o_tree_Alike_0  (v0_0 v0_1 : Int) (v0_2 : Str) (v0_3 : Ls0) (v0_4 : Ls1) (v1_0 v1_1 : Int) (v1_2 : Str) (v1_3 : Ls0) (v1_4 : Ls1)   {out} (hp : b_tree_Alike_0 PP c_tree_Right c_tree_alike  v0_0 v0_1 v0_2 v0_3 v0_4 v1_0 v1_1 v1_2 v1_3 v1_4 = some out) : (A_tree_Alike_0 xat @xmap e_api_Value e_api_Pair m  v0_0 v0_1 v0_2 v0_3 v0_4 v1_0 v1_1 v1_2 v1_3 v1_4 stk) = (O_tree_Alike  m  stk) out := by
 subst hPP
 simp only [b_tree_Alike_0] at hp
 unfold A_tree_Alike_0
 rw [h.at_, hT]
 cbv
 cases c2 : c_tree_Right ⟨v0_0, v0_1, v0_2, v0_3, v0_4⟩ with
 | none => simp only [c2] at hp; cases hp
 | some r1_0 =>
  simp only [c2] at hp
  have qc := fun s => (h_tree_Right c2 s).1
  simp only [qc]
  cbv
  cases r1_0 with
  | false =>
   simp only at hp
   cbv
   cases hp
   all_goals first | rfl | (cbv; done)
  | true =>
   simp only at hp
   cbv
   cases c5 : c_tree_Right ⟨v1_0, v1_1, v1_2, v1_3, v1_4⟩ with
   | none => simp only [c5] at hp; cases hp
   | some r4_0 =>
    simp only [c5] at hp
    have qc := fun s => (h_tree_Right c5 s).1
    simp only [qc]
    cbv
    cases r4_0 with
    | false =>
     simp only at hp
     cbv
     cases hp
     all_goals first | rfl | (cbv; done)
    | true =>
     simp only at hp
     cbv
     cases c8 : c_tree_alike ⟨v0_0, v0_1, v0_2, v0_3, v0_4⟩ ⟨v1_0, v1_1, v1_2, v1_3, v1_4⟩ with
     | none => simp only [c8] at hp; cases hp
     | some r7_0 =>
      simp only [c8] at hp
      have qc := fun s => (h_tree_alike c8 s).1
      simp only [qc]
      cbv
      cases hp
      all_goals first | rfl | (cbv; done)
end
def b_cascaderef03_Sorted_0 (P : Prims) (c_cascaderef03_Sorted : S_api_Value → Option (S_api_Value)) (l_1 : T_cascaderef03_Sorted_1) (v0_0 v0_1 : Int) (v0_2 : Str) (v0_3 : Ls0) (v0_4 : Ls1) : Option (S_api_Value) :=
 l_1 v0_0 v0_1 v0_2 v0_3 v0_4 0 0 0 [] [] [] v0_0 v0_1 v0_2 0 [] []
section
variable (c_cascaderef03_Sorted : S_api_Value → Option (S_api_Value)) (h_cascaderef03_Sorted : (C_cascaderef03_Sorted xpcall xfcall @xmap e_api_Value e_api_Pair c_cascaderef03_Sorted)) (stk : Stk) (m : Nat)   
include c_cascaderef03_Sorted h_cascaderef03_Sorted stk m  
theorem o_cascaderef03_Sorted_0 (l_1 : T_cascaderef03_Sorted_1) (v0_0 v0_1 : Int) (v0_2 : Str) (v0_3 : Ls0) (v0_4 : Ls1)  (h_l_1 : H_cascaderef03_Sorted_1 xat @xmap xlen e_api_Value e_api_Pair m  l_1) {out} (hp : b_cascaderef03_Sorted_0 PP c_cascaderef03_Sorted l_1 v0_0 v0_1 v0_2 v0_3 v0_4 = some out) : (A_cascaderef03_Sorted_0 xat @xmap e_api_Value e_api_Pair m  v0_0 v0_1 v0_2 v0_3 v0_4 stk) = (O_cascaderef03_Sorted @xmap e_api_Value e_api_Pair m  stk) out := by
 subst hPP
 simp only [b_cascaderef03_Sorted_0] at hp
 unfold A_cascaderef03_Sorted_0
 rw [h.at_, hT]
 cbv
 first | exact h_l_1 hp stk | (have q := h_l_1 hp stk; simp only [A_cascaderef03_Sorted_1, h.map_cons, h.map_nil, h.mapE_nil, h.len_nil, he_e_api_Value, he_e_api_Pair, he_e_int] at q; first | exact q | (cbv; exact q))
def b_cascaderef03_Sorted_1 (P : Prims) (c_cascaderef03_Sorted : S_api_Value → Option (S_api_Value)) (l_5 : T_cascaderef03_Sorted_5) (v1_0 v1_1 : Int) (v1_2 : Str) (v1_3 : Ls0) (v1_4 : Ls1) (v4 o2_0 o2_1 : Int) (o2_2 : Str) (o2_3 : Ls0) (o2_4 : Ls1) (o3_0 o3_1 : Int) (o3_2 : Str) (o3_3_g : Nat) (o3_3 : Ls0) (o3_4 : Ls1) : Option ((Int × Int × Str × Ls0 × Ls1 × Int × Int × Int × Str × Ls0 × Ls1 × Int × Int × Str × Nat × Ls0 × Ls1) ⊕ (S_api_Value)) :=
 match P.cmp .lss v4 (P.len v1_3) with
 | false =>
  match l_5 v1_0 v1_1 v1_2 v1_3 v1_4 0 o2_0 o2_1 o2_2 o2_3 o2_4 o3_0 o3_1 o3_2 o3_3_g o3_3 o3_4 with | none => none | some o10 => some (.inr o10)
 | true =>
  match P.idx v1_3 v4 with
  | none => none
  | some ⟨a2_0, a2_1, a2_2, a2_3, a2_4⟩ =>
   match c_cascaderef03_Sorted ⟨a2_0, a2_1, a2_2, a2_3, a2_4⟩ with
   | none => none
   | some ⟨r4_0_0, r4_0_1, r4_0_2, r4_0_3, r4_0_4⟩ =>
    match P.app 80 o3_3 [⟨r4_0_0, r4_0_1, r4_0_2, r4_0_3, r4_0_4⟩] with
    | none => none
    | some l6 =>
     some (.inl (v1_0, v1_1, v1_2, v1_3, v1_4, P.ar .add .i64 v4 1, o2_0, o2_1, o2_2, o2_3, o2_4, o3_0, o3_1, o3_2, o3_3_g + 1, l6, o3_4))
theorem o_cascaderef03_Sorted_1 (l_5 : T_cascaderef03_Sorted_5) (v1_0 v1_1 : Int) (v1_2 : Str) (v1_3 : Ls0) (v1_4 : Ls1) (v4 o2_0 o2_1 : Int) (o2_2 : Str) (o2_3 : Ls0) (o2_4 : Ls1) (o3_0 o3_1 : Int) (o3_2 : Str) (o3_3_g : Nat) (o3_3 : Ls0) (o3_4 : Ls1)  (h_l_5 : H_cascaderef03_Sorted_5 xat @xmap xlen e_api_Value e_api_Pair m  l_5) {out} (hp : b_cascaderef03_Sorted_1 PP c_cascaderef03_Sorted l_5 v1_0 v1_1 v1_2 v1_3 v1_4 v4 o2_0 o2_1 o2_2 o2_3 o2_4 o3_0 o3_1 o3_2 o3_3_g o3_3 o3_4 = some out) : (A_cascaderef03_Sorted_1 xat @xmap xlen e_api_Value e_api_Pair m  v1_0 v1_1 v1_2 v1_3 v1_4 v4 o2_0 o2_1 o2_2 o2_3 o2_4 o3_0 o3_1 o3_2 o3_3_g o3_3 o3_4 stk) = (Sum.elim (fun (v1_0, v1_1, v1_2, v1_3, v1_4, v4, o2_0, o2_1, o2_2, o2_3, o2_4, o3_0, o3_1, o3_2, o3_3_g, o3_3, o3_4) => (A_cascaderef03_Sorted_1 xat @xmap xlen e_api_Value e_api_Pair m  v1_0 v1_1 v1_2 v1_3 v1_4 v4 o2_0 o2_1 o2_2 o2_3 o2_4 o3_0 o3_1 o3_2 o3_3_g o3_3 o3_4 stk)) (O_cascaderef03_Sorted @xmap e_api_Value e_api_Pair m  stk)) out := by
 subst hPP
 simp only [b_cascaderef03_Sorted_1] at hp
 unfold A_cascaderef03_Sorted_1
 rw [h.at_, hT]
 cbv
 try simp only [h.len]
 cases c1 : xcmp .lss v4 (plen v1_3) with
 | false =>
  simp only [c1] at hp ⊢
  cbv
  rw [h.at_, hT]
  cbv
  cases c : l_5 v1_0 v1_1 v1_2 v1_3 v1_4 0 o2_0 o2_1 o2_2 o2_3 o2_4 o3_0 o3_1 o3_2 o3_3_g o3_3 o3_4 with
  | none => simp only [c] at hp; cases hp
  | some o10 =>
   simp only [c] at hp
   cases hp
   first | exact h_l_5 c stk | (have q := h_l_5 c stk; simp only [A_cascaderef03_Sorted_5, h.map_cons, h.map_nil, h.mapE_nil, h.len_nil, he_e_api_Value, he_e_api_Pair, he_e_int] at q; first | exact q | (cbv; exact q))
 | true =>
  simp only [c1] at hp ⊢
  cbv
  rw [h.at_, hT]
  cbv
  cases c3 : pidx v1_3 v4 with
  | none => simp only [c3] at hp; cases hp
  | some y9 =>
   obtain ⟨a2_0, a2_1, a2_2, a2_3, a2_4⟩ := y9
   simp only [c3] at hp
   obtain ⟨q1, q2⟩ := h.idx e_api_Value c3
   simp only [he_e_api_Value] at q2
   simp only [q1, Bool.false_eq_true, if_false]
   cbv
   try simp only [q2]
   cbv
   cases c5 : c_cascaderef03_Sorted ⟨a2_0, a2_1, a2_2, a2_3, a2_4⟩ with
   | none => simp only [c5] at hp; cases hp
   | some y8 =>
    obtain ⟨r4_0_0, r4_0_1, r4_0_2, r4_0_3, r4_0_4⟩ := y8
    simp only [c5] at hp
    have qc := fun s => (h_cascaderef03_Sorted c5 s).1
    simp only [qc]
    cbv
    simp only [h.allsz_nil, h.allsz_cons]
    cbv
    simp only [h.allsz_nil, h.allsz_cons]
    cbv
    cases c7 : papp 80 o3_3 [⟨r4_0_0, r4_0_1, r4_0_2, r4_0_3, r4_0_4⟩] with
    | none => simp only [c7] at hp; cases hp
    | some l6 =>
     simp only [c7] at hp
     obtain ⟨q1, q2, q3⟩ := h.app e_api_Value c7 rfl
     simp only [h.map_cons, h.map_nil, h.len_nil, he_e_api_Value] at q1 q2 q3
     try simp only [h.len_nil]
     cbv
     simp only [q1, q2, q3, if_true]
     cbv
     rw [h.at_, hT]
     cbv
     cases hp
     all_goals first | rfl | (cbv; done) | (simp only [h.nadd0, h.nle_refl, h.cut_all, h.cut_nil, h.map_cons, h.map_nil, h.mapE_nil, h.len_nil, he_e_api_Value, he_e_api_Pair, he_e_int, O_cascaderef03_Sorted, A_cascaderef03_Sorted_1, if_true]; first | done | rfl | (cbv; done) | (cbv; simp only [h.map_cons, h.map_nil, h.mapE_nil, h.len_nil, he_e_api_Value, he_e_api_Pair, he_e_int, O_cascaderef03_Sorted, A_cascaderef03_Sorted_1]; done))
def b_cascaderef03_Sorted_5 (P : Prims) (c_cascaderef03_Sorted : S_api_Value → Option (S_api_Value)) (l_7 : T_cascaderef03_Sorted_7) (v1_0 v1_1 : Int) (v1_2 : Str) (v1_3 : Ls0) (v1_4 : Ls1) (v5 o2_0 o2_1 : Int) (o2_2 : Str) (o2_3 : Ls0) (o2_4 : Ls1) (o3_0 o3_1 : Int) (o3_2 : Str) (o3_3_g : Nat) (o3_3 : Ls0) (o3_4 : Ls1) : Option ((Int × Int × Str × Ls0 × Ls1 × Int × Int × Int × Str × Ls0 × Ls1 × Int × Int × Str × Nat × Ls0 × Ls1) ⊕ (S_api_Value)) :=
 match P.cmp .lss v5 (P.len v1_4) with
 | false =>
  some (.inr ⟨o3_0, o3_1, o3_2, o3_3, o3_4⟩)
 | true =>
  match P.idx v1_4 v5 with
  | none => none
  | some ⟨a12_0, ⟨a12_1_0, a12_1_1, a12_1_2, a12_1_3, a12_1_4⟩⟩ =>
   match c_cascaderef03_Sorted ⟨a12_1_0, a12_1_1, a12_1_2, a12_1_3, a12_1_4⟩ with
   | none => none
   | some ⟨r14_0_0, r14_0_1, r14_0_2, r14_0_3, r14_0_4⟩ =>
    l_7 v1_0 v1_1 v1_2 v1_3 v1_4 v5 0 o2_0 o2_1 o2_2 o2_3 o2_4 o3_0 o3_1 o3_2 o3_3_g o3_3 o3_4 a12_0 r14_0_0 r14_0_1 r14_0_2 r14_0_3 r14_0_4
theorem o_cascaderef03_Sorted_5 (l_7 : T_cascaderef03_Sorted_7) (v1_0 v1_1 : Int) (v1_2 : Str) (v1_3 : Ls0) (v1_4 : Ls1) (v5 o2_0 o2_1 : Int) (o2_2 : Str) (o2_3 : Ls0) (o2_4 : Ls1) (o3_0 o3_1 : Int) (o3_2 : Str) (o3_3_g : Nat) (o3_3 : Ls0) (o3_4 : Ls1)  (h_l_7 : H_cascaderef03_Sorted_7 xat @xmap xlen e_api_Value e_api_Pair m  l_7) {out} (hp : b_cascaderef03_Sorted_5 PP c_cascaderef03_Sorted l_7 v1_0 v1_1 v1_2 v1_3 v1_4 v5 o2_0 o2_1 o2_2 o2_3 o2_4 o3_0 o3_1 o3_2 o3_3_g o3_3 o3_4 = some out) : (A_cascaderef03_Sorted_5 xat @xmap xlen e_api_Value e_api_Pair m  v1_0 v1_1 v1_2 v1_3 v1_4 v5 o2_0 o2_1 o2_2 o2_3 o2_4 o3_0 o3_1 o3_2 o3_3_g o3_3 o3_4 stk) = (Sum.elim (fun (v1_0, v1_1, v1_2, v1_3, v1_4, v5, o2_0, o2_1, o2_2, o2_3, o2_4, o3_0, o3_1, o3_2, o3_3_g, o3_3, o3_4) => (A_cascaderef03_Sorted_5 xat @xmap xlen e_api_Value e_api_Pair m  v1_0 v1_1 v1_2 v1_3 v1_4 v5 o2_0 o2_1 o2_2 o2_3 o2_4 o3_0 o3_1 o3_2 o3_3_g o3_3 o3_4 stk)) (O_cascaderef03_Sorted @xmap e_api_Value e_api_Pair m  stk)) out := by
 subst hPP
 simp only [b_cascaderef03_Sorted_5] at hp
 unfold A_cascaderef03_Sorted_5
 rw [h.at_, hT]
 cbv
 try simp only [h.len]
 cases c11 : xcmp .lss v5 (plen v1_4) with
 | false =>
  simp only [c11] at hp ⊢
  cbv
  rw [h.at_, hT]
  cbv
  cases hp
  all_goals first | rfl | (cbv; done) | (simp only [h.nadd0, h.nle_refl, h.cut_all, h.cut_nil, h.map_cons, h.map_nil, h.mapE_nil, h.len_nil, he_e_api_Value, he_e_api_Pair, he_e_int, O_cascaderef03_Sorted, A_cascaderef03_Sorted_5, if_true]; first | done | rfl | (cbv; done) | (cbv; simp only [h.map_cons, h.map_nil, h.mapE_nil, h.len_nil, he_e_api_Value, he_e_api_Pair, he_e_int, O_cascaderef03_Sorted, A_cascaderef03_Sorted_5]; done))
 | true =>
  simp only [c11] at hp ⊢
  cbv
  rw [h.at_, hT]
  cbv
  cases c13 : pidx v1_4 v5 with
  | none => simp only [c13] at hp; cases hp
  | some y17 =>
   obtain ⟨a12_0, ⟨a12_1_0, a12_1_1, a12_1_2, a12_1_3, a12_1_4⟩⟩ := y17
   simp only [c13] at hp
   obtain ⟨q1, q2⟩ := h.idx e_api_Pair c13
   simp only [he_e_api_Pair] at q2
   simp only [q1, Bool.false_eq_true, if_false]
   cbv
   try simp only [q2]
   cbv
   obtain ⟨q1, q2⟩ := h.idx e_api_Pair c13
   simp only [he_e_api_Pair] at q2
   simp only [q1, Bool.false_eq_true, if_false]
   cbv
   try simp only [q2]
   cbv
   cases c15 : c_cascaderef03_Sorted ⟨a12_1_0, a12_1_1, a12_1_2, a12_1_3, a12_1_4⟩ with
   | none => simp only [c15] at hp; cases hp
   | some y16 =>
    obtain ⟨r14_0_0, r14_0_1, r14_0_2, r14_0_3, r14_0_4⟩ := y16
    simp only [c15] at hp
    have qc := fun s => (h_cascaderef03_Sorted c15 s).1
    simp only [qc]
    cbv
    simp only [h.samev]
    cbv
    obtain ⟨q1, q2⟩ := h.idx e_api_Pair c13
    simp only [he_e_api_Pair] at q2
    simp only [q1, Bool.false_eq_true, if_false]
    cbv
    try simp only [q2]
    cbv
    simp only [h.samev]
    cbv
    simp only [h.samev]
    cbv
    simp only [h.samev]
    cbv
    obtain ⟨q1, q2⟩ := h.idx e_api_Pair c13
    simp only [he_e_api_Pair] at q2
    simp only [q1, Bool.false_eq_true, if_false]
    cbv
    try simp only [q2]
    cbv
    simp only [h.samev]
    cbv
    simp only [h.samev]
    cbv
    have qc := fun s => (h_cascaderef03_Sorted c15 s).1
    simp only [qc]
    cbv
    simp only [h.samev]
    cbv
    first | exact h_l_7 hp stk | (have q := h_l_7 hp stk; simp only [A_cascaderef03_Sorted_7, h.map_cons, h.map_nil, h.mapE_nil, h.len_nil, he_e_api_Value, he_e_api_Pair, he_e_int] at q; first | exact q | (cbv; exact q))
def b_cascaderef03_Sorted_7 (P : Prims) (c_cascaderef03_Sorted : S_api_Value → Option (S_api_Value)) (l_9 : T_cascaderef03_Sorted_9) (v1_0 v1_1 : Int) (v1_2 : Str) (v1_3 : Ls0) (v1_4 : Ls1) (v5 v7 o2_0 o2_1 : Int) (o2_2 : Str) (o2_3 : Ls0) (o2_4 : Ls1) (o3_0 o3_1 : Int) (o3_2 : Str) (o3_3_g : Nat) (o3_3 : Ls0) (o3_4 : Ls1) (o6_0 : Str) (o6_1 o6_2 : Int) (o6_3 : Str) (o6_4 : Ls0) (o6_5 : Ls1) : Option ((Int × Int × Str × Ls0 × Ls1 × Int × Int × Int × Int × Str × Ls0 × Ls1 × Int × Int × Str × Nat × Ls0 × Ls1 × Str × Int × Int × Str × Ls0 × Ls1) ⊕ ((Int × Int × Str × Ls0 × Ls1 × Int × Int × Int × Str × Ls0 × Ls1 × Int × Int × Str × Nat × Ls0 × Ls1) ⊕ (S_api_Value))) :=
 match P.cmp .lss v7 (P.len o3_4) with
 | false =>
  match l_9 v1_0 v1_1 v1_2 v1_3 v1_4 v5 v7 o2_0 o2_1 o2_2 o2_3 o2_4 o3_0 o3_1 o3_2 o3_3_g o3_3 o3_4 o6_0 o6_1 o6_2 o6_3 o6_4 o6_5 with | none => none | some o24 => some (.inr o24)
 | true =>
  match P.idx o3_4 v7 with
  | none => none
  | some ⟨a19_0, ⟨a19_1_0, a19_1_1, a19_1_2, a19_1_3, a19_1_4⟩⟩ =>
   match P.slt a19_0 o6_0 with
   | false =>
    match l_9 v1_0 v1_1 v1_2 v1_3 v1_4 v5 v7 o2_0 o2_1 o2_2 o2_3 o2_4 o3_0 o3_1 o3_2 o3_3_g o3_3 o3_4 o6_0 o6_1 o6_2 o6_3 o6_4 o6_5 with | none => none | some o22 => some (.inr o22)
   | true =>
    some (.inl (v1_0, v1_1, v1_2, v1_3, v1_4, v5, P.ar .add .i64 v7 1, o2_0, o2_1, o2_2, o2_3, o2_4, o3_0, o3_1, o3_2, o3_3_g, o3_3, o3_4, o6_0, o6_1, o6_2, o6_3, o6_4, o6_5))
theorem o_cascaderef03_Sorted_7 (l_9 : T_cascaderef03_Sorted_9) (v1_0 v1_1 : Int) (v1_2 : Str) (v1_3 : Ls0) (v1_4 : Ls1) (v5 v7 o2_0 o2_1 : Int) (o2_2 : Str) (o2_3 : Ls0) (o2_4 : Ls1) (o3_0 o3_1 : Int) (o3_2 : Str) (o3_3_g : Nat) (o3_3 : Ls0) (o3_4 : Ls1) (o6_0 : Str) (o6_1 o6_2 : Int) (o6_3 : Str) (o6_4 : Ls0) (o6_5 : Ls1)  (h_l_9 : H_cascaderef03_Sorted_9 xat @xmap xlen e_api_Value e_api_Pair m  l_9) {out} (hp : b_cascaderef03_Sorted_7 PP c_cascaderef03_Sorted l_9 v1_0 v1_1 v1_2 v1_3 v1_4 v5 v7 o2_0 o2_1 o2_2 o2_3 o2_4 o3_0 o3_1 o3_2 o3_3_g o3_3 o3_4 o6_0 o6_1 o6_2 o6_3 o6_4 o6_5 = some out) : (A_cascaderef03_Sorted_7 xat @xmap xlen e_api_Value e_api_Pair m  v1_0 v1_1 v1_2 v1_3 v1_4 v5 v7 o2_0 o2_1 o2_2 o2_3 o2_4 o3_0 o3_1 o3_2 o3_3_g o3_3 o3_4 o6_0 o6_1 o6_2 o6_3 o6_4 o6_5 stk) = (Sum.elim (fun (v1_0, v1_1, v1_2, v1_3, v1_4, v5, v7, o2_0, o2_1, o2_2, o2_3, o2_4, o3_0, o3_1, o3_2, o3_3_g, o3_3, o3_4, o6_0, o6_1, o6_2, o6_3, o6_4, o6_5) => (A_cascaderef03_Sorted_7 xat @xmap xlen e_api_Value e_api_Pair m  v1_0 v1_1 v1_2 v1_3 v1_4 v5 v7 o2_0 o2_1 o2_2 o2_3 o2_4 o3_0 o3_1 o3_2 o3_3_g o3_3 o3_4 o6_0 o6_1 o6_2 o6_3 o6_4 o6_5 stk)) (Sum.elim (fun (v1_0, v1_1, v1_2, v1_3, v1_4, v5, o2_0, o2_1, o2_2, o2_3, o2_4, o3_0, o3_1, o3_2, o3_3_g, o3_3, o3_4) => (A_cascaderef03_Sorted_5 xat @xmap xlen e_api_Value e_api_Pair m  v1_0 v1_1 v1_2 v1_3 v1_4 v5 o2_0 o2_1 o2_2 o2_3 o2_4 o3_0 o3_1 o3_2 o3_3_g o3_3 o3_4 stk)) (O_cascaderef03_Sorted @xmap e_api_Value e_api_Pair m  stk))) out := by
 subst hPP
 simp only [b_cascaderef03_Sorted_7] at hp
 unfold A_cascaderef03_Sorted_7
 rw [h.at_, hT]
 cbv
 try simp only [h.len]
 cases c18 : xcmp .lss v7 (plen o3_4) with
 | false =>
  simp only [c18] at hp ⊢
  cbv
  cases c : l_9 v1_0 v1_1 v1_2 v1_3 v1_4 v5 v7 o2_0 o2_1 o2_2 o2_3 o2_4 o3_0 o3_1 o3_2 o3_3_g o3_3 o3_4 o6_0 o6_1 o6_2 o6_3 o6_4 o6_5 with
  | none => simp only [c] at hp; cases hp
  | some o24 =>
   simp only [c] at hp
   cases hp
   first | exact h_l_9 c stk | (have q := h_l_9 c stk; simp only [A_cascaderef03_Sorted_9, h.map_cons, h.map_nil, h.mapE_nil, h.len_nil, he_e_api_Value, he_e_api_Pair, he_e_int] at q; first | exact q | (cbv; exact q))
 | true =>
  simp only [c18] at hp ⊢
  cbv
  cases c20 : pidx o3_4 v7 with
  | none => simp only [c20] at hp; cases hp
  | some y23 =>
   obtain ⟨a19_0, ⟨a19_1_0, a19_1_1, a19_1_2, a19_1_3, a19_1_4⟩⟩ := y23
   simp only [c20] at hp
   obtain ⟨q1, q2⟩ := h.idx e_api_Pair c20
   simp only [he_e_api_Pair] at q2
   simp only [q1, Bool.false_eq_true, if_false]
   cbv
   try simp only [q2]
   cbv
   cases c21 : xslt a19_0 o6_0 with
   | false =>
    simp only [c21] at hp ⊢
    cbv
    cases c : l_9 v1_0 v1_1 v1_2 v1_3 v1_4 v5 v7 o2_0 o2_1 o2_2 o2_3 o2_4 o3_0 o3_1 o3_2 o3_3_g o3_3 o3_4 o6_0 o6_1 o6_2 o6_3 o6_4 o6_5 with
    | none => simp only [c] at hp; cases hp
    | some o22 =>
     simp only [c] at hp
     cases hp
     first | exact h_l_9 c stk | (have q := h_l_9 c stk; simp only [A_cascaderef03_Sorted_9, h.map_cons, h.map_nil, h.mapE_nil, h.len_nil, he_e_api_Value, he_e_api_Pair, he_e_int] at q; first | exact q | (cbv; exact q))
   | true =>
    simp only [c21] at hp ⊢
    cbv
    rw [h.at_, hT]
    cbv
    cases hp
    all_goals first | rfl | (cbv; done) | (simp only [h.nadd0, h.nle_refl, h.cut_all, h.cut_nil, h.map_cons, h.map_nil, h.mapE_nil, h.len_nil, he_e_api_Value, he_e_api_Pair, he_e_int, O_cascaderef03_Sorted, A_cascaderef03_Sorted_7, A_cascaderef03_Sorted_5, if_true]; first | done | rfl | (cbv; done) | (cbv; simp only [h.map_cons, h.map_nil, h.mapE_nil, h.len_nil, he_e_api_Value, he_e_api_Pair, he_e_int, O_cascaderef03_Sorted, A_cascaderef03_Sorted_7, A_cascaderef03_Sorted_5]; done))
def b_cascaderef03_Sorted_9 (P : Prims) (c_cascaderef03_Sorted : S_api_Value → Option (S_api_Value))  (v1_0 v1_1 : Int) (v1_2 : Str) (v1_3 : Ls0) (v1_4 : Ls1) (v5 v7 o2_0 o2_1 : Int) (o2_2 : Str) (o2_3 : Ls0) (o2_4 : Ls1) (o3_0 o3_1 : Int) (o3_2 : Str) (o3_3_g : Nat) (o3_3 : Ls0) (o3_4 : Ls1) (o6_0 : Str) (o6_1 o6_2 : Int) (o6_3 : Str) (o6_4 : Ls0) (o6_5 : Ls1) : Option ((Int × Int × Str × Ls0 × Ls1 × Int × Int × Int × Str × Ls0 × Ls1 × Int × Int × Str × Nat × Ls0 × Ls1) ⊕ (S_api_Value)) :=
 match P.sub o3_4 none (some v7) with
 | none => none
 | some s25 =>
  match P.app 96 ([] : List S_api_Pair) s25 with
  | none => none
  | some l27 =>
   match P.app 96 l27 [⟨o6_0, ⟨o6_1, o6_2, o6_3, o6_4, o6_5⟩⟩] with
   | none => none
   | some l29 =>
    match P.sub o3_4 (some v7) none with
    | none => none
    | some s31 =>
     match P.app 96 l29 s31 with
     | none => none
     | some l33 =>
      some (.inl (v1_0, v1_1, v1_2, v1_3, v1_4, P.ar .add .i64 v5 1, o2_0, o2_1, o2_2, o2_3, o2_4, o3_0, o3_1, o3_2, o3_3_g, o3_3, l33))
theorem o_cascaderef03_Sorted_9  (v1_0 v1_1 : Int) (v1_2 : Str) (v1_3 : Ls0) (v1_4 : Ls1) (v5 v7 o2_0 o2_1 : Int) (o2_2 : Str) (o2_3 : Ls0) (o2_4 : Ls1) (o3_0 o3_1 : Int) (o3_2 : Str) (o3_3_g : Nat) (o3_3 : Ls0) (o3_4 : Ls1) (o6_0 : Str) (o6_1 o6_2 : Int) (o6_3 : Str) (o6_4 : Ls0) (o6_5 : Ls1)   {out} (hp : b_cascaderef03_Sorted_9 PP c_cascaderef03_Sorted  v1_0 v1_1 v1_2 v1_3 v1_4 v5 v7 o2_0 o2_1 o2_2 o2_3 o2_4 o3_0 o3_1 o3_2 o3_3_g o3_3 o3_4 o6_0 o6_1 o6_2 o6_3 o6_4 o6_5 = some out) : (A_cascaderef03_Sorted_9 xat @xmap xlen e_api_Value e_api_Pair m  v1_0 v1_1 v1_2 v1_3 v1_4 v5 v7 o2_0 o2_1 o2_2 o2_3 o2_4 o3_0 o3_1 o3_2 o3_3_g o3_3 o3_4 o6_0 o6_1 o6_2 o6_3 o6_4 o6_5 stk) = (Sum.elim (fun (v1_0, v1_1, v1_2, v1_3, v1_4, v5, o2_0, o2_1, o2_2, o2_3, o2_4, o3_0, o3_1, o3_2, o3_3_g, o3_3, o3_4) => (A_cascaderef03_Sorted_5 xat @xmap xlen e_api_Value e_api_Pair m  v1_0 v1_1 v1_2 v1_3 v1_4 v5 o2_0 o2_1 o2_2 o2_3 o2_4 o3_0 o3_1 o3_2 o3_3_g o3_3 o3_4 stk)) (O_cascaderef03_Sorted @xmap e_api_Value e_api_Pair m  stk)) out := by
 subst hPP
 simp only [b_cascaderef03_Sorted_9] at hp
 unfold A_cascaderef03_Sorted_9
 rw [h.at_, hT]
 cbv
 cases c26 : psub o3_4 none (some v7) with
 | none => simp only [c26] at hp; cases hp
 | some s25 =>
  simp only [c26] at hp
  obtain ⟨q0, q1, q2, q3⟩ := h.sub0 e_api_Pair c26
  simp only [q0, q1, q2, q3, Bool.false_eq_true, if_false, if_true, hz_e_api_Pair]
  cbv
  try simp only [q0, q1, q2, q3, if_true, hz_e_api_Pair]
  cbv
  try simp only [hz_e_api_Pair, if_true]
  cbv
  cases c28 : papp 96 ([] : List S_api_Pair) s25 with
  | none => simp only [c28] at hp; cases hp
  | some l27 =>
   simp only [c28] at hp
   obtain ⟨q1, q2, q3⟩ := h.app e_api_Pair c28 rfl
   simp only [h.map_cons, h.map_nil, h.len_nil, he_e_api_Pair] at q1 q2 q3
   try simp only [h.len_nil]
   cbv
   simp only [q1, q2, q3, if_true]
   cbv
   simp only [h.allsz_nil, h.allsz_cons]
   cbv
   simp only [h.allsz_nil, h.allsz_cons]
   cbv
   cases c30 : papp 96 l27 [⟨o6_0, ⟨o6_1, o6_2, o6_3, o6_4, o6_5⟩⟩] with
   | none => simp only [c30] at hp; cases hp
   | some l29 =>
    simp only [c30] at hp
    obtain ⟨q1, q2, q3⟩ := h.app e_api_Pair c30 rfl
    simp only [h.map_cons, h.map_nil, h.len_nil, he_e_api_Pair] at q1 q2 q3
    try simp only [h.len_nil]
    cbv
    simp only [q1, q2, q3, if_true]
    cbv
    cases c32 : psub o3_4 (some v7) none with
    | none => simp only [c32] at hp; cases hp
    | some s31 =>
     simp only [c32] at hp
     obtain ⟨q0, q1, q2, q3⟩ := h.sub1 e_api_Pair c32
     simp only [q0, q1, q2, q3, Bool.false_eq_true, if_false, if_true, hz_e_api_Pair]
     cbv
     try simp only [q0, q1, q2, q3, if_true, hz_e_api_Pair]
     cbv
     try simp only [hz_e_api_Pair, if_true]
     cbv
     cases c34 : papp 96 l29 s31 with
     | none => simp only [c34] at hp; cases hp
     | some l33 =>
      simp only [c34] at hp
      obtain ⟨q1, q2, q3⟩ := h.app e_api_Pair c34 rfl
      try simp only [h.len_nil]
      cbv
      simp only [q1, q2, q3, if_true]
      cbv
      rw [h.at_, hT]
      cbv
      simp only [h.nadd0, h.nle_refl, h.cut_all, if_true]
      cbv
      cases hp
      all_goals first | rfl | (cbv; done) | (simp only [h.nadd0, h.nle_refl, h.cut_all, h.cut_nil, h.map_cons, h.map_nil, h.mapE_nil, h.len_nil, he_e_api_Value, he_e_api_Pair, he_e_int, O_cascaderef03_Sorted, A_cascaderef03_Sorted_5, if_true]; first | done | rfl | (cbv; done) | (cbv; simp only [h.map_cons, h.map_nil, h.mapE_nil, h.len_nil, he_e_api_Value, he_e_api_Pair, he_e_int, O_cascaderef03_Sorted, A_cascaderef03_Sorted_5]; done))
end
def b_cascadelaw03_TreeSame_0 (P : Prims) (c_cascadelaw03_awake : Option (Bool)) (c_cascaderef03_Few : S_api_Value → Int → Option (Bool)) (c_cascaderef03_Right : S_api_Value → Option (Bool)) (c_tree_Same : S_api_Value → S_api_Value → Option (Bool)) (c_cascaderef03_Same : S_api_Value → S_api_Value → Option (Bool)) (c_tree_Alike : S_api_Value → S_api_Value → Option (Bool)) (c_cascaderef03_Sorted : S_api_Value → Option (S_api_Value)) (l_2 : T_cascadelaw03_TreeSame_2) (v0_0 v0_1 : Int) (v0_2 : Str) (v0_3 : Ls0) (v0_4 : Ls1) (v1_0 v1_1 : Int) (v1_2 : Str) (v1_3 : Ls0) (v1_4 : Ls1) : Option (Bool) :=
 match c_cascadelaw03_awake with
 | none => none
 | some r1_0 =>
  match r1_0 with
  | false =>
   some r1_0
  | true =>
   match c_cascaderef03_Few ⟨v0_0, v0_1, v0_2, v0_3, v0_4⟩ 60 with
   | none => none
   | some r4_0 =>
    match r4_0 with
    | false =>
     some r1_0
    | true =>
     match c_cascaderef03_Few ⟨v1_0, v1_1, v1_2, v1_3, v1_4⟩ 60 with
     | none => none
     | some r7_0 =>
      match r7_0 with
      | false =>
       some r1_0
      | true =>
       match c_cascaderef03_Right ⟨v0_0, v0_1, v0_2, v0_3, v0_4⟩ with
       | none => none
       | some r10_0 =>
        match r10_0 with
        | false =>
         match c_tree_Same ⟨v0_0, v0_1, v0_2, v0_3, v0_4⟩ ⟨v1_0, v1_1, v1_2, v1_3, v1_4⟩ with
         | none => none
         | some r24_0 =>
          match r24_0 with
          | false =>
           l_2 v0_0 v0_1 v0_2 v0_3 v0_4 v1_0 v1_1 v1_2 v1_3 v1_4 false
          | true =>
           some false
        | true =>
         match c_cascaderef03_Right ⟨v1_0, v1_1, v1_2, v1_3, v1_4⟩ with
         | none => none
         | some r13_0 =>
          match c_tree_Same ⟨v0_0, v0_1, v0_2, v0_3, v0_4⟩ ⟨v1_0, v1_1, v1_2, v1_3, v1_4⟩ with
          | none => none
          | some r15_0 =>
           match r13_0 with
           | false =>
            match r15_0 with
            | false =>
             l_2 v0_0 v0_1 v0_2 v0_3 v0_4 v1_0 v1_1 v1_2 v1_3 v1_4 false
            | true =>
             some false
           | true =>
            match c_cascaderef03_Same ⟨v0_0, v0_1, v0_2, v0_3, v0_4⟩ ⟨v1_0, v1_1, v1_2, v1_3, v1_4⟩ with
            | none => none
            | some r18_0 =>
             match r15_0 with
             | false =>
              match r18_0 with
              | false =>
               l_2 v0_0 v0_1 v0_2 v0_3 v0_4 v1_0 v1_1 v1_2 v1_3 v1_4 true
              | true =>
               some false
             | true =>
              match r18_0 with
              | false =>
               some false
              | true =>
               l_2 v0_0 v0_1 v0_2 v0_3 v0_4 v1_0 v1_1 v1_2 v1_3 v1_4 true
section
variable (c_cascadelaw03_awake : Option (Bool)) (c_cascaderef03_Few : S_api_Value → Int → Option (Bool)) (c_cascaderef03_Right : S_api_Value → Option (Bool)) (c_tree_Same : S_api_Value → S_api_Value → Option (Bool)) (c_cascaderef03_Same : S_api_Value → S_api_Value → Option (Bool)) (c_tree_Alike : S_api_Value → S_api_Value → Option (Bool)) (c_cascaderef03_Sorted : S_api_Value → Option (S_api_Value)) (h_cascadelaw03_awake : (C_cascadelaw03_awake xpcall xfcall c_cascadelaw03_awake)) (h_cascaderef03_Few : (C_cascaderef03_Few xpcall xfcall @xmap e_api_Value e_api_Pair c_cascaderef03_Few)) (h_cascaderef03_Right : (C_cascaderef03_Right xpcall xfcall @xmap e_api_Value e_api_Pair c_cascaderef03_Right)) (h_tree_Same : (C_tree_Same xpcall xfcall @xmap e_api_Value e_api_Pair c_tree_Same)) (h_cascaderef03_Same : (C_cascaderef03_Same xpcall xfcall @xmap e_api_Value e_api_Pair c_cascaderef03_Same)) (h_tree_Alike : (C_tree_Alike xpcall xfcall @xmap e_api_Value e_api_Pair c_tree_Alike)) (h_cascaderef03_Sorted : (C_cascaderef03_Sorted xpcall xfcall @xmap e_api_Value e_api_Pair c_cascaderef03_Sorted)) (stk : Stk) (m : Nat)   
include c_cascadelaw03_awake c_cascaderef03_Few c_cascaderef03_Right c_tree_Same c_cascaderef03_Same c_tree_Alike c_cascaderef03_Sorted h_cascadelaw03_awake h_cascaderef03_Few h_cascaderef03_Right h_tree_Same h_cascaderef03_Same h_tree_Alike h_cascaderef03_Sorted stk m  
theorem o_cascadelaw03_TreeSame_0 (l_2 : T_cascadelaw03_TreeSame_2) (v0_0 v0_1 : Int) (v0_2 : Str) (v0_3 : Ls0) (v0_4 : Ls1) (v1_0 v1_1 : Int) (v1_2 : Str) (v1_3 : Ls0) (v1_4 : Ls1)  (h_l_2 : H_cascadelaw03_TreeSame_2 xat @xmap e_api_Value e_api_Pair m  l_2) {out} (hp : b_cascadelaw03_TreeSame_0 PP c_cascadelaw03_awake c_cascaderef03_Few c_cascaderef03_Right c_tree_Same c_cascaderef03_Same c_tree_Alike c_cascaderef03_Sorted l_2 v0_0 v0_1 v0_2 v0_3 v0_4 v1_0 v1_1 v1_2 v1_3 v1_4 = some out) : (A_cascadelaw03_TreeSame_0 xat @xmap e_api_Value e_api_Pair m  v0_0 v0_1 v0_2 v0_3 v0_4 v1_0 v1_1 v1_2 v1_3 v1_4 stk) = (O_cascadelaw03_TreeSame  m  stk) out := by
 subst hPP
 simp only [b_cascadelaw03_TreeSame_0] at hp
 unfold A_cascadelaw03_TreeSame_0
 rw [h.at_, hT]
 cbv
 cases c2 : c_cascadelaw03_awake with
 | none => simp only [c2] at hp; cases hp
 | some r1_0 =>
  simp only [c2] at hp
  have qc := fun s => (h_cascadelaw03_awake c2 s).1
  simp only [qc]
  cbv
  cases r1_0 with
  | false =>
   simp only at hp
   cbv
   have qc := fun s => (h_cascadelaw03_awake c2 s).1
   simp only [qc]
   cbv
   cases hp
   all_goals first | rfl | (cbv; done)
  | true =>
   simp only at hp
   cbv
   cases c5 : c_cascaderef03_Few ⟨v0_0, v0_1, v0_2, v0_3, v0_4⟩ 60 with
   | none => simp only [c5] at hp; cases hp
   | some r4_0 =>
    simp only [c5] at hp
    have qc := fun s => (h_cascaderef03_Few c5 s).1
    simp only [qc]
    cbv
    cases r4_0 with
    | false =>
     simp only at hp
     cbv
     have qc := fun s => (h_cascadelaw03_awake c2 s).1
     simp only [qc]
     cbv
     cases hp
     all_goals first | rfl | (cbv; done)
    | true =>
     simp only at hp
     cbv
     cases c8 : c_cascaderef03_Few ⟨v1_0, v1_1, v1_2, v1_3, v1_4⟩ 60 with
     | none => simp only [c8] at hp; cases hp
     | some r7_0 =>
      simp only [c8] at hp
      have qc := fun s => (h_cascaderef03_Few c8 s).1
      simp only [qc]
      cbv
      cases r7_0 with
      | false =>
       simp only at hp
       cbv
       have qc := fun s => (h_cascadelaw03_awake c2 s).1
       simp only [qc]
       cbv
       cases hp
       all_goals first | rfl | (cbv; done)
      | true =>
       simp only at hp
       cbv
       rw [h.at_, hT]
       cbv
       cases c11 : c_cascaderef03_Right ⟨v0_0, v0_1, v0_2, v0_3, v0_4⟩ with
       | none => simp only [c11] at hp; cases hp
       | some r10_0 =>
        simp only [c11] at hp
        have qc := fun s => (h_cascaderef03_Right c11 s).1
        simp only [qc]
        cbv
        cases r10_0 with
        | false =>
         simp only at hp
         cbv
         cases c25 : c_tree_Same ⟨v0_0, v0_1, v0_2, v0_3, v0_4⟩ ⟨v1_0, v1_1, v1_2, v1_3, v1_4⟩ with
         | none => simp only [c25] at hp; cases hp
         | some r24_0 =>
          simp only [c25] at hp
          have qc := fun s => (h_tree_Same c25 s).1
          simp only [qc]
          cbv
          cases r24_0 with
          | false =>
           simp only at hp
           cbv
           first | exact h_l_2 hp stk | (have q := h_l_2 hp stk; simp only [A_cascadelaw03_TreeSame_2, h.map_cons, h.map_nil, h.mapE_nil, h.len_nil, he_e_api_Value, he_e_api_Pair, he_e_int] at q; first | exact q | (cbv; exact q))
          | true =>
           simp only at hp
           cbv
           cases hp
           all_goals first | rfl | (cbv; done)
        | true =>
         simp only at hp
         cbv
         cases c14 : c_cascaderef03_Right ⟨v1_0, v1_1, v1_2, v1_3, v1_4⟩ with
         | none => simp only [c14] at hp; cases hp
         | some r13_0 =>
          simp only [c14] at hp
          have qc := fun s => (h_cascaderef03_Right c14 s).1
          simp only [qc]
          cbv
          cases c16 : c_tree_Same ⟨v0_0, v0_1, v0_2, v0_3, v0_4⟩ ⟨v1_0, v1_1, v1_2, v1_3, v1_4⟩ with
          | none => simp only [c16] at hp; cases hp
          | some r15_0 =>
           simp only [c16] at hp
           have qc := fun s => (h_tree_Same c16 s).1
           simp only [qc]
           cbv
           cases r13_0 with
           | false =>
            simp only at hp
            cbv
            cases r15_0 with
            | false =>
             simp only at hp
             cbv
             first | exact h_l_2 hp stk | (have q := h_l_2 hp stk; simp only [A_cascadelaw03_TreeSame_2, h.map_cons, h.map_nil, h.mapE_nil, h.len_nil, he_e_api_Value, he_e_api_Pair, he_e_int] at q; first | exact q | (cbv; exact q))
            | true =>
             simp only at hp
             cbv
             cases hp
             all_goals first | rfl | (cbv; done)
           | true =>
            simp only at hp
            cbv
            cases c19 : c_cascaderef03_Same ⟨v0_0, v0_1, v0_2, v0_3, v0_4⟩ ⟨v1_0, v1_1, v1_2, v1_3, v1_4⟩ with
            | none => simp only [c19] at hp; cases hp
            | some r18_0 =>
             simp only [c19] at hp
             have qc := fun s => (h_cascaderef03_Same c19 s).1
             simp only [qc]
             cbv
             cases r15_0 with
             | false =>
              simp only at hp
              cbv
              cases r18_0 with
              | false =>
               simp only at hp
               cbv
               first | exact h_l_2 hp stk | (have q := h_l_2 hp stk; simp only [A_cascadelaw03_TreeSame_2, h.map_cons, h.map_nil, h.mapE_nil, h.len_nil, he_e_api_Value, he_e_api_Pair, he_e_int] at q; first | exact q | (cbv; exact q))
              | true =>
               simp only at hp
               cbv
               cases hp
               all_goals first | rfl | (cbv; done)
             | true =>
              simp only at hp
              cbv
              cases r18_0 with
              | false =>
               simp only at hp
               cbv
               cases hp
               all_goals first | rfl | (cbv; done)
              | true =>
               simp only at hp
               cbv
               first | exact h_l_2 hp stk | (have q := h_l_2 hp stk; simp only [A_cascadelaw03_TreeSame_2, h.map_cons, h.map_nil, h.mapE_nil, h.len_nil, he_e_api_Value, he_e_api_Pair, he_e_int] at q; first | exact q | (cbv; exact q))
def b_cascadelaw03_TreeSame_2 (P : Prims) (c_cascadelaw03_awake : Option (Bool)) (c_cascaderef03_Few : S_api_Value → Int → Option (Bool)) (c_cascaderef03_Right : S_api_Value → Option (Bool)) (c_tree_Same : S_api_Value → S_api_Value → Option (Bool)) (c_cascaderef03_Same : S_api_Value → S_api_Value → Option (Bool)) (c_tree_Alike : S_api_Value → S_api_Value → Option (Bool)) (c_cascaderef03_Sorted : S_api_Value → Option (S_api_Value))  (v2_0 v2_1 : Int) (v2_2 : Str) (v2_3 : Ls0) (v2_4 : Ls1) (v3_0 v3_1 : Int) (v3_2 : Str) (v3_3 : Ls0) (v3_4 : Ls1) (v5 : Bool) : Option (Bool) :=
 match c_tree_Alike ⟨v2_0, v2_1, v2_2, v2_3, v2_4⟩ ⟨v3_0, v3_1, v3_2, v3_3, v3_4⟩ with
 | none => none
 | some r27_0 =>
  match v5 with
  | false =>
   match r27_0 with
   | false =>
    some true
   | true =>
    some false
  | true =>
   match c_cascaderef03_Sorted ⟨v2_0, v2_1, v2_2, v2_3, v2_4⟩ with
   | none => none
   | some ⟨r30_0_0, r30_0_1, r30_0_2, r30_0_3, r30_0_4⟩ =>
    match c_cascaderef03_Sorted ⟨v3_0, v3_1, v3_2, v3_3, v3_4⟩ with
    | none => none
    | some ⟨r32_0_0, r32_0_1, r32_0_2, r32_0_3, r32_0_4⟩ =>
     match c_cascaderef03_Same ⟨r30_0_0, r30_0_1, r30_0_2, r30_0_3, r30_0_4⟩ ⟨r32_0_0, r32_0_1, r32_0_2, r32_0_3, r32_0_4⟩ with
     | none => none
     | some r34_0 =>
      match r27_0 with
      | false =>
       match r34_0 with
       | false =>
        some true
       | true =>
        some false
      | true =>
       match r34_0 with
       | false =>
        some false
       | true =>
        some true
theorem o_cascadelaw03_TreeSame_2  (v2_0 v2_1 : Int) (v2_2 : Str) (v2_3 : Ls0) (v2_4 : Ls1) (v3_0 v3_1 : Int) (v3_2 : Str) (v3_3 : Ls0) (v3_4 : Ls1) (v5 : Bool)   {out} (hp : b_cascadelaw03_TreeSame_2 PP c_cascadelaw03_awake c_cascaderef03_Few c_cascaderef03_Right c_tree_Same c_cascaderef03_Same c_tree_Alike c_cascaderef03_Sorted  v2_0 v2_1 v2_2 v2_3 v2_4 v3_0 v3_1 v3_2 v3_3 v3_4 v5 = some out) : (A_cascadelaw03_TreeSame_2 xat @xmap e_api_Value e_api_Pair m  v2_0 v2_1 v2_2 v2_3 v2_4 v3_0 v3_1 v3_2 v3_3 v3_4 v5 stk) = (O_cascadelaw03_TreeSame  m  stk) out := by
 subst hPP
 simp only [b_cascadelaw03_TreeSame_2] at hp
 unfold A_cascadelaw03_TreeSame_2
 rw [h.at_, hT]
 cbv
 cases c28 : c_tree_Alike ⟨v2_0, v2_1, v2_2, v2_3, v2_4⟩ ⟨v3_0, v3_1, v3_2, v3_3, v3_4⟩ with
 | none => simp only [c28] at hp; cases hp
 | some r27_0 =>
  simp only [c28] at hp
  have qc := fun s => (h_tree_Alike c28 s).1
  simp only [qc]
  cbv
  cases v5 with
  | false =>
   simp only at hp
   cbv
   cases r27_0 with
   | false =>
    simp only at hp
    cbv
    cases hp
    all_goals first | rfl | (cbv; done)
   | true =>
    simp only at hp
    cbv
    cases hp
    all_goals first | rfl | (cbv; done)
  | true =>
   simp only at hp
   cbv
   cases c31 : c_cascaderef03_Sorted ⟨v2_0, v2_1, v2_2, v2_3, v2_4⟩ with
   | none => simp only [c31] at hp; cases hp
   | some y40 =>
    obtain ⟨r30_0_0, r30_0_1, r30_0_2, r30_0_3, r30_0_4⟩ := y40
    simp only [c31] at hp
    have qc := fun s => (h_cascaderef03_Sorted c31 s).1
    simp only [qc]
    cbv
    cases c33 : c_cascaderef03_Sorted ⟨v3_0, v3_1, v3_2, v3_3, v3_4⟩ with
    | none => simp only [c33] at hp; cases hp
    | some y39 =>
     obtain ⟨r32_0_0, r32_0_1, r32_0_2, r32_0_3, r32_0_4⟩ := y39
     simp only [c33] at hp
     have qc := fun s => (h_cascaderef03_Sorted c33 s).1
     simp only [qc]
     cbv
     cases c35 : c_cascaderef03_Same ⟨r30_0_0, r30_0_1, r30_0_2, r30_0_3, r30_0_4⟩ ⟨r32_0_0, r32_0_1, r32_0_2, r32_0_3, r32_0_4⟩ with
     | none => simp only [c35] at hp; cases hp
     | some r34_0 =>
      simp only [c35] at hp
      have qc := fun s => (h_cascaderef03_Same c35 s).1
      simp only [qc]
      cbv
      cases r27_0 with
      | false =>
       simp only at hp
       cbv
       cases r34_0 with
       | false =>
        simp only at hp
        cbv
        cases hp
        all_goals first | rfl | (cbv; done)
       | true =>
        simp only at hp
        cbv
        cases hp
        all_goals first | rfl | (cbv; done)
      | true =>
       simp only at hp
       cbv
       cases r34_0 with
       | false =>
        simp only at hp
        cbv
        cases hp
        all_goals first | rfl | (cbv; done)
       | true =>
        simp only at hp
        cbv
        cases hp
        all_goals first | rfl | (cbv; done)
end
end
end Go.Abs.T
