import Derived.Test.YtacabmodmbcldaaDoorDfT
set_option linter.unusedSimpArgs false
set_option linter.unusedVariables false
set_option linter.unusedSectionVars false
namespace Go.Abs.T
set_option maxRecDepth 100000
section
variable {PP : Prims} {xR : FuncId → Option RF} {xiter : (St → Rs) → St → Rs} {xG : Nat → Option (List D)} {xcall : CallF} {xpcall : FuncId → List V → Stk → Option V} {xfcall : FuncId → List V → Stk → Option (V × Stk)} {xkcall : FuncId → List (List Nat) → List V → Stk → Option (V × Level × Stk)} {xlen : List D → Nat} {xnth : List D → Nat → Option D} {xcut : List D → Nat → Nat → List D} {xapp : List D → List D → List D} {xset : List D → Nat → D → List D} {xrep : Nat → D → List D} {xallsz : Nat → List D → Bool} {xslen : Str → Nat} {xsnth : Str → Nat → Option UInt8} {xscut : Str → Nat → Nat → Str} {xsapp : Str → Str → Str} {xseq : Str → Str → Bool} {xslt : Str → Str → Bool} {xofStr : Str → List D} {xtoStr : List D → Option Str} {xdec : Str → Nat → Nat × Nat} {xenc : Int → Str} {xar : BinOp → IntKind → Int → Int → Int} {xcmp : BinOp → Int → Int → Bool} {xwrap : IntKind → Int → Int} {xisz : Int → Bool} {xneg : Int → Bool} {xnat : Int → Nat} {xofN : Nat → Int} {xbyte : UInt8 → Int} {xnle : Nat → Nat → Bool} {xnadd : Nat → Nat → Nat} {xnsub : Nat → Nat → Nat} {xfits : Nat → Nat → Bool} {xfind : D → List (D × Nat × V) → Option (Option V)} {xputE : D → Nat → V → List (D × Nat × V) → Option (List (D × Nat × V))} {xfindK : D → List D → List D → Option (Option D)} {xelen : List (D × Nat × V) → Nat} {xfrzM : List (D × Nat × V) → Option (List D × List D)} {xsamev : V → V → Bool} {xat : AtF} {xsetO : Stk → Lab → O → Stk} {xtop : Stk → Nat} {xsame : Stk → Stk → Bool} {xmap : {α : Type} → (α → D) → List α → List D} {xmapE : {α : Type} → (α → D) → List (Str × Nat × α) → List (D × Nat × V)} {pquo : BinOp → IntKind → Int → Int → Option Int} {pshf : BinOp → IntKind → Int → Int → Option Int} {pslen : Str → Int} {psidx : Str → Int → Option Int} {pssub : Str → Option Int → Option Int → Option Str} {pscat : Str → Str → Option Str} {psit : Str → Nat → Option (Int × Int × Nat)} {pslist : Str → Option (List Int)} {pofBytes : List Int → Str} {plen : {α : Type} → List α → Int} {pidx : {α : Type} → List α → Int → Option α} {psub : {α : Type} → List α → Option Int → Option Int → Option (List α)} {papp : {α : Type} → Nat → List α → List α → Option (List α)} {pset : {α : Type} → List α → Int → α → Option (List α)} {pmake : {α : Type} → Nat → α → Int → Option (List α)} {pmfind : {α : Type} → Str → List (Str × Nat × α) → Option α} {pmput : {α : Type} → Str → Nat → α → List (Str × Nat × α) → List (Str × Nat × α)} {ploop : {σ ρ : Type} → (σ → Option (σ ⊕ ρ)) → σ → Option ρ} {xT : FuncId → Option KF}
  (h : KLaws xR xiter xG xcall xpcall xfcall xkcall xlen xnth xcut xapp xset xrep xallsz xslen xsnth xscut xsapp xseq xslt xofStr xtoStr xdec xenc xar xcmp xwrap xisz xneg xnat xofN xbyte xnle xnadd xnsub xfits xfind xputE xfindK xelen xfrzM xsamev xat xsetO xtop xsame @xmap @xmapE pquo pshf pslen psidx pssub pscat psit pslist pofBytes @plen @pidx @psub @papp @pset @pmake @pmfind @pmput @ploop xT) (hT : xT = table) (hPP : PP = ⟨xar, xcmp, xwrap, xseq, xslt, xenc, pquo, pshf, pslen, psidx, pssub, pscat, psit, pslist, pofBytes, @plen, @pidx, @psub, @papp, @pset, @pmake, @pmfind, @pmput, @ploop⟩)
variable {e_api_Step : S_api_Step → D} {e_api_Value : S_api_Value → D} {e_api_Pair : S_api_Pair → D} {e_int : Int → D} (he_e_api_Step : ∀ (x_0 : Str) (x_1 : Int) (x_2 : Bool), e_api_Step ⟨x_0, x_1, x_2⟩ = (.agg [(.str x_0), (.int .i64 x_1), (.bool x_2)])) (hz_e_api_Step : ∀ l, xallsz 3 (xmap e_api_Step l) = true) (he_e_api_Value : ∀ (x_0 x_1 : Int) (x_2 : Str) (x_3 : Ls0) (x_4 : Ls1), e_api_Value ⟨x_0, x_1, x_2, x_3, x_4⟩ = (.agg [(.int .i64 x_0), (.int .i64 x_1), (.str x_2), (.sl (xmap e_api_Value x_3)), (.sl (xmap e_api_Pair x_4))])) (hz_e_api_Value : ∀ l, xallsz 5 (xmap e_api_Value l) = true) (he_e_api_Pair : ∀ (x_0 : Str) (x_1_0 x_1_1 : Int) (x_1_2 : Str) (x_1_3 : Ls0) (x_1_4 : Ls1), e_api_Pair ⟨x_0, ⟨x_1_0, x_1_1, x_1_2, x_1_3, x_1_4⟩⟩ = (.agg [(.str x_0), (.int .i64 x_1_0), (.int .i64 x_1_1), (.str x_1_2), (.sl (xmap e_api_Value x_1_3)), (.sl (xmap e_api_Pair x_1_4))])) (hz_e_api_Pair : ∀ l, xallsz 6 (xmap e_api_Pair l) = true) (he_e_int : ∀ (x : Int), e_int x = (.int .i64 x)) (hz_e_int : ∀ l, xallsz 1 (xmap e_int l) = true)
include h hT hPP he_e_api_Step hz_e_api_Step he_e_api_Value hz_e_api_Value he_e_api_Pair hz_e_api_Pair he_e_int hz_e_int
def b_path_Place_0 (P : Prims)   (v0 : Int) : Option (S_api_Step) :=
 some ⟨[], v0, true⟩
section
variable   (stk : Stk) (m : Nat)   
include   stk m  
theorem o_path_Place_0  (v0 : Int)   {out} (hp : b_path_Place_0 PP   v0 = some out) : (A_path_Place_0 xat m  v0 stk) = (O_path_Place  m  stk) out := by
 subst hPP
 simp only [b_path_Place_0] at hp
 unfold A_path_Place_0
 rw [h.at_, hT]
 cbv
 cases hp
 all_goals first | rfl | (cbv; done)
end
def b_text_Bad_0 (P : Prims) (c_unicode_utf8_DecodeRuneInString : Str → Option (Int × Int)) (l_1 : T_text_Bad_1) (v0 : Str) : Option (Int) :=
 l_1 v0 v0 0
section
variable (c_unicode_utf8_DecodeRuneInString : Str → Option (Int × Int)) (h_unicode_utf8_DecodeRuneInString : (C_unicode_utf8_DecodeRuneInString xpcall xfcall c_unicode_utf8_DecodeRuneInString)) (stk : Stk) (m : Nat)   
include c_unicode_utf8_DecodeRuneInString h_unicode_utf8_DecodeRuneInString stk m  
theorem o_text_Bad_0 (l_1 : T_text_Bad_1) (v0 : Str)  (h_l_1 : H_text_Bad_1 xat m  l_1) {out} (hp : b_text_Bad_0 PP c_unicode_utf8_DecodeRuneInString l_1 v0 = some out) : (A_text_Bad_0 xat m  v0 stk) = (O_text_Bad  m  stk) out := by
 subst hPP
 simp only [b_text_Bad_0] at hp
 unfold A_text_Bad_0
 rw [h.at_, hT]
 cbv
 first | exact h_l_1 hp stk | (have q := h_l_1 hp stk; simp only [A_text_Bad_1, h.map_cons, h.map_nil, h.mapE_nil, h.len_nil, he_e_api_Step, he_e_api_Value, he_e_api_Pair, he_e_int] at q; first | exact q | (cbv; exact q))
def b_text_Bad_1 (P : Prims) (c_unicode_utf8_DecodeRuneInString : Str → Option (Int × Int))  (v0 o8_s : Str) (o8_p : Nat) : Option ((Str × Str × Nat) ⊕ (Int)) :=
 match P.sit o8_s o8_p with
 | none =>
  some (.inr (-1))
 | some (i1, r2, n3) =>
  match P.cmp .neq r2 65533 with
  | false =>
   match P.ssub v0 (some i1) none with
   | none => none
   | some s5 =>
    match c_unicode_utf8_DecodeRuneInString s5 with
    | none => none
    | some (r7_0, r7_1) =>
     match P.cmp .eql r7_1 1 with
     | false =>
      some (.inl (v0, o8_s, n3))
     | true =>
      some (.inr i1)
  | true =>
   some (.inl (v0, o8_s, n3))
theorem o_text_Bad_1  (v0 o8_s : Str) (o8_p : Nat)   {out} (hp : b_text_Bad_1 PP c_unicode_utf8_DecodeRuneInString  v0 o8_s o8_p = some out) : (A_text_Bad_1 xat m  v0 o8_s o8_p stk) = (Sum.elim (fun (v0, o8_s, o8_p) => (A_text_Bad_1 xat m  v0 o8_s o8_p stk)) (O_text_Bad  m  stk)) out := by
 subst hPP
 simp only [b_text_Bad_1] at hp
 unfold A_text_Bad_1
 rw [h.at_, hT]
 cbv
 cases c11 : psit o8_s o8_p with
 | none =>
  simp only [c11] at hp
  have q1 := h.sit0 c11
  simp only [q1, Bool.false_eq_true, if_false]
  cbv
  rw [h.at_, hT]
  cbv
  cases hp
  all_goals first | rfl | (cbv; done)
 | some y12 =>
  obtain ⟨i1, r2, n3⟩ := y12
  simp only [c11] at hp
  obtain ⟨q1, q2, q3, q4⟩ := h.sit1 c11
  simp only [q1, q2, q3, q4, if_true]
  cbv
  rw [h.at_, hT]
  cbv
  cases c4 : xcmp .neq r2 65533 with
  | false =>
   simp only [c4] at hp ⊢
   cbv
   rw [h.at_, hT]
   cbv
   cases c6 : pssub v0 (some i1) none with
   | none => simp only [c6] at hp; cases hp
   | some s5 =>
    simp only [c6] at hp
    obtain ⟨q0, q1, q2, q3⟩ := h.ssub1 c6
    simp only [q0, q1, q2, q3, Bool.false_eq_true, if_false, if_true]
    cbv
    try simp only [q0, q1, q2, q3, if_true]
    cbv
    cases c8 : c_unicode_utf8_DecodeRuneInString s5 with
    | none => simp only [c8] at hp; cases hp
    | some y10 =>
     obtain ⟨r7_0, r7_1⟩ := y10
     simp only [c8] at hp
     have qc := fun s => (h_unicode_utf8_DecodeRuneInString c8 s).1
     simp only [qc]
     cbv
     cases c9 : xcmp .eql r7_1 1 with
     | false =>
      simp only [c9] at hp ⊢
      cbv
      cases hp
      all_goals first | rfl | (cbv; done)
     | true =>
      simp only [c9] at hp ⊢
      cbv
      cases hp
      all_goals first | rfl | (cbv; done)
  | true =>
   simp only [c4] at hp ⊢
   cbv
   cases hp
   all_goals first | rfl | (cbv; done)
end
def b_text_Right_0 (P : Prims) (c_text_Bad : Str → Option (Int))  (v0 : Str) : Option (Bool) :=
 match c_text_Bad v0 with
 | none => none
 | some r1_0 =>
  some (P.cmp .lss r1_0 0)
section
variable (c_text_Bad : Str → Option (Int)) (h_text_Bad : (C_text_Bad xpcall xfcall c_text_Bad)) (stk : Stk) (m : Nat)   
include c_text_Bad h_text_Bad stk m  
theorem o_text_Right_0  (v0 : Str)   {out} (hp : b_text_Right_0 PP c_text_Bad  v0 = some out) : (A_text_Right_0 xat m  v0 stk) = (O_text_Right  m  stk) out := by
 subst hPP
 simp only [b_text_Right_0] at hp
 unfold A_text_Right_0
 rw [h.at_, hT]
 cbv
 cases c2 : c_text_Bad v0 with
 | none => simp only [c2] at hp; cases hp
 | some r1_0 =>
  simp only [c2] at hp
  have qc := fun s => (h_text_Bad c2 s).1
  simp only [qc]
  cbv
  cases hp
  all_goals first | rfl | (cbv; done)
end
def b_path_right_0 (P : Prims) (c_text_Right : Str → Option (Bool))  (v0_0 : Str) (v0_1 : Int) (v0_2 : Bool) : Option (Bool) :=
 match v0_2 with
 | false =>
  match P.cmp .eql v0_1 0 with
  | false =>
   some false
  | true =>
   match c_text_Right v0_0 with
   | none => none
   | some r5_0 =>
    some r5_0
 | true =>
  match P.seq v0_0 [] with
  | false =>
   some false
  | true =>
   match P.cmp .geq v0_1 0 with
   | false =>
    some false
   | true =>
    some (P.cmp .leq v0_1 9007199254740991)
section
variable (c_text_Right : Str → Option (Bool)) (h_text_Right : (C_text_Right xpcall xfcall c_text_Right)) (stk : Stk) (m : Nat)   
include c_text_Right h_text_Right stk m  
theorem o_path_right_0  (v0_0 : Str) (v0_1 : Int) (v0_2 : Bool)   {out} (hp : b_path_right_0 PP c_text_Right  v0_0 v0_1 v0_2 = some out) : (A_path_right_0 xat m  v0_0 v0_1 v0_2 stk) = (O_path_right  m  stk) out := by
 subst hPP
 simp only [b_path_right_0] at hp
 unfold A_path_right_0
 rw [h.at_, hT]
 cbv
 cases v0_2 with
 | false =>
  simp only at hp
  cbv
  rw [h.at_, hT]
  cbv
  cases c4 : xcmp .eql v0_1 0 with
  | false =>
   simp only [c4] at hp ⊢
   cbv
   cases hp
   all_goals first | rfl | (cbv; done)
  | true =>
   simp only [c4] at hp ⊢
   cbv
   cases c6 : c_text_Right v0_0 with
   | none => simp only [c6] at hp; cases hp
   | some r5_0 =>
    simp only [c6] at hp
    have qc := fun s => (h_text_Right c6 s).1
    simp only [qc]
    cbv
    cases hp
    all_goals first | rfl | (cbv; done)
 | true =>
  simp only at hp
  cbv
  cases c2 : xseq v0_0 [] with
  | false =>
   simp only [c2] at hp ⊢
   cbv
   cases hp
   all_goals first | rfl | (cbv; done)
  | true =>
   simp only [c2] at hp ⊢
   cbv
   cases c3 : xcmp .geq v0_1 0 with
   | false =>
    simp only [c3] at hp ⊢
    cbv
    cases hp
    all_goals first | rfl | (cbv; done)
   | true =>
    simp only [c3] at hp ⊢
    cbv
    cases hp
    all_goals first | rfl | (cbv; done)
end
def b_path_Right_1_0 (P : Prims) (c_path_right : S_api_Step → Option (Bool))  (v0_0 : Str) (v0_1 : Int) (v0_2 : Bool) : Option (Bool) :=
 match c_path_right ⟨v0_0, v0_1, v0_2⟩ with
 | none => none
 | some r1_0 =>
  match r1_0 with
  | false =>
   some true
  | true =>
   some false
section
variable (c_path_right : S_api_Step → Option (Bool)) (h_path_right : (C_path_right xpcall xfcall c_path_right)) (stk : Stk) (m : Nat)   
include c_path_right h_path_right stk m  
theorem o_path_Right_1_0  (v0_0 : Str) (v0_1 : Int) (v0_2 : Bool)   {out} (hp : b_path_Right_1_0 PP c_path_right  v0_0 v0_1 v0_2 = some out) : (A_path_Right_1_0 xat m  v0_0 v0_1 v0_2 stk) = (O_path_Right_1  m  stk) out := by
 subst hPP
 simp only [b_path_Right_1_0] at hp
 unfold A_path_Right_1_0
 rw [h.at_, hT]
 cbv
 cases c2 : c_path_right ⟨v0_0, v0_1, v0_2⟩ with
 | none => simp only [c2] at hp; cases hp
 | some r1_0 =>
  simp only [c2] at hp
  have qc := fun s => (h_path_right c2 s).1
  simp only [qc]
  cbv
  cases r1_0 with
  | false =>
   simp only at hp
   cbv
   cases hp
   all_goals first | rfl | (cbv; done)
  | true =>
   simp only at hp
   cbv
   cases hp
   all_goals first | rfl | (cbv; done)
end
def b_slices_IndexFunc__api_Step_api_Step__0_0 (P : Prims) (c_path_Right_1 : S_api_Step → Option (Bool)) (l_1 : T_slices_IndexFunc__api_Step_api_Step__0_1) (v0 : Ls2) : Option (Int) :=
 l_1 v0 (P.len v0) 0
section
variable (c_path_Right_1 : S_api_Step → Option (Bool)) (h_path_Right_1 : (C_path_Right_1 xpcall xfcall c_path_Right_1)) (stk : Stk) (m : Nat)   
include c_path_Right_1 h_path_Right_1 stk m  
theorem o_slices_IndexFunc__api_Step_api_Step__0_0 (l_1 : T_slices_IndexFunc__api_Step_api_Step__0_1) (v0 : Ls2)  (h_l_1 : H_slices_IndexFunc__api_Step_api_Step__0_1 xat @xmap e_api_Step m  l_1) {out} (hp : b_slices_IndexFunc__api_Step_api_Step__0_0 PP c_path_Right_1 l_1 v0 = some out) : (A_slices_IndexFunc__api_Step_api_Step__0_0 xat @xmap e_api_Step m  v0 stk) = (O_slices_IndexFunc__api_Step_api_Step__0  m  stk) out := by
 subst hPP
 simp only [b_slices_IndexFunc__api_Step_api_Step__0_0] at hp
 unfold A_slices_IndexFunc__api_Step_api_Step__0_0
 rw [h.at_, hT]
 cbv
 try simp only [h.len]
 first | exact h_l_1 hp stk | (have q := h_l_1 hp stk; simp only [A_slices_IndexFunc__api_Step_api_Step__0_1, h.map_cons, h.map_nil, h.mapE_nil, h.len_nil, he_e_api_Step, he_e_api_Value, he_e_api_Pair, he_e_int] at q; first | exact q | (cbv; exact q))
def b_slices_IndexFunc__api_Step_api_Step__0_1 (P : Prims) (c_path_Right_1 : S_api_Step → Option (Bool))  (v0 : Ls2) (v7 v8 : Int) : Option ((Ls2 × Int × Int) ⊕ (Int)) :=
 match P.cmp .lss v8 v7 with
 | false =>
  some (.inr (-1))
 | true =>
  match P.idx v0 v8 with
  | none => none
  | some ⟨a2_0, a2_1, a2_2⟩ =>
   match c_path_Right_1 ⟨a2_0, a2_1, a2_2⟩ with
   | none => none
   | some r4_0 =>
    match r4_0 with
    | false =>
     some (.inl (v0, v7, P.ar .add .i64 v8 1))
    | true =>
     some (.inr v8)
theorem o_slices_IndexFunc__api_Step_api_Step__0_1  (v0 : Ls2) (v7 v8 : Int)   {out} (hp : b_slices_IndexFunc__api_Step_api_Step__0_1 PP c_path_Right_1  v0 v7 v8 = some out) : (A_slices_IndexFunc__api_Step_api_Step__0_1 xat @xmap e_api_Step m  v0 v7 v8 stk) = (Sum.elim (fun (v0, v7, v8) => (A_slices_IndexFunc__api_Step_api_Step__0_1 xat @xmap e_api_Step m  v0 v7 v8 stk)) (O_slices_IndexFunc__api_Step_api_Step__0  m  stk)) out := by
 subst hPP
 simp only [b_slices_IndexFunc__api_Step_api_Step__0_1] at hp
 unfold A_slices_IndexFunc__api_Step_api_Step__0_1
 rw [h.at_, hT]
 cbv
 cases c1 : xcmp .lss v8 v7 with
 | false =>
  simp only [c1] at hp ⊢
  cbv
  rw [h.at_, hT]
  cbv
  cases hp
  all_goals first | rfl | (cbv; done)
 | true =>
  simp only [c1] at hp ⊢
  cbv
  rw [h.at_, hT]
  cbv
  cases c3 : pidx v0 v8 with
  | none => simp only [c3] at hp; cases hp
  | some y7 =>
   obtain ⟨a2_0, a2_1, a2_2⟩ := y7
   simp only [c3] at hp
   obtain ⟨q1, q2⟩ := h.idx e_api_Step c3
   simp only [he_e_api_Step] at q2
   simp only [q1, Bool.false_eq_true, if_false]
   cbv
   try simp only [q2]
   cbv
   cases c5 : c_path_Right_1 ⟨a2_0, a2_1, a2_2⟩ with
   | none => simp only [c5] at hp; cases hp
   | some r4_0 =>
    simp only [c5] at hp
    have qc := fun s => (h_path_Right_1 c5 s).1
    simp only [qc]
    cbv
    cases r4_0 with
    | false =>
     simp only at hp
     cbv
     rw [h.at_, hT]
     cbv
     cases hp
     all_goals first | rfl | (cbv; done)
    | true =>
     simp only at hp
     cbv
     cases hp
     all_goals first | rfl | (cbv; done)
end
def b_slices_ContainsFunc__api_Step_api_Step__0_0 (P : Prims) (c_slices_IndexFunc__api_Step_api_Step__0 : Ls2 → Option (Int))  (v0 : Ls2) : Option (Bool) :=
 match c_slices_IndexFunc__api_Step_api_Step__0 v0 with
 | none => none
 | some r1_0 =>
  some (P.cmp .geq r1_0 0)
section
variable (c_slices_IndexFunc__api_Step_api_Step__0 : Ls2 → Option (Int)) (h_slices_IndexFunc__api_Step_api_Step__0 : (C_slices_IndexFunc__api_Step_api_Step__0 xpcall xfcall @xmap e_api_Step c_slices_IndexFunc__api_Step_api_Step__0)) (stk : Stk) (m : Nat)   
include c_slices_IndexFunc__api_Step_api_Step__0 h_slices_IndexFunc__api_Step_api_Step__0 stk m  
theorem o_slices_ContainsFunc__api_Step_api_Step__0_0  (v0 : Ls2)   {out} (hp : b_slices_ContainsFunc__api_Step_api_Step__0_0 PP c_slices_IndexFunc__api_Step_api_Step__0  v0 = some out) : (A_slices_ContainsFunc__api_Step_api_Step__0_0 xat @xmap e_api_Step m  v0 stk) = (O_slices_ContainsFunc__api_Step_api_Step__0  m  stk) out := by
 subst hPP
 simp only [b_slices_ContainsFunc__api_Step_api_Step__0_0] at hp
 unfold A_slices_ContainsFunc__api_Step_api_Step__0_0
 rw [h.at_, hT]
 cbv
 cases c2 : c_slices_IndexFunc__api_Step_api_Step__0 v0 with
 | none => simp only [c2] at hp; cases hp
 | some r1_0 =>
  simp only [c2] at hp
  have qc := fun s => (h_slices_IndexFunc__api_Step_api_Step__0 c2 s).1
  simp only [qc]
  cbv
  cases hp
  all_goals first | rfl | (cbv; done)
end
def b_path_Right_0 (P : Prims) (c_slices_ContainsFunc__api_Step_api_Step__0 : Ls2 → Option (Bool))  (v0 : Ls2) : Option (Bool) :=
 match P.cmp .leq (P.len v0) 30 with
 | false =>
  some false
 | true =>
  match c_slices_ContainsFunc__api_Step_api_Step__0 v0 with
  | none => none
  | some r2_0 =>
   match r2_0 with
   | false =>
    some true
   | true =>
    some false
section
variable (c_slices_ContainsFunc__api_Step_api_Step__0 : Ls2 → Option (Bool)) (h_slices_ContainsFunc__api_Step_api_Step__0 : (C_slices_ContainsFunc__api_Step_api_Step__0 xpcall xfcall @xmap e_api_Step c_slices_ContainsFunc__api_Step_api_Step__0)) (stk : Stk) (m : Nat)   
include c_slices_ContainsFunc__api_Step_api_Step__0 h_slices_ContainsFunc__api_Step_api_Step__0 stk m  
theorem o_path_Right_0  (v0 : Ls2)   {out} (hp : b_path_Right_0 PP c_slices_ContainsFunc__api_Step_api_Step__0  v0 = some out) : (A_path_Right_0 xat @xmap e_api_Step m  v0 stk) = (O_path_Right  m  stk) out := by
 subst hPP
 simp only [b_path_Right_0] at hp
 unfold A_path_Right_0
 rw [h.at_, hT]
 cbv
 try simp only [h.len]
 cases c1 : xcmp .leq (plen v0) 30 with
 | false =>
  simp only [c1] at hp ⊢
  cbv
  cases hp
  all_goals first | rfl | (cbv; done)
 | true =>
  simp only [c1] at hp ⊢
  cbv
  cases c3 : c_slices_ContainsFunc__api_Step_api_Step__0 v0 with
  | none => simp only [c3] at hp; cases hp
  | some r2_0 =>
   simp only [c3] at hp
   have qc := fun s => (h_slices_ContainsFunc__api_Step_api_Step__0 c3 s).1
   simp only [qc]
   cbv
   cases r2_0 with
   | false =>
    simp only at hp
    cbv
    cases hp
    all_goals first | rfl | (cbv; done)
   | true =>
    simp only at hp
    cbv
    cases hp
    all_goals first | rfl | (cbv; done)
end
def b_path_Value_0 (P : Prims) (c_path_Right : Ls2 → Option (Bool)) (l_2 : T_path_Value_2) (v0 : Ls2) : Option (S_api_Value × Int) :=
 match c_path_Right v0 with
 | none => none
 | some r1_0 =>
  match r1_0 with
  | false =>
   some (⟨0, 0, [], [], []⟩, 1)
  | true =>
   l_2 v0 (P.len v0) 0 0 0 [] [] [] 4 0 [] 0 [] []
section
variable (c_path_Right : Ls2 → Option (Bool)) (h_path_Right : (C_path_Right xpcall xfcall @xmap e_api_Step c_path_Right)) (stk : Stk) (m : Nat)   
include c_path_Right h_path_Right stk m  
theorem o_path_Value_0 (l_2 : T_path_Value_2) (v0 : Ls2)  (h_l_2 : H_path_Value_2 xat @xmap xlen e_api_Step e_api_Value e_api_Pair m  l_2) {out} (hp : b_path_Value_0 PP c_path_Right l_2 v0 = some out) : (A_path_Value_0 xat @xmap e_api_Step m  v0 stk) = (O_path_Value @xmap e_api_Value e_api_Pair m  stk) out := by
 subst hPP
 simp only [b_path_Value_0] at hp
 unfold A_path_Value_0
 rw [h.at_, hT]
 cbv
 cases c2 : c_path_Right v0 with
 | none => simp only [c2] at hp; cases hp
 | some r1_0 =>
  simp only [c2] at hp
  have qc := fun s => (h_path_Right c2 s).1
  simp only [qc]
  cbv
  cases r1_0 with
  | false =>
   simp only at hp
   cbv
   cases hp
   all_goals first | rfl | (cbv; done) | (simp only [h.nadd0, h.nle_refl, h.cut_all, h.cut_nil, h.map_cons, h.map_nil, h.mapE_nil, h.len_nil, he_e_api_Step, he_e_api_Value, he_e_api_Pair, he_e_int, O_path_Value, if_true]; first | done | rfl | (cbv; done) | (cbv; simp only [h.map_cons, h.map_nil, h.mapE_nil, h.len_nil, he_e_api_Step, he_e_api_Value, he_e_api_Pair, he_e_int, O_path_Value]; done))
  | true =>
   simp only at hp
   cbv
   rw [h.at_, hT]
   cbv
   try simp only [h.len]
   first | exact h_l_2 hp stk | (have q := h_l_2 hp stk; simp only [A_path_Value_2, h.map_cons, h.map_nil, h.mapE_nil, h.len_nil, he_e_api_Step, he_e_api_Value, he_e_api_Pair, he_e_int] at q; first | exact q | (cbv; exact q))
def b_path_Value_2 (P : Prims) (c_path_Right : Ls2 → Option (Bool)) (l_4 : T_path_Value_4) (v12 : Ls2) (v13 v14 o2_0 o2_1 : Int) (o2_2 : Str) (o2_3 : Ls0) (o2_4 : Ls1) (o4_0 o4_1 : Int) (o4_2 : Str) (o4_3_g : Nat) (o4_3 : Ls0) (o4_4 : Ls1) : Option ((Ls2 × Int × Int × Int × Int × Str × Ls0 × Ls1 × Int × Int × Str × Nat × Ls0 × Ls1) ⊕ (S_api_Value × Int)) :=
 match P.cmp .lss v14 v13 with
 | false =>
  some (.inr (⟨o4_0, o4_1, o4_2, o4_3, o4_4⟩, 0))
 | true =>
  match P.idx v12 v14 with
  | none => none
  | some ⟨a5_0, a5_1, a5_2⟩ =>
   match a5_2 with
   | false =>
    match P.app 80 o4_3 [⟨3, 0, a5_0, [], []⟩] with
    | none => none
    | some l10 =>
     l_4 v12 v13 v14 o2_0 o2_1 o2_2 o2_3 o2_4 o4_0 o4_1 o4_2 (o4_3_g + 1) l10 o4_4
   | true =>
    match P.app 80 o4_3 [⟨2, a5_1, [], [], []⟩] with
    | none => none
    | some l8 =>
     l_4 v12 v13 v14 o2_0 o2_1 o2_2 o2_3 o2_4 o4_0 o4_1 o4_2 (o4_3_g + 1) l8 o4_4
theorem o_path_Value_2 (l_4 : T_path_Value_4) (v12 : Ls2) (v13 v14 o2_0 o2_1 : Int) (o2_2 : Str) (o2_3 : Ls0) (o2_4 : Ls1) (o4_0 o4_1 : Int) (o4_2 : Str) (o4_3_g : Nat) (o4_3 : Ls0) (o4_4 : Ls1)  (h_l_4 : H_path_Value_4 xat @xmap xlen e_api_Step e_api_Value e_api_Pair m  l_4) {out} (hp : b_path_Value_2 PP c_path_Right l_4 v12 v13 v14 o2_0 o2_1 o2_2 o2_3 o2_4 o4_0 o4_1 o4_2 o4_3_g o4_3 o4_4 = some out) : (A_path_Value_2 xat @xmap xlen e_api_Step e_api_Value e_api_Pair m  v12 v13 v14 o2_0 o2_1 o2_2 o2_3 o2_4 o4_0 o4_1 o4_2 o4_3_g o4_3 o4_4 stk) = (Sum.elim (fun (v12, v13, v14, o2_0, o2_1, o2_2, o2_3, o2_4, o4_0, o4_1, o4_2, o4_3_g, o4_3, o4_4) => (A_path_Value_2 xat @xmap xlen e_api_Step e_api_Value e_api_Pair m  v12 v13 v14 o2_0 o2_1 o2_2 o2_3 o2_4 o4_0 o4_1 o4_2 o4_3_g o4_3 o4_4 stk)) (O_path_Value @xmap e_api_Value e_api_Pair m  stk)) out := by
 subst hPP
 simp only [b_path_Value_2] at hp
 unfold A_path_Value_2
 rw [h.at_, hT]
 cbv
 cases c4 : xcmp .lss v14 v13 with
 | false =>
  simp only [c4] at hp ⊢
  cbv
  rw [h.at_, hT]
  cbv
  cases hp
  all_goals first | rfl | (cbv; done) | (simp only [h.nadd0, h.nle_refl, h.cut_all, h.cut_nil, h.map_cons, h.map_nil, h.mapE_nil, h.len_nil, he_e_api_Step, he_e_api_Value, he_e_api_Pair, he_e_int, O_path_Value, A_path_Value_2, if_true]; first | done | rfl | (cbv; done) | (cbv; simp only [h.map_cons, h.map_nil, h.mapE_nil, h.len_nil, he_e_api_Step, he_e_api_Value, he_e_api_Pair, he_e_int, O_path_Value, A_path_Value_2]; done))
 | true =>
  simp only [c4] at hp ⊢
  cbv
  rw [h.at_, hT]
  cbv
  cases c6 : pidx v12 v14 with
  | none => simp only [c6] at hp; cases hp
  | some y12 =>
   obtain ⟨a5_0, a5_1, a5_2⟩ := y12
   simp only [c6] at hp
   obtain ⟨q1, q2⟩ := h.idx e_api_Step c6
   simp only [he_e_api_Step] at q2
   simp only [q1, Bool.false_eq_true, if_false]
   cbv
   try simp only [q2]
   cbv
   cases a5_2 with
   | false =>
    simp only at hp
    cbv
    simp only [h.allsz_nil, h.allsz_cons]
    cbv
    simp only [h.allsz_nil, h.allsz_cons]
    cbv
    cases c11 : papp 80 o4_3 [⟨3, 0, a5_0, [], []⟩] with
    | none => simp only [c11] at hp; cases hp
    | some l10 =>
     simp only [c11] at hp
     obtain ⟨q1, q2, q3⟩ := h.app e_api_Value c11 rfl
     simp only [h.map_cons, h.map_nil, h.len_nil, he_e_api_Value] at q1 q2 q3
     try simp only [h.len_nil]
     cbv
     simp only [q1, q2, q3, if_true]
     cbv
     first | exact h_l_4 hp stk | (have q := h_l_4 hp stk; simp only [A_path_Value_4, h.map_cons, h.map_nil, h.mapE_nil, h.len_nil, he_e_api_Step, he_e_api_Value, he_e_api_Pair, he_e_int] at q; first | exact q | (cbv; exact q))
   | true =>
    simp only at hp
    cbv
    simp only [h.allsz_nil, h.allsz_cons]
    cbv
    simp only [h.allsz_nil, h.allsz_cons]
    cbv
    cases c9 : papp 80 o4_3 [⟨2, a5_1, [], [], []⟩] with
    | none => simp only [c9] at hp; cases hp
    | some l8 =>
     simp only [c9] at hp
     obtain ⟨q1, q2, q3⟩ := h.app e_api_Value c9 rfl
     simp only [h.map_cons, h.map_nil, h.len_nil, he_e_api_Value] at q1 q2 q3
     try simp only [h.len_nil]
     cbv
     simp only [q1, q2, q3, if_true]
     cbv
     first | exact h_l_4 hp stk | (have q := h_l_4 hp stk; simp only [A_path_Value_4, h.map_cons, h.map_nil, h.mapE_nil, h.len_nil, he_e_api_Step, he_e_api_Value, he_e_api_Pair, he_e_int] at q; first | exact q | (cbv; exact q))
def b_path_Value_4 (P : Prims) (c_path_Right : Ls2 → Option (Bool))  (v12 : Ls2) (v13 v14 o2_0 o2_1 : Int) (o2_2 : Str) (o2_3 : Ls0) (o2_4 : Ls1) (o4_0 o4_1 : Int) (o4_2 : Str) (o4_3_g : Nat) (o4_3 : Ls0) (o4_4 : Ls1) : Option ((Ls2 × Int × Int × Int × Int × Str × Ls0 × Ls1 × Int × Int × Str × Nat × Ls0 × Ls1) ⊕ (S_api_Value × Int)) :=
 some (.inl (v12, v13, P.ar .add .i64 v14 1, o2_0, o2_1, o2_2, o2_3, o2_4, o4_0, o4_1, o4_2, o4_3_g, o4_3, o4_4))
theorem o_path_Value_4  (v12 : Ls2) (v13 v14 o2_0 o2_1 : Int) (o2_2 : Str) (o2_3 : Ls0) (o2_4 : Ls1) (o4_0 o4_1 : Int) (o4_2 : Str) (o4_3_g : Nat) (o4_3 : Ls0) (o4_4 : Ls1)   {out} (hp : b_path_Value_4 PP c_path_Right  v12 v13 v14 o2_0 o2_1 o2_2 o2_3 o2_4 o4_0 o4_1 o4_2 o4_3_g o4_3 o4_4 = some out) : (A_path_Value_4 xat @xmap xlen e_api_Step e_api_Value e_api_Pair m  v12 v13 v14 o2_0 o2_1 o2_2 o2_3 o2_4 o4_0 o4_1 o4_2 o4_3_g o4_3 o4_4 stk) = (Sum.elim (fun (v12, v13, v14, o2_0, o2_1, o2_2, o2_3, o2_4, o4_0, o4_1, o4_2, o4_3_g, o4_3, o4_4) => (A_path_Value_2 xat @xmap xlen e_api_Step e_api_Value e_api_Pair m  v12 v13 v14 o2_0 o2_1 o2_2 o2_3 o2_4 o4_0 o4_1 o4_2 o4_3_g o4_3 o4_4 stk)) (O_path_Value @xmap e_api_Value e_api_Pair m  stk)) out := by
 subst hPP
 simp only [b_path_Value_4] at hp
 unfold A_path_Value_4
 rw [h.at_, hT]
 cbv
 cases hp
 all_goals first | rfl | (cbv; done) | (simp only [h.nadd0, h.nle_refl, h.cut_all, h.cut_nil, h.map_cons, h.map_nil, h.mapE_nil, h.len_nil, he_e_api_Step, he_e_api_Value, he_e_api_Pair, he_e_int, O_path_Value, A_path_Value_2, if_true]; first | done | rfl | (cbv; done) | (cbv; simp only [h.map_cons, h.map_nil, h.mapE_nil, h.len_nil, he_e_api_Step, he_e_api_Value, he_e_api_Pair, he_e_int, O_path_Value, A_path_Value_2]; done))
end
def b_cascadelaw06_awake_0 (P : Prims) (c_path_Place : Int → Option (S_api_Step)) (c_path_Value : Ls2 → Option (S_api_Value × Int))   : Option (Bool) :=
 match c_path_Place 3 with
 | none => none
 | some ⟨r1_0_0, r1_0_1, r1_0_2⟩ =>
  match c_path_Value [⟨r1_0_0, r1_0_1, r1_0_2⟩] with
  | none => none
  | some (⟨r3_0_0, r3_0_1, r3_0_2, r3_0_3, r3_0_4⟩, r3_1) =>
   match P.cmp .eql r3_1 0 with
   | false =>
    some false
   | true =>
    match P.cmp .eql (P.len r3_0_3) 1 with
    | false =>
     some false
    | true =>
     match P.idx r3_0_3 0 with
     | none => none
     | some ⟨a7_0, a7_1, a7_2, a7_3, a7_4⟩ =>
      some (P.cmp .eql a7_1 3)
section
variable (c_path_Place : Int → Option (S_api_Step)) (c_path_Value : Ls2 → Option (S_api_Value × Int)) (h_path_Place : (C_path_Place xpcall xfcall c_path_Place)) (h_path_Value : (C_path_Value xpcall xfcall @xmap e_api_Step e_api_Value e_api_Pair c_path_Value)) (stk : Stk) (m : Nat)   
include c_path_Place c_path_Value h_path_Place h_path_Value stk m  
theorem o_cascadelaw06_awake_0     {out} (hp : b_cascadelaw06_awake_0 PP c_path_Place c_path_Value   = some out) : (A_cascadelaw06_awake_0 xat m   stk) = (O_cascadelaw06_awake  m  stk) out := by
 subst hPP
 simp only [b_cascadelaw06_awake_0] at hp
 unfold A_cascadelaw06_awake_0
 rw [h.at_, hT]
 cbv
 cases c2 : c_path_Place 3 with
 | none => simp only [c2] at hp; cases hp
 | some y11 =>
  obtain ⟨r1_0_0, r1_0_1, r1_0_2⟩ := y11
  simp only [c2] at hp
  have qc := fun s => (h_path_Place c2 s).1
  simp only [qc]
  cbv
  simp only [h.allsz_nil, h.allsz_cons]
  cbv
  cases c4 : c_path_Value [⟨r1_0_0, r1_0_1, r1_0_2⟩] with
  | none => simp only [c4] at hp; cases hp
  | some y10 =>
   obtain ⟨⟨r3_0_0, r3_0_1, r3_0_2, r3_0_3, r3_0_4⟩, r3_1⟩ := y10
   simp only [c4] at hp
   have qc := fun s => (h_path_Value c4 s).1
   try simp only [h.map_cons, h.map_nil, he_e_api_Step] at qc
   simp only [qc]
   cbv
   cases c5 : xcmp .eql r3_1 0 with
   | false =>
    simp only [c5] at hp ⊢
    cbv
    cases hp
    all_goals first | rfl | (cbv; done)
   | true =>
    simp only [c5] at hp ⊢
    cbv
    try simp only [h.len]
    cases c6 : xcmp .eql (plen r3_0_3) 1 with
    | false =>
     simp only [c6] at hp ⊢
     cbv
     cases hp
     all_goals first | rfl | (cbv; done)
    | true =>
     simp only [c6] at hp ⊢
     cbv
     cases c8 : pidx r3_0_3 0 with
     | none => simp only [c8] at hp; cases hp
     | some y9 =>
      obtain ⟨a7_0, a7_1, a7_2, a7_3, a7_4⟩ := y9
      simp only [c8] at hp
      obtain ⟨q1, q2⟩ := h.idx e_api_Value c8
      simp only [he_e_api_Value] at q2
      simp only [q1, Bool.false_eq_true, if_false]
      cbv
      try simp only [q2]
      cbv
      cases hp
      all_goals first | rfl | (cbv; done)
end
def b_cascaderef03_few_0 (P : Prims) (c_cascaderef03_few : S_api_Value → Int → Option (Int)) (l_2 : T_cascaderef03_few_2) (v0_0 v0_1 : Int) (v0_2 : Str) (v0_3 : Ls0) (v0_4 : Ls1) (v1 : Int) : Option (Int) :=
 match P.cmp .lss v1 1 with
 | false =>
  match P.cmp .gtr (P.slen v0_2) 500 with
  | false =>
   l_2 (P.ar .sub .i64 v1 1) v0_0 v0_1 v0_2 v0_3 v0_4 0
  | true =>
   some (-1)
 | true =>
  some (-1)
section
variable (c_cascaderef03_few : S_api_Value → Int → Option (Int)) (h_cascaderef03_few : (C_cascaderef03_few xpcall xfcall @xmap e_api_Value e_api_Pair c_cascaderef03_few)) (stk : Stk) (m : Nat)   
include c_cascaderef03_few h_cascaderef03_few stk m  
theorem o_cascaderef03_few_0 (l_2 : T_cascaderef03_few_2) (v0_0 v0_1 : Int) (v0_2 : Str) (v0_3 : Ls0) (v0_4 : Ls1) (v1 : Int)  (h_l_2 : H_cascaderef03_few_2 xat @xmap e_api_Value e_api_Pair m  l_2) {out} (hp : b_cascaderef03_few_0 PP c_cascaderef03_few l_2 v0_0 v0_1 v0_2 v0_3 v0_4 v1 = some out) : (A_cascaderef03_few_0 xat @xmap e_api_Value e_api_Pair m  v0_0 v0_1 v0_2 v0_3 v0_4 v1 stk) = (O_cascaderef03_few  m  stk) out := by
 subst hPP
 simp only [b_cascaderef03_few_0] at hp
 unfold A_cascaderef03_few_0
 rw [h.at_, hT]
 cbv
 cases c1 : xcmp .lss v1 1 with
 | false =>
  simp only [c1] at hp ⊢
  cbv
  try simp only [h.slen]
  cases c2 : xcmp .gtr (pslen v0_2) 500 with
  | false =>
   simp only [c2] at hp ⊢
   cbv
   rw [h.at_, hT]
   cbv
   first | exact h_l_2 hp stk | (have q := h_l_2 hp stk; simp only [A_cascaderef03_few_2, h.map_cons, h.map_nil, h.mapE_nil, h.len_nil, he_e_api_Step, he_e_api_Value, he_e_api_Pair, he_e_int] at q; first | exact q | (cbv; exact q))
  | true =>
   simp only [c2] at hp ⊢
   cbv
   cases hp
   all_goals first | rfl | (cbv; done)
 | true =>
  simp only [c1] at hp ⊢
  cbv
  cases hp
  all_goals first | rfl | (cbv; done)
def b_cascaderef03_few_2 (P : Prims) (c_cascaderef03_few : S_api_Value → Int → Option (Int)) (l_5 : T_cascaderef03_few_5) (v1 v2_0 v2_1 : Int) (v2_2 : Str) (v2_3 : Ls0) (v2_4 : Ls1) (v5 : Int) : Option ((Int × Int × Int × Str × Ls0 × Ls1 × Int) ⊕ (Int)) :=
 match P.cmp .lss v5 (P.len v2_3) with
 | false =>
  match l_5 v1 v2_0 v2_1 v2_2 v2_3 v2_4 with | none => none | some o11 => some (.inr o11)
 | true =>
  match P.cmp .geq v1 0 with
  | false =>
   match l_5 v1 v2_0 v2_1 v2_2 v2_3 v2_4 with | none => none | some o10 => some (.inr o10)
  | true =>
   match P.idx v2_3 v5 with
   | none => none
   | some ⟨a5_0, a5_1, a5_2, a5_3, a5_4⟩ =>
    match c_cascaderef03_few ⟨a5_0, a5_1, a5_2, a5_3, a5_4⟩ v1 with
    | none => none
    | some r7_0 =>
     some (.inl (r7_0, v2_0, v2_1, v2_2, v2_3, v2_4, P.ar .add .i64 v5 1))
theorem o_cascaderef03_few_2 (l_5 : T_cascaderef03_few_5) (v1 v2_0 v2_1 : Int) (v2_2 : Str) (v2_3 : Ls0) (v2_4 : Ls1) (v5 : Int)  (h_l_5 : H_cascaderef03_few_5 xat @xmap e_api_Value e_api_Pair m  l_5) {out} (hp : b_cascaderef03_few_2 PP c_cascaderef03_few l_5 v1 v2_0 v2_1 v2_2 v2_3 v2_4 v5 = some out) : (A_cascaderef03_few_2 xat @xmap e_api_Value e_api_Pair m  v1 v2_0 v2_1 v2_2 v2_3 v2_4 v5 stk) = (Sum.elim (fun (v1, v2_0, v2_1, v2_2, v2_3, v2_4, v5) => (A_cascaderef03_few_2 xat @xmap e_api_Value e_api_Pair m  v1 v2_0 v2_1 v2_2 v2_3 v2_4 v5 stk)) (O_cascaderef03_few  m  stk)) out := by
 subst hPP
 simp only [b_cascaderef03_few_2] at hp
 unfold A_cascaderef03_few_2
 rw [h.at_, hT]
 cbv
 try simp only [h.len]
 cases c3 : xcmp .lss v5 (plen v2_3) with
 | false =>
  simp only [c3] at hp ⊢
  cbv
  cases c : l_5 v1 v2_0 v2_1 v2_2 v2_3 v2_4 with
  | none => simp only [c] at hp; cases hp
  | some o11 =>
   simp only [c] at hp
   cases hp
   first | exact h_l_5 c stk | (have q := h_l_5 c stk; simp only [A_cascaderef03_few_5, h.map_cons, h.map_nil, h.mapE_nil, h.len_nil, he_e_api_Step, he_e_api_Value, he_e_api_Pair, he_e_int] at q; first | exact q | (cbv; exact q))
 | true =>
  simp only [c3] at hp ⊢
  cbv
  cases c4 : xcmp .geq v1 0 with
  | false =>
   simp only [c4] at hp ⊢
   cbv
   cases c : l_5 v1 v2_0 v2_1 v2_2 v2_3 v2_4 with
   | none => simp only [c] at hp; cases hp
   | some o10 =>
    simp only [c] at hp
    cases hp
    first | exact h_l_5 c stk | (have q := h_l_5 c stk; simp only [A_cascaderef03_few_5, h.map_cons, h.map_nil, h.mapE_nil, h.len_nil, he_e_api_Step, he_e_api_Value, he_e_api_Pair, he_e_int] at q; first | exact q | (cbv; exact q))
  | true =>
   simp only [c4] at hp ⊢
   cbv
   rw [h.at_, hT]
   cbv
   cases c6 : pidx v2_3 v5 with
   | none => simp only [c6] at hp; cases hp
   | some y9 =>
    obtain ⟨a5_0, a5_1, a5_2, a5_3, a5_4⟩ := y9
    simp only [c6] at hp
    obtain ⟨q1, q2⟩ := h.idx e_api_Value c6
    simp only [he_e_api_Value] at q2
    simp only [q1, Bool.false_eq_true, if_false]
    cbv
    try simp only [q2]
    cbv
    cases c8 : c_cascaderef03_few ⟨a5_0, a5_1, a5_2, a5_3, a5_4⟩ v1 with
    | none => simp only [c8] at hp; cases hp
    | some r7_0 =>
     simp only [c8] at hp
     have qc := fun s => (h_cascaderef03_few c8 s).1
     simp only [qc]
     cbv
     rw [h.at_, hT]
     cbv
     cases hp
     all_goals first | rfl | (cbv; done)
def b_cascaderef03_few_5 (P : Prims) (c_cascaderef03_few : S_api_Value → Int → Option (Int)) (l_6 : T_cascaderef03_few_6) (v1 v2_0 v2_1 : Int) (v2_2 : Str) (v2_3 : Ls0) (v2_4 : Ls1) : Option (Int) :=
 l_6 v1 v2_0 v2_1 v2_2 v2_3 v2_4 0
theorem o_cascaderef03_few_5 (l_6 : T_cascaderef03_few_6) (v1 v2_0 v2_1 : Int) (v2_2 : Str) (v2_3 : Ls0) (v2_4 : Ls1)  (h_l_6 : H_cascaderef03_few_6 xat @xmap e_api_Value e_api_Pair m  l_6) {out} (hp : b_cascaderef03_few_5 PP c_cascaderef03_few l_6 v1 v2_0 v2_1 v2_2 v2_3 v2_4 = some out) : (A_cascaderef03_few_5 xat @xmap e_api_Value e_api_Pair m  v1 v2_0 v2_1 v2_2 v2_3 v2_4 stk) = (O_cascaderef03_few  m  stk) out := by
 subst hPP
 simp only [b_cascaderef03_few_5] at hp
 unfold A_cascaderef03_few_5
 rw [h.at_, hT]
 cbv
 first | exact h_l_6 hp stk | (have q := h_l_6 hp stk; simp only [A_cascaderef03_few_6, h.map_cons, h.map_nil, h.mapE_nil, h.len_nil, he_e_api_Step, he_e_api_Value, he_e_api_Pair, he_e_int] at q; first | exact q | (cbv; exact q))
def b_cascaderef03_few_6 (P : Prims) (c_cascaderef03_few : S_api_Value → Int → Option (Int)) (l_10 : T_cascaderef03_few_10) (v1 v2_0 v2_1 : Int) (v2_2 : Str) (v2_3 : Ls0) (v2_4 : Ls1) (v6 : Int) : Option ((Int × Int × Int × Str × Ls0 × Ls1 × Int) ⊕ (Int)) :=
 match P.cmp .lss v6 (P.len v2_4) with
 | false =>
  match l_10 v1 with | none => none | some o21 => some (.inr o21)
 | true =>
  match P.cmp .geq v1 0 with
  | false =>
   match l_10 v1 with | none => none | some o20 => some (.inr o20)
  | true =>
   match P.idx v2_4 v6 with
   | none => none
   | some ⟨a14_0, ⟨a14_1_0, a14_1_1, a14_1_2, a14_1_3, a14_1_4⟩⟩ =>
    match P.cmp .gtr (P.slen a14_0) 500 with
    | false =>
     match c_cascaderef03_few ⟨a14_1_0, a14_1_1, a14_1_2, a14_1_3, a14_1_4⟩ v1 with
     | none => none
     | some r17_0 =>
      some (.inl (r17_0, v2_0, v2_1, v2_2, v2_3, v2_4, P.ar .add .i64 v6 1))
    | true =>
     some (.inr (-1))
theorem o_cascaderef03_few_6 (l_10 : T_cascaderef03_few_10) (v1 v2_0 v2_1 : Int) (v2_2 : Str) (v2_3 : Ls0) (v2_4 : Ls1) (v6 : Int)  (h_l_10 : H_cascaderef03_few_10 xat m  l_10) {out} (hp : b_cascaderef03_few_6 PP c_cascaderef03_few l_10 v1 v2_0 v2_1 v2_2 v2_3 v2_4 v6 = some out) : (A_cascaderef03_few_6 xat @xmap e_api_Value e_api_Pair m  v1 v2_0 v2_1 v2_2 v2_3 v2_4 v6 stk) = (Sum.elim (fun (v1, v2_0, v2_1, v2_2, v2_3, v2_4, v6) => (A_cascaderef03_few_6 xat @xmap e_api_Value e_api_Pair m  v1 v2_0 v2_1 v2_2 v2_3 v2_4 v6 stk)) (O_cascaderef03_few  m  stk)) out := by
 subst hPP
 simp only [b_cascaderef03_few_6] at hp
 unfold A_cascaderef03_few_6
 rw [h.at_, hT]
 cbv
 try simp only [h.len]
 cases c12 : xcmp .lss v6 (plen v2_4) with
 | false =>
  simp only [c12] at hp ⊢
  cbv
  cases c : l_10 v1 with
  | none => simp only [c] at hp; cases hp
  | some o21 =>
   simp only [c] at hp
   cases hp
   first | exact h_l_10 c stk | (have q := h_l_10 c stk; simp only [A_cascaderef03_few_10, h.map_cons, h.map_nil, h.mapE_nil, h.len_nil, he_e_api_Step, he_e_api_Value, he_e_api_Pair, he_e_int] at q; first | exact q | (cbv; exact q))
 | true =>
  simp only [c12] at hp ⊢
  cbv
  cases c13 : xcmp .geq v1 0 with
  | false =>
   simp only [c13] at hp ⊢
   cbv
   cases c : l_10 v1 with
   | none => simp only [c] at hp; cases hp
   | some o20 =>
    simp only [c] at hp
    cases hp
    first | exact h_l_10 c stk | (have q := h_l_10 c stk; simp only [A_cascaderef03_few_10, h.map_cons, h.map_nil, h.mapE_nil, h.len_nil, he_e_api_Step, he_e_api_Value, he_e_api_Pair, he_e_int] at q; first | exact q | (cbv; exact q))
  | true =>
   simp only [c13] at hp ⊢
   cbv
   rw [h.at_, hT]
   cbv
   cases c15 : pidx v2_4 v6 with
   | none => simp only [c15] at hp; cases hp
   | some y19 =>
    obtain ⟨a14_0, ⟨a14_1_0, a14_1_1, a14_1_2, a14_1_3, a14_1_4⟩⟩ := y19
    simp only [c15] at hp
    obtain ⟨q1, q2⟩ := h.idx e_api_Pair c15
    simp only [he_e_api_Pair] at q2
    simp only [q1, Bool.false_eq_true, if_false]
    cbv
    try simp only [q2]
    cbv
    try simp only [h.slen]
    cases c16 : xcmp .gtr (pslen a14_0) 500 with
    | false =>
     simp only [c16] at hp ⊢
     cbv
     rw [h.at_, hT]
     cbv
     obtain ⟨q1, q2⟩ := h.idx e_api_Pair c15
     simp only [he_e_api_Pair] at q2
     simp only [q1, Bool.false_eq_true, if_false]
     cbv
     try simp only [q2]
     cbv
     cases c18 : c_cascaderef03_few ⟨a14_1_0, a14_1_1, a14_1_2, a14_1_3, a14_1_4⟩ v1 with
     | none => simp only [c18] at hp; cases hp
     | some r17_0 =>
      simp only [c18] at hp
      have qc := fun s => (h_cascaderef03_few c18 s).1
      simp only [qc]
      cbv
      rw [h.at_, hT]
      cbv
      cases hp
      all_goals first | rfl | (cbv; done)
    | true =>
     simp only [c16] at hp ⊢
     cbv
     cases hp
     all_goals first | rfl | (cbv; done)
def b_cascaderef03_few_10 (P : Prims) (c_cascaderef03_few : S_api_Value → Int → Option (Int))  (v1 : Int) : Option (Int) :=
 some v1
theorem o_cascaderef03_few_10  (v1 : Int)   {out} (hp : b_cascaderef03_few_10 PP c_cascaderef03_few  v1 = some out) : (A_cascaderef03_few_10 xat m  v1 stk) = (O_cascaderef03_few  m  stk) out := by
 subst hPP
 simp only [b_cascaderef03_few_10] at hp
 unfold A_cascaderef03_few_10
 rw [h.at_, hT]
 cbv
 cases hp
 all_goals first | rfl | (cbv; done)
end
def b_cascaderef03_Few_0 (P : Prims) (c_cascaderef03_few : S_api_Value → Int → Option (Int))  (v0_0 v0_1 : Int) (v0_2 : Str) (v0_3 : Ls0) (v0_4 : Ls1) (v1 : Int) : Option (Bool) :=
 match c_cascaderef03_few ⟨v0_0, v0_1, v0_2, v0_3, v0_4⟩ v1 with
 | none => none
 | some r1_0 =>
  some (P.cmp .geq r1_0 0)
section
variable (c_cascaderef03_few : S_api_Value → Int → Option (Int)) (h_cascaderef03_few : (C_cascaderef03_few xpcall xfcall @xmap e_api_Value e_api_Pair c_cascaderef03_few)) (stk : Stk) (m : Nat)   
include c_cascaderef03_few h_cascaderef03_few stk m  
theorem o_cascaderef03_Few_0  (v0_0 v0_1 : Int) (v0_2 : Str) (v0_3 : Ls0) (v0_4 : Ls1) (v1 : Int)   {out} (hp : b_cascaderef03_Few_0 PP c_cascaderef03_few  v0_0 v0_1 v0_2 v0_3 v0_4 v1 = some out) : (A_cascaderef03_Few_0 xat @xmap e_api_Value e_api_Pair m  v0_0 v0_1 v0_2 v0_3 v0_4 v1 stk) = (O_cascaderef03_Few  m  stk) out := by
 subst hPP
 simp only [b_cascaderef03_Few_0] at hp
 unfold A_cascaderef03_Few_0
 rw [h.at_, hT]
 cbv
 cases c2 : c_cascaderef03_few ⟨v0_0, v0_1, v0_2, v0_3, v0_4⟩ v1 with
 | none => simp only [c2] at hp; cases hp
 | some r1_0 =>
  simp only [c2] at hp
  have qc := fun s => (h_cascaderef03_few c2 s).1
  simp only [qc]
  cbv
  cases hp
  all_goals first | rfl | (cbv; done)
end
def b_cascaderef06_Few_0 (P : Prims)  (l_1 : T_cascaderef06_Few_1) (v0 : Ls2) : Option (Bool) :=
 l_1 v0 0
section
variable   (stk : Stk) (m : Nat)   
include   stk m  
theorem o_cascaderef06_Few_0 (l_1 : T_cascaderef06_Few_1) (v0 : Ls2)  (h_l_1 : H_cascaderef06_Few_1 xat @xmap e_api_Step m  l_1) {out} (hp : b_cascaderef06_Few_0 PP  l_1 v0 = some out) : (A_cascaderef06_Few_0 xat @xmap e_api_Step m  v0 stk) = (O_cascaderef06_Few  m  stk) out := by
 subst hPP
 simp only [b_cascaderef06_Few_0] at hp
 unfold A_cascaderef06_Few_0
 rw [h.at_, hT]
 cbv
 first | exact h_l_1 hp stk | (have q := h_l_1 hp stk; simp only [A_cascaderef06_Few_1, h.map_cons, h.map_nil, h.mapE_nil, h.len_nil, he_e_api_Step, he_e_api_Value, he_e_api_Pair, he_e_int] at q; first | exact q | (cbv; exact q))
def b_cascaderef06_Few_1 (P : Prims)  (l_4 : T_cascaderef06_Few_4) (v0 : Ls2) (v3 : Int) : Option ((Ls2 × Int) ⊕ (Bool)) :=
 match P.cmp .lss v3 (P.len v0) with
 | false =>
  match l_4 v0 with | none => none | some o8 => some (.inr o8)
 | true =>
  match P.cmp .lss v3 50 with
  | false =>
   match l_4 v0 with | none => none | some o7 => some (.inr o7)
  | true =>
   match P.idx v0 v3 with
   | none => none
   | some ⟨a3_0, a3_1, a3_2⟩ =>
    match P.cmp .gtr (P.slen a3_0) 200 with
    | false =>
     some (.inl (v0, P.ar .add .i64 v3 1))
    | true =>
     some (.inr false)
theorem o_cascaderef06_Few_1 (l_4 : T_cascaderef06_Few_4) (v0 : Ls2) (v3 : Int)  (h_l_4 : H_cascaderef06_Few_4 xat @xmap e_api_Step m  l_4) {out} (hp : b_cascaderef06_Few_1 PP  l_4 v0 v3 = some out) : (A_cascaderef06_Few_1 xat @xmap e_api_Step m  v0 v3 stk) = (Sum.elim (fun (v0, v3) => (A_cascaderef06_Few_1 xat @xmap e_api_Step m  v0 v3 stk)) (O_cascaderef06_Few  m  stk)) out := by
 subst hPP
 simp only [b_cascaderef06_Few_1] at hp
 unfold A_cascaderef06_Few_1
 rw [h.at_, hT]
 cbv
 try simp only [h.len]
 cases c1 : xcmp .lss v3 (plen v0) with
 | false =>
  simp only [c1] at hp ⊢
  cbv
  cases c : l_4 v0 with
  | none => simp only [c] at hp; cases hp
  | some o8 =>
   simp only [c] at hp
   cases hp
   first | exact h_l_4 c stk | (have q := h_l_4 c stk; simp only [A_cascaderef06_Few_4, h.map_cons, h.map_nil, h.mapE_nil, h.len_nil, he_e_api_Step, he_e_api_Value, he_e_api_Pair, he_e_int] at q; first | exact q | (cbv; exact q))
 | true =>
  simp only [c1] at hp ⊢
  cbv
  cases c2 : xcmp .lss v3 50 with
  | false =>
   simp only [c2] at hp ⊢
   cbv
   cases c : l_4 v0 with
   | none => simp only [c] at hp; cases hp
   | some o7 =>
    simp only [c] at hp
    cases hp
    first | exact h_l_4 c stk | (have q := h_l_4 c stk; simp only [A_cascaderef06_Few_4, h.map_cons, h.map_nil, h.mapE_nil, h.len_nil, he_e_api_Step, he_e_api_Value, he_e_api_Pair, he_e_int] at q; first | exact q | (cbv; exact q))
  | true =>
   simp only [c2] at hp ⊢
   cbv
   rw [h.at_, hT]
   cbv
   cases c4 : pidx v0 v3 with
   | none => simp only [c4] at hp; cases hp
   | some y6 =>
    obtain ⟨a3_0, a3_1, a3_2⟩ := y6
    simp only [c4] at hp
    obtain ⟨q1, q2⟩ := h.idx e_api_Step c4
    simp only [he_e_api_Step] at q2
    simp only [q1, Bool.false_eq_true, if_false]
    cbv
    try simp only [q2]
    cbv
    try simp only [h.slen]
    cases c5 : xcmp .gtr (pslen a3_0) 200 with
    | false =>
     simp only [c5] at hp ⊢
     cbv
     rw [h.at_, hT]
     cbv
     cases hp
     all_goals first | rfl | (cbv; done)
    | true =>
     simp only [c5] at hp ⊢
     cbv
     cases hp
     all_goals first | rfl | (cbv; done)
def b_cascaderef06_Few_4 (P : Prims)   (v0 : Ls2) : Option (Bool) :=
 some (P.cmp .leq (P.len v0) 40)
theorem o_cascaderef06_Few_4  (v0 : Ls2)   {out} (hp : b_cascaderef06_Few_4 PP   v0 = some out) : (A_cascaderef06_Few_4 xat @xmap e_api_Step m  v0 stk) = (O_cascaderef06_Few  m  stk) out := by
 subst hPP
 simp only [b_cascaderef06_Few_4] at hp
 unfold A_cascaderef06_Few_4
 rw [h.at_, hT]
 cbv
 try simp only [h.len]
 cases hp
 all_goals first | rfl | (cbv; done)
end
def b_tree_unused_0 (P : Prims)   (v0_0 v0_1 : Int) (v0_2 : Str) (v0_3 : Ls0) (v0_4 : Ls1) : Option (Bool) :=
 match P.cmp .eql v0_0 1 with
 | false =>
  match P.cmp .eql v0_0 2 with
  | false =>
   match P.cmp .eql v0_1 0 with
   | false =>
    some false
   | true =>
    match P.cmp .eql v0_0 3 with
    | false =>
     match P.seq v0_2 [] with
     | false =>
      some false
     | true =>
      match P.cmp .eql v0_0 4 with
      | false =>
       match P.cmp .eql (P.len v0_3) 0 with
       | false =>
        some false
       | true =>
        match P.cmp .eql v0_0 5 with
        | false =>
         some (P.cmp .eql (P.len v0_4) 0)
        | true =>
         some true
      | true =>
       match P.cmp .eql v0_0 5 with
       | false =>
        some (P.cmp .eql (P.len v0_4) 0)
       | true =>
        some true
    | true =>
     match P.cmp .eql v0_0 4 with
     | false =>
      match P.cmp .eql (P.len v0_3) 0 with
      | false =>
       some false
      | true =>
       match P.cmp .eql v0_0 5 with
       | false =>
        some (P.cmp .eql (P.len v0_4) 0)
       | true =>
        some true
     | true =>
      match P.cmp .eql v0_0 5 with
      | false =>
       some (P.cmp .eql (P.len v0_4) 0)
      | true =>
       some true
  | true =>
   match P.cmp .eql v0_0 3 with
   | false =>
    match P.seq v0_2 [] with
    | false =>
     some false
    | true =>
     match P.cmp .eql v0_0 4 with
     | false =>
      match P.cmp .eql (P.len v0_3) 0 with
      | false =>
       some false
      | true =>
       match P.cmp .eql v0_0 5 with
       | false =>
        some (P.cmp .eql (P.len v0_4) 0)
       | true =>
        some true
     | true =>
      match P.cmp .eql v0_0 5 with
      | false =>
       some (P.cmp .eql (P.len v0_4) 0)
      | true =>
       some true
   | true =>
    match P.cmp .eql v0_0 4 with
    | false =>
     match P.cmp .eql (P.len v0_3) 0 with
     | false =>
      some false
     | true =>
      match P.cmp .eql v0_0 5 with
      | false =>
       some (P.cmp .eql (P.len v0_4) 0)
      | true =>
       some true
    | true =>
     match P.cmp .eql v0_0 5 with
     | false =>
      some (P.cmp .eql (P.len v0_4) 0)
     | true =>
      some true
 | true =>
  match P.cmp .eql v0_0 3 with
  | false =>
   match P.seq v0_2 [] with
   | false =>
    some false
   | true =>
    match P.cmp .eql v0_0 4 with
    | false =>
     match P.cmp .eql (P.len v0_3) 0 with
     | false =>
      some false
     | true =>
      match P.cmp .eql v0_0 5 with
      | false =>
       some (P.cmp .eql (P.len v0_4) 0)
      | true =>
       some true
    | true =>
     match P.cmp .eql v0_0 5 with
     | false =>
      some (P.cmp .eql (P.len v0_4) 0)
     | true =>
      some true
  | true =>
   match P.cmp .eql v0_0 4 with
   | false =>
    match P.cmp .eql (P.len v0_3) 0 with
    | false =>
     some false
    | true =>
     match P.cmp .eql v0_0 5 with
     | false =>
      some (P.cmp .eql (P.len v0_4) 0)
     | true =>
      some true
   | true =>
    match P.cmp .eql v0_0 5 with
    | false =>
     some (P.cmp .eql (P.len v0_4) 0)
    | true =>
     some true
section
variable   (stk : Stk) (m : Nat)   
include   stk m  
theorem o_tree_unused_0  (v0_0 v0_1 : Int) (v0_2 : Str) (v0_3 : Ls0) (v0_4 : Ls1)   {out} (hp : b_tree_unused_0 PP   v0_0 v0_1 v0_2 v0_3 v0_4 = some out) : (A_tree_unused_0 xat @xmap e_api_Value e_api_Pair m  v0_0 v0_1 v0_2 v0_3 v0_4 stk) = (O_tree_unused  m  stk) out := by
 subst hPP
 simp only [b_tree_unused_0] at hp
 unfold A_tree_unused_0
 rw [h.at_, hT]
 cbv
 cases c1 : xcmp .eql v0_0 1 with
 | false =>
  simp only [c1] at hp ⊢
  cbv
  cases c12 : xcmp .eql v0_0 2 with
  | false =>
   simp only [c12] at hp ⊢
   cbv
   cases c23 : xcmp .eql v0_1 0 with
   | false =>
    simp only [c23] at hp ⊢
    cbv
    cases hp
    all_goals first | rfl | (cbv; done)
   | true =>
    simp only [c23] at hp ⊢
    cbv
    cases c24 : xcmp .eql v0_0 3 with
    | false =>
     simp only [c24] at hp ⊢
     cbv
     cases c29 : xseq v0_2 [] with
     | false =>
      simp only [c29] at hp ⊢
      cbv
      cases hp
      all_goals first | rfl | (cbv; done)
     | true =>
      simp only [c29] at hp ⊢
      cbv
      cases c30 : xcmp .eql v0_0 4 with
      | false =>
       simp only [c30] at hp ⊢
       cbv
       try simp only [h.len]
       cases c32 : xcmp .eql (plen v0_3) 0 with
       | false =>
        simp only [c32] at hp ⊢
        cbv
        cases hp
        all_goals first | rfl | (cbv; done)
       | true =>
        simp only [c32] at hp ⊢
        cbv
        cases c33 : xcmp .eql v0_0 5 with
        | false =>
         simp only [c33] at hp ⊢
         cbv
         try simp only [h.len]
         cases hp
         all_goals first | rfl | (cbv; done)
        | true =>
         simp only [c33] at hp ⊢
         cbv
         cases hp
         all_goals first | rfl | (cbv; done)
      | true =>
       simp only [c30] at hp ⊢
       cbv
       cases c31 : xcmp .eql v0_0 5 with
       | false =>
        simp only [c31] at hp ⊢
        cbv
        try simp only [h.len]
        cases hp
        all_goals first | rfl | (cbv; done)
       | true =>
        simp only [c31] at hp ⊢
        cbv
        cases hp
        all_goals first | rfl | (cbv; done)
    | true =>
     simp only [c24] at hp ⊢
     cbv
     cases c25 : xcmp .eql v0_0 4 with
     | false =>
      simp only [c25] at hp ⊢
      cbv
      try simp only [h.len]
      cases c27 : xcmp .eql (plen v0_3) 0 with
      | false =>
       simp only [c27] at hp ⊢
       cbv
       cases hp
       all_goals first | rfl | (cbv; done)
      | true =>
       simp only [c27] at hp ⊢
       cbv
       cases c28 : xcmp .eql v0_0 5 with
       | false =>
        simp only [c28] at hp ⊢
        cbv
        try simp only [h.len]
        cases hp
        all_goals first | rfl | (cbv; done)
       | true =>
        simp only [c28] at hp ⊢
        cbv
        cases hp
        all_goals first | rfl | (cbv; done)
     | true =>
      simp only [c25] at hp ⊢
      cbv
      cases c26 : xcmp .eql v0_0 5 with
      | false =>
       simp only [c26] at hp ⊢
       cbv
       try simp only [h.len]
       cases hp
       all_goals first | rfl | (cbv; done)
      | true =>
       simp only [c26] at hp ⊢
       cbv
       cases hp
       all_goals first | rfl | (cbv; done)
  | true =>
   simp only [c12] at hp ⊢
   cbv
   cases c13 : xcmp .eql v0_0 3 with
   | false =>
    simp only [c13] at hp ⊢
    cbv
    cases c18 : xseq v0_2 [] with
    | false =>
     simp only [c18] at hp ⊢
     cbv
     cases hp
     all_goals first | rfl | (cbv; done)
    | true =>
     simp only [c18] at hp ⊢
     cbv
     cases c19 : xcmp .eql v0_0 4 with
     | false =>
      simp only [c19] at hp ⊢
      cbv
      try simp only [h.len]
      cases c21 : xcmp .eql (plen v0_3) 0 with
      | false =>
       simp only [c21] at hp ⊢
       cbv
       cases hp
       all_goals first | rfl | (cbv; done)
      | true =>
       simp only [c21] at hp ⊢
       cbv
       cases c22 : xcmp .eql v0_0 5 with
       | false =>
        simp only [c22] at hp ⊢
        cbv
        try simp only [h.len]
        cases hp
        all_goals first | rfl | (cbv; done)
       | true =>
        simp only [c22] at hp ⊢
        cbv
        cases hp
        all_goals first | rfl | (cbv; done)
     | true =>
      simp only [c19] at hp ⊢
      cbv
      cases c20 : xcmp .eql v0_0 5 with
      | false =>
       simp only [c20] at hp ⊢
       cbv
       try simp only [h.len]
       cases hp
       all_goals first | rfl | (cbv; done)
      | true =>
       simp only [c20] at hp ⊢
       cbv
       cases hp
       all_goals first | rfl | (cbv; done)
   | true =>
    simp only [c13] at hp ⊢
    cbv
    cases c14 : xcmp .eql v0_0 4 with
    | false =>
     simp only [c14] at hp ⊢
     cbv
     try simp only [h.len]
     cases c16 : xcmp .eql (plen v0_3) 0 with
     | false =>
      simp only [c16] at hp ⊢
      cbv
      cases hp
      all_goals first | rfl | (cbv; done)
     | true =>
      simp only [c16] at hp ⊢
      cbv
      cases c17 : xcmp .eql v0_0 5 with
      | false =>
       simp only [c17] at hp ⊢
       cbv
       try simp only [h.len]
       cases hp
       all_goals first | rfl | (cbv; done)
      | true =>
       simp only [c17] at hp ⊢
       cbv
       cases hp
       all_goals first | rfl | (cbv; done)
    | true =>
     simp only [c14] at hp ⊢
     cbv
     cases c15 : xcmp .eql v0_0 5 with
     | false =>
      simp only [c15] at hp ⊢
      cbv
      try simp only [h.len]
      cases hp
      all_goals first | rfl | (cbv; done)
     | true =>
      simp only [c15] at hp ⊢
      cbv
      cases hp
      all_goals first | rfl | (cbv; done)
 | true =>
  simp only [c1] at hp ⊢
  cbv
  cases c2 : xcmp .eql v0_0 3 with
  | false =>
   simp only [c2] at hp ⊢
   cbv
   cases c7 : xseq v0_2 [] with
   | false =>
    simp only [c7] at hp ⊢
    cbv
    cases hp
    all_goals first | rfl | (cbv; done)
   | true =>
    simp only [c7] at hp ⊢
    cbv
    cases c8 : xcmp .eql v0_0 4 with
    | false =>
     simp only [c8] at hp ⊢
     cbv
     try simp only [h.len]
     cases c10 : xcmp .eql (plen v0_3) 0 with
     | false =>
      simp only [c10] at hp ⊢
      cbv
      cases hp
      all_goals first | rfl | (cbv; done)
     | true =>
      simp only [c10] at hp ⊢
      cbv
      cases c11 : xcmp .eql v0_0 5 with
      | false =>
       simp only [c11] at hp ⊢
       cbv
       try simp only [h.len]
       cases hp
       all_goals first | rfl | (cbv; done)
      | true =>
       simp only [c11] at hp ⊢
       cbv
       cases hp
       all_goals first | rfl | (cbv; done)
    | true =>
     simp only [c8] at hp ⊢
     cbv
     cases c9 : xcmp .eql v0_0 5 with
     | false =>
      simp only [c9] at hp ⊢
      cbv
      try simp only [h.len]
      cases hp
      all_goals first | rfl | (cbv; done)
     | true =>
      simp only [c9] at hp ⊢
      cbv
      cases hp
      all_goals first | rfl | (cbv; done)
  | true =>
   simp only [c2] at hp ⊢
   cbv
   cases c3 : xcmp .eql v0_0 4 with
   | false =>
    simp only [c3] at hp ⊢
    cbv
    try simp only [h.len]
    cases c5 : xcmp .eql (plen v0_3) 0 with
    | false =>
     simp only [c5] at hp ⊢
     cbv
     cases hp
     all_goals first | rfl | (cbv; done)
    | true =>
     simp only [c5] at hp ⊢
     cbv
     cases c6 : xcmp .eql v0_0 5 with
     | false =>
      simp only [c6] at hp ⊢
      cbv
      try simp only [h.len]
      cases hp
      all_goals first | rfl | (cbv; done)
     | true =>
      simp only [c6] at hp ⊢
      cbv
      cases hp
      all_goals first | rfl | (cbv; done)
   | true =>
    simp only [c3] at hp ⊢
    cbv
    cases c4 : xcmp .eql v0_0 5 with
    | false =>
     simp only [c4] at hp ⊢
     cbv
     try simp only [h.len]
     cases hp
     all_goals first | rfl | (cbv; done)
    | true =>
     simp only [c4] at hp ⊢
     cbv
     cases hp
     all_goals first | rfl | (cbv; done)
end
def b_tree_keys_0 (P : Prims) (c_text_Right : Str → Option (Bool)) (l_1 : T_tree_keys_1) (v0 : Ls1) : Option (Bool) :=
 l_1 v0 (P.len v0) 0 0 []
section
variable (c_text_Right : Str → Option (Bool)) (h_text_Right : (C_text_Right xpcall xfcall c_text_Right)) (stk : Stk) (m : Nat)   
include c_text_Right h_text_Right stk m  
theorem o_tree_keys_0 (l_1 : T_tree_keys_1) (v0 : Ls1)  (h_l_1 : H_tree_keys_1 xat @xmap @xmapE e_api_Pair e_int m  l_1) {out} (hp : b_tree_keys_0 PP c_text_Right l_1 v0 = some out) : (A_tree_keys_0 xat @xmap e_api_Pair m  v0 stk) = (O_tree_keys  m  stk) out := by
 subst hPP
 simp only [b_tree_keys_0] at hp
 unfold A_tree_keys_0
 rw [h.at_, hT]
 cbv
 try simp only [h.len]
 simp only [h.frzM0]
 cbv
 first | exact h_l_1 hp stk | (have q := h_l_1 hp stk; simp only [A_tree_keys_1, h.map_cons, h.map_nil, h.mapE_nil, h.len_nil, he_e_api_Step, he_e_api_Value, he_e_api_Pair, he_e_int] at q; first | exact q | (cbv; exact q))
def b_tree_keys_1 (P : Prims) (c_text_Right : Str → Option (Bool)) (l_3 : T_tree_keys_3) (v7 : Ls1) (v8 v9 : Int) (o6_c : Nat) (o6 : (List (Str × Nat × Int))) : Option ((Ls1 × Int × Int × Nat × (List (Str × Nat × Int))) ⊕ (Bool)) :=
 match P.cmp .lss v9 v8 with
 | false =>
  some (.inr true)
 | true =>
  match P.idx v7 v9 with
  | none => none
  | some ⟨a2_0, ⟨a2_1_0, a2_1_1, a2_1_2, a2_1_3, a2_1_4⟩⟩ =>
   match P.mfind a2_0 o6 with
   | none =>
    match P.mfind a2_0 (P.mput a2_0 o6_c (P.ar .add .i64 0 1) o6) with
    | none =>
     match P.cmp .gtr 0 1 with
     | false =>
      match c_text_Right a2_0 with
      | none => none
      | some r32_0 =>
       match r32_0 with
       | false =>
        some (.inr false)
       | true =>
        l_3 v7 v8 v9 (o6_c + 1) (P.mput a2_0 o6_c (P.ar .add .i64 0 1) o6)
     | true =>
      some (.inr false)
    | some f25 =>
     match P.cmp .gtr f25 1 with
     | false =>
      match c_text_Right a2_0 with
      | none => none
      | some r28_0 =>
       match r28_0 with
       | false =>
        some (.inr false)
       | true =>
        l_3 v7 v8 v9 (o6_c + 1) (P.mput a2_0 o6_c (P.ar .add .i64 0 1) o6)
     | true =>
      some (.inr false)
   | some f5 =>
    match P.mfind a2_0 (P.mput a2_0 o6_c (P.ar .add .i64 f5 1) o6) with
    | none =>
     match P.cmp .gtr 0 1 with
     | false =>
      match c_text_Right a2_0 with
      | none => none
      | some r18_0 =>
       match r18_0 with
       | false =>
        some (.inr false)
       | true =>
        l_3 v7 v8 v9 o6_c (P.mput a2_0 o6_c (P.ar .add .i64 f5 1) o6)
     | true =>
      some (.inr false)
    | some f11 =>
     match P.cmp .gtr f11 1 with
     | false =>
      match c_text_Right a2_0 with
      | none => none
      | some r14_0 =>
       match r14_0 with
       | false =>
        some (.inr false)
       | true =>
        l_3 v7 v8 v9 o6_c (P.mput a2_0 o6_c (P.ar .add .i64 f5 1) o6)
     | true =>
      some (.inr false)
theorem o_tree_keys_1 (l_3 : T_tree_keys_3) (v7 : Ls1) (v8 v9 : Int) (o6_c : Nat) (o6 : (List (Str × Nat × Int)))  (h_l_3 : H_tree_keys_3 xat @xmap @xmapE e_api_Pair e_int m  l_3) {out} (hp : b_tree_keys_1 PP c_text_Right l_3 v7 v8 v9 o6_c o6 = some out) : (A_tree_keys_1 xat @xmap @xmapE e_api_Pair e_int m  v7 v8 v9 o6_c o6 stk) = (Sum.elim (fun (v7, v8, v9, o6_c, o6) => (A_tree_keys_1 xat @xmap @xmapE e_api_Pair e_int m  v7 v8 v9 o6_c o6 stk)) (O_tree_keys  m  stk)) out := by
 subst hPP
 simp only [b_tree_keys_1] at hp
 unfold A_tree_keys_1
 rw [h.at_, hT]
 cbv
 cases c1 : xcmp .lss v9 v8 with
 | false =>
  simp only [c1] at hp ⊢
  cbv
  rw [h.at_, hT]
  cbv
  cases hp
  all_goals first | rfl | (cbv; done)
 | true =>
  simp only [c1] at hp ⊢
  cbv
  simp only [h.frzM]
  cbv
  rw [h.at_, hT]
  cbv
  cases c3 : pidx v7 v9 with
  | none => simp only [c3] at hp; cases hp
  | some y35 =>
   obtain ⟨a2_0, ⟨a2_1_0, a2_1_1, a2_1_2, a2_1_3, a2_1_4⟩⟩ := y35
   simp only [c3] at hp
   obtain ⟨q1, q2⟩ := h.idx e_api_Pair c3
   simp only [he_e_api_Pair] at q2
   simp only [q1, Bool.false_eq_true, if_false]
   cbv
   try simp only [q2]
   cbv
   cases c4 : pmfind a2_0 o6 with
   | none =>
    simp only [c4] at hp
    have q1 := h.mfind0 e_int c4
    simp only [q1]
    cbv
    have q1 := h.mfind0 e_int c4
    have q2 := h.mput e_int a2_0 o6_c (xar .add .i64 0 1) o6 (he_e_int _)
    simp only [q1, q2]
    cbv
    cases c24 : pmfind a2_0 (pmput a2_0 o6_c (xar .add .i64 0 1) o6) with
    | none =>
     simp only [c24] at hp
     have q1 := h.mfind0 e_int c24
     simp only [q1]
     cbv
     cases c31 : xcmp .gtr 0 1 with
     | false =>
      simp only [c31] at hp ⊢
      cbv
      cases c33 : c_text_Right a2_0 with
      | none => simp only [c33] at hp; cases hp
      | some r32_0 =>
       simp only [c33] at hp
       have qc := fun s => (h_text_Right c33 s).1
       simp only [qc]
       cbv
       cases r32_0 with
       | false =>
        simp only at hp
        cbv
        cases hp
        all_goals first | rfl | (cbv; done)
       | true =>
        simp only at hp
        cbv
        simp only [h.frzM]
        cbv
        first | exact h_l_3 hp stk | (have q := h_l_3 hp stk; simp only [A_tree_keys_3, h.map_cons, h.map_nil, h.mapE_nil, h.len_nil, he_e_api_Step, he_e_api_Value, he_e_api_Pair, he_e_int] at q; first | exact q | (cbv; exact q))
     | true =>
      simp only [c31] at hp ⊢
      cbv
      cases hp
      all_goals first | rfl | (cbv; done)
    | some f25 =>
     simp only [c24] at hp
     have q1 := h.mfind1 e_int c24
     simp only [he_e_int] at q1
     simp only [q1]
     cbv
     cases c27 : xcmp .gtr f25 1 with
     | false =>
      simp only [c27] at hp ⊢
      cbv
      cases c29 : c_text_Right a2_0 with
      | none => simp only [c29] at hp; cases hp
      | some r28_0 =>
       simp only [c29] at hp
       have qc := fun s => (h_text_Right c29 s).1
       simp only [qc]
       cbv
       cases r28_0 with
       | false =>
        simp only at hp
        cbv
        cases hp
        all_goals first | rfl | (cbv; done)
       | true =>
        simp only at hp
        cbv
        simp only [h.frzM]
        cbv
        first | exact h_l_3 hp stk | (have q := h_l_3 hp stk; simp only [A_tree_keys_3, h.map_cons, h.map_nil, h.mapE_nil, h.len_nil, he_e_api_Step, he_e_api_Value, he_e_api_Pair, he_e_int] at q; first | exact q | (cbv; exact q))
     | true =>
      simp only [c27] at hp ⊢
      cbv
      cases hp
      all_goals first | rfl | (cbv; done)
   | some f5 =>
    simp only [c4] at hp
    have q1 := h.mfind1 e_int c4
    simp only [he_e_int] at q1
    simp only [q1]
    cbv
    have q1 := h.mfind1 e_int c4
    have q2 := h.mput e_int a2_0 o6_c (xar .add .i64 f5 1) o6 (he_e_int _)
    simp only [q1, q2]
    cbv
    cases c10 : pmfind a2_0 (pmput a2_0 o6_c (xar .add .i64 f5 1) o6) with
    | none =>
     simp only [c10] at hp
     have q1 := h.mfind0 e_int c10
     simp only [q1]
     cbv
     cases c17 : xcmp .gtr 0 1 with
     | false =>
      simp only [c17] at hp ⊢
      cbv
      cases c19 : c_text_Right a2_0 with
      | none => simp only [c19] at hp; cases hp
      | some r18_0 =>
       simp only [c19] at hp
       have qc := fun s => (h_text_Right c19 s).1
       simp only [qc]
       cbv
       cases r18_0 with
       | false =>
        simp only at hp
        cbv
        cases hp
        all_goals first | rfl | (cbv; done)
       | true =>
        simp only at hp
        cbv
        simp only [h.frzM]
        cbv
        first | exact h_l_3 hp stk | (have q := h_l_3 hp stk; simp only [A_tree_keys_3, h.map_cons, h.map_nil, h.mapE_nil, h.len_nil, he_e_api_Step, he_e_api_Value, he_e_api_Pair, he_e_int] at q; first | exact q | (cbv; exact q))
     | true =>
      simp only [c17] at hp ⊢
      cbv
      cases hp
      all_goals first | rfl | (cbv; done)
    | some f11 =>
     simp only [c10] at hp
     have q1 := h.mfind1 e_int c10
     simp only [he_e_int] at q1
     simp only [q1]
     cbv
     cases c13 : xcmp .gtr f11 1 with
     | false =>
      simp only [c13] at hp ⊢
      cbv
      cases c15 : c_text_Right a2_0 with
      | none => simp only [c15] at hp; cases hp
      | some r14_0 =>
       simp only [c15] at hp
       have qc := fun s => (h_text_Right c15 s).1
       simp only [qc]
       cbv
       cases r14_0 with
       | false =>
        simp only at hp
        cbv
        cases hp
        all_goals first | rfl | (cbv; done)
       | true =>
        simp only at hp
        cbv
        simp only [h.frzM]
        cbv
        first | exact h_l_3 hp stk | (have q := h_l_3 hp stk; simp only [A_tree_keys_3, h.map_cons, h.map_nil, h.mapE_nil, h.len_nil, he_e_api_Step, he_e_api_Value, he_e_api_Pair, he_e_int] at q; first | exact q | (cbv; exact q))
     | true =>
      simp only [c13] at hp ⊢
      cbv
      cases hp
      all_goals first | rfl | (cbv; done)
def b_tree_keys_3 (P : Prims) (c_text_Right : Str → Option (Bool))  (v7 : Ls1) (v8 v9 : Int) (o6_c : Nat) (o6 : (List (Str × Nat × Int))) : Option ((Ls1 × Int × Int × Nat × (List (Str × Nat × Int))) ⊕ (Bool)) :=
 some (.inl (v7, v8, P.ar .add .i64 v9 1, o6_c, o6))
theorem o_tree_keys_3  (v7 : Ls1) (v8 v9 : Int) (o6_c : Nat) (o6 : (List (Str × Nat × Int)))   {out} (hp : b_tree_keys_3 PP c_text_Right  v7 v8 v9 o6_c o6 = some out) : (A_tree_keys_3 xat @xmap @xmapE e_api_Pair e_int m  v7 v8 v9 o6_c o6 stk) = (Sum.elim (fun (v7, v8, v9, o6_c, o6) => (A_tree_keys_1 xat @xmap @xmapE e_api_Pair e_int m  v7 v8 v9 o6_c o6 stk)) (O_tree_keys  m  stk)) out := by
 subst hPP
 simp only [b_tree_keys_3] at hp
 unfold A_tree_keys_3
 rw [h.at_, hT]
 cbv
 cases hp
 simp only [h.frzM]
 cbv
 all_goals first | rfl | (cbv; done) | (simp only [h.nadd0, h.nle_refl, h.cut_all, h.cut_nil, h.map_cons, h.map_nil, h.mapE_nil, h.len_nil, he_e_api_Step, he_e_api_Value, he_e_api_Pair, he_e_int, O_tree_keys, A_tree_keys_1, if_true]; first | done | rfl | (cbv; done) | (cbv; simp only [h.map_cons, h.map_nil, h.mapE_nil, h.len_nil, he_e_api_Step, he_e_api_Value, he_e_api_Pair, he_e_int, O_tree_keys, A_tree_keys_1]; done))
end
def b_tree_Right_1_1__0_0 (P : Prims) (c_tree_Right_1__0 : S_api_Value → Int → Option (Bool))  (v0_0 v0_1 : Int) (v0_2 : Str) (v0_3 : Ls0) (v0_4 : Ls1) (v2_0 : Int) : Option (Bool) :=
 match c_tree_Right_1__0 ⟨v0_0, v0_1, v0_2, v0_3, v0_4⟩ (P.ar .sub .i64 v2_0 1) with
 | none => none
 | some r1_0 =>
  match r1_0 with
  | false =>
   some true
  | true =>
   some false
section
variable (c_tree_Right_1__0 : S_api_Value → Int → Option (Bool)) (h_tree_Right_1__0 : (C_tree_Right_1__0 xpcall xfcall @xmap e_api_Value e_api_Pair c_tree_Right_1__0)) (stk : Stk) (m : Nat) (n0 : Nat) (k0 : List Nat) (hl0 : n0 < m) 
include c_tree_Right_1__0 h_tree_Right_1__0 stk m n0 k0 hl0
theorem o_tree_Right_1_1__0_0  (v0_0 v0_1 : Int) (v0_2 : Str) (v0_3 : Ls0) (v0_4 : Ls1) (v2_0 : Int) (hg0 : getO stk ⟨n0, k0⟩ = some (.cells [(.clos (.func F.tree_Right_1) [] [(.ref ⟨n0, k0⟩ 0)])]))  {out} (hp : b_tree_Right_1_1__0_0 PP c_tree_Right_1__0  v0_0 v0_1 v0_2 v0_3 v0_4 v2_0 = some out) : (A_tree_Right_1_1__0_0 xat @xmap e_api_Value e_api_Pair m n0 k0 v0_0 v0_1 v0_2 v0_3 v0_4 v2_0 stk) = (O_tree_Right_1_1__0  m n0 k0 stk) out := by
 have hn0 : (n0 = m) = False := eq_false (Nat.ne_of_lt hl0)
 have hm0 : decide (n0 < m) = true := decide_eq_true hl0
 subst hPP
 simp only [b_tree_Right_1_1__0_0] at hp
 unfold A_tree_Right_1_1__0_0
 rw [h.at_, hT]
 cbv
 simp only [if_false, if_true, hn0, hm0, hg0]
 cbv
 cases c2 : c_tree_Right_1__0 ⟨v0_0, v0_1, v0_2, v0_3, v0_4⟩ (xar .sub .i64 v2_0 1) with
 | none => simp only [c2] at hp; cases hp
 | some r1_0 =>
  simp only [c2] at hp
  have qc := (h_tree_Right_1__0 c2 (⟨m, []⟩ :: stk) n0 k0 ((h.gb hl0 _ _).trans (hg0)) (Nat.le_of_lt hl0)).1
  simp only [qc]
  cbv
  cases r1_0 with
  | false =>
   simp only at hp
   cbv
   cases hp
   try simp only [if_false, if_true, hn0, hm0]
   all_goals first | rfl | (cbv; done)
  | true =>
   simp only at hp
   cbv
   cases hp
   try simp only [if_false, if_true, hn0, hm0]
   all_goals first | rfl | (cbv; done)
end
def b_tree_Right_1__0_0 (P : Prims) (c_tree_unused : S_api_Value → Option (Bool)) (c_text_Right : Str → Option (Bool)) (c_slices_ContainsFunc__api_Value_api_Value__0 : Ls0 → Int → Option (Bool)) (c_tree_keys : Ls1 → Option (Bool)) (c_slices_ContainsFunc__api_Pair_api_Pair__0 : Ls1 → Int → Option (Bool))  (v0_0 v0_1 : Int) (v0_2 : Str) (v0_3 : Ls0) (v0_4 : Ls1) (v1 : Int) : Option (Bool) :=
 match P.cmp .lss v1 1 with
 | false =>
  match c_tree_unused ⟨v0_0, v0_1, v0_2, v0_3, v0_4⟩ with
  | none => none
  | some r2_0 =>
   match r2_0 with
   | false =>
    some false
   | true =>
    match P.cmp .eql v0_0 0 with
    | false =>
     match P.cmp .eql v0_0 1 with
     | false =>
      match P.cmp .eql v0_0 2 with
      | false =>
       match P.cmp .eql v0_0 3 with
       | false =>
        match P.cmp .eql v0_0 4 with
        | false =>
         match P.cmp .eql v0_0 5 with
         | false =>
          some false
         | true =>
          match c_tree_keys v0_4 with
          | none => none
          | some r18_0 =>
           match r18_0 with
           | false =>
            some false
           | true =>
            match c_slices_ContainsFunc__api_Pair_api_Pair__0 v0_4 v1 with
            | none => none
            | some r21_0 =>
             match r21_0 with
             | false =>
              some true
             | true =>
              some false
        | true =>
         match c_slices_ContainsFunc__api_Value_api_Value__0 v0_3 v1 with
         | none => none
         | some r14_0 =>
          match r14_0 with
          | false =>
           some true
          | true =>
           some false
       | true =>
        match c_text_Right v0_2 with
        | none => none
        | some r11_0 =>
         some r11_0
      | true =>
       match P.cmp .geq v0_1 (-9007199254740991) with
       | false =>
        some false
       | true =>
        some (P.cmp .leq v0_1 9007199254740991)
     | true =>
      match P.cmp .eql v0_1 0 with
      | false =>
       some (P.cmp .eql v0_1 1)
      | true =>
       some true
    | true =>
     some true
 | true =>
  some false
section
variable (c_tree_unused : S_api_Value → Option (Bool)) (c_text_Right : Str → Option (Bool)) (c_slices_ContainsFunc__api_Value_api_Value__0 : Ls0 → Int → Option (Bool)) (c_tree_keys : Ls1 → Option (Bool)) (c_slices_ContainsFunc__api_Pair_api_Pair__0 : Ls1 → Int → Option (Bool)) (h_tree_unused : (C_tree_unused xpcall xfcall @xmap e_api_Value e_api_Pair c_tree_unused)) (h_text_Right : (C_text_Right xpcall xfcall c_text_Right)) (h_slices_ContainsFunc__api_Value_api_Value__0 : (C_slices_ContainsFunc__api_Value_api_Value__0 xpcall xfcall @xmap e_api_Value c_slices_ContainsFunc__api_Value_api_Value__0)) (h_tree_keys : (C_tree_keys xpcall xfcall @xmap e_api_Pair c_tree_keys)) (h_slices_ContainsFunc__api_Pair_api_Pair__0 : (C_slices_ContainsFunc__api_Pair_api_Pair__0 xpcall xfcall @xmap e_api_Pair c_slices_ContainsFunc__api_Pair_api_Pair__0)) (stk : Stk) (m : Nat) (n0 : Nat) (k0 : List Nat) (hl0 : n0 < m) 
include c_tree_unused c_text_Right c_slices_ContainsFunc__api_Value_api_Value__0 c_tree_keys c_slices_ContainsFunc__api_Pair_api_Pair__0 h_tree_unused h_text_Right h_slices_ContainsFunc__api_Value_api_Value__0 h_tree_keys h_slices_ContainsFunc__api_Pair_api_Pair__0 stk m n0 k0 hl0
theorem o_tree_Right_1__0_0  (v0_0 v0_1 : Int) (v0_2 : Str) (v0_3 : Ls0) (v0_4 : Ls1) (v1 : Int) (hg0 : getO stk ⟨n0, k0⟩ = some (.cells [(.clos (.func F.tree_Right_1) [] [(.ref ⟨n0, k0⟩ 0)])]))  {out} (hp : b_tree_Right_1__0_0 PP c_tree_unused c_text_Right c_slices_ContainsFunc__api_Value_api_Value__0 c_tree_keys c_slices_ContainsFunc__api_Pair_api_Pair__0  v0_0 v0_1 v0_2 v0_3 v0_4 v1 = some out) : (A_tree_Right_1__0_0 xat @xmap e_api_Value e_api_Pair m n0 k0 v0_0 v0_1 v0_2 v0_3 v0_4 v1 stk) = (O_tree_Right_1__0  m n0 k0 stk) out := by
 have hn0 : (n0 = m) = False := eq_false (Nat.ne_of_lt hl0)
 have hm0 : decide (n0 < m) = true := decide_eq_true hl0
 subst hPP
 simp only [b_tree_Right_1__0_0] at hp
 unfold A_tree_Right_1__0_0
 rw [h.at_, hT]
 cbv
 cases c1 : xcmp .lss v1 1 with
 | false =>
  simp only [c1] at hp ⊢
  cbv
  cases c3 : c_tree_unused ⟨v0_0, v0_1, v0_2, v0_3, v0_4⟩ with
  | none => simp only [c3] at hp; cases hp
  | some r2_0 =>
   simp only [c3] at hp
   have qc := fun s => (h_tree_unused c3 s).1
   simp only [qc]
   cbv
   cases r2_0 with
   | false =>
    simp only at hp
    cbv
    cases hp
    try simp only [if_false, if_true, hn0, hm0]
    all_goals first | rfl | (cbv; done)
   | true =>
    simp only at hp
    cbv
    try simp only [if_false, if_true, hn0, hm0]
    try cbv
    rw [h.at_, hT]
    cbv
    cases c5 : xcmp .eql v0_0 0 with
    | false =>
     simp only [c5] at hp ⊢
     cbv
     cases c6 : xcmp .eql v0_0 1 with
     | false =>
      simp only [c6] at hp ⊢
      cbv
      cases c8 : xcmp .eql v0_0 2 with
      | false =>
       simp only [c8] at hp ⊢
       cbv
       cases c10 : xcmp .eql v0_0 3 with
       | false =>
        simp only [c10] at hp ⊢
        cbv
        cases c13 : xcmp .eql v0_0 4 with
        | false =>
         simp only [c13] at hp ⊢
         cbv
         cases c17 : xcmp .eql v0_0 5 with
         | false =>
          simp only [c17] at hp ⊢
          cbv
          try simp only [if_false, if_true, hn0, hm0]
          try cbv
          rw [h.at_, hT]
          cbv
          cases hp
          try simp only [if_false, if_true, hn0, hm0]
          all_goals first | rfl | (cbv; done)
         | true =>
          simp only [c17] at hp ⊢
          cbv
          cases c19 : c_tree_keys v0_4 with
          | none => simp only [c19] at hp; cases hp
          | some r18_0 =>
           simp only [c19] at hp
           have qc := fun s => (h_tree_keys c19 s).1
           simp only [qc]
           cbv
           cases r18_0 with
           | false =>
            simp only at hp
            cbv
            cases hp
            try simp only [if_false, if_true, hn0, hm0]
            all_goals first | rfl | (cbv; done)
           | true =>
            simp only at hp
            cbv
            cases c22 : c_slices_ContainsFunc__api_Pair_api_Pair__0 v0_4 v1 with
            | none => simp only [c22] at hp; cases hp
            | some r21_0 =>
             simp only [c22] at hp
             have qc := (h_slices_ContainsFunc__api_Pair_api_Pair__0 c22 (⟨m, []⟩ :: stk) n0 k0 ((h.gb hl0 _ _).trans (hg0)) (Nat.le_of_lt hl0)).1
             simp only [qc]
             cbv
             cases r21_0 with
             | false =>
              simp only at hp
              cbv
              cases hp
              try simp only [if_false, if_true, hn0, hm0]
              all_goals first | rfl | (cbv; done)
             | true =>
              simp only at hp
              cbv
              cases hp
              try simp only [if_false, if_true, hn0, hm0]
              all_goals first | rfl | (cbv; done)
        | true =>
         simp only [c13] at hp ⊢
         cbv
         cases c15 : c_slices_ContainsFunc__api_Value_api_Value__0 v0_3 v1 with
         | none => simp only [c15] at hp; cases hp
         | some r14_0 =>
          simp only [c15] at hp
          have qc := (h_slices_ContainsFunc__api_Value_api_Value__0 c15 (⟨m, []⟩ :: stk) n0 k0 ((h.gb hl0 _ _).trans (hg0)) (Nat.le_of_lt hl0)).1
          simp only [qc]
          cbv
          cases r14_0 with
          | false =>
           simp only at hp
           cbv
           cases hp
           try simp only [if_false, if_true, hn0, hm0]
           all_goals first | rfl | (cbv; done)
          | true =>
           simp only at hp
           cbv
           cases hp
           try simp only [if_false, if_true, hn0, hm0]
           all_goals first | rfl | (cbv; done)
       | true =>
        simp only [c10] at hp ⊢
        cbv
        cases c12 : c_text_Right v0_2 with
        | none => simp only [c12] at hp; cases hp
        | some r11_0 =>
         simp only [c12] at hp
         have qc := fun s => (h_text_Right c12 s).1
         simp only [qc]
         cbv
         cases hp
         try simp only [if_false, if_true, hn0, hm0]
         all_goals first | rfl | (cbv; done)
      | true =>
       simp only [c8] at hp ⊢
       cbv
       cases c9 : xcmp .geq v0_1 (-9007199254740991) with
       | false =>
        simp only [c9] at hp ⊢
        cbv
        cases hp
        try simp only [if_false, if_true, hn0, hm0]
        all_goals first | rfl | (cbv; done)
       | true =>
        simp only [c9] at hp ⊢
        cbv
        cases hp
        try simp only [if_false, if_true, hn0, hm0]
        all_goals first | rfl | (cbv; done)
     | true =>
      simp only [c6] at hp ⊢
      cbv
      cases c7 : xcmp .eql v0_1 0 with
      | false =>
       simp only [c7] at hp ⊢
       cbv
       cases hp
       try simp only [if_false, if_true, hn0, hm0]
       all_goals first | rfl | (cbv; done)
      | true =>
       simp only [c7] at hp ⊢
       cbv
       cases hp
       try simp only [if_false, if_true, hn0, hm0]
       all_goals first | rfl | (cbv; done)
    | true =>
     simp only [c5] at hp ⊢
     cbv
     cases hp
     try simp only [if_false, if_true, hn0, hm0]
     all_goals first | rfl | (cbv; done)
 | true =>
  simp only [c1] at hp ⊢
  cbv
  cases hp
  try simp only [if_false, if_true, hn0, hm0]
  all_goals first | rfl | (cbv; done)
end
def b_slices_ContainsFunc__api_Value_api_Value__0_0 (P : Prims) (c_slices_IndexFunc__api_Value_api_Value__0 : Ls0 → Int → Option (Int))  (v0 : Ls0) (v1_c1_0 : Int) : Option (Bool) :=
 match c_slices_IndexFunc__api_Value_api_Value__0 v0 v1_c1_0 with
 | none => none
 | some r1_0 =>
  some (P.cmp .geq r1_0 0)
section
variable (c_slices_IndexFunc__api_Value_api_Value__0 : Ls0 → Int → Option (Int)) (h_slices_IndexFunc__api_Value_api_Value__0 : (C_slices_IndexFunc__api_Value_api_Value__0 xpcall xfcall @xmap e_api_Value c_slices_IndexFunc__api_Value_api_Value__0)) (stk : Stk) (m : Nat) (n0 : Nat) (k0 : List Nat) (hl0 : n0 < m) 
include c_slices_IndexFunc__api_Value_api_Value__0 h_slices_IndexFunc__api_Value_api_Value__0 stk m n0 k0 hl0
theorem o_slices_ContainsFunc__api_Value_api_Value__0_0  (v0 : Ls0) (v1_c1_0 : Int) (hg0 : getO stk ⟨n0, k0⟩ = some (.cells [(.clos (.func F.tree_Right_1) [] [(.ref ⟨n0, k0⟩ 0)])]))  {out} (hp : b_slices_ContainsFunc__api_Value_api_Value__0_0 PP c_slices_IndexFunc__api_Value_api_Value__0  v0 v1_c1_0 = some out) : (A_slices_ContainsFunc__api_Value_api_Value__0_0 xat @xmap e_api_Value m n0 k0 v0 v1_c1_0 stk) = (O_slices_ContainsFunc__api_Value_api_Value__0  m n0 k0 stk) out := by
 have hn0 : (n0 = m) = False := eq_false (Nat.ne_of_lt hl0)
 have hm0 : decide (n0 < m) = true := decide_eq_true hl0
 subst hPP
 simp only [b_slices_ContainsFunc__api_Value_api_Value__0_0] at hp
 unfold A_slices_ContainsFunc__api_Value_api_Value__0_0
 rw [h.at_, hT]
 cbv
 cases c2 : c_slices_IndexFunc__api_Value_api_Value__0 v0 v1_c1_0 with
 | none => simp only [c2] at hp; cases hp
 | some r1_0 =>
  simp only [c2] at hp
  have qc := (h_slices_IndexFunc__api_Value_api_Value__0 c2 (⟨m, []⟩ :: stk) n0 k0 ((h.gb hl0 _ _).trans (hg0)) (Nat.le_of_lt hl0)).1
  simp only [qc]
  cbv
  cases hp
  try simp only [if_false, if_true, hn0, hm0]
  all_goals first | rfl | (cbv; done)
end
def b_slices_IndexFunc__api_Value_api_Value__0_0 (P : Prims) (c_tree_Right_1_1__0 : S_api_Value → Int → Option (Bool)) (l_1 : T_slices_IndexFunc__api_Value_api_Value__0_1) (v0 : Ls0) (v1_c1_0 : Int) : Option (Int) :=
 l_1 v0 v1_c1_0 (P.len v0) 0
section
variable (c_tree_Right_1_1__0 : S_api_Value → Int → Option (Bool)) (h_tree_Right_1_1__0 : (C_tree_Right_1_1__0 xpcall xfcall @xmap e_api_Value e_api_Pair c_tree_Right_1_1__0)) (stk : Stk) (m : Nat) (n0 : Nat) (k0 : List Nat) (hl0 : n0 < m) 
include c_tree_Right_1_1__0 h_tree_Right_1_1__0 stk m n0 k0 hl0
theorem o_slices_IndexFunc__api_Value_api_Value__0_0 (l_1 : T_slices_IndexFunc__api_Value_api_Value__0_1) (v0 : Ls0) (v1_c1_0 : Int) (hg0 : getO stk ⟨n0, k0⟩ = some (.cells [(.clos (.func F.tree_Right_1) [] [(.ref ⟨n0, k0⟩ 0)])])) (h_l_1 : H_slices_IndexFunc__api_Value_api_Value__0_1 xat @xmap e_api_Value m n0 k0 l_1) {out} (hp : b_slices_IndexFunc__api_Value_api_Value__0_0 PP c_tree_Right_1_1__0 l_1 v0 v1_c1_0 = some out) : (A_slices_IndexFunc__api_Value_api_Value__0_0 xat @xmap e_api_Value m n0 k0 v0 v1_c1_0 stk) = (O_slices_IndexFunc__api_Value_api_Value__0  m n0 k0 stk) out := by
 have hn0 : (n0 = m) = False := eq_false (Nat.ne_of_lt hl0)
 have hm0 : decide (n0 < m) = true := decide_eq_true hl0
 subst hPP
 simp only [b_slices_IndexFunc__api_Value_api_Value__0_0] at hp
 unfold A_slices_IndexFunc__api_Value_api_Value__0_0
 rw [h.at_, hT]
 cbv
 try simp only [h.len]
 try simp only [if_false, if_true, hn0, hm0]
 first | exact h_l_1 hp stk (hg0) | (have q := h_l_1 hp stk (hg0); simp only [A_slices_IndexFunc__api_Value_api_Value__0_1, h.map_cons, h.map_nil, h.mapE_nil, h.len_nil, he_e_api_Step, he_e_api_Value, he_e_api_Pair, he_e_int] at q; first | exact q | (cbv; exact q))
def b_slices_IndexFunc__api_Value_api_Value__0_1 (P : Prims) (c_tree_Right_1_1__0 : S_api_Value → Int → Option (Bool))  (v0 : Ls0) (v1_c1_0 v7 v8 : Int) : Option ((Ls0 × Int × Int × Int) ⊕ (Int)) :=
 match P.cmp .lss v8 v7 with
 | false =>
  some (.inr (-1))
 | true =>
  match P.idx v0 v8 with
  | none => none
  | some ⟨a2_0, a2_1, a2_2, a2_3, a2_4⟩ =>
   match c_tree_Right_1_1__0 ⟨a2_0, a2_1, a2_2, a2_3, a2_4⟩ v1_c1_0 with
   | none => none
   | some r4_0 =>
    match r4_0 with
    | false =>
     some (.inl (v0, v1_c1_0, v7, P.ar .add .i64 v8 1))
    | true =>
     some (.inr v8)
theorem o_slices_IndexFunc__api_Value_api_Value__0_1  (v0 : Ls0) (v1_c1_0 v7 v8 : Int) (hg0 : getO stk ⟨n0, k0⟩ = some (.cells [(.clos (.func F.tree_Right_1) [] [(.ref ⟨n0, k0⟩ 0)])]))  {out} (hp : b_slices_IndexFunc__api_Value_api_Value__0_1 PP c_tree_Right_1_1__0  v0 v1_c1_0 v7 v8 = some out) : (A_slices_IndexFunc__api_Value_api_Value__0_1 xat @xmap e_api_Value m n0 k0 v0 v1_c1_0 v7 v8 stk) = (Sum.elim (fun (v0, v1_c1_0, v7, v8) => (A_slices_IndexFunc__api_Value_api_Value__0_1 xat @xmap e_api_Value m n0 k0 v0 v1_c1_0 v7 v8 stk)) (O_slices_IndexFunc__api_Value_api_Value__0  m n0 k0 stk)) out := by
 have hn0 : (n0 = m) = False := eq_false (Nat.ne_of_lt hl0)
 have hm0 : decide (n0 < m) = true := decide_eq_true hl0
 subst hPP
 simp only [b_slices_IndexFunc__api_Value_api_Value__0_1] at hp
 unfold A_slices_IndexFunc__api_Value_api_Value__0_1
 rw [h.at_, hT]
 cbv
 cases c1 : xcmp .lss v8 v7 with
 | false =>
  simp only [c1] at hp ⊢
  cbv
  try simp only [if_false, if_true, hn0, hm0]
  try cbv
  rw [h.at_, hT]
  cbv
  cases hp
  try simp only [if_false, if_true, hn0, hm0]
  all_goals first | rfl | (cbv; done)
 | true =>
  simp only [c1] at hp ⊢
  cbv
  try simp only [if_false, if_true, hn0, hm0]
  try cbv
  rw [h.at_, hT]
  cbv
  cases c3 : pidx v0 v8 with
  | none => simp only [c3] at hp; cases hp
  | some y7 =>
   obtain ⟨a2_0, a2_1, a2_2, a2_3, a2_4⟩ := y7
   simp only [c3] at hp
   obtain ⟨q1, q2⟩ := h.idx e_api_Value c3
   simp only [he_e_api_Value] at q2
   simp only [q1, Bool.false_eq_true, if_false]
   cbv
   try simp only [q2]
   cbv
   cases c5 : c_tree_Right_1_1__0 ⟨a2_0, a2_1, a2_2, a2_3, a2_4⟩ v1_c1_0 with
   | none => simp only [c5] at hp; cases hp
   | some r4_0 =>
    simp only [c5] at hp
    have qc := (h_tree_Right_1_1__0 c5 (⟨m, []⟩ :: stk) n0 k0 ((h.gb hl0 _ _).trans (hg0)) (Nat.le_of_lt hl0)).1
    simp only [qc]
    cbv
    cases r4_0 with
    | false =>
     simp only at hp
     cbv
     try simp only [if_false, if_true, hn0, hm0]
     try cbv
     rw [h.at_, hT]
     cbv
     cases hp
     try simp only [if_false, if_true, hn0, hm0]
     all_goals first | rfl | (cbv; done)
    | true =>
     simp only at hp
     cbv
     cases hp
     try simp only [if_false, if_true, hn0, hm0]
     all_goals first | rfl | (cbv; done)
end
def b_slices_ContainsFunc__api_Pair_api_Pair__0_0 (P : Prims) (c_slices_IndexFunc__api_Pair_api_Pair__0 : Ls1 → Int → Option (Int))  (v0 : Ls1) (v1_c1_0 : Int) : Option (Bool) :=
 match c_slices_IndexFunc__api_Pair_api_Pair__0 v0 v1_c1_0 with
 | none => none
 | some r1_0 =>
  some (P.cmp .geq r1_0 0)
section
variable (c_slices_IndexFunc__api_Pair_api_Pair__0 : Ls1 → Int → Option (Int)) (h_slices_IndexFunc__api_Pair_api_Pair__0 : (C_slices_IndexFunc__api_Pair_api_Pair__0 xpcall xfcall @xmap e_api_Pair c_slices_IndexFunc__api_Pair_api_Pair__0)) (stk : Stk) (m : Nat) (n0 : Nat) (k0 : List Nat) (hl0 : n0 < m) 
include c_slices_IndexFunc__api_Pair_api_Pair__0 h_slices_IndexFunc__api_Pair_api_Pair__0 stk m n0 k0 hl0
theorem o_slices_ContainsFunc__api_Pair_api_Pair__0_0  (v0 : Ls1) (v1_c1_0 : Int) (hg0 : getO stk ⟨n0, k0⟩ = some (.cells [(.clos (.func F.tree_Right_1) [] [(.ref ⟨n0, k0⟩ 0)])]))  {out} (hp : b_slices_ContainsFunc__api_Pair_api_Pair__0_0 PP c_slices_IndexFunc__api_Pair_api_Pair__0  v0 v1_c1_0 = some out) : (A_slices_ContainsFunc__api_Pair_api_Pair__0_0 xat @xmap e_api_Pair m n0 k0 v0 v1_c1_0 stk) = (O_slices_ContainsFunc__api_Pair_api_Pair__0  m n0 k0 stk) out := by
 have hn0 : (n0 = m) = False := eq_false (Nat.ne_of_lt hl0)
 have hm0 : decide (n0 < m) = true := decide_eq_true hl0
 subst hPP
 simp only [b_slices_ContainsFunc__api_Pair_api_Pair__0_0] at hp
 unfold A_slices_ContainsFunc__api_Pair_api_Pair__0_0
 rw [h.at_, hT]
 cbv
 cases c2 : c_slices_IndexFunc__api_Pair_api_Pair__0 v0 v1_c1_0 with
 | none => simp only [c2] at hp; cases hp
 | some r1_0 =>
  simp only [c2] at hp
  have qc := (h_slices_IndexFunc__api_Pair_api_Pair__0 c2 (⟨m, []⟩ :: stk) n0 k0 ((h.gb hl0 _ _).trans (hg0)) (Nat.le_of_lt hl0)).1
  simp only [qc]
  cbv
  cases hp
  try simp only [if_false, if_true, hn0, hm0]
  all_goals first | rfl | (cbv; done)
end
def b_slices_IndexFunc__api_Pair_api_Pair__0_0 (P : Prims) (c_tree_Right_1_2__0 : S_api_Pair → Int → Option (Bool)) (l_1 : T_slices_IndexFunc__api_Pair_api_Pair__0_1) (v0 : Ls1) (v1_c1_0 : Int) : Option (Int) :=
 l_1 v0 v1_c1_0 (P.len v0) 0
section
variable (c_tree_Right_1_2__0 : S_api_Pair → Int → Option (Bool)) (h_tree_Right_1_2__0 : (C_tree_Right_1_2__0 xpcall xfcall @xmap e_api_Value e_api_Pair c_tree_Right_1_2__0)) (stk : Stk) (m : Nat) (n0 : Nat) (k0 : List Nat) (hl0 : n0 < m) 
include c_tree_Right_1_2__0 h_tree_Right_1_2__0 stk m n0 k0 hl0
theorem o_slices_IndexFunc__api_Pair_api_Pair__0_0 (l_1 : T_slices_IndexFunc__api_Pair_api_Pair__0_1) (v0 : Ls1) (v1_c1_0 : Int) (hg0 : getO stk ⟨n0, k0⟩ = some (.cells [(.clos (.func F.tree_Right_1) [] [(.ref ⟨n0, k0⟩ 0)])])) (h_l_1 : H_slices_IndexFunc__api_Pair_api_Pair__0_1 xat @xmap e_api_Pair m n0 k0 l_1) {out} (hp : b_slices_IndexFunc__api_Pair_api_Pair__0_0 PP c_tree_Right_1_2__0 l_1 v0 v1_c1_0 = some out) : (A_slices_IndexFunc__api_Pair_api_Pair__0_0 xat @xmap e_api_Pair m n0 k0 v0 v1_c1_0 stk) = (O_slices_IndexFunc__api_Pair_api_Pair__0  m n0 k0 stk) out := by
 have hn0 : (n0 = m) = False := eq_false (Nat.ne_of_lt hl0)
 have hm0 : decide (n0 < m) = true := decide_eq_true hl0
 subst hPP
 simp only [b_slices_IndexFunc__api_Pair_api_Pair__0_0] at hp
 unfold A_slices_IndexFunc__api_Pair_api_Pair__0_0
 rw [h.at_, hT]
 cbv
 try simp only [h.len]
 try simp only [if_false, if_true, hn0, hm0]
 first | exact h_l_1 hp stk (hg0) | (have q := h_l_1 hp stk (hg0); simp only [A_slices_IndexFunc__api_Pair_api_Pair__0_1, h.map_cons, h.map_nil, h.mapE_nil, h.len_nil, he_e_api_Step, he_e_api_Value, he_e_api_Pair, he_e_int] at q; first | exact q | (cbv; exact q))
def b_slices_IndexFunc__api_Pair_api_Pair__0_1 (P : Prims) (c_tree_Right_1_2__0 : S_api_Pair → Int → Option (Bool))  (v0 : Ls1) (v1_c1_0 v7 v8 : Int) : Option ((Ls1 × Int × Int × Int) ⊕ (Int)) :=
 match P.cmp .lss v8 v7 with
 | false =>
  some (.inr (-1))
 | true =>
  match P.idx v0 v8 with
  | none => none
  | some ⟨a2_0, ⟨a2_1_0, a2_1_1, a2_1_2, a2_1_3, a2_1_4⟩⟩ =>
   match c_tree_Right_1_2__0 ⟨a2_0, ⟨a2_1_0, a2_1_1, a2_1_2, a2_1_3, a2_1_4⟩⟩ v1_c1_0 with
   | none => none
   | some r4_0 =>
    match r4_0 with
    | false =>
     some (.inl (v0, v1_c1_0, v7, P.ar .add .i64 v8 1))
    | true =>
     some (.inr v8)
theorem o_slices_IndexFunc__api_Pair_api_Pair__0_1  (v0 : Ls1) (v1_c1_0 v7 v8 : Int) (hg0 : getO stk ⟨n0, k0⟩ = some (.cells [(.clos (.func F.tree_Right_1) [] [(.ref ⟨n0, k0⟩ 0)])]))  {out} (hp : b_slices_IndexFunc__api_Pair_api_Pair__0_1 PP c_tree_Right_1_2__0  v0 v1_c1_0 v7 v8 = some out) : (A_slices_IndexFunc__api_Pair_api_Pair__0_1 xat @xmap e_api_Pair m n0 k0 v0 v1_c1_0 v7 v8 stk) = (Sum.elim (fun (v0, v1_c1_0, v7, v8) => (A_slices_IndexFunc__api_Pair_api_Pair__0_1 xat @xmap e_api_Pair m n0 k0 v0 v1_c1_0 v7 v8 stk)) (O_slices_IndexFunc__api_Pair_api_Pair__0  m n0 k0 stk)) out := by
 have hn0 : (n0 = m) = False := eq_false (Nat.ne_of_lt hl0)
 have hm0 : decide (n0 < m) = true := decide_eq_true hl0
 subst hPP
 simp only [b_slices_IndexFunc__api_Pair_api_Pair__0_1] at hp
 unfold A_slices_IndexFunc__api_Pair_api_Pair__0_1
 rw [h.at_, hT]
 cbv
 cases c1 : xcmp .lss v8 v7 with
 | false =>
  simp only [c1] at hp ⊢
  cbv
  try simp only [if_false, if_true, hn0, hm0]
  try cbv
  rw [h.at_, hT]
  cbv
  cases hp
  try simp only [if_false, if_true, hn0, hm0]
  all_goals first | rfl | (cbv; done)
 | true =>
  simp only [c1] at hp ⊢
  cbv
  try simp only [if_false, if_true, hn0, hm0]
  try cbv
  rw [h.at_, hT]
  cbv
  cases c3 : pidx v0 v8 with
  | none => simp only [c3] at hp; cases hp
  | some y7 =>
   obtain ⟨a2_0, ⟨a2_1_0, a2_1_1, a2_1_2, a2_1_3, a2_1_4⟩⟩ := y7
   simp only [c3] at hp
   obtain ⟨q1, q2⟩ := h.idx e_api_Pair c3
   simp only [he_e_api_Pair] at q2
   simp only [q1, Bool.false_eq_true, if_false]
   cbv
   try simp only [q2]
   cbv
   cases c5 : c_tree_Right_1_2__0 ⟨a2_0, ⟨a2_1_0, a2_1_1, a2_1_2, a2_1_3, a2_1_4⟩⟩ v1_c1_0 with
   | none => simp only [c5] at hp; cases hp
   | some r4_0 =>
    simp only [c5] at hp
    have qc := (h_tree_Right_1_2__0 c5 (⟨m, []⟩ :: stk) n0 k0 ((h.gb hl0 _ _).trans (hg0)) (Nat.le_of_lt hl0)).1
    simp only [qc]
    cbv
    cases r4_0 with
    | false =>
     simp only at hp
     cbv
     try simp only [if_false, if_true, hn0, hm0]
     try cbv
     rw [h.at_, hT]
     cbv
     cases hp
     try simp only [if_false, if_true, hn0, hm0]
     all_goals first | rfl | (cbv; done)
    | true =>
     simp only at hp
     cbv
     cases hp
     try simp only [if_false, if_true, hn0, hm0]
     all_goals first | rfl | (cbv; done)
end
def b_tree_Right_1_2__0_0 (P : Prims) (c_tree_Right_1__0 : S_api_Value → Int → Option (Bool))  (v0_0 : Str) (v0_1_0 v0_1_1 : Int) (v0_1_2 : Str) (v0_1_3 : Ls0) (v0_1_4 : Ls1) (v2_0 : Int) : Option (Bool) :=
 match c_tree_Right_1__0 ⟨v0_1_0, v0_1_1, v0_1_2, v0_1_3, v0_1_4⟩ (P.ar .sub .i64 v2_0 1) with
 | none => none
 | some r1_0 =>
  match r1_0 with
  | false =>
   some true
  | true =>
   some false
section
variable (c_tree_Right_1__0 : S_api_Value → Int → Option (Bool)) (h_tree_Right_1__0 : (C_tree_Right_1__0 xpcall xfcall @xmap e_api_Value e_api_Pair c_tree_Right_1__0)) (stk : Stk) (m : Nat) (n0 : Nat) (k0 : List Nat) (hl0 : n0 < m) 
include c_tree_Right_1__0 h_tree_Right_1__0 stk m n0 k0 hl0
theorem o_tree_Right_1_2__0_0  (v0_0 : Str) (v0_1_0 v0_1_1 : Int) (v0_1_2 : Str) (v0_1_3 : Ls0) (v0_1_4 : Ls1) (v2_0 : Int) (hg0 : getO stk ⟨n0, k0⟩ = some (.cells [(.clos (.func F.tree_Right_1) [] [(.ref ⟨n0, k0⟩ 0)])]))  {out} (hp : b_tree_Right_1_2__0_0 PP c_tree_Right_1__0  v0_0 v0_1_0 v0_1_1 v0_1_2 v0_1_3 v0_1_4 v2_0 = some out) : (A_tree_Right_1_2__0_0 xat @xmap e_api_Value e_api_Pair m n0 k0 v0_0 v0_1_0 v0_1_1 v0_1_2 v0_1_3 v0_1_4 v2_0 stk) = (O_tree_Right_1_2__0  m n0 k0 stk) out := by
 have hn0 : (n0 = m) = False := eq_false (Nat.ne_of_lt hl0)
 have hm0 : decide (n0 < m) = true := decide_eq_true hl0
 subst hPP
 simp only [b_tree_Right_1_2__0_0] at hp
 unfold A_tree_Right_1_2__0_0
 rw [h.at_, hT]
 cbv
 simp only [if_false, if_true, hn0, hm0, hg0]
 cbv
 cases c2 : c_tree_Right_1__0 ⟨v0_1_0, v0_1_1, v0_1_2, v0_1_3, v0_1_4⟩ (xar .sub .i64 v2_0 1) with
 | none => simp only [c2] at hp; cases hp
 | some r1_0 =>
  simp only [c2] at hp
  have qc := (h_tree_Right_1__0 c2 (⟨m, []⟩ :: stk) n0 k0 ((h.gb hl0 _ _).trans (hg0)) (Nat.le_of_lt hl0)).1
  simp only [qc]
  cbv
  cases r1_0 with
  | false =>
   simp only at hp
   cbv
   cases hp
   try simp only [if_false, if_true, hn0, hm0]
   all_goals first | rfl | (cbv; done)
  | true =>
   simp only at hp
   cbv
   cases hp
   try simp only [if_false, if_true, hn0, hm0]
   all_goals first | rfl | (cbv; done)
end
def b_tree_Right_0 (P : Prims) (c_tree_Right_1__0 : S_api_Value → Int → Option (Bool))  (v0_0 v0_1 : Int) (v0_2 : Str) (v0_3 : Ls0) (v0_4 : Ls1) : Option (Bool) :=
 match c_tree_Right_1__0 ⟨v0_0, v0_1, v0_2, v0_3, v0_4⟩ 12 with
 | none => none
 | some r1_0 =>
  some r1_0
section
variable (c_tree_Right_1__0 : S_api_Value → Int → Option (Bool)) (h_tree_Right_1__0 : (C_tree_Right_1__0 xpcall xfcall @xmap e_api_Value e_api_Pair c_tree_Right_1__0)) (stk : Stk) (m : Nat)   
include c_tree_Right_1__0 h_tree_Right_1__0 stk m  
theorem o_tree_Right_0  (v0_0 v0_1 : Int) (v0_2 : Str) (v0_3 : Ls0) (v0_4 : Ls1)   {out} (hp : b_tree_Right_0 PP c_tree_Right_1__0  v0_0 v0_1 v0_2 v0_3 v0_4 = some out) : (A_tree_Right_0 xat @xmap e_api_Value e_api_Pair m  v0_0 v0_1 v0_2 v0_3 v0_4 stk) = (O_tree_Right  m  stk) out := by
 subst hPP
 simp only [b_tree_Right_0] at hp
 unfold A_tree_Right_0
 rw [h.at_, hT]
 cbv
 cases c2 : c_tree_Right_1__0 ⟨v0_0, v0_1, v0_2, v0_3, v0_4⟩ 12 with
 | none => simp only [c2] at hp; cases hp
 | some r1_0 =>
  simp only [c2] at hp
  have qc := (h_tree_Right_1__0 c2 (⟨m, [([3], (.cells [(.clos (.func F.tree_Right_1) [] [(.ref ⟨m, [3]⟩ 0)])]))]⟩ :: stk) m [3] (h.gt _ _ _ _) (Nat.le_refl _)).1
  simp only [qc]
  cbv
  cases hp
  all_goals first | rfl | (cbv; done)
end
def b_path_Put_1__0_0 (P : Prims)   (v0_0 v0_1 : Int) (v0_2 : Str) (v0_3 : Ls0) (v0_4 : Ls1) (v1_0 v1_1 : Int) (v1_2 : Str) (v1_3 : Ls0) (v1_4 : Ls1) : Option (S_api_Value × Int) :=
 some (⟨v1_0, v1_1, v1_2, v1_3, v1_4⟩, 0)
section
variable   (stk : Stk) (m : Nat)   
include   stk m  
theorem o_path_Put_1__0_0  (v0_0 v0_1 : Int) (v0_2 : Str) (v0_3 : Ls0) (v0_4 : Ls1) (v1_0 v1_1 : Int) (v1_2 : Str) (v1_3 : Ls0) (v1_4 : Ls1)   {out} (hp : b_path_Put_1__0_0 PP   v0_0 v0_1 v0_2 v0_3 v0_4 v1_0 v1_1 v1_2 v1_3 v1_4 = some out) : (A_path_Put_1__0_0 xat @xmap e_api_Value e_api_Pair m  v0_0 v0_1 v0_2 v0_3 v0_4 v1_0 v1_1 v1_2 v1_3 v1_4 stk) = (O_path_Put_1__0 @xmap e_api_Value e_api_Pair m  stk) out := by
 subst hPP
 simp only [b_path_Put_1__0_0] at hp
 unfold A_path_Put_1__0_0
 rw [h.at_, hT]
 cbv
 cases hp
 all_goals first | rfl | (cbv; done)
end
def b_slices_Clone__api_Value_api_Value__0_0 (P : Prims)   (v0 : Ls0) : Option (Nat × Ls0) :=
 match P.idx v0 0 with
 | none => none
 | some a1 =>
  match P.app 80 ([] : List S_api_Value) v0 with
  | none => none
  | some l3 =>
   some (1, l3)
section
variable   (stk : Stk) (m : Nat)   
include   stk m  
theorem o_slices_Clone__api_Value_api_Value__0_0  (v0 : Ls0)   {out} (hp : b_slices_Clone__api_Value_api_Value__0_0 PP   v0 = some out) : (A_slices_Clone__api_Value_api_Value__0_0 xat @xmap e_api_Value m  v0 stk) = (O_slices_Clone__api_Value_api_Value__0 @xmap xlen e_api_Value m  stk) out := by
 subst hPP
 simp only [b_slices_Clone__api_Value_api_Value__0_0] at hp
 unfold A_slices_Clone__api_Value_api_Value__0_0
 rw [h.at_, hT]
 cbv
 cases c2 : pidx v0 0 with
 | none => simp only [c2] at hp; cases hp
 | some a1 =>
  simp only [c2] at hp
  obtain ⟨q1, q2⟩ := h.idx e_api_Value c2
  simp only [q2]
  cbv
  rw [h.at_, hT]
  cbv
  simp only [h.allsz_nil, h.allsz_cons, if_true, h.len_nil]
  cbv
  try simp only [h.allsz_nil, if_true]
  try cbv
  try simp only [hz_e_api_Value, if_true]
  cbv
  cases c4 : papp 80 ([] : List S_api_Value) v0 with
  | none => simp only [c4] at hp; cases hp
  | some l3 =>
   simp only [c4] at hp
   obtain ⟨q1, q2, q3⟩ := h.app e_api_Value c4 rfl
   simp only [h.map_cons, h.map_nil, h.len_nil, he_e_api_Value] at q1 q2 q3
   try simp only [h.len_nil]
   cbv
   simp only [q1, q2, q3, if_true]
   cbv
   cases hp
   all_goals first | rfl | (cbv; done) | (simp only [h.nadd0, h.nle_refl, h.cut_all, h.cut_nil, h.map_cons, h.map_nil, h.mapE_nil, h.len_nil, he_e_api_Step, he_e_api_Value, he_e_api_Pair, he_e_int, O_slices_Clone__api_Value_api_Value__0, if_true]; first | done | rfl | (cbv; done) | (cbv; simp only [h.map_cons, h.map_nil, h.mapE_nil, h.len_nil, he_e_api_Step, he_e_api_Value, he_e_api_Pair, he_e_int, O_slices_Clone__api_Value_api_Value__0]; done))
end
def b_path_at_1__0_0 (P : Prims)   (v0_0 : Str) (v0_1_0 v0_1_1 : Int) (v0_1_2 : Str) (v0_1_3 : Ls0) (v0_1_4 : Ls1) (L0_0 : Str) (L0_1 : Int) (L0_2 : Bool) : Option (Bool) :=
 some (P.seq v0_0 L0_0)
section
variable   (stk : Stk) (m : Nat) (n0 : Nat) (k0 : List Nat) (hl0 : n0 < m) 
include   stk m n0 k0 hl0
theorem o_path_at_1__0_0  (v0_0 : Str) (v0_1_0 v0_1_1 : Int) (v0_1_2 : Str) (v0_1_3 : Ls0) (v0_1_4 : Ls1) (L0_0 : Str) (L0_1 : Int) (L0_2 : Bool) (hg0 : getO stk ⟨n0, k0⟩ = some (.cells [(.d (.str L0_0)), (.d (.int .i64 L0_1)), (.d (.bool L0_2))]))  {out} (hp : b_path_at_1__0_0 PP   v0_0 v0_1_0 v0_1_1 v0_1_2 v0_1_3 v0_1_4 L0_0 L0_1 L0_2 = some out) : (A_path_at_1__0_0 xat @xmap e_api_Value e_api_Pair m n0 k0 v0_0 v0_1_0 v0_1_1 v0_1_2 v0_1_3 v0_1_4 L0_0 L0_1 L0_2 stk) = (O_path_at_1__0  m n0 k0 stk) out := by
 have hn0 : (n0 = m) = False := eq_false (Nat.ne_of_lt hl0)
 have hm0 : decide (n0 < m) = true := decide_eq_true hl0
 subst hPP
 simp only [b_path_at_1__0_0] at hp
 unfold A_path_at_1__0_0
 rw [h.at_, hT]
 cbv
 simp only [if_false, if_true, hn0, hm0, hg0]
 cbv
 cases hp
 try simp only [if_false, if_true, hn0, hm0]
 all_goals first | rfl | (cbv; done)
end
def b_slices_IndexFunc__api_Pair_api_Pair__1_0 (P : Prims) (c_path_at_1__0 : S_api_Pair → Str → Int → Bool → Option (Bool)) (l_1 : T_slices_IndexFunc__api_Pair_api_Pair__1_1) (v0 : Ls1) (L0_0 : Str) (L0_1 : Int) (L0_2 : Bool) : Option (Int) :=
 l_1 v0 (P.len v0) 0 L0_0 L0_1 L0_2
section
variable (c_path_at_1__0 : S_api_Pair → Str → Int → Bool → Option (Bool)) (h_path_at_1__0 : (C_path_at_1__0 xpcall xfcall @xmap e_api_Value e_api_Pair c_path_at_1__0)) (stk : Stk) (m : Nat) (n0 : Nat) (k0 : List Nat) (hl0 : n0 < m) 
include c_path_at_1__0 h_path_at_1__0 stk m n0 k0 hl0
theorem o_slices_IndexFunc__api_Pair_api_Pair__1_0 (l_1 : T_slices_IndexFunc__api_Pair_api_Pair__1_1) (v0 : Ls1) (L0_0 : Str) (L0_1 : Int) (L0_2 : Bool) (hg0 : getO stk ⟨n0, k0⟩ = some (.cells [(.d (.str L0_0)), (.d (.int .i64 L0_1)), (.d (.bool L0_2))])) (h_l_1 : H_slices_IndexFunc__api_Pair_api_Pair__1_1 xat @xmap e_api_Pair m n0 k0 l_1) {out} (hp : b_slices_IndexFunc__api_Pair_api_Pair__1_0 PP c_path_at_1__0 l_1 v0 L0_0 L0_1 L0_2 = some out) : (A_slices_IndexFunc__api_Pair_api_Pair__1_0 xat @xmap e_api_Pair m n0 k0 v0 L0_0 L0_1 L0_2 stk) = (O_slices_IndexFunc__api_Pair_api_Pair__1  m n0 k0 stk) out := by
 have hn0 : (n0 = m) = False := eq_false (Nat.ne_of_lt hl0)
 have hm0 : decide (n0 < m) = true := decide_eq_true hl0
 subst hPP
 simp only [b_slices_IndexFunc__api_Pair_api_Pair__1_0] at hp
 unfold A_slices_IndexFunc__api_Pair_api_Pair__1_0
 rw [h.at_, hT]
 cbv
 try simp only [h.len]
 try simp only [if_false, if_true, hn0, hm0]
 first | exact h_l_1 hp stk (hg0) | (have q := h_l_1 hp stk (hg0); simp only [A_slices_IndexFunc__api_Pair_api_Pair__1_1, h.map_cons, h.map_nil, h.mapE_nil, h.len_nil, he_e_api_Step, he_e_api_Value, he_e_api_Pair, he_e_int] at q; first | exact q | (cbv; exact q))
def b_slices_IndexFunc__api_Pair_api_Pair__1_1 (P : Prims) (c_path_at_1__0 : S_api_Pair → Str → Int → Bool → Option (Bool))  (v0 : Ls1) (v7 v8 : Int) (L0_0 : Str) (L0_1 : Int) (L0_2 : Bool) : Option ((Ls1 × Int × Int) ⊕ (Int)) :=
 match P.cmp .lss v8 v7 with
 | false =>
  some (.inr (-1))
 | true =>
  match P.idx v0 v8 with
  | none => none
  | some ⟨a2_0, ⟨a2_1_0, a2_1_1, a2_1_2, a2_1_3, a2_1_4⟩⟩ =>
   match c_path_at_1__0 ⟨a2_0, ⟨a2_1_0, a2_1_1, a2_1_2, a2_1_3, a2_1_4⟩⟩ L0_0 L0_1 L0_2 with
   | none => none
   | some r4_0 =>
    match r4_0 with
    | false =>
     some (.inl (v0, v7, P.ar .add .i64 v8 1))
    | true =>
     some (.inr v8)
theorem o_slices_IndexFunc__api_Pair_api_Pair__1_1  (v0 : Ls1) (v7 v8 : Int) (L0_0 : Str) (L0_1 : Int) (L0_2 : Bool) (hg0 : getO stk ⟨n0, k0⟩ = some (.cells [(.d (.str L0_0)), (.d (.int .i64 L0_1)), (.d (.bool L0_2))]))  {out} (hp : b_slices_IndexFunc__api_Pair_api_Pair__1_1 PP c_path_at_1__0  v0 v7 v8 L0_0 L0_1 L0_2 = some out) : (A_slices_IndexFunc__api_Pair_api_Pair__1_1 xat @xmap e_api_Pair m n0 k0 v0 v7 v8 L0_0 L0_1 L0_2 stk) = (Sum.elim (fun (v0, v7, v8) => (A_slices_IndexFunc__api_Pair_api_Pair__1_1 xat @xmap e_api_Pair m n0 k0 v0 v7 v8 L0_0 L0_1 L0_2 stk)) (O_slices_IndexFunc__api_Pair_api_Pair__1  m n0 k0 stk)) out := by
 have hn0 : (n0 = m) = False := eq_false (Nat.ne_of_lt hl0)
 have hm0 : decide (n0 < m) = true := decide_eq_true hl0
 subst hPP
 simp only [b_slices_IndexFunc__api_Pair_api_Pair__1_1] at hp
 unfold A_slices_IndexFunc__api_Pair_api_Pair__1_1
 rw [h.at_, hT]
 cbv
 cases c1 : xcmp .lss v8 v7 with
 | false =>
  simp only [c1] at hp ⊢
  cbv
  try simp only [if_false, if_true, hn0, hm0]
  try cbv
  rw [h.at_, hT]
  cbv
  cases hp
  try simp only [if_false, if_true, hn0, hm0]
  all_goals first | rfl | (cbv; done)
 | true =>
  simp only [c1] at hp ⊢
  cbv
  try simp only [if_false, if_true, hn0, hm0]
  try cbv
  rw [h.at_, hT]
  cbv
  cases c3 : pidx v0 v8 with
  | none => simp only [c3] at hp; cases hp
  | some y7 =>
   obtain ⟨a2_0, ⟨a2_1_0, a2_1_1, a2_1_2, a2_1_3, a2_1_4⟩⟩ := y7
   simp only [c3] at hp
   obtain ⟨q1, q2⟩ := h.idx e_api_Pair c3
   simp only [he_e_api_Pair] at q2
   simp only [q1, Bool.false_eq_true, if_false]
   cbv
   try simp only [q2]
   cbv
   cases c5 : c_path_at_1__0 ⟨a2_0, ⟨a2_1_0, a2_1_1, a2_1_2, a2_1_3, a2_1_4⟩⟩ L0_0 L0_1 L0_2 with
   | none => simp only [c5] at hp; cases hp
   | some r4_0 =>
    simp only [c5] at hp
    have qc := (h_path_at_1__0 c5 (⟨m, []⟩ :: stk) n0 k0 ((h.gb hl0 _ _).trans (hg0)) (Nat.le_of_lt hl0)).1
    simp only [qc]
    cbv
    cases r4_0 with
    | false =>
     simp only at hp
     cbv
     try simp only [if_false, if_true, hn0, hm0]
     try cbv
     rw [h.at_, hT]
     cbv
     cases hp
     try simp only [if_false, if_true, hn0, hm0]
     all_goals first | rfl | (cbv; done)
    | true =>
     simp only at hp
     cbv
     cases hp
     try simp only [if_false, if_true, hn0, hm0]
     all_goals first | rfl | (cbv; done)
end
def b_slices_Clone__api_Pair_api_Pair__0_0 (P : Prims)   (v0 : Ls1) : Option (Nat × Ls1) :=
 match P.idx v0 0 with
 | none => none
 | some a1 =>
  match P.app 96 ([] : List S_api_Pair) v0 with
  | none => none
  | some l3 =>
   some (1, l3)
section
variable   (stk : Stk) (m : Nat)   
include   stk m  
theorem o_slices_Clone__api_Pair_api_Pair__0_0  (v0 : Ls1)   {out} (hp : b_slices_Clone__api_Pair_api_Pair__0_0 PP   v0 = some out) : (A_slices_Clone__api_Pair_api_Pair__0_0 xat @xmap e_api_Pair m  v0 stk) = (O_slices_Clone__api_Pair_api_Pair__0 @xmap xlen e_api_Pair m  stk) out := by
 subst hPP
 simp only [b_slices_Clone__api_Pair_api_Pair__0_0] at hp
 unfold A_slices_Clone__api_Pair_api_Pair__0_0
 rw [h.at_, hT]
 cbv
 cases c2 : pidx v0 0 with
 | none => simp only [c2] at hp; cases hp
 | some a1 =>
  simp only [c2] at hp
  obtain ⟨q1, q2⟩ := h.idx e_api_Pair c2
  simp only [q2]
  cbv
  rw [h.at_, hT]
  cbv
  simp only [h.allsz_nil, h.allsz_cons, if_true, h.len_nil]
  cbv
  try simp only [h.allsz_nil, if_true]
  try cbv
  try simp only [hz_e_api_Pair, if_true]
  cbv
  cases c4 : papp 96 ([] : List S_api_Pair) v0 with
  | none => simp only [c4] at hp; cases hp
  | some l3 =>
   simp only [c4] at hp
   obtain ⟨q1, q2, q3⟩ := h.app e_api_Pair c4 rfl
   simp only [h.map_cons, h.map_nil, h.len_nil, he_e_api_Pair] at q1 q2 q3
   try simp only [h.len_nil]
   cbv
   simp only [q1, q2, q3, if_true]
   cbv
   cases hp
   all_goals first | rfl | (cbv; done) | (simp only [h.nadd0, h.nle_refl, h.cut_all, h.cut_nil, h.map_cons, h.map_nil, h.mapE_nil, h.len_nil, he_e_api_Step, he_e_api_Value, he_e_api_Pair, he_e_int, O_slices_Clone__api_Pair_api_Pair__0, if_true]; first | done | rfl | (cbv; done) | (cbv; simp only [h.map_cons, h.map_nil, h.mapE_nil, h.len_nil, he_e_api_Step, he_e_api_Value, he_e_api_Pair, he_e_int, O_slices_Clone__api_Pair_api_Pair__0]; done))
end
def b_path_at__0_0 (P : Prims) (c_path_Put_1__0 : S_api_Value → Int → Int → Str → Ls0 → Ls1 → Option (S_api_Value × Int)) (c_slices_Clone__api_Value_api_Value__0 : Ls0 → Option (Nat × Ls0)) (c_path_at__0 : S_api_Value → Ls2 → Int → Int → Str → Ls0 → Ls1 → Option (S_api_Value × Int)) (c_slices_IndexFunc__api_Pair_api_Pair__1 : Ls1 → Str → Int → Bool → Option (Int)) (c_slices_Clone__api_Pair_api_Pair__0 : Ls1 → Option (Nat × Ls1)) (l_2 : T_path_at__0_2) (v0_0 v0_1 : Int) (v0_2 : Str) (v0_3 : Ls0) (v0_4 : Ls1) (v1 : Ls2) (v2_c0_0 v2_c0_1 : Int) (v2_c0_2 : Str) (v2_c0_3 : Ls0) (v2_c0_4 : Ls1) : Option (S_api_Value × Int) :=
 match P.cmp .eql (P.len v1) 0 with
 | false =>
  match P.idx v1 0 with
  | none => none
  | some ⟨a5_0, a5_1, a5_2⟩ =>
   match a5_2 with
   | false =>
    match P.cmp .eql v0_0 5 with
    | false =>
     l_2 0 0 [] [] []
    | true =>
     match c_slices_IndexFunc__api_Pair_api_Pair__1 v0_4 a5_0 a5_1 false with
     | none => none
     | some r28_0 =>
      match P.cmp .geq r28_0 0 with
      | false =>
       l_2 0 0 [] [] []
      | true =>
       match c_slices_Clone__api_Pair_api_Pair__0 v0_4 with
       | none => none
       | some (r31_0, r31_1) =>
        match P.idx r31_1 r28_0 with
        | none => none
        | some ⟨a34_0, ⟨a34_1_0, a34_1_1, a34_1_2, a34_1_3, a34_1_4⟩⟩ =>
         match P.sub v1 (some 1) none with
         | none => none
         | some s36 =>
          match c_path_at__0 ⟨a34_1_0, a34_1_1, a34_1_2, a34_1_3, a34_1_4⟩ s36 v2_c0_0 v2_c0_1 v2_c0_2 v2_c0_3 v2_c0_4 with
          | none => none
          | some (⟨r39_0_0, r39_0_1, r39_0_2, r39_0_3, r39_0_4⟩, r39_1) =>
           match P.set r31_1 r28_0 ⟨a34_0, ⟨r39_0_0, r39_0_1, r39_0_2, r39_0_3, r39_0_4⟩⟩ with
           | none => none
           | some l43 =>
            some (⟨v0_0, v0_1, v0_2, v0_3, l43⟩, r39_1)
   | true =>
    match P.cmp .eql v0_0 4 with
    | false =>
     l_2 0 0 [] [] []
    | true =>
     match P.cmp .lss a5_1 (P.len v0_3) with
     | false =>
      l_2 0 0 [] [] []
     | true =>
      match c_slices_Clone__api_Value_api_Value__0 v0_3 with
      | none => none
      | some (r10_0, r10_1) =>
       match P.idx r10_1 a5_1 with
       | none => none
       | some ⟨a13_0, a13_1, a13_2, a13_3, a13_4⟩ =>
        match P.sub v1 (some 1) none with
        | none => none
        | some s15 =>
         match c_path_at__0 ⟨a13_0, a13_1, a13_2, a13_3, a13_4⟩ s15 v2_c0_0 v2_c0_1 v2_c0_2 v2_c0_3 v2_c0_4 with
         | none => none
         | some (⟨r18_0_0, r18_0_1, r18_0_2, r18_0_3, r18_0_4⟩, r18_1) =>
          match P.set r10_1 a5_1 ⟨r18_0_0, r18_0_1, r18_0_2, r18_0_3, r18_0_4⟩ with
          | none => none
          | some l22 =>
           some (⟨v0_0, v0_1, v0_2, l22, v0_4⟩, r18_1)
 | true =>
  match c_path_Put_1__0 ⟨v0_0, v0_1, v0_2, v0_3, v0_4⟩ v2_c0_0 v2_c0_1 v2_c0_2 v2_c0_3 v2_c0_4 with
  | none => none
  | some (⟨r2_0_0, r2_0_1, r2_0_2, r2_0_3, r2_0_4⟩, r2_1) =>
   some (⟨r2_0_0, r2_0_1, r2_0_2, r2_0_3, r2_0_4⟩, r2_1)
section
variable (c_path_Put_1__0 : S_api_Value → Int → Int → Str → Ls0 → Ls1 → Option (S_api_Value × Int)) (c_slices_Clone__api_Value_api_Value__0 : Ls0 → Option (Nat × Ls0)) (c_path_at__0 : S_api_Value → Ls2 → Int → Int → Str → Ls0 → Ls1 → Option (S_api_Value × Int)) (c_slices_IndexFunc__api_Pair_api_Pair__1 : Ls1 → Str → Int → Bool → Option (Int)) (c_slices_Clone__api_Pair_api_Pair__0 : Ls1 → Option (Nat × Ls1)) (h_path_Put_1__0 : (C_path_Put_1__0 xpcall xfcall @xmap e_api_Value e_api_Pair c_path_Put_1__0)) (h_slices_Clone__api_Value_api_Value__0 : (C_slices_Clone__api_Value_api_Value__0 xkcall @xmap xlen e_api_Value c_slices_Clone__api_Value_api_Value__0)) (h_path_at__0 : (C_path_at__0 xpcall xfcall @xmap e_api_Step e_api_Value e_api_Pair c_path_at__0)) (h_slices_IndexFunc__api_Pair_api_Pair__1 : (C_slices_IndexFunc__api_Pair_api_Pair__1 xpcall xfcall @xmap e_api_Pair c_slices_IndexFunc__api_Pair_api_Pair__1)) (h_slices_Clone__api_Pair_api_Pair__0 : (C_slices_Clone__api_Pair_api_Pair__0 xkcall @xmap xlen e_api_Pair c_slices_Clone__api_Pair_api_Pair__0)) (stk : Stk) (m : Nat)   
include c_path_Put_1__0 c_slices_Clone__api_Value_api_Value__0 c_path_at__0 c_slices_IndexFunc__api_Pair_api_Pair__1 c_slices_Clone__api_Pair_api_Pair__0 h_path_Put_1__0 h_slices_Clone__api_Value_api_Value__0 h_path_at__0 h_slices_IndexFunc__api_Pair_api_Pair__1 h_slices_Clone__api_Pair_api_Pair__0 stk m  
theorem o_path_at__0_0 (l_2 : T_path_at__0_2) (v0_0 v0_1 : Int) (v0_2 : Str) (v0_3 : Ls0) (v0_4 : Ls1) (v1 : Ls2) (v2_c0_0 v2_c0_1 : Int) (v2_c0_2 : Str) (v2_c0_3 : Ls0) (v2_c0_4 : Ls1)  (h_l_2 : H_path_at__0_2 xat @xmap e_api_Value e_api_Pair m  l_2) {out} (hp : b_path_at__0_0 PP c_path_Put_1__0 c_slices_Clone__api_Value_api_Value__0 c_path_at__0 c_slices_IndexFunc__api_Pair_api_Pair__1 c_slices_Clone__api_Pair_api_Pair__0 l_2 v0_0 v0_1 v0_2 v0_3 v0_4 v1 v2_c0_0 v2_c0_1 v2_c0_2 v2_c0_3 v2_c0_4 = some out) : (A_path_at__0_0 xat @xmap e_api_Step e_api_Value e_api_Pair m  v0_0 v0_1 v0_2 v0_3 v0_4 v1 v2_c0_0 v2_c0_1 v2_c0_2 v2_c0_3 v2_c0_4 stk) = (O_path_at__0 @xmap e_api_Value e_api_Pair m  stk) out := by
 subst hPP
 simp only [b_path_at__0_0] at hp
 unfold A_path_at__0_0
 rw [h.at_, hT]
 cbv
 try simp only [h.len]
 cases c1 : xcmp .eql (plen v1) 0 with
 | false =>
  simp only [c1] at hp ⊢
  cbv
  rw [h.at_, hT]
  cbv
  cases c6 : pidx v1 0 with
  | none => simp only [c6] at hp; cases hp
  | some y48 =>
   obtain ⟨a5_0, a5_1, a5_2⟩ := y48
   simp only [c6] at hp
   obtain ⟨q1, q2⟩ := h.idx e_api_Step c6
   simp only [he_e_api_Step] at q2
   simp only [q1, Bool.false_eq_true, if_false]
   cbv
   try simp only [q2]
   cbv
   cases a5_2 with
   | false =>
    simp only at hp
    cbv
    cases c27 : xcmp .eql v0_0 5 with
    | false =>
     simp only [c27] at hp ⊢
     cbv
     first | exact h_l_2 hp stk | (have q := h_l_2 hp stk; simp only [A_path_at__0_2, h.map_cons, h.map_nil, h.mapE_nil, h.len_nil, he_e_api_Step, he_e_api_Value, he_e_api_Pair, he_e_int] at q; first | exact q | (cbv; exact q))
    | true =>
     simp only [c27] at hp ⊢
     cbv
     cases c29 : c_slices_IndexFunc__api_Pair_api_Pair__1 v0_4 a5_0 a5_1 false with
     | none => simp only [c29] at hp; cases hp
     | some r28_0 =>
      simp only [c29] at hp
      have qc := (h_slices_IndexFunc__api_Pair_api_Pair__1 c29 (⟨m, [([3], (.cells [(.d (.int .i64 v0_0)), (.d (.int .i64 v0_1)), (.d (.str v0_2)), (.d (.sl (xmap e_api_Value v0_3))), (.d (.sl (xmap e_api_Pair v0_4)))])), ([6], (.cells [(.d (.int .i64 0)), (.d (.int .i64 0)), (.d (.str [])), (.d (.sl [])), (.d (.sl []))])), ([8], (.cells [(.d (.str a5_0)), (.d (.int .i64 a5_1)), (.d (.bool false))]))]⟩ :: stk) m [8] (h.gt _ _ _ _) (Nat.le_refl _)).1
      simp only [qc]
      cbv
      cases c30 : xcmp .geq r28_0 0 with
      | false =>
       simp only [c30] at hp ⊢
       cbv
       first | exact h_l_2 hp stk | (have q := h_l_2 hp stk; simp only [A_path_at__0_2, h.map_cons, h.map_nil, h.mapE_nil, h.len_nil, he_e_api_Step, he_e_api_Value, he_e_api_Pair, he_e_int] at q; first | exact q | (cbv; exact q))
      | true =>
       simp only [c30] at hp ⊢
       cbv
       cases c32 : c_slices_Clone__api_Pair_api_Pair__0 v0_4 with
       | none => simp only [c32] at hp; cases hp
       | some y47 =>
        obtain ⟨r31_0, r31_1⟩ := y47
        simp only [c32] at hp
        have qc := h_slices_Clone__api_Pair_api_Pair__0 c32 (⟨m, [([3], (.cells [(.d (.int .i64 v0_0)), (.d (.int .i64 v0_1)), (.d (.str v0_2)), (.d (.sl (xmap e_api_Value v0_3))), (.d (.sl (xmap e_api_Pair v0_4)))])), ([6], (.cells [(.d (.int .i64 0)), (.d (.int .i64 0)), (.d (.str [])), (.d (.sl [])), (.d (.sl []))])), ([8], (.cells [(.d (.str a5_0)), (.d (.int .i64 a5_1)), (.d (.bool false))]))]⟩ :: stk)  (m + 1) rfl
        simp only [qc]
        cbv
        cases c35 : pidx r31_1 r28_0 with
        | none => simp only [c35] at hp; cases hp
        | some y46 =>
         obtain ⟨a34_0, ⟨a34_1_0, a34_1_1, a34_1_2, a34_1_3, a34_1_4⟩⟩ := y46
         simp only [c35] at hp
         obtain ⟨q1, q2, q3, w33⟩ := h.idxm e_api_Pair c35
         simp only [he_e_api_Pair] at w33
         simp only [q1, Bool.false_eq_true, if_false]
         cbv
         simp only [q2, q3, if_true]
         cbv
         simp only [w33]
         cbv
         cases c37 : psub v1 (some 1) none with
         | none => simp only [c37] at hp; cases hp
         | some s36 =>
          simp only [c37] at hp
          obtain ⟨q0, q1, q2, q3⟩ := h.sub1 e_api_Step c37
          simp only [q0, q1, q2, q3, Bool.false_eq_true, if_false, if_true, hz_e_api_Step]
          cbv
          try simp only [q0, q1, q2, q3, if_true, hz_e_api_Step]
          cbv
          obtain ⟨q1, q2, q3, w38⟩ := h.idxm e_api_Pair c35
          simp only [he_e_api_Pair] at w38
          simp only [q1, Bool.false_eq_true, if_false]
          cbv
          simp only [q2, q3, if_true]
          cbv
          cases c40 : c_path_at__0 ⟨a34_1_0, a34_1_1, a34_1_2, a34_1_3, a34_1_4⟩ s36 v2_c0_0 v2_c0_1 v2_c0_2 v2_c0_3 v2_c0_4 with
          | none => simp only [c40] at hp; cases hp
          | some y45 =>
           obtain ⟨⟨r39_0_0, r39_0_1, r39_0_2, r39_0_3, r39_0_4⟩, r39_1⟩ := y45
           simp only [c40] at hp
           have qc := fun s => (h_path_at__0 c40 s).2
           simp only [qc]
           cbv
           simp only [h.samev]
           cbv
           simp only [h.samev]
           cbv
           obtain ⟨q1, q2, q3, w41⟩ := h.idxm e_api_Pair c35
           simp only [he_e_api_Pair] at w41
           simp only [q1, Bool.false_eq_true, if_false]
           cbv
           simp only [q2, q3, if_true]
           cbv
           simp only [h.samev]
           cbv
           simp only [w33]
           cbv
           simp only [h.samev]
           cbv
           obtain ⟨q0, q1, q2, q3⟩ := h.sub1 e_api_Step c37
           simp only [q0, q1, q2, q3, Bool.false_eq_true, if_false, if_true, hz_e_api_Step]
           cbv
           try simp only [q0, q1, q2, q3, if_true, hz_e_api_Step]
           cbv
           simp only [h.samev]
           cbv
           obtain ⟨q1, q2, q3, w42⟩ := h.idxm e_api_Pair c35
           simp only [he_e_api_Pair] at w42
           simp only [q1, Bool.false_eq_true, if_false]
           cbv
           simp only [q2, q3, if_true]
           cbv
           simp only [h.samev]
           cbv
           cases c44 : pset r31_1 r28_0 ⟨a34_0, ⟨r39_0_0, r39_0_1, r39_0_2, r39_0_3, r39_0_4⟩⟩ with
           | none => simp only [c44] at hp; cases hp
           | some l43 =>
            simp only [c44] at hp
            obtain ⟨q1, q2, q3, ⟨y, q4⟩, q5, q6⟩ := h.set_ e_api_Pair c44
            simp only [he_e_api_Pair] at q5
            simp only [w38]
            cbv
            try simp only [w38]
            try simp only [List.headD, splice, List.take_succ_cons, List.take_zero, List.drop_succ_cons, List.drop_zero, List.cons_append, List.nil_append, List.length_cons, List.length_nil, Nat.zero_add, Nat.reduceAdd]
            simp only [q5]
            try simp only [← q6]
            cbv
            cases hp
            all_goals first | rfl | (cbv; done) | (simp only [h.nadd0, h.nle_refl, h.cut_all, h.cut_nil, h.map_cons, h.map_nil, h.mapE_nil, h.len_nil, he_e_api_Step, he_e_api_Value, he_e_api_Pair, he_e_int, O_path_at__0, if_true]; first | done | rfl | (cbv; done) | (cbv; simp only [h.map_cons, h.map_nil, h.mapE_nil, h.len_nil, he_e_api_Step, he_e_api_Value, he_e_api_Pair, he_e_int, O_path_at__0]; done))
   | true =>
    simp only at hp
    cbv
    cases c8 : xcmp .eql v0_0 4 with
    | false =>
     simp only [c8] at hp ⊢
     cbv
     first | exact h_l_2 hp stk | (have q := h_l_2 hp stk; simp only [A_path_at__0_2, h.map_cons, h.map_nil, h.mapE_nil, h.len_nil, he_e_api_Step, he_e_api_Value, he_e_api_Pair, he_e_int] at q; first | exact q | (cbv; exact q))
    | true =>
     simp only [c8] at hp ⊢
     cbv
     try simp only [h.len]
     cases c9 : xcmp .lss a5_1 (plen v0_3) with
     | false =>
      simp only [c9] at hp ⊢
      cbv
      first | exact h_l_2 hp stk | (have q := h_l_2 hp stk; simp only [A_path_at__0_2, h.map_cons, h.map_nil, h.mapE_nil, h.len_nil, he_e_api_Step, he_e_api_Value, he_e_api_Pair, he_e_int] at q; first | exact q | (cbv; exact q))
     | true =>
      simp only [c9] at hp ⊢
      cbv
      cases c11 : c_slices_Clone__api_Value_api_Value__0 v0_3 with
      | none => simp only [c11] at hp; cases hp
      | some y26 =>
       obtain ⟨r10_0, r10_1⟩ := y26
       simp only [c11] at hp
       have qc := h_slices_Clone__api_Value_api_Value__0 c11 (⟨m, [([3], (.cells [(.d (.int .i64 v0_0)), (.d (.int .i64 v0_1)), (.d (.str v0_2)), (.d (.sl (xmap e_api_Value v0_3))), (.d (.sl (xmap e_api_Pair v0_4)))])), ([6], (.cells [(.d (.int .i64 0)), (.d (.int .i64 0)), (.d (.str [])), (.d (.sl [])), (.d (.sl []))])), ([8], (.cells [(.d (.str a5_0)), (.d (.int .i64 a5_1)), (.d (.bool true))]))]⟩ :: stk)  (m + 1) rfl
       simp only [qc]
       cbv
       cases c14 : pidx r10_1 a5_1 with
       | none => simp only [c14] at hp; cases hp
       | some y25 =>
        obtain ⟨a13_0, a13_1, a13_2, a13_3, a13_4⟩ := y25
        simp only [c14] at hp
        obtain ⟨q1, q2, q3, w12⟩ := h.idxm e_api_Value c14
        simp only [he_e_api_Value] at w12
        simp only [q1, Bool.false_eq_true, if_false]
        cbv
        simp only [q2, q3, if_true]
        cbv
        simp only [w12]
        cbv
        cases c16 : psub v1 (some 1) none with
        | none => simp only [c16] at hp; cases hp
        | some s15 =>
         simp only [c16] at hp
         obtain ⟨q0, q1, q2, q3⟩ := h.sub1 e_api_Step c16
         simp only [q0, q1, q2, q3, Bool.false_eq_true, if_false, if_true, hz_e_api_Step]
         cbv
         try simp only [q0, q1, q2, q3, if_true, hz_e_api_Step]
         cbv
         obtain ⟨q1, q2, q3, w17⟩ := h.idxm e_api_Value c14
         simp only [he_e_api_Value] at w17
         simp only [q1, Bool.false_eq_true, if_false]
         cbv
         simp only [q2, q3, if_true]
         cbv
         cases c19 : c_path_at__0 ⟨a13_0, a13_1, a13_2, a13_3, a13_4⟩ s15 v2_c0_0 v2_c0_1 v2_c0_2 v2_c0_3 v2_c0_4 with
         | none => simp only [c19] at hp; cases hp
         | some y24 =>
          obtain ⟨⟨r18_0_0, r18_0_1, r18_0_2, r18_0_3, r18_0_4⟩, r18_1⟩ := y24
          simp only [c19] at hp
          have qc := fun s => (h_path_at__0 c19 s).2
          simp only [qc]
          cbv
          simp only [h.samev]
          cbv
          simp only [h.samev]
          cbv
          simp only [h.samev]
          cbv
          simp only [h.samev]
          cbv
          obtain ⟨q1, q2, q3, w20⟩ := h.idxm e_api_Value c14
          simp only [he_e_api_Value] at w20
          simp only [q1, Bool.false_eq_true, if_false]
          cbv
          simp only [q2, q3, if_true]
          cbv
          simp only [h.samev]
          cbv
          simp only [w12]
          cbv
          simp only [h.samev]
          cbv
          obtain ⟨q0, q1, q2, q3⟩ := h.sub1 e_api_Step c16
          simp only [q0, q1, q2, q3, Bool.false_eq_true, if_false, if_true, hz_e_api_Step]
          cbv
          try simp only [q0, q1, q2, q3, if_true, hz_e_api_Step]
          cbv
          simp only [h.samev]
          cbv
          obtain ⟨q1, q2, q3, w21⟩ := h.idxm e_api_Value c14
          simp only [he_e_api_Value] at w21
          simp only [q1, Bool.false_eq_true, if_false]
          cbv
          simp only [q2, q3, if_true]
          cbv
          simp only [h.samev]
          cbv
          cases c23 : pset r10_1 a5_1 ⟨r18_0_0, r18_0_1, r18_0_2, r18_0_3, r18_0_4⟩ with
          | none => simp only [c23] at hp; cases hp
          | some l22 =>
           simp only [c23] at hp
           obtain ⟨q1, q2, q3, ⟨y, q4⟩, q5, q6⟩ := h.set_ e_api_Value c23
           simp only [he_e_api_Value] at q5
           simp only [w17]
           cbv
           try simp only [w17]
           try simp only [List.headD, splice, List.take_succ_cons, List.take_zero, List.drop_succ_cons, List.drop_zero, List.cons_append, List.nil_append, List.length_cons, List.length_nil, Nat.zero_add, Nat.reduceAdd]
           simp only [q5]
           try simp only [← q6]
           cbv
           cases hp
           all_goals first | rfl | (cbv; done) | (simp only [h.nadd0, h.nle_refl, h.cut_all, h.cut_nil, h.map_cons, h.map_nil, h.mapE_nil, h.len_nil, he_e_api_Step, he_e_api_Value, he_e_api_Pair, he_e_int, O_path_at__0, if_true]; first | done | rfl | (cbv; done) | (cbv; simp only [h.map_cons, h.map_nil, h.mapE_nil, h.len_nil, he_e_api_Step, he_e_api_Value, he_e_api_Pair, he_e_int, O_path_at__0]; done))
 | true =>
  simp only [c1] at hp ⊢
  cbv
  cases c3 : c_path_Put_1__0 ⟨v0_0, v0_1, v0_2, v0_3, v0_4⟩ v2_c0_0 v2_c0_1 v2_c0_2 v2_c0_3 v2_c0_4 with
  | none => simp only [c3] at hp; cases hp
  | some y4 =>
   obtain ⟨⟨r2_0_0, r2_0_1, r2_0_2, r2_0_3, r2_0_4⟩, r2_1⟩ := y4
   simp only [c3] at hp
   have qc := fun s => (h_path_Put_1__0 c3 s).2
   simp only [qc]
   cbv
   cases hp
   all_goals first | rfl | (cbv; done)
def b_path_at__0_2 (P : Prims) (c_path_Put_1__0 : S_api_Value → Int → Int → Str → Ls0 → Ls1 → Option (S_api_Value × Int)) (c_slices_Clone__api_Value_api_Value__0 : Ls0 → Option (Nat × Ls0)) (c_path_at__0 : S_api_Value → Ls2 → Int → Int → Str → Ls0 → Ls1 → Option (S_api_Value × Int)) (c_slices_IndexFunc__api_Pair_api_Pair__1 : Ls1 → Str → Int → Bool → Option (Int)) (c_slices_Clone__api_Pair_api_Pair__0 : Ls1 → Option (Nat × Ls1))  (o6_0 o6_1 : Int) (o6_2 : Str) (o6_3 : Ls0) (o6_4 : Ls1) : Option (S_api_Value × Int) :=
 some (⟨0, 0, [], [], []⟩, 8)
theorem o_path_at__0_2  (o6_0 o6_1 : Int) (o6_2 : Str) (o6_3 : Ls0) (o6_4 : Ls1)   {out} (hp : b_path_at__0_2 PP c_path_Put_1__0 c_slices_Clone__api_Value_api_Value__0 c_path_at__0 c_slices_IndexFunc__api_Pair_api_Pair__1 c_slices_Clone__api_Pair_api_Pair__0  o6_0 o6_1 o6_2 o6_3 o6_4 = some out) : (A_path_at__0_2 xat @xmap e_api_Value e_api_Pair m  o6_0 o6_1 o6_2 o6_3 o6_4 stk) = (O_path_at__0 @xmap e_api_Value e_api_Pair m  stk) out := by
 subst hPP
 simp only [b_path_at__0_2] at hp
 unfold A_path_at__0_2
 rw [h.at_, hT]
 cbv
 cases hp
 all_goals first | rfl | (cbv; done) | (simp only [h.nadd0, h.nle_refl, h.cut_all, h.cut_nil, h.map_cons, h.map_nil, h.mapE_nil, h.len_nil, he_e_api_Step, he_e_api_Value, he_e_api_Pair, he_e_int, O_path_at__0, if_true]; first | done | rfl | (cbv; done) | (cbv; simp only [h.map_cons, h.map_nil, h.mapE_nil, h.len_nil, he_e_api_Step, he_e_api_Value, he_e_api_Pair, he_e_int, O_path_at__0]; done))
end
def b_tree_clone_0 (P : Prims) (c_tree_clone : S_api_Value → Option (S_api_Value)) (l_1 : T_tree_clone_1) (v0_0 v0_1 : Int) (v0_2 : Str) (v0_3 : Ls0) (v0_4 : Ls1) : Option (S_api_Value) :=
 l_1 v0_0 v0_1 v0_2 v0_3 v0_4 v0_3 (P.len v0_3) 0 0 0 [] [] [] v0_0 v0_1 v0_2 0 [] 0 []
section
variable (c_tree_clone : S_api_Value → Option (S_api_Value)) (h_tree_clone : (C_tree_clone xpcall xfcall @xmap e_api_Value e_api_Pair c_tree_clone)) (stk : Stk) (m : Nat)   
include c_tree_clone h_tree_clone stk m  
theorem o_tree_clone_0 (l_1 : T_tree_clone_1) (v0_0 v0_1 : Int) (v0_2 : Str) (v0_3 : Ls0) (v0_4 : Ls1)  (h_l_1 : H_tree_clone_1 xat @xmap xlen e_api_Value e_api_Pair m  l_1) {out} (hp : b_tree_clone_0 PP c_tree_clone l_1 v0_0 v0_1 v0_2 v0_3 v0_4 = some out) : (A_tree_clone_0 xat @xmap e_api_Value e_api_Pair m  v0_0 v0_1 v0_2 v0_3 v0_4 stk) = (O_tree_clone @xmap e_api_Value e_api_Pair m  stk) out := by
 subst hPP
 simp only [b_tree_clone_0] at hp
 unfold A_tree_clone_0
 rw [h.at_, hT]
 cbv
 try simp only [h.len]
 first | exact h_l_1 hp stk | (have q := h_l_1 hp stk; simp only [A_tree_clone_1, h.map_cons, h.map_nil, h.mapE_nil, h.len_nil, he_e_api_Step, he_e_api_Value, he_e_api_Pair, he_e_int] at q; first | exact q | (cbv; exact q))
def b_tree_clone_1 (P : Prims) (c_tree_clone : S_api_Value → Option (S_api_Value)) (l_5 : T_tree_clone_5) (v1_0 v1_1 : Int) (v1_2 : Str) (v1_3 : Ls0) (v1_4 : Ls1) (v16 : Ls0) (v17 v18 o2_0 o2_1 : Int) (o2_2 : Str) (o2_3 : Ls0) (o2_4 : Ls1) (o3_0 o3_1 : Int) (o3_2 : Str) (o3_3_g : Nat) (o3_3 : Ls0) (o3_4_g : Nat) (o3_4 : Ls1) : Option ((Int × Int × Str × Ls0 × Ls1 × Ls0 × Int × Int × Int × Int × Str × Ls0 × Ls1 × Int × Int × Str × Nat × Ls0 × Nat × Ls1) ⊕ (S_api_Value)) :=
 match P.cmp .lss v18 v17 with
 | false =>
  match l_5 v1_4 (P.len v1_4) 0 o2_0 o2_1 o2_2 o2_3 o2_4 o3_0 o3_1 o3_2 o3_3_g o3_3 o3_4_g o3_4 with | none => none | some o10 => some (.inr o10)
 | true =>
  match P.idx v16 v18 with
  | none => none
  | some ⟨a2_0, a2_1, a2_2, a2_3, a2_4⟩ =>
   match c_tree_clone ⟨a2_0, a2_1, a2_2, a2_3, a2_4⟩ with
   | none => none
   | some ⟨r4_0_0, r4_0_1, r4_0_2, r4_0_3, r4_0_4⟩ =>
    match P.app 80 o3_3 [⟨r4_0_0, r4_0_1, r4_0_2, r4_0_3, r4_0_4⟩] with
    | none => none
    | some l6 =>
     some (.inl (v1_0, v1_1, v1_2, v1_3, v1_4, v16, v17, P.ar .add .i64 v18 1, o2_0, o2_1, o2_2, o2_3, o2_4, o3_0, o3_1, o3_2, o3_3_g + 1, l6, o3_4_g, o3_4))
theorem o_tree_clone_1 (l_5 : T_tree_clone_5) (v1_0 v1_1 : Int) (v1_2 : Str) (v1_3 : Ls0) (v1_4 : Ls1) (v16 : Ls0) (v17 v18 o2_0 o2_1 : Int) (o2_2 : Str) (o2_3 : Ls0) (o2_4 : Ls1) (o3_0 o3_1 : Int) (o3_2 : Str) (o3_3_g : Nat) (o3_3 : Ls0) (o3_4_g : Nat) (o3_4 : Ls1)  (h_l_5 : H_tree_clone_5 xat @xmap xlen e_api_Value e_api_Pair m  l_5) {out} (hp : b_tree_clone_1 PP c_tree_clone l_5 v1_0 v1_1 v1_2 v1_3 v1_4 v16 v17 v18 o2_0 o2_1 o2_2 o2_3 o2_4 o3_0 o3_1 o3_2 o3_3_g o3_3 o3_4_g o3_4 = some out) : (A_tree_clone_1 xat @xmap xlen e_api_Value e_api_Pair m  v1_0 v1_1 v1_2 v1_3 v1_4 v16 v17 v18 o2_0 o2_1 o2_2 o2_3 o2_4 o3_0 o3_1 o3_2 o3_3_g o3_3 o3_4_g o3_4 stk) = (Sum.elim (fun (v1_0, v1_1, v1_2, v1_3, v1_4, v16, v17, v18, o2_0, o2_1, o2_2, o2_3, o2_4, o3_0, o3_1, o3_2, o3_3_g, o3_3, o3_4_g, o3_4) => (A_tree_clone_1 xat @xmap xlen e_api_Value e_api_Pair m  v1_0 v1_1 v1_2 v1_3 v1_4 v16 v17 v18 o2_0 o2_1 o2_2 o2_3 o2_4 o3_0 o3_1 o3_2 o3_3_g o3_3 o3_4_g o3_4 stk)) (O_tree_clone @xmap e_api_Value e_api_Pair m  stk)) out := by
 subst hPP
 simp only [b_tree_clone_1] at hp
 unfold A_tree_clone_1
 rw [h.at_, hT]
 cbv
 cases c1 : xcmp .lss v18 v17 with
 | false =>
  simp only [c1] at hp ⊢
  cbv
  rw [h.at_, hT]
  cbv
  try simp only [h.len]
  cases c : l_5 v1_4 (plen v1_4) 0 o2_0 o2_1 o2_2 o2_3 o2_4 o3_0 o3_1 o3_2 o3_3_g o3_3 o3_4_g o3_4 with
  | none => simp only [c] at hp; cases hp
  | some o10 =>
   simp only [c] at hp
   cases hp
   first | exact h_l_5 c stk | (have q := h_l_5 c stk; simp only [A_tree_clone_5, h.map_cons, h.map_nil, h.mapE_nil, h.len_nil, he_e_api_Step, he_e_api_Value, he_e_api_Pair, he_e_int] at q; first | exact q | (cbv; exact q))
 | true =>
  simp only [c1] at hp ⊢
  cbv
  rw [h.at_, hT]
  cbv
  cases c3 : pidx v16 v18 with
  | none => simp only [c3] at hp; cases hp
  | some y9 =>
   obtain ⟨a2_0, a2_1, a2_2, a2_3, a2_4⟩ := y9
   simp only [c3] at hp
   obtain ⟨q1, q2⟩ := h.idx e_api_Value c3
   simp only [he_e_api_Value] at q2
   simp only [q1, Bool.false_eq_true, if_false]
   cbv
   try simp only [q2]
   cbv
   cases c5 : c_tree_clone ⟨a2_0, a2_1, a2_2, a2_3, a2_4⟩ with
   | none => simp only [c5] at hp; cases hp
   | some y8 =>
    obtain ⟨r4_0_0, r4_0_1, r4_0_2, r4_0_3, r4_0_4⟩ := y8
    simp only [c5] at hp
    have qc := fun s => (h_tree_clone c5 s).1
    simp only [qc]
    cbv
    simp only [h.allsz_nil, h.allsz_cons]
    cbv
    simp only [h.allsz_nil, h.allsz_cons]
    cbv
    cases c7 : papp 80 o3_3 [⟨r4_0_0, r4_0_1, r4_0_2, r4_0_3, r4_0_4⟩] with
    | none => simp only [c7] at hp; cases hp
    | some l6 =>
     simp only [c7] at hp
     obtain ⟨q1, q2, q3⟩ := h.app e_api_Value c7 rfl
     simp only [h.map_cons, h.map_nil, h.len_nil, he_e_api_Value] at q1 q2 q3
     try simp only [h.len_nil]
     cbv
     simp only [q1, q2, q3, if_true]
     cbv
     rw [h.at_, hT]
     cbv
     cases hp
     all_goals first | rfl | (cbv; done) | (simp only [h.nadd0, h.nle_refl, h.cut_all, h.cut_nil, h.map_cons, h.map_nil, h.mapE_nil, h.len_nil, he_e_api_Step, he_e_api_Value, he_e_api_Pair, he_e_int, O_tree_clone, A_tree_clone_1, if_true]; first | done | rfl | (cbv; done) | (cbv; simp only [h.map_cons, h.map_nil, h.mapE_nil, h.len_nil, he_e_api_Step, he_e_api_Value, he_e_api_Pair, he_e_int, O_tree_clone, A_tree_clone_1]; done))
def b_tree_clone_5 (P : Prims) (c_tree_clone : S_api_Value → Option (S_api_Value))  (v31 : Ls1) (v32 v33 o2_0 o2_1 : Int) (o2_2 : Str) (o2_3 : Ls0) (o2_4 : Ls1) (o3_0 o3_1 : Int) (o3_2 : Str) (o3_3_g : Nat) (o3_3 : Ls0) (o3_4_g : Nat) (o3_4 : Ls1) : Option ((Ls1 × Int × Int × Int × Int × Str × Ls0 × Ls1 × Int × Int × Str × Nat × Ls0 × Nat × Ls1) ⊕ (S_api_Value)) :=
 match P.cmp .lss v33 v32 with
 | false =>
  some (.inr ⟨o3_0, o3_1, o3_2, o3_3, o3_4⟩)
 | true =>
  match P.idx v31 v33 with
  | none => none
  | some ⟨a12_0, ⟨a12_1_0, a12_1_1, a12_1_2, a12_1_3, a12_1_4⟩⟩ =>
   match c_tree_clone ⟨a12_1_0, a12_1_1, a12_1_2, a12_1_3, a12_1_4⟩ with
   | none => none
   | some ⟨r14_0_0, r14_0_1, r14_0_2, r14_0_3, r14_0_4⟩ =>
    match P.app 96 o3_4 [⟨a12_0, ⟨r14_0_0, r14_0_1, r14_0_2, r14_0_3, r14_0_4⟩⟩] with
    | none => none
    | some l16 =>
     some (.inl (v31, v32, P.ar .add .i64 v33 1, o2_0, o2_1, o2_2, o2_3, o2_4, o3_0, o3_1, o3_2, o3_3_g, o3_3, o3_4_g + 1, l16))
theorem o_tree_clone_5  (v31 : Ls1) (v32 v33 o2_0 o2_1 : Int) (o2_2 : Str) (o2_3 : Ls0) (o2_4 : Ls1) (o3_0 o3_1 : Int) (o3_2 : Str) (o3_3_g : Nat) (o3_3 : Ls0) (o3_4_g : Nat) (o3_4 : Ls1)   {out} (hp : b_tree_clone_5 PP c_tree_clone  v31 v32 v33 o2_0 o2_1 o2_2 o2_3 o2_4 o3_0 o3_1 o3_2 o3_3_g o3_3 o3_4_g o3_4 = some out) : (A_tree_clone_5 xat @xmap xlen e_api_Value e_api_Pair m  v31 v32 v33 o2_0 o2_1 o2_2 o2_3 o2_4 o3_0 o3_1 o3_2 o3_3_g o3_3 o3_4_g o3_4 stk) = (Sum.elim (fun (v31, v32, v33, o2_0, o2_1, o2_2, o2_3, o2_4, o3_0, o3_1, o3_2, o3_3_g, o3_3, o3_4_g, o3_4) => (A_tree_clone_5 xat @xmap xlen e_api_Value e_api_Pair m  v31 v32 v33 o2_0 o2_1 o2_2 o2_3 o2_4 o3_0 o3_1 o3_2 o3_3_g o3_3 o3_4_g o3_4 stk)) (O_tree_clone @xmap e_api_Value e_api_Pair m  stk)) out := by
 subst hPP
 simp only [b_tree_clone_5] at hp
 unfold A_tree_clone_5
 rw [h.at_, hT]
 cbv
 cases c11 : xcmp .lss v33 v32 with
 | false =>
  simp only [c11] at hp ⊢
  cbv
  rw [h.at_, hT]
  cbv
  cases hp
  all_goals first | rfl | (cbv; done) | (simp only [h.nadd0, h.nle_refl, h.cut_all, h.cut_nil, h.map_cons, h.map_nil, h.mapE_nil, h.len_nil, he_e_api_Step, he_e_api_Value, he_e_api_Pair, he_e_int, O_tree_clone, A_tree_clone_5, if_true]; first | done | rfl | (cbv; done) | (cbv; simp only [h.map_cons, h.map_nil, h.mapE_nil, h.len_nil, he_e_api_Step, he_e_api_Value, he_e_api_Pair, he_e_int, O_tree_clone, A_tree_clone_5]; done))
 | true =>
  simp only [c11] at hp ⊢
  cbv
  rw [h.at_, hT]
  cbv
  cases c13 : pidx v31 v33 with
  | none => simp only [c13] at hp; cases hp
  | some y19 =>
   obtain ⟨a12_0, ⟨a12_1_0, a12_1_1, a12_1_2, a12_1_3, a12_1_4⟩⟩ := y19
   simp only [c13] at hp
   obtain ⟨q1, q2⟩ := h.idx e_api_Pair c13
   simp only [he_e_api_Pair] at q2
   simp only [q1, Bool.false_eq_true, if_false]
   cbv
   try simp only [q2]
   cbv
   cases c15 : c_tree_clone ⟨a12_1_0, a12_1_1, a12_1_2, a12_1_3, a12_1_4⟩ with
   | none => simp only [c15] at hp; cases hp
   | some y18 =>
    obtain ⟨r14_0_0, r14_0_1, r14_0_2, r14_0_3, r14_0_4⟩ := y18
    simp only [c15] at hp
    have qc := fun s => (h_tree_clone c15 s).1
    simp only [qc]
    cbv
    simp only [h.allsz_nil, h.allsz_cons]
    cbv
    simp only [h.allsz_nil, h.allsz_cons]
    cbv
    cases c17 : papp 96 o3_4 [⟨a12_0, ⟨r14_0_0, r14_0_1, r14_0_2, r14_0_3, r14_0_4⟩⟩] with
    | none => simp only [c17] at hp; cases hp
    | some l16 =>
     simp only [c17] at hp
     obtain ⟨q1, q2, q3⟩ := h.app e_api_Pair c17 rfl
     simp only [h.map_cons, h.map_nil, h.len_nil, he_e_api_Pair] at q1 q2 q3
     try simp only [h.len_nil]
     cbv
     simp only [q1, q2, q3, if_true]
     cbv
     rw [h.at_, hT]
     cbv
     cases hp
     all_goals first | rfl | (cbv; done) | (simp only [h.nadd0, h.nle_refl, h.cut_all, h.cut_nil, h.map_cons, h.map_nil, h.mapE_nil, h.len_nil, he_e_api_Step, he_e_api_Value, he_e_api_Pair, he_e_int, O_tree_clone, A_tree_clone_5, if_true]; first | done | rfl | (cbv; done) | (cbv; simp only [h.map_cons, h.map_nil, h.mapE_nil, h.len_nil, he_e_api_Step, he_e_api_Value, he_e_api_Pair, he_e_int, O_tree_clone, A_tree_clone_5]; done))
end
def b_tree_Clone_0 (P : Prims) (c_tree_Right : S_api_Value → Option (Bool)) (c_tree_clone : S_api_Value → Option (S_api_Value))  (v0_0 v0_1 : Int) (v0_2 : Str) (v0_3 : Ls0) (v0_4 : Ls1) : Option (S_api_Value) :=
 match c_tree_Right ⟨v0_0, v0_1, v0_2, v0_3, v0_4⟩ with
 | none => none
 | some r1_0 =>
  match r1_0 with
  | false =>
   some ⟨0, 0, [], [], []⟩
  | true =>
   match c_tree_clone ⟨v0_0, v0_1, v0_2, v0_3, v0_4⟩ with
   | none => none
   | some ⟨r4_0_0, r4_0_1, r4_0_2, r4_0_3, r4_0_4⟩ =>
    some ⟨r4_0_0, r4_0_1, r4_0_2, r4_0_3, r4_0_4⟩
section
variable (c_tree_Right : S_api_Value → Option (Bool)) (c_tree_clone : S_api_Value → Option (S_api_Value)) (h_tree_Right : (C_tree_Right xpcall xfcall @xmap e_api_Value e_api_Pair c_tree_Right)) (h_tree_clone : (C_tree_clone xpcall xfcall @xmap e_api_Value e_api_Pair c_tree_clone)) (stk : Stk) (m : Nat)   
include c_tree_Right c_tree_clone h_tree_Right h_tree_clone stk m  
theorem o_tree_Clone_0  (v0_0 v0_1 : Int) (v0_2 : Str) (v0_3 : Ls0) (v0_4 : Ls1)   {out} (hp : b_tree_Clone_0 PP c_tree_Right c_tree_clone  v0_0 v0_1 v0_2 v0_3 v0_4 = some out) : (A_tree_Clone_0 xat @xmap e_api_Value e_api_Pair m  v0_0 v0_1 v0_2 v0_3 v0_4 stk) = (O_tree_Clone @xmap e_api_Value e_api_Pair m  stk) out := by
 subst hPP
 simp only [b_tree_Clone_0] at hp
 unfold A_tree_Clone_0
 rw [h.at_, hT]
 cbv
 cases c2 : c_tree_Right ⟨v0_0, v0_1, v0_2, v0_3, v0_4⟩ with
 | none => simp only [c2] at hp; cases hp
 | some r1_0 =>
  simp only [c2] at hp
  have qc := fun s => (h_tree_Right c2 s).1
  simp only [qc]
  cbv
  cases r1_0 with
  | false =>
   simp only at hp
   cbv
   cases hp
   all_goals first | rfl | (cbv; done) | (simp only [h.nadd0, h.nle_refl, h.cut_all, h.cut_nil, h.map_cons, h.map_nil, h.mapE_nil, h.len_nil, he_e_api_Step, he_e_api_Value, he_e_api_Pair, he_e_int, O_tree_Clone, if_true]; first | done | rfl | (cbv; done) | (cbv; simp only [h.map_cons, h.map_nil, h.mapE_nil, h.len_nil, he_e_api_Step, he_e_api_Value, he_e_api_Pair, he_e_int, O_tree_Clone]; done))
  | true =>
   simp only at hp
   cbv
   rw [h.at_, hT]
   cbv
   cases c5 : c_tree_clone ⟨v0_0, v0_1, v0_2, v0_3, v0_4⟩ with
   | none => simp only [c5] at hp; cases hp
   | some y6 =>
    obtain ⟨r4_0_0, r4_0_1, r4_0_2, r4_0_3, r4_0_4⟩ := y6
    simp only [c5] at hp
    have qc := fun s => (h_tree_clone c5 s).1
    simp only [qc]
    cbv
    cases hp
    all_goals first | rfl | (cbv; done)
end
def b_path_changed__0_0 (P : Prims) (c_path_at__0 : S_api_Value → Ls2 → Int → Int → Str → Ls0 → Ls1 → Option (S_api_Value × Int)) (c_tree_Right : S_api_Value → Option (Bool)) (c_tree_Clone : S_api_Value → Option (S_api_Value))  (v0_0 v0_1 : Int) (v0_2 : Str) (v0_3 : Ls0) (v0_4 : Ls1) (v1 : Ls2) (v2_c0_0 v2_c0_1 : Int) (v2_c0_2 : Str) (v2_c0_3 : Ls0) (v2_c0_4 : Ls1) : Option (S_api_Value × Int) :=
 match c_path_at__0 ⟨v0_0, v0_1, v0_2, v0_3, v0_4⟩ v1 v2_c0_0 v2_c0_1 v2_c0_2 v2_c0_3 v2_c0_4 with
 | none => none
 | some (⟨r1_0_0, r1_0_1, r1_0_2, r1_0_3, r1_0_4⟩, r1_1) =>
  match P.cmp .neq r1_1 0 with
  | false =>
   match c_tree_Right ⟨r1_0_0, r1_0_1, r1_0_2, r1_0_3, r1_0_4⟩ with
   | none => none
   | some r4_0 =>
    match r4_0 with
    | false =>
     some (⟨0, 0, [], [], []⟩, 5)
    | true =>
     match c_tree_Clone ⟨r1_0_0, r1_0_1, r1_0_2, r1_0_3, r1_0_4⟩ with
     | none => none
     | some ⟨r7_0_0, r7_0_1, r7_0_2, r7_0_3, r7_0_4⟩ =>
      some (⟨r7_0_0, r7_0_1, r7_0_2, r7_0_3, r7_0_4⟩, 0)
  | true =>
   some (⟨0, 0, [], [], []⟩, r1_1)
section
variable (c_path_at__0 : S_api_Value → Ls2 → Int → Int → Str → Ls0 → Ls1 → Option (S_api_Value × Int)) (c_tree_Right : S_api_Value → Option (Bool)) (c_tree_Clone : S_api_Value → Option (S_api_Value)) (h_path_at__0 : (C_path_at__0 xpcall xfcall @xmap e_api_Step e_api_Value e_api_Pair c_path_at__0)) (h_tree_Right : (C_tree_Right xpcall xfcall @xmap e_api_Value e_api_Pair c_tree_Right)) (h_tree_Clone : (C_tree_Clone xpcall xfcall @xmap e_api_Value e_api_Pair c_tree_Clone)) (stk : Stk) (m : Nat)   
include c_path_at__0 c_tree_Right c_tree_Clone h_path_at__0 h_tree_Right h_tree_Clone stk m  
theorem o_path_changed__0_0  (v0_0 v0_1 : Int) (v0_2 : Str) (v0_3 : Ls0) (v0_4 : Ls1) (v1 : Ls2) (v2_c0_0 v2_c0_1 : Int) (v2_c0_2 : Str) (v2_c0_3 : Ls0) (v2_c0_4 : Ls1)   {out} (hp : b_path_changed__0_0 PP c_path_at__0 c_tree_Right c_tree_Clone  v0_0 v0_1 v0_2 v0_3 v0_4 v1 v2_c0_0 v2_c0_1 v2_c0_2 v2_c0_3 v2_c0_4 = some out) : (A_path_changed__0_0 xat @xmap e_api_Step e_api_Value e_api_Pair m  v0_0 v0_1 v0_2 v0_3 v0_4 v1 v2_c0_0 v2_c0_1 v2_c0_2 v2_c0_3 v2_c0_4 stk) = (O_path_changed__0 @xmap e_api_Value e_api_Pair m  stk) out := by
 subst hPP
 simp only [b_path_changed__0_0] at hp
 unfold A_path_changed__0_0
 rw [h.at_, hT]
 cbv
 cases c2 : c_path_at__0 ⟨v0_0, v0_1, v0_2, v0_3, v0_4⟩ v1 v2_c0_0 v2_c0_1 v2_c0_2 v2_c0_3 v2_c0_4 with
 | none => simp only [c2] at hp; cases hp
 | some y10 =>
  obtain ⟨⟨r1_0_0, r1_0_1, r1_0_2, r1_0_3, r1_0_4⟩, r1_1⟩ := y10
  simp only [c2] at hp
  have qc := fun s => (h_path_at__0 c2 s).1
  simp only [qc]
  cbv
  cases c3 : xcmp .neq r1_1 0 with
  | false =>
   simp only [c3] at hp ⊢
   cbv
   cases c5 : c_tree_Right ⟨r1_0_0, r1_0_1, r1_0_2, r1_0_3, r1_0_4⟩ with
   | none => simp only [c5] at hp; cases hp
   | some r4_0 =>
    simp only [c5] at hp
    have qc := fun s => (h_tree_Right c5 s).1
    simp only [qc]
    cbv
    cases r4_0 with
    | false =>
     simp only at hp
     cbv
     cases hp
     all_goals first | rfl | (cbv; done) | (simp only [h.nadd0, h.nle_refl, h.cut_all, h.cut_nil, h.map_cons, h.map_nil, h.mapE_nil, h.len_nil, he_e_api_Step, he_e_api_Value, he_e_api_Pair, he_e_int, O_path_changed__0, if_true]; first | done | rfl | (cbv; done) | (cbv; simp only [h.map_cons, h.map_nil, h.mapE_nil, h.len_nil, he_e_api_Step, he_e_api_Value, he_e_api_Pair, he_e_int, O_path_changed__0]; done))
    | true =>
     simp only at hp
     cbv
     rw [h.at_, hT]
     cbv
     cases c8 : c_tree_Clone ⟨r1_0_0, r1_0_1, r1_0_2, r1_0_3, r1_0_4⟩ with
     | none => simp only [c8] at hp; cases hp
     | some y9 =>
      obtain ⟨r7_0_0, r7_0_1, r7_0_2, r7_0_3, r7_0_4⟩ := y9
      simp only [c8] at hp
      have qc := fun s => (h_tree_Clone c8 s).1
      simp only [qc]
      cbv
      cases hp
      all_goals first | rfl | (cbv; done)
  | true =>
   simp only [c3] at hp ⊢
   cbv
   cases hp
   all_goals first | rfl | (cbv; done) | (simp only [h.nadd0, h.nle_refl, h.cut_all, h.cut_nil, h.map_cons, h.map_nil, h.mapE_nil, h.len_nil, he_e_api_Step, he_e_api_Value, he_e_api_Pair, he_e_int, O_path_changed__0, if_true]; first | done | rfl | (cbv; done) | (cbv; simp only [h.map_cons, h.map_nil, h.mapE_nil, h.len_nil, he_e_api_Step, he_e_api_Value, he_e_api_Pair, he_e_int, O_path_changed__0]; done))
end
def b_path_Put_0 (P : Prims) (c_tree_Right : S_api_Value → Option (Bool)) (c_path_Right : Ls2 → Option (Bool)) (c_path_changed__0 : S_api_Value → Ls2 → Int → Int → Str → Ls0 → Ls1 → Option (S_api_Value × Int))  (v0_0 v0_1 : Int) (v0_2 : Str) (v0_3 : Ls0) (v0_4 : Ls1) (v1 : Ls2) (v2_0 v2_1 : Int) (v2_2 : Str) (v2_3 : Ls0) (v2_4 : Ls1) : Option (S_api_Value × Int) :=
 match c_tree_Right ⟨v0_0, v0_1, v0_2, v0_3, v0_4⟩ with
 | none => none
 | some r1_0 =>
  match r1_0 with
  | false =>
   some (⟨0, 0, [], [], []⟩, 1)
  | true =>
   match c_path_Right v1 with
   | none => none
   | some r4_0 =>
    match r4_0 with
    | false =>
     some (⟨0, 0, [], [], []⟩, 1)
    | true =>
     match c_tree_Right ⟨v2_0, v2_1, v2_2, v2_3, v2_4⟩ with
     | none => none
     | some r7_0 =>
      match r7_0 with
      | false =>
       some (⟨0, 0, [], [], []⟩, 1)
      | true =>
       match c_path_changed__0 ⟨v0_0, v0_1, v0_2, v0_3, v0_4⟩ v1 v2_0 v2_1 v2_2 v2_3 v2_4 with
       | none => none
       | some (⟨r10_0_0, r10_0_1, r10_0_2, r10_0_3, r10_0_4⟩, r10_1) =>
        some (⟨r10_0_0, r10_0_1, r10_0_2, r10_0_3, r10_0_4⟩, r10_1)
section
variable (c_tree_Right : S_api_Value → Option (Bool)) (c_path_Right : Ls2 → Option (Bool)) (c_path_changed__0 : S_api_Value → Ls2 → Int → Int → Str → Ls0 → Ls1 → Option (S_api_Value × Int)) (h_tree_Right : (C_tree_Right xpcall xfcall @xmap e_api_Value e_api_Pair c_tree_Right)) (h_path_Right : (C_path_Right xpcall xfcall @xmap e_api_Step c_path_Right)) (h_path_changed__0 : (C_path_changed__0 xpcall xfcall @xmap e_api_Step e_api_Value e_api_Pair c_path_changed__0)) (stk : Stk) (m : Nat)   
include c_tree_Right c_path_Right c_path_changed__0 h_tree_Right h_path_Right h_path_changed__0 stk m  
theorem o_path_Put_0  (v0_0 v0_1 : Int) (v0_2 : Str) (v0_3 : Ls0) (v0_4 : Ls1) (v1 : Ls2) (v2_0 v2_1 : Int) (v2_2 : Str) (v2_3 : Ls0) (v2_4 : Ls1)   {out} (hp : b_path_Put_0 PP c_tree_Right c_path_Right c_path_changed__0  v0_0 v0_1 v0_2 v0_3 v0_4 v1 v2_0 v2_1 v2_2 v2_3 v2_4 = some out) : (A_path_Put_0 xat @xmap e_api_Step e_api_Value e_api_Pair m  v0_0 v0_1 v0_2 v0_3 v0_4 v1 v2_0 v2_1 v2_2 v2_3 v2_4 stk) = (O_path_Put @xmap e_api_Value e_api_Pair m  stk) out := by
 subst hPP
 simp only [b_path_Put_0] at hp
 unfold A_path_Put_0
 rw [h.at_, hT]
 cbv
 cases c2 : c_tree_Right ⟨v0_0, v0_1, v0_2, v0_3, v0_4⟩ with
 | none => simp only [c2] at hp; cases hp
 | some r1_0 =>
  simp only [c2] at hp
  have qc := fun s => (h_tree_Right c2 s).1
  simp only [qc]
  cbv
  cases r1_0 with
  | false =>
   simp only at hp
   cbv
   cases hp
   all_goals first | rfl | (cbv; done) | (simp only [h.nadd0, h.nle_refl, h.cut_all, h.cut_nil, h.map_cons, h.map_nil, h.mapE_nil, h.len_nil, he_e_api_Step, he_e_api_Value, he_e_api_Pair, he_e_int, O_path_Put, if_true]; first | done | rfl | (cbv; done) | (cbv; simp only [h.map_cons, h.map_nil, h.mapE_nil, h.len_nil, he_e_api_Step, he_e_api_Value, he_e_api_Pair, he_e_int, O_path_Put]; done))
  | true =>
   simp only at hp
   cbv
   cases c5 : c_path_Right v1 with
   | none => simp only [c5] at hp; cases hp
   | some r4_0 =>
    simp only [c5] at hp
    have qc := fun s => (h_path_Right c5 s).1
    simp only [qc]
    cbv
    cases r4_0 with
    | false =>
     simp only at hp
     cbv
     cases hp
     all_goals first | rfl | (cbv; done) | (simp only [h.nadd0, h.nle_refl, h.cut_all, h.cut_nil, h.map_cons, h.map_nil, h.mapE_nil, h.len_nil, he_e_api_Step, he_e_api_Value, he_e_api_Pair, he_e_int, O_path_Put, if_true]; first | done | rfl | (cbv; done) | (cbv; simp only [h.map_cons, h.map_nil, h.mapE_nil, h.len_nil, he_e_api_Step, he_e_api_Value, he_e_api_Pair, he_e_int, O_path_Put]; done))
    | true =>
     simp only at hp
     cbv
     cases c8 : c_tree_Right ⟨v2_0, v2_1, v2_2, v2_3, v2_4⟩ with
     | none => simp only [c8] at hp; cases hp
     | some r7_0 =>
      simp only [c8] at hp
      have qc := fun s => (h_tree_Right c8 s).1
      simp only [qc]
      cbv
      cases r7_0 with
      | false =>
       simp only at hp
       cbv
       cases hp
       all_goals first | rfl | (cbv; done) | (simp only [h.nadd0, h.nle_refl, h.cut_all, h.cut_nil, h.map_cons, h.map_nil, h.mapE_nil, h.len_nil, he_e_api_Step, he_e_api_Value, he_e_api_Pair, he_e_int, O_path_Put, if_true]; first | done | rfl | (cbv; done) | (cbv; simp only [h.map_cons, h.map_nil, h.mapE_nil, h.len_nil, he_e_api_Step, he_e_api_Value, he_e_api_Pair, he_e_int, O_path_Put]; done))
      | true =>
       simp only at hp
       cbv
       rw [h.at_, hT]
       cbv
       cases c11 : c_path_changed__0 ⟨v0_0, v0_1, v0_2, v0_3, v0_4⟩ v1 v2_0 v2_1 v2_2 v2_3 v2_4 with
       | none => simp only [c11] at hp; cases hp
       | some y12 =>
        obtain ⟨⟨r10_0_0, r10_0_1, r10_0_2, r10_0_3, r10_0_4⟩, r10_1⟩ := y12
        simp only [c11] at hp
        have qc := fun s => (h_path_changed__0 c11 s).1
        simp only [qc]
        cbv
        cases hp
        all_goals first | rfl | (cbv; done)
end
def b_cascaderef03_Same_0 (P : Prims) (c_cascaderef03_Same : S_api_Value → S_api_Value → Option (Bool)) (l_2 : T_cascaderef03_Same_2) (v0_0 v0_1 : Int) (v0_2 : Str) (v0_3 : Ls0) (v0_4 : Ls1) (v1_0 v1_1 : Int) (v1_2 : Str) (v1_3 : Ls0) (v1_4 : Ls1) : Option (Bool) :=
 match P.cmp .neq v0_0 v1_0 with
 | false =>
  match P.cmp .neq v0_1 v1_1 with
  | false =>
   match P.seq v0_2 v1_2 with
   | false =>
    some false
   | true =>
    match P.cmp .neq (P.len v0_3) (P.len v1_3) with
    | false =>
     match P.cmp .neq (P.len v0_4) (P.len v1_4) with
     | false =>
      l_2 v0_0 v0_1 v0_2 v0_3 v0_4 v1_0 v1_1 v1_2 v1_3 v1_4 0
     | true =>
      some false
    | true =>
     some false
  | true =>
   some false
 | true =>
  some false
section
variable (c_cascaderef03_Same : S_api_Value → S_api_Value → Option (Bool)) (h_cascaderef03_Same : (C_cascaderef03_Same xpcall xfcall @xmap e_api_Value e_api_Pair c_cascaderef03_Same)) (stk : Stk) (m : Nat)   
include c_cascaderef03_Same h_cascaderef03_Same stk m  
theorem o_cascaderef03_Same_0 (l_2 : T_cascaderef03_Same_2) (v0_0 v0_1 : Int) (v0_2 : Str) (v0_3 : Ls0) (v0_4 : Ls1) (v1_0 v1_1 : Int) (v1_2 : Str) (v1_3 : Ls0) (v1_4 : Ls1)  (h_l_2 : H_cascaderef03_Same_2 xat @xmap e_api_Value e_api_Pair m  l_2) {out} (hp : b_cascaderef03_Same_0 PP c_cascaderef03_Same l_2 v0_0 v0_1 v0_2 v0_3 v0_4 v1_0 v1_1 v1_2 v1_3 v1_4 = some out) : (A_cascaderef03_Same_0 xat @xmap e_api_Value e_api_Pair m  v0_0 v0_1 v0_2 v0_3 v0_4 v1_0 v1_1 v1_2 v1_3 v1_4 stk) = (O_cascaderef03_Same  m  stk) out := by
 subst hPP
 simp only [b_cascaderef03_Same_0] at hp
 unfold A_cascaderef03_Same_0
 rw [h.at_, hT]
 cbv
 cases c1 : xcmp .neq v0_0 v1_0 with
 | false =>
  simp only [c1] at hp ⊢
  cbv
  cases c2 : xcmp .neq v0_1 v1_1 with
  | false =>
   simp only [c2] at hp ⊢
   cbv
   cases c3 : xseq v0_2 v1_2 with
   | false =>
    simp only [c3] at hp ⊢
    cbv
    cases hp
    all_goals first | rfl | (cbv; done)
   | true =>
    simp only [c3] at hp ⊢
    cbv
    try simp only [h.len]
    try simp only [h.len]
    cases c4 : xcmp .neq (plen v0_3) (plen v1_3) with
    | false =>
     simp only [c4] at hp ⊢
     cbv
     try simp only [h.len]
     try simp only [h.len]
     cases c5 : xcmp .neq (plen v0_4) (plen v1_4) with
     | false =>
      simp only [c5] at hp ⊢
      cbv
      rw [h.at_, hT]
      cbv
      first | exact h_l_2 hp stk | (have q := h_l_2 hp stk; simp only [A_cascaderef03_Same_2, h.map_cons, h.map_nil, h.mapE_nil, h.len_nil, he_e_api_Step, he_e_api_Value, he_e_api_Pair, he_e_int] at q; first | exact q | (cbv; exact q))
     | true =>
      simp only [c5] at hp ⊢
      cbv
      cases hp
      all_goals first | rfl | (cbv; done)
    | true =>
     simp only [c4] at hp ⊢
     cbv
     cases hp
     all_goals first | rfl | (cbv; done)
  | true =>
   simp only [c2] at hp ⊢
   cbv
   cases hp
   all_goals first | rfl | (cbv; done)
 | true =>
  simp only [c1] at hp ⊢
  cbv
  cases hp
  all_goals first | rfl | (cbv; done)
def b_cascaderef03_Same_2 (P : Prims) (c_cascaderef03_Same : S_api_Value → S_api_Value → Option (Bool)) (l_6 : T_cascaderef03_Same_6) (v2_0 v2_1 : Int) (v2_2 : Str) (v2_3 : Ls0) (v2_4 : Ls1) (v3_0 v3_1 : Int) (v3_2 : Str) (v3_3 : Ls0) (v3_4 : Ls1) (v5 : Int) : Option ((Int × Int × Str × Ls0 × Ls1 × Int × Int × Str × Ls0 × Ls1 × Int) ⊕ (Bool)) :=
 match P.cmp .lss v5 (P.len v2_3) with
 | false =>
  match l_6 v2_0 v2_1 v2_2 v2_3 v2_4 v3_0 v3_1 v3_2 v3_3 v3_4 0 with | none => none | some o16 => some (.inr o16)
 | true =>
  match P.idx v2_3 v5 with
  | none => none
  | some ⟨a7_0, a7_1, a7_2, a7_3, a7_4⟩ =>
   match P.idx v3_3 v5 with
   | none => none
   | some ⟨a9_0, a9_1, a9_2, a9_3, a9_4⟩ =>
    match c_cascaderef03_Same ⟨a7_0, a7_1, a7_2, a7_3, a7_4⟩ ⟨a9_0, a9_1, a9_2, a9_3, a9_4⟩ with
    | none => none
    | some r11_0 =>
     match r11_0 with
     | false =>
      some (.inr false)
     | true =>
      some (.inl (v2_0, v2_1, v2_2, v2_3, v2_4, v3_0, v3_1, v3_2, v3_3, v3_4, P.ar .add .i64 v5 1))
theorem o_cascaderef03_Same_2 (l_6 : T_cascaderef03_Same_6) (v2_0 v2_1 : Int) (v2_2 : Str) (v2_3 : Ls0) (v2_4 : Ls1) (v3_0 v3_1 : Int) (v3_2 : Str) (v3_3 : Ls0) (v3_4 : Ls1) (v5 : Int)  (h_l_6 : H_cascaderef03_Same_6 xat @xmap e_api_Value e_api_Pair m  l_6) {out} (hp : b_cascaderef03_Same_2 PP c_cascaderef03_Same l_6 v2_0 v2_1 v2_2 v2_3 v2_4 v3_0 v3_1 v3_2 v3_3 v3_4 v5 = some out) : (A_cascaderef03_Same_2 xat @xmap e_api_Value e_api_Pair m  v2_0 v2_1 v2_2 v2_3 v2_4 v3_0 v3_1 v3_2 v3_3 v3_4 v5 stk) = (Sum.elim (fun (v2_0, v2_1, v2_2, v2_3, v2_4, v3_0, v3_1, v3_2, v3_3, v3_4, v5) => (A_cascaderef03_Same_2 xat @xmap e_api_Value e_api_Pair m  v2_0 v2_1 v2_2 v2_3 v2_4 v3_0 v3_1 v3_2 v3_3 v3_4 v5 stk)) (O_cascaderef03_Same  m  stk)) out := by
 subst hPP
 simp only [b_cascaderef03_Same_2] at hp
 unfold A_cascaderef03_Same_2
 rw [h.at_, hT]
 cbv
 try simp only [h.len]
 cases c6 : xcmp .lss v5 (plen v2_3) with
 | false =>
  simp only [c6] at hp ⊢
  cbv
  rw [h.at_, hT]
  cbv
  cases c : l_6 v2_0 v2_1 v2_2 v2_3 v2_4 v3_0 v3_1 v3_2 v3_3 v3_4 0 with
  | none => simp only [c] at hp; cases hp
  | some o16 =>
   simp only [c] at hp
   cases hp
   first | exact h_l_6 c stk | (have q := h_l_6 c stk; simp only [A_cascaderef03_Same_6, h.map_cons, h.map_nil, h.mapE_nil, h.len_nil, he_e_api_Step, he_e_api_Value, he_e_api_Pair, he_e_int] at q; first | exact q | (cbv; exact q))
 | true =>
  simp only [c6] at hp ⊢
  cbv
  rw [h.at_, hT]
  cbv
  cases c8 : pidx v2_3 v5 with
  | none => simp only [c8] at hp; cases hp
  | some y15 =>
   obtain ⟨a7_0, a7_1, a7_2, a7_3, a7_4⟩ := y15
   simp only [c8] at hp
   obtain ⟨q1, q2⟩ := h.idx e_api_Value c8
   simp only [he_e_api_Value] at q2
   simp only [q1, Bool.false_eq_true, if_false]
   cbv
   try simp only [q2]
   cbv
   cases c10 : pidx v3_3 v5 with
   | none => simp only [c10] at hp; cases hp
   | some y14 =>
    obtain ⟨a9_0, a9_1, a9_2, a9_3, a9_4⟩ := y14
    simp only [c10] at hp
    obtain ⟨q1, q2⟩ := h.idx e_api_Value c10
    simp only [he_e_api_Value] at q2
    simp only [q1, Bool.false_eq_true, if_false]
    cbv
    try simp only [q2]
    cbv
    cases c12 : c_cascaderef03_Same ⟨a7_0, a7_1, a7_2, a7_3, a7_4⟩ ⟨a9_0, a9_1, a9_2, a9_3, a9_4⟩ with
    | none => simp only [c12] at hp; cases hp
    | some r11_0 =>
     simp only [c12] at hp
     have qc := fun s => (h_cascaderef03_Same c12 s).1
     simp only [qc]
     cbv
     cases r11_0 with
     | false =>
      simp only at hp
      cbv
      cases hp
      all_goals first | rfl | (cbv; done)
     | true =>
      simp only at hp
      cbv
      rw [h.at_, hT]
      cbv
      cases hp
      all_goals first | rfl | (cbv; done)
def b_cascaderef03_Same_6 (P : Prims) (c_cascaderef03_Same : S_api_Value → S_api_Value → Option (Bool))  (v2_0 v2_1 : Int) (v2_2 : Str) (v2_3 : Ls0) (v2_4 : Ls1) (v3_0 v3_1 : Int) (v3_2 : Str) (v3_3 : Ls0) (v3_4 : Ls1) (v6 : Int) : Option ((Int × Int × Str × Ls0 × Ls1 × Int × Int × Str × Ls0 × Ls1 × Int) ⊕ (Bool)) :=
 match P.cmp .lss v6 (P.len v2_4) with
 | false =>
  some (.inr true)
 | true =>
  match P.idx v2_4 v6 with
  | none => none
  | some ⟨a18_0, ⟨a18_1_0, a18_1_1, a18_1_2, a18_1_3, a18_1_4⟩⟩ =>
   match P.idx v3_4 v6 with
   | none => none
   | some ⟨a20_0, ⟨a20_1_0, a20_1_1, a20_1_2, a20_1_3, a20_1_4⟩⟩ =>
    match P.seq a18_0 a20_0 with
    | false =>
     some (.inr false)
    | true =>
     match c_cascaderef03_Same ⟨a18_1_0, a18_1_1, a18_1_2, a18_1_3, a18_1_4⟩ ⟨a20_1_0, a20_1_1, a20_1_2, a20_1_3, a20_1_4⟩ with
     | none => none
     | some r23_0 =>
      match r23_0 with
      | false =>
       some (.inr false)
      | true =>
       some (.inl (v2_0, v2_1, v2_2, v2_3, v2_4, v3_0, v3_1, v3_2, v3_3, v3_4, P.ar .add .i64 v6 1))
theorem o_cascaderef03_Same_6  (v2_0 v2_1 : Int) (v2_2 : Str) (v2_3 : Ls0) (v2_4 : Ls1) (v3_0 v3_1 : Int) (v3_2 : Str) (v3_3 : Ls0) (v3_4 : Ls1) (v6 : Int)   {out} (hp : b_cascaderef03_Same_6 PP c_cascaderef03_Same  v2_0 v2_1 v2_2 v2_3 v2_4 v3_0 v3_1 v3_2 v3_3 v3_4 v6 = some out) : (A_cascaderef03_Same_6 xat @xmap e_api_Value e_api_Pair m  v2_0 v2_1 v2_2 v2_3 v2_4 v3_0 v3_1 v3_2 v3_3 v3_4 v6 stk) = (Sum.elim (fun (v2_0, v2_1, v2_2, v2_3, v2_4, v3_0, v3_1, v3_2, v3_3, v3_4, v6) => (A_cascaderef03_Same_6 xat @xmap e_api_Value e_api_Pair m  v2_0 v2_1 v2_2 v2_3 v2_4 v3_0 v3_1 v3_2 v3_3 v3_4 v6 stk)) (O_cascaderef03_Same  m  stk)) out := by
 subst hPP
 simp only [b_cascaderef03_Same_6] at hp
 unfold A_cascaderef03_Same_6
 rw [h.at_, hT]
 cbv
 try simp only [h.len]
 cases c17 : xcmp .lss v6 (plen v2_4) with
 | false =>
  simp only [c17] at hp ⊢
  cbv
  rw [h.at_, hT]
  cbv
  cases hp
  all_goals first | rfl | (cbv; done)
 | true =>
  simp only [c17] at hp ⊢
  cbv
  rw [h.at_, hT]
  cbv
  cases c19 : pidx v2_4 v6 with
  | none => simp only [c19] at hp; cases hp
  | some y27 =>
   obtain ⟨a18_0, ⟨a18_1_0, a18_1_1, a18_1_2, a18_1_3, a18_1_4⟩⟩ := y27
   simp only [c19] at hp
   obtain ⟨q1, q2⟩ := h.idx e_api_Pair c19
   simp only [he_e_api_Pair] at q2
   simp only [q1, Bool.false_eq_true, if_false]
   cbv
   try simp only [q2]
   cbv
   cases c21 : pidx v3_4 v6 with
   | none => simp only [c21] at hp; cases hp
   | some y26 =>
    obtain ⟨a20_0, ⟨a20_1_0, a20_1_1, a20_1_2, a20_1_3, a20_1_4⟩⟩ := y26
    simp only [c21] at hp
    obtain ⟨q1, q2⟩ := h.idx e_api_Pair c21
    simp only [he_e_api_Pair] at q2
    simp only [q1, Bool.false_eq_true, if_false]
    cbv
    try simp only [q2]
    cbv
    cases c22 : xseq a18_0 a20_0 with
    | false =>
     simp only [c22] at hp ⊢
     cbv
     cases hp
     all_goals first | rfl | (cbv; done)
    | true =>
     simp only [c22] at hp ⊢
     cbv
     obtain ⟨q1, q2⟩ := h.idx e_api_Pair c19
     simp only [he_e_api_Pair] at q2
     simp only [q1, Bool.false_eq_true, if_false]
     cbv
     try simp only [q2]
     cbv
     obtain ⟨q1, q2⟩ := h.idx e_api_Pair c21
     simp only [he_e_api_Pair] at q2
     simp only [q1, Bool.false_eq_true, if_false]
     cbv
     try simp only [q2]
     cbv
     cases c24 : c_cascaderef03_Same ⟨a18_1_0, a18_1_1, a18_1_2, a18_1_3, a18_1_4⟩ ⟨a20_1_0, a20_1_1, a20_1_2, a20_1_3, a20_1_4⟩ with
     | none => simp only [c24] at hp; cases hp
     | some r23_0 =>
      simp only [c24] at hp
      have qc := fun s => (h_cascaderef03_Same c24 s).1
      simp only [qc]
      cbv
      cases r23_0 with
      | false =>
       simp only at hp
       cbv
       cases hp
       all_goals first | rfl | (cbv; done)
      | true =>
       simp only at hp
       cbv
       rw [h.at_, hT]
       cbv
       cases hp
       all_goals first | rfl | (cbv; done)
end
def b_cascadelaw06_zero_0 (P : Prims) (c_cascaderef03_Same : S_api_Value → S_api_Value → Option (Bool))  (v0_0 v0_1 : Int) (v0_2 : Str) (v0_3 : Ls0) (v0_4 : Ls1) : Option (Bool) :=
 match c_cascaderef03_Same ⟨v0_0, v0_1, v0_2, v0_3, v0_4⟩ ⟨0, 0, [], [], []⟩ with
 | none => none
 | some r1_0 =>
  some r1_0
section
variable (c_cascaderef03_Same : S_api_Value → S_api_Value → Option (Bool)) (h_cascaderef03_Same : (C_cascaderef03_Same xpcall xfcall @xmap e_api_Value e_api_Pair c_cascaderef03_Same)) (stk : Stk) (m : Nat)   
include c_cascaderef03_Same h_cascaderef03_Same stk m  
theorem o_cascadelaw06_zero_0  (v0_0 v0_1 : Int) (v0_2 : Str) (v0_3 : Ls0) (v0_4 : Ls1)   {out} (hp : b_cascadelaw06_zero_0 PP c_cascaderef03_Same  v0_0 v0_1 v0_2 v0_3 v0_4 = some out) : (A_cascadelaw06_zero_0 xat @xmap e_api_Value e_api_Pair m  v0_0 v0_1 v0_2 v0_3 v0_4 stk) = (O_cascadelaw06_zero  m  stk) out := by
 subst hPP
 simp only [b_cascadelaw06_zero_0] at hp
 unfold A_cascadelaw06_zero_0
 rw [h.at_, hT]
 cbv
 cases c2 : c_cascaderef03_Same ⟨v0_0, v0_1, v0_2, v0_3, v0_4⟩ ⟨0, 0, [], [], []⟩ with
 | none => simp only [c2] at hp; cases hp
 | some r1_0 =>
  simp only [c2] at hp
  have qc := fun s => (h_cascaderef03_Same c2 s).1
  try simp only [h.map_nil] at qc
  simp only [qc]
  cbv
  cases hp
  all_goals first | rfl | (cbv; done)
end
def b_path_Find_1__0_0 (P : Prims) (c_tree_Clone : S_api_Value → Option (S_api_Value))  (v0_0 v0_1 : Int) (v0_2 : Str) (v0_3 : Ls0) (v0_4 : Ls1) (L0_0 L0_1 : Int) (L0_2 : Str) (L0_3 : Ls0) (L0_4 : Ls1) : Option (S_api_Value × Int × Int × Int × Str × Ls0 × Ls1) :=
 match c_tree_Clone ⟨v0_0, v0_1, v0_2, v0_3, v0_4⟩ with
 | none => none
 | some ⟨r1_0_0, r1_0_1, r1_0_2, r1_0_3, r1_0_4⟩ =>
  some (⟨v0_0, v0_1, v0_2, v0_3, v0_4⟩, 0, r1_0_0, r1_0_1, r1_0_2, r1_0_3, r1_0_4)
section
variable (c_tree_Clone : S_api_Value → Option (S_api_Value)) (h_tree_Clone : (C_tree_Clone xpcall xfcall @xmap e_api_Value e_api_Pair c_tree_Clone)) (stk : Stk) (m : Nat) (n0 : Nat) (k0 : List Nat) (hl0 : n0 < m) 
include c_tree_Clone h_tree_Clone stk m n0 k0 hl0
theorem o_path_Find_1__0_0  (v0_0 v0_1 : Int) (v0_2 : Str) (v0_3 : Ls0) (v0_4 : Ls1) (L0_0 L0_1 : Int) (L0_2 : Str) (L0_3 : Ls0) (L0_4 : Ls1) (hg0 : getO stk ⟨n0, k0⟩ = some (.cells [(.d (.int .i64 L0_0)), (.d (.int .i64 L0_1)), (.d (.str L0_2)), (.d (.sl (xmap e_api_Value L0_3))), (.d (.sl (xmap e_api_Pair L0_4)))]))  {out} (hp : b_path_Find_1__0_0 PP c_tree_Clone  v0_0 v0_1 v0_2 v0_3 v0_4 L0_0 L0_1 L0_2 L0_3 L0_4 = some out) : (A_path_Find_1__0_0 xat @xmap e_api_Value e_api_Pair m n0 k0 v0_0 v0_1 v0_2 v0_3 v0_4 L0_0 L0_1 L0_2 L0_3 L0_4 stk) = (O_path_Find_1__0 @xmap xsetO e_api_Value e_api_Pair m n0 k0 stk) out := by
 have hn0 : (n0 = m) = False := eq_false (Nat.ne_of_lt hl0)
 have hm0 : decide (n0 < m) = true := decide_eq_true hl0
 subst hPP
 simp only [b_path_Find_1__0_0] at hp
 unfold A_path_Find_1__0_0
 rw [h.at_, hT]
 cbv
 cases c2 : c_tree_Clone ⟨v0_0, v0_1, v0_2, v0_3, v0_4⟩ with
 | none => simp only [c2] at hp; cases hp
 | some y3 =>
  obtain ⟨r1_0_0, r1_0_1, r1_0_2, r1_0_3, r1_0_4⟩ := y3
  simp only [c2] at hp
  have qc := fun s => (h_tree_Clone c2 s).1
  simp only [qc]
  cbv
  try simp only [if_false, if_true, hn0, hm0, hg0]
  try cbv
  try simp only [h.set_o, h.st_, h.sb_ hl0, if_false, if_true, hn0, hm0, (h.gs (hg0) _)]
  try cbv
  cases hp
  try simp only [O_path_Find_1__0, Sum.elim_inl, Sum.elim_inr]
  try (simp only [h.so])
  try simp only [if_false, if_true, hn0, hm0]
  all_goals first | rfl | (cbv; done) | (simp only [h.nadd0, h.nle_refl, h.cut_all, h.cut_nil, h.map_cons, h.map_nil, h.mapE_nil, h.len_nil, he_e_api_Step, he_e_api_Value, he_e_api_Pair, he_e_int, O_path_Find_1__0, if_true]; first | done | rfl | (cbv; done) | (cbv; simp only [h.map_cons, h.map_nil, h.mapE_nil, h.len_nil, he_e_api_Step, he_e_api_Value, he_e_api_Pair, he_e_int, O_path_Find_1__0]; done))
end
def b_path_at__1_0 (P : Prims) (c_path_Find_1__0 : S_api_Value → Int → Int → Str → Ls0 → Ls1 → Option (S_api_Value × Int × Int × Int × Str × Ls0 × Ls1)) (c_slices_Clone__api_Value_api_Value__0 : Ls0 → Option (Nat × Ls0)) (c_path_at__1 : S_api_Value → Ls2 → Int → Int → Str → Ls0 → Ls1 → Option (S_api_Value × Int × Int × Int × Str × Ls0 × Ls1)) (c_slices_IndexFunc__api_Pair_api_Pair__1 : Ls1 → Str → Int → Bool → Option (Int)) (c_slices_Clone__api_Pair_api_Pair__0 : Ls1 → Option (Nat × Ls1)) (l_2 : T_path_at__1_2) (v0_0 v0_1 : Int) (v0_2 : Str) (v0_3 : Ls0) (v0_4 : Ls1) (v1 : Ls2) (L0_0 L0_1 : Int) (L0_2 : Str) (L0_3 : Ls0) (L0_4 : Ls1) : Option (S_api_Value × Int × Int × Int × Str × Ls0 × Ls1) :=
 match P.cmp .eql (P.len v1) 0 with
 | false =>
  match P.idx v1 0 with
  | none => none
  | some ⟨a5_0, a5_1, a5_2⟩ =>
   match a5_2 with
   | false =>
    match P.cmp .eql v0_0 5 with
    | false =>
     l_2 0 0 [] [] [] L0_0 L0_1 L0_2 L0_3 L0_4
    | true =>
     match c_slices_IndexFunc__api_Pair_api_Pair__1 v0_4 a5_0 a5_1 false with
     | none => none
     | some r28_0 =>
      match P.cmp .geq r28_0 0 with
      | false =>
       l_2 0 0 [] [] [] L0_0 L0_1 L0_2 L0_3 L0_4
      | true =>
       match c_slices_Clone__api_Pair_api_Pair__0 v0_4 with
       | none => none
       | some (r31_0, r31_1) =>
        match P.idx r31_1 r28_0 with
        | none => none
        | some ⟨a34_0, ⟨a34_1_0, a34_1_1, a34_1_2, a34_1_3, a34_1_4⟩⟩ =>
         match P.sub v1 (some 1) none with
         | none => none
         | some s36 =>
          match c_path_at__1 ⟨a34_1_0, a34_1_1, a34_1_2, a34_1_3, a34_1_4⟩ s36 L0_0 L0_1 L0_2 L0_3 L0_4 with
          | none => none
          | some (⟨r39_0_0, r39_0_1, r39_0_2, r39_0_3, r39_0_4⟩, r39_1, r39_w0_0, r39_w0_1, r39_w0_2, r39_w0_3, r39_w0_4) =>
           match P.set r31_1 r28_0 ⟨a34_0, ⟨r39_0_0, r39_0_1, r39_0_2, r39_0_3, r39_0_4⟩⟩ with
           | none => none
           | some l43 =>
            some (⟨v0_0, v0_1, v0_2, v0_3, l43⟩, r39_1, r39_w0_0, r39_w0_1, r39_w0_2, r39_w0_3, r39_w0_4)
   | true =>
    match P.cmp .eql v0_0 4 with
    | false =>
     l_2 0 0 [] [] [] L0_0 L0_1 L0_2 L0_3 L0_4
    | true =>
     match P.cmp .lss a5_1 (P.len v0_3) with
     | false =>
      l_2 0 0 [] [] [] L0_0 L0_1 L0_2 L0_3 L0_4
     | true =>
      match c_slices_Clone__api_Value_api_Value__0 v0_3 with
      | none => none
      | some (r10_0, r10_1) =>
       match P.idx r10_1 a5_1 with
       | none => none
       | some ⟨a13_0, a13_1, a13_2, a13_3, a13_4⟩ =>
        match P.sub v1 (some 1) none with
        | none => none
        | some s15 =>
         match c_path_at__1 ⟨a13_0, a13_1, a13_2, a13_3, a13_4⟩ s15 L0_0 L0_1 L0_2 L0_3 L0_4 with
         | none => none
         | some (⟨r18_0_0, r18_0_1, r18_0_2, r18_0_3, r18_0_4⟩, r18_1, r18_w0_0, r18_w0_1, r18_w0_2, r18_w0_3, r18_w0_4) =>
          match P.set r10_1 a5_1 ⟨r18_0_0, r18_0_1, r18_0_2, r18_0_3, r18_0_4⟩ with
          | none => none
          | some l22 =>
           some (⟨v0_0, v0_1, v0_2, l22, v0_4⟩, r18_1, r18_w0_0, r18_w0_1, r18_w0_2, r18_w0_3, r18_w0_4)
 | true =>
  match c_path_Find_1__0 ⟨v0_0, v0_1, v0_2, v0_3, v0_4⟩ L0_0 L0_1 L0_2 L0_3 L0_4 with
  | none => none
  | some (⟨r2_0_0, r2_0_1, r2_0_2, r2_0_3, r2_0_4⟩, r2_1, r2_w0_0, r2_w0_1, r2_w0_2, r2_w0_3, r2_w0_4) =>
   some (⟨r2_0_0, r2_0_1, r2_0_2, r2_0_3, r2_0_4⟩, r2_1, r2_w0_0, r2_w0_1, r2_w0_2, r2_w0_3, r2_w0_4)
section
variable (c_path_Find_1__0 : S_api_Value → Int → Int → Str → Ls0 → Ls1 → Option (S_api_Value × Int × Int × Int × Str × Ls0 × Ls1)) (c_slices_Clone__api_Value_api_Value__0 : Ls0 → Option (Nat × Ls0)) (c_path_at__1 : S_api_Value → Ls2 → Int → Int → Str → Ls0 → Ls1 → Option (S_api_Value × Int × Int × Int × Str × Ls0 × Ls1)) (c_slices_IndexFunc__api_Pair_api_Pair__1 : Ls1 → Str → Int → Bool → Option (Int)) (c_slices_Clone__api_Pair_api_Pair__0 : Ls1 → Option (Nat × Ls1)) (h_path_Find_1__0 : (C_path_Find_1__0 xfcall @xmap xsetO e_api_Value e_api_Pair c_path_Find_1__0)) (h_slices_Clone__api_Value_api_Value__0 : (C_slices_Clone__api_Value_api_Value__0 xkcall @xmap xlen e_api_Value c_slices_Clone__api_Value_api_Value__0)) (h_path_at__1 : (C_path_at__1 xfcall @xmap xsetO e_api_Step e_api_Value e_api_Pair c_path_at__1)) (h_slices_IndexFunc__api_Pair_api_Pair__1 : (C_slices_IndexFunc__api_Pair_api_Pair__1 xpcall xfcall @xmap e_api_Pair c_slices_IndexFunc__api_Pair_api_Pair__1)) (h_slices_Clone__api_Pair_api_Pair__0 : (C_slices_Clone__api_Pair_api_Pair__0 xkcall @xmap xlen e_api_Pair c_slices_Clone__api_Pair_api_Pair__0)) (stk : Stk) (m : Nat) (n0 : Nat) (k0 : List Nat) (hl0 : n0 < m) 
include c_path_Find_1__0 c_slices_Clone__api_Value_api_Value__0 c_path_at__1 c_slices_IndexFunc__api_Pair_api_Pair__1 c_slices_Clone__api_Pair_api_Pair__0 h_path_Find_1__0 h_slices_Clone__api_Value_api_Value__0 h_path_at__1 h_slices_IndexFunc__api_Pair_api_Pair__1 h_slices_Clone__api_Pair_api_Pair__0 stk m n0 k0 hl0
theorem o_path_at__1_0 (l_2 : T_path_at__1_2) (v0_0 v0_1 : Int) (v0_2 : Str) (v0_3 : Ls0) (v0_4 : Ls1) (v1 : Ls2) (L0_0 L0_1 : Int) (L0_2 : Str) (L0_3 : Ls0) (L0_4 : Ls1) (hg0 : getO stk ⟨n0, k0⟩ = some (.cells [(.d (.int .i64 L0_0)), (.d (.int .i64 L0_1)), (.d (.str L0_2)), (.d (.sl (xmap e_api_Value L0_3))), (.d (.sl (xmap e_api_Pair L0_4)))])) (h_l_2 : H_path_at__1_2 xat @xmap xsetO e_api_Value e_api_Pair m n0 k0 l_2) {out} (hp : b_path_at__1_0 PP c_path_Find_1__0 c_slices_Clone__api_Value_api_Value__0 c_path_at__1 c_slices_IndexFunc__api_Pair_api_Pair__1 c_slices_Clone__api_Pair_api_Pair__0 l_2 v0_0 v0_1 v0_2 v0_3 v0_4 v1 L0_0 L0_1 L0_2 L0_3 L0_4 = some out) : (A_path_at__1_0 xat @xmap e_api_Step e_api_Value e_api_Pair m n0 k0 v0_0 v0_1 v0_2 v0_3 v0_4 v1 L0_0 L0_1 L0_2 L0_3 L0_4 stk) = (O_path_at__1 @xmap xsetO e_api_Value e_api_Pair m n0 k0 stk) out := by
 have hn0 : (n0 = m) = False := eq_false (Nat.ne_of_lt hl0)
 have hm0 : decide (n0 < m) = true := decide_eq_true hl0
 subst hPP
 simp only [b_path_at__1_0] at hp
 unfold A_path_at__1_0
 rw [h.at_, hT]
 cbv
 try simp only [h.len]
 cases c1 : xcmp .eql (plen v1) 0 with
 | false =>
  simp only [c1] at hp ⊢
  cbv
  try simp only [if_false, if_true, hn0, hm0]
  try cbv
  rw [h.at_, hT]
  cbv
  cases c6 : pidx v1 0 with
  | none => simp only [c6] at hp; cases hp
  | some y48 =>
   obtain ⟨a5_0, a5_1, a5_2⟩ := y48
   simp only [c6] at hp
   obtain ⟨q1, q2⟩ := h.idx e_api_Step c6
   simp only [he_e_api_Step] at q2
   simp only [q1, Bool.false_eq_true, if_false]
   cbv
   try simp only [q2]
   cbv
   cases a5_2 with
   | false =>
    simp only at hp
    cbv
    cases c27 : xcmp .eql v0_0 5 with
    | false =>
     simp only [c27] at hp ⊢
     cbv
     try simp only [if_false, if_true, hn0, hm0]
     first | exact h_l_2 hp stk (hg0) | (have q := h_l_2 hp stk (hg0); simp only [A_path_at__1_2, h.map_cons, h.map_nil, h.mapE_nil, h.len_nil, he_e_api_Step, he_e_api_Value, he_e_api_Pair, he_e_int] at q; first | exact q | (cbv; exact q))
    | true =>
     simp only [c27] at hp ⊢
     cbv
     cases c29 : c_slices_IndexFunc__api_Pair_api_Pair__1 v0_4 a5_0 a5_1 false with
     | none => simp only [c29] at hp; cases hp
     | some r28_0 =>
      simp only [c29] at hp
      have qc := (h_slices_IndexFunc__api_Pair_api_Pair__1 c29 (⟨m, [([3], (.cells [(.d (.int .i64 v0_0)), (.d (.int .i64 v0_1)), (.d (.str v0_2)), (.d (.sl (xmap e_api_Value v0_3))), (.d (.sl (xmap e_api_Pair v0_4)))])), ([6], (.cells [(.d (.int .i64 0)), (.d (.int .i64 0)), (.d (.str [])), (.d (.sl [])), (.d (.sl []))])), ([8], (.cells [(.d (.str a5_0)), (.d (.int .i64 a5_1)), (.d (.bool false))]))]⟩ :: stk) m [8] (h.gt _ _ _ _) (Nat.le_refl _)).1
      simp only [qc]
      cbv
      cases c30 : xcmp .geq r28_0 0 with
      | false =>
       simp only [c30] at hp ⊢
       cbv
       try simp only [if_false, if_true, hn0, hm0]
       first | exact h_l_2 hp stk (hg0) | (have q := h_l_2 hp stk (hg0); simp only [A_path_at__1_2, h.map_cons, h.map_nil, h.mapE_nil, h.len_nil, he_e_api_Step, he_e_api_Value, he_e_api_Pair, he_e_int] at q; first | exact q | (cbv; exact q))
      | true =>
       simp only [c30] at hp ⊢
       cbv
       cases c32 : c_slices_Clone__api_Pair_api_Pair__0 v0_4 with
       | none => simp only [c32] at hp; cases hp
       | some y47 =>
        obtain ⟨r31_0, r31_1⟩ := y47
        simp only [c32] at hp
        have qc := h_slices_Clone__api_Pair_api_Pair__0 c32 (⟨m, [([3], (.cells [(.d (.int .i64 v0_0)), (.d (.int .i64 v0_1)), (.d (.str v0_2)), (.d (.sl (xmap e_api_Value v0_3))), (.d (.sl (xmap e_api_Pair v0_4)))])), ([6], (.cells [(.d (.int .i64 0)), (.d (.int .i64 0)), (.d (.str [])), (.d (.sl [])), (.d (.sl []))])), ([8], (.cells [(.d (.str a5_0)), (.d (.int .i64 a5_1)), (.d (.bool false))]))]⟩ :: stk)  (m + 1) rfl
        simp only [qc]
        cbv
        cases c35 : pidx r31_1 r28_0 with
        | none => simp only [c35] at hp; cases hp
        | some y46 =>
         obtain ⟨a34_0, ⟨a34_1_0, a34_1_1, a34_1_2, a34_1_3, a34_1_4⟩⟩ := y46
         simp only [c35] at hp
         obtain ⟨q1, q2, q3, w33⟩ := h.idxm e_api_Pair c35
         simp only [he_e_api_Pair] at w33
         simp only [q1, Bool.false_eq_true, if_false]
         cbv
         simp only [q2, q3, if_true]
         cbv
         simp only [w33]
         cbv
         cases c37 : psub v1 (some 1) none with
         | none => simp only [c37] at hp; cases hp
         | some s36 =>
          simp only [c37] at hp
          obtain ⟨q0, q1, q2, q3⟩ := h.sub1 e_api_Step c37
          simp only [q0, q1, q2, q3, Bool.false_eq_true, if_false, if_true, hz_e_api_Step]
          cbv
          try simp only [q0, q1, q2, q3, if_true, hz_e_api_Step]
          cbv
          obtain ⟨q1, q2, q3, w38⟩ := h.idxm e_api_Pair c35
          simp only [he_e_api_Pair] at w38
          simp only [q1, Bool.false_eq_true, if_false]
          cbv
          simp only [q2, q3, if_true]
          cbv
          cases c40 : c_path_at__1 ⟨a34_1_0, a34_1_1, a34_1_2, a34_1_3, a34_1_4⟩ s36 L0_0 L0_1 L0_2 L0_3 L0_4 with
          | none => simp only [c40] at hp; cases hp
          | some y45 =>
           obtain ⟨⟨r39_0_0, r39_0_1, r39_0_2, r39_0_3, r39_0_4⟩, r39_1, r39_w0_0, r39_w0_1, r39_w0_2, r39_w0_3, r39_w0_4⟩ := y45
           simp only [c40] at hp
           have qc := h_path_at__1 c40 (⟨m, [([3], (.cells [(.d (.int .i64 v0_0)), (.d (.int .i64 v0_1)), (.d (.str v0_2)), (.d (.sl (xmap e_api_Value v0_3))), (.msl ⟨m, [79, 5]⟩ r31_0 0 (xlen (xmap e_api_Pair r31_1)))])), ([6], (.cells [(.d (.int .i64 0)), (.d (.int .i64 0)), (.d (.str [])), (.d (.sl [])), (.d (.sl []))])), ([8], (.cells [(.d (.str a5_0)), (.d (.int .i64 a5_1)), (.d (.bool false))])), ([79, 5], (.arr r31_0 6 (xmap e_api_Pair r31_1)))]⟩ :: stk) n0 k0 ((h.gb hl0 _ _).trans (hg0)) (Nat.le_of_lt hl0)
           simp only [qc]
           simp only [h.st_, h.sb_ hl0]
           cbv
           simp only [h.samev]
           cbv
           simp only [h.samev]
           cbv
           obtain ⟨q1, q2, q3, w41⟩ := h.idxm e_api_Pair c35
           simp only [he_e_api_Pair] at w41
           simp only [q1, Bool.false_eq_true, if_false]
           cbv
           simp only [q2, q3, if_true]
           cbv
           simp only [h.samev]
           cbv
           simp only [w33]
           cbv
           simp only [h.samev]
           cbv
           obtain ⟨q0, q1, q2, q3⟩ := h.sub1 e_api_Step c37
           simp only [q0, q1, q2, q3, Bool.false_eq_true, if_false, if_true, hz_e_api_Step]
           cbv
           try simp only [q0, q1, q2, q3, if_true, hz_e_api_Step]
           cbv
           simp only [h.samev]
           cbv
           obtain ⟨q1, q2, q3, w42⟩ := h.idxm e_api_Pair c35
           simp only [he_e_api_Pair] at w42
           simp only [q1, Bool.false_eq_true, if_false]
           cbv
           simp only [q2, q3, if_true]
           cbv
           simp only [h.samev]
           cbv
           cases c44 : pset r31_1 r28_0 ⟨a34_0, ⟨r39_0_0, r39_0_1, r39_0_2, r39_0_3, r39_0_4⟩⟩ with
           | none => simp only [c44] at hp; cases hp
           | some l43 =>
            simp only [c44] at hp
            obtain ⟨q1, q2, q3, ⟨y, q4⟩, q5, q6⟩ := h.set_ e_api_Pair c44
            simp only [he_e_api_Pair] at q5
            simp only [w38]
            cbv
            try simp only [w38]
            try simp only [List.headD, splice, List.take_succ_cons, List.take_zero, List.drop_succ_cons, List.drop_zero, List.cons_append, List.nil_append, List.length_cons, List.length_nil, Nat.zero_add, Nat.reduceAdd]
            simp only [q5]
            try simp only [← q6]
            cbv
            cases hp
            try simp only [O_path_at__1, Sum.elim_inl, Sum.elim_inr]
            try (simp only [h.so])
            try simp only [if_false, if_true, hn0, hm0]
            all_goals first | rfl | (cbv; done) | (simp only [h.nadd0, h.nle_refl, h.cut_all, h.cut_nil, h.map_cons, h.map_nil, h.mapE_nil, h.len_nil, he_e_api_Step, he_e_api_Value, he_e_api_Pair, he_e_int, O_path_at__1, if_true]; first | done | rfl | (cbv; done) | (cbv; simp only [h.map_cons, h.map_nil, h.mapE_nil, h.len_nil, he_e_api_Step, he_e_api_Value, he_e_api_Pair, he_e_int, O_path_at__1]; done))
   | true =>
    simp only at hp
    cbv
    cases c8 : xcmp .eql v0_0 4 with
    | false =>
     simp only [c8] at hp ⊢
     cbv
     try simp only [if_false, if_true, hn0, hm0]
     first | exact h_l_2 hp stk (hg0) | (have q := h_l_2 hp stk (hg0); simp only [A_path_at__1_2, h.map_cons, h.map_nil, h.mapE_nil, h.len_nil, he_e_api_Step, he_e_api_Value, he_e_api_Pair, he_e_int] at q; first | exact q | (cbv; exact q))
    | true =>
     simp only [c8] at hp ⊢
     cbv
     try simp only [h.len]
     cases c9 : xcmp .lss a5_1 (plen v0_3) with
     | false =>
      simp only [c9] at hp ⊢
      cbv
      try simp only [if_false, if_true, hn0, hm0]
      first | exact h_l_2 hp stk (hg0) | (have q := h_l_2 hp stk (hg0); simp only [A_path_at__1_2, h.map_cons, h.map_nil, h.mapE_nil, h.len_nil, he_e_api_Step, he_e_api_Value, he_e_api_Pair, he_e_int] at q; first | exact q | (cbv; exact q))
     | true =>
      simp only [c9] at hp ⊢
      cbv
      cases c11 : c_slices_Clone__api_Value_api_Value__0 v0_3 with
      | none => simp only [c11] at hp; cases hp
      | some y26 =>
       obtain ⟨r10_0, r10_1⟩ := y26
       simp only [c11] at hp
       have qc := h_slices_Clone__api_Value_api_Value__0 c11 (⟨m, [([3], (.cells [(.d (.int .i64 v0_0)), (.d (.int .i64 v0_1)), (.d (.str v0_2)), (.d (.sl (xmap e_api_Value v0_3))), (.d (.sl (xmap e_api_Pair v0_4)))])), ([6], (.cells [(.d (.int .i64 0)), (.d (.int .i64 0)), (.d (.str [])), (.d (.sl [])), (.d (.sl []))])), ([8], (.cells [(.d (.str a5_0)), (.d (.int .i64 a5_1)), (.d (.bool true))]))]⟩ :: stk)  (m + 1) rfl
       simp only [qc]
       cbv
       cases c14 : pidx r10_1 a5_1 with
       | none => simp only [c14] at hp; cases hp
       | some y25 =>
        obtain ⟨a13_0, a13_1, a13_2, a13_3, a13_4⟩ := y25
        simp only [c14] at hp
        obtain ⟨q1, q2, q3, w12⟩ := h.idxm e_api_Value c14
        simp only [he_e_api_Value] at w12
        simp only [q1, Bool.false_eq_true, if_false]
        cbv
        simp only [q2, q3, if_true]
        cbv
        simp only [w12]
        cbv
        cases c16 : psub v1 (some 1) none with
        | none => simp only [c16] at hp; cases hp
        | some s15 =>
         simp only [c16] at hp
         obtain ⟨q0, q1, q2, q3⟩ := h.sub1 e_api_Step c16
         simp only [q0, q1, q2, q3, Bool.false_eq_true, if_false, if_true, hz_e_api_Step]
         cbv
         try simp only [q0, q1, q2, q3, if_true, hz_e_api_Step]
         cbv
         obtain ⟨q1, q2, q3, w17⟩ := h.idxm e_api_Value c14
         simp only [he_e_api_Value] at w17
         simp only [q1, Bool.false_eq_true, if_false]
         cbv
         simp only [q2, q3, if_true]
         cbv
         cases c19 : c_path_at__1 ⟨a13_0, a13_1, a13_2, a13_3, a13_4⟩ s15 L0_0 L0_1 L0_2 L0_3 L0_4 with
         | none => simp only [c19] at hp; cases hp
         | some y24 =>
          obtain ⟨⟨r18_0_0, r18_0_1, r18_0_2, r18_0_3, r18_0_4⟩, r18_1, r18_w0_0, r18_w0_1, r18_w0_2, r18_w0_3, r18_w0_4⟩ := y24
          simp only [c19] at hp
          have qc := h_path_at__1 c19 (⟨m, [([3], (.cells [(.d (.int .i64 v0_0)), (.d (.int .i64 v0_1)), (.d (.str v0_2)), (.msl ⟨m, [40, 5]⟩ r10_0 0 (xlen (xmap e_api_Value r10_1))), (.d (.sl (xmap e_api_Pair v0_4)))])), ([6], (.cells [(.d (.int .i64 0)), (.d (.int .i64 0)), (.d (.str [])), (.d (.sl [])), (.d (.sl []))])), ([8], (.cells [(.d (.str a5_0)), (.d (.int .i64 a5_1)), (.d (.bool true))])), ([40, 5], (.arr r10_0 5 (xmap e_api_Value r10_1)))]⟩ :: stk) n0 k0 ((h.gb hl0 _ _).trans (hg0)) (Nat.le_of_lt hl0)
          simp only [qc]
          simp only [h.st_, h.sb_ hl0]
          cbv
          simp only [h.samev]
          cbv
          simp only [h.samev]
          cbv
          simp only [h.samev]
          cbv
          simp only [h.samev]
          cbv
          obtain ⟨q1, q2, q3, w20⟩ := h.idxm e_api_Value c14
          simp only [he_e_api_Value] at w20
          simp only [q1, Bool.false_eq_true, if_false]
          cbv
          simp only [q2, q3, if_true]
          cbv
          simp only [h.samev]
          cbv
          simp only [w12]
          cbv
          simp only [h.samev]
          cbv
          obtain ⟨q0, q1, q2, q3⟩ := h.sub1 e_api_Step c16
          simp only [q0, q1, q2, q3, Bool.false_eq_true, if_false, if_true, hz_e_api_Step]
          cbv
          try simp only [q0, q1, q2, q3, if_true, hz_e_api_Step]
          cbv
          simp only [h.samev]
          cbv
          obtain ⟨q1, q2, q3, w21⟩ := h.idxm e_api_Value c14
          simp only [he_e_api_Value] at w21
          simp only [q1, Bool.false_eq_true, if_false]
          cbv
          simp only [q2, q3, if_true]
          cbv
          simp only [h.samev]
          cbv
          cases c23 : pset r10_1 a5_1 ⟨r18_0_0, r18_0_1, r18_0_2, r18_0_3, r18_0_4⟩ with
          | none => simp only [c23] at hp; cases hp
          | some l22 =>
           simp only [c23] at hp
           obtain ⟨q1, q2, q3, ⟨y, q4⟩, q5, q6⟩ := h.set_ e_api_Value c23
           simp only [he_e_api_Value] at q5
           simp only [w17]
           cbv
           try simp only [w17]
           try simp only [List.headD, splice, List.take_succ_cons, List.take_zero, List.drop_succ_cons, List.drop_zero, List.cons_append, List.nil_append, List.length_cons, List.length_nil, Nat.zero_add, Nat.reduceAdd]
           simp only [q5]
           try simp only [← q6]
           cbv
           cases hp
           try simp only [O_path_at__1, Sum.elim_inl, Sum.elim_inr]
           try (simp only [h.so])
           try simp only [if_false, if_true, hn0, hm0]
           all_goals first | rfl | (cbv; done) | (simp only [h.nadd0, h.nle_refl, h.cut_all, h.cut_nil, h.map_cons, h.map_nil, h.mapE_nil, h.len_nil, he_e_api_Step, he_e_api_Value, he_e_api_Pair, he_e_int, O_path_at__1, if_true]; first | done | rfl | (cbv; done) | (cbv; simp only [h.map_cons, h.map_nil, h.mapE_nil, h.len_nil, he_e_api_Step, he_e_api_Value, he_e_api_Pair, he_e_int, O_path_at__1]; done))
 | true =>
  simp only [c1] at hp ⊢
  cbv
  cases c3 : c_path_Find_1__0 ⟨v0_0, v0_1, v0_2, v0_3, v0_4⟩ L0_0 L0_1 L0_2 L0_3 L0_4 with
  | none => simp only [c3] at hp; cases hp
  | some y4 =>
   obtain ⟨⟨r2_0_0, r2_0_1, r2_0_2, r2_0_3, r2_0_4⟩, r2_1, r2_w0_0, r2_w0_1, r2_w0_2, r2_w0_3, r2_w0_4⟩ := y4
   simp only [c3] at hp
   have qc := h_path_Find_1__0 c3 (⟨m, [([3], (.cells [(.d (.int .i64 v0_0)), (.d (.int .i64 v0_1)), (.d (.str v0_2)), (.d (.sl (xmap e_api_Value v0_3))), (.d (.sl (xmap e_api_Pair v0_4)))])), ([6], (.cells [(.d (.int .i64 0)), (.d (.int .i64 0)), (.d (.str [])), (.d (.sl [])), (.d (.sl []))]))]⟩ :: stk) n0 k0 ((h.gb hl0 _ _).trans (hg0)) (Nat.le_of_lt hl0)
   simp only [qc]
   simp only [h.st_, h.sb_ hl0]
   cbv
   cases hp
   try simp only [O_path_at__1, Sum.elim_inl, Sum.elim_inr]
   try (simp only [h.so])
   try simp only [if_false, if_true, hn0, hm0]
   all_goals first | rfl | (cbv; done) | (simp only [h.nadd0, h.nle_refl, h.cut_all, h.cut_nil, h.map_cons, h.map_nil, h.mapE_nil, h.len_nil, he_e_api_Step, he_e_api_Value, he_e_api_Pair, he_e_int, O_path_at__1, if_true]; first | done | rfl | (cbv; done) | (cbv; simp only [h.map_cons, h.map_nil, h.mapE_nil, h.len_nil, he_e_api_Step, he_e_api_Value, he_e_api_Pair, he_e_int, O_path_at__1]; done))
def b_path_at__1_2 (P : Prims) (c_path_Find_1__0 : S_api_Value → Int → Int → Str → Ls0 → Ls1 → Option (S_api_Value × Int × Int × Int × Str × Ls0 × Ls1)) (c_slices_Clone__api_Value_api_Value__0 : Ls0 → Option (Nat × Ls0)) (c_path_at__1 : S_api_Value → Ls2 → Int → Int → Str → Ls0 → Ls1 → Option (S_api_Value × Int × Int × Int × Str × Ls0 × Ls1)) (c_slices_IndexFunc__api_Pair_api_Pair__1 : Ls1 → Str → Int → Bool → Option (Int)) (c_slices_Clone__api_Pair_api_Pair__0 : Ls1 → Option (Nat × Ls1))  (o6_0 o6_1 : Int) (o6_2 : Str) (o6_3 : Ls0) (o6_4 : Ls1) (L0_0 L0_1 : Int) (L0_2 : Str) (L0_3 : Ls0) (L0_4 : Ls1) : Option (S_api_Value × Int × Int × Int × Str × Ls0 × Ls1) :=
 some (⟨0, 0, [], [], []⟩, 8, L0_0, L0_1, L0_2, L0_3, L0_4)
theorem o_path_at__1_2  (o6_0 o6_1 : Int) (o6_2 : Str) (o6_3 : Ls0) (o6_4 : Ls1) (L0_0 L0_1 : Int) (L0_2 : Str) (L0_3 : Ls0) (L0_4 : Ls1) (hg0 : getO stk ⟨n0, k0⟩ = some (.cells [(.d (.int .i64 L0_0)), (.d (.int .i64 L0_1)), (.d (.str L0_2)), (.d (.sl (xmap e_api_Value L0_3))), (.d (.sl (xmap e_api_Pair L0_4)))]))  {out} (hp : b_path_at__1_2 PP c_path_Find_1__0 c_slices_Clone__api_Value_api_Value__0 c_path_at__1 c_slices_IndexFunc__api_Pair_api_Pair__1 c_slices_Clone__api_Pair_api_Pair__0  o6_0 o6_1 o6_2 o6_3 o6_4 L0_0 L0_1 L0_2 L0_3 L0_4 = some out) : (A_path_at__1_2 xat @xmap e_api_Value e_api_Pair m n0 k0 o6_0 o6_1 o6_2 o6_3 o6_4 L0_0 L0_1 L0_2 L0_3 L0_4 stk) = (O_path_at__1 @xmap xsetO e_api_Value e_api_Pair m n0 k0 stk) out := by
 have hn0 : (n0 = m) = False := eq_false (Nat.ne_of_lt hl0)
 have hm0 : decide (n0 < m) = true := decide_eq_true hl0
 subst hPP
 simp only [b_path_at__1_2] at hp
 unfold A_path_at__1_2
 rw [h.at_, hT]
 cbv
 cases hp
 try simp only [O_path_at__1, Sum.elim_inl, Sum.elim_inr]
 try (simp only [h.ss hg0])
 try simp only [if_false, if_true, hn0, hm0]
 all_goals first | rfl | (cbv; done) | (simp only [h.nadd0, h.nle_refl, h.cut_all, h.cut_nil, h.map_cons, h.map_nil, h.mapE_nil, h.len_nil, he_e_api_Step, he_e_api_Value, he_e_api_Pair, he_e_int, O_path_at__1, if_true]; first | done | rfl | (cbv; done) | (cbv; simp only [h.map_cons, h.map_nil, h.mapE_nil, h.len_nil, he_e_api_Step, he_e_api_Value, he_e_api_Pair, he_e_int, O_path_at__1]; done))
end
def b_path_Find_0 (P : Prims) (c_tree_Right : S_api_Value → Option (Bool)) (c_path_Right : Ls2 → Option (Bool)) (c_path_at__1 : S_api_Value → Ls2 → Int → Int → Str → Ls0 → Ls1 → Option (S_api_Value × Int × Int × Int × Str × Ls0 × Ls1))  (v0_0 v0_1 : Int) (v0_2 : Str) (v0_3 : Ls0) (v0_4 : Ls1) (v1 : Ls2) : Option (S_api_Value × Bool) :=
 match c_tree_Right ⟨v0_0, v0_1, v0_2, v0_3, v0_4⟩ with
 | none => none
 | some r1_0 =>
  match r1_0 with
  | false =>
   some (⟨0, 0, [], [], []⟩, false)
  | true =>
   match c_path_Right v1 with
   | none => none
   | some r4_0 =>
    match r4_0 with
    | false =>
     some (⟨0, 0, [], [], []⟩, false)
    | true =>
     match c_path_at__1 ⟨v0_0, v0_1, v0_2, v0_3, v0_4⟩ v1 0 0 [] [] [] with
     | none => none
     | some (⟨r7_0_0, r7_0_1, r7_0_2, r7_0_3, r7_0_4⟩, r7_1, r7_w0_0, r7_w0_1, r7_w0_2, r7_w0_3, r7_w0_4) =>
      some (⟨r7_w0_0, r7_w0_1, r7_w0_2, r7_w0_3, r7_w0_4⟩, P.cmp .eql r7_1 0)
section
variable (c_tree_Right : S_api_Value → Option (Bool)) (c_path_Right : Ls2 → Option (Bool)) (c_path_at__1 : S_api_Value → Ls2 → Int → Int → Str → Ls0 → Ls1 → Option (S_api_Value × Int × Int × Int × Str × Ls0 × Ls1)) (h_tree_Right : (C_tree_Right xpcall xfcall @xmap e_api_Value e_api_Pair c_tree_Right)) (h_path_Right : (C_path_Right xpcall xfcall @xmap e_api_Step c_path_Right)) (h_path_at__1 : (C_path_at__1 xfcall @xmap xsetO e_api_Step e_api_Value e_api_Pair c_path_at__1)) (stk : Stk) (m : Nat)   
include c_tree_Right c_path_Right c_path_at__1 h_tree_Right h_path_Right h_path_at__1 stk m  
theorem o_path_Find_0  (v0_0 v0_1 : Int) (v0_2 : Str) (v0_3 : Ls0) (v0_4 : Ls1) (v1 : Ls2)   {out} (hp : b_path_Find_0 PP c_tree_Right c_path_Right c_path_at__1  v0_0 v0_1 v0_2 v0_3 v0_4 v1 = some out) : (A_path_Find_0 xat @xmap e_api_Step e_api_Value e_api_Pair m  v0_0 v0_1 v0_2 v0_3 v0_4 v1 stk) = (O_path_Find @xmap e_api_Value e_api_Pair m  stk) out := by
 subst hPP
 simp only [b_path_Find_0] at hp
 unfold A_path_Find_0
 rw [h.at_, hT]
 cbv
 cases c2 : c_tree_Right ⟨v0_0, v0_1, v0_2, v0_3, v0_4⟩ with
 | none => simp only [c2] at hp; cases hp
 | some r1_0 =>
  simp only [c2] at hp
  have qc := fun s => (h_tree_Right c2 s).1
  simp only [qc]
  cbv
  cases r1_0 with
  | false =>
   simp only at hp
   cbv
   cases hp
   all_goals first | rfl | (cbv; done) | (simp only [h.nadd0, h.nle_refl, h.cut_all, h.cut_nil, h.map_cons, h.map_nil, h.mapE_nil, h.len_nil, he_e_api_Step, he_e_api_Value, he_e_api_Pair, he_e_int, O_path_Find, if_true]; first | done | rfl | (cbv; done) | (cbv; simp only [h.map_cons, h.map_nil, h.mapE_nil, h.len_nil, he_e_api_Step, he_e_api_Value, he_e_api_Pair, he_e_int, O_path_Find]; done))
  | true =>
   simp only at hp
   cbv
   cases c5 : c_path_Right v1 with
   | none => simp only [c5] at hp; cases hp
   | some r4_0 =>
    simp only [c5] at hp
    have qc := fun s => (h_path_Right c5 s).1
    simp only [qc]
    cbv
    cases r4_0 with
    | false =>
     simp only at hp
     cbv
     cases hp
     all_goals first | rfl | (cbv; done) | (simp only [h.nadd0, h.nle_refl, h.cut_all, h.cut_nil, h.map_cons, h.map_nil, h.mapE_nil, h.len_nil, he_e_api_Step, he_e_api_Value, he_e_api_Pair, he_e_int, O_path_Find, if_true]; first | done | rfl | (cbv; done) | (cbv; simp only [h.map_cons, h.map_nil, h.mapE_nil, h.len_nil, he_e_api_Step, he_e_api_Value, he_e_api_Pair, he_e_int, O_path_Find]; done))
    | true =>
     simp only at hp
     cbv
     rw [h.at_, hT]
     cbv
     cases c8 : c_path_at__1 ⟨v0_0, v0_1, v0_2, v0_3, v0_4⟩ v1 0 0 [] [] [] with
     | none => simp only [c8] at hp; cases hp
     | some y9 =>
      obtain ⟨⟨r7_0_0, r7_0_1, r7_0_2, r7_0_3, r7_0_4⟩, r7_1, r7_w0_0, r7_w0_1, r7_w0_2, r7_w0_3, r7_w0_4⟩ := y9
      simp only [c8] at hp
      have qc := h_path_at__1 c8 (⟨m, [([4], (.cells [(.d (.int .i64 0)), (.d (.int .i64 0)), (.d (.str [])), (.d (.sl [])), (.d (.sl []))])), ([6], (.cells [(.d (.int .i64 0)), (.d (.int .i64 0)), (.d (.str [])), (.d (.sl [])), (.d (.sl []))]))]⟩ :: stk) m [6] (by simp only [h.map_nil]; exact h.gt _ _ _ _) (Nat.le_refl _)
      try simp only [h.map_nil] at qc
      simp only [qc]
      simp only [h.st_]
      cbv
      cases hp
      all_goals first | rfl | (cbv; done)
end
def b_cascaderef06_Same_0 (P : Prims)  (l_2 : T_cascaderef06_Same_2) (v0 v1 : Ls2) : Option (Bool) :=
 match P.cmp .neq (P.len v0) (P.len v1) with
 | false =>
  l_2 v0 v1 0
 | true =>
  some false
section
variable   (stk : Stk) (m : Nat)   
include   stk m  
theorem o_cascaderef06_Same_0 (l_2 : T_cascaderef06_Same_2) (v0 v1 : Ls2)  (h_l_2 : H_cascaderef06_Same_2 xat @xmap e_api_Step m  l_2) {out} (hp : b_cascaderef06_Same_0 PP  l_2 v0 v1 = some out) : (A_cascaderef06_Same_0 xat @xmap e_api_Step m  v0 v1 stk) = (O_cascaderef06_Same  m  stk) out := by
 subst hPP
 simp only [b_cascaderef06_Same_0] at hp
 unfold A_cascaderef06_Same_0
 rw [h.at_, hT]
 cbv
 try simp only [h.len]
 try simp only [h.len]
 cases c1 : xcmp .neq (plen v0) (plen v1) with
 | false =>
  simp only [c1] at hp ⊢
  cbv
  rw [h.at_, hT]
  cbv
  first | exact h_l_2 hp stk | (have q := h_l_2 hp stk; simp only [A_cascaderef06_Same_2, h.map_cons, h.map_nil, h.mapE_nil, h.len_nil, he_e_api_Step, he_e_api_Value, he_e_api_Pair, he_e_int] at q; first | exact q | (cbv; exact q))
 | true =>
  simp only [c1] at hp ⊢
  cbv
  cases hp
  all_goals first | rfl | (cbv; done)
def b_cascaderef06_Same_2 (P : Prims)  (l_4 : T_cascaderef06_Same_4) (v0 v1 : Ls2) (v5 : Int) : Option ((Ls2 × Ls2 × Int) ⊕ (Bool)) :=
 match P.cmp .lss v5 (P.len v0) with
 | false =>
  some (.inr true)
 | true =>
  match P.idx v0 v5 with
  | none => none
  | some ⟨a3_0, a3_1, a3_2⟩ =>
   match P.idx v1 v5 with
   | none => none
   | some ⟨a5_0, a5_1, a5_2⟩ =>
    match P.seq a3_0 a5_0 with
    | false =>
     some (.inr false)
    | true =>
     match P.cmp .eql a3_1 a5_1 with
     | false =>
      some (.inr false)
     | true =>
      match a3_2 with
      | false =>
       match a5_2 with
       | false =>
        l_4 v0 v1 v5
       | true =>
        some (.inr false)
      | true =>
       match a5_2 with
       | false =>
        some (.inr false)
       | true =>
        l_4 v0 v1 v5
theorem o_cascaderef06_Same_2 (l_4 : T_cascaderef06_Same_4) (v0 v1 : Ls2) (v5 : Int)  (h_l_4 : H_cascaderef06_Same_4 xat @xmap e_api_Step m  l_4) {out} (hp : b_cascaderef06_Same_2 PP  l_4 v0 v1 v5 = some out) : (A_cascaderef06_Same_2 xat @xmap e_api_Step m  v0 v1 v5 stk) = (Sum.elim (fun (v0, v1, v5) => (A_cascaderef06_Same_2 xat @xmap e_api_Step m  v0 v1 v5 stk)) (O_cascaderef06_Same  m  stk)) out := by
 subst hPP
 simp only [b_cascaderef06_Same_2] at hp
 unfold A_cascaderef06_Same_2
 rw [h.at_, hT]
 cbv
 try simp only [h.len]
 cases c2 : xcmp .lss v5 (plen v0) with
 | false =>
  simp only [c2] at hp ⊢
  cbv
  rw [h.at_, hT]
  cbv
  cases hp
  all_goals first | rfl | (cbv; done)
 | true =>
  simp only [c2] at hp ⊢
  cbv
  rw [h.at_, hT]
  cbv
  cases c4 : pidx v0 v5 with
  | none => simp only [c4] at hp; cases hp
  | some y13 =>
   obtain ⟨a3_0, a3_1, a3_2⟩ := y13
   simp only [c4] at hp
   obtain ⟨q1, q2⟩ := h.idx e_api_Step c4
   simp only [he_e_api_Step] at q2
   simp only [q1, Bool.false_eq_true, if_false]
   cbv
   try simp only [q2]
   cbv
   cases c6 : pidx v1 v5 with
   | none => simp only [c6] at hp; cases hp
   | some y12 =>
    obtain ⟨a5_0, a5_1, a5_2⟩ := y12
    simp only [c6] at hp
    obtain ⟨q1, q2⟩ := h.idx e_api_Step c6
    simp only [he_e_api_Step] at q2
    simp only [q1, Bool.false_eq_true, if_false]
    cbv
    try simp only [q2]
    cbv
    cases c7 : xseq a3_0 a5_0 with
    | false =>
     simp only [c7] at hp ⊢
     cbv
     cases hp
     all_goals first | rfl | (cbv; done)
    | true =>
     simp only [c7] at hp ⊢
     cbv
     cases c8 : xcmp .eql a3_1 a5_1 with
     | false =>
      simp only [c8] at hp ⊢
      cbv
      cases hp
      all_goals first | rfl | (cbv; done)
     | true =>
      simp only [c8] at hp ⊢
      cbv
      cases a3_2 with
      | false =>
       simp only at hp
       cbv
       cases a5_2 with
       | false =>
        simp only at hp
        cbv
        first | exact h_l_4 hp stk | (have q := h_l_4 hp stk; simp only [A_cascaderef06_Same_4, h.map_cons, h.map_nil, h.mapE_nil, h.len_nil, he_e_api_Step, he_e_api_Value, he_e_api_Pair, he_e_int] at q; first | exact q | (cbv; exact q))
       | true =>
        simp only at hp
        cbv
        cases hp
        all_goals first | rfl | (cbv; done)
      | true =>
       simp only at hp
       cbv
       cases a5_2 with
       | false =>
        simp only at hp
        cbv
        cases hp
        all_goals first | rfl | (cbv; done)
       | true =>
        simp only at hp
        cbv
        first | exact h_l_4 hp stk | (have q := h_l_4 hp stk; simp only [A_cascaderef06_Same_4, h.map_cons, h.map_nil, h.mapE_nil, h.len_nil, he_e_api_Step, he_e_api_Value, he_e_api_Pair, he_e_int] at q; first | exact q | (cbv; exact q))
def b_cascaderef06_Same_4 (P : Prims)   (v0 v1 : Ls2) (v5 : Int) : Option ((Ls2 × Ls2 × Int) ⊕ (Bool)) :=
 some (.inl (v0, v1, P.ar .add .i64 v5 1))
theorem o_cascaderef06_Same_4  (v0 v1 : Ls2) (v5 : Int)   {out} (hp : b_cascaderef06_Same_4 PP   v0 v1 v5 = some out) : (A_cascaderef06_Same_4 xat @xmap e_api_Step m  v0 v1 v5 stk) = (Sum.elim (fun (v0, v1, v5) => (A_cascaderef06_Same_2 xat @xmap e_api_Step m  v0 v1 v5 stk)) (O_cascaderef06_Same  m  stk)) out := by
 subst hPP
 simp only [b_cascaderef06_Same_4] at hp
 unfold A_cascaderef06_Same_4
 rw [h.at_, hT]
 cbv
 cases hp
 all_goals first | rfl | (cbv; done)
end
def b_cascaderef06_Under_0 (P : Prims) (c_cascaderef06_Same : Ls2 → Ls2 → Option (Bool))  (v0 v1 : Ls2) : Option (Bool) :=
 match P.cmp .leq (P.len v0) (P.len v1) with
 | false =>
  some false
 | true =>
  match P.sub v1 none (some (P.len v0)) with
  | none => none
  | some s2 =>
   match c_cascaderef06_Same v0 s2 with
   | none => none
   | some r4_0 =>
    some r4_0
section
variable (c_cascaderef06_Same : Ls2 → Ls2 → Option (Bool)) (h_cascaderef06_Same : (C_cascaderef06_Same xpcall xfcall @xmap e_api_Step c_cascaderef06_Same)) (stk : Stk) (m : Nat)   
include c_cascaderef06_Same h_cascaderef06_Same stk m  
theorem o_cascaderef06_Under_0  (v0 v1 : Ls2)   {out} (hp : b_cascaderef06_Under_0 PP c_cascaderef06_Same  v0 v1 = some out) : (A_cascaderef06_Under_0 xat @xmap e_api_Step m  v0 v1 stk) = (O_cascaderef06_Under  m  stk) out := by
 subst hPP
 simp only [b_cascaderef06_Under_0] at hp
 unfold A_cascaderef06_Under_0
 rw [h.at_, hT]
 cbv
 try simp only [h.len]
 try simp only [h.len]
 cases c1 : xcmp .leq (plen v0) (plen v1) with
 | false =>
  simp only [c1] at hp ⊢
  cbv
  cases hp
  all_goals first | rfl | (cbv; done)
 | true =>
  simp only [c1] at hp ⊢
  cbv
  try simp only [h.len]
  cases c3 : psub v1 none (some (plen v0)) with
  | none => simp only [c3] at hp; cases hp
  | some s2 =>
   simp only [c3] at hp
   obtain ⟨q0, q1, q2, q3⟩ := h.sub0 e_api_Step c3
   simp only [q0, q1, q2, q3, Bool.false_eq_true, if_false, if_true, hz_e_api_Step]
   cbv
   try simp only [q0, q1, q2, q3, if_true, hz_e_api_Step]
   cbv
   cases c5 : c_cascaderef06_Same v0 s2 with
   | none => simp only [c5] at hp; cases hp
   | some r4_0 =>
    simp only [c5] at hp
    have qc := fun s => (h_cascaderef06_Same c5 s).1
    simp only [qc]
    cbv
    cases hp
    all_goals first | rfl | (cbv; done)
end
def b_cascadelaw06_PathKeeps_0 (P : Prims) (c_cascadelaw06_awake : Option (Bool)) (c_cascaderef03_Few : S_api_Value → Int → Option (Bool)) (c_cascaderef06_Few : Ls2 → Option (Bool)) (c_path_Put : S_api_Value → Ls2 → S_api_Value → Option (S_api_Value × Int)) (c_cascadelaw06_zero : S_api_Value → Option (Bool)) (c_path_Find : S_api_Value → Ls2 → Option (S_api_Value × Bool)) (c_cascaderef03_Same : S_api_Value → S_api_Value → Option (Bool)) (c_cascaderef06_Under : Ls2 → Ls2 → Option (Bool))  (v0_0 v0_1 : Int) (v0_2 : Str) (v0_3 : Ls0) (v0_4 : Ls1) (v1_0 v1_1 : Int) (v1_2 : Str) (v1_3 : Ls0) (v1_4 : Ls1) (v2_0 v2_1 : Ls2) : Option (Bool) :=
 match c_cascadelaw06_awake with
 | none => none
 | some r1_0 =>
  match r1_0 with
  | false =>
   some r1_0
  | true =>
   match c_cascaderef03_Few ⟨v0_0, v0_1, v0_2, v0_3, v0_4⟩ 60 with
   | none => none
   | some r4_0 =>
    match r4_0 with
    | false =>
     some r1_0
    | true =>
     match c_cascaderef03_Few ⟨v1_0, v1_1, v1_2, v1_3, v1_4⟩ 60 with
     | none => none
     | some r7_0 =>
      match r7_0 with
      | false =>
       some r1_0
      | true =>
       match c_cascaderef06_Few v2_0 with
       | none => none
       | some r10_0 =>
        match r10_0 with
        | false =>
         some r1_0
        | true =>
         match c_cascaderef06_Few v2_1 with
         | none => none
         | some r13_0 =>
          match r13_0 with
          | false =>
           some r1_0
          | true =>
           match c_path_Put ⟨v0_0, v0_1, v0_2, v0_3, v0_4⟩ v2_0 ⟨v1_0, v1_1, v1_2, v1_3, v1_4⟩ with
           | none => none
           | some (⟨r16_0_0, r16_0_1, r16_0_2, r16_0_3, r16_0_4⟩, r16_1) =>
            match P.cmp .neq r16_1 0 with
            | false =>
             match c_path_Find ⟨r16_0_0, r16_0_1, r16_0_2, r16_0_3, r16_0_4⟩ v2_0 with
             | none => none
             | some (⟨r21_0_0, r21_0_1, r21_0_2, r21_0_3, r21_0_4⟩, r21_1) =>
              match r21_1 with
              | false =>
               some false
              | true =>
               match c_cascaderef03_Same ⟨v1_0, v1_1, v1_2, v1_3, v1_4⟩ ⟨r21_0_0, r21_0_1, r21_0_2, r21_0_3, r21_0_4⟩ with
               | none => none
               | some r24_0 =>
                match r24_0 with
                | false =>
                 some false
                | true =>
                 match c_path_Find ⟨v0_0, v0_1, v0_2, v0_3, v0_4⟩ v2_1 with
                 | none => none
                 | some (⟨r27_0_0, r27_0_1, r27_0_2, r27_0_3, r27_0_4⟩, r27_1) =>
                  match c_path_Find ⟨r16_0_0, r16_0_1, r16_0_2, r16_0_3, r16_0_4⟩ v2_1 with
                  | none => none
                  | some (⟨r29_0_0, r29_0_1, r29_0_2, r29_0_3, r29_0_4⟩, r29_1) =>
                   match c_cascaderef06_Under v2_0 v2_1 with
                   | none => none
                   | some r31_0 =>
                    match r31_0 with
                    | false =>
                     match c_cascaderef06_Under v2_1 v2_0 with
                     | none => none
                     | some r34_0 =>
                      match r34_0 with
                      | false =>
                       match r27_1 with
                       | false =>
                        match r29_1 with
                        | false =>
                         match c_cascaderef03_Same ⟨r27_0_0, r27_0_1, r27_0_2, r27_0_3, r27_0_4⟩ ⟨r29_0_0, r29_0_1, r29_0_2, r29_0_3, r29_0_4⟩ with
                         | none => none
                         | some r42_0 =>
                          some r42_0
                        | true =>
                         some false
                       | true =>
                        match r29_1 with
                        | false =>
                         some false
                        | true =>
                         match c_cascaderef03_Same ⟨r27_0_0, r27_0_1, r27_0_2, r27_0_3, r27_0_4⟩ ⟨r29_0_0, r29_0_1, r29_0_2, r29_0_3, r29_0_4⟩ with
                         | none => none
                         | some r39_0 =>
                          some r39_0
                      | true =>
                       some true
                    | true =>
                     some true
            | true =>
             match c_cascadelaw06_zero ⟨r16_0_0, r16_0_1, r16_0_2, r16_0_3, r16_0_4⟩ with
             | none => none
             | some r19_0 =>
              some r19_0
section
variable (c_cascadelaw06_awake : Option (Bool)) (c_cascaderef03_Few : S_api_Value → Int → Option (Bool)) (c_cascaderef06_Few : Ls2 → Option (Bool)) (c_path_Put : S_api_Value → Ls2 → S_api_Value → Option (S_api_Value × Int)) (c_cascadelaw06_zero : S_api_Value → Option (Bool)) (c_path_Find : S_api_Value → Ls2 → Option (S_api_Value × Bool)) (c_cascaderef03_Same : S_api_Value → S_api_Value → Option (Bool)) (c_cascaderef06_Under : Ls2 → Ls2 → Option (Bool)) (h_cascadelaw06_awake : (C_cascadelaw06_awake xpcall xfcall c_cascadelaw06_awake)) (h_cascaderef03_Few : (C_cascaderef03_Few xpcall xfcall @xmap e_api_Value e_api_Pair c_cascaderef03_Few)) (h_cascaderef06_Few : (C_cascaderef06_Few xpcall xfcall @xmap e_api_Step c_cascaderef06_Few)) (h_path_Put : (C_path_Put xpcall xfcall @xmap e_api_Step e_api_Value e_api_Pair c_path_Put)) (h_cascadelaw06_zero : (C_cascadelaw06_zero xpcall xfcall @xmap e_api_Value e_api_Pair c_cascadelaw06_zero)) (h_path_Find : (C_path_Find xpcall xfcall @xmap e_api_Step e_api_Value e_api_Pair c_path_Find)) (h_cascaderef03_Same : (C_cascaderef03_Same xpcall xfcall @xmap e_api_Value e_api_Pair c_cascaderef03_Same)) (h_cascaderef06_Under : (C_cascaderef06_Under xpcall xfcall @xmap e_api_Step c_cascaderef06_Under)) (stk : Stk) (m : Nat)   
include c_cascadelaw06_awake c_cascaderef03_Few c_cascaderef06_Few c_path_Put c_cascadelaw06_zero c_path_Find c_cascaderef03_Same c_cascaderef06_Under h_cascadelaw06_awake h_cascaderef03_Few h_cascaderef06_Few h_path_Put h_cascadelaw06_zero h_path_Find h_cascaderef03_Same h_cascaderef06_Under stk m  
theorem o_cascadelaw06_PathKeeps_0  (v0_0 v0_1 : Int) (v0_2 : Str) (v0_3 : Ls0) (v0_4 : Ls1) (v1_0 v1_1 : Int) (v1_2 : Str) (v1_3 : Ls0) (v1_4 : Ls1) (v2_0 v2_1 : Ls2)   {out} (hp : b_cascadelaw06_PathKeeps_0 PP c_cascadelaw06_awake c_cascaderef03_Few c_cascaderef06_Few c_path_Put c_cascadelaw06_zero c_path_Find c_cascaderef03_Same c_cascaderef06_Under  v0_0 v0_1 v0_2 v0_3 v0_4 v1_0 v1_1 v1_2 v1_3 v1_4 v2_0 v2_1 = some out) : (A_cascadelaw06_PathKeeps_0 xat @xmap e_api_Step e_api_Value e_api_Pair m  v0_0 v0_1 v0_2 v0_3 v0_4 v1_0 v1_1 v1_2 v1_3 v1_4 v2_0 v2_1 stk) = (O_cascadelaw06_PathKeeps  m  stk) out := by
 subst hPP
 simp only [b_cascadelaw06_PathKeeps_0] at hp
 unfold A_cascadelaw06_PathKeeps_0
 rw [h.at_, hT]
 cbv
 have qa : xneg (0 : Int) = false := by rw [h.neg_]; rfl
 have qb : xnat (0 : Int) = 0 := by rw [h.nat_]; rfl
 have qd : xnle (xnadd 0 1) 2 = true := by rw [h.nle_, h.nadd_]; rfl
 simp only [qa, qb, qd, Bool.false_eq_true, if_false, if_true]
 cbv
 have qa : xneg (1 : Int) = false := by rw [h.neg_]; rfl
 have qb : xnat (1 : Int) = 1 := by rw [h.nat_]; rfl
 have qd : xnle (xnadd 1 1) 2 = true := by rw [h.nle_, h.nadd_]; rfl
 simp only [qa, qb, qd, Bool.false_eq_true, if_false, if_true]
 cbv
 cases c2 : c_cascadelaw06_awake with
 | none => simp only [c2] at hp; cases hp
 | some r1_0 =>
  simp only [c2] at hp
  have qc := fun s => (h_cascadelaw06_awake c2 s).1
  simp only [qc]
  cbv
  cases r1_0 with
  | false =>
   simp only at hp
   cbv
   have qc := fun s => (h_cascadelaw06_awake c2 s).1
   simp only [qc]
   cbv
   cases hp
   all_goals first | rfl | (cbv; done)
  | true =>
   simp only at hp
   cbv
   cases c5 : c_cascaderef03_Few ⟨v0_0, v0_1, v0_2, v0_3, v0_4⟩ 60 with
   | none => simp only [c5] at hp; cases hp
   | some r4_0 =>
    simp only [c5] at hp
    have qc := fun s => (h_cascaderef03_Few c5 s).1
    simp only [qc]
    cbv
    cases r4_0 with
    | false =>
     simp only at hp
     cbv
     have qc := fun s => (h_cascadelaw06_awake c2 s).1
     simp only [qc]
     cbv
     cases hp
     all_goals first | rfl | (cbv; done)
    | true =>
     simp only at hp
     cbv
     cases c8 : c_cascaderef03_Few ⟨v1_0, v1_1, v1_2, v1_3, v1_4⟩ 60 with
     | none => simp only [c8] at hp; cases hp
     | some r7_0 =>
      simp only [c8] at hp
      have qc := fun s => (h_cascaderef03_Few c8 s).1
      simp only [qc]
      cbv
      cases r7_0 with
      | false =>
       simp only at hp
       cbv
       have qc := fun s => (h_cascadelaw06_awake c2 s).1
       simp only [qc]
       cbv
       cases hp
       all_goals first | rfl | (cbv; done)
      | true =>
       simp only at hp
       cbv
       cases c11 : c_cascaderef06_Few v2_0 with
       | none => simp only [c11] at hp; cases hp
       | some r10_0 =>
        simp only [c11] at hp
        have qc := fun s => (h_cascaderef06_Few c11 s).1
        simp only [qc]
        cbv
        cases r10_0 with
        | false =>
         simp only at hp
         cbv
         have qc := fun s => (h_cascadelaw06_awake c2 s).1
         simp only [qc]
         cbv
         cases hp
         all_goals first | rfl | (cbv; done)
        | true =>
         simp only at hp
         cbv
         cases c14 : c_cascaderef06_Few v2_1 with
         | none => simp only [c14] at hp; cases hp
         | some r13_0 =>
          simp only [c14] at hp
          have qc := fun s => (h_cascaderef06_Few c14 s).1
          simp only [qc]
          cbv
          cases r13_0 with
          | false =>
           simp only at hp
           cbv
           have qc := fun s => (h_cascadelaw06_awake c2 s).1
           simp only [qc]
           cbv
           cases hp
           all_goals first | rfl | (cbv; done)
          | true =>
           simp only at hp
           cbv
           rw [h.at_, hT]
           cbv
           cases c17 : c_path_Put ⟨v0_0, v0_1, v0_2, v0_3, v0_4⟩ v2_0 ⟨v1_0, v1_1, v1_2, v1_3, v1_4⟩ with
           | none => simp only [c17] at hp; cases hp
           | some y47 =>
            obtain ⟨⟨r16_0_0, r16_0_1, r16_0_2, r16_0_3, r16_0_4⟩, r16_1⟩ := y47
            simp only [c17] at hp
            have qc := fun s => (h_path_Put c17 s).1
            simp only [qc]
            cbv
            cases c18 : xcmp .neq r16_1 0 with
            | false =>
             simp only [c18] at hp ⊢
             cbv
             rw [h.at_, hT]
             cbv
             cases c22 : c_path_Find ⟨r16_0_0, r16_0_1, r16_0_2, r16_0_3, r16_0_4⟩ v2_0 with
             | none => simp only [c22] at hp; cases hp
             | some y46 =>
              obtain ⟨⟨r21_0_0, r21_0_1, r21_0_2, r21_0_3, r21_0_4⟩, r21_1⟩ := y46
              simp only [c22] at hp
              have qc := fun s => (h_path_Find c22 s).1
              simp only [qc]
              cbv
              cases r21_1 with
              | false =>
               simp only at hp
               cbv
               cases hp
               all_goals first | rfl | (cbv; done)
              | true =>
               simp only at hp
               cbv
               cases c25 : c_cascaderef03_Same ⟨v1_0, v1_1, v1_2, v1_3, v1_4⟩ ⟨r21_0_0, r21_0_1, r21_0_2, r21_0_3, r21_0_4⟩ with
               | none => simp only [c25] at hp; cases hp
               | some r24_0 =>
                simp only [c25] at hp
                have qc := fun s => (h_cascaderef03_Same c25 s).1
                simp only [qc]
                cbv
                cases r24_0 with
                | false =>
                 simp only at hp
                 cbv
                 cases hp
                 all_goals first | rfl | (cbv; done)
                | true =>
                 simp only at hp
                 cbv
                 rw [h.at_, hT]
                 cbv
                 cases c28 : c_path_Find ⟨v0_0, v0_1, v0_2, v0_3, v0_4⟩ v2_1 with
                 | none => simp only [c28] at hp; cases hp
                 | some y45 =>
                  obtain ⟨⟨r27_0_0, r27_0_1, r27_0_2, r27_0_3, r27_0_4⟩, r27_1⟩ := y45
                  simp only [c28] at hp
                  have qc := fun s => (h_path_Find c28 s).1
                  simp only [qc]
                  cbv
                  cases c30 : c_path_Find ⟨r16_0_0, r16_0_1, r16_0_2, r16_0_3, r16_0_4⟩ v2_1 with
                  | none => simp only [c30] at hp; cases hp
                  | some y44 =>
                   obtain ⟨⟨r29_0_0, r29_0_1, r29_0_2, r29_0_3, r29_0_4⟩, r29_1⟩ := y44
                   simp only [c30] at hp
                   have qc := fun s => (h_path_Find c30 s).1
                   simp only [qc]
                   cbv
                   cases c32 : c_cascaderef06_Under v2_0 v2_1 with
                   | none => simp only [c32] at hp; cases hp
                   | some r31_0 =>
                    simp only [c32] at hp
                    have qc := fun s => (h_cascaderef06_Under c32 s).1
                    simp only [qc]
                    cbv
                    cases r31_0 with
                    | false =>
                     simp only at hp
                     cbv
                     cases c35 : c_cascaderef06_Under v2_1 v2_0 with
                     | none => simp only [c35] at hp; cases hp
                     | some r34_0 =>
                      simp only [c35] at hp
                      have qc := fun s => (h_cascaderef06_Under c35 s).1
                      simp only [qc]
                      cbv
                      cases r34_0 with
                      | false =>
                       simp only at hp
                       cbv
                       cases r27_1 with
                       | false =>
                        simp only at hp
                        cbv
                        cases r29_1 with
                        | false =>
                         simp only at hp
                         cbv
                         cases c43 : c_cascaderef03_Same ⟨r27_0_0, r27_0_1, r27_0_2, r27_0_3, r27_0_4⟩ ⟨r29_0_0, r29_0_1, r29_0_2, r29_0_3, r29_0_4⟩ with
                         | none => simp only [c43] at hp; cases hp
                         | some r42_0 =>
                          simp only [c43] at hp
                          have qc := fun s => (h_cascaderef03_Same c43 s).1
                          simp only [qc]
                          cbv
                          cases hp
                          all_goals first | rfl | (cbv; done)
                        | true =>
                         simp only at hp
                         cbv
                         cases hp
                         all_goals first | rfl | (cbv; done)
                       | true =>
                        simp only at hp
                        cbv
                        cases r29_1 with
                        | false =>
                         simp only at hp
                         cbv
                         cases hp
                         all_goals first | rfl | (cbv; done)
                        | true =>
                         simp only at hp
                         cbv
                         cases c40 : c_cascaderef03_Same ⟨r27_0_0, r27_0_1, r27_0_2, r27_0_3, r27_0_4⟩ ⟨r29_0_0, r29_0_1, r29_0_2, r29_0_3, r29_0_4⟩ with
                         | none => simp only [c40] at hp; cases hp
                         | some r39_0 =>
                          simp only [c40] at hp
                          have qc := fun s => (h_cascaderef03_Same c40 s).1
                          simp only [qc]
                          cbv
                          cases hp
                          all_goals first | rfl | (cbv; done)
                      | true =>
                       simp only at hp
                       cbv
                       cases hp
                       all_goals first | rfl | (cbv; done)
                    | true =>
                     simp only at hp
                     cbv
                     cases hp
                     all_goals first | rfl | (cbv; done)
            | true =>
             simp only [c18] at hp ⊢
             cbv
             cases c20 : c_cascadelaw06_zero ⟨r16_0_0, r16_0_1, r16_0_2, r16_0_3, r16_0_4⟩ with
             | none => simp only [c20] at hp; cases hp
             | some r19_0 =>
              simp only [c20] at hp
              have qc := fun s => (h_cascadelaw06_zero c20 s).1
              simp only [qc]
              cbv
              cases hp
              all_goals first | rfl | (cbv; done)
end
end
end Go.Abs.T
