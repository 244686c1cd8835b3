import Derived.Test.YtacabmodmbcldaaDoorDfT
set_option linter.unusedSimpArgs false
set_option linter.unusedVariables false
set_option linter.unusedSectionVars false
namespace Go.Abs.T
set_option maxRecDepth 100000
section
variable {PP : Prims} {xR : FuncId → Option RF} {xiter : (St → Rs) → St → Rs} {xG : Nat → Option (List D)} {xcall : CallF} {xpcall : FuncId → List V → Stk → Option V} {xfcall : FuncId → List V → Stk → Option (V × Stk)} {xkcall : FuncId → List (List Nat) → List V → Stk → Option (V × Level × Stk)} {xlen : List D → Nat} {xnth : List D → Nat → Option D} {xcut : List D → Nat → Nat → List D} {xapp : List D → List D → List D} {xset : List D → Nat → D → List D} {xrep : Nat → D → List D} {xallsz : Nat → List D → Bool} {xslen : Str → Nat} {xsnth : Str → Nat → Option UInt8} {xscut : Str → Nat → Nat → Str} {xsapp : Str → Str → Str} {xseq : Str → Str → Bool} {xslt : Str → Str → Bool} {xofStr : Str → List D} {xtoStr : List D → Option Str} {xdec : Str → Nat → Nat × Nat} {xenc : Int → Str} {xar : BinOp → IntKind → Int → Int → Int} {xcmp : BinOp → Int → Int → Bool} {xwrap : IntKind → Int → Int} {xisz : Int → Bool} {xneg : Int → Bool} {xnat : Int → Nat} {xofN : Nat → Int} {xbyte : UInt8 → Int} {xnle : Nat → Nat → Bool} {xnadd : Nat → Nat → Nat} {xnsub : Nat → Nat → Nat} {xfits : Nat → Nat → Bool} {xfind : D → List (D × Nat × V) → Option (Option V)} {xputE : D → Nat → V → List (D × Nat × V) → Option (List (D × Nat × V))} {xfindK : D → List D → List D → Option (Option D)} {xelen : List (D × Nat × V) → Nat} {xfrzM : List (D × Nat × V) → Option (List D × List D)} {xat : AtF} {xsetO : Stk → Lab → O → Stk} {xtop : Stk → Nat} {xsame : Stk → Stk → Bool} {xmap : {α : Type} → (α → D) → List α → List D} {xmapE : {α : Type} → (α → D) → List (Str × Nat × α) → List (D × Nat × V)} {pquo : BinOp → IntKind → Int → Int → Option Int} {pshf : BinOp → IntKind → Int → Int → Option Int} {pslen : Str → Int} {psidx : Str → Int → Option Int} {pssub : Str → Option Int → Option Int → Option Str} {pscat : Str → Str → Option Str} {psit : Str → Nat → Option (Int × Int × Nat)} {pslist : Str → Option (List Int)} {pofBytes : List Int → Str} {plen : {α : Type} → List α → Int} {pidx : {α : Type} → List α → Int → Option α} {psub : {α : Type} → List α → Option Int → Option Int → Option (List α)} {papp : {α : Type} → Nat → List α → List α → Option (List α)} {pset : {α : Type} → List α → Int → α → Option (List α)} {pmake : {α : Type} → Nat → α → Int → Option (List α)} {pmfind : {α : Type} → Str → List (Str × Nat × α) → Option α} {pmput : {α : Type} → Str → Nat → α → List (Str × Nat × α) → List (Str × Nat × α)} {ploop : {σ ρ : Type} → (σ → Option (σ ⊕ ρ)) → σ → Option ρ} {xT : FuncId → Option KF}
  (h : KLaws xR xiter xG xcall xpcall xfcall xkcall xlen xnth xcut xapp xset xrep xallsz xslen xsnth xscut xsapp xseq xslt xofStr xtoStr xdec xenc xar xcmp xwrap xisz xneg xnat xofN xbyte xnle xnadd xnsub xfits xfind xputE xfindK xelen xfrzM xat xsetO xtop xsame @xmap @xmapE pquo pshf pslen psidx pssub pscat psit pslist pofBytes @plen @pidx @psub @papp @pset @pmake @pmfind @pmput @ploop xT) (hT : xT = table) (hPP : PP = ⟨xar, xcmp, xwrap, xseq, xslt, xenc, pquo, pshf, pslen, psidx, pssub, pscat, psit, pslist, pofBytes, @plen, @pidx, @psub, @papp, @pset, @pmake, @pmfind, @pmput, @ploop⟩)
variable {e_api_Step : S_api_Step → D} {e_api_Value : S_api_Value → D} {e_api_Pair : S_api_Pair → D} {e_int : Int → D} (he_e_api_Step : ∀ (x_0 : Str) (x_1 : Int) (x_2 : Bool), e_api_Step ⟨x_0, x_1, x_2⟩ = (.agg [(.str x_0), (.int .i64 x_1), (.bool x_2)])) (hz_e_api_Step : ∀ l, xallsz 3 (xmap e_api_Step l) = true) (he_e_api_Value : ∀ (x_0 : Int) (x_1 : Int) (x_2 : Str) (x_3 : (List S_api_Value)) (x_4 : (List S_api_Pair)), e_api_Value ⟨x_0, x_1, x_2, x_3, x_4⟩ = (.agg [(.int .i64 x_0), (.int .i64 x_1), (.str x_2), (.sl (xmap e_api_Value x_3)), (.sl (xmap e_api_Pair x_4))])) (hz_e_api_Value : ∀ l, xallsz 5 (xmap e_api_Value l) = true) (he_e_api_Pair : ∀ (x_0 : Str) (x_1_0 : Int) (x_1_1 : Int) (x_1_2 : Str) (x_1_3 : (List S_api_Value)) (x_1_4 : (List S_api_Pair)), e_api_Pair ⟨x_0, ⟨x_1_0, x_1_1, x_1_2, x_1_3, x_1_4⟩⟩ = (.agg [(.str x_0), (.int .i64 x_1_0), (.int .i64 x_1_1), (.str x_1_2), (.sl (xmap e_api_Value x_1_3)), (.sl (xmap e_api_Pair x_1_4))])) (hz_e_api_Pair : ∀ l, xallsz 6 (xmap e_api_Pair l) = true) (he_e_int : ∀ (x : Int), e_int x = (.int .i64 x)) (hz_e_int : ∀ l, xallsz 1 (xmap e_int l) = true)
include h hT hPP he_e_api_Step hz_e_api_Step he_e_api_Value hz_e_api_Value he_e_api_Pair hz_e_api_Pair he_e_int hz_e_int
def b_path_Place_0 (P : Prims)   (v0 : Int) : Option (S_api_Step) :=
 some ⟨[], v0, true⟩
theorem o_path_Place_0   (stk : Stk) (m : Nat)     (v0 : Int)   {out} (hp : b_path_Place_0 PP   v0 = some out) : (A_path_Place_0 xat m  v0 stk) = (O_path_Place  m  stk) out := by
 subst hPP
 simp only [b_path_Place_0] at hp
 unfold A_path_Place_0
 rw [h.at_, hT]
 cbv
 cases hp
 all_goals first | rfl | (cbv; done)
def b_text_Bad_0 (P : Prims) (c_unicode_utf8_DecodeRuneInString : Str → Option (Int × Int)) (l_1 : T_text_Bad_1) (v0 : Str) : Option (Int) :=
 l_1 v0 v0 0
theorem o_text_Bad_0 (c_unicode_utf8_DecodeRuneInString : Str → Option (Int × Int)) (h_unicode_utf8_DecodeRuneInString : (C_unicode_utf8_DecodeRuneInString xpcall xfcall c_unicode_utf8_DecodeRuneInString)) (stk : Stk) (m : Nat)    (l_1 : T_text_Bad_1) (v0 : Str)  (h_l_1 : H_text_Bad_1 xat m  l_1) {out} (hp : b_text_Bad_0 PP c_unicode_utf8_DecodeRuneInString l_1 v0 = some out) : (A_text_Bad_0 xat m  v0 stk) = (O_text_Bad  m  stk) out := by
 subst hPP
 simp only [b_text_Bad_0] at hp
 unfold A_text_Bad_0
 rw [h.at_, hT]
 cbv
 first | exact h_l_1 hp stk | (have q := h_l_1 hp stk; simp only [A_text_Bad_1, h.map_cons, h.map_nil, h.mapE_nil, h.len_nil, he_e_api_Step, he_e_api_Value, he_e_api_Pair, he_e_int] at q; first | exact q | (cbv; exact q))
def b_text_Bad_1 (P : Prims) (c_unicode_utf8_DecodeRuneInString : Str → Option (Int × Int))  (v0 : Str) (o8_s : Str) (o8_p : Nat) : Option ((Str × Str × Nat) ⊕ (Int)) :=
 match P.sit o8_s o8_p with
 | none =>
  some (.inr (-1))
 | some (i1, r2, n3) =>
  match P.cmp .neq r2 65533 with
  | false =>
   match P.ssub v0 (some i1) none with
   | none => none
   | some s5 =>
    match c_unicode_utf8_DecodeRuneInString s5 with
    | none => none
    | some (r7_0, r7_1) =>
     match P.cmp .eql r7_1 1 with
     | false =>
      some (.inl (v0, o8_s, n3))
     | true =>
      some (.inr i1)
  | true =>
   some (.inl (v0, o8_s, n3))
theorem o_text_Bad_1 (c_unicode_utf8_DecodeRuneInString : Str → Option (Int × Int)) (h_unicode_utf8_DecodeRuneInString : (C_unicode_utf8_DecodeRuneInString xpcall xfcall c_unicode_utf8_DecodeRuneInString)) (stk : Stk) (m : Nat)     (v0 : Str) (o8_s : Str) (o8_p : Nat)   {out} (hp : b_text_Bad_1 PP c_unicode_utf8_DecodeRuneInString  v0 o8_s o8_p = some out) : (A_text_Bad_1 xat m  v0 o8_s o8_p stk) = (Sum.elim (fun (v0, o8_s, o8_p) => (A_text_Bad_1 xat m  v0 o8_s o8_p stk)) (O_text_Bad  m  stk)) out := by
 subst hPP
 simp only [b_text_Bad_1] at hp
 unfold A_text_Bad_1
 rw [h.at_, hT]
 cbv
 cases c11 : psit o8_s o8_p with
 | none =>
  simp only [c11] at hp
  have q1 := h.sit0 c11
  simp only [q1, Bool.false_eq_true, if_false]
  cbv
  rw [h.at_, hT]
  cbv
  cases hp
  all_goals first | rfl | (cbv; done)
 | some y12 =>
  obtain ⟨i1, r2, n3⟩ := y12
  simp only [c11] at hp
  obtain ⟨q1, q2, q3, q4⟩ := h.sit1 c11
  simp only [q1, q2, q3, q4, if_true]
  cbv
  rw [h.at_, hT]
  cbv
  cases c4 : xcmp .neq r2 65533 with
  | false =>
   simp only [c4] at hp ⊢
   cbv
   rw [h.at_, hT]
   cbv
   cases c6 : pssub v0 (some i1) none with
   | none => simp only [c6] at hp; cases hp
   | some s5 =>
    simp only [c6] at hp
    obtain ⟨q0, q1, q2, q3⟩ := h.ssub1 c6
    simp only [q0, q1, q2, q3, Bool.false_eq_true, if_false, if_true]
    cbv
    try simp only [q0, q1, q2, q3, if_true]
    cbv
    cases c8 : c_unicode_utf8_DecodeRuneInString s5 with
    | none => simp only [c8] at hp; cases hp
    | some y10 =>
     obtain ⟨r7_0, r7_1⟩ := y10
     simp only [c8] at hp
     have qc := fun s => (h_unicode_utf8_DecodeRuneInString c8 s).1
     simp only [qc]
     cbv
     cases c9 : xcmp .eql r7_1 1 with
     | false =>
      simp only [c9] at hp ⊢
      cbv
      cases hp
      all_goals first | rfl | (cbv; done)
     | true =>
      simp only [c9] at hp ⊢
      cbv
      cases hp
      all_goals first | rfl | (cbv; done)
  | true =>
   simp only [c4] at hp ⊢
   cbv
   cases hp
   all_goals first | rfl | (cbv; done)
def b_text_Right_0 (P : Prims) (c_text_Bad : Str → Option (Int))  (v0 : Str) : Option (Bool) :=
 match c_text_Bad v0 with
 | none => none
 | some r1_0 =>
  some (P.cmp .lss r1_0 0)
theorem o_text_Right_0 (c_text_Bad : Str → Option (Int)) (h_text_Bad : (C_text_Bad xpcall xfcall c_text_Bad)) (stk : Stk) (m : Nat)     (v0 : Str)   {out} (hp : b_text_Right_0 PP c_text_Bad  v0 = some out) : (A_text_Right_0 xat m  v0 stk) = (O_text_Right  m  stk) out := by
 subst hPP
 simp only [b_text_Right_0] at hp
 unfold A_text_Right_0
 rw [h.at_, hT]
 cbv
 cases c2 : c_text_Bad v0 with
 | none => simp only [c2] at hp; cases hp
 | some r1_0 =>
  simp only [c2] at hp
  have qc := fun s => (h_text_Bad c2 s).1
  simp only [qc]
  cbv
  cases hp
  all_goals first | rfl | (cbv; done)
def b_path_right_0 (P : Prims) (c_text_Right : Str → Option (Bool))  (v0_0 : Str) (v0_1 : Int) (v0_2 : Bool) : Option (Bool) :=
 match v0_2 with
 | false =>
  match P.cmp .eql v0_1 0 with
  | false =>
   some false
  | true =>
   match c_text_Right v0_0 with
   | none => none
   | some r5_0 =>
    some r5_0
 | true =>
  match P.seq v0_0 [] with
  | false =>
   some false
  | true =>
   match P.cmp .geq v0_1 0 with
   | false =>
    some false
   | true =>
    some (P.cmp .leq v0_1 9007199254740991)
theorem o_path_right_0 (c_text_Right : Str → Option (Bool)) (h_text_Right : (C_text_Right xpcall xfcall c_text_Right)) (stk : Stk) (m : Nat)     (v0_0 : Str) (v0_1 : Int) (v0_2 : Bool)   {out} (hp : b_path_right_0 PP c_text_Right  v0_0 v0_1 v0_2 = some out) : (A_path_right_0 xat m  v0_0 v0_1 v0_2 stk) = (O_path_right  m  stk) out := by
 subst hPP
 simp only [b_path_right_0] at hp
 unfold A_path_right_0
 rw [h.at_, hT]
 cbv
 cases v0_2 with
 | false =>
  simp only at hp
  cbv
  rw [h.at_, hT]
  cbv
  cases c4 : xcmp .eql v0_1 0 with
  | false =>
   simp only [c4] at hp ⊢
   cbv
   cases hp
   all_goals first | rfl | (cbv; done)
  | true =>
   simp only [c4] at hp ⊢
   cbv
   cases c6 : c_text_Right v0_0 with
   | none => simp only [c6] at hp; cases hp
   | some r5_0 =>
    simp only [c6] at hp
    have qc := fun s => (h_text_Right c6 s).1
    simp only [qc]
    cbv
    cases hp
    all_goals first | rfl | (cbv; done)
 | true =>
  simp only at hp
  cbv
  cases c2 : xseq v0_0 [] with
  | false =>
   simp only [c2] at hp ⊢
   cbv
   cases hp
   all_goals first | rfl | (cbv; done)
  | true =>
   simp only [c2] at hp ⊢
   cbv
   cases c3 : xcmp .geq v0_1 0 with
   | false =>
    simp only [c3] at hp ⊢
    cbv
    cases hp
    all_goals first | rfl | (cbv; done)
   | true =>
    simp only [c3] at hp ⊢
    cbv
    cases hp
    all_goals first | rfl | (cbv; done)
def b_path_Right_1_0 (P : Prims) (c_path_right : S_api_Step → Option (Bool))  (v0_0 : Str) (v0_1 : Int) (v0_2 : Bool) : Option (Bool) :=
 match c_path_right ⟨v0_0, v0_1, v0_2⟩ with
 | none => none
 | some r1_0 =>
  match r1_0 with
  | false =>
   some true
  | true =>
   some false
theorem o_path_Right_1_0 (c_path_right : S_api_Step → Option (Bool)) (h_path_right : (C_path_right xpcall xfcall c_path_right)) (stk : Stk) (m : Nat)     (v0_0 : Str) (v0_1 : Int) (v0_2 : Bool)   {out} (hp : b_path_Right_1_0 PP c_path_right  v0_0 v0_1 v0_2 = some out) : (A_path_Right_1_0 xat m  v0_0 v0_1 v0_2 stk) = (O_path_Right_1  m  stk) out := by
 subst hPP
 simp only [b_path_Right_1_0] at hp
 unfold A_path_Right_1_0
 rw [h.at_, hT]
 cbv
 cases c2 : c_path_right ⟨v0_0, v0_1, v0_2⟩ with
 | none => simp only [c2] at hp; cases hp
 | some r1_0 =>
  simp only [c2] at hp
  have qc := fun s => (h_path_right c2 s).1
  simp only [qc]
  cbv
  cases r1_0 with
  | false =>
   simp only at hp
   cbv
   cases hp
   all_goals first | rfl | (cbv; done)
  | true =>
   simp only at hp
   cbv
   cases hp
   all_goals first | rfl | (cbv; done)
def b_slices_IndexFunc__api_Step_api_Step__0_0 (P : Prims) (c_path_Right_1 : S_api_Step → Option (Bool)) (l_1 : T_slices_IndexFunc__api_Step_api_Step__0_1) (v0 : (List S_api_Step)) : Option (Int) :=
 l_1 v0 (P.len v0) 0
theorem o_slices_IndexFunc__api_Step_api_Step__0_0 (c_path_Right_1 : S_api_Step → Option (Bool)) (h_path_Right_1 : (C_path_Right_1 xpcall xfcall c_path_Right_1)) (stk : Stk) (m : Nat)    (l_1 : T_slices_IndexFunc__api_Step_api_Step__0_1) (v0 : (List S_api_Step))  (h_l_1 : H_slices_IndexFunc__api_Step_api_Step__0_1 xat @xmap e_api_Step m  l_1) {out} (hp : b_slices_IndexFunc__api_Step_api_Step__0_0 PP c_path_Right_1 l_1 v0 = some out) : (A_slices_IndexFunc__api_Step_api_Step__0_0 xat @xmap e_api_Step m  v0 stk) = (O_slices_IndexFunc__api_Step_api_Step__0  m  stk) out := by
 subst hPP
 simp only [b_slices_IndexFunc__api_Step_api_Step__0_0] at hp
 unfold A_slices_IndexFunc__api_Step_api_Step__0_0
 rw [h.at_, hT]
 cbv
 try simp only [h.len]
 first | exact h_l_1 hp stk | (have q := h_l_1 hp stk; simp only [A_slices_IndexFunc__api_Step_api_Step__0_1, h.map_cons, h.map_nil, h.mapE_nil, h.len_nil, he_e_api_Step, he_e_api_Value, he_e_api_Pair, he_e_int] at q; first | exact q | (cbv; exact q))
def b_slices_IndexFunc__api_Step_api_Step__0_1 (P : Prims) (c_path_Right_1 : S_api_Step → Option (Bool))  (v0 : (List S_api_Step)) (v7 : Int) (v8 : Int) : Option (((List S_api_Step) × Int × Int) ⊕ (Int)) :=
 match P.cmp .lss v8 v7 with
 | false =>
  some (.inr (-1))
 | true =>
  match P.idx v0 v8 with
  | none => none
  | some ⟨a2_0, a2_1, a2_2⟩ =>
   match c_path_Right_1 ⟨a2_0, a2_1, a2_2⟩ with
   | none => none
   | some r4_0 =>
    match r4_0 with
    | false =>
     some (.inl (v0, v7, P.ar .add .i64 v8 1))
    | true =>
     some (.inr v8)
theorem o_slices_IndexFunc__api_Step_api_Step__0_1 (c_path_Right_1 : S_api_Step → Option (Bool)) (h_path_Right_1 : (C_path_Right_1 xpcall xfcall c_path_Right_1)) (stk : Stk) (m : Nat)     (v0 : (List S_api_Step)) (v7 : Int) (v8 : Int)   {out} (hp : b_slices_IndexFunc__api_Step_api_Step__0_1 PP c_path_Right_1  v0 v7 v8 = some out) : (A_slices_IndexFunc__api_Step_api_Step__0_1 xat @xmap e_api_Step m  v0 v7 v8 stk) = (Sum.elim (fun (v0, v7, v8) => (A_slices_IndexFunc__api_Step_api_Step__0_1 xat @xmap e_api_Step m  v0 v7 v8 stk)) (O_slices_IndexFunc__api_Step_api_Step__0  m  stk)) out := by
 subst hPP
 simp only [b_slices_IndexFunc__api_Step_api_Step__0_1] at hp
 unfold A_slices_IndexFunc__api_Step_api_Step__0_1
 rw [h.at_, hT]
 cbv
 cases c1 : xcmp .lss v8 v7 with
 | false =>
  simp only [c1] at hp ⊢
  cbv
  rw [h.at_, hT]
  cbv
  cases hp
  all_goals first | rfl | (cbv; done)
 | true =>
  simp only [c1] at hp ⊢
  cbv
  rw [h.at_, hT]
  cbv
  cases c3 : pidx v0 v8 with
  | none => simp only [c3] at hp; cases hp
  | some y7 =>
   obtain ⟨a2_0, a2_1, a2_2⟩ := y7
   simp only [c3] at hp
   obtain ⟨q1, q2⟩ := h.idx e_api_Step c3
   simp only [he_e_api_Step] at q2
   simp only [q1, Bool.false_eq_true, if_false]
   cbv
   try simp only [q2]
   cbv
   cases c5 : c_path_Right_1 ⟨a2_0, a2_1, a2_2⟩ with
   | none => simp only [c5] at hp; cases hp
   | some r4_0 =>
    simp only [c5] at hp
    have qc := fun s => (h_path_Right_1 c5 s).1
    simp only [qc]
    cbv
    cases r4_0 with
    | false =>
     simp only at hp
     cbv
     rw [h.at_, hT]
     cbv
     cases hp
     all_goals first | rfl | (cbv; done)
    | true =>
     simp only at hp
     cbv
     cases hp
     all_goals first | rfl | (cbv; done)
def b_slices_ContainsFunc__api_Step_api_Step__0_0 (P : Prims) (c_slices_IndexFunc__api_Step_api_Step__0 : (List S_api_Step) → Option (Int))  (v0 : (List S_api_Step)) : Option (Bool) :=
 match c_slices_IndexFunc__api_Step_api_Step__0 v0 with
 | none => none
 | some r1_0 =>
  some (P.cmp .geq r1_0 0)
theorem o_slices_ContainsFunc__api_Step_api_Step__0_0 (c_slices_IndexFunc__api_Step_api_Step__0 : (List S_api_Step) → Option (Int)) (h_slices_IndexFunc__api_Step_api_Step__0 : (C_slices_IndexFunc__api_Step_api_Step__0 xpcall xfcall @xmap e_api_Step c_slices_IndexFunc__api_Step_api_Step__0)) (stk : Stk) (m : Nat)     (v0 : (List S_api_Step))   {out} (hp : b_slices_ContainsFunc__api_Step_api_Step__0_0 PP c_slices_IndexFunc__api_Step_api_Step__0  v0 = some out) : (A_slices_ContainsFunc__api_Step_api_Step__0_0 xat @xmap e_api_Step m  v0 stk) = (O_slices_ContainsFunc__api_Step_api_Step__0  m  stk) out := by
 subst hPP
 simp only [b_slices_ContainsFunc__api_Step_api_Step__0_0] at hp
 unfold A_slices_ContainsFunc__api_Step_api_Step__0_0
 rw [h.at_, hT]
 cbv
 cases c2 : c_slices_IndexFunc__api_Step_api_Step__0 v0 with
 | none => simp only [c2] at hp; cases hp
 | some r1_0 =>
  simp only [c2] at hp
  have qc := fun s => (h_slices_IndexFunc__api_Step_api_Step__0 c2 s).1
  simp only [qc]
  cbv
  cases hp
  all_goals first | rfl | (cbv; done)
def b_path_Right_0 (P : Prims) (c_slices_ContainsFunc__api_Step_api_Step__0 : (List S_api_Step) → Option (Bool))  (v0 : (List S_api_Step)) : Option (Bool) :=
 match P.cmp .leq (P.len v0) 30 with
 | false =>
  some false
 | true =>
  match c_slices_ContainsFunc__api_Step_api_Step__0 v0 with
  | none => none
  | some r2_0 =>
   match r2_0 with
   | false =>
    some true
   | true =>
    some false
theorem o_path_Right_0 (c_slices_ContainsFunc__api_Step_api_Step__0 : (List S_api_Step) → Option (Bool)) (h_slices_ContainsFunc__api_Step_api_Step__0 : (C_slices_ContainsFunc__api_Step_api_Step__0 xpcall xfcall @xmap e_api_Step c_slices_ContainsFunc__api_Step_api_Step__0)) (stk : Stk) (m : Nat)     (v0 : (List S_api_Step))   {out} (hp : b_path_Right_0 PP c_slices_ContainsFunc__api_Step_api_Step__0  v0 = some out) : (A_path_Right_0 xat @xmap e_api_Step m  v0 stk) = (O_path_Right  m  stk) out := by
 subst hPP
 simp only [b_path_Right_0] at hp
 unfold A_path_Right_0
 rw [h.at_, hT]
 cbv
 try simp only [h.len]
 cases c1 : xcmp .leq (plen v0) 30 with
 | false =>
  simp only [c1] at hp ⊢
  cbv
  cases hp
  all_goals first | rfl | (cbv; done)
 | true =>
  simp only [c1] at hp ⊢
  cbv
  cases c3 : c_slices_ContainsFunc__api_Step_api_Step__0 v0 with
  | none => simp only [c3] at hp; cases hp
  | some r2_0 =>
   simp only [c3] at hp
   have qc := fun s => (h_slices_ContainsFunc__api_Step_api_Step__0 c3 s).1
   simp only [qc]
   cbv
   cases r2_0 with
   | false =>
    simp only at hp
    cbv
    cases hp
    all_goals first | rfl | (cbv; done)
   | true =>
    simp only at hp
    cbv
    cases hp
    all_goals first | rfl | (cbv; done)
def b_path_Value_0 (P : Prims) (c_path_Right : (List S_api_Step) → Option (Bool)) (l_2 : T_path_Value_2) (v0 : (List S_api_Step)) : Option (S_api_Value × Int) :=
 match c_path_Right v0 with
 | none => none
 | some r1_0 =>
  match r1_0 with
  | false =>
   some (⟨0, 0, [], [], []⟩, 1)
  | true =>
   l_2 v0 (P.len v0) 0 0 0 [] [] [] 4 0 [] 0 [] []
theorem o_path_Value_0 (c_path_Right : (List S_api_Step) → Option (Bool)) (h_path_Right : (C_path_Right xpcall xfcall @xmap e_api_Step c_path_Right)) (stk : Stk) (m : Nat)    (l_2 : T_path_Value_2) (v0 : (List S_api_Step))  (h_l_2 : H_path_Value_2 xat @xmap xlen e_api_Step e_api_Value e_api_Pair m  l_2) {out} (hp : b_path_Value_0 PP c_path_Right l_2 v0 = some out) : (A_path_Value_0 xat @xmap e_api_Step m  v0 stk) = (O_path_Value @xmap e_api_Value e_api_Pair m  stk) out := by
 subst hPP
 simp only [b_path_Value_0] at hp
 unfold A_path_Value_0
 rw [h.at_, hT]
 cbv
 cases c2 : c_path_Right v0 with
 | none => simp only [c2] at hp; cases hp
 | some r1_0 =>
  simp only [c2] at hp
  have qc := fun s => (h_path_Right c2 s).1
  simp only [qc]
  cbv
  cases r1_0 with
  | false =>
   simp only at hp
   cbv
   cases hp
   all_goals first | rfl | (cbv; done) | (simp only [h.nadd0, h.nle_refl, h.cut_all, h.cut_nil, h.map_cons, h.map_nil, h.mapE_nil, h.len_nil, he_e_api_Step, he_e_api_Value, he_e_api_Pair, he_e_int, O_path_Value, if_true]; done) | (simp only [h.nadd0, h.nle_refl, h.cut_all, h.cut_nil, h.map_cons, h.map_nil, h.mapE_nil, h.len_nil, he_e_api_Step, he_e_api_Value, he_e_api_Pair, he_e_int, O_path_Value, if_true]; first | rfl | (cbv; done) | (cbv; simp only [h.map_cons, h.map_nil, h.mapE_nil, h.len_nil, he_e_api_Step, he_e_api_Value, he_e_api_Pair, he_e_int, O_path_Value]; done))
  | true =>
   simp only at hp
   cbv
   rw [h.at_, hT]
   cbv
   try simp only [h.len]
   first | exact h_l_2 hp stk | (have q := h_l_2 hp stk; simp only [A_path_Value_2, h.map_cons, h.map_nil, h.mapE_nil, h.len_nil, he_e_api_Step, he_e_api_Value, he_e_api_Pair, he_e_int] at q; first | exact q | (cbv; exact q))
def b_path_Value_2 (P : Prims) (c_path_Right : (List S_api_Step) → Option (Bool)) (l_4 : T_path_Value_4) (v12 : (List S_api_Step)) (v13 : Int) (v14 : Int) (o2_0 : Int) (o2_1 : Int) (o2_2 : Str) (o2_3 : (List S_api_Value)) (o2_4 : (List S_api_Pair)) (o4_0 : Int) (o4_1 : Int) (o4_2 : Str) (o4_3_g : Nat) (o4_3 : (List S_api_Value)) (o4_4 : (List S_api_Pair)) : Option (((List S_api_Step) × Int × Int × Int × Int × Str × (List S_api_Value) × (List S_api_Pair) × Int × Int × Str × Nat × (List S_api_Value) × (List S_api_Pair)) ⊕ (S_api_Value × Int)) :=
 match P.cmp .lss v14 v13 with
 | false =>
  some (.inr (⟨o4_0, o4_1, o4_2, o4_3, o4_4⟩, 0))
 | true =>
  match P.idx v12 v14 with
  | none => none
  | some ⟨a5_0, a5_1, a5_2⟩ =>
   match a5_2 with
   | false =>
    match P.app 80 o4_3 [⟨3, 0, a5_0, [], []⟩] with
    | none => none
    | some l10 =>
     l_4 v12 v13 v14 o2_0 o2_1 o2_2 o2_3 o2_4 o4_0 o4_1 o4_2 (o4_3_g + 1) l10 o4_4
   | true =>
    match P.app 80 o4_3 [⟨2, a5_1, [], [], []⟩] with
    | none => none
    | some l8 =>
     l_4 v12 v13 v14 o2_0 o2_1 o2_2 o2_3 o2_4 o4_0 o4_1 o4_2 (o4_3_g + 1) l8 o4_4
theorem o_path_Value_2 (c_path_Right : (List S_api_Step) → Option (Bool)) (h_path_Right : (C_path_Right xpcall xfcall @xmap e_api_Step c_path_Right)) (stk : Stk) (m : Nat)    (l_4 : T_path_Value_4) (v12 : (List S_api_Step)) (v13 : Int) (v14 : Int) (o2_0 : Int) (o2_1 : Int) (o2_2 : Str) (o2_3 : (List S_api_Value)) (o2_4 : (List S_api_Pair)) (o4_0 : Int) (o4_1 : Int) (o4_2 : Str) (o4_3_g : Nat) (o4_3 : (List S_api_Value)) (o4_4 : (List S_api_Pair))  (h_l_4 : H_path_Value_4 xat @xmap xlen e_api_Step e_api_Value e_api_Pair m  l_4) {out} (hp : b_path_Value_2 PP c_path_Right l_4 v12 v13 v14 o2_0 o2_1 o2_2 o2_3 o2_4 o4_0 o4_1 o4_2 o4_3_g o4_3 o4_4 = some out) : (A_path_Value_2 xat @xmap xlen e_api_Step e_api_Value e_api_Pair m  v12 v13 v14 o2_0 o2_1 o2_2 o2_3 o2_4 o4_0 o4_1 o4_2 o4_3_g o4_3 o4_4 stk) = (Sum.elim (fun (v12, v13, v14, o2_0, o2_1, o2_2, o2_3, o2_4, o4_0, o4_1, o4_2, o4_3_g, o4_3, o4_4) => (A_path_Value_2 xat @xmap xlen e_api_Step e_api_Value e_api_Pair m  v12 v13 v14 o2_0 o2_1 o2_2 o2_3 o2_4 o4_0 o4_1 o4_2 o4_3_g o4_3 o4_4 stk)) (O_path_Value @xmap e_api_Value e_api_Pair m  stk)) out := by
 subst hPP
 simp only [b_path_Value_2] at hp
 unfold A_path_Value_2
 rw [h.at_, hT]
 cbv
 cases c4 : xcmp .lss v14 v13 with
 | false =>
  simp only [c4] at hp ⊢
  cbv
  rw [h.at_, hT]
  cbv
  cases hp
  all_goals first | rfl | (cbv; done) | (simp only [h.nadd0, h.nle_refl, h.cut_all, h.cut_nil, h.map_cons, h.map_nil, h.mapE_nil, h.len_nil, he_e_api_Step, he_e_api_Value, he_e_api_Pair, he_e_int, O_path_Value, A_path_Value_2, if_true]; done) | (simp only [h.nadd0, h.nle_refl, h.cut_all, h.cut_nil, h.map_cons, h.map_nil, h.mapE_nil, h.len_nil, he_e_api_Step, he_e_api_Value, he_e_api_Pair, he_e_int, O_path_Value, A_path_Value_2, if_true]; first | rfl | (cbv; done) | (cbv; simp only [h.map_cons, h.map_nil, h.mapE_nil, h.len_nil, he_e_api_Step, he_e_api_Value, he_e_api_Pair, he_e_int, O_path_Value, A_path_Value_2]; done))
 | true =>
  simp only [c4] at hp ⊢
  cbv
  rw [h.at_, hT]
  cbv
  cases c6 : pidx v12 v14 with
  | none => simp only [c6] at hp; cases hp
  | some y12 =>
   obtain ⟨a5_0, a5_1, a5_2⟩ := y12
   simp only [c6] at hp
   obtain ⟨q1, q2⟩ := h.idx e_api_Step c6
   simp only [he_e_api_Step] at q2
   simp only [q1, Bool.false_eq_true, if_false]
   cbv
   try simp only [q2]
   cbv
   cases a5_2 with
   | false =>
    simp only at hp
    cbv
    simp only [h.allsz_nil, h.allsz_cons]
    cbv
    simp only [h.allsz_nil, h.allsz_cons]
    cbv
    cases c11 : papp 80 o4_3 [⟨3, 0, a5_0, [], []⟩] with
    | none => simp only [c11] at hp; cases hp
    | some l10 =>
     simp only [c11] at hp
     obtain ⟨q1, q2, q3⟩ := h.app e_api_Value c11 rfl
     simp only [h.map_cons, h.map_nil, h.len_nil, he_e_api_Value] at q1 q2 q3
     try simp only [h.len_nil]
     cbv
     simp only [q1, q2, q3, if_true]
     cbv
     first | exact h_l_4 hp stk | (have q := h_l_4 hp stk; simp only [A_path_Value_4, h.map_cons, h.map_nil, h.mapE_nil, h.len_nil, he_e_api_Step, he_e_api_Value, he_e_api_Pair, he_e_int] at q; first | exact q | (cbv; exact q))
   | true =>
    simp only at hp
    cbv
    simp only [h.allsz_nil, h.allsz_cons]
    cbv
    simp only [h.allsz_nil, h.allsz_cons]
    cbv
    cases c9 : papp 80 o4_3 [⟨2, a5_1, [], [], []⟩] with
    | none => simp only [c9] at hp; cases hp
    | some l8 =>
     simp only [c9] at hp
     obtain ⟨q1, q2, q3⟩ := h.app e_api_Value c9 rfl
     simp only [h.map_cons, h.map_nil, h.len_nil, he_e_api_Value] at q1 q2 q3
     try simp only [h.len_nil]
     cbv
     simp only [q1, q2, q3, if_true]
     cbv
     first | exact h_l_4 hp stk | (have q := h_l_4 hp stk; simp only [A_path_Value_4, h.map_cons, h.map_nil, h.mapE_nil, h.len_nil, he_e_api_Step, he_e_api_Value, he_e_api_Pair, he_e_int] at q; first | exact q | (cbv; exact q))
def b_path_Value_4 (P : Prims) (c_path_Right : (List S_api_Step) → Option (Bool))  (v12 : (List S_api_Step)) (v13 : Int) (v14 : Int) (o2_0 : Int) (o2_1 : Int) (o2_2 : Str) (o2_3 : (List S_api_Value)) (o2_4 : (List S_api_Pair)) (o4_0 : Int) (o4_1 : Int) (o4_2 : Str) (o4_3_g : Nat) (o4_3 : (List S_api_Value)) (o4_4 : (List S_api_Pair)) : Option (((List S_api_Step) × Int × Int × Int × Int × Str × (List S_api_Value) × (List S_api_Pair) × Int × Int × Str × Nat × (List S_api_Value) × (List S_api_Pair)) ⊕ (S_api_Value × Int)) :=
 some (.inl (v12, v13, P.ar .add .i64 v14 1, o2_0, o2_1, o2_2, o2_3, o2_4, o4_0, o4_1, o4_2, o4_3_g, o4_3, o4_4))
theorem o_path_Value_4 (c_path_Right : (List S_api_Step) → Option (Bool)) (h_path_Right : (C_path_Right xpcall xfcall @xmap e_api_Step c_path_Right)) (stk : Stk) (m : Nat)     (v12 : (List S_api_Step)) (v13 : Int) (v14 : Int) (o2_0 : Int) (o2_1 : Int) (o2_2 : Str) (o2_3 : (List S_api_Value)) (o2_4 : (List S_api_Pair)) (o4_0 : Int) (o4_1 : Int) (o4_2 : Str) (o4_3_g : Nat) (o4_3 : (List S_api_Value)) (o4_4 : (List S_api_Pair))   {out} (hp : b_path_Value_4 PP c_path_Right  v12 v13 v14 o2_0 o2_1 o2_2 o2_3 o2_4 o4_0 o4_1 o4_2 o4_3_g o4_3 o4_4 = some out) : (A_path_Value_4 xat @xmap xlen e_api_Step e_api_Value e_api_Pair m  v12 v13 v14 o2_0 o2_1 o2_2 o2_3 o2_4 o4_0 o4_1 o4_2 o4_3_g o4_3 o4_4 stk) = (Sum.elim (fun (v12, v13, v14, o2_0, o2_1, o2_2, o2_3, o2_4, o4_0, o4_1, o4_2, o4_3_g, o4_3, o4_4) => (A_path_Value_2 xat @xmap xlen e_api_Step e_api_Value e_api_Pair m  v12 v13 v14 o2_0 o2_1 o2_2 o2_3 o2_4 o4_0 o4_1 o4_2 o4_3_g o4_3 o4_4 stk)) (O_path_Value @xmap e_api_Value e_api_Pair m  stk)) out := by
 subst hPP
 simp only [b_path_Value_4] at hp
 unfold A_path_Value_4
 rw [h.at_, hT]
 cbv
 cases hp
 all_goals first | rfl | (cbv; done) | (simp only [h.nadd0, h.nle_refl, h.cut_all, h.cut_nil, h.map_cons, h.map_nil, h.mapE_nil, h.len_nil, he_e_api_Step, he_e_api_Value, he_e_api_Pair, he_e_int, O_path_Value, A_path_Value_2, if_true]; done) | (simp only [h.nadd0, h.nle_refl, h.cut_all, h.cut_nil, h.map_cons, h.map_nil, h.mapE_nil, h.len_nil, he_e_api_Step, he_e_api_Value, he_e_api_Pair, he_e_int, O_path_Value, A_path_Value_2, if_true]; first | rfl | (cbv; done) | (cbv; simp only [h.map_cons, h.map_nil, h.mapE_nil, h.len_nil, he_e_api_Step, he_e_api_Value, he_e_api_Pair, he_e_int, O_path_Value, A_path_Value_2]; done))
def b_cascadelaw06_awake_0 (P : Prims) (c_path_Place : Int → Option (S_api_Step)) (c_path_Value : (List S_api_Step) → Option (S_api_Value × Int))   : Option (Bool) :=
 match c_path_Place 3 with
 | none => none
 | some ⟨r1_0_0, r1_0_1, r1_0_2⟩ =>
  match c_path_Value [⟨r1_0_0, r1_0_1, r1_0_2⟩] with
  | none => none
  | some (⟨r3_0_0, r3_0_1, r3_0_2, r3_0_3, r3_0_4⟩, r3_1) =>
   match P.cmp .eql r3_1 0 with
   | false =>
    some false
   | true =>
    match P.cmp .eql (P.len r3_0_3) 1 with
    | false =>
     some false
    | true =>
     match P.idx r3_0_3 0 with
     | none => none
     | some ⟨a7_0, a7_1, a7_2, a7_3, a7_4⟩ =>
      some (P.cmp .eql a7_1 3)
theorem o_cascadelaw06_awake_0 (c_path_Place : Int → Option (S_api_Step)) (c_path_Value : (List S_api_Step) → Option (S_api_Value × Int)) (h_path_Place : (C_path_Place xpcall xfcall c_path_Place)) (h_path_Value : (C_path_Value xpcall xfcall @xmap e_api_Step e_api_Value e_api_Pair c_path_Value)) (stk : Stk) (m : Nat)        {out} (hp : b_cascadelaw06_awake_0 PP c_path_Place c_path_Value   = some out) : (A_cascadelaw06_awake_0 xat m   stk) = (O_cascadelaw06_awake  m  stk) out := by
 subst hPP
 simp only [b_cascadelaw06_awake_0] at hp
 unfold A_cascadelaw06_awake_0
 rw [h.at_, hT]
 cbv
 cases c2 : c_path_Place 3 with
 | none => simp only [c2] at hp; cases hp
 | some y11 =>
  obtain ⟨r1_0_0, r1_0_1, r1_0_2⟩ := y11
  simp only [c2] at hp
  have qc := fun s => (h_path_Place c2 s).1
  simp only [qc]
  cbv
  simp only [h.allsz_nil, h.allsz_cons]
  cbv
  cases c4 : c_path_Value [⟨r1_0_0, r1_0_1, r1_0_2⟩] with
  | none => simp only [c4] at hp; cases hp
  | some y10 =>
   obtain ⟨⟨r3_0_0, r3_0_1, r3_0_2, r3_0_3, r3_0_4⟩, r3_1⟩ := y10
   simp only [c4] at hp
   have qc := fun s => (h_path_Value c4 s).1
   try simp only [h.map_cons, h.map_nil, he_e_api_Step] at qc
   simp only [qc]
   cbv
   cases c5 : xcmp .eql r3_1 0 with
   | false =>
    simp only [c5] at hp ⊢
    cbv
    cases hp
    all_goals first | rfl | (cbv; done)
   | true =>
    simp only [c5] at hp ⊢
    cbv
    try simp only [h.len]
    cases c6 : xcmp .eql (plen r3_0_3) 1 with
    | false =>
     simp only [c6] at hp ⊢
     cbv
     cases hp
     all_goals first | rfl | (cbv; done)
    | true =>
     simp only [c6] at hp ⊢
     cbv
     cases c8 : pidx r3_0_3 0 with
     | none => simp only [c8] at hp; cases hp
     | some y9 =>
      obtain ⟨a7_0, a7_1, a7_2, a7_3, a7_4⟩ := y9
      simp only [c8] at hp
      obtain ⟨q1, q2⟩ := h.idx e_api_Value c8
      simp only [he_e_api_Value] at q2
      simp only [q1, Bool.false_eq_true, if_false]
      cbv
      try simp only [q2]
      cbv
      cases hp
      all_goals first | rfl | (cbv; done)
def b_cascaderef06_Few_0 (P : Prims)  (l_1 : T_cascaderef06_Few_1) (v0 : (List S_api_Step)) : Option (Bool) :=
 l_1 v0 0
theorem o_cascaderef06_Few_0   (stk : Stk) (m : Nat)    (l_1 : T_cascaderef06_Few_1) (v0 : (List S_api_Step))  (h_l_1 : H_cascaderef06_Few_1 xat @xmap e_api_Step m  l_1) {out} (hp : b_cascaderef06_Few_0 PP  l_1 v0 = some out) : (A_cascaderef06_Few_0 xat @xmap e_api_Step m  v0 stk) = (O_cascaderef06_Few  m  stk) out := by
 subst hPP
 simp only [b_cascaderef06_Few_0] at hp
 unfold A_cascaderef06_Few_0
 rw [h.at_, hT]
 cbv
 first | exact h_l_1 hp stk | (have q := h_l_1 hp stk; simp only [A_cascaderef06_Few_1, h.map_cons, h.map_nil, h.mapE_nil, h.len_nil, he_e_api_Step, he_e_api_Value, he_e_api_Pair, he_e_int] at q; first | exact q | (cbv; exact q))
def b_cascaderef06_Few_1 (P : Prims)  (l_4 : T_cascaderef06_Few_4) (v0 : (List S_api_Step)) (v3 : Int) : Option (((List S_api_Step) × Int) ⊕ (Bool)) :=
 match P.cmp .lss v3 (P.len v0) with
 | false =>
  match l_4 v0 with | none => none | some o8 => some (.inr o8)
 | true =>
  match P.cmp .lss v3 50 with
  | false =>
   match l_4 v0 with | none => none | some o7 => some (.inr o7)
  | true =>
   match P.idx v0 v3 with
   | none => none
   | some ⟨a3_0, a3_1, a3_2⟩ =>
    match P.cmp .gtr (P.slen a3_0) 200 with
    | false =>
     some (.inl (v0, P.ar .add .i64 v3 1))
    | true =>
     some (.inr false)
theorem o_cascaderef06_Few_1   (stk : Stk) (m : Nat)    (l_4 : T_cascaderef06_Few_4) (v0 : (List S_api_Step)) (v3 : Int)  (h_l_4 : H_cascaderef06_Few_4 xat @xmap e_api_Step m  l_4) {out} (hp : b_cascaderef06_Few_1 PP  l_4 v0 v3 = some out) : (A_cascaderef06_Few_1 xat @xmap e_api_Step m  v0 v3 stk) = (Sum.elim (fun (v0, v3) => (A_cascaderef06_Few_1 xat @xmap e_api_Step m  v0 v3 stk)) (O_cascaderef06_Few  m  stk)) out := by
 subst hPP
 simp only [b_cascaderef06_Few_1] at hp
 unfold A_cascaderef06_Few_1
 rw [h.at_, hT]
 cbv
 try simp only [h.len]
 cases c1 : xcmp .lss v3 (plen v0) with
 | false =>
  simp only [c1] at hp ⊢
  cbv
  cases c : l_4 v0 with
  | none => simp only [c] at hp; cases hp
  | some o8 =>
   simp only [c] at hp
   cases hp
   first | exact h_l_4 c stk | (have q := h_l_4 c stk; simp only [A_cascaderef06_Few_4, h.map_cons, h.map_nil, h.mapE_nil, h.len_nil, he_e_api_Step, he_e_api_Value, he_e_api_Pair, he_e_int] at q; first | exact q | (cbv; exact q))
 | true =>
  simp only [c1] at hp ⊢
  cbv
  cases c2 : xcmp .lss v3 50 with
  | false =>
   simp only [c2] at hp ⊢
   cbv
   cases c : l_4 v0 with
   | none => simp only [c] at hp; cases hp
   | some o7 =>
    simp only [c] at hp
    cases hp
    first | exact h_l_4 c stk | (have q := h_l_4 c stk; simp only [A_cascaderef06_Few_4, h.map_cons, h.map_nil, h.mapE_nil, h.len_nil, he_e_api_Step, he_e_api_Value, he_e_api_Pair, he_e_int] at q; first | exact q | (cbv; exact q))
  | true =>
   simp only [c2] at hp ⊢
   cbv
   rw [h.at_, hT]
   cbv
   cases c4 : pidx v0 v3 with
   | none => simp only [c4] at hp; cases hp
   | some y6 =>
    obtain ⟨a3_0, a3_1, a3_2⟩ := y6
    simp only [c4] at hp
    obtain ⟨q1, q2⟩ := h.idx e_api_Step c4
    simp only [he_e_api_Step] at q2
    simp only [q1, Bool.false_eq_true, if_false]
    cbv
    try simp only [q2]
    cbv
    try simp only [h.slen]
    cases c5 : xcmp .gtr (pslen a3_0) 200 with
    | false =>
     simp only [c5] at hp ⊢
     cbv
     rw [h.at_, hT]
     cbv
     cases hp
     all_goals first | rfl | (cbv; done)
    | true =>
     simp only [c5] at hp ⊢
     cbv
     cases hp
     all_goals first | rfl | (cbv; done)
def b_cascaderef06_Few_4 (P : Prims)   (v0 : (List S_api_Step)) : Option (Bool) :=
 some (P.cmp .leq (P.len v0) 40)
theorem o_cascaderef06_Few_4   (stk : Stk) (m : Nat)     (v0 : (List S_api_Step))   {out} (hp : b_cascaderef06_Few_4 PP   v0 = some out) : (A_cascaderef06_Few_4 xat @xmap e_api_Step m  v0 stk) = (O_cascaderef06_Few  m  stk) out := by
 subst hPP
 simp only [b_cascaderef06_Few_4] at hp
 unfold A_cascaderef06_Few_4
 rw [h.at_, hT]
 cbv
 try simp only [h.len]
 cases hp
 all_goals first | rfl | (cbv; done)
def b_cmp_isNaN_string_0 (P : Prims)   (v0 : Str) : Option (Bool) :=
 match P.seq v0 v0 with
 | false =>
  some true
 | true =>
  some false
theorem o_cmp_isNaN_string_0   (stk : Stk) (m : Nat)     (v0 : Str)   {out} (hp : b_cmp_isNaN_string_0 PP   v0 = some out) : (A_cmp_isNaN_string_0 xat m  v0 stk) = (O_cmp_isNaN_string  m  stk) out := by
 subst hPP
 simp only [b_cmp_isNaN_string_0] at hp
 unfold A_cmp_isNaN_string_0
 rw [h.at_, hT]
 cbv
 cases c1 : xseq v0 v0 with
 | false =>
  simp only [c1] at hp ⊢
  cbv
  cases hp
  all_goals first | rfl | (cbv; done)
 | true =>
  simp only [c1] at hp ⊢
  cbv
  cases hp
  all_goals first | rfl | (cbv; done)
def b_cmp_Compare_string_0 (P : Prims) (c_cmp_isNaN_string : Str → Option (Bool)) (l_5 : T_cmp_Compare_string_5) (v0 : Str) (v1 : Str) : Option (Int) :=
 match c_cmp_isNaN_string v0 with
 | none => none
 | some r1_0 =>
  match c_cmp_isNaN_string v1 with
  | none => none
  | some r3_0 =>
   match r1_0 with
   | false =>
    match r3_0 with
    | false =>
     match P.slt v0 v1 with
     | false =>
      match P.seq v0 v1 with
      | false =>
       some 1
      | true =>
       l_5 
     | true =>
      some (-1)
    | true =>
     some 1
   | true =>
    match r3_0 with
    | false =>
     some (-1)
    | true =>
     some 0
theorem o_cmp_Compare_string_0 (c_cmp_isNaN_string : Str → Option (Bool)) (h_cmp_isNaN_string : (C_cmp_isNaN_string xpcall xfcall c_cmp_isNaN_string)) (stk : Stk) (m : Nat)    (l_5 : T_cmp_Compare_string_5) (v0 : Str) (v1 : Str)  (h_l_5 : H_cmp_Compare_string_5 xat m  l_5) {out} (hp : b_cmp_Compare_string_0 PP c_cmp_isNaN_string l_5 v0 v1 = some out) : (A_cmp_Compare_string_0 xat m  v0 v1 stk) = (O_cmp_Compare_string  m  stk) out := by
 subst hPP
 simp only [b_cmp_Compare_string_0] at hp
 unfold A_cmp_Compare_string_0
 rw [h.at_, hT]
 cbv
 cases c2 : c_cmp_isNaN_string v0 with
 | none => simp only [c2] at hp; cases hp
 | some r1_0 =>
  simp only [c2] at hp
  have qc := fun s => (h_cmp_isNaN_string c2 s).1
  simp only [qc]
  cbv
  cases c4 : c_cmp_isNaN_string v1 with
  | none => simp only [c4] at hp; cases hp
  | some r3_0 =>
   simp only [c4] at hp
   have qc := fun s => (h_cmp_isNaN_string c4 s).1
   simp only [qc]
   cbv
   cases r1_0 with
   | false =>
    simp only at hp
    cbv
    rw [h.at_, hT]
    cbv
    cases r3_0 with
    | false =>
     simp only at hp
     cbv
     rw [h.at_, hT]
     cbv
     cases c8 : xslt v0 v1 with
     | false =>
      simp only [c8] at hp ⊢
      cbv
      rw [h.at_, hT]
      cbv
      simp only [c8]
      cbv
      cases c9 : xseq v0 v1 with
      | false =>
       simp only [c9] at hp ⊢
       cbv
       cases hp
       all_goals first | rfl | (cbv; done)
      | true =>
       simp only [c9] at hp ⊢
       cbv
       first | exact h_l_5 hp stk | (have q := h_l_5 hp stk; simp only [A_cmp_Compare_string_5, h.map_cons, h.map_nil, h.mapE_nil, h.len_nil, he_e_api_Step, he_e_api_Value, he_e_api_Pair, he_e_int] at q; first | exact q | (cbv; exact q))
     | true =>
      simp only [c8] at hp ⊢
      cbv
      cases hp
      all_goals first | rfl | (cbv; done)
    | true =>
     simp only at hp
     cbv
     cases hp
     all_goals first | rfl | (cbv; done)
   | true =>
    simp only at hp
    cbv
    cases r3_0 with
    | false =>
     simp only at hp
     cbv
     rw [h.at_, hT]
     cbv
     cases hp
     all_goals first | rfl | (cbv; done)
    | true =>
     simp only at hp
     cbv
     cases hp
     all_goals first | rfl | (cbv; done)
def b_cmp_Compare_string_5 (P : Prims) (c_cmp_isNaN_string : Str → Option (Bool))   : Option (Int) :=
 some 0
theorem o_cmp_Compare_string_5 (c_cmp_isNaN_string : Str → Option (Bool)) (h_cmp_isNaN_string : (C_cmp_isNaN_string xpcall xfcall c_cmp_isNaN_string)) (stk : Stk) (m : Nat)        {out} (hp : b_cmp_Compare_string_5 PP c_cmp_isNaN_string   = some out) : (A_cmp_Compare_string_5 xat m   stk) = (O_cmp_Compare_string  m  stk) out := by
 subst hPP
 simp only [b_cmp_Compare_string_5] at hp
 unfold A_cmp_Compare_string_5
 rw [h.at_, hT]
 cbv
 cases hp
 all_goals first | rfl | (cbv; done)
def b_cmp_isNaN_int_0 (P : Prims)   (v0 : Int) : Option (Bool) :=
 some (P.cmp .neq v0 v0)
theorem o_cmp_isNaN_int_0   (stk : Stk) (m : Nat)     (v0 : Int)   {out} (hp : b_cmp_isNaN_int_0 PP   v0 = some out) : (A_cmp_isNaN_int_0 xat m  v0 stk) = (O_cmp_isNaN_int  m  stk) out := by
 subst hPP
 simp only [b_cmp_isNaN_int_0] at hp
 unfold A_cmp_isNaN_int_0
 rw [h.at_, hT]
 cbv
 cases hp
 all_goals first | rfl | (cbv; done)
def b_cmp_Compare_int_0 (P : Prims) (c_cmp_isNaN_int : Int → Option (Bool))  (v0 : Int) (v1 : Int) : Option (Int) :=
 match c_cmp_isNaN_int v0 with
 | none => none
 | some r1_0 =>
  match c_cmp_isNaN_int v1 with
  | none => none
  | some r3_0 =>
   match r1_0 with
   | false =>
    match r3_0 with
    | false =>
     match P.cmp .lss v0 v1 with
     | false =>
      match P.cmp .gtr v0 v1 with
      | false =>
       some 0
      | true =>
       some 1
     | true =>
      some (-1)
    | true =>
     some 1
   | true =>
    match r3_0 with
    | false =>
     some (-1)
    | true =>
     some 0
theorem o_cmp_Compare_int_0 (c_cmp_isNaN_int : Int → Option (Bool)) (h_cmp_isNaN_int : (C_cmp_isNaN_int xpcall xfcall c_cmp_isNaN_int)) (stk : Stk) (m : Nat)     (v0 : Int) (v1 : Int)   {out} (hp : b_cmp_Compare_int_0 PP c_cmp_isNaN_int  v0 v1 = some out) : (A_cmp_Compare_int_0 xat m  v0 v1 stk) = (O_cmp_Compare_int  m  stk) out := by
 subst hPP
 simp only [b_cmp_Compare_int_0] at hp
 unfold A_cmp_Compare_int_0
 rw [h.at_, hT]
 cbv
 cases c2 : c_cmp_isNaN_int v0 with
 | none => simp only [c2] at hp; cases hp
 | some r1_0 =>
  simp only [c2] at hp
  have qc := fun s => (h_cmp_isNaN_int c2 s).1
  simp only [qc]
  cbv
  cases c4 : c_cmp_isNaN_int v1 with
  | none => simp only [c4] at hp; cases hp
  | some r3_0 =>
   simp only [c4] at hp
   have qc := fun s => (h_cmp_isNaN_int c4 s).1
   simp only [qc]
   cbv
   cases r1_0 with
   | false =>
    simp only at hp
    cbv
    rw [h.at_, hT]
    cbv
    cases r3_0 with
    | false =>
     simp only at hp
     cbv
     rw [h.at_, hT]
     cbv
     cases c8 : xcmp .lss v0 v1 with
     | false =>
      simp only [c8] at hp ⊢
      cbv
      rw [h.at_, hT]
      cbv
      cases c9 : xcmp .gtr v0 v1 with
      | false =>
       simp only [c9] at hp ⊢
       cbv
       rw [h.at_, hT]
       cbv
       cases hp
       all_goals first | rfl | (cbv; done)
      | true =>
       simp only [c9] at hp ⊢
       cbv
       cases hp
       all_goals first | rfl | (cbv; done)
     | true =>
      simp only [c8] at hp ⊢
      cbv
      cases hp
      all_goals first | rfl | (cbv; done)
    | true =>
     simp only at hp
     cbv
     cases hp
     all_goals first | rfl | (cbv; done)
   | true =>
    simp only at hp
    cbv
    cases r3_0 with
    | false =>
     simp only at hp
     cbv
     rw [h.at_, hT]
     cbv
     cases hp
     all_goals first | rfl | (cbv; done)
    | true =>
     simp only at hp
     cbv
     cases hp
     all_goals first | rfl | (cbv; done)
def b_cmp_Or_int_0 (P : Prims)  (l_1 : T_cmp_Or_int_1) (v0 : (List Int)) : Option (Int) :=
 l_1 0 v0 (P.len v0) 0
theorem o_cmp_Or_int_0   (stk : Stk) (m : Nat)    (l_1 : T_cmp_Or_int_1) (v0 : (List Int))  (h_l_1 : H_cmp_Or_int_1 xat @xmap e_int m  l_1) {out} (hp : b_cmp_Or_int_0 PP  l_1 v0 = some out) : (A_cmp_Or_int_0 xat @xmap e_int m  v0 stk) = (O_cmp_Or_int  m  stk) out := by
 subst hPP
 simp only [b_cmp_Or_int_0] at hp
 unfold A_cmp_Or_int_0
 rw [h.at_, hT]
 cbv
 try simp only [h.len]
 first | exact h_l_1 hp stk | (have q := h_l_1 hp stk; simp only [A_cmp_Or_int_1, h.map_cons, h.map_nil, h.mapE_nil, h.len_nil, he_e_api_Step, he_e_api_Value, he_e_api_Pair, he_e_int] at q; first | exact q | (cbv; exact q))
def b_cmp_Or_int_1 (P : Prims)   (v3 : Int) (v6 : (List Int)) (v7 : Int) (v8 : Int) : Option ((Int × (List Int) × Int × Int) ⊕ (Int)) :=
 match P.cmp .lss v8 v7 with
 | false =>
  some (.inr v3)
 | true =>
  match P.idx v6 v8 with
  | none => none
  | some a2 =>
   match P.cmp .neq a2 v3 with
   | false =>
    some (.inl (v3, v6, v7, P.ar .add .i64 v8 1))
   | true =>
    some (.inr a2)
theorem o_cmp_Or_int_1   (stk : Stk) (m : Nat)     (v3 : Int) (v6 : (List Int)) (v7 : Int) (v8 : Int)   {out} (hp : b_cmp_Or_int_1 PP   v3 v6 v7 v8 = some out) : (A_cmp_Or_int_1 xat @xmap e_int m  v3 v6 v7 v8 stk) = (Sum.elim (fun (v3, v6, v7, v8) => (A_cmp_Or_int_1 xat @xmap e_int m  v3 v6 v7 v8 stk)) (O_cmp_Or_int  m  stk)) out := by
 subst hPP
 simp only [b_cmp_Or_int_1] at hp
 unfold A_cmp_Or_int_1
 rw [h.at_, hT]
 cbv
 cases c1 : xcmp .lss v8 v7 with
 | false =>
  simp only [c1] at hp ⊢
  cbv
  rw [h.at_, hT]
  cbv
  cases hp
  all_goals first | rfl | (cbv; done)
 | true =>
  simp only [c1] at hp ⊢
  cbv
  rw [h.at_, hT]
  cbv
  cases c3 : pidx v6 v8 with
  | none => simp only [c3] at hp; cases hp
  | some a2 =>
   simp only [c3] at hp
   obtain ⟨q1, q2⟩ := h.idx e_int c3
   simp only [he_e_int] at q2
   simp only [q1, Bool.false_eq_true, if_false]
   cbv
   try simp only [q2]
   cbv
   cases c4 : xcmp .neq a2 v3 with
   | false =>
    simp only [c4] at hp ⊢
    cbv
    rw [h.at_, hT]
    cbv
    cases hp
    all_goals first | rfl | (cbv; done)
   | true =>
    simp only [c4] at hp ⊢
    cbv
    cases hp
    all_goals first | rfl | (cbv; done)
def b_path_compare_0 (P : Prims) (c_cmp_Compare_string : Str → Str → Option (Int)) (c_cmp_Compare_int : Int → Int → Option (Int)) (c_cmp_Or_int : (List Int) → Option (Int)) (l_2 : T_path_compare_2) (v0_0 : Str) (v0_1 : Int) (v0_2 : Bool) (v1_0 : Str) (v1_1 : Int) (v1_2 : Bool) : Option (Int) :=
 match v0_2 with
 | false =>
  match v1_2 with
  | false =>
   l_2 v0_0 v0_1 false v1_0 v1_1 false
  | true =>
   some (-1)
 | true =>
  match v1_2 with
  | false =>
   some 1
  | true =>
   l_2 v0_0 v0_1 true v1_0 v1_1 true
theorem o_path_compare_0 (c_cmp_Compare_string : Str → Str → Option (Int)) (c_cmp_Compare_int : Int → Int → Option (Int)) (c_cmp_Or_int : (List Int) → Option (Int)) (h_cmp_Compare_string : (C_cmp_Compare_string xpcall xfcall c_cmp_Compare_string)) (h_cmp_Compare_int : (C_cmp_Compare_int xpcall xfcall c_cmp_Compare_int)) (h_cmp_Or_int : (C_cmp_Or_int xpcall xfcall @xmap e_int c_cmp_Or_int)) (stk : Stk) (m : Nat)    (l_2 : T_path_compare_2) (v0_0 : Str) (v0_1 : Int) (v0_2 : Bool) (v1_0 : Str) (v1_1 : Int) (v1_2 : Bool)  (h_l_2 : H_path_compare_2 xat m  l_2) {out} (hp : b_path_compare_0 PP c_cmp_Compare_string c_cmp_Compare_int c_cmp_Or_int l_2 v0_0 v0_1 v0_2 v1_0 v1_1 v1_2 = some out) : (A_path_compare_0 xat m  v0_0 v0_1 v0_2 v1_0 v1_1 v1_2 stk) = (O_path_compare  m  stk) out := by
 subst hPP
 simp only [b_path_compare_0] at hp
 unfold A_path_compare_0
 rw [h.at_, hT]
 cbv
 cases v0_2 with
 | false =>
  simp only at hp
  cbv
  cases v1_2 with
  | false =>
   simp only at hp
   cbv
   first | exact h_l_2 hp stk | (have q := h_l_2 hp stk; simp only [A_path_compare_2, h.map_cons, h.map_nil, h.mapE_nil, h.len_nil, he_e_api_Step, he_e_api_Value, he_e_api_Pair, he_e_int] at q; first | exact q | (cbv; exact q))
  | true =>
   simp only at hp
   cbv
   cases hp
   all_goals first | rfl | (cbv; done)
 | true =>
  simp only at hp
  cbv
  cases v1_2 with
  | false =>
   simp only at hp
   cbv
   rw [h.at_, hT]
   cbv
   cases hp
   all_goals first | rfl | (cbv; done)
  | true =>
   simp only at hp
   cbv
   first | exact h_l_2 hp stk | (have q := h_l_2 hp stk; simp only [A_path_compare_2, h.map_cons, h.map_nil, h.mapE_nil, h.len_nil, he_e_api_Step, he_e_api_Value, he_e_api_Pair, he_e_int] at q; first | exact q | (cbv; exact q))
def b_path_compare_2 (P : Prims) (c_cmp_Compare_string : Str → Str → Option (Int)) (c_cmp_Compare_int : Int → Int → Option (Int)) (c_cmp_Or_int : (List Int) → Option (Int))  (v2_0 : Str) (v2_1 : Int) (v2_2 : Bool) (v3_0 : Str) (v3_1 : Int) (v3_2 : Bool) : Option (Int) :=
 match c_cmp_Compare_string v2_0 v3_0 with
 | none => none
 | some r4_0 =>
  match c_cmp_Compare_int v2_1 v3_1 with
  | none => none
  | some r6_0 =>
   match c_cmp_Or_int [r4_0, r6_0] with
   | none => none
   | some r8_0 =>
    some r8_0
theorem o_path_compare_2 (c_cmp_Compare_string : Str → Str → Option (Int)) (c_cmp_Compare_int : Int → Int → Option (Int)) (c_cmp_Or_int : (List Int) → Option (Int)) (h_cmp_Compare_string : (C_cmp_Compare_string xpcall xfcall c_cmp_Compare_string)) (h_cmp_Compare_int : (C_cmp_Compare_int xpcall xfcall c_cmp_Compare_int)) (h_cmp_Or_int : (C_cmp_Or_int xpcall xfcall @xmap e_int c_cmp_Or_int)) (stk : Stk) (m : Nat)     (v2_0 : Str) (v2_1 : Int) (v2_2 : Bool) (v3_0 : Str) (v3_1 : Int) (v3_2 : Bool)   {out} (hp : b_path_compare_2 PP c_cmp_Compare_string c_cmp_Compare_int c_cmp_Or_int  v2_0 v2_1 v2_2 v3_0 v3_1 v3_2 = some out) : (A_path_compare_2 xat m  v2_0 v2_1 v2_2 v3_0 v3_1 v3_2 stk) = (O_path_compare  m  stk) out := by
 subst hPP
 simp only [b_path_compare_2] at hp
 unfold A_path_compare_2
 rw [h.at_, hT]
 cbv
 cases c5 : c_cmp_Compare_string v2_0 v3_0 with
 | none => simp only [c5] at hp; cases hp
 | some r4_0 =>
  simp only [c5] at hp
  have qc := fun s => (h_cmp_Compare_string c5 s).1
  simp only [qc]
  cbv
  cases c7 : c_cmp_Compare_int v2_1 v3_1 with
  | none => simp only [c7] at hp; cases hp
  | some r6_0 =>
   simp only [c7] at hp
   have qc := fun s => (h_cmp_Compare_int c7 s).1
   simp only [qc]
   cbv
   simp only [h.allsz_nil, h.allsz_cons]
   cbv
   cases c9 : c_cmp_Or_int [r4_0, r6_0] with
   | none => simp only [c9] at hp; cases hp
   | some r8_0 =>
    simp only [c9] at hp
    have qc := fun s => (h_cmp_Or_int c9 s).1
    try simp only [h.map_cons, h.map_nil, he_e_int] at qc
    simp only [qc]
    cbv
    cases hp
    all_goals first | rfl | (cbv; done)
def b_slices_CompareFunc__api_Step__api_Step_api_Step_api_Step__0_0 (P : Prims) (c_path_compare : S_api_Step → S_api_Step → Option (Int)) (l_1 : T_slices_CompareFunc__api_Step__api_Step_api_Step_api_Step__0_1) (v0 : (List S_api_Step)) (v1 : (List S_api_Step)) : Option (Int) :=
 l_1 v0 v1 v0 (P.len v0) 0
theorem o_slices_CompareFunc__api_Step__api_Step_api_Step_api_Step__0_0 (c_path_compare : S_api_Step → S_api_Step → Option (Int)) (h_path_compare : (C_path_compare xpcall xfcall c_path_compare)) (stk : Stk) (m : Nat)    (l_1 : T_slices_CompareFunc__api_Step__api_Step_api_Step_api_Step__0_1) (v0 : (List S_api_Step)) (v1 : (List S_api_Step))  (h_l_1 : H_slices_CompareFunc__api_Step__api_Step_api_Step_api_Step__0_1 xat @xmap e_api_Step m  l_1) {out} (hp : b_slices_CompareFunc__api_Step__api_Step_api_Step_api_Step__0_0 PP c_path_compare l_1 v0 v1 = some out) : (A_slices_CompareFunc__api_Step__api_Step_api_Step_api_Step__0_0 xat @xmap e_api_Step m  v0 v1 stk) = (O_slices_CompareFunc__api_Step__api_Step_api_Step_api_Step__0  m  stk) out := by
 subst hPP
 simp only [b_slices_CompareFunc__api_Step__api_Step_api_Step_api_Step__0_0] at hp
 unfold A_slices_CompareFunc__api_Step__api_Step_api_Step_api_Step__0_0
 rw [h.at_, hT]
 cbv
 try simp only [h.len]
 first | exact h_l_1 hp stk | (have q := h_l_1 hp stk; simp only [A_slices_CompareFunc__api_Step__api_Step_api_Step_api_Step__0_1, h.map_cons, h.map_nil, h.mapE_nil, h.len_nil, he_e_api_Step, he_e_api_Value, he_e_api_Pair, he_e_int] at q; first | exact q | (cbv; exact q))
def b_slices_CompareFunc__api_Step__api_Step_api_Step_api_Step__0_1 (P : Prims) (c_path_compare : S_api_Step → S_api_Step → Option (Int))  (v0 : (List S_api_Step)) (v1 : (List S_api_Step)) (v11 : (List S_api_Step)) (v12 : Int) (v13 : Int) : Option (((List S_api_Step) × (List S_api_Step) × (List S_api_Step) × Int × Int) ⊕ (Int)) :=
 match P.cmp .lss v13 v12 with
 | false =>
  match P.cmp .lss (P.len v0) (P.len v1) with
  | false =>
   some (.inr 0)
  | true =>
   some (.inr (-1))
 | true =>
  match P.idx v11 v13 with
  | none => none
  | some ⟨a2_0, a2_1, a2_2⟩ =>
   match P.cmp .geq v13 (P.len v1) with
   | false =>
    match P.idx v1 v13 with
    | none => none
    | some ⟨a5_0, a5_1, a5_2⟩ =>
     match c_path_compare ⟨a2_0, a2_1, a2_2⟩ ⟨a5_0, a5_1, a5_2⟩ with
     | none => none
     | some r7_0 =>
      match P.cmp .neq r7_0 0 with
      | false =>
       some (.inl (v0, v1, v11, v12, P.ar .add .i64 v13 1))
      | true =>
       some (.inr r7_0)
   | true =>
    some (.inr 1)
theorem o_slices_CompareFunc__api_Step__api_Step_api_Step_api_Step__0_1 (c_path_compare : S_api_Step → S_api_Step → Option (Int)) (h_path_compare : (C_path_compare xpcall xfcall c_path_compare)) (stk : Stk) (m : Nat)     (v0 : (List S_api_Step)) (v1 : (List S_api_Step)) (v11 : (List S_api_Step)) (v12 : Int) (v13 : Int)   {out} (hp : b_slices_CompareFunc__api_Step__api_Step_api_Step_api_Step__0_1 PP c_path_compare  v0 v1 v11 v12 v13 = some out) : (A_slices_CompareFunc__api_Step__api_Step_api_Step_api_Step__0_1 xat @xmap e_api_Step m  v0 v1 v11 v12 v13 stk) = (Sum.elim (fun (v0, v1, v11, v12, v13) => (A_slices_CompareFunc__api_Step__api_Step_api_Step_api_Step__0_1 xat @xmap e_api_Step m  v0 v1 v11 v12 v13 stk)) (O_slices_CompareFunc__api_Step__api_Step_api_Step_api_Step__0  m  stk)) out := by
 subst hPP
 simp only [b_slices_CompareFunc__api_Step__api_Step_api_Step_api_Step__0_1] at hp
 unfold A_slices_CompareFunc__api_Step__api_Step_api_Step_api_Step__0_1
 rw [h.at_, hT]
 cbv
 cases c1 : xcmp .lss v13 v12 with
 | false =>
  simp only [c1] at hp ⊢
  cbv
  rw [h.at_, hT]
  cbv
  try simp only [h.len]
  try simp only [h.len]
  cases c12 : xcmp .lss (plen v0) (plen v1) with
  | false =>
   simp only [c12] at hp ⊢
   cbv
   rw [h.at_, hT]
   cbv
   cases hp
   all_goals first | rfl | (cbv; done)
  | true =>
   simp only [c12] at hp ⊢
   cbv
   cases hp
   all_goals first | rfl | (cbv; done)
 | true =>
  simp only [c1] at hp ⊢
  cbv
  rw [h.at_, hT]
  cbv
  cases c3 : pidx v11 v13 with
  | none => simp only [c3] at hp; cases hp
  | some y11 =>
   obtain ⟨a2_0, a2_1, a2_2⟩ := y11
   simp only [c3] at hp
   obtain ⟨q1, q2⟩ := h.idx e_api_Step c3
   simp only [he_e_api_Step] at q2
   simp only [q1, Bool.false_eq_true, if_false]
   cbv
   try simp only [q2]
   cbv
   try simp only [h.len]
   cases c4 : xcmp .geq v13 (plen v1) with
   | false =>
    simp only [c4] at hp ⊢
    cbv
    rw [h.at_, hT]
    cbv
    cases c6 : pidx v1 v13 with
    | none => simp only [c6] at hp; cases hp
    | some y10 =>
     obtain ⟨a5_0, a5_1, a5_2⟩ := y10
     simp only [c6] at hp
     obtain ⟨q1, q2⟩ := h.idx e_api_Step c6
     simp only [he_e_api_Step] at q2
     simp only [q1, Bool.false_eq_true, if_false]
     cbv
     try simp only [q2]
     cbv
     cases c8 : c_path_compare ⟨a2_0, a2_1, a2_2⟩ ⟨a5_0, a5_1, a5_2⟩ with
     | none => simp only [c8] at hp; cases hp
     | some r7_0 =>
      simp only [c8] at hp
      have qc := fun s => (h_path_compare c8 s).1
      simp only [qc]
      cbv
      cases c9 : xcmp .neq r7_0 0 with
      | false =>
       simp only [c9] at hp ⊢
       cbv
       rw [h.at_, hT]
       cbv
       cases hp
       all_goals first | rfl | (cbv; done)
      | true =>
       simp only [c9] at hp ⊢
       cbv
       cases hp
       all_goals first | rfl | (cbv; done)
   | true =>
    simp only [c4] at hp ⊢
    cbv
    cases hp
    all_goals first | rfl | (cbv; done)
def b_path_Less_0 (P : Prims) (c_slices_CompareFunc__api_Step__api_Step_api_Step_api_Step__0 : (List S_api_Step) → (List S_api_Step) → Option (Int))  (v0 : (List S_api_Step)) (v1 : (List S_api_Step)) : Option (Bool) :=
 match c_slices_CompareFunc__api_Step__api_Step_api_Step_api_Step__0 v0 v1 with
 | none => none
 | some r1_0 =>
  some (P.cmp .lss r1_0 0)
theorem o_path_Less_0 (c_slices_CompareFunc__api_Step__api_Step_api_Step_api_Step__0 : (List S_api_Step) → (List S_api_Step) → Option (Int)) (h_slices_CompareFunc__api_Step__api_Step_api_Step_api_Step__0 : (C_slices_CompareFunc__api_Step__api_Step_api_Step_api_Step__0 xpcall xfcall @xmap e_api_Step c_slices_CompareFunc__api_Step__api_Step_api_Step_api_Step__0)) (stk : Stk) (m : Nat)     (v0 : (List S_api_Step)) (v1 : (List S_api_Step))   {out} (hp : b_path_Less_0 PP c_slices_CompareFunc__api_Step__api_Step_api_Step_api_Step__0  v0 v1 = some out) : (A_path_Less_0 xat @xmap e_api_Step m  v0 v1 stk) = (O_path_Less  m  stk) out := by
 subst hPP
 simp only [b_path_Less_0] at hp
 unfold A_path_Less_0
 rw [h.at_, hT]
 cbv
 cases c2 : c_slices_CompareFunc__api_Step__api_Step_api_Step_api_Step__0 v0 v1 with
 | none => simp only [c2] at hp; cases hp
 | some r1_0 =>
  simp only [c2] at hp
  have qc := fun s => (h_slices_CompareFunc__api_Step__api_Step_api_Step_api_Step__0 c2 s).1
  simp only [qc]
  cbv
  cases hp
  all_goals first | rfl | (cbv; done)
def b_path_Key_0 (P : Prims)   (v0 : Str) : Option (S_api_Step) :=
 some ⟨v0, 0, false⟩
theorem o_path_Key_0   (stk : Stk) (m : Nat)     (v0 : Str)   {out} (hp : b_path_Key_0 PP   v0 = some out) : (A_path_Key_0 xat m  v0 stk) = (O_path_Key  m  stk) out := by
 subst hPP
 simp only [b_path_Key_0] at hp
 unfold A_path_Key_0
 rw [h.at_, hT]
 cbv
 cases hp
 all_goals first | rfl | (cbv; done)
def b_path_one_0 (P : Prims)   (v0_0 : Str) (v0_1 : Int) (v0_2 : Bool) (v1_0 : Str) (v1_1 : Int) (v1_2 : Bool) : Option (Bool) :=
 match P.seq v0_0 v1_0 with
 | false =>
  some false
 | true =>
  match P.cmp .eql v0_1 v1_1 with
  | false =>
   some false
  | true =>
   match v0_2 with
   | false =>
    match v1_2 with
    | false =>
     some true
    | true =>
     some false
   | true =>
    match v1_2 with
    | false =>
     some false
    | true =>
     some true
theorem o_path_one_0   (stk : Stk) (m : Nat)     (v0_0 : Str) (v0_1 : Int) (v0_2 : Bool) (v1_0 : Str) (v1_1 : Int) (v1_2 : Bool)   {out} (hp : b_path_one_0 PP   v0_0 v0_1 v0_2 v1_0 v1_1 v1_2 = some out) : (A_path_one_0 xat m  v0_0 v0_1 v0_2 v1_0 v1_1 v1_2 stk) = (O_path_one  m  stk) out := by
 subst hPP
 simp only [b_path_one_0] at hp
 unfold A_path_one_0
 rw [h.at_, hT]
 cbv
 cases c1 : xseq v0_0 v1_0 with
 | false =>
  simp only [c1] at hp ⊢
  cbv
  cases hp
  all_goals first | rfl | (cbv; done)
 | true =>
  simp only [c1] at hp ⊢
  cbv
  cases c2 : xcmp .eql v0_1 v1_1 with
  | false =>
   simp only [c2] at hp ⊢
   cbv
   cases hp
   all_goals first | rfl | (cbv; done)
  | true =>
   simp only [c2] at hp ⊢
   cbv
   cases v0_2 with
   | false =>
    simp only at hp
    cbv
    cases v1_2 with
    | false =>
     simp only at hp
     cbv
     cases hp
     all_goals first | rfl | (cbv; done)
    | true =>
     simp only at hp
     cbv
     cases hp
     all_goals first | rfl | (cbv; done)
   | true =>
    simp only at hp
    cbv
    cases v1_2 with
    | false =>
     simp only at hp
     cbv
     cases hp
     all_goals first | rfl | (cbv; done)
    | true =>
     simp only at hp
     cbv
     cases hp
     all_goals first | rfl | (cbv; done)
def b_slices_EqualFunc__api_Step__api_Step_api_Step_api_Step__0_0 (P : Prims) (c_path_one : S_api_Step → S_api_Step → Option (Bool)) (l_2 : T_slices_EqualFunc__api_Step__api_Step_api_Step_api_Step__0_2) (v0 : (List S_api_Step)) (v1 : (List S_api_Step)) : Option (Bool) :=
 match P.cmp .neq (P.len v0) (P.len v1) with
 | false =>
  l_2 v1 v0 (P.len v0) 0
 | true =>
  some false
theorem o_slices_EqualFunc__api_Step__api_Step_api_Step_api_Step__0_0 (c_path_one : S_api_Step → S_api_Step → Option (Bool)) (h_path_one : (C_path_one xpcall xfcall c_path_one)) (stk : Stk) (m : Nat)    (l_2 : T_slices_EqualFunc__api_Step__api_Step_api_Step_api_Step__0_2) (v0 : (List S_api_Step)) (v1 : (List S_api_Step))  (h_l_2 : H_slices_EqualFunc__api_Step__api_Step_api_Step_api_Step__0_2 xat @xmap e_api_Step m  l_2) {out} (hp : b_slices_EqualFunc__api_Step__api_Step_api_Step_api_Step__0_0 PP c_path_one l_2 v0 v1 = some out) : (A_slices_EqualFunc__api_Step__api_Step_api_Step_api_Step__0_0 xat @xmap e_api_Step m  v0 v1 stk) = (O_slices_EqualFunc__api_Step__api_Step_api_Step_api_Step__0  m  stk) out := by
 subst hPP
 simp only [b_slices_EqualFunc__api_Step__api_Step_api_Step_api_Step__0_0] at hp
 unfold A_slices_EqualFunc__api_Step__api_Step_api_Step_api_Step__0_0
 rw [h.at_, hT]
 cbv
 try simp only [h.len]
 try simp only [h.len]
 cases c1 : xcmp .neq (plen v0) (plen v1) with
 | false =>
  simp only [c1] at hp ⊢
  cbv
  rw [h.at_, hT]
  cbv
  try simp only [h.len]
  first | exact h_l_2 hp stk | (have q := h_l_2 hp stk; simp only [A_slices_EqualFunc__api_Step__api_Step_api_Step_api_Step__0_2, h.map_cons, h.map_nil, h.mapE_nil, h.len_nil, he_e_api_Step, he_e_api_Value, he_e_api_Pair, he_e_int] at q; first | exact q | (cbv; exact q))
 | true =>
  simp only [c1] at hp ⊢
  cbv
  cases hp
  all_goals first | rfl | (cbv; done)
def b_slices_EqualFunc__api_Step__api_Step_api_Step_api_Step__0_2 (P : Prims) (c_path_one : S_api_Step → S_api_Step → Option (Bool))  (v1 : (List S_api_Step)) (v15 : (List S_api_Step)) (v16 : Int) (v17 : Int) : Option (((List S_api_Step) × (List S_api_Step) × Int × Int) ⊕ (Bool)) :=
 match P.cmp .lss v17 v16 with
 | false =>
  some (.inr true)
 | true =>
  match P.idx v15 v17 with
  | none => none
  | some ⟨a3_0, a3_1, a3_2⟩ =>
   match P.idx v1 v17 with
   | none => none
   | some ⟨a5_0, a5_1, a5_2⟩ =>
    match c_path_one ⟨a3_0, a3_1, a3_2⟩ ⟨a5_0, a5_1, a5_2⟩ with
    | none => none
    | some r7_0 =>
     match r7_0 with
     | false =>
      some (.inr false)
     | true =>
      some (.inl (v1, v15, v16, P.ar .add .i64 v17 1))
theorem o_slices_EqualFunc__api_Step__api_Step_api_Step_api_Step__0_2 (c_path_one : S_api_Step → S_api_Step → Option (Bool)) (h_path_one : (C_path_one xpcall xfcall c_path_one)) (stk : Stk) (m : Nat)     (v1 : (List S_api_Step)) (v15 : (List S_api_Step)) (v16 : Int) (v17 : Int)   {out} (hp : b_slices_EqualFunc__api_Step__api_Step_api_Step_api_Step__0_2 PP c_path_one  v1 v15 v16 v17 = some out) : (A_slices_EqualFunc__api_Step__api_Step_api_Step_api_Step__0_2 xat @xmap e_api_Step m  v1 v15 v16 v17 stk) = (Sum.elim (fun (v1, v15, v16, v17) => (A_slices_EqualFunc__api_Step__api_Step_api_Step_api_Step__0_2 xat @xmap e_api_Step m  v1 v15 v16 v17 stk)) (O_slices_EqualFunc__api_Step__api_Step_api_Step_api_Step__0  m  stk)) out := by
 subst hPP
 simp only [b_slices_EqualFunc__api_Step__api_Step_api_Step_api_Step__0_2] at hp
 unfold A_slices_EqualFunc__api_Step__api_Step_api_Step_api_Step__0_2
 rw [h.at_, hT]
 cbv
 cases c2 : xcmp .lss v17 v16 with
 | false =>
  simp only [c2] at hp ⊢
  cbv
  rw [h.at_, hT]
  cbv
  cases hp
  all_goals first | rfl | (cbv; done)
 | true =>
  simp only [c2] at hp ⊢
  cbv
  rw [h.at_, hT]
  cbv
  cases c4 : pidx v15 v17 with
  | none => simp only [c4] at hp; cases hp
  | some y11 =>
   obtain ⟨a3_0, a3_1, a3_2⟩ := y11
   simp only [c4] at hp
   obtain ⟨q1, q2⟩ := h.idx e_api_Step c4
   simp only [he_e_api_Step] at q2
   simp only [q1, Bool.false_eq_true, if_false]
   cbv
   try simp only [q2]
   cbv
   cases c6 : pidx v1 v17 with
   | none => simp only [c6] at hp; cases hp
   | some y10 =>
    obtain ⟨a5_0, a5_1, a5_2⟩ := y10
    simp only [c6] at hp
    obtain ⟨q1, q2⟩ := h.idx e_api_Step c6
    simp only [he_e_api_Step] at q2
    simp only [q1, Bool.false_eq_true, if_false]
    cbv
    try simp only [q2]
    cbv
    cases c8 : c_path_one ⟨a3_0, a3_1, a3_2⟩ ⟨a5_0, a5_1, a5_2⟩ with
    | none => simp only [c8] at hp; cases hp
    | some r7_0 =>
     simp only [c8] at hp
     have qc := fun s => (h_path_one c8 s).1
     simp only [qc]
     cbv
     cases r7_0 with
     | false =>
      simp only at hp
      cbv
      cases hp
      all_goals first | rfl | (cbv; done)
     | true =>
      simp only at hp
      cbv
      rw [h.at_, hT]
      cbv
      cases hp
      all_goals first | rfl | (cbv; done)
def b_path_Under_0 (P : Prims) (c_slices_EqualFunc__api_Step__api_Step_api_Step_api_Step__0 : (List S_api_Step) → (List S_api_Step) → Option (Bool))  (v0 : (List S_api_Step)) (v1 : (List S_api_Step)) : Option (Bool) :=
 match P.cmp .leq (P.len v0) (P.len v1) with
 | false =>
  some false
 | true =>
  match P.sub v1 none (some (P.len v0)) with
  | none => none
  | some s2 =>
   match c_slices_EqualFunc__api_Step__api_Step_api_Step_api_Step__0 v0 s2 with
   | none => none
   | some r4_0 =>
    some r4_0
theorem o_path_Under_0 (c_slices_EqualFunc__api_Step__api_Step_api_Step_api_Step__0 : (List S_api_Step) → (List S_api_Step) → Option (Bool)) (h_slices_EqualFunc__api_Step__api_Step_api_Step_api_Step__0 : (C_slices_EqualFunc__api_Step__api_Step_api_Step_api_Step__0 xpcall xfcall @xmap e_api_Step c_slices_EqualFunc__api_Step__api_Step_api_Step_api_Step__0)) (stk : Stk) (m : Nat)     (v0 : (List S_api_Step)) (v1 : (List S_api_Step))   {out} (hp : b_path_Under_0 PP c_slices_EqualFunc__api_Step__api_Step_api_Step_api_Step__0  v0 v1 = some out) : (A_path_Under_0 xat @xmap e_api_Step m  v0 v1 stk) = (O_path_Under  m  stk) out := by
 subst hPP
 simp only [b_path_Under_0] at hp
 unfold A_path_Under_0
 rw [h.at_, hT]
 cbv
 try simp only [h.len]
 try simp only [h.len]
 cases c1 : xcmp .leq (plen v0) (plen v1) with
 | false =>
  simp only [c1] at hp ⊢
  cbv
  cases hp
  all_goals first | rfl | (cbv; done)
 | true =>
  simp only [c1] at hp ⊢
  cbv
  try simp only [h.len]
  cases c3 : psub v1 none (some (plen v0)) with
  | none => simp only [c3] at hp; cases hp
  | some s2 =>
   simp only [c3] at hp
   obtain ⟨q0, q1, q2, q3⟩ := h.sub0 e_api_Step c3
   simp only [q0, q1, q2, q3, Bool.false_eq_true, if_false, if_true, hz_e_api_Step]
   cbv
   try simp only [q0, q1, q2, q3, if_true, hz_e_api_Step]
   cbv
   cases c5 : c_slices_EqualFunc__api_Step__api_Step_api_Step_api_Step__0 v0 s2 with
   | none => simp only [c5] at hp; cases hp
   | some r4_0 =>
    simp only [c5] at hp
    have qc := fun s => (h_slices_EqualFunc__api_Step__api_Step_api_Step_api_Step__0 c5 s).1
    simp only [qc]
    cbv
    cases hp
    all_goals first | rfl | (cbv; done)
def b_path_Same_0 (P : Prims) (c_slices_EqualFunc__api_Step__api_Step_api_Step_api_Step__0 : (List S_api_Step) → (List S_api_Step) → Option (Bool))  (v0 : (List S_api_Step)) (v1 : (List S_api_Step)) : Option (Bool) :=
 match c_slices_EqualFunc__api_Step__api_Step_api_Step_api_Step__0 v0 v1 with
 | none => none
 | some r1_0 =>
  some r1_0
theorem o_path_Same_0 (c_slices_EqualFunc__api_Step__api_Step_api_Step_api_Step__0 : (List S_api_Step) → (List S_api_Step) → Option (Bool)) (h_slices_EqualFunc__api_Step__api_Step_api_Step_api_Step__0 : (C_slices_EqualFunc__api_Step__api_Step_api_Step_api_Step__0 xpcall xfcall @xmap e_api_Step c_slices_EqualFunc__api_Step__api_Step_api_Step_api_Step__0)) (stk : Stk) (m : Nat)     (v0 : (List S_api_Step)) (v1 : (List S_api_Step))   {out} (hp : b_path_Same_0 PP c_slices_EqualFunc__api_Step__api_Step_api_Step_api_Step__0  v0 v1 = some out) : (A_path_Same_0 xat @xmap e_api_Step m  v0 v1 stk) = (O_path_Same  m  stk) out := by
 subst hPP
 simp only [b_path_Same_0] at hp
 unfold A_path_Same_0
 rw [h.at_, hT]
 cbv
 cases c2 : c_slices_EqualFunc__api_Step__api_Step_api_Step_api_Step__0 v0 v1 with
 | none => simp only [c2] at hp; cases hp
 | some r1_0 =>
  simp only [c2] at hp
  have qc := fun s => (h_slices_EqualFunc__api_Step__api_Step_api_Step_api_Step__0 c2 s).1
  simp only [qc]
  cbv
  cases hp
  all_goals first | rfl | (cbv; done)
def b_cascadelaw06_PathThird_0 (P : Prims) (c_cascadelaw06_awake : Option (Bool)) (c_cascaderef06_Few : (List S_api_Step) → Option (Bool)) (c_path_Less : (List S_api_Step) → (List S_api_Step) → Option (Bool)) (c_path_Key : Str → Option (S_api_Step)) (c_path_Place : Int → Option (S_api_Step)) (c_path_Under : (List S_api_Step) → (List S_api_Step) → Option (Bool)) (c_path_Same : (List S_api_Step) → (List S_api_Step) → Option (Bool)) (l_2 : T_cascadelaw06_PathThird_2) (v0 : (List S_api_Step)) (v1 : (List S_api_Step)) (v2 : (List S_api_Step)) : Option (Bool) :=
 match c_cascadelaw06_awake with
 | none => none
 | some r1_0 =>
  match r1_0 with
  | false =>
   some r1_0
  | true =>
   match c_cascaderef06_Few v0 with
   | none => none
   | some r4_0 =>
    match r4_0 with
    | false =>
     some r1_0
    | true =>
     match c_cascaderef06_Few v1 with
     | none => none
     | some r7_0 =>
      match r7_0 with
      | false =>
       some r1_0
      | true =>
       match c_cascaderef06_Few v2 with
       | none => none
       | some r10_0 =>
        match r10_0 with
        | false =>
         some r1_0
        | true =>
         match c_path_Less v0 v1 with
         | none => none
         | some r13_0 =>
          match r13_0 with
          | false =>
           l_2 v0 v1
          | true =>
           match c_path_Less v1 v2 with
           | none => none
           | some r16_0 =>
            match r16_0 with
            | false =>
             l_2 v0 v1
            | true =>
             match c_path_Less v0 v2 with
             | none => none
             | some r19_0 =>
              match r19_0 with
              | false =>
               some false
              | true =>
               l_2 v0 v1
theorem o_cascadelaw06_PathThird_0 (c_cascadelaw06_awake : Option (Bool)) (c_cascaderef06_Few : (List S_api_Step) → Option (Bool)) (c_path_Less : (List S_api_Step) → (List S_api_Step) → Option (Bool)) (c_path_Key : Str → Option (S_api_Step)) (c_path_Place : Int → Option (S_api_Step)) (c_path_Under : (List S_api_Step) → (List S_api_Step) → Option (Bool)) (c_path_Same : (List S_api_Step) → (List S_api_Step) → Option (Bool)) (h_cascadelaw06_awake : (C_cascadelaw06_awake xpcall xfcall c_cascadelaw06_awake)) (h_cascaderef06_Few : (C_cascaderef06_Few xpcall xfcall @xmap e_api_Step c_cascaderef06_Few)) (h_path_Less : (C_path_Less xpcall xfcall @xmap e_api_Step c_path_Less)) (h_path_Key : (C_path_Key xpcall xfcall c_path_Key)) (h_path_Place : (C_path_Place xpcall xfcall c_path_Place)) (h_path_Under : (C_path_Under xpcall xfcall @xmap e_api_Step c_path_Under)) (h_path_Same : (C_path_Same xpcall xfcall @xmap e_api_Step c_path_Same)) (stk : Stk) (m : Nat)    (l_2 : T_cascadelaw06_PathThird_2) (v0 : (List S_api_Step)) (v1 : (List S_api_Step)) (v2 : (List S_api_Step))  (h_l_2 : H_cascadelaw06_PathThird_2 xat @xmap e_api_Step m  l_2) {out} (hp : b_cascadelaw06_PathThird_0 PP c_cascadelaw06_awake c_cascaderef06_Few c_path_Less c_path_Key c_path_Place c_path_Under c_path_Same l_2 v0 v1 v2 = some out) : (A_cascadelaw06_PathThird_0 xat @xmap e_api_Step m  v0 v1 v2 stk) = (O_cascadelaw06_PathThird  m  stk) out := by
 subst hPP
 simp only [b_cascadelaw06_PathThird_0] at hp
 unfold A_cascadelaw06_PathThird_0
 rw [h.at_, hT]
 cbv
 cases c2 : c_cascadelaw06_awake with
 | none => simp only [c2] at hp; cases hp
 | some r1_0 =>
  simp only [c2] at hp
  have qc := fun s => (h_cascadelaw06_awake c2 s).1
  simp only [qc]
  cbv
  cases r1_0 with
  | false =>
   simp only at hp
   cbv
   have qc := fun s => (h_cascadelaw06_awake c2 s).1
   simp only [qc]
   cbv
   cases hp
   all_goals first | rfl | (cbv; done)
  | true =>
   simp only at hp
   cbv
   cases c5 : c_cascaderef06_Few v0 with
   | none => simp only [c5] at hp; cases hp
   | some r4_0 =>
    simp only [c5] at hp
    have qc := fun s => (h_cascaderef06_Few c5 s).1
    simp only [qc]
    cbv
    cases r4_0 with
    | false =>
     simp only at hp
     cbv
     have qc := fun s => (h_cascadelaw06_awake c2 s).1
     simp only [qc]
     cbv
     cases hp
     all_goals first | rfl | (cbv; done)
    | true =>
     simp only at hp
     cbv
     cases c8 : c_cascaderef06_Few v1 with
     | none => simp only [c8] at hp; cases hp
     | some r7_0 =>
      simp only [c8] at hp
      have qc := fun s => (h_cascaderef06_Few c8 s).1
      simp only [qc]
      cbv
      cases r7_0 with
      | false =>
       simp only at hp
       cbv
       have qc := fun s => (h_cascadelaw06_awake c2 s).1
       simp only [qc]
       cbv
       cases hp
       all_goals first | rfl | (cbv; done)
      | true =>
       simp only at hp
       cbv
       cases c11 : c_cascaderef06_Few v2 with
       | none => simp only [c11] at hp; cases hp
       | some r10_0 =>
        simp only [c11] at hp
        have qc := fun s => (h_cascaderef06_Few c11 s).1
        simp only [qc]
        cbv
        cases r10_0 with
        | false =>
         simp only at hp
         cbv
         have qc := fun s => (h_cascadelaw06_awake c2 s).1
         simp only [qc]
         cbv
         cases hp
         all_goals first | rfl | (cbv; done)
        | true =>
         simp only at hp
         cbv
         rw [h.at_, hT]
         cbv
         cases c14 : c_path_Less v0 v1 with
         | none => simp only [c14] at hp; cases hp
         | some r13_0 =>
          simp only [c14] at hp
          have qc := fun s => (h_path_Less c14 s).1
          simp only [qc]
          cbv
          cases r13_0 with
          | false =>
           simp only at hp
           cbv
           first | exact h_l_2 hp stk | (have q := h_l_2 hp stk; simp only [A_cascadelaw06_PathThird_2, h.map_cons, h.map_nil, h.mapE_nil, h.len_nil, he_e_api_Step, he_e_api_Value, he_e_api_Pair, he_e_int] at q; first | exact q | (cbv; exact q))
          | true =>
           simp only at hp
           cbv
           cases c17 : c_path_Less v1 v2 with
           | none => simp only [c17] at hp; cases hp
           | some r16_0 =>
            simp only [c17] at hp
            have qc := fun s => (h_path_Less c17 s).1
            simp only [qc]
            cbv
            cases r16_0 with
            | false =>
             simp only at hp
             cbv
             first | exact h_l_2 hp stk | (have q := h_l_2 hp stk; simp only [A_cascadelaw06_PathThird_2, h.map_cons, h.map_nil, h.mapE_nil, h.len_nil, he_e_api_Step, he_e_api_Value, he_e_api_Pair, he_e_int] at q; first | exact q | (cbv; exact q))
            | true =>
             simp only at hp
             cbv
             cases c20 : c_path_Less v0 v2 with
             | none => simp only [c20] at hp; cases hp
             | some r19_0 =>
              simp only [c20] at hp
              have qc := fun s => (h_path_Less c20 s).1
              simp only [qc]
              cbv
              cases r19_0 with
              | false =>
               simp only at hp
               cbv
               cases hp
               all_goals first | rfl | (cbv; done)
              | true =>
               simp only at hp
               cbv
               first | exact h_l_2 hp stk | (have q := h_l_2 hp stk; simp only [A_cascadelaw06_PathThird_2, h.map_cons, h.map_nil, h.mapE_nil, h.len_nil, he_e_api_Step, he_e_api_Value, he_e_api_Pair, he_e_int] at q; first | exact q | (cbv; exact q))
def b_cascadelaw06_PathThird_2 (P : Prims) (c_cascadelaw06_awake : Option (Bool)) (c_cascaderef06_Few : (List S_api_Step) → Option (Bool)) (c_path_Less : (List S_api_Step) → (List S_api_Step) → Option (Bool)) (c_path_Key : Str → Option (S_api_Step)) (c_path_Place : Int → Option (S_api_Step)) (c_path_Under : (List S_api_Step) → (List S_api_Step) → Option (Bool)) (c_path_Same : (List S_api_Step) → (List S_api_Step) → Option (Bool)) (l_3 : T_cascadelaw06_PathThird_3) (v0 : (List S_api_Step)) (v1 : (List S_api_Step)) : Option (Bool) :=
 l_3 v0 v1 0
theorem o_cascadelaw06_PathThird_2 (c_cascadelaw06_awake : Option (Bool)) (c_cascaderef06_Few : (List S_api_Step) → Option (Bool)) (c_path_Less : (List S_api_Step) → (List S_api_Step) → Option (Bool)) (c_path_Key : Str → Option (S_api_Step)) (c_path_Place : Int → Option (S_api_Step)) (c_path_Under : (List S_api_Step) → (List S_api_Step) → Option (Bool)) (c_path_Same : (List S_api_Step) → (List S_api_Step) → Option (Bool)) (h_cascadelaw06_awake : (C_cascadelaw06_awake xpcall xfcall c_cascadelaw06_awake)) (h_cascaderef06_Few : (C_cascaderef06_Few xpcall xfcall @xmap e_api_Step c_cascaderef06_Few)) (h_path_Less : (C_path_Less xpcall xfcall @xmap e_api_Step c_path_Less)) (h_path_Key : (C_path_Key xpcall xfcall c_path_Key)) (h_path_Place : (C_path_Place xpcall xfcall c_path_Place)) (h_path_Under : (C_path_Under xpcall xfcall @xmap e_api_Step c_path_Under)) (h_path_Same : (C_path_Same xpcall xfcall @xmap e_api_Step c_path_Same)) (stk : Stk) (m : Nat)    (l_3 : T_cascadelaw06_PathThird_3) (v0 : (List S_api_Step)) (v1 : (List S_api_Step))  (h_l_3 : H_cascadelaw06_PathThird_3 xat @xmap e_api_Step m  l_3) {out} (hp : b_cascadelaw06_PathThird_2 PP c_cascadelaw06_awake c_cascaderef06_Few c_path_Less c_path_Key c_path_Place c_path_Under c_path_Same l_3 v0 v1 = some out) : (A_cascadelaw06_PathThird_2 xat @xmap e_api_Step m  v0 v1 stk) = (O_cascadelaw06_PathThird  m  stk) out := by
 subst hPP
 simp only [b_cascadelaw06_PathThird_2] at hp
 unfold A_cascadelaw06_PathThird_2
 rw [h.at_, hT]
 cbv
 first | exact h_l_3 hp stk | (have q := h_l_3 hp stk; simp only [A_cascadelaw06_PathThird_3, h.map_cons, h.map_nil, h.mapE_nil, h.len_nil, he_e_api_Step, he_e_api_Value, he_e_api_Pair, he_e_int] at q; first | exact q | (cbv; exact q))
def b_cascadelaw06_PathThird_3 (P : Prims) (c_cascadelaw06_awake : Option (Bool)) (c_cascaderef06_Few : (List S_api_Step) → Option (Bool)) (c_path_Less : (List S_api_Step) → (List S_api_Step) → Option (Bool)) (c_path_Key : Str → Option (S_api_Step)) (c_path_Place : Int → Option (S_api_Step)) (c_path_Under : (List S_api_Step) → (List S_api_Step) → Option (Bool)) (c_path_Same : (List S_api_Step) → (List S_api_Step) → Option (Bool))  (v0 : (List S_api_Step)) (v1 : (List S_api_Step)) (v7 : Int) : Option (((List S_api_Step) × (List S_api_Step) × Int) ⊕ (Bool)) :=
 match P.cmp .lss v7 (P.len v0) with
 | false =>
  match c_path_Under v0 v1 with
  | none => none
  | some r38_0 =>
   match r38_0 with
   | false =>
    some (.inr true)
   | true =>
    match c_path_Same v0 v1 with
    | none => none
    | some r41_0 =>
     match r41_0 with
     | false =>
      match c_path_Less v0 v1 with
      | none => none
      | some r44_0 =>
       match r44_0 with
       | false =>
        some (.inr false)
       | true =>
        match c_path_Under v1 v0 with
        | none => none
        | some r47_0 =>
         match r47_0 with
         | false =>
          some (.inr true)
         | true =>
          some (.inr false)
     | true =>
      some (.inr true)
 | true =>
  match P.idx v0 v7 with
  | none => none
  | some ⟨a23_0, a23_1, a23_2⟩ =>
   match c_path_Key a23_0 with
   | none => none
   | some ⟨r25_0_0, r25_0_1, r25_0_2⟩ =>
    match P.seq r25_0_0 a23_0 with
    | false =>
     some (.inr false)
    | true =>
     match P.cmp .eql r25_0_1 0 with
     | false =>
      some (.inr false)
     | true =>
      match r25_0_2 with
      | false =>
       match c_path_Place a23_1 with
       | none => none
       | some ⟨r30_0_0, r30_0_1, r30_0_2⟩ =>
        match P.seq r30_0_0 [] with
        | false =>
         some (.inr false)
        | true =>
         match P.cmp .eql r30_0_1 a23_1 with
         | false =>
          some (.inr false)
         | true =>
          match r30_0_2 with
          | false =>
           some (.inr false)
          | true =>
           some (.inl (v0, v1, P.ar .add .i64 v7 1))
      | true =>
       some (.inr false)
theorem o_cascadelaw06_PathThird_3 (c_cascadelaw06_awake : Option (Bool)) (c_cascaderef06_Few : (List S_api_Step) → Option (Bool)) (c_path_Less : (List S_api_Step) → (List S_api_Step) → Option (Bool)) (c_path_Key : Str → Option (S_api_Step)) (c_path_Place : Int → Option (S_api_Step)) (c_path_Under : (List S_api_Step) → (List S_api_Step) → Option (Bool)) (c_path_Same : (List S_api_Step) → (List S_api_Step) → Option (Bool)) (h_cascadelaw06_awake : (C_cascadelaw06_awake xpcall xfcall c_cascadelaw06_awake)) (h_cascaderef06_Few : (C_cascaderef06_Few xpcall xfcall @xmap e_api_Step c_cascaderef06_Few)) (h_path_Less : (C_path_Less xpcall xfcall @xmap e_api_Step c_path_Less)) (h_path_Key : (C_path_Key xpcall xfcall c_path_Key)) (h_path_Place : (C_path_Place xpcall xfcall c_path_Place)) (h_path_Under : (C_path_Under xpcall xfcall @xmap e_api_Step c_path_Under)) (h_path_Same : (C_path_Same xpcall xfcall @xmap e_api_Step c_path_Same)) (stk : Stk) (m : Nat)     (v0 : (List S_api_Step)) (v1 : (List S_api_Step)) (v7 : Int)   {out} (hp : b_cascadelaw06_PathThird_3 PP c_cascadelaw06_awake c_cascaderef06_Few c_path_Less c_path_Key c_path_Place c_path_Under c_path_Same  v0 v1 v7 = some out) : (A_cascadelaw06_PathThird_3 xat @xmap e_api_Step m  v0 v1 v7 stk) = (Sum.elim (fun (v0, v1, v7) => (A_cascadelaw06_PathThird_3 xat @xmap e_api_Step m  v0 v1 v7 stk)) (O_cascadelaw06_PathThird  m  stk)) out := by
 subst hPP
 simp only [b_cascadelaw06_PathThird_3] at hp
 unfold A_cascadelaw06_PathThird_3
 rw [h.at_, hT]
 cbv
 try simp only [h.len]
 cases c22 : xcmp .lss v7 (plen v0) with
 | false =>
  simp only [c22] at hp ⊢
  cbv
  rw [h.at_, hT]
  cbv
  cases c39 : c_path_Under v0 v1 with
  | none => simp only [c39] at hp; cases hp
  | some r38_0 =>
   simp only [c39] at hp
   have qc := fun s => (h_path_Under c39 s).1
   simp only [qc]
   cbv
   cases r38_0 with
   | false =>
    simp only at hp
    cbv
    cases hp
    all_goals first | rfl | (cbv; done)
   | true =>
    simp only at hp
    cbv
    cases c42 : c_path_Same v0 v1 with
    | none => simp only [c42] at hp; cases hp
    | some r41_0 =>
     simp only [c42] at hp
     have qc := fun s => (h_path_Same c42 s).1
     simp only [qc]
     cbv
     cases r41_0 with
     | false =>
      simp only at hp
      cbv
      cases c45 : c_path_Less v0 v1 with
      | none => simp only [c45] at hp; cases hp
      | some r44_0 =>
       simp only [c45] at hp
       have qc := fun s => (h_path_Less c45 s).1
       simp only [qc]
       cbv
       cases r44_0 with
       | false =>
        simp only at hp
        cbv
        cases hp
        all_goals first | rfl | (cbv; done)
       | true =>
        simp only at hp
        cbv
        cases c48 : c_path_Under v1 v0 with
        | none => simp only [c48] at hp; cases hp
        | some r47_0 =>
         simp only [c48] at hp
         have qc := fun s => (h_path_Under c48 s).1
         simp only [qc]
         cbv
         cases r47_0 with
         | false =>
          simp only at hp
          cbv
          cases hp
          all_goals first | rfl | (cbv; done)
         | true =>
          simp only at hp
          cbv
          cases hp
          all_goals first | rfl | (cbv; done)
     | true =>
      simp only at hp
      cbv
      cases hp
      all_goals first | rfl | (cbv; done)
 | true =>
  simp only [c22] at hp ⊢
  cbv
  rw [h.at_, hT]
  cbv
  cases c24 : pidx v0 v7 with
  | none => simp only [c24] at hp; cases hp
  | some y37 =>
   obtain ⟨a23_0, a23_1, a23_2⟩ := y37
   simp only [c24] at hp
   obtain ⟨q1, q2⟩ := h.idx e_api_Step c24
   simp only [he_e_api_Step] at q2
   simp only [q1, Bool.false_eq_true, if_false]
   cbv
   try simp only [q2]
   cbv
   cases c26 : c_path_Key a23_0 with
   | none => simp only [c26] at hp; cases hp
   | some y36 =>
    obtain ⟨r25_0_0, r25_0_1, r25_0_2⟩ := y36
    simp only [c26] at hp
    have qc := fun s => (h_path_Key c26 s).1
    simp only [qc]
    cbv
    obtain ⟨q1, q2⟩ := h.idx e_api_Step c24
    simp only [he_e_api_Step] at q2
    simp only [q1, Bool.false_eq_true, if_false]
    cbv
    try simp only [q2]
    cbv
    cases c27 : xseq r25_0_0 a23_0 with
    | false =>
     simp only [c27] at hp ⊢
     cbv
     cases hp
     all_goals first | rfl | (cbv; done)
    | true =>
     simp only [c27] at hp ⊢
     cbv
     cases c28 : xcmp .eql r25_0_1 0 with
     | false =>
      simp only [c28] at hp ⊢
      cbv
      cases hp
      all_goals first | rfl | (cbv; done)
     | true =>
      simp only [c28] at hp ⊢
      cbv
      cases r25_0_2 with
      | false =>
       simp only at hp
       cbv
       obtain ⟨q1, q2⟩ := h.idx e_api_Step c24
       simp only [he_e_api_Step] at q2
       simp only [q1, Bool.false_eq_true, if_false]
       cbv
       try simp only [q2]
       cbv
       cases c31 : c_path_Place a23_1 with
       | none => simp only [c31] at hp; cases hp
       | some y35 =>
        obtain ⟨r30_0_0, r30_0_1, r30_0_2⟩ := y35
        simp only [c31] at hp
        have qc := fun s => (h_path_Place c31 s).1
        simp only [qc]
        cbv
        obtain ⟨q1, q2⟩ := h.idx e_api_Step c24
        simp only [he_e_api_Step] at q2
        simp only [q1, Bool.false_eq_true, if_false]
        cbv
        try simp only [q2]
        cbv
        cases c32 : xseq r30_0_0 [] with
        | false =>
         simp only [c32] at hp ⊢
         cbv
         cases hp
         all_goals first | rfl | (cbv; done)
        | true =>
         simp only [c32] at hp ⊢
         cbv
         cases c33 : xcmp .eql r30_0_1 a23_1 with
         | false =>
          simp only [c33] at hp ⊢
          cbv
          cases hp
          all_goals first | rfl | (cbv; done)
         | true =>
          simp only [c33] at hp ⊢
          cbv
          cases r30_0_2 with
          | false =>
           simp only at hp
           cbv
           cases hp
           all_goals first | rfl | (cbv; done)
          | true =>
           simp only at hp
           cbv
           rw [h.at_, hT]
           cbv
           cases hp
           all_goals first | rfl | (cbv; done)
      | true =>
       simp only at hp
       cbv
       cases hp
       all_goals first | rfl | (cbv; done)
end
end Go.Abs.T
