import Derived.Test.YtacabmodmbcldaaDoorDfQ
set_option linter.unusedSimpArgs false
set_option linter.unusedVariables false
set_option linter.unusedSectionVars false
namespace Go.Abs.Q
set_option maxRecDepth 100000
section
variable {PP : Prims} {xR : FuncId → Option RF} {xiter : (St → Rs) → St → Rs} {xG : Nat → Option (List D)} {xcall : CallF} {xpcall : FuncId → List V → Stk → Option V} {xfcall : FuncId → List V → Stk → Option (V × Stk)} {xkcall : FuncId → List (List Nat) → List V → Stk → Option (V × Level × Stk)} {xlen : List D → Nat} {xnth : List D → Nat → Option D} {xcut : List D → Nat → Nat → List D} {xapp : List D → List D → List D} {xset : List D → Nat → D → List D} {xrep : Nat → D → List D} {xallsz : Nat → List D → Bool} {xslen : Str → Nat} {xsnth : Str → Nat → Option UInt8} {xscut : Str → Nat → Nat → Str} {xsapp : Str → Str → Str} {xseq : Str → Str → Bool} {xslt : Str → Str → Bool} {xofStr : Str → List D} {xtoStr : List D → Option Str} {xdec : Str → Nat → Nat × Nat} {xenc : Int → Str} {xar : BinOp → IntKind → Int → Int → Int} {xcmp : BinOp → Int → Int → Bool} {xwrap : IntKind → Int → Int} {xisz : Int → Bool} {xneg : Int → Bool} {xnat : Int → Nat} {xofN : Nat → Int} {xbyte : UInt8 → Int} {xnle : Nat → Nat → Bool} {xnadd : Nat → Nat → Nat} {xnsub : Nat → Nat → Nat} {xfits : Nat → Nat → Bool} {xfind : D → List (D × Nat × V) → Option (Option V)} {xputE : D → Nat → V → List (D × Nat × V) → Option (List (D × Nat × V))} {xfindK : D → List D → List D → Option (Option D)} {xelen : List (D × Nat × V) → Nat} {xfrzM : List (D × Nat × V) → Option (List D × List D)} {xat : AtF} {xsetO : Stk → Lab → O → Stk} {xtop : Stk → Nat} {xsame : Stk → Stk → Bool} {xmap : {α : Type} → (α → D) → List α → List D} {xmapE : {α : Type} → (α → D) → List (Str × Nat × α) → List (D × Nat × V)} {pquo : BinOp → IntKind → Int → Int → Option Int} {pshf : BinOp → IntKind → Int → Int → Option Int} {pslen : Str → Int} {psidx : Str → Int → Option Int} {pssub : Str → Option Int → Option Int → Option Str} {pscat : Str → Str → Option Str} {psit : Str → Nat → Option (Int × Int × Nat)} {pslist : Str → Option (List Int)} {pofBytes : List Int → Str} {plen : {α : Type} → List α → Int} {pidx : {α : Type} → List α → Int → Option α} {psub : {α : Type} → List α → Option Int → Option Int → Option (List α)} {papp : {α : Type} → Nat → List α → List α → Option (List α)} {pset : {α : Type} → List α → Int → α → Option (List α)} {pmake : {α : Type} → Nat → α → Int → Option (List α)} {pmfind : {α : Type} → Str → List (Str × Nat × α) → Option α} {pmput : {α : Type} → Str → Nat → α → List (Str × Nat × α) → List (Str × Nat × α)} {ploop : {σ ρ : Type} → (σ → Option (σ ⊕ ρ)) → σ → Option ρ} {xT : FuncId → Option KF}
  (h : KLaws xR xiter xG xcall xpcall xfcall xkcall xlen xnth xcut xapp xset xrep xallsz xslen xsnth xscut xsapp xseq xslt xofStr xtoStr xdec xenc xar xcmp xwrap xisz xneg xnat xofN xbyte xnle xnadd xnsub xfits xfind xputE xfindK xelen xfrzM xat xsetO xtop xsame @xmap @xmapE pquo pshf pslen psidx pssub pscat psit pslist pofBytes @plen @pidx @psub @papp @pset @pmake @pmfind @pmput @ploop xT) (hT : xT = table) (hPP : PP = ⟨xar, xcmp, xwrap, xseq, xslt, xenc, pquo, pshf, pslen, psidx, pssub, pscat, psit, pslist, pofBytes, @plen, @pidx, @psub, @papp, @pset, @pmake, @pmfind, @pmput, @ploop⟩)
variable {e_string : Str → D} (he_e_string : ∀ (x : Str), e_string x = (.str x)) (hz_e_string : ∀ l, xallsz 1 (xmap e_string l) = true)
include h hT hPP he_e_string hz_e_string
def b_text_Lines__0_0 (P : Prims) (c_strings_IndexByte : Str → Int → Option (Int)) (c_strings_HasPrefix : Str → Str → Option (Bool)) (l_1 : T_text_Lines__0_1) (v0 : Str) : Option (Nat × (List Str)) :=
 l_1 v0 0 []
section
variable (c_strings_IndexByte : Str → Int → Option (Int)) (c_strings_HasPrefix : Str → Str → Option (Bool)) (h_strings_IndexByte : (C_strings_IndexByte xpcall xfcall c_strings_IndexByte)) (h_strings_HasPrefix : (C_strings_HasPrefix xpcall xfcall c_strings_HasPrefix)) (stk : Stk) (m : Nat)   
include c_strings_IndexByte c_strings_HasPrefix h_strings_IndexByte h_strings_HasPrefix stk m  
theorem o_text_Lines__0_0 (l_1 : T_text_Lines__0_1) (v0 : Str)  (h_l_1 : H_text_Lines__0_1 xat @xmap xlen e_string m  l_1) {out} (hp : b_text_Lines__0_0 PP c_strings_IndexByte c_strings_HasPrefix l_1 v0 = some out) : (A_text_Lines__0_0 xat m  v0 stk) = (O_text_Lines__0 @xmap xlen e_string m  stk) out := by
 subst hPP
 simp only [b_text_Lines__0_0] at hp
 unfold A_text_Lines__0_0
 rw [h.at_, hT]
 cbv
 first | exact h_l_1 hp stk | (have q := h_l_1 hp stk; simp only [A_text_Lines__0_1, h.map_cons, h.map_nil, h.mapE_nil, h.len_nil, he_e_string] at q; first | exact q | (cbv; exact q))
def b_text_Lines__0_1 (P : Prims) (c_strings_IndexByte : Str → Int → Option (Int)) (c_strings_HasPrefix : Str → Str → Option (Bool)) (l_2 : T_text_Lines__0_2) (v0 : Str) (o3_g : Nat) (o3 : (List Str)) : Option ((Str × Nat × (List Str)) ⊕ (Nat × (List Str))) :=
 match c_strings_IndexByte v0 10 with
 | none => none
 | some r1_0 =>
  match c_strings_IndexByte v0 13 with
  | none => none
  | some r3_0 =>
   match P.cmp .geq r3_0 0 with
   | false =>
    l_2 v0 o3_g o3 r1_0
   | true =>
    match P.cmp .lss r1_0 0 with
    | false =>
     match P.cmp .lss r3_0 r1_0 with
     | false =>
      l_2 v0 o3_g o3 r1_0
     | true =>
      l_2 v0 o3_g o3 r3_0
    | true =>
     l_2 v0 o3_g o3 r3_0
theorem o_text_Lines__0_1 (l_2 : T_text_Lines__0_2) (v0 : Str) (o3_g : Nat) (o3 : (List Str))  (h_l_2 : H_text_Lines__0_2 xat @xmap xlen e_string m  l_2) {out} (hp : b_text_Lines__0_1 PP c_strings_IndexByte c_strings_HasPrefix l_2 v0 o3_g o3 = some out) : (A_text_Lines__0_1 xat @xmap xlen e_string m  v0 o3_g o3 stk) = (Sum.elim (fun (v0, o3_g, o3) => (A_text_Lines__0_1 xat @xmap xlen e_string m  v0 o3_g o3 stk)) (O_text_Lines__0 @xmap xlen e_string m  stk)) out := by
 subst hPP
 simp only [b_text_Lines__0_1] at hp
 unfold A_text_Lines__0_1
 rw [h.at_, hT]
 cbv
 cases c2 : c_strings_IndexByte v0 10 with
 | none => simp only [c2] at hp; cases hp
 | some r1_0 =>
  simp only [c2] at hp
  have qc := fun s => (h_strings_IndexByte c2 s).1
  simp only [qc]
  cbv
  cases c4 : c_strings_IndexByte v0 13 with
  | none => simp only [c4] at hp; cases hp
  | some r3_0 =>
   simp only [c4] at hp
   have qc := fun s => (h_strings_IndexByte c4 s).1
   simp only [qc]
   cbv
   cases c5 : xcmp .geq r3_0 0 with
   | false =>
    simp only [c5] at hp ⊢
    cbv
    first | exact h_l_2 hp stk | (have q := h_l_2 hp stk; simp only [A_text_Lines__0_2, h.map_cons, h.map_nil, h.mapE_nil, h.len_nil, he_e_string] at q; first | exact q | (cbv; exact q))
   | true =>
    simp only [c5] at hp ⊢
    cbv
    cases c6 : xcmp .lss r1_0 0 with
    | false =>
     simp only [c6] at hp ⊢
     cbv
     cases c7 : xcmp .lss r3_0 r1_0 with
     | false =>
      simp only [c7] at hp ⊢
      cbv
      first | exact h_l_2 hp stk | (have q := h_l_2 hp stk; simp only [A_text_Lines__0_2, h.map_cons, h.map_nil, h.mapE_nil, h.len_nil, he_e_string] at q; first | exact q | (cbv; exact q))
     | true =>
      simp only [c7] at hp ⊢
      cbv
      first | exact h_l_2 hp stk | (have q := h_l_2 hp stk; simp only [A_text_Lines__0_2, h.map_cons, h.map_nil, h.mapE_nil, h.len_nil, he_e_string] at q; first | exact q | (cbv; exact q))
    | true =>
     simp only [c6] at hp ⊢
     cbv
     first | exact h_l_2 hp stk | (have q := h_l_2 hp stk; simp only [A_text_Lines__0_2, h.map_cons, h.map_nil, h.mapE_nil, h.len_nil, he_e_string] at q; first | exact q | (cbv; exact q))
def b_text_Lines__0_2 (P : Prims) (c_strings_IndexByte : Str → Int → Option (Int)) (c_strings_HasPrefix : Str → Str → Option (Bool)) (l_4 : T_text_Lines__0_4) (v0 : Str) (o3_g : Nat) (o3 : (List Str)) (v4 : Int) : Option ((Str × Nat × (List Str)) ⊕ (Nat × (List Str))) :=
 match P.cmp .lss v4 0 with
 | false =>
  match P.ssub v0 none (some v4) with
  | none => none
  | some s11 =>
   match P.app 16 o3 [s11] with
   | none => none
   | some l13 =>
    match P.ssub v0 (some v4) none with
    | none => none
    | some s15 =>
     match c_strings_HasPrefix s15 [13, 10] with
     | none => none
     | some r17_0 =>
      match r17_0 with
      | false =>
       l_4 v0 (o3_g + 1) l13 v4
      | true =>
       l_4 v0 (o3_g + 1) l13 (P.ar .add .i64 v4 1)
 | true =>
  match P.app 16 o3 [v0] with
  | none => none
  | some l9 =>
   some (.inr (o3_g + 1, l9))
theorem o_text_Lines__0_2 (l_4 : T_text_Lines__0_4) (v0 : Str) (o3_g : Nat) (o3 : (List Str)) (v4 : Int)  (h_l_4 : H_text_Lines__0_4 xat @xmap xlen e_string m  l_4) {out} (hp : b_text_Lines__0_2 PP c_strings_IndexByte c_strings_HasPrefix l_4 v0 o3_g o3 v4 = some out) : (A_text_Lines__0_2 xat @xmap xlen e_string m  v0 o3_g o3 v4 stk) = (Sum.elim (fun (v0, o3_g, o3) => (A_text_Lines__0_1 xat @xmap xlen e_string m  v0 o3_g o3 stk)) (O_text_Lines__0 @xmap xlen e_string m  stk)) out := by
 subst hPP
 simp only [b_text_Lines__0_2] at hp
 unfold A_text_Lines__0_2
 rw [h.at_, hT]
 cbv
 cases c8 : xcmp .lss v4 0 with
 | false =>
  simp only [c8] at hp ⊢
  cbv
  rw [h.at_, hT]
  cbv
  cases c12 : pssub v0 none (some v4) with
  | none => simp only [c12] at hp; cases hp
  | some s11 =>
   simp only [c12] at hp
   obtain ⟨q0, q1, q2, q3⟩ := h.ssub0 c12
   simp only [q0, q1, q2, q3, Bool.false_eq_true, if_false, if_true]
   cbv
   try simp only [q0, q1, q2, q3, if_true]
   cbv
   simp only [h.allsz_nil, h.allsz_cons]
   cbv
   simp only [h.allsz_nil, h.allsz_cons]
   cbv
   cases c14 : papp 16 o3 [s11] with
   | none => simp only [c14] at hp; cases hp
   | some l13 =>
    simp only [c14] at hp
    obtain ⟨q1, q2, q3⟩ := h.app e_string c14 rfl
    simp only [h.map_cons, h.map_nil, h.len_nil, he_e_string] at q1 q2 q3
    try simp only [h.len_nil]
    cbv
    simp only [q1, q2, q3, if_true]
    cbv
    cases c16 : pssub v0 (some v4) none with
    | none => simp only [c16] at hp; cases hp
    | some s15 =>
     simp only [c16] at hp
     obtain ⟨q0, q1, q2, q3⟩ := h.ssub1 c16
     simp only [q0, q1, q2, q3, Bool.false_eq_true, if_false, if_true]
     cbv
     try simp only [q0, q1, q2, q3, if_true]
     cbv
     cases c18 : c_strings_HasPrefix s15 [13, 10] with
     | none => simp only [c18] at hp; cases hp
     | some r17_0 =>
      simp only [c18] at hp
      have qc := fun s => (h_strings_HasPrefix c18 s).1
      simp only [qc]
      cbv
      cases r17_0 with
      | false =>
       simp only at hp
       cbv
       first | exact h_l_4 hp stk | (have q := h_l_4 hp stk; simp only [A_text_Lines__0_4, h.map_cons, h.map_nil, h.mapE_nil, h.len_nil, he_e_string] at q; first | exact q | (cbv; exact q))
      | true =>
       simp only at hp
       cbv
       first | exact h_l_4 hp stk | (have q := h_l_4 hp stk; simp only [A_text_Lines__0_4, h.map_cons, h.map_nil, h.mapE_nil, h.len_nil, he_e_string] at q; first | exact q | (cbv; exact q))
 | true =>
  simp only [c8] at hp ⊢
  cbv
  simp only [h.allsz_nil, h.allsz_cons]
  cbv
  simp only [h.allsz_nil, h.allsz_cons]
  cbv
  cases c10 : papp 16 o3 [v0] with
  | none => simp only [c10] at hp; cases hp
  | some l9 =>
   simp only [c10] at hp
   obtain ⟨q1, q2, q3⟩ := h.app e_string c10 rfl
   simp only [h.map_cons, h.map_nil, h.len_nil, he_e_string] at q1 q2 q3
   try simp only [h.len_nil]
   cbv
   simp only [q1, q2, q3, if_true]
   cbv
   cases hp
   all_goals first | rfl | (cbv; done) | (simp only [h.nadd0, h.nle_refl, h.cut_all, h.cut_nil, h.map_cons, h.map_nil, h.mapE_nil, h.len_nil, he_e_string, O_text_Lines__0, A_text_Lines__0_1, if_true]; first | done | rfl | (cbv; done) | (cbv; simp only [h.map_cons, h.map_nil, h.mapE_nil, h.len_nil, he_e_string, O_text_Lines__0, A_text_Lines__0_1]; done))
def b_text_Lines__0_4 (P : Prims) (c_strings_IndexByte : Str → Int → Option (Int)) (c_strings_HasPrefix : Str → Str → Option (Bool))  (v0 : Str) (o3_g : Nat) (o3 : (List Str)) (v4 : Int) : Option ((Str × Nat × (List Str)) ⊕ (Nat × (List Str))) :=
 match P.ssub v0 (some (P.ar .add .i64 v4 1)) none with
 | none => none
 | some s20 =>
  some (.inl (s20, o3_g, o3))
theorem o_text_Lines__0_4  (v0 : Str) (o3_g : Nat) (o3 : (List Str)) (v4 : Int)   {out} (hp : b_text_Lines__0_4 PP c_strings_IndexByte c_strings_HasPrefix  v0 o3_g o3 v4 = some out) : (A_text_Lines__0_4 xat @xmap xlen e_string m  v0 o3_g o3 v4 stk) = (Sum.elim (fun (v0, o3_g, o3) => (A_text_Lines__0_1 xat @xmap xlen e_string m  v0 o3_g o3 stk)) (O_text_Lines__0 @xmap xlen e_string m  stk)) out := by
 subst hPP
 simp only [b_text_Lines__0_4] at hp
 unfold A_text_Lines__0_4
 rw [h.at_, hT]
 cbv
 cases c21 : pssub v0 (some (xar .add .i64 v4 1)) none with
 | none => simp only [c21] at hp; cases hp
 | some s20 =>
  simp only [c21] at hp
  obtain ⟨q0, q1, q2, q3⟩ := h.ssub1 c21
  simp only [q0, q1, q2, q3, Bool.false_eq_true, if_false, if_true]
  cbv
  try simp only [q0, q1, q2, q3, if_true]
  cbv
  cases hp
  all_goals first | rfl | (cbv; done) | (simp only [h.nadd0, h.nle_refl, h.cut_all, h.cut_nil, h.map_cons, h.map_nil, h.mapE_nil, h.len_nil, he_e_string, O_text_Lines__0, A_text_Lines__0_1, if_true]; first | done | rfl | (cbv; done) | (cbv; simp only [h.map_cons, h.map_nil, h.mapE_nil, h.len_nil, he_e_string, O_text_Lines__0, A_text_Lines__0_1]; done))
end
def b_block_lead_0 (P : Prims) (c_strings_TrimLeft : Str → Str → Option (Str))  (v0 : Str) : Option (Int × Bool) :=
 match c_strings_TrimLeft v0 [32, 9] with
 | none => none
 | some r1_0 =>
  match P.seq r1_0 [] with
  | false =>
   some (P.ar .sub .i64 (P.slen v0) (P.slen r1_0), true)
  | true =>
   some (P.ar .sub .i64 (P.slen v0) (P.slen r1_0), false)
section
variable (c_strings_TrimLeft : Str → Str → Option (Str)) (h_strings_TrimLeft : (C_strings_TrimLeft xpcall xfcall c_strings_TrimLeft)) (stk : Stk) (m : Nat)   
include c_strings_TrimLeft h_strings_TrimLeft stk m  
theorem o_block_lead_0  (v0 : Str)   {out} (hp : b_block_lead_0 PP c_strings_TrimLeft  v0 = some out) : (A_block_lead_0 xat m  v0 stk) = (O_block_lead  m  stk) out := by
 subst hPP
 simp only [b_block_lead_0] at hp
 unfold A_block_lead_0
 rw [h.at_, hT]
 cbv
 cases c2 : c_strings_TrimLeft v0 [32, 9] with
 | none => simp only [c2] at hp; cases hp
 | some r1_0 =>
  simp only [c2] at hp
  have qc := fun s => (h_strings_TrimLeft c2 s).1
  simp only [qc]
  cbv
  try simp only [h.slen]
  try simp only [h.slen]
  cases c3 : xseq r1_0 [] with
  | false =>
   simp only [c3] at hp ⊢
   cbv
   cases hp
   all_goals first | rfl | (cbv; done)
  | true =>
   simp only [c3] at hp ⊢
   cbv
   cases hp
   all_goals first | rfl | (cbv; done)
end
def b_block_Indent__0_0 (P : Prims) (c_block_lead : Str → Option (Int × Bool)) (l_1 : T_block_Indent__0_1) (L0_g : Nat) (L0 : (List Str)) : Option (Int) :=
 l_1 0 false L0_g L0 (P.len L0) 0
section
variable (c_block_lead : Str → Option (Int × Bool)) (h_block_lead : (C_block_lead xpcall xfcall c_block_lead)) (stk : Stk) (m : Nat) (n0 : Nat) (k0 : List Nat) (hl0 : n0 < m) 
include c_block_lead h_block_lead stk m n0 k0 hl0
theorem o_block_Indent__0_0 (l_1 : T_block_Indent__0_1) (L0_g : Nat) (L0 : (List Str)) (hg0 : getO stk ⟨n0, k0⟩ = some (.arr L0_g 1 (xmap e_string L0))) (h_l_1 : H_block_Indent__0_1 xat @xmap xlen e_string m n0 k0 l_1) {out} (hp : b_block_Indent__0_0 PP c_block_lead l_1 L0_g L0 = some out) : (A_block_Indent__0_0 xat @xmap xlen e_string m n0 k0 L0_g L0 stk) = (O_block_Indent__0  m n0 k0 stk) out := by
 have hn0 : (n0 = m) = False := eq_false (Nat.ne_of_lt hl0)
 have hm0 : decide (n0 < m) = true := decide_eq_true hl0
 subst hPP
 simp only [b_block_Indent__0_0] at hp
 unfold A_block_Indent__0_0
 rw [h.at_, hT]
 cbv
 try simp only [h.len]
 try simp only [if_false, if_true, hn0, hm0]
 first | exact h_l_1 hp stk (hg0) | (have q := h_l_1 hp stk (hg0); simp only [A_block_Indent__0_1, h.map_cons, h.map_nil, h.mapE_nil, h.len_nil, he_e_string] at q; first | exact q | (cbv; exact q))
def b_block_Indent__0_1 (P : Prims) (c_block_lead : Str → Option (Int × Bool)) (l_4 : T_block_Indent__0_4) (l_5 : T_block_Indent__0_5) (v3 : Int) (v4 : Bool) (L0_g : Nat) (L0 : (List Str)) (v10 v11 : Int) : Option ((Int × Bool × Int × Int) ⊕ (Int)) :=
 match P.cmp .lss v11 v10 with
 | false =>
  some (.inr v3)
 | true =>
  match P.idx L0 v11 with
  | none => none
  | some a3 =>
   match c_block_lead a3 with
   | none => none
   | some (r5_0, r5_1) =>
    match P.cmp .eql v11 0 with
    | false =>
     match r5_1 with
     | false =>
      l_5 v3 v4 L0_g L0 v10 v11
     | true =>
      match v4 with
      | false =>
       l_4 r5_0 L0_g L0 v10 v11
      | true =>
       match P.cmp .lss r5_0 v3 with
       | false =>
        l_4 v3 L0_g L0 v10 v11
       | true =>
        l_4 r5_0 L0_g L0 v10 v11
    | true =>
     l_5 v3 v4 L0_g L0 v10 v11
theorem o_block_Indent__0_1 (l_4 : T_block_Indent__0_4) (l_5 : T_block_Indent__0_5) (v3 : Int) (v4 : Bool) (L0_g : Nat) (L0 : (List Str)) (v10 v11 : Int) (hg0 : getO stk ⟨n0, k0⟩ = some (.arr L0_g 1 (xmap e_string L0))) (h_l_4 : H_block_Indent__0_4 xat @xmap xlen e_string m n0 k0 l_4) (h_l_5 : H_block_Indent__0_5 xat @xmap xlen e_string m n0 k0 l_5) {out} (hp : b_block_Indent__0_1 PP c_block_lead l_4 l_5 v3 v4 L0_g L0 v10 v11 = some out) : (A_block_Indent__0_1 xat @xmap xlen e_string m n0 k0 v3 v4 L0_g L0 v10 v11 stk) = (Sum.elim (fun (v3, v4, v10, v11) => (A_block_Indent__0_1 xat @xmap xlen e_string m n0 k0 v3 v4 L0_g L0 v10 v11 stk)) (O_block_Indent__0  m n0 k0 stk)) out := by
 have hn0 : (n0 = m) = False := eq_false (Nat.ne_of_lt hl0)
 have hm0 : decide (n0 < m) = true := decide_eq_true hl0
 subst hPP
 simp only [b_block_Indent__0_1] at hp
 unfold A_block_Indent__0_1
 rw [h.at_, hT]
 cbv
 cases c1 : xcmp .lss v11 v10 with
 | false =>
  simp only [c1] at hp ⊢
  cbv
  try simp only [if_false, if_true, hn0, hm0]
  try cbv
  rw [h.at_, hT]
  cbv
  cases hp
  try simp only [if_false, if_true, hn0, hm0]
  all_goals first | rfl | (cbv; done)
 | true =>
  simp only [c1] at hp ⊢
  cbv
  try simp only [if_false, if_true, hn0, hm0]
  try cbv
  rw [h.at_, hT]
  cbv
  cases c4 : pidx L0 v11 with
  | none => simp only [c4] at hp; cases hp
  | some a3 =>
   simp only [c4] at hp
   obtain ⟨q1, q2, q3, w2⟩ := h.idxm e_string c4
   simp only [he_e_string] at w2
   simp only [q1, Bool.false_eq_true, if_false]
   cbv
   simp only [if_false, if_true, hn0, hm0, hg0]
   cbv
   simp only [q2, q3, if_true]
   cbv
   simp only [if_false, if_true, hn0, hm0, hg0]
   cbv
   simp only [w2]
   cbv
   cases c6 : c_block_lead a3 with
   | none => simp only [c6] at hp; cases hp
   | some y11 =>
    obtain ⟨r5_0, r5_1⟩ := y11
    simp only [c6] at hp
    have qc := fun s => (h_block_lead c6 s).1
    simp only [qc]
    cbv
    cases c7 : xcmp .eql v11 0 with
    | false =>
     simp only [c7] at hp ⊢
     cbv
     cases r5_1 with
     | false =>
      simp only at hp
      cbv
      try simp only [if_false, if_true, hn0, hm0]
      first | exact h_l_5 hp stk (hg0) | (have q := h_l_5 hp stk (hg0); simp only [A_block_Indent__0_5, h.map_cons, h.map_nil, h.mapE_nil, h.len_nil, he_e_string] at q; first | exact q | (cbv; exact q))
     | true =>
      simp only at hp
      cbv
      try simp only [if_false, if_true, hn0, hm0]
      try cbv
      rw [h.at_, hT]
      cbv
      cases v4 with
      | false =>
       simp only at hp
       cbv
       try simp only [if_false, if_true, hn0, hm0]
       first | exact h_l_4 hp stk (hg0) | (have q := h_l_4 hp stk (hg0); simp only [A_block_Indent__0_4, h.map_cons, h.map_nil, h.mapE_nil, h.len_nil, he_e_string] at q; first | exact q | (cbv; exact q))
      | true =>
       simp only at hp
       cbv
       cases c10 : xcmp .lss r5_0 v3 with
       | false =>
        simp only [c10] at hp ⊢
        cbv
        try simp only [if_false, if_true, hn0, hm0]
        first | exact h_l_4 hp stk (hg0) | (have q := h_l_4 hp stk (hg0); simp only [A_block_Indent__0_4, h.map_cons, h.map_nil, h.mapE_nil, h.len_nil, he_e_string] at q; first | exact q | (cbv; exact q))
       | true =>
        simp only [c10] at hp ⊢
        cbv
        try simp only [if_false, if_true, hn0, hm0]
        first | exact h_l_4 hp stk (hg0) | (have q := h_l_4 hp stk (hg0); simp only [A_block_Indent__0_4, h.map_cons, h.map_nil, h.mapE_nil, h.len_nil, he_e_string] at q; first | exact q | (cbv; exact q))
    | true =>
     simp only [c7] at hp ⊢
     cbv
     try simp only [if_false, if_true, hn0, hm0]
     first | exact h_l_5 hp stk (hg0) | (have q := h_l_5 hp stk (hg0); simp only [A_block_Indent__0_5, h.map_cons, h.map_nil, h.mapE_nil, h.len_nil, he_e_string] at q; first | exact q | (cbv; exact q))
def b_block_Indent__0_5 (P : Prims) (c_block_lead : Str → Option (Int × Bool))  (v3 : Int) (v4 : Bool) (L0_g : Nat) (L0 : (List Str)) (v10 v11 : Int) : Option ((Int × Bool × Int × Int) ⊕ (Int)) :=
 some (.inl (v3, v4, v10, P.ar .add .i64 v11 1))
theorem o_block_Indent__0_5  (v3 : Int) (v4 : Bool) (L0_g : Nat) (L0 : (List Str)) (v10 v11 : Int) (hg0 : getO stk ⟨n0, k0⟩ = some (.arr L0_g 1 (xmap e_string L0)))  {out} (hp : b_block_Indent__0_5 PP c_block_lead  v3 v4 L0_g L0 v10 v11 = some out) : (A_block_Indent__0_5 xat @xmap xlen e_string m n0 k0 v3 v4 L0_g L0 v10 v11 stk) = (Sum.elim (fun (v3, v4, v10, v11) => (A_block_Indent__0_1 xat @xmap xlen e_string m n0 k0 v3 v4 L0_g L0 v10 v11 stk)) (O_block_Indent__0  m n0 k0 stk)) out := by
 have hn0 : (n0 = m) = False := eq_false (Nat.ne_of_lt hl0)
 have hm0 : decide (n0 < m) = true := decide_eq_true hl0
 subst hPP
 simp only [b_block_Indent__0_5] at hp
 unfold A_block_Indent__0_5
 rw [h.at_, hT]
 cbv
 cases hp
 try simp only [if_false, if_true, hn0, hm0]
 all_goals first | rfl | (cbv; done) | (simp only [h.nadd0, h.nle_refl, h.cut_all, h.cut_nil, h.map_cons, h.map_nil, h.mapE_nil, h.len_nil, he_e_string, O_block_Indent__0, A_block_Indent__0_1, if_true]; first | done | rfl | (cbv; done) | (cbv; simp only [h.map_cons, h.map_nil, h.mapE_nil, h.len_nil, he_e_string, O_block_Indent__0, A_block_Indent__0_1]; done))
def b_block_Indent__0_4 (P : Prims) (c_block_lead : Str → Option (Int × Bool)) (l_5 : T_block_Indent__0_5) (v3 : Int) (L0_g : Nat) (L0 : (List Str)) (v10 v11 : Int) : Option ((Int × Bool × Int × Int) ⊕ (Int)) :=
 l_5 v3 true L0_g L0 v10 v11
theorem o_block_Indent__0_4 (l_5 : T_block_Indent__0_5) (v3 : Int) (L0_g : Nat) (L0 : (List Str)) (v10 v11 : Int) (hg0 : getO stk ⟨n0, k0⟩ = some (.arr L0_g 1 (xmap e_string L0))) (h_l_5 : H_block_Indent__0_5 xat @xmap xlen e_string m n0 k0 l_5) {out} (hp : b_block_Indent__0_4 PP c_block_lead l_5 v3 L0_g L0 v10 v11 = some out) : (A_block_Indent__0_4 xat @xmap xlen e_string m n0 k0 v3 L0_g L0 v10 v11 stk) = (Sum.elim (fun (v3, v4, v10, v11) => (A_block_Indent__0_1 xat @xmap xlen e_string m n0 k0 v3 v4 L0_g L0 v10 v11 stk)) (O_block_Indent__0  m n0 k0 stk)) out := by
 have hn0 : (n0 = m) = False := eq_false (Nat.ne_of_lt hl0)
 have hm0 : decide (n0 < m) = true := decide_eq_true hl0
 subst hPP
 simp only [b_block_Indent__0_4] at hp
 unfold A_block_Indent__0_4
 rw [h.at_, hT]
 cbv
 try simp only [if_false, if_true, hn0, hm0]
 first | exact h_l_5 hp stk (hg0) | (have q := h_l_5 hp stk (hg0); simp only [A_block_Indent__0_5, h.map_cons, h.map_nil, h.mapE_nil, h.len_nil, he_e_string] at q; first | exact q | (cbv; exact q))
end
def b_block_empty_0 (P : Prims) (c_block_lead : Str → Option (Int × Bool))  (v0 : Str) : Option (Bool) :=
 match c_block_lead v0 with
 | none => none
 | some (r1_0, r1_1) =>
  match r1_1 with
  | false =>
   some true
  | true =>
   some false
section
variable (c_block_lead : Str → Option (Int × Bool)) (h_block_lead : (C_block_lead xpcall xfcall c_block_lead)) (stk : Stk) (m : Nat)   
include c_block_lead h_block_lead stk m  
theorem o_block_empty_0  (v0 : Str)   {out} (hp : b_block_empty_0 PP c_block_lead  v0 = some out) : (A_block_empty_0 xat m  v0 stk) = (O_block_empty  m  stk) out := by
 subst hPP
 simp only [b_block_empty_0] at hp
 unfold A_block_empty_0
 rw [h.at_, hT]
 cbv
 cases c2 : c_block_lead v0 with
 | none => simp only [c2] at hp; cases hp
 | some y4 =>
  obtain ⟨r1_0, r1_1⟩ := y4
  simp only [c2] at hp
  have qc := fun s => (h_block_lead c2 s).1
  simp only [qc]
  cbv
  cases r1_1 with
  | false =>
   simp only at hp
   cbv
   cases hp
   all_goals first | rfl | (cbv; done)
  | true =>
   simp only at hp
   cbv
   cases hp
   all_goals first | rfl | (cbv; done)
end
def b_block_Value_0 (P : Prims) (c_strings_ReplaceAll : Str → Str → Str → Option (Str)) (c_text_Lines__0 : Str → Option (Nat × (List Str))) (c_block_Indent__0 : Nat → (List Str) → Option (Int)) (c_block_empty : Str → Option (Bool)) (c_strings_Join : (List Str) → Str → Option (Str)) (l_1 : T_block_Value_1) (v0 : Str) : Option (Str) :=
 match c_strings_ReplaceAll v0 [92, 34, 34, 34] [34, 34, 34] with
 | none => none
 | some r1_0 =>
  match c_text_Lines__0 r1_0 with
  | none => none
  | some (r3_0, r3_1) =>
   match c_block_Indent__0 r3_0 r3_1 with
   | none => none
   | some r5_0 =>
    l_1 r3_0 r3_1 r5_0 (P.len r3_1) 0
section
variable (c_strings_ReplaceAll : Str → Str → Str → Option (Str)) (c_text_Lines__0 : Str → Option (Nat × (List Str))) (c_block_Indent__0 : Nat → (List Str) → Option (Int)) (c_block_empty : Str → Option (Bool)) (c_strings_Join : (List Str) → Str → Option (Str)) (h_strings_ReplaceAll : (C_strings_ReplaceAll xpcall xfcall c_strings_ReplaceAll)) (h_text_Lines__0 : (C_text_Lines__0 xkcall @xmap xlen e_string c_text_Lines__0)) (h_block_Indent__0 : (C_block_Indent__0 xpcall xfcall @xmap xlen e_string c_block_Indent__0)) (h_block_empty : (C_block_empty xpcall xfcall c_block_empty)) (h_strings_Join : (C_strings_Join xpcall xfcall @xmap e_string c_strings_Join)) (stk : Stk) (m : Nat)   
include c_strings_ReplaceAll c_text_Lines__0 c_block_Indent__0 c_block_empty c_strings_Join h_strings_ReplaceAll h_text_Lines__0 h_block_Indent__0 h_block_empty h_strings_Join stk m  
theorem o_block_Value_0 (l_1 : T_block_Value_1) (v0 : Str)  (h_l_1 : H_block_Value_1 xat @xmap xlen e_string m  l_1) {out} (hp : b_block_Value_0 PP c_strings_ReplaceAll c_text_Lines__0 c_block_Indent__0 c_block_empty c_strings_Join l_1 v0 = some out) : (A_block_Value_0 xat m  v0 stk) = (O_block_Value  m  stk) out := by
 subst hPP
 simp only [b_block_Value_0] at hp
 unfold A_block_Value_0
 rw [h.at_, hT]
 cbv
 cases c2 : c_strings_ReplaceAll v0 [92, 34, 34, 34] [34, 34, 34] with
 | none => simp only [c2] at hp; cases hp
 | some r1_0 =>
  simp only [c2] at hp
  have qc := fun s => (h_strings_ReplaceAll c2 s).1
  simp only [qc]
  cbv
  cases c4 : c_text_Lines__0 r1_0 with
  | none => simp only [c4] at hp; cases hp
  | some y7 =>
   obtain ⟨r3_0, r3_1⟩ := y7
   simp only [c4] at hp
   have qc := h_text_Lines__0 c4 (⟨m, []⟩ :: stk)  (m + 1) rfl
   simp only [qc]
   cbv
   cases c6 : c_block_Indent__0 r3_0 r3_1 with
   | none => simp only [c6] at hp; cases hp
   | some r5_0 =>
    simp only [c6] at hp
    have qc := (h_block_Indent__0 c6 (⟨m, [([8, 3], (.arr r3_0 1 (xmap e_string r3_1)))]⟩ :: stk) m [8, 3] (h.gt _ _ _ _) (Nat.le_refl _)).1
    simp only [qc]
    cbv
    try simp only [h.len]
    first | exact h_l_1 hp stk | (have q := h_l_1 hp stk; simp only [A_block_Value_1, h.map_cons, h.map_nil, h.mapE_nil, h.len_nil, he_e_string] at q; first | exact q | (cbv; exact q))
def b_block_Value_1 (P : Prims) (c_strings_ReplaceAll : Str → Str → Str → Option (Str)) (c_text_Lines__0 : Str → Option (Nat × (List Str))) (c_block_Indent__0 : Nat → (List Str) → Option (Int)) (c_block_empty : Str → Option (Bool)) (c_strings_Join : (List Str) → Str → Option (Str)) (l_3 : T_block_Value_3) (l_5 : T_block_Value_5) (o8_3_g : Nat) (o8_3 : (List Str)) (v4 v12 v13 : Int) : Option ((Nat × (List Str) × Int × Int × Int) ⊕ (Str)) :=
 match P.cmp .lss v13 v12 with
 | false =>
  match l_5 o8_3_g o8_3 with | none => none | some o25 => some (.inr o25)
 | true =>
  match P.cmp .gtr v13 0 with
  | false =>
   l_3 o8_3_g o8_3 v4 v12 v13
  | true =>
   match P.idx o8_3 v13 with
   | none => none
   | some a11 =>
    match P.cmp .lss (P.slen a11) v4 with
    | false =>
     match P.ssub a11 (some v4) none with
     | none => none
     | some s20 =>
      match P.set o8_3 v13 s20 with
      | none => none
      | some l23 =>
       l_3 o8_3_g l23 v4 v12 v13
    | true =>
     match P.ssub a11 (some (P.slen a11)) none with
     | none => none
     | some s15 =>
      match P.set o8_3 v13 s15 with
      | none => none
      | some l18 =>
       l_3 o8_3_g l18 v4 v12 v13
theorem o_block_Value_1 (l_3 : T_block_Value_3) (l_5 : T_block_Value_5) (o8_3_g : Nat) (o8_3 : (List Str)) (v4 v12 v13 : Int)  (h_l_3 : H_block_Value_3 xat @xmap xlen e_string m  l_3) (h_l_5 : H_block_Value_5 xat @xmap xlen e_string m  l_5) {out} (hp : b_block_Value_1 PP c_strings_ReplaceAll c_text_Lines__0 c_block_Indent__0 c_block_empty c_strings_Join l_3 l_5 o8_3_g o8_3 v4 v12 v13 = some out) : (A_block_Value_1 xat @xmap xlen e_string m  o8_3_g o8_3 v4 v12 v13 stk) = (Sum.elim (fun (o8_3_g, o8_3, v4, v12, v13) => (A_block_Value_1 xat @xmap xlen e_string m  o8_3_g o8_3 v4 v12 v13 stk)) (O_block_Value  m  stk)) out := by
 subst hPP
 simp only [b_block_Value_1] at hp
 unfold A_block_Value_1
 rw [h.at_, hT]
 cbv
 cases c8 : xcmp .lss v13 v12 with
 | false =>
  simp only [c8] at hp ⊢
  cbv
  rw [h.at_, hT]
  cbv
  cases c : l_5 o8_3_g o8_3 with
  | none => simp only [c] at hp; cases hp
  | some o25 =>
   simp only [c] at hp
   cases hp
   first | exact h_l_5 c stk | (have q := h_l_5 c stk; simp only [A_block_Value_5, h.map_cons, h.map_nil, h.mapE_nil, h.len_nil, he_e_string] at q; first | exact q | (cbv; exact q))
 | true =>
  simp only [c8] at hp ⊢
  cbv
  rw [h.at_, hT]
  cbv
  cases c9 : xcmp .gtr v13 0 with
  | false =>
   simp only [c9] at hp ⊢
   cbv
   first | exact h_l_3 hp stk | (have q := h_l_3 hp stk; simp only [A_block_Value_3, h.map_cons, h.map_nil, h.mapE_nil, h.len_nil, he_e_string] at q; first | exact q | (cbv; exact q))
  | true =>
   simp only [c9] at hp ⊢
   cbv
   cases c12 : pidx o8_3 v13 with
   | none => simp only [c12] at hp; cases hp
   | some a11 =>
    simp only [c12] at hp
    obtain ⟨q1, q2, q3, w10⟩ := h.idxm e_string c12
    simp only [he_e_string] at w10
    simp only [q1, Bool.false_eq_true, if_false]
    cbv
    simp only [q2, q3, if_true]
    cbv
    simp only [w10]
    cbv
    obtain ⟨q1, q2, q3, w13⟩ := h.idxm e_string c12
    simp only [he_e_string] at w13
    simp only [q1, Bool.false_eq_true, if_false]
    cbv
    simp only [q2, q3, if_true]
    cbv
    simp only [w13]
    cbv
    try simp only [h.slen]
    cases c14 : xcmp .lss (pslen a11) v4 with
    | false =>
     simp only [c14] at hp ⊢
     cbv
     cases c21 : pssub a11 (some v4) none with
     | none => simp only [c21] at hp; cases hp
     | some s20 =>
      simp only [c21] at hp
      obtain ⟨q0, q1, q2, q3⟩ := h.ssub1 c21
      simp only [q0, q1, q2, q3, Bool.false_eq_true, if_false, if_true]
      cbv
      try simp only [q0, q1, q2, q3, if_true]
      cbv
      obtain ⟨q1, q2, q3, w22⟩ := h.idxm e_string c12
      simp only [he_e_string] at w22
      simp only [q1, Bool.false_eq_true, if_false]
      cbv
      simp only [q2, q3, if_true]
      cbv
      cases c24 : pset o8_3 v13 s20 with
      | none => simp only [c24] at hp; cases hp
      | some l23 =>
       simp only [c24] at hp
       obtain ⟨q1, q2, q3, ⟨y, q4⟩, q5, q6⟩ := h.set_ e_string c24
       simp only [he_e_string] at q5
       simp only [w22]
       cbv
       try simp only [w22]
       try simp only [List.headD, splice, List.take_succ_cons, List.take_zero, List.drop_succ_cons, List.drop_zero, List.cons_append, List.nil_append, List.length_cons, List.length_nil, Nat.zero_add, Nat.reduceAdd]
       simp only [q5]
       try simp only [← q6]
       cbv
       first | exact h_l_3 hp stk | (have q := h_l_3 hp stk; simp only [A_block_Value_3, h.map_cons, h.map_nil, h.mapE_nil, h.len_nil, he_e_string] at q; first | exact q | (cbv; exact q))
    | true =>
     simp only [c14] at hp ⊢
     cbv
     cases c16 : pssub a11 (some (pslen a11)) none with
     | none => simp only [c16] at hp; cases hp
     | some s15 =>
      simp only [c16] at hp
      obtain ⟨q0, q1, q2, q3⟩ := h.ssub1 c16
      simp only [q0, q1, q2, q3, Bool.false_eq_true, if_false, if_true]
      cbv
      try simp only [q0, q1, q2, q3, if_true]
      cbv
      obtain ⟨q1, q2, q3, w17⟩ := h.idxm e_string c12
      simp only [he_e_string] at w17
      simp only [q1, Bool.false_eq_true, if_false]
      cbv
      simp only [q2, q3, if_true]
      cbv
      cases c19 : pset o8_3 v13 s15 with
      | none => simp only [c19] at hp; cases hp
      | some l18 =>
       simp only [c19] at hp
       obtain ⟨q1, q2, q3, ⟨y, q4⟩, q5, q6⟩ := h.set_ e_string c19
       simp only [he_e_string] at q5
       simp only [w17]
       cbv
       try simp only [w17]
       try simp only [List.headD, splice, List.take_succ_cons, List.take_zero, List.drop_succ_cons, List.drop_zero, List.cons_append, List.nil_append, List.length_cons, List.length_nil, Nat.zero_add, Nat.reduceAdd]
       simp only [q5]
       try simp only [← q6]
       cbv
       first | exact h_l_3 hp stk | (have q := h_l_3 hp stk; simp only [A_block_Value_3, h.map_cons, h.map_nil, h.mapE_nil, h.len_nil, he_e_string] at q; first | exact q | (cbv; exact q))
def b_block_Value_3 (P : Prims) (c_strings_ReplaceAll : Str → Str → Str → Option (Str)) (c_text_Lines__0 : Str → Option (Nat × (List Str))) (c_block_Indent__0 : Nat → (List Str) → Option (Int)) (c_block_empty : Str → Option (Bool)) (c_strings_Join : (List Str) → Str → Option (Str))  (o8_3_g : Nat) (o8_3 : (List Str)) (v4 v12 v13 : Int) : Option ((Nat × (List Str) × Int × Int × Int) ⊕ (Str)) :=
 some (.inl (o8_3_g, o8_3, v4, v12, P.ar .add .i64 v13 1))
theorem o_block_Value_3  (o8_3_g : Nat) (o8_3 : (List Str)) (v4 v12 v13 : Int)   {out} (hp : b_block_Value_3 PP c_strings_ReplaceAll c_text_Lines__0 c_block_Indent__0 c_block_empty c_strings_Join  o8_3_g o8_3 v4 v12 v13 = some out) : (A_block_Value_3 xat @xmap xlen e_string m  o8_3_g o8_3 v4 v12 v13 stk) = (Sum.elim (fun (o8_3_g, o8_3, v4, v12, v13) => (A_block_Value_1 xat @xmap xlen e_string m  o8_3_g o8_3 v4 v12 v13 stk)) (O_block_Value  m  stk)) out := by
 subst hPP
 simp only [b_block_Value_3] at hp
 unfold A_block_Value_3
 rw [h.at_, hT]
 cbv
 cases hp
 all_goals first | rfl | (cbv; done) | (simp only [h.nadd0, h.nle_refl, h.cut_all, h.cut_nil, h.map_cons, h.map_nil, h.mapE_nil, h.len_nil, he_e_string, O_block_Value, A_block_Value_1, if_true]; first | done | rfl | (cbv; done) | (cbv; simp only [h.map_cons, h.map_nil, h.mapE_nil, h.len_nil, he_e_string, O_block_Value, A_block_Value_1]; done))
def b_block_Value_5 (P : Prims) (c_strings_ReplaceAll : Str → Str → Str → Option (Str)) (c_text_Lines__0 : Str → Option (Nat × (List Str))) (c_block_Indent__0 : Nat → (List Str) → Option (Int)) (c_block_empty : Str → Option (Bool)) (c_strings_Join : (List Str) → Str → Option (Str)) (l_6 : T_block_Value_6) (l_7 : T_block_Value_7) (o8_3_g : Nat) (o8_3 : (List Str)) : Option ((Nat × (List Str)) ⊕ (Str)) :=
 match P.cmp .gtr (P.len o8_3) 0 with
 | false =>
  match l_7 o8_3 with | none => none | some o33 => some (.inr o33)
 | true =>
  match P.idx o8_3 0 with
  | none => none
  | some a27 =>
   match c_block_empty a27 with
   | none => none
   | some r29_0 =>
    match r29_0 with
    | false =>
     match l_7 o8_3 with | none => none | some o32 => some (.inr o32)
    | true =>
     l_6 o8_3
theorem o_block_Value_5 (l_6 : T_block_Value_6) (l_7 : T_block_Value_7) (o8_3_g : Nat) (o8_3 : (List Str))  (h_l_6 : H_block_Value_6 xat @xmap xlen e_string m  l_6) (h_l_7 : H_block_Value_7 xat @xmap e_string m  l_7) {out} (hp : b_block_Value_5 PP c_strings_ReplaceAll c_text_Lines__0 c_block_Indent__0 c_block_empty c_strings_Join l_6 l_7 o8_3_g o8_3 = some out) : (A_block_Value_5 xat @xmap xlen e_string m  o8_3_g o8_3 stk) = (Sum.elim (fun (o8_3_g, o8_3) => (A_block_Value_5 xat @xmap xlen e_string m  o8_3_g o8_3 stk)) (O_block_Value  m  stk)) out := by
 subst hPP
 simp only [b_block_Value_5] at hp
 unfold A_block_Value_5
 rw [h.at_, hT]
 cbv
 simp only [h.nadd0, h.nle_refl, h.cut_all, if_true]
 cbv
 try simp only [h.len]
 cases c26 : xcmp .gtr (plen o8_3) 0 with
 | false =>
  simp only [c26] at hp ⊢
  cbv
  cases c : l_7 o8_3 with
  | none => simp only [c] at hp; cases hp
  | some o33 =>
   simp only [c] at hp
   cases hp
   first | exact h_l_7 c stk | (have q := h_l_7 c stk; simp only [A_block_Value_7, h.map_cons, h.map_nil, h.mapE_nil, h.len_nil, he_e_string] at q; first | exact q | (cbv; exact q))
 | true =>
  simp only [c26] at hp ⊢
  cbv
  cases c28 : pidx o8_3 0 with
  | none => simp only [c28] at hp; cases hp
  | some a27 =>
   simp only [c28] at hp
   obtain ⟨q1, q2⟩ := h.idx e_string c28
   simp only [he_e_string] at q2
   simp only [q1, Bool.false_eq_true, if_false]
   cbv
   try simp only [q2]
   cbv
   cases c30 : c_block_empty a27 with
   | none => simp only [c30] at hp; cases hp
   | some r29_0 =>
    simp only [c30] at hp
    have qc := fun s => (h_block_empty c30 s).1
    simp only [qc]
    cbv
    cases r29_0 with
    | false =>
     simp only at hp
     cbv
     cases c : l_7 o8_3 with
     | none => simp only [c] at hp; cases hp
     | some o32 =>
      simp only [c] at hp
      cases hp
      first | exact h_l_7 c stk | (have q := h_l_7 c stk; simp only [A_block_Value_7, h.map_cons, h.map_nil, h.mapE_nil, h.len_nil, he_e_string] at q; first | exact q | (cbv; exact q))
    | true =>
     simp only at hp
     cbv
     first | exact h_l_6 hp stk | (have q := h_l_6 hp stk; simp only [A_block_Value_6, h.map_cons, h.map_nil, h.mapE_nil, h.len_nil, he_e_string] at q; first | exact q | (cbv; exact q))
def b_block_Value_6 (P : Prims) (c_strings_ReplaceAll : Str → Str → Str → Option (Str)) (c_text_Lines__0 : Str → Option (Nat × (List Str))) (c_block_Indent__0 : Nat → (List Str) → Option (Int)) (c_block_empty : Str → Option (Bool)) (c_strings_Join : (List Str) → Str → Option (Str)) (l_11 : T_block_Value_11) (v3 : (List Str)) : Option ((Nat × (List Str)) ⊕ (Str)) :=
 match P.sub v3 (some 1) none with
 | none => none
 | some s34 =>
  match l_11 s34 with | none => none | some o36 => some (.inr o36)
theorem o_block_Value_6 (l_11 : T_block_Value_11) (v3 : (List Str))  (h_l_11 : H_block_Value_11 xat @xmap e_string m  l_11) {out} (hp : b_block_Value_6 PP c_strings_ReplaceAll c_text_Lines__0 c_block_Indent__0 c_block_empty c_strings_Join l_11 v3 = some out) : (A_block_Value_6 xat @xmap e_string m  v3 stk) = (Sum.elim (fun (o8_3_g, o8_3) => (A_block_Value_5 xat @xmap xlen e_string m  o8_3_g o8_3 stk)) (O_block_Value  m  stk)) out := by
 subst hPP
 simp only [b_block_Value_6] at hp
 unfold A_block_Value_6
 rw [h.at_, hT]
 cbv
 cases c35 : psub v3 (some 1) none with
 | none => simp only [c35] at hp; cases hp
 | some s34 =>
  simp only [c35] at hp
  obtain ⟨q0, q1, q2, q3⟩ := h.sub1 e_string c35
  simp only [q0, q1, q2, q3, Bool.false_eq_true, if_false, if_true, hz_e_string]
  cbv
  try simp only [q0, q1, q2, q3, if_true, hz_e_string]
  cbv
  cases c : l_11 s34 with
  | none => simp only [c] at hp; cases hp
  | some o36 =>
   simp only [c] at hp
   cases hp
   first | exact h_l_11 c stk | (have q := h_l_11 c stk; simp only [A_block_Value_11, h.map_cons, h.map_nil, h.mapE_nil, h.len_nil, he_e_string] at q; first | exact q | (cbv; exact q))
def b_block_Value_7 (P : Prims) (c_strings_ReplaceAll : Str → Str → Str → Option (Str)) (c_text_Lines__0 : Str → Option (Nat × (List Str))) (c_block_Indent__0 : Nat → (List Str) → Option (Int)) (c_block_empty : Str → Option (Bool)) (c_strings_Join : (List Str) → Str → Option (Str)) (l_8 : T_block_Value_8) (v3 : (List Str)) : Option (Str) :=
 l_8 v3
theorem o_block_Value_7 (l_8 : T_block_Value_8) (v3 : (List Str))  (h_l_8 : H_block_Value_8 xat @xmap e_string m  l_8) {out} (hp : b_block_Value_7 PP c_strings_ReplaceAll c_text_Lines__0 c_block_Indent__0 c_block_empty c_strings_Join l_8 v3 = some out) : (A_block_Value_7 xat @xmap e_string m  v3 stk) = (O_block_Value  m  stk) out := by
 subst hPP
 simp only [b_block_Value_7] at hp
 unfold A_block_Value_7
 rw [h.at_, hT]
 cbv
 first | exact h_l_8 hp stk | (have q := h_l_8 hp stk; simp only [A_block_Value_8, h.map_cons, h.map_nil, h.mapE_nil, h.len_nil, he_e_string] at q; first | exact q | (cbv; exact q))
def b_block_Value_11 (P : Prims) (c_strings_ReplaceAll : Str → Str → Str → Option (Str)) (c_text_Lines__0 : Str → Option (Nat × (List Str))) (c_block_Indent__0 : Nat → (List Str) → Option (Int)) (c_block_empty : Str → Option (Bool)) (c_strings_Join : (List Str) → Str → Option (Str)) (l_7 : T_block_Value_7) (l_12 : T_block_Value_12) (v3 : (List Str)) : Option (((List Str)) ⊕ (Str)) :=
 match P.cmp .gtr (P.len v3) 0 with
 | false =>
  match l_7 v3 with | none => none | some o44 => some (.inr o44)
 | true =>
  match P.idx v3 0 with
  | none => none
  | some a38 =>
   match c_block_empty a38 with
   | none => none
   | some r40_0 =>
    match r40_0 with
    | false =>
     match l_7 v3 with | none => none | some o43 => some (.inr o43)
    | true =>
     l_12 v3
theorem o_block_Value_11 (l_7 : T_block_Value_7) (l_12 : T_block_Value_12) (v3 : (List Str))  (h_l_7 : H_block_Value_7 xat @xmap e_string m  l_7) (h_l_12 : H_block_Value_12 xat @xmap e_string m  l_12) {out} (hp : b_block_Value_11 PP c_strings_ReplaceAll c_text_Lines__0 c_block_Indent__0 c_block_empty c_strings_Join l_7 l_12 v3 = some out) : (A_block_Value_11 xat @xmap e_string m  v3 stk) = (Sum.elim (fun v3 => (A_block_Value_11 xat @xmap e_string m  v3 stk)) (O_block_Value  m  stk)) out := by
 subst hPP
 simp only [b_block_Value_11] at hp
 unfold A_block_Value_11
 rw [h.at_, hT]
 cbv
 try simp only [h.len]
 cases c37 : xcmp .gtr (plen v3) 0 with
 | false =>
  simp only [c37] at hp ⊢
  cbv
  cases c : l_7 v3 with
  | none => simp only [c] at hp; cases hp
  | some o44 =>
   simp only [c] at hp
   cases hp
   first | exact h_l_7 c stk | (have q := h_l_7 c stk; simp only [A_block_Value_7, h.map_cons, h.map_nil, h.mapE_nil, h.len_nil, he_e_string] at q; first | exact q | (cbv; exact q))
 | true =>
  simp only [c37] at hp ⊢
  cbv
  cases c39 : pidx v3 0 with
  | none => simp only [c39] at hp; cases hp
  | some a38 =>
   simp only [c39] at hp
   obtain ⟨q1, q2⟩ := h.idx e_string c39
   simp only [he_e_string] at q2
   simp only [q1, Bool.false_eq_true, if_false]
   cbv
   try simp only [q2]
   cbv
   cases c41 : c_block_empty a38 with
   | none => simp only [c41] at hp; cases hp
   | some r40_0 =>
    simp only [c41] at hp
    have qc := fun s => (h_block_empty c41 s).1
    simp only [qc]
    cbv
    cases r40_0 with
    | false =>
     simp only at hp
     cbv
     cases c : l_7 v3 with
     | none => simp only [c] at hp; cases hp
     | some o43 =>
      simp only [c] at hp
      cases hp
      first | exact h_l_7 c stk | (have q := h_l_7 c stk; simp only [A_block_Value_7, h.map_cons, h.map_nil, h.mapE_nil, h.len_nil, he_e_string] at q; first | exact q | (cbv; exact q))
    | true =>
     simp only at hp
     cbv
     first | exact h_l_12 hp stk | (have q := h_l_12 hp stk; simp only [A_block_Value_12, h.map_cons, h.map_nil, h.mapE_nil, h.len_nil, he_e_string] at q; first | exact q | (cbv; exact q))
def b_block_Value_8 (P : Prims) (c_strings_ReplaceAll : Str → Str → Str → Option (Str)) (c_text_Lines__0 : Str → Option (Nat × (List Str))) (c_block_Indent__0 : Nat → (List Str) → Option (Int)) (c_block_empty : Str → Option (Bool)) (c_strings_Join : (List Str) → Str → Option (Str)) (l_10 : T_block_Value_10) (v3 : (List Str)) : Option (((List Str)) ⊕ (Str)) :=
 match P.cmp .gtr (P.len v3) 0 with
 | false =>
  match l_10 v3 with | none => none | some o54 => some (.inr o54)
 | true =>
  match P.idx v3 (P.ar .sub .i64 (P.len v3) 1) with
  | none => none
  | some a46 =>
   match c_block_empty a46 with
   | none => none
   | some r48_0 =>
    match r48_0 with
    | false =>
     match l_10 v3 with | none => none | some o53 => some (.inr o53)
    | true =>
     match P.sub v3 none (some (P.ar .sub .i64 (P.len v3) 1)) with
     | none => none
     | some s51 =>
      some (.inl s51)
theorem o_block_Value_8 (l_10 : T_block_Value_10) (v3 : (List Str))  (h_l_10 : H_block_Value_10 xat @xmap e_string m  l_10) {out} (hp : b_block_Value_8 PP c_strings_ReplaceAll c_text_Lines__0 c_block_Indent__0 c_block_empty c_strings_Join l_10 v3 = some out) : (A_block_Value_8 xat @xmap e_string m  v3 stk) = (Sum.elim (fun v3 => (A_block_Value_8 xat @xmap e_string m  v3 stk)) (O_block_Value  m  stk)) out := by
 subst hPP
 simp only [b_block_Value_8] at hp
 unfold A_block_Value_8
 rw [h.at_, hT]
 cbv
 try simp only [h.len]
 cases c45 : xcmp .gtr (plen v3) 0 with
 | false =>
  simp only [c45] at hp ⊢
  cbv
  cases c : l_10 v3 with
  | none => simp only [c] at hp; cases hp
  | some o54 =>
   simp only [c] at hp
   cases hp
   first | exact h_l_10 c stk | (have q := h_l_10 c stk; simp only [A_block_Value_10, h.map_cons, h.map_nil, h.mapE_nil, h.len_nil, he_e_string] at q; first | exact q | (cbv; exact q))
 | true =>
  simp only [c45] at hp ⊢
  cbv
  try simp only [h.len]
  cases c47 : pidx v3 (xar .sub .i64 (plen v3) 1) with
  | none => simp only [c47] at hp; cases hp
  | some a46 =>
   simp only [c47] at hp
   obtain ⟨q1, q2⟩ := h.idx e_string c47
   simp only [he_e_string] at q2
   simp only [q1, Bool.false_eq_true, if_false]
   cbv
   try simp only [q2]
   cbv
   cases c49 : c_block_empty a46 with
   | none => simp only [c49] at hp; cases hp
   | some r48_0 =>
    simp only [c49] at hp
    have qc := fun s => (h_block_empty c49 s).1
    simp only [qc]
    cbv
    cases r48_0 with
    | false =>
     simp only at hp
     cbv
     cases c : l_10 v3 with
     | none => simp only [c] at hp; cases hp
     | some o53 =>
      simp only [c] at hp
      cases hp
      first | exact h_l_10 c stk | (have q := h_l_10 c stk; simp only [A_block_Value_10, h.map_cons, h.map_nil, h.mapE_nil, h.len_nil, he_e_string] at q; first | exact q | (cbv; exact q))
    | true =>
     simp only at hp
     cbv
     rw [h.at_, hT]
     cbv
     try simp only [h.len]
     cases c52 : psub v3 none (some (xar .sub .i64 (plen v3) 1)) with
     | none => simp only [c52] at hp; cases hp
     | some s51 =>
      simp only [c52] at hp
      obtain ⟨q0, q1, q2, q3⟩ := h.sub0 e_string c52
      simp only [q0, q1, q2, q3, Bool.false_eq_true, if_false, if_true, hz_e_string]
      cbv
      try simp only [q0, q1, q2, q3, if_true, hz_e_string]
      cbv
      cases hp
      all_goals first | rfl | (cbv; done)
def b_block_Value_12 (P : Prims) (c_strings_ReplaceAll : Str → Str → Str → Option (Str)) (c_text_Lines__0 : Str → Option (Nat × (List Str))) (c_block_Indent__0 : Nat → (List Str) → Option (Int)) (c_block_empty : Str → Option (Bool)) (c_strings_Join : (List Str) → Str → Option (Str))  (v3 : (List Str)) : Option (((List Str)) ⊕ (Str)) :=
 match P.sub v3 (some 1) none with
 | none => none
 | some s55 =>
  some (.inl s55)
theorem o_block_Value_12  (v3 : (List Str))   {out} (hp : b_block_Value_12 PP c_strings_ReplaceAll c_text_Lines__0 c_block_Indent__0 c_block_empty c_strings_Join  v3 = some out) : (A_block_Value_12 xat @xmap e_string m  v3 stk) = (Sum.elim (fun v3 => (A_block_Value_11 xat @xmap e_string m  v3 stk)) (O_block_Value  m  stk)) out := by
 subst hPP
 simp only [b_block_Value_12] at hp
 unfold A_block_Value_12
 rw [h.at_, hT]
 cbv
 cases c56 : psub v3 (some 1) none with
 | none => simp only [c56] at hp; cases hp
 | some s55 =>
  simp only [c56] at hp
  obtain ⟨q0, q1, q2, q3⟩ := h.sub1 e_string c56
  simp only [q0, q1, q2, q3, Bool.false_eq_true, if_false, if_true, hz_e_string]
  cbv
  try simp only [q0, q1, q2, q3, if_true, hz_e_string]
  cbv
  cases hp
  all_goals first | rfl | (cbv; done)
def b_block_Value_10 (P : Prims) (c_strings_ReplaceAll : Str → Str → Str → Option (Str)) (c_text_Lines__0 : Str → Option (Nat × (List Str))) (c_block_Indent__0 : Nat → (List Str) → Option (Int)) (c_block_empty : Str → Option (Bool)) (c_strings_Join : (List Str) → Str → Option (Str))  (v3 : (List Str)) : Option (Str) :=
 match c_strings_Join v3 [10] with
 | none => none
 | some r57_0 =>
  some r57_0
theorem o_block_Value_10  (v3 : (List Str))   {out} (hp : b_block_Value_10 PP c_strings_ReplaceAll c_text_Lines__0 c_block_Indent__0 c_block_empty c_strings_Join  v3 = some out) : (A_block_Value_10 xat @xmap e_string m  v3 stk) = (O_block_Value  m  stk) out := by
 subst hPP
 simp only [b_block_Value_10] at hp
 unfold A_block_Value_10
 rw [h.at_, hT]
 cbv
 cases c58 : c_strings_Join v3 [10] with
 | none => simp only [c58] at hp; cases hp
 | some r57_0 =>
  simp only [c58] at hp
  have qc := fun s => (h_strings_Join c58 s).1
  simp only [qc]
  cbv
  cases hp
  all_goals first | rfl | (cbv; done)
end
def b_block_Indent_0 (P : Prims) (c_block_lead : Str → Option (Int × Bool)) (l_1 : T_block_Indent_1) (v0 : (List Str)) : Option (Int) :=
 l_1 0 false v0 (P.len v0) 0
section
variable (c_block_lead : Str → Option (Int × Bool)) (h_block_lead : (C_block_lead xpcall xfcall c_block_lead)) (stk : Stk) (m : Nat)   
include c_block_lead h_block_lead stk m  
theorem o_block_Indent_0 (l_1 : T_block_Indent_1) (v0 : (List Str))  (h_l_1 : H_block_Indent_1 xat @xmap e_string m  l_1) {out} (hp : b_block_Indent_0 PP c_block_lead l_1 v0 = some out) : (A_block_Indent_0 xat @xmap e_string m  v0 stk) = (O_block_Indent  m  stk) out := by
 subst hPP
 simp only [b_block_Indent_0] at hp
 unfold A_block_Indent_0
 rw [h.at_, hT]
 cbv
 try simp only [h.len]
 first | exact h_l_1 hp stk | (have q := h_l_1 hp stk; simp only [A_block_Indent_1, h.map_cons, h.map_nil, h.mapE_nil, h.len_nil, he_e_string] at q; first | exact q | (cbv; exact q))
def b_block_Indent_1 (P : Prims) (c_block_lead : Str → Option (Int × Bool)) (l_4 : T_block_Indent_4) (l_5 : T_block_Indent_5) (v3 : Int) (v4 : Bool) (v9 : (List Str)) (v10 v11 : Int) : Option ((Int × Bool × (List Str) × Int × Int) ⊕ (Int)) :=
 match P.cmp .lss v11 v10 with
 | false =>
  some (.inr v3)
 | true =>
  match P.idx v9 v11 with
  | none => none
  | some a2 =>
   match c_block_lead a2 with
   | none => none
   | some (r4_0, r4_1) =>
    match P.cmp .eql v11 0 with
    | false =>
     match r4_1 with
     | false =>
      l_5 v3 v4 v9 v10 v11
     | true =>
      match v4 with
      | false =>
       l_4 r4_0 v9 v10 v11
      | true =>
       match P.cmp .lss r4_0 v3 with
       | false =>
        l_4 v3 v9 v10 v11
       | true =>
        l_4 r4_0 v9 v10 v11
    | true =>
     l_5 v3 v4 v9 v10 v11
theorem o_block_Indent_1 (l_4 : T_block_Indent_4) (l_5 : T_block_Indent_5) (v3 : Int) (v4 : Bool) (v9 : (List Str)) (v10 v11 : Int)  (h_l_4 : H_block_Indent_4 xat @xmap e_string m  l_4) (h_l_5 : H_block_Indent_5 xat @xmap e_string m  l_5) {out} (hp : b_block_Indent_1 PP c_block_lead l_4 l_5 v3 v4 v9 v10 v11 = some out) : (A_block_Indent_1 xat @xmap e_string m  v3 v4 v9 v10 v11 stk) = (Sum.elim (fun (v3, v4, v9, v10, v11) => (A_block_Indent_1 xat @xmap e_string m  v3 v4 v9 v10 v11 stk)) (O_block_Indent  m  stk)) out := by
 subst hPP
 simp only [b_block_Indent_1] at hp
 unfold A_block_Indent_1
 rw [h.at_, hT]
 cbv
 cases c1 : xcmp .lss v11 v10 with
 | false =>
  simp only [c1] at hp ⊢
  cbv
  rw [h.at_, hT]
  cbv
  cases hp
  all_goals first | rfl | (cbv; done)
 | true =>
  simp only [c1] at hp ⊢
  cbv
  rw [h.at_, hT]
  cbv
  cases c3 : pidx v9 v11 with
  | none => simp only [c3] at hp; cases hp
  | some a2 =>
   simp only [c3] at hp
   obtain ⟨q1, q2⟩ := h.idx e_string c3
   simp only [he_e_string] at q2
   simp only [q1, Bool.false_eq_true, if_false]
   cbv
   try simp only [q2]
   cbv
   cases c5 : c_block_lead a2 with
   | none => simp only [c5] at hp; cases hp
   | some y10 =>
    obtain ⟨r4_0, r4_1⟩ := y10
    simp only [c5] at hp
    have qc := fun s => (h_block_lead c5 s).1
    simp only [qc]
    cbv
    cases c6 : xcmp .eql v11 0 with
    | false =>
     simp only [c6] at hp ⊢
     cbv
     cases r4_1 with
     | false =>
      simp only at hp
      cbv
      first | exact h_l_5 hp stk | (have q := h_l_5 hp stk; simp only [A_block_Indent_5, h.map_cons, h.map_nil, h.mapE_nil, h.len_nil, he_e_string] at q; first | exact q | (cbv; exact q))
     | true =>
      simp only at hp
      cbv
      rw [h.at_, hT]
      cbv
      cases v4 with
      | false =>
       simp only at hp
       cbv
       first | exact h_l_4 hp stk | (have q := h_l_4 hp stk; simp only [A_block_Indent_4, h.map_cons, h.map_nil, h.mapE_nil, h.len_nil, he_e_string] at q; first | exact q | (cbv; exact q))
      | true =>
       simp only at hp
       cbv
       cases c9 : xcmp .lss r4_0 v3 with
       | false =>
        simp only [c9] at hp ⊢
        cbv
        first | exact h_l_4 hp stk | (have q := h_l_4 hp stk; simp only [A_block_Indent_4, h.map_cons, h.map_nil, h.mapE_nil, h.len_nil, he_e_string] at q; first | exact q | (cbv; exact q))
       | true =>
        simp only [c9] at hp ⊢
        cbv
        first | exact h_l_4 hp stk | (have q := h_l_4 hp stk; simp only [A_block_Indent_4, h.map_cons, h.map_nil, h.mapE_nil, h.len_nil, he_e_string] at q; first | exact q | (cbv; exact q))
    | true =>
     simp only [c6] at hp ⊢
     cbv
     first | exact h_l_5 hp stk | (have q := h_l_5 hp stk; simp only [A_block_Indent_5, h.map_cons, h.map_nil, h.mapE_nil, h.len_nil, he_e_string] at q; first | exact q | (cbv; exact q))
def b_block_Indent_5 (P : Prims) (c_block_lead : Str → Option (Int × Bool))  (v3 : Int) (v4 : Bool) (v9 : (List Str)) (v10 v11 : Int) : Option ((Int × Bool × (List Str) × Int × Int) ⊕ (Int)) :=
 some (.inl (v3, v4, v9, v10, P.ar .add .i64 v11 1))
theorem o_block_Indent_5  (v3 : Int) (v4 : Bool) (v9 : (List Str)) (v10 v11 : Int)   {out} (hp : b_block_Indent_5 PP c_block_lead  v3 v4 v9 v10 v11 = some out) : (A_block_Indent_5 xat @xmap e_string m  v3 v4 v9 v10 v11 stk) = (Sum.elim (fun (v3, v4, v9, v10, v11) => (A_block_Indent_1 xat @xmap e_string m  v3 v4 v9 v10 v11 stk)) (O_block_Indent  m  stk)) out := by
 subst hPP
 simp only [b_block_Indent_5] at hp
 unfold A_block_Indent_5
 rw [h.at_, hT]
 cbv
 cases hp
 all_goals first | rfl | (cbv; done)
def b_block_Indent_4 (P : Prims) (c_block_lead : Str → Option (Int × Bool)) (l_5 : T_block_Indent_5) (v3 : Int) (v9 : (List Str)) (v10 v11 : Int) : Option ((Int × Bool × (List Str) × Int × Int) ⊕ (Int)) :=
 l_5 v3 true v9 v10 v11
theorem o_block_Indent_4 (l_5 : T_block_Indent_5) (v3 : Int) (v9 : (List Str)) (v10 v11 : Int)  (h_l_5 : H_block_Indent_5 xat @xmap e_string m  l_5) {out} (hp : b_block_Indent_4 PP c_block_lead l_5 v3 v9 v10 v11 = some out) : (A_block_Indent_4 xat @xmap e_string m  v3 v9 v10 v11 stk) = (Sum.elim (fun (v3, v4, v9, v10, v11) => (A_block_Indent_1 xat @xmap e_string m  v3 v4 v9 v10 v11 stk)) (O_block_Indent  m  stk)) out := by
 subst hPP
 simp only [b_block_Indent_4] at hp
 unfold A_block_Indent_4
 rw [h.at_, hT]
 cbv
 first | exact h_l_5 hp stk | (have q := h_l_5 hp stk; simp only [A_block_Indent_5, h.map_cons, h.map_nil, h.mapE_nil, h.len_nil, he_e_string] at q; first | exact q | (cbv; exact q))
end
def b_cascadelaw07_awake_0 (P : Prims) (c_block_Value : Str → Option (Str)) (c_block_Indent : (List Str) → Option (Int))   : Option (Bool) :=
 match c_block_Value [10, 32, 32, 97] with
 | none => none
 | some r1_0 =>
  match P.seq r1_0 [97] with
  | false =>
   some false
  | true =>
   match c_block_Indent [[], [32, 98]] with
   | none => none
   | some r4_0 =>
    some (P.cmp .eql r4_0 1)
section
variable (c_block_Value : Str → Option (Str)) (c_block_Indent : (List Str) → Option (Int)) (h_block_Value : (C_block_Value xpcall xfcall c_block_Value)) (h_block_Indent : (C_block_Indent xpcall xfcall @xmap e_string c_block_Indent)) (stk : Stk) (m : Nat)   
include c_block_Value c_block_Indent h_block_Value h_block_Indent stk m  
theorem o_cascadelaw07_awake_0     {out} (hp : b_cascadelaw07_awake_0 PP c_block_Value c_block_Indent   = some out) : (A_cascadelaw07_awake_0 xat m   stk) = (O_cascadelaw07_awake  m  stk) out := by
 subst hPP
 simp only [b_cascadelaw07_awake_0] at hp
 unfold A_cascadelaw07_awake_0
 rw [h.at_, hT]
 cbv
 cases c2 : c_block_Value [10, 32, 32, 97] with
 | none => simp only [c2] at hp; cases hp
 | some r1_0 =>
  simp only [c2] at hp
  have qc := fun s => (h_block_Value c2 s).1
  simp only [qc]
  cbv
  cases c3 : xseq r1_0 [97] with
  | false =>
   simp only [c3] at hp ⊢
   cbv
   cases hp
   all_goals first | rfl | (cbv; done)
  | true =>
   simp only [c3] at hp ⊢
   cbv
   simp only [h.allsz_nil, h.allsz_cons]
   cbv
   cases c5 : c_block_Indent [[], [32, 98]] with
   | none => simp only [c5] at hp; cases hp
   | some r4_0 =>
    simp only [c5] at hp
    have qc := fun s => (h_block_Indent c5 s).1
    try simp only [h.map_cons, h.map_nil, he_e_string] at qc
    simp only [qc]
    cbv
    cases hp
    all_goals first | rfl | (cbv; done)
end
def b_cascaderef07_first_0 (P : Prims)  (l_1 : T_cascaderef07_first_1) (v0 : Str) : Option (Int) :=
 l_1 v0 0
section
variable   (stk : Stk) (m : Nat)   
include   stk m  
theorem o_cascaderef07_first_0 (l_1 : T_cascaderef07_first_1) (v0 : Str)  (h_l_1 : H_cascaderef07_first_1 xat m  l_1) {out} (hp : b_cascaderef07_first_0 PP  l_1 v0 = some out) : (A_cascaderef07_first_0 xat m  v0 stk) = (O_cascaderef07_first  m  stk) out := by
 subst hPP
 simp only [b_cascaderef07_first_0] at hp
 unfold A_cascaderef07_first_0
 rw [h.at_, hT]
 cbv
 first | exact h_l_1 hp stk | (have q := h_l_1 hp stk; simp only [A_cascaderef07_first_1, h.map_cons, h.map_nil, h.mapE_nil, h.len_nil, he_e_string] at q; first | exact q | (cbv; exact q))
def b_cascaderef07_first_1 (P : Prims)  (l_3 : T_cascaderef07_first_3) (v0 : Str) (v3 : Int) : Option ((Str × Int) ⊕ (Int)) :=
 match P.cmp .lss v3 (P.slen v0) with
 | false =>
  some (.inr (P.slen v0))
 | true =>
  match P.sidx v0 v3 with
  | none => none
  | some b2 =>
   match P.cmp .neq b2 32 with
   | false =>
    l_3 v0 v3
   | true =>
    match P.cmp .neq b2 9 with
    | false =>
     l_3 v0 v3
    | true =>
     some (.inr v3)
theorem o_cascaderef07_first_1 (l_3 : T_cascaderef07_first_3) (v0 : Str) (v3 : Int)  (h_l_3 : H_cascaderef07_first_3 xat m  l_3) {out} (hp : b_cascaderef07_first_1 PP  l_3 v0 v3 = some out) : (A_cascaderef07_first_1 xat m  v0 v3 stk) = (Sum.elim (fun (v0, v3) => (A_cascaderef07_first_1 xat m  v0 v3 stk)) (O_cascaderef07_first  m  stk)) out := by
 subst hPP
 simp only [b_cascaderef07_first_1] at hp
 unfold A_cascaderef07_first_1
 rw [h.at_, hT]
 cbv
 try simp only [h.slen]
 cases c1 : xcmp .lss v3 (pslen v0) with
 | false =>
  simp only [c1] at hp ⊢
  cbv
  rw [h.at_, hT]
  cbv
  try simp only [h.slen]
  cases hp
  all_goals first | rfl | (cbv; done)
 | true =>
  simp only [c1] at hp ⊢
  cbv
  rw [h.at_, hT]
  cbv
  cases c3 : psidx v0 v3 with
  | none => simp only [c3] at hp; cases hp
  | some b2 =>
   simp only [c3] at hp
   obtain ⟨w, q1, q2, q3⟩ := h.sidx c3
   simp only [q1, q2, q3, Bool.false_eq_true, if_false]
   cbv
   cases c4 : xcmp .neq b2 32 with
   | false =>
    simp only [c4] at hp ⊢
    cbv
    first | exact h_l_3 hp stk | (have q := h_l_3 hp stk; simp only [A_cascaderef07_first_3, h.map_cons, h.map_nil, h.mapE_nil, h.len_nil, he_e_string] at q; first | exact q | (cbv; exact q))
   | true =>
    simp only [c4] at hp ⊢
    cbv
    obtain ⟨w, q1, q2, q3⟩ := h.sidx c3
    simp only [q1, q2, q3, Bool.false_eq_true, if_false]
    cbv
    cases c5 : xcmp .neq b2 9 with
    | false =>
     simp only [c5] at hp ⊢
     cbv
     first | exact h_l_3 hp stk | (have q := h_l_3 hp stk; simp only [A_cascaderef07_first_3, h.map_cons, h.map_nil, h.mapE_nil, h.len_nil, he_e_string] at q; first | exact q | (cbv; exact q))
    | true =>
     simp only [c5] at hp ⊢
     cbv
     cases hp
     all_goals first | rfl | (cbv; done)
def b_cascaderef07_first_3 (P : Prims)   (v0 : Str) (v3 : Int) : Option ((Str × Int) ⊕ (Int)) :=
 some (.inl (v0, P.ar .add .i64 v3 1))
theorem o_cascaderef07_first_3  (v0 : Str) (v3 : Int)   {out} (hp : b_cascaderef07_first_3 PP   v0 v3 = some out) : (A_cascaderef07_first_3 xat m  v0 v3 stk) = (Sum.elim (fun (v0, v3) => (A_cascaderef07_first_1 xat m  v0 v3 stk)) (O_cascaderef07_first  m  stk)) out := by
 subst hPP
 simp only [b_cascaderef07_first_3] at hp
 unfold A_cascaderef07_first_3
 rw [h.at_, hT]
 cbv
 cases hp
 all_goals first | rfl | (cbv; done)
end
def b_cascaderef07_Indent_0 (P : Prims) (c_cascaderef07_first : Str → Option (Int)) (l_1 : T_cascaderef07_Indent_1) (v0 : (List Str)) : Option (Int) :=
 l_1 v0 (-1) 1
section
variable (c_cascaderef07_first : Str → Option (Int)) (h_cascaderef07_first : (C_cascaderef07_first xpcall xfcall c_cascaderef07_first)) (stk : Stk) (m : Nat)   
include c_cascaderef07_first h_cascaderef07_first stk m  
theorem o_cascaderef07_Indent_0 (l_1 : T_cascaderef07_Indent_1) (v0 : (List Str))  (h_l_1 : H_cascaderef07_Indent_1 xat @xmap e_string m  l_1) {out} (hp : b_cascaderef07_Indent_0 PP c_cascaderef07_first l_1 v0 = some out) : (A_cascaderef07_Indent_0 xat @xmap e_string m  v0 stk) = (O_cascaderef07_Indent  m  stk) out := by
 subst hPP
 simp only [b_cascaderef07_Indent_0] at hp
 unfold A_cascaderef07_Indent_0
 rw [h.at_, hT]
 cbv
 first | exact h_l_1 hp stk | (have q := h_l_1 hp stk; simp only [A_cascaderef07_Indent_1, h.map_cons, h.map_nil, h.mapE_nil, h.len_nil, he_e_string] at q; first | exact q | (cbv; exact q))
def b_cascaderef07_Indent_1 (P : Prims) (c_cascaderef07_first : Str → Option (Int)) (l_3 : T_cascaderef07_Indent_3) (v0 : (List Str)) (v3 v4 : Int) : Option (((List Str) × Int × Int) ⊕ (Int)) :=
 match P.cmp .lss v4 (P.len v0) with
 | false =>
  match P.cmp .gtr 0 v3 with
  | false =>
   some (.inr v3)
  | true =>
   some (.inr 0)
 | true =>
  match P.idx v0 v4 with
  | none => none
  | some a2 =>
   match c_cascaderef07_first a2 with
   | none => none
   | some r4_0 =>
    match P.cmp .lss r4_0 (P.slen a2) with
    | false =>
     l_3 v0 v3 v4
    | true =>
     match P.cmp .lss v3 0 with
     | false =>
      match P.cmp .lss r4_0 v3 with
      | false =>
       l_3 v0 v3 v4
      | true =>
       l_3 v0 r4_0 v4
     | true =>
      l_3 v0 r4_0 v4
theorem o_cascaderef07_Indent_1 (l_3 : T_cascaderef07_Indent_3) (v0 : (List Str)) (v3 v4 : Int)  (h_l_3 : H_cascaderef07_Indent_3 xat @xmap e_string m  l_3) {out} (hp : b_cascaderef07_Indent_1 PP c_cascaderef07_first l_3 v0 v3 v4 = some out) : (A_cascaderef07_Indent_1 xat @xmap e_string m  v0 v3 v4 stk) = (Sum.elim (fun (v0, v3, v4) => (A_cascaderef07_Indent_1 xat @xmap e_string m  v0 v3 v4 stk)) (O_cascaderef07_Indent  m  stk)) out := by
 subst hPP
 simp only [b_cascaderef07_Indent_1] at hp
 unfold A_cascaderef07_Indent_1
 rw [h.at_, hT]
 cbv
 try simp only [h.len]
 cases c1 : xcmp .lss v4 (plen v0) with
 | false =>
  simp only [c1] at hp ⊢
  cbv
  rw [h.at_, hT]
  cbv
  cases c9 : xcmp .gtr 0 v3 with
  | false =>
   simp only [c9] at hp ⊢
   cbv
   cases hp
   all_goals first | rfl | (cbv; done)
  | true =>
   simp only [c9] at hp ⊢
   cbv
   cases hp
   all_goals first | rfl | (cbv; done)
 | true =>
  simp only [c1] at hp ⊢
  cbv
  rw [h.at_, hT]
  cbv
  cases c3 : pidx v0 v4 with
  | none => simp only [c3] at hp; cases hp
  | some a2 =>
   simp only [c3] at hp
   obtain ⟨q1, q2⟩ := h.idx e_string c3
   simp only [he_e_string] at q2
   simp only [q1, Bool.false_eq_true, if_false]
   cbv
   try simp only [q2]
   cbv
   cases c5 : c_cascaderef07_first a2 with
   | none => simp only [c5] at hp; cases hp
   | some r4_0 =>
    simp only [c5] at hp
    have qc := fun s => (h_cascaderef07_first c5 s).1
    simp only [qc]
    cbv
    obtain ⟨q1, q2⟩ := h.idx e_string c3
    simp only [he_e_string] at q2
    simp only [q1, Bool.false_eq_true, if_false]
    cbv
    try simp only [q2]
    cbv
    try simp only [h.slen]
    cases c6 : xcmp .lss r4_0 (pslen a2) with
    | false =>
     simp only [c6] at hp ⊢
     cbv
     first | exact h_l_3 hp stk | (have q := h_l_3 hp stk; simp only [A_cascaderef07_Indent_3, h.map_cons, h.map_nil, h.mapE_nil, h.len_nil, he_e_string] at q; first | exact q | (cbv; exact q))
    | true =>
     simp only [c6] at hp ⊢
     cbv
     cases c7 : xcmp .lss v3 0 with
     | false =>
      simp only [c7] at hp ⊢
      cbv
      cases c8 : xcmp .lss r4_0 v3 with
      | false =>
       simp only [c8] at hp ⊢
       cbv
       first | exact h_l_3 hp stk | (have q := h_l_3 hp stk; simp only [A_cascaderef07_Indent_3, h.map_cons, h.map_nil, h.mapE_nil, h.len_nil, he_e_string] at q; first | exact q | (cbv; exact q))
      | true =>
       simp only [c8] at hp ⊢
       cbv
       first | exact h_l_3 hp stk | (have q := h_l_3 hp stk; simp only [A_cascaderef07_Indent_3, h.map_cons, h.map_nil, h.mapE_nil, h.len_nil, he_e_string] at q; first | exact q | (cbv; exact q))
     | true =>
      simp only [c7] at hp ⊢
      cbv
      first | exact h_l_3 hp stk | (have q := h_l_3 hp stk; simp only [A_cascaderef07_Indent_3, h.map_cons, h.map_nil, h.mapE_nil, h.len_nil, he_e_string] at q; first | exact q | (cbv; exact q))
def b_cascaderef07_Indent_3 (P : Prims) (c_cascaderef07_first : Str → Option (Int))  (v0 : (List Str)) (v3 v4 : Int) : Option (((List Str) × Int × Int) ⊕ (Int)) :=
 some (.inl (v0, v3, P.ar .add .i64 v4 1))
theorem o_cascaderef07_Indent_3  (v0 : (List Str)) (v3 v4 : Int)   {out} (hp : b_cascaderef07_Indent_3 PP c_cascaderef07_first  v0 v3 v4 = some out) : (A_cascaderef07_Indent_3 xat @xmap e_string m  v0 v3 v4 stk) = (Sum.elim (fun (v0, v3, v4) => (A_cascaderef07_Indent_1 xat @xmap e_string m  v0 v3 v4 stk)) (O_cascaderef07_Indent  m  stk)) out := by
 subst hPP
 simp only [b_cascaderef07_Indent_3] at hp
 unfold A_cascaderef07_Indent_3
 rw [h.at_, hT]
 cbv
 cases hp
 all_goals first | rfl | (cbv; done)
end
def b_cascadelaw07_BlockIndents_0 (P : Prims) (c_cascadelaw07_awake : Option (Bool)) (c_block_Indent : (List Str) → Option (Int)) (c_cascaderef07_Indent : (List Str) → Option (Int)) (l_2 : T_cascadelaw07_BlockIndents_2) (v0 : (List Str)) : Option (Bool) :=
 match c_cascadelaw07_awake with
 | none => none
 | some r1_0 =>
  match r1_0 with
  | false =>
   some r1_0
  | true =>
   match P.cmp .gtr (P.len v0) 20 with
   | false =>
    l_2 v0 0
   | true =>
    some r1_0
section
variable (c_cascadelaw07_awake : Option (Bool)) (c_block_Indent : (List Str) → Option (Int)) (c_cascaderef07_Indent : (List Str) → Option (Int)) (h_cascadelaw07_awake : (C_cascadelaw07_awake xpcall xfcall c_cascadelaw07_awake)) (h_block_Indent : (C_block_Indent xpcall xfcall @xmap e_string c_block_Indent)) (h_cascaderef07_Indent : (C_cascaderef07_Indent xpcall xfcall @xmap e_string c_cascaderef07_Indent)) (stk : Stk) (m : Nat)   
include c_cascadelaw07_awake c_block_Indent c_cascaderef07_Indent h_cascadelaw07_awake h_block_Indent h_cascaderef07_Indent stk m  
theorem o_cascadelaw07_BlockIndents_0 (l_2 : T_cascadelaw07_BlockIndents_2) (v0 : (List Str))  (h_l_2 : H_cascadelaw07_BlockIndents_2 xat @xmap e_string m  l_2) {out} (hp : b_cascadelaw07_BlockIndents_0 PP c_cascadelaw07_awake c_block_Indent c_cascaderef07_Indent l_2 v0 = some out) : (A_cascadelaw07_BlockIndents_0 xat @xmap e_string m  v0 stk) = (O_cascadelaw07_BlockIndents  m  stk) out := by
 subst hPP
 simp only [b_cascadelaw07_BlockIndents_0] at hp
 unfold A_cascadelaw07_BlockIndents_0
 rw [h.at_, hT]
 cbv
 cases c2 : c_cascadelaw07_awake with
 | none => simp only [c2] at hp; cases hp
 | some r1_0 =>
  simp only [c2] at hp
  have qc := fun s => (h_cascadelaw07_awake c2 s).1
  simp only [qc]
  cbv
  cases r1_0 with
  | false =>
   simp only at hp
   cbv
   have qc := fun s => (h_cascadelaw07_awake c2 s).1
   simp only [qc]
   cbv
   cases hp
   all_goals first | rfl | (cbv; done)
  | true =>
   simp only at hp
   cbv
   try simp only [h.len]
   cases c4 : xcmp .gtr (plen v0) 20 with
   | false =>
    simp only [c4] at hp ⊢
    cbv
    rw [h.at_, hT]
    cbv
    first | exact h_l_2 hp stk | (have q := h_l_2 hp stk; simp only [A_cascadelaw07_BlockIndents_2, h.map_cons, h.map_nil, h.mapE_nil, h.len_nil, he_e_string] at q; first | exact q | (cbv; exact q))
   | true =>
    simp only [c4] at hp ⊢
    cbv
    have qc := fun s => (h_cascadelaw07_awake c2 s).1
    simp only [qc]
    cbv
    cases hp
    all_goals first | rfl | (cbv; done)
def b_cascadelaw07_BlockIndents_2 (P : Prims) (c_cascadelaw07_awake : Option (Bool)) (c_block_Indent : (List Str) → Option (Int)) (c_cascaderef07_Indent : (List Str) → Option (Int))  (v0 : (List Str)) (v3 : Int) : Option (((List Str) × Int) ⊕ (Bool)) :=
 match P.cmp .lss v3 (P.len v0) with
 | false =>
  match c_block_Indent v0 with
  | none => none
  | some r9_0 =>
   match c_cascaderef07_Indent v0 with
   | none => none
   | some r11_0 =>
    some (.inr (P.cmp .eql r9_0 r11_0))
 | true =>
  match P.idx v0 v3 with
  | none => none
  | some a6 =>
   match P.cmp .gtr (P.slen a6) 100 with
   | false =>
    some (.inl (v0, P.ar .add .i64 v3 1))
   | true =>
    some (.inr true)
theorem o_cascadelaw07_BlockIndents_2  (v0 : (List Str)) (v3 : Int)   {out} (hp : b_cascadelaw07_BlockIndents_2 PP c_cascadelaw07_awake c_block_Indent c_cascaderef07_Indent  v0 v3 = some out) : (A_cascadelaw07_BlockIndents_2 xat @xmap e_string m  v0 v3 stk) = (Sum.elim (fun (v0, v3) => (A_cascadelaw07_BlockIndents_2 xat @xmap e_string m  v0 v3 stk)) (O_cascadelaw07_BlockIndents  m  stk)) out := by
 subst hPP
 simp only [b_cascadelaw07_BlockIndents_2] at hp
 unfold A_cascadelaw07_BlockIndents_2
 rw [h.at_, hT]
 cbv
 try simp only [h.len]
 cases c5 : xcmp .lss v3 (plen v0) with
 | false =>
  simp only [c5] at hp ⊢
  cbv
  rw [h.at_, hT]
  cbv
  cases c10 : c_block_Indent v0 with
  | none => simp only [c10] at hp; cases hp
  | some r9_0 =>
   simp only [c10] at hp
   have qc := fun s => (h_block_Indent c10 s).1
   simp only [qc]
   cbv
   cases c12 : c_cascaderef07_Indent v0 with
   | none => simp only [c12] at hp; cases hp
   | some r11_0 =>
    simp only [c12] at hp
    have qc := fun s => (h_cascaderef07_Indent c12 s).1
    simp only [qc]
    cbv
    cases hp
    all_goals first | rfl | (cbv; done)
 | true =>
  simp only [c5] at hp ⊢
  cbv
  rw [h.at_, hT]
  cbv
  cases c7 : pidx v0 v3 with
  | none => simp only [c7] at hp; cases hp
  | some a6 =>
   simp only [c7] at hp
   obtain ⟨q1, q2⟩ := h.idx e_string c7
   simp only [he_e_string] at q2
   simp only [q1, Bool.false_eq_true, if_false]
   cbv
   try simp only [q2]
   cbv
   try simp only [h.slen]
   cases c8 : xcmp .gtr (pslen a6) 100 with
   | false =>
    simp only [c8] at hp ⊢
    cbv
    rw [h.at_, hT]
    cbv
    cases hp
    all_goals first | rfl | (cbv; done)
   | true =>
    simp only [c8] at hp ⊢
    cbv
    cases hp
    all_goals first | rfl | (cbv; done)
end
def b_cascaderef07_turned_0 (P : Prims)  (l_1 : T_cascaderef07_turned_1) (v0 v1 v2 : Str) : Option (Str) :=
 l_1 v0 v1 v2 [] 0
section
variable   (stk : Stk) (m : Nat)   
include   stk m  
theorem o_cascaderef07_turned_0 (l_1 : T_cascaderef07_turned_1) (v0 v1 v2 : Str)  (h_l_1 : H_cascaderef07_turned_1 xat m  l_1) {out} (hp : b_cascaderef07_turned_0 PP  l_1 v0 v1 v2 = some out) : (A_cascaderef07_turned_0 xat m  v0 v1 v2 stk) = (O_cascaderef07_turned  m  stk) out := by
 subst hPP
 simp only [b_cascaderef07_turned_0] at hp
 unfold A_cascaderef07_turned_0
 rw [h.at_, hT]
 cbv
 first | exact h_l_1 hp stk | (have q := h_l_1 hp stk; simp only [A_cascaderef07_turned_1, h.map_cons, h.map_nil, h.mapE_nil, h.len_nil, he_e_string] at q; first | exact q | (cbv; exact q))
def b_cascaderef07_turned_1 (P : Prims)   (v0 v1 v2 v7 : Str) (v8 : Int) : Option ((Str × Str × Str × Str × Int) ⊕ (Str)) :=
 match P.cmp .lss v8 (P.slen v0) with
 | false =>
  some (.inr v7)
 | true =>
  match P.cmp .geq (P.ar .sub .i64 (P.slen v0) v8) (P.slen v1) with
  | false =>
   match P.ssub v0 (some v8) (some (P.ar .add .i64 v8 1)) with
   | none => none
   | some s12 =>
    match P.scat v7 s12 with
    | none => none
    | some s14 =>
     some (.inl (v0, v1, v2, s14, P.ar .add .i64 v8 1))
  | true =>
   match P.ssub v0 (some v8) (some (P.ar .add .i64 v8 (P.slen v1))) with
   | none => none
   | some s3 =>
    match P.seq s3 v1 with
    | false =>
     match P.ssub v0 (some v8) (some (P.ar .add .i64 v8 1)) with
     | none => none
     | some s8 =>
      match P.scat v7 s8 with
      | none => none
      | some s10 =>
       some (.inl (v0, v1, v2, s10, P.ar .add .i64 v8 1))
    | true =>
     match P.scat v7 v2 with
     | none => none
     | some s6 =>
      some (.inl (v0, v1, v2, s6, P.ar .add .i64 v8 (P.slen v1)))
theorem o_cascaderef07_turned_1  (v0 v1 v2 v7 : Str) (v8 : Int)   {out} (hp : b_cascaderef07_turned_1 PP   v0 v1 v2 v7 v8 = some out) : (A_cascaderef07_turned_1 xat m  v0 v1 v2 v7 v8 stk) = (Sum.elim (fun (v0, v1, v2, v7, v8) => (A_cascaderef07_turned_1 xat m  v0 v1 v2 v7 v8 stk)) (O_cascaderef07_turned  m  stk)) out := by
 subst hPP
 simp only [b_cascaderef07_turned_1] at hp
 unfold A_cascaderef07_turned_1
 rw [h.at_, hT]
 cbv
 try simp only [h.slen]
 cases c1 : xcmp .lss v8 (pslen v0) with
 | false =>
  simp only [c1] at hp ⊢
  cbv
  rw [h.at_, hT]
  cbv
  cases hp
  all_goals first | rfl | (cbv; done)
 | true =>
  simp only [c1] at hp ⊢
  cbv
  rw [h.at_, hT]
  cbv
  try simp only [h.slen]
  try simp only [h.slen]
  cases c2 : xcmp .geq (xar .sub .i64 (pslen v0) v8) (pslen v1) with
  | false =>
   simp only [c2] at hp ⊢
   cbv
   cases c13 : pssub v0 (some v8) (some (xar .add .i64 v8 1)) with
   | none => simp only [c13] at hp; cases hp
   | some s12 =>
    simp only [c13] at hp
    obtain ⟨q0, q1, q2, q3, q4⟩ := h.ssub2 c13
    simp only [q0, q1, q2, q3, q4, Bool.false_eq_true, if_false, if_true]
    cbv
    try simp only [q0, q1, q2, q3, q4, if_true]
    cbv
    cases c15 : pscat v7 s12 with
    | none => simp only [c15] at hp; cases hp
    | some s14 =>
     simp only [c15] at hp
     obtain ⟨q1, q2⟩ := h.scat c15
     simp only [q1, q2, if_true]
     cbv
     cases hp
     all_goals first | rfl | (cbv; done)
  | true =>
   simp only [c2] at hp ⊢
   cbv
   try simp only [h.slen]
   cases c4 : pssub v0 (some v8) (some (xar .add .i64 v8 (pslen v1))) with
   | none => simp only [c4] at hp; cases hp
   | some s3 =>
    simp only [c4] at hp
    obtain ⟨q0, q1, q2, q3, q4⟩ := h.ssub2 c4
    simp only [q0, q1, q2, q3, q4, Bool.false_eq_true, if_false, if_true]
    cbv
    try simp only [q0, q1, q2, q3, q4, if_true]
    cbv
    cases c5 : xseq s3 v1 with
    | false =>
     simp only [c5] at hp ⊢
     cbv
     cases c9 : pssub v0 (some v8) (some (xar .add .i64 v8 1)) with
     | none => simp only [c9] at hp; cases hp
     | some s8 =>
      simp only [c9] at hp
      obtain ⟨q0, q1, q2, q3, q4⟩ := h.ssub2 c9
      simp only [q0, q1, q2, q3, q4, Bool.false_eq_true, if_false, if_true]
      cbv
      try simp only [q0, q1, q2, q3, q4, if_true]
      cbv
      cases c11 : pscat v7 s8 with
      | none => simp only [c11] at hp; cases hp
      | some s10 =>
       simp only [c11] at hp
       obtain ⟨q1, q2⟩ := h.scat c11
       simp only [q1, q2, if_true]
       cbv
       cases hp
       all_goals first | rfl | (cbv; done)
    | true =>
     simp only [c5] at hp ⊢
     cbv
     cases c7 : pscat v7 v2 with
     | none => simp only [c7] at hp; cases hp
     | some s6 =>
      simp only [c7] at hp
      obtain ⟨q1, q2⟩ := h.scat c7
      simp only [q1, q2, if_true]
      cbv
      try simp only [h.slen]
      cases hp
      all_goals first | rfl | (cbv; done)
end
def b_cascaderef01_Lines_0 (P : Prims)  (l_1 : T_cascaderef01_Lines_1) (v0 : Str) : Option ((List Str)) :=
 l_1 v0 0 [] 0 0
section
variable   (stk : Stk) (m : Nat)   
include   stk m  
theorem o_cascaderef01_Lines_0 (l_1 : T_cascaderef01_Lines_1) (v0 : Str)  (h_l_1 : H_cascaderef01_Lines_1 xat @xmap xlen e_string m  l_1) {out} (hp : b_cascaderef01_Lines_0 PP  l_1 v0 = some out) : (A_cascaderef01_Lines_0 xat m  v0 stk) = (O_cascaderef01_Lines @xmap e_string m  stk) out := by
 subst hPP
 simp only [b_cascaderef01_Lines_0] at hp
 unfold A_cascaderef01_Lines_0
 rw [h.at_, hT]
 cbv
 first | exact h_l_1 hp stk | (have q := h_l_1 hp stk; simp only [A_cascaderef01_Lines_1, h.map_cons, h.map_nil, h.mapE_nil, h.len_nil, he_e_string] at q; first | exact q | (cbv; exact q))
def b_cascaderef01_Lines_1 (P : Prims)  (l_3 : T_cascaderef01_Lines_3) (l_5 : T_cascaderef01_Lines_5) (v0 : Str) (o3_g : Nat) (o3 : (List Str)) (v4 v5 : Int) : Option ((Str × Nat × (List Str) × Int × Int) ⊕ ((List Str))) :=
 match P.cmp .lss v5 (P.slen v0) with
 | false =>
  match P.ssub v0 (some v4) none with
  | none => none
  | some s6 =>
   match P.app 16 o3 [s6] with
   | none => none
   | some l8 =>
    some (.inr l8)
 | true =>
  match P.sidx v0 v5 with
  | none => none
  | some b2 =>
   match P.cmp .neq b2 10 with
   | false =>
    l_3 v0 o3_g o3 v4 v5
   | true =>
    match P.cmp .neq b2 13 with
    | false =>
     l_3 v0 o3_g o3 v4 v5
    | true =>
     l_5 v0 o3_g o3 v4 v5
theorem o_cascaderef01_Lines_1 (l_3 : T_cascaderef01_Lines_3) (l_5 : T_cascaderef01_Lines_5) (v0 : Str) (o3_g : Nat) (o3 : (List Str)) (v4 v5 : Int)  (h_l_3 : H_cascaderef01_Lines_3 xat @xmap xlen e_string m  l_3) (h_l_5 : H_cascaderef01_Lines_5 xat @xmap xlen e_string m  l_5) {out} (hp : b_cascaderef01_Lines_1 PP  l_3 l_5 v0 o3_g o3 v4 v5 = some out) : (A_cascaderef01_Lines_1 xat @xmap xlen e_string m  v0 o3_g o3 v4 v5 stk) = (Sum.elim (fun (v0, o3_g, o3, v4, v5) => (A_cascaderef01_Lines_1 xat @xmap xlen e_string m  v0 o3_g o3 v4 v5 stk)) (O_cascaderef01_Lines @xmap e_string m  stk)) out := by
 subst hPP
 simp only [b_cascaderef01_Lines_1] at hp
 unfold A_cascaderef01_Lines_1
 rw [h.at_, hT]
 cbv
 try simp only [h.slen]
 cases c1 : xcmp .lss v5 (pslen v0) with
 | false =>
  simp only [c1] at hp ⊢
  cbv
  rw [h.at_, hT]
  cbv
  cases c7 : pssub v0 (some v4) none with
  | none => simp only [c7] at hp; cases hp
  | some s6 =>
   simp only [c7] at hp
   obtain ⟨q0, q1, q2, q3⟩ := h.ssub1 c7
   simp only [q0, q1, q2, q3, Bool.false_eq_true, if_false, if_true]
   cbv
   try simp only [q0, q1, q2, q3, if_true]
   cbv
   simp only [h.allsz_nil, h.allsz_cons]
   cbv
   simp only [h.allsz_nil, h.allsz_cons]
   cbv
   cases c9 : papp 16 o3 [s6] with
   | none => simp only [c9] at hp; cases hp
   | some l8 =>
    simp only [c9] at hp
    obtain ⟨q1, q2, q3⟩ := h.app e_string c9 rfl
    simp only [h.map_cons, h.map_nil, h.len_nil, he_e_string] at q1 q2 q3
    try simp only [h.len_nil]
    cbv
    simp only [q1, q2, q3, if_true]
    cbv
    cases hp
    all_goals first | rfl | (cbv; done) | (simp only [h.nadd0, h.nle_refl, h.cut_all, h.cut_nil, h.map_cons, h.map_nil, h.mapE_nil, h.len_nil, he_e_string, O_cascaderef01_Lines, A_cascaderef01_Lines_1, if_true]; first | done | rfl | (cbv; done) | (cbv; simp only [h.map_cons, h.map_nil, h.mapE_nil, h.len_nil, he_e_string, O_cascaderef01_Lines, A_cascaderef01_Lines_1]; done))
 | true =>
  simp only [c1] at hp ⊢
  cbv
  rw [h.at_, hT]
  cbv
  cases c3 : psidx v0 v5 with
  | none => simp only [c3] at hp; cases hp
  | some b2 =>
   simp only [c3] at hp
   obtain ⟨w, q1, q2, q3⟩ := h.sidx c3
   simp only [q1, q2, q3, Bool.false_eq_true, if_false]
   cbv
   cases c4 : xcmp .neq b2 10 with
   | false =>
    simp only [c4] at hp ⊢
    cbv
    first | exact h_l_3 hp stk | (have q := h_l_3 hp stk; simp only [A_cascaderef01_Lines_3, h.map_cons, h.map_nil, h.mapE_nil, h.len_nil, he_e_string] at q; first | exact q | (cbv; exact q))
   | true =>
    simp only [c4] at hp ⊢
    cbv
    obtain ⟨w, q1, q2, q3⟩ := h.sidx c3
    simp only [q1, q2, q3, Bool.false_eq_true, if_false]
    cbv
    cases c5 : xcmp .neq b2 13 with
    | false =>
     simp only [c5] at hp ⊢
     cbv
     first | exact h_l_3 hp stk | (have q := h_l_3 hp stk; simp only [A_cascaderef01_Lines_3, h.map_cons, h.map_nil, h.mapE_nil, h.len_nil, he_e_string] at q; first | exact q | (cbv; exact q))
    | true =>
     simp only [c5] at hp ⊢
     cbv
     first | exact h_l_5 hp stk | (have q := h_l_5 hp stk; simp only [A_cascaderef01_Lines_5, h.map_cons, h.map_nil, h.mapE_nil, h.len_nil, he_e_string] at q; first | exact q | (cbv; exact q))
def b_cascaderef01_Lines_5 (P : Prims)   (v0 : Str) (o3_g : Nat) (o3 : (List Str)) (v4 v5 : Int) : Option ((Str × Nat × (List Str) × Int × Int) ⊕ ((List Str))) :=
 some (.inl (v0, o3_g, o3, v4, P.ar .add .i64 v5 1))
theorem o_cascaderef01_Lines_5  (v0 : Str) (o3_g : Nat) (o3 : (List Str)) (v4 v5 : Int)   {out} (hp : b_cascaderef01_Lines_5 PP   v0 o3_g o3 v4 v5 = some out) : (A_cascaderef01_Lines_5 xat @xmap xlen e_string m  v0 o3_g o3 v4 v5 stk) = (Sum.elim (fun (v0, o3_g, o3, v4, v5) => (A_cascaderef01_Lines_1 xat @xmap xlen e_string m  v0 o3_g o3 v4 v5 stk)) (O_cascaderef01_Lines @xmap e_string m  stk)) out := by
 subst hPP
 simp only [b_cascaderef01_Lines_5] at hp
 unfold A_cascaderef01_Lines_5
 rw [h.at_, hT]
 cbv
 cases hp
 all_goals first | rfl | (cbv; done) | (simp only [h.nadd0, h.nle_refl, h.cut_all, h.cut_nil, h.map_cons, h.map_nil, h.mapE_nil, h.len_nil, he_e_string, O_cascaderef01_Lines, A_cascaderef01_Lines_1, if_true]; first | done | rfl | (cbv; done) | (cbv; simp only [h.map_cons, h.map_nil, h.mapE_nil, h.len_nil, he_e_string, O_cascaderef01_Lines, A_cascaderef01_Lines_1]; done))
def b_cascaderef01_Lines_3 (P : Prims)  (l_4 : T_cascaderef01_Lines_4) (v0 : Str) (o3_g : Nat) (o3 : (List Str)) (v4 v5 : Int) : Option ((Str × Nat × (List Str) × Int × Int) ⊕ ((List Str))) :=
 match P.ssub v0 (some v4) (some v5) with
 | none => none
 | some s10 =>
  match P.app 16 o3 [s10] with
  | none => none
  | some l12 =>
   match P.sidx v0 v5 with
   | none => none
   | some b14 =>
    match P.cmp .eql b14 13 with
    | false =>
     l_4 v0 (o3_g + 1) l12 v5
    | true =>
     match P.cmp .lss v5 (P.ar .sub .i64 (P.slen v0) 1) with
     | false =>
      l_4 v0 (o3_g + 1) l12 v5
     | true =>
      match P.sidx v0 (P.ar .add .i64 v5 1) with
      | none => none
      | some b18 =>
       match P.cmp .eql b18 10 with
       | false =>
        l_4 v0 (o3_g + 1) l12 v5
       | true =>
        l_4 v0 (o3_g + 1) l12 (P.ar .add .i64 v5 1)
theorem o_cascaderef01_Lines_3 (l_4 : T_cascaderef01_Lines_4) (v0 : Str) (o3_g : Nat) (o3 : (List Str)) (v4 v5 : Int)  (h_l_4 : H_cascaderef01_Lines_4 xat @xmap xlen e_string m  l_4) {out} (hp : b_cascaderef01_Lines_3 PP  l_4 v0 o3_g o3 v4 v5 = some out) : (A_cascaderef01_Lines_3 xat @xmap xlen e_string m  v0 o3_g o3 v4 v5 stk) = (Sum.elim (fun (v0, o3_g, o3, v4, v5) => (A_cascaderef01_Lines_1 xat @xmap xlen e_string m  v0 o3_g o3 v4 v5 stk)) (O_cascaderef01_Lines @xmap e_string m  stk)) out := by
 subst hPP
 simp only [b_cascaderef01_Lines_3] at hp
 unfold A_cascaderef01_Lines_3
 rw [h.at_, hT]
 cbv
 cases c11 : pssub v0 (some v4) (some v5) with
 | none => simp only [c11] at hp; cases hp
 | some s10 =>
  simp only [c11] at hp
  obtain ⟨q0, q1, q2, q3, q4⟩ := h.ssub2 c11
  simp only [q0, q1, q2, q3, q4, Bool.false_eq_true, if_false, if_true]
  cbv
  try simp only [q0, q1, q2, q3, q4, if_true]
  cbv
  simp only [h.allsz_nil, h.allsz_cons]
  cbv
  simp only [h.allsz_nil, h.allsz_cons]
  cbv
  cases c13 : papp 16 o3 [s10] with
  | none => simp only [c13] at hp; cases hp
  | some l12 =>
   simp only [c13] at hp
   obtain ⟨q1, q2, q3⟩ := h.app e_string c13 rfl
   simp only [h.map_cons, h.map_nil, h.len_nil, he_e_string] at q1 q2 q3
   try simp only [h.len_nil]
   cbv
   simp only [q1, q2, q3, if_true]
   cbv
   cases c15 : psidx v0 v5 with
   | none => simp only [c15] at hp; cases hp
   | some b14 =>
    simp only [c15] at hp
    obtain ⟨w, q1, q2, q3⟩ := h.sidx c15
    simp only [q1, q2, q3, Bool.false_eq_true, if_false]
    cbv
    cases c16 : xcmp .eql b14 13 with
    | false =>
     simp only [c16] at hp ⊢
     cbv
     first | exact h_l_4 hp stk | (have q := h_l_4 hp stk; simp only [A_cascaderef01_Lines_4, h.map_cons, h.map_nil, h.mapE_nil, h.len_nil, he_e_string] at q; first | exact q | (cbv; exact q))
    | true =>
     simp only [c16] at hp ⊢
     cbv
     try simp only [h.slen]
     cases c17 : xcmp .lss v5 (xar .sub .i64 (pslen v0) 1) with
     | false =>
      simp only [c17] at hp ⊢
      cbv
      first | exact h_l_4 hp stk | (have q := h_l_4 hp stk; simp only [A_cascaderef01_Lines_4, h.map_cons, h.map_nil, h.mapE_nil, h.len_nil, he_e_string] at q; first | exact q | (cbv; exact q))
     | true =>
      simp only [c17] at hp ⊢
      cbv
      cases c19 : psidx v0 (xar .add .i64 v5 1) with
      | none => simp only [c19] at hp; cases hp
      | some b18 =>
       simp only [c19] at hp
       obtain ⟨w, q1, q2, q3⟩ := h.sidx c19
       simp only [q1, q2, q3, Bool.false_eq_true, if_false]
       cbv
       cases c20 : xcmp .eql b18 10 with
       | false =>
        simp only [c20] at hp ⊢
        cbv
        first | exact h_l_4 hp stk | (have q := h_l_4 hp stk; simp only [A_cascaderef01_Lines_4, h.map_cons, h.map_nil, h.mapE_nil, h.len_nil, he_e_string] at q; first | exact q | (cbv; exact q))
       | true =>
        simp only [c20] at hp ⊢
        cbv
        first | exact h_l_4 hp stk | (have q := h_l_4 hp stk; simp only [A_cascaderef01_Lines_4, h.map_cons, h.map_nil, h.mapE_nil, h.len_nil, he_e_string] at q; first | exact q | (cbv; exact q))
def b_cascaderef01_Lines_4 (P : Prims)  (l_5 : T_cascaderef01_Lines_5) (v0 : Str) (o3_g : Nat) (o3 : (List Str)) (v5 : Int) : Option ((Str × Nat × (List Str) × Int × Int) ⊕ ((List Str))) :=
 l_5 v0 o3_g o3 (P.ar .add .i64 v5 1) v5
theorem o_cascaderef01_Lines_4 (l_5 : T_cascaderef01_Lines_5) (v0 : Str) (o3_g : Nat) (o3 : (List Str)) (v5 : Int)  (h_l_5 : H_cascaderef01_Lines_5 xat @xmap xlen e_string m  l_5) {out} (hp : b_cascaderef01_Lines_4 PP  l_5 v0 o3_g o3 v5 = some out) : (A_cascaderef01_Lines_4 xat @xmap xlen e_string m  v0 o3_g o3 v5 stk) = (Sum.elim (fun (v0, o3_g, o3, v4, v5) => (A_cascaderef01_Lines_1 xat @xmap xlen e_string m  v0 o3_g o3 v4 v5 stk)) (O_cascaderef01_Lines @xmap e_string m  stk)) out := by
 subst hPP
 simp only [b_cascaderef01_Lines_4] at hp
 unfold A_cascaderef01_Lines_4
 rw [h.at_, hT]
 cbv
 first | exact h_l_5 hp stk | (have q := h_l_5 hp stk; simp only [A_cascaderef01_Lines_5, h.map_cons, h.map_nil, h.mapE_nil, h.len_nil, he_e_string] at q; first | exact q | (cbv; exact q))
end
def b_cascaderef07_Value_0 (P : Prims) (c_cascaderef07_turned : Str → Str → Str → Option (Str)) (c_cascaderef01_Lines : Str → Option ((List Str))) (c_cascaderef07_Indent : (List Str) → Option (Int)) (c_cascaderef07_first : Str → Option (Int)) (l_1 : T_cascaderef07_Value_1) (v0 : Str) : Option (Str) :=
 match c_cascaderef07_turned v0 [92, 34, 34, 34] [34, 34, 34] with
 | none => none
 | some r1_0 =>
  match c_cascaderef01_Lines r1_0 with
  | none => none
  | some r3_0 =>
   match c_cascaderef07_Indent r3_0 with
   | none => none
   | some r5_0 =>
    l_1 r3_0 r5_0 (P.len r3_0) 0 0 [] 0
section
variable (c_cascaderef07_turned : Str → Str → Str → Option (Str)) (c_cascaderef01_Lines : Str → Option ((List Str))) (c_cascaderef07_Indent : (List Str) → Option (Int)) (c_cascaderef07_first : Str → Option (Int)) (h_cascaderef07_turned : (C_cascaderef07_turned xpcall xfcall c_cascaderef07_turned)) (h_cascaderef01_Lines : (C_cascaderef01_Lines xpcall xfcall @xmap e_string c_cascaderef01_Lines)) (h_cascaderef07_Indent : (C_cascaderef07_Indent xpcall xfcall @xmap e_string c_cascaderef07_Indent)) (h_cascaderef07_first : (C_cascaderef07_first xpcall xfcall c_cascaderef07_first)) (stk : Stk) (m : Nat)   
include c_cascaderef07_turned c_cascaderef01_Lines c_cascaderef07_Indent c_cascaderef07_first h_cascaderef07_turned h_cascaderef01_Lines h_cascaderef07_Indent h_cascaderef07_first stk m  
theorem o_cascaderef07_Value_0 (l_1 : T_cascaderef07_Value_1) (v0 : Str)  (h_l_1 : H_cascaderef07_Value_1 xat @xmap xlen e_string m  l_1) {out} (hp : b_cascaderef07_Value_0 PP c_cascaderef07_turned c_cascaderef01_Lines c_cascaderef07_Indent c_cascaderef07_first l_1 v0 = some out) : (A_cascaderef07_Value_0 xat m  v0 stk) = (O_cascaderef07_Value  m  stk) out := by
 subst hPP
 simp only [b_cascaderef07_Value_0] at hp
 unfold A_cascaderef07_Value_0
 rw [h.at_, hT]
 cbv
 cases c2 : c_cascaderef07_turned v0 [92, 34, 34, 34] [34, 34, 34] with
 | none => simp only [c2] at hp; cases hp
 | some r1_0 =>
  simp only [c2] at hp
  have qc := fun s => (h_cascaderef07_turned c2 s).1
  simp only [qc]
  cbv
  cases c4 : c_cascaderef01_Lines r1_0 with
  | none => simp only [c4] at hp; cases hp
  | some r3_0 =>
   simp only [c4] at hp
   have qc := fun s => (h_cascaderef01_Lines c4 s).1
   simp only [qc]
   cbv
   cases c6 : c_cascaderef07_Indent r3_0 with
   | none => simp only [c6] at hp; cases hp
   | some r5_0 =>
    simp only [c6] at hp
    have qc := fun s => (h_cascaderef07_Indent c6 s).1
    simp only [qc]
    cbv
    try simp only [h.len]
    first | exact h_l_1 hp stk | (have q := h_l_1 hp stk; simp only [A_cascaderef07_Value_1, h.map_cons, h.map_nil, h.mapE_nil, h.len_nil, he_e_string] at q; first | exact q | (cbv; exact q))
def b_cascaderef07_Value_1 (P : Prims) (c_cascaderef07_turned : Str → Str → Str → Option (Str)) (c_cascaderef01_Lines : Str → Option ((List Str))) (c_cascaderef07_Indent : (List Str) → Option (Int)) (c_cascaderef07_first : Str → Option (Int)) (l_3 : T_cascaderef07_Value_3) (l_7 : T_cascaderef07_Value_7) (v3 : (List Str)) (v4 v5 v6 : Int) (o7_g : Nat) (o7 : (List Str)) (v8 : Int) : Option (((List Str) × Int × Int × Int × Nat × (List Str) × Int) ⊕ (Str)) :=
 match P.cmp .lss v8 (P.len v3) with
 | false =>
  match l_7 v5 v6 o7_g o7 [] v5 with | none => none | some o16 => some (.inr o16)
 | true =>
  match P.idx v3 v8 with
  | none => none
  | some a8 =>
   match P.cmp .gtr v8 0 with
   | false =>
    l_3 v3 v4 v5 v6 o7_g o7 v8 a8
   | true =>
    match P.cmp .lss (P.slen a8) v4 with
    | false =>
     match P.ssub a8 (some v4) none with
     | none => none
     | some s14 =>
      l_3 v3 v4 v5 v6 o7_g o7 v8 s14
    | true =>
     match P.ssub a8 (some (P.slen a8)) none with
     | none => none
     | some s12 =>
      l_3 v3 v4 v5 v6 o7_g o7 v8 s12
theorem o_cascaderef07_Value_1 (l_3 : T_cascaderef07_Value_3) (l_7 : T_cascaderef07_Value_7) (v3 : (List Str)) (v4 v5 v6 : Int) (o7_g : Nat) (o7 : (List Str)) (v8 : Int)  (h_l_3 : H_cascaderef07_Value_3 xat @xmap xlen e_string m  l_3) (h_l_7 : H_cascaderef07_Value_7 xat @xmap xlen e_string m  l_7) {out} (hp : b_cascaderef07_Value_1 PP c_cascaderef07_turned c_cascaderef01_Lines c_cascaderef07_Indent c_cascaderef07_first l_3 l_7 v3 v4 v5 v6 o7_g o7 v8 = some out) : (A_cascaderef07_Value_1 xat @xmap xlen e_string m  v3 v4 v5 v6 o7_g o7 v8 stk) = (Sum.elim (fun (v3, v4, v5, v6, o7_g, o7, v8) => (A_cascaderef07_Value_1 xat @xmap xlen e_string m  v3 v4 v5 v6 o7_g o7 v8 stk)) (O_cascaderef07_Value  m  stk)) out := by
 subst hPP
 simp only [b_cascaderef07_Value_1] at hp
 unfold A_cascaderef07_Value_1
 rw [h.at_, hT]
 cbv
 try simp only [h.len]
 cases c7 : xcmp .lss v8 (plen v3) with
 | false =>
  simp only [c7] at hp ⊢
  cbv
  rw [h.at_, hT]
  cbv
  cases c : l_7 v5 v6 o7_g o7 [] v5 with
  | none => simp only [c] at hp; cases hp
  | some o16 =>
   simp only [c] at hp
   cases hp
   first | exact h_l_7 c stk | (have q := h_l_7 c stk; simp only [A_cascaderef07_Value_7, h.map_cons, h.map_nil, h.mapE_nil, h.len_nil, he_e_string] at q; first | exact q | (cbv; exact q))
 | true =>
  simp only [c7] at hp ⊢
  cbv
  rw [h.at_, hT]
  cbv
  cases c9 : pidx v3 v8 with
  | none => simp only [c9] at hp; cases hp
  | some a8 =>
   simp only [c9] at hp
   obtain ⟨q1, q2⟩ := h.idx e_string c9
   simp only [he_e_string] at q2
   simp only [q1, Bool.false_eq_true, if_false]
   cbv
   try simp only [q2]
   cbv
   cases c10 : xcmp .gtr v8 0 with
   | false =>
    simp only [c10] at hp ⊢
    cbv
    first | exact h_l_3 hp stk | (have q := h_l_3 hp stk; simp only [A_cascaderef07_Value_3, h.map_cons, h.map_nil, h.mapE_nil, h.len_nil, he_e_string] at q; first | exact q | (cbv; exact q))
   | true =>
    simp only [c10] at hp ⊢
    cbv
    try simp only [h.slen]
    cases c11 : xcmp .lss (pslen a8) v4 with
    | false =>
     simp only [c11] at hp ⊢
     cbv
     cases c15 : pssub a8 (some v4) none with
     | none => simp only [c15] at hp; cases hp
     | some s14 =>
      simp only [c15] at hp
      obtain ⟨q0, q1, q2, q3⟩ := h.ssub1 c15
      simp only [q0, q1, q2, q3, Bool.false_eq_true, if_false, if_true]
      cbv
      try simp only [q0, q1, q2, q3, if_true]
      cbv
      first | exact h_l_3 hp stk | (have q := h_l_3 hp stk; simp only [A_cascaderef07_Value_3, h.map_cons, h.map_nil, h.mapE_nil, h.len_nil, he_e_string] at q; first | exact q | (cbv; exact q))
    | true =>
     simp only [c11] at hp ⊢
     cbv
     cases c13 : pssub a8 (some (pslen a8)) none with
     | none => simp only [c13] at hp; cases hp
     | some s12 =>
      simp only [c13] at hp
      obtain ⟨q0, q1, q2, q3⟩ := h.ssub1 c13
      simp only [q0, q1, q2, q3, Bool.false_eq_true, if_false, if_true]
      cbv
      try simp only [q0, q1, q2, q3, if_true]
      cbv
      first | exact h_l_3 hp stk | (have q := h_l_3 hp stk; simp only [A_cascaderef07_Value_3, h.map_cons, h.map_nil, h.mapE_nil, h.len_nil, he_e_string] at q; first | exact q | (cbv; exact q))
def b_cascaderef07_Value_3 (P : Prims) (c_cascaderef07_turned : Str → Str → Str → Option (Str)) (c_cascaderef01_Lines : Str → Option ((List Str))) (c_cascaderef07_Indent : (List Str) → Option (Int)) (c_cascaderef07_first : Str → Option (Int)) (l_4 : T_cascaderef07_Value_4) (v3 : (List Str)) (v4 v5 v6 : Int) (o7_g : Nat) (o7 : (List Str)) (v8 : Int) (v9 : Str) : Option (((List Str) × Int × Int × Int × Nat × (List Str) × Int) ⊕ (Str)) :=
 match c_cascaderef07_first v9 with
 | none => none
 | some r17_0 =>
  match P.cmp .lss r17_0 (P.slen v9) with
  | false =>
   l_4 v3 v4 v5 v6 o7_g o7 v8 v9
  | true =>
   match P.cmp .lss v8 v5 with
   | false =>
    l_4 v3 v4 v5 (P.ar .add .i64 v8 1) o7_g o7 v8 v9
   | true =>
    l_4 v3 v4 v8 (P.ar .add .i64 v8 1) o7_g o7 v8 v9
theorem o_cascaderef07_Value_3 (l_4 : T_cascaderef07_Value_4) (v3 : (List Str)) (v4 v5 v6 : Int) (o7_g : Nat) (o7 : (List Str)) (v8 : Int) (v9 : Str)  (h_l_4 : H_cascaderef07_Value_4 xat @xmap xlen e_string m  l_4) {out} (hp : b_cascaderef07_Value_3 PP c_cascaderef07_turned c_cascaderef01_Lines c_cascaderef07_Indent c_cascaderef07_first l_4 v3 v4 v5 v6 o7_g o7 v8 v9 = some out) : (A_cascaderef07_Value_3 xat @xmap xlen e_string m  v3 v4 v5 v6 o7_g o7 v8 v9 stk) = (Sum.elim (fun (v3, v4, v5, v6, o7_g, o7, v8) => (A_cascaderef07_Value_1 xat @xmap xlen e_string m  v3 v4 v5 v6 o7_g o7 v8 stk)) (O_cascaderef07_Value  m  stk)) out := by
 subst hPP
 simp only [b_cascaderef07_Value_3] at hp
 unfold A_cascaderef07_Value_3
 rw [h.at_, hT]
 cbv
 cases c18 : c_cascaderef07_first v9 with
 | none => simp only [c18] at hp; cases hp
 | some r17_0 =>
  simp only [c18] at hp
  have qc := fun s => (h_cascaderef07_first c18 s).1
  simp only [qc]
  cbv
  try simp only [h.slen]
  cases c19 : xcmp .lss r17_0 (pslen v9) with
  | false =>
   simp only [c19] at hp ⊢
   cbv
   first | exact h_l_4 hp stk | (have q := h_l_4 hp stk; simp only [A_cascaderef07_Value_4, h.map_cons, h.map_nil, h.mapE_nil, h.len_nil, he_e_string] at q; first | exact q | (cbv; exact q))
  | true =>
   simp only [c19] at hp ⊢
   cbv
   cases c20 : xcmp .lss v8 v5 with
   | false =>
    simp only [c20] at hp ⊢
    cbv
    first | exact h_l_4 hp stk | (have q := h_l_4 hp stk; simp only [A_cascaderef07_Value_4, h.map_cons, h.map_nil, h.mapE_nil, h.len_nil, he_e_string] at q; first | exact q | (cbv; exact q))
   | true =>
    simp only [c20] at hp ⊢
    cbv
    first | exact h_l_4 hp stk | (have q := h_l_4 hp stk; simp only [A_cascaderef07_Value_4, h.map_cons, h.map_nil, h.mapE_nil, h.len_nil, he_e_string] at q; first | exact q | (cbv; exact q))
def b_cascaderef07_Value_7 (P : Prims) (c_cascaderef07_turned : Str → Str → Str → Option (Str)) (c_cascaderef01_Lines : Str → Option ((List Str))) (c_cascaderef07_Indent : (List Str) → Option (Int)) (c_cascaderef07_first : Str → Option (Int)) (l_9 : T_cascaderef07_Value_9) (v5 v6 : Int) (o7_g : Nat) (o7 : (List Str)) (v10 : Str) (v11 : Int) : Option ((Int × Int × Nat × (List Str) × Str × Int) ⊕ (Str)) :=
 match P.cmp .lss v11 v6 with
 | false =>
  some (.inr v10)
 | true =>
  match P.cmp .gtr v11 v5 with
  | false =>
   l_9 v5 v6 o7_g o7 v10 v11
  | true =>
   match P.scat v10 [10] with
   | none => none
   | some s23 =>
    l_9 v5 v6 o7_g o7 s23 v11
theorem o_cascaderef07_Value_7 (l_9 : T_cascaderef07_Value_9) (v5 v6 : Int) (o7_g : Nat) (o7 : (List Str)) (v10 : Str) (v11 : Int)  (h_l_9 : H_cascaderef07_Value_9 xat @xmap xlen e_string m  l_9) {out} (hp : b_cascaderef07_Value_7 PP c_cascaderef07_turned c_cascaderef01_Lines c_cascaderef07_Indent c_cascaderef07_first l_9 v5 v6 o7_g o7 v10 v11 = some out) : (A_cascaderef07_Value_7 xat @xmap xlen e_string m  v5 v6 o7_g o7 v10 v11 stk) = (Sum.elim (fun (v5, v6, o7_g, o7, v10, v11) => (A_cascaderef07_Value_7 xat @xmap xlen e_string m  v5 v6 o7_g o7 v10 v11 stk)) (O_cascaderef07_Value  m  stk)) out := by
 subst hPP
 simp only [b_cascaderef07_Value_7] at hp
 unfold A_cascaderef07_Value_7
 rw [h.at_, hT]
 cbv
 cases c21 : xcmp .lss v11 v6 with
 | false =>
  simp only [c21] at hp ⊢
  cbv
  rw [h.at_, hT]
  cbv
  cases hp
  all_goals first | rfl | (cbv; done)
 | true =>
  simp only [c21] at hp ⊢
  cbv
  rw [h.at_, hT]
  cbv
  cases c22 : xcmp .gtr v11 v5 with
  | false =>
   simp only [c22] at hp ⊢
   cbv
   first | exact h_l_9 hp stk | (have q := h_l_9 hp stk; simp only [A_cascaderef07_Value_9, h.map_cons, h.map_nil, h.mapE_nil, h.len_nil, he_e_string] at q; first | exact q | (cbv; exact q))
  | true =>
   simp only [c22] at hp ⊢
   cbv
   cases c24 : pscat v10 [10] with
   | none => simp only [c24] at hp; cases hp
   | some s23 =>
    simp only [c24] at hp
    obtain ⟨q1, q2⟩ := h.scat c24
    simp only [q1, q2, if_true]
    cbv
    first | exact h_l_9 hp stk | (have q := h_l_9 hp stk; simp only [A_cascaderef07_Value_9, h.map_cons, h.map_nil, h.mapE_nil, h.len_nil, he_e_string] at q; first | exact q | (cbv; exact q))
def b_cascaderef07_Value_4 (P : Prims) (c_cascaderef07_turned : Str → Str → Str → Option (Str)) (c_cascaderef01_Lines : Str → Option ((List Str))) (c_cascaderef07_Indent : (List Str) → Option (Int)) (c_cascaderef07_first : Str → Option (Int))  (v3 : (List Str)) (v4 v5 v6 : Int) (o7_g : Nat) (o7 : (List Str)) (v8 : Int) (v9 : Str) : Option (((List Str) × Int × Int × Int × Nat × (List Str) × Int) ⊕ (Str)) :=
 match P.app 16 o7 [v9] with
 | none => none
 | some l25 =>
  some (.inl (v3, v4, v5, v6, o7_g + 1, l25, P.ar .add .i64 v8 1))
theorem o_cascaderef07_Value_4  (v3 : (List Str)) (v4 v5 v6 : Int) (o7_g : Nat) (o7 : (List Str)) (v8 : Int) (v9 : Str)   {out} (hp : b_cascaderef07_Value_4 PP c_cascaderef07_turned c_cascaderef01_Lines c_cascaderef07_Indent c_cascaderef07_first  v3 v4 v5 v6 o7_g o7 v8 v9 = some out) : (A_cascaderef07_Value_4 xat @xmap xlen e_string m  v3 v4 v5 v6 o7_g o7 v8 v9 stk) = (Sum.elim (fun (v3, v4, v5, v6, o7_g, o7, v8) => (A_cascaderef07_Value_1 xat @xmap xlen e_string m  v3 v4 v5 v6 o7_g o7 v8 stk)) (O_cascaderef07_Value  m  stk)) out := by
 subst hPP
 simp only [b_cascaderef07_Value_4] at hp
 unfold A_cascaderef07_Value_4
 rw [h.at_, hT]
 cbv
 simp only [h.allsz_nil, h.allsz_cons]
 cbv
 simp only [h.allsz_nil, h.allsz_cons]
 cbv
 cases c26 : papp 16 o7 [v9] with
 | none => simp only [c26] at hp; cases hp
 | some l25 =>
  simp only [c26] at hp
  obtain ⟨q1, q2, q3⟩ := h.app e_string c26 rfl
  simp only [h.map_cons, h.map_nil, h.len_nil, he_e_string] at q1 q2 q3
  try simp only [h.len_nil]
  cbv
  simp only [q1, q2, q3, if_true]
  cbv
  rw [h.at_, hT]
  cbv
  cases hp
  all_goals first | rfl | (cbv; done) | (simp only [h.nadd0, h.nle_refl, h.cut_all, h.cut_nil, h.map_cons, h.map_nil, h.mapE_nil, h.len_nil, he_e_string, O_cascaderef07_Value, A_cascaderef07_Value_1, if_true]; first | done | rfl | (cbv; done) | (cbv; simp only [h.map_cons, h.map_nil, h.mapE_nil, h.len_nil, he_e_string, O_cascaderef07_Value, A_cascaderef07_Value_1]; done))
def b_cascaderef07_Value_9 (P : Prims) (c_cascaderef07_turned : Str → Str → Str → Option (Str)) (c_cascaderef01_Lines : Str → Option ((List Str))) (c_cascaderef07_Indent : (List Str) → Option (Int)) (c_cascaderef07_first : Str → Option (Int))  (v5 v6 : Int) (o7_g : Nat) (o7 : (List Str)) (v10 : Str) (v11 : Int) : Option ((Int × Int × Nat × (List Str) × Str × Int) ⊕ (Str)) :=
 match P.idx o7 v11 with
 | none => none
 | some a28 =>
  match P.scat v10 a28 with
  | none => none
  | some s30 =>
   some (.inl (v5, v6, o7_g, o7, s30, P.ar .add .i64 v11 1))
theorem o_cascaderef07_Value_9  (v5 v6 : Int) (o7_g : Nat) (o7 : (List Str)) (v10 : Str) (v11 : Int)   {out} (hp : b_cascaderef07_Value_9 PP c_cascaderef07_turned c_cascaderef01_Lines c_cascaderef07_Indent c_cascaderef07_first  v5 v6 o7_g o7 v10 v11 = some out) : (A_cascaderef07_Value_9 xat @xmap xlen e_string m  v5 v6 o7_g o7 v10 v11 stk) = (Sum.elim (fun (v5, v6, o7_g, o7, v10, v11) => (A_cascaderef07_Value_7 xat @xmap xlen e_string m  v5 v6 o7_g o7 v10 v11 stk)) (O_cascaderef07_Value  m  stk)) out := by
 subst hPP
 simp only [b_cascaderef07_Value_9] at hp
 unfold A_cascaderef07_Value_9
 rw [h.at_, hT]
 cbv
 cases c29 : pidx o7 v11 with
 | none => simp only [c29] at hp; cases hp
 | some a28 =>
  simp only [c29] at hp
  obtain ⟨q1, q2, q3, w27⟩ := h.idxm e_string c29
  simp only [he_e_string] at w27
  simp only [q1, Bool.false_eq_true, if_false]
  cbv
  simp only [q2, q3, if_true]
  cbv
  simp only [w27]
  cbv
  cases c31 : pscat v10 a28 with
  | none => simp only [c31] at hp; cases hp
  | some s30 =>
   simp only [c31] at hp
   obtain ⟨q1, q2⟩ := h.scat c31
   simp only [q1, q2, if_true]
   cbv
   rw [h.at_, hT]
   cbv
   cases hp
   all_goals first | rfl | (cbv; done) | (simp only [h.nadd0, h.nle_refl, h.cut_all, h.cut_nil, h.map_cons, h.map_nil, h.mapE_nil, h.len_nil, he_e_string, O_cascaderef07_Value, A_cascaderef07_Value_7, if_true]; first | done | rfl | (cbv; done) | (cbv; simp only [h.map_cons, h.map_nil, h.mapE_nil, h.len_nil, he_e_string, O_cascaderef07_Value, A_cascaderef07_Value_7]; done))
end
def b_cascadelaw07_BlockValues_0 (P : Prims) (c_cascadelaw07_awake : Option (Bool)) (c_block_Value : Str → Option (Str)) (c_cascaderef07_Value : Str → Option (Str))  (v0 : Str) : Option (Bool) :=
 match c_cascadelaw07_awake with
 | none => none
 | some r1_0 =>
  match r1_0 with
  | false =>
   some r1_0
  | true =>
   match P.cmp .gtr (P.slen v0) 400 with
   | false =>
    match c_block_Value v0 with
    | none => none
    | some r5_0 =>
     match c_cascaderef07_Value v0 with
     | none => none
     | some r7_0 =>
      some (P.seq r5_0 r7_0)
   | true =>
    some r1_0
section
variable (c_cascadelaw07_awake : Option (Bool)) (c_block_Value : Str → Option (Str)) (c_cascaderef07_Value : Str → Option (Str)) (h_cascadelaw07_awake : (C_cascadelaw07_awake xpcall xfcall c_cascadelaw07_awake)) (h_block_Value : (C_block_Value xpcall xfcall c_block_Value)) (h_cascaderef07_Value : (C_cascaderef07_Value xpcall xfcall c_cascaderef07_Value)) (stk : Stk) (m : Nat)   
include c_cascadelaw07_awake c_block_Value c_cascaderef07_Value h_cascadelaw07_awake h_block_Value h_cascaderef07_Value stk m  
theorem o_cascadelaw07_BlockValues_0  (v0 : Str)   {out} (hp : b_cascadelaw07_BlockValues_0 PP c_cascadelaw07_awake c_block_Value c_cascaderef07_Value  v0 = some out) : (A_cascadelaw07_BlockValues_0 xat m  v0 stk) = (O_cascadelaw07_BlockValues  m  stk) out := by
 subst hPP
 simp only [b_cascadelaw07_BlockValues_0] at hp
 unfold A_cascadelaw07_BlockValues_0
 rw [h.at_, hT]
 cbv
 cases c2 : c_cascadelaw07_awake with
 | none => simp only [c2] at hp; cases hp
 | some r1_0 =>
  simp only [c2] at hp
  have qc := fun s => (h_cascadelaw07_awake c2 s).1
  simp only [qc]
  cbv
  cases r1_0 with
  | false =>
   simp only at hp
   cbv
   have qc := fun s => (h_cascadelaw07_awake c2 s).1
   simp only [qc]
   cbv
   cases hp
   all_goals first | rfl | (cbv; done)
  | true =>
   simp only at hp
   cbv
   try simp only [h.slen]
   cases c4 : xcmp .gtr (pslen v0) 400 with
   | false =>
    simp only [c4] at hp ⊢
    cbv
    rw [h.at_, hT]
    cbv
    cases c6 : c_block_Value v0 with
    | none => simp only [c6] at hp; cases hp
    | some r5_0 =>
     simp only [c6] at hp
     have qc := fun s => (h_block_Value c6 s).1
     simp only [qc]
     cbv
     cases c8 : c_cascaderef07_Value v0 with
     | none => simp only [c8] at hp; cases hp
     | some r7_0 =>
      simp only [c8] at hp
      have qc := fun s => (h_cascaderef07_Value c8 s).1
      simp only [qc]
      cbv
      cases hp
      all_goals first | rfl | (cbv; done)
   | true =>
    simp only [c4] at hp ⊢
    cbv
    have qc := fun s => (h_cascadelaw07_awake c2 s).1
    simp only [qc]
    cbv
    cases hp
    all_goals first | rfl | (cbv; done)
end
def b_text_Lines_0 (P : Prims) (c_strings_IndexByte : Str → Int → Option (Int)) (c_strings_HasPrefix : Str → Str → Option (Bool)) (l_1 : T_text_Lines_1) (v0 : Str) : Option ((List Str)) :=
 l_1 v0 0 []
section
variable (c_strings_IndexByte : Str → Int → Option (Int)) (c_strings_HasPrefix : Str → Str → Option (Bool)) (h_strings_IndexByte : (C_strings_IndexByte xpcall xfcall c_strings_IndexByte)) (h_strings_HasPrefix : (C_strings_HasPrefix xpcall xfcall c_strings_HasPrefix)) (stk : Stk) (m : Nat)   
include c_strings_IndexByte c_strings_HasPrefix h_strings_IndexByte h_strings_HasPrefix stk m  
theorem o_text_Lines_0 (l_1 : T_text_Lines_1) (v0 : Str)  (h_l_1 : H_text_Lines_1 xat @xmap xlen e_string m  l_1) {out} (hp : b_text_Lines_0 PP c_strings_IndexByte c_strings_HasPrefix l_1 v0 = some out) : (A_text_Lines_0 xat m  v0 stk) = (O_text_Lines @xmap e_string m  stk) out := by
 subst hPP
 simp only [b_text_Lines_0] at hp
 unfold A_text_Lines_0
 rw [h.at_, hT]
 cbv
 first | exact h_l_1 hp stk | (have q := h_l_1 hp stk; simp only [A_text_Lines_1, h.map_cons, h.map_nil, h.mapE_nil, h.len_nil, he_e_string] at q; first | exact q | (cbv; exact q))
def b_text_Lines_1 (P : Prims) (c_strings_IndexByte : Str → Int → Option (Int)) (c_strings_HasPrefix : Str → Str → Option (Bool)) (l_2 : T_text_Lines_2) (v0 : Str) (o3_g : Nat) (o3 : (List Str)) : Option ((Str × Nat × (List Str)) ⊕ ((List Str))) :=
 match c_strings_IndexByte v0 10 with
 | none => none
 | some r1_0 =>
  match c_strings_IndexByte v0 13 with
  | none => none
  | some r3_0 =>
   match P.cmp .geq r3_0 0 with
   | false =>
    l_2 v0 o3_g o3 r1_0
   | true =>
    match P.cmp .lss r1_0 0 with
    | false =>
     match P.cmp .lss r3_0 r1_0 with
     | false =>
      l_2 v0 o3_g o3 r1_0
     | true =>
      l_2 v0 o3_g o3 r3_0
    | true =>
     l_2 v0 o3_g o3 r3_0
theorem o_text_Lines_1 (l_2 : T_text_Lines_2) (v0 : Str) (o3_g : Nat) (o3 : (List Str))  (h_l_2 : H_text_Lines_2 xat @xmap xlen e_string m  l_2) {out} (hp : b_text_Lines_1 PP c_strings_IndexByte c_strings_HasPrefix l_2 v0 o3_g o3 = some out) : (A_text_Lines_1 xat @xmap xlen e_string m  v0 o3_g o3 stk) = (Sum.elim (fun (v0, o3_g, o3) => (A_text_Lines_1 xat @xmap xlen e_string m  v0 o3_g o3 stk)) (O_text_Lines @xmap e_string m  stk)) out := by
 subst hPP
 simp only [b_text_Lines_1] at hp
 unfold A_text_Lines_1
 rw [h.at_, hT]
 cbv
 cases c2 : c_strings_IndexByte v0 10 with
 | none => simp only [c2] at hp; cases hp
 | some r1_0 =>
  simp only [c2] at hp
  have qc := fun s => (h_strings_IndexByte c2 s).1
  simp only [qc]
  cbv
  cases c4 : c_strings_IndexByte v0 13 with
  | none => simp only [c4] at hp; cases hp
  | some r3_0 =>
   simp only [c4] at hp
   have qc := fun s => (h_strings_IndexByte c4 s).1
   simp only [qc]
   cbv
   cases c5 : xcmp .geq r3_0 0 with
   | false =>
    simp only [c5] at hp ⊢
    cbv
    first | exact h_l_2 hp stk | (have q := h_l_2 hp stk; simp only [A_text_Lines_2, h.map_cons, h.map_nil, h.mapE_nil, h.len_nil, he_e_string] at q; first | exact q | (cbv; exact q))
   | true =>
    simp only [c5] at hp ⊢
    cbv
    cases c6 : xcmp .lss r1_0 0 with
    | false =>
     simp only [c6] at hp ⊢
     cbv
     cases c7 : xcmp .lss r3_0 r1_0 with
     | false =>
      simp only [c7] at hp ⊢
      cbv
      first | exact h_l_2 hp stk | (have q := h_l_2 hp stk; simp only [A_text_Lines_2, h.map_cons, h.map_nil, h.mapE_nil, h.len_nil, he_e_string] at q; first | exact q | (cbv; exact q))
     | true =>
      simp only [c7] at hp ⊢
      cbv
      first | exact h_l_2 hp stk | (have q := h_l_2 hp stk; simp only [A_text_Lines_2, h.map_cons, h.map_nil, h.mapE_nil, h.len_nil, he_e_string] at q; first | exact q | (cbv; exact q))
    | true =>
     simp only [c6] at hp ⊢
     cbv
     first | exact h_l_2 hp stk | (have q := h_l_2 hp stk; simp only [A_text_Lines_2, h.map_cons, h.map_nil, h.mapE_nil, h.len_nil, he_e_string] at q; first | exact q | (cbv; exact q))
def b_text_Lines_2 (P : Prims) (c_strings_IndexByte : Str → Int → Option (Int)) (c_strings_HasPrefix : Str → Str → Option (Bool)) (l_4 : T_text_Lines_4) (v0 : Str) (o3_g : Nat) (o3 : (List Str)) (v4 : Int) : Option ((Str × Nat × (List Str)) ⊕ ((List Str))) :=
 match P.cmp .lss v4 0 with
 | false =>
  match P.ssub v0 none (some v4) with
  | none => none
  | some s11 =>
   match P.app 16 o3 [s11] with
   | none => none
   | some l13 =>
    match P.ssub v0 (some v4) none with
    | none => none
    | some s15 =>
     match c_strings_HasPrefix s15 [13, 10] with
     | none => none
     | some r17_0 =>
      match r17_0 with
      | false =>
       l_4 v0 (o3_g + 1) l13 v4
      | true =>
       l_4 v0 (o3_g + 1) l13 (P.ar .add .i64 v4 1)
 | true =>
  match P.app 16 o3 [v0] with
  | none => none
  | some l9 =>
   some (.inr l9)
theorem o_text_Lines_2 (l_4 : T_text_Lines_4) (v0 : Str) (o3_g : Nat) (o3 : (List Str)) (v4 : Int)  (h_l_4 : H_text_Lines_4 xat @xmap xlen e_string m  l_4) {out} (hp : b_text_Lines_2 PP c_strings_IndexByte c_strings_HasPrefix l_4 v0 o3_g o3 v4 = some out) : (A_text_Lines_2 xat @xmap xlen e_string m  v0 o3_g o3 v4 stk) = (Sum.elim (fun (v0, o3_g, o3) => (A_text_Lines_1 xat @xmap xlen e_string m  v0 o3_g o3 stk)) (O_text_Lines @xmap e_string m  stk)) out := by
 subst hPP
 simp only [b_text_Lines_2] at hp
 unfold A_text_Lines_2
 rw [h.at_, hT]
 cbv
 cases c8 : xcmp .lss v4 0 with
 | false =>
  simp only [c8] at hp ⊢
  cbv
  rw [h.at_, hT]
  cbv
  cases c12 : pssub v0 none (some v4) with
  | none => simp only [c12] at hp; cases hp
  | some s11 =>
   simp only [c12] at hp
   obtain ⟨q0, q1, q2, q3⟩ := h.ssub0 c12
   simp only [q0, q1, q2, q3, Bool.false_eq_true, if_false, if_true]
   cbv
   try simp only [q0, q1, q2, q3, if_true]
   cbv
   simp only [h.allsz_nil, h.allsz_cons]
   cbv
   simp only [h.allsz_nil, h.allsz_cons]
   cbv
   cases c14 : papp 16 o3 [s11] with
   | none => simp only [c14] at hp; cases hp
   | some l13 =>
    simp only [c14] at hp
    obtain ⟨q1, q2, q3⟩ := h.app e_string c14 rfl
    simp only [h.map_cons, h.map_nil, h.len_nil, he_e_string] at q1 q2 q3
    try simp only [h.len_nil]
    cbv
    simp only [q1, q2, q3, if_true]
    cbv
    cases c16 : pssub v0 (some v4) none with
    | none => simp only [c16] at hp; cases hp
    | some s15 =>
     simp only [c16] at hp
     obtain ⟨q0, q1, q2, q3⟩ := h.ssub1 c16
     simp only [q0, q1, q2, q3, Bool.false_eq_true, if_false, if_true]
     cbv
     try simp only [q0, q1, q2, q3, if_true]
     cbv
     cases c18 : c_strings_HasPrefix s15 [13, 10] with
     | none => simp only [c18] at hp; cases hp
     | some r17_0 =>
      simp only [c18] at hp
      have qc := fun s => (h_strings_HasPrefix c18 s).1
      simp only [qc]
      cbv
      cases r17_0 with
      | false =>
       simp only at hp
       cbv
       first | exact h_l_4 hp stk | (have q := h_l_4 hp stk; simp only [A_text_Lines_4, h.map_cons, h.map_nil, h.mapE_nil, h.len_nil, he_e_string] at q; first | exact q | (cbv; exact q))
      | true =>
       simp only at hp
       cbv
       first | exact h_l_4 hp stk | (have q := h_l_4 hp stk; simp only [A_text_Lines_4, h.map_cons, h.map_nil, h.mapE_nil, h.len_nil, he_e_string] at q; first | exact q | (cbv; exact q))
 | true =>
  simp only [c8] at hp ⊢
  cbv
  simp only [h.allsz_nil, h.allsz_cons]
  cbv
  simp only [h.allsz_nil, h.allsz_cons]
  cbv
  cases c10 : papp 16 o3 [v0] with
  | none => simp only [c10] at hp; cases hp
  | some l9 =>
   simp only [c10] at hp
   obtain ⟨q1, q2, q3⟩ := h.app e_string c10 rfl
   simp only [h.map_cons, h.map_nil, h.len_nil, he_e_string] at q1 q2 q3
   try simp only [h.len_nil]
   cbv
   simp only [q1, q2, q3, if_true]
   cbv
   cases hp
   all_goals first | rfl | (cbv; done) | (simp only [h.nadd0, h.nle_refl, h.cut_all, h.cut_nil, h.map_cons, h.map_nil, h.mapE_nil, h.len_nil, he_e_string, O_text_Lines, A_text_Lines_1, if_true]; first | done | rfl | (cbv; done) | (cbv; simp only [h.map_cons, h.map_nil, h.mapE_nil, h.len_nil, he_e_string, O_text_Lines, A_text_Lines_1]; done))
def b_text_Lines_4 (P : Prims) (c_strings_IndexByte : Str → Int → Option (Int)) (c_strings_HasPrefix : Str → Str → Option (Bool))  (v0 : Str) (o3_g : Nat) (o3 : (List Str)) (v4 : Int) : Option ((Str × Nat × (List Str)) ⊕ ((List Str))) :=
 match P.ssub v0 (some (P.ar .add .i64 v4 1)) none with
 | none => none
 | some s20 =>
  some (.inl (s20, o3_g, o3))
theorem o_text_Lines_4  (v0 : Str) (o3_g : Nat) (o3 : (List Str)) (v4 : Int)   {out} (hp : b_text_Lines_4 PP c_strings_IndexByte c_strings_HasPrefix  v0 o3_g o3 v4 = some out) : (A_text_Lines_4 xat @xmap xlen e_string m  v0 o3_g o3 v4 stk) = (Sum.elim (fun (v0, o3_g, o3) => (A_text_Lines_1 xat @xmap xlen e_string m  v0 o3_g o3 stk)) (O_text_Lines @xmap e_string m  stk)) out := by
 subst hPP
 simp only [b_text_Lines_4] at hp
 unfold A_text_Lines_4
 rw [h.at_, hT]
 cbv
 cases c21 : pssub v0 (some (xar .add .i64 v4 1)) none with
 | none => simp only [c21] at hp; cases hp
 | some s20 =>
  simp only [c21] at hp
  obtain ⟨q0, q1, q2, q3⟩ := h.ssub1 c21
  simp only [q0, q1, q2, q3, Bool.false_eq_true, if_false, if_true]
  cbv
  try simp only [q0, q1, q2, q3, if_true]
  cbv
  cases hp
  all_goals first | rfl | (cbv; done) | (simp only [h.nadd0, h.nle_refl, h.cut_all, h.cut_nil, h.map_cons, h.map_nil, h.mapE_nil, h.len_nil, he_e_string, O_text_Lines, A_text_Lines_1, if_true]; first | done | rfl | (cbv; done) | (cbv; simp only [h.map_cons, h.map_nil, h.mapE_nil, h.len_nil, he_e_string, O_text_Lines, A_text_Lines_1]; done))
end
def b_block_comes_0 (P : Prims) (c_strings_Contains : Str → Str → Option (Bool)) (c_strings_HasSuffix : Str → Str → Option (Bool)) (c_text_Lines : Str → Option ((List Str))) (c_block_empty : Str → Option (Bool)) (c_block_Indent__0 : Nat → (List Str) → Option (Int)) (l_2 : T_block_comes_2) (v0 : Str) : Option (Bool) :=
 match c_strings_Contains v0 [13] with
 | none => none
 | some r1_0 =>
  match r1_0 with
  | false =>
   match c_strings_HasSuffix v0 [92] with
   | none => none
   | some r4_0 =>
    match r4_0 with
    | false =>
     match c_strings_HasSuffix v0 [34] with
     | none => none
     | some r7_0 =>
      match r7_0 with
      | false =>
       match c_text_Lines v0 with
       | none => none
       | some r10_0 =>
        match P.seq v0 [] with
        | false =>
         match P.idx r10_0 0 with
         | none => none
         | some a13 =>
          match c_block_empty a13 with
          | none => none
          | some r15_0 =>
           match r15_0 with
           | false =>
            match P.idx r10_0 (P.ar .sub .i64 (P.len r10_0) 1) with
            | none => none
            | some a18 =>
             match c_block_empty a18 with
             | none => none
             | some r20_0 =>
              match r20_0 with
              | false =>
               l_2 r10_0
              | true =>
               some false
           | true =>
            some false
        | true =>
         l_2 r10_0
      | true =>
       some false
    | true =>
     some false
  | true =>
   some false
section
variable (c_strings_Contains : Str → Str → Option (Bool)) (c_strings_HasSuffix : Str → Str → Option (Bool)) (c_text_Lines : Str → Option ((List Str))) (c_block_empty : Str → Option (Bool)) (c_block_Indent__0 : Nat → (List Str) → Option (Int)) (h_strings_Contains : (C_strings_Contains xpcall xfcall c_strings_Contains)) (h_strings_HasSuffix : (C_strings_HasSuffix xpcall xfcall c_strings_HasSuffix)) (h_text_Lines : (C_text_Lines xpcall xfcall @xmap e_string c_text_Lines)) (h_block_empty : (C_block_empty xpcall xfcall c_block_empty)) (h_block_Indent__0 : (C_block_Indent__0 xpcall xfcall @xmap xlen e_string c_block_Indent__0)) (stk : Stk) (m : Nat)   
include c_strings_Contains c_strings_HasSuffix c_text_Lines c_block_empty c_block_Indent__0 h_strings_Contains h_strings_HasSuffix h_text_Lines h_block_empty h_block_Indent__0 stk m  
theorem o_block_comes_0 (l_2 : T_block_comes_2) (v0 : Str)  (h_l_2 : H_block_comes_2 xat @xmap e_string m  l_2) {out} (hp : b_block_comes_0 PP c_strings_Contains c_strings_HasSuffix c_text_Lines c_block_empty c_block_Indent__0 l_2 v0 = some out) : (A_block_comes_0 xat m  v0 stk) = (O_block_comes  m  stk) out := by
 subst hPP
 simp only [b_block_comes_0] at hp
 unfold A_block_comes_0
 rw [h.at_, hT]
 cbv
 cases c2 : c_strings_Contains v0 [13] with
 | none => simp only [c2] at hp; cases hp
 | some r1_0 =>
  simp only [c2] at hp
  have qc := fun s => (h_strings_Contains c2 s).1
  simp only [qc]
  cbv
  cases r1_0 with
  | false =>
   simp only at hp
   cbv
   cases c5 : c_strings_HasSuffix v0 [92] with
   | none => simp only [c5] at hp; cases hp
   | some r4_0 =>
    simp only [c5] at hp
    have qc := fun s => (h_strings_HasSuffix c5 s).1
    simp only [qc]
    cbv
    cases r4_0 with
    | false =>
     simp only at hp
     cbv
     cases c8 : c_strings_HasSuffix v0 [34] with
     | none => simp only [c8] at hp; cases hp
     | some r7_0 =>
      simp only [c8] at hp
      have qc := fun s => (h_strings_HasSuffix c8 s).1
      simp only [qc]
      cbv
      cases r7_0 with
      | false =>
       simp only at hp
       cbv
       rw [h.at_, hT]
       cbv
       cases c11 : c_text_Lines v0 with
       | none => simp only [c11] at hp; cases hp
       | some r10_0 =>
        simp only [c11] at hp
        have qc := fun s => (h_text_Lines c11 s).1
        simp only [qc]
        cbv
        cases c12 : xseq v0 [] with
        | false =>
         simp only [c12] at hp ⊢
         cbv
         cases c14 : pidx r10_0 0 with
         | none => simp only [c14] at hp; cases hp
         | some a13 =>
          simp only [c14] at hp
          obtain ⟨q1, q2⟩ := h.idx e_string c14
          simp only [he_e_string] at q2
          simp only [q1, Bool.false_eq_true, if_false]
          cbv
          try simp only [q2]
          cbv
          cases c16 : c_block_empty a13 with
          | none => simp only [c16] at hp; cases hp
          | some r15_0 =>
           simp only [c16] at hp
           have qc := fun s => (h_block_empty c16 s).1
           simp only [qc]
           cbv
           cases r15_0 with
           | false =>
            simp only at hp
            cbv
            try simp only [h.len]
            cases c19 : pidx r10_0 (xar .sub .i64 (plen r10_0) 1) with
            | none => simp only [c19] at hp; cases hp
            | some a18 =>
             simp only [c19] at hp
             obtain ⟨q1, q2⟩ := h.idx e_string c19
             simp only [he_e_string] at q2
             simp only [q1, Bool.false_eq_true, if_false]
             cbv
             try simp only [q2]
             cbv
             cases c21 : c_block_empty a18 with
             | none => simp only [c21] at hp; cases hp
             | some r20_0 =>
              simp only [c21] at hp
              have qc := fun s => (h_block_empty c21 s).1
              simp only [qc]
              cbv
              cases r20_0 with
              | false =>
               simp only at hp
               cbv
               first | exact h_l_2 hp stk | (have q := h_l_2 hp stk; simp only [A_block_comes_2, h.map_cons, h.map_nil, h.mapE_nil, h.len_nil, he_e_string] at q; first | exact q | (cbv; exact q))
              | true =>
               simp only at hp
               cbv
               cases hp
               all_goals first | rfl | (cbv; done)
           | true =>
            simp only at hp
            cbv
            cases hp
            all_goals first | rfl | (cbv; done)
        | true =>
         simp only [c12] at hp ⊢
         cbv
         first | exact h_l_2 hp stk | (have q := h_l_2 hp stk; simp only [A_block_comes_2, h.map_cons, h.map_nil, h.mapE_nil, h.len_nil, he_e_string] at q; first | exact q | (cbv; exact q))
      | true =>
       simp only at hp
       cbv
       cases hp
       all_goals first | rfl | (cbv; done)
    | true =>
     simp only at hp
     cbv
     cases hp
     all_goals first | rfl | (cbv; done)
  | true =>
   simp only at hp
   cbv
   cases hp
   all_goals first | rfl | (cbv; done)
def b_block_comes_2 (P : Prims) (c_strings_Contains : Str → Str → Option (Bool)) (c_strings_HasSuffix : Str → Str → Option (Bool)) (c_text_Lines : Str → Option ((List Str))) (c_block_empty : Str → Option (Bool)) (c_block_Indent__0 : Nat → (List Str) → Option (Int))  (v3 : (List Str)) : Option (Bool) :=
 match P.app 16 [[]] v3 with
 | none => none
 | some l23 =>
  match c_block_Indent__0 1 l23 with
  | none => none
  | some r25_0 =>
   some (P.cmp .eql r25_0 0)
theorem o_block_comes_2  (v3 : (List Str))   {out} (hp : b_block_comes_2 PP c_strings_Contains c_strings_HasSuffix c_text_Lines c_block_empty c_block_Indent__0  v3 = some out) : (A_block_comes_2 xat @xmap e_string m  v3 stk) = (O_block_comes  m  stk) out := by
 subst hPP
 simp only [b_block_comes_2] at hp
 unfold A_block_comes_2
 rw [h.at_, hT]
 cbv
 simp only [h.allsz_nil, h.allsz_cons, if_true, h.len_nil]
 cbv
 try simp only [h.allsz_nil, if_true]
 try cbv
 try simp only [hz_e_string, if_true]
 cbv
 cases c24 : papp 16 [[]] v3 with
 | none => simp only [c24] at hp; cases hp
 | some l23 =>
  simp only [c24] at hp
  obtain ⟨q1, q2, q3⟩ := h.app e_string c24 rfl
  simp only [h.map_cons, h.map_nil, h.len_nil, he_e_string] at q1 q2 q3
  try simp only [h.len_nil]
  cbv
  simp only [q1, q2, q3, if_true]
  cbv
  cases c26 : c_block_Indent__0 1 l23 with
  | none => simp only [c26] at hp; cases hp
  | some r25_0 =>
   simp only [c26] at hp
   have qc := (h_block_Indent__0 c26 (⟨m, [([33], (.arr 1 1 (xmap e_string l23)))]⟩ :: stk) m [33] (h.gt _ _ _ _) (Nat.le_refl _)).1
   simp only [qc]
   cbv
   cases hp
   all_goals first | rfl | (cbv; done)
end
def b_block_Raw_0 (P : Prims) (c_block_comes : Str → Option (Bool)) (c_strings_ReplaceAll : Str → Str → Str → Option (Str))  (v0 : Str) : Option (Str × Int) :=
 match c_block_comes v0 with
 | none => none
 | some r1_0 =>
  match r1_0 with
  | false =>
   some ([], 4)
  | true =>
   match c_strings_ReplaceAll v0 [34, 34, 34] [92, 34, 34, 34] with
   | none => none
   | some r4_0 =>
    match P.scat [10] r4_0 with
    | none => none
    | some s6 =>
     some (s6, 0)
section
variable (c_block_comes : Str → Option (Bool)) (c_strings_ReplaceAll : Str → Str → Str → Option (Str)) (h_block_comes : (C_block_comes xpcall xfcall c_block_comes)) (h_strings_ReplaceAll : (C_strings_ReplaceAll xpcall xfcall c_strings_ReplaceAll)) (stk : Stk) (m : Nat)   
include c_block_comes c_strings_ReplaceAll h_block_comes h_strings_ReplaceAll stk m  
theorem o_block_Raw_0  (v0 : Str)   {out} (hp : b_block_Raw_0 PP c_block_comes c_strings_ReplaceAll  v0 = some out) : (A_block_Raw_0 xat m  v0 stk) = (O_block_Raw  m  stk) out := by
 subst hPP
 simp only [b_block_Raw_0] at hp
 unfold A_block_Raw_0
 rw [h.at_, hT]
 cbv
 cases c2 : c_block_comes v0 with
 | none => simp only [c2] at hp; cases hp
 | some r1_0 =>
  simp only [c2] at hp
  have qc := fun s => (h_block_comes c2 s).1
  simp only [qc]
  cbv
  cases r1_0 with
  | false =>
   simp only at hp
   cbv
   cases hp
   all_goals first | rfl | (cbv; done)
  | true =>
   simp only at hp
   cbv
   rw [h.at_, hT]
   cbv
   cases c5 : c_strings_ReplaceAll v0 [34, 34, 34] [92, 34, 34, 34] with
   | none => simp only [c5] at hp; cases hp
   | some r4_0 =>
    simp only [c5] at hp
    have qc := fun s => (h_strings_ReplaceAll c5 s).1
    simp only [qc]
    cbv
    cases c7 : pscat [10] r4_0 with
    | none => simp only [c7] at hp; cases hp
    | some s6 =>
     simp only [c7] at hp
     obtain ⟨q1, q2⟩ := h.scat c7
     simp only [q1, q2, if_true]
     cbv
     cases hp
     all_goals first | rfl | (cbv; done)
end
def b_cascaderef07_Indent__1_0 (P : Prims) (c_cascaderef07_first : Str → Option (Int)) (l_1 : T_cascaderef07_Indent__1_1) (L0_g : Nat) (L0 : (List Str)) : Option (Int) :=
 l_1 L0_g L0 (-1) 1
section
variable (c_cascaderef07_first : Str → Option (Int)) (h_cascaderef07_first : (C_cascaderef07_first xpcall xfcall c_cascaderef07_first)) (stk : Stk) (m : Nat) (n0 : Nat) (k0 : List Nat) (hl0 : n0 < m) 
include c_cascaderef07_first h_cascaderef07_first stk m n0 k0 hl0
theorem o_cascaderef07_Indent__1_0 (l_1 : T_cascaderef07_Indent__1_1) (L0_g : Nat) (L0 : (List Str)) (hg0 : getO stk ⟨n0, k0⟩ = some (.arr L0_g 1 (xmap e_string L0))) (h_l_1 : H_cascaderef07_Indent__1_1 xat @xmap xlen e_string m n0 k0 l_1) {out} (hp : b_cascaderef07_Indent__1_0 PP c_cascaderef07_first l_1 L0_g L0 = some out) : (A_cascaderef07_Indent__1_0 xat @xmap xlen e_string m n0 k0 L0_g L0 stk) = (O_cascaderef07_Indent__1  m n0 k0 stk) out := by
 have hn0 : (n0 = m) = False := eq_false (Nat.ne_of_lt hl0)
 have hm0 : decide (n0 < m) = true := decide_eq_true hl0
 subst hPP
 simp only [b_cascaderef07_Indent__1_0] at hp
 unfold A_cascaderef07_Indent__1_0
 rw [h.at_, hT]
 cbv
 try simp only [if_false, if_true, hn0, hm0]
 first | exact h_l_1 hp stk (hg0) | (have q := h_l_1 hp stk (hg0); simp only [A_cascaderef07_Indent__1_1, h.map_cons, h.map_nil, h.mapE_nil, h.len_nil, he_e_string] at q; first | exact q | (cbv; exact q))
def b_cascaderef07_Indent__1_1 (P : Prims) (c_cascaderef07_first : Str → Option (Int)) (l_3 : T_cascaderef07_Indent__1_3) (L0_g : Nat) (L0 : (List Str)) (v3 v4 : Int) : Option ((Int × Int) ⊕ (Int)) :=
 match P.cmp .lss v4 (P.len L0) with
 | false =>
  match P.cmp .gtr 0 v3 with
  | false =>
   some (.inr v3)
  | true =>
   some (.inr 0)
 | true =>
  match P.idx L0 v4 with
  | none => none
  | some a3 =>
   match c_cascaderef07_first a3 with
   | none => none
   | some r5_0 =>
    match P.cmp .lss r5_0 (P.slen a3) with
    | false =>
     l_3 L0_g L0 v3 v4
    | true =>
     match P.cmp .lss v3 0 with
     | false =>
      match P.cmp .lss r5_0 v3 with
      | false =>
       l_3 L0_g L0 v3 v4
      | true =>
       l_3 L0_g L0 r5_0 v4
     | true =>
      l_3 L0_g L0 r5_0 v4
theorem o_cascaderef07_Indent__1_1 (l_3 : T_cascaderef07_Indent__1_3) (L0_g : Nat) (L0 : (List Str)) (v3 v4 : Int) (hg0 : getO stk ⟨n0, k0⟩ = some (.arr L0_g 1 (xmap e_string L0))) (h_l_3 : H_cascaderef07_Indent__1_3 xat @xmap xlen e_string m n0 k0 l_3) {out} (hp : b_cascaderef07_Indent__1_1 PP c_cascaderef07_first l_3 L0_g L0 v3 v4 = some out) : (A_cascaderef07_Indent__1_1 xat @xmap xlen e_string m n0 k0 L0_g L0 v3 v4 stk) = (Sum.elim (fun (v3, v4) => (A_cascaderef07_Indent__1_1 xat @xmap xlen e_string m n0 k0 L0_g L0 v3 v4 stk)) (O_cascaderef07_Indent__1  m n0 k0 stk)) out := by
 have hn0 : (n0 = m) = False := eq_false (Nat.ne_of_lt hl0)
 have hm0 : decide (n0 < m) = true := decide_eq_true hl0
 subst hPP
 simp only [b_cascaderef07_Indent__1_1] at hp
 unfold A_cascaderef07_Indent__1_1
 rw [h.at_, hT]
 cbv
 try simp only [h.len]
 cases c1 : xcmp .lss v4 (plen L0) with
 | false =>
  simp only [c1] at hp ⊢
  cbv
  try simp only [if_false, if_true, hn0, hm0]
  try cbv
  rw [h.at_, hT]
  cbv
  cases c11 : xcmp .gtr 0 v3 with
  | false =>
   simp only [c11] at hp ⊢
   cbv
   cases hp
   try simp only [if_false, if_true, hn0, hm0]
   all_goals first | rfl | (cbv; done)
  | true =>
   simp only [c11] at hp ⊢
   cbv
   cases hp
   try simp only [if_false, if_true, hn0, hm0]
   all_goals first | rfl | (cbv; done)
 | true =>
  simp only [c1] at hp ⊢
  cbv
  try simp only [if_false, if_true, hn0, hm0]
  try cbv
  rw [h.at_, hT]
  cbv
  cases c4 : pidx L0 v4 with
  | none => simp only [c4] at hp; cases hp
  | some a3 =>
   simp only [c4] at hp
   obtain ⟨q1, q2, q3, w2⟩ := h.idxm e_string c4
   simp only [he_e_string] at w2
   simp only [q1, Bool.false_eq_true, if_false]
   cbv
   simp only [if_false, if_true, hn0, hm0, hg0]
   cbv
   simp only [q2, q3, if_true]
   cbv
   simp only [if_false, if_true, hn0, hm0, hg0]
   cbv
   simp only [w2]
   cbv
   cases c6 : c_cascaderef07_first a3 with
   | none => simp only [c6] at hp; cases hp
   | some r5_0 =>
    simp only [c6] at hp
    have qc := fun s => (h_cascaderef07_first c6 s).1
    simp only [qc]
    cbv
    obtain ⟨q1, q2, q3, w7⟩ := h.idxm e_string c4
    simp only [he_e_string] at w7
    simp only [q1, Bool.false_eq_true, if_false]
    cbv
    simp only [if_false, if_true, hn0, hm0, hg0]
    cbv
    simp only [q2, q3, if_true]
    cbv
    simp only [if_false, if_true, hn0, hm0, hg0]
    cbv
    simp only [w7]
    cbv
    try simp only [h.slen]
    cases c8 : xcmp .lss r5_0 (pslen a3) with
    | false =>
     simp only [c8] at hp ⊢
     cbv
     try simp only [if_false, if_true, hn0, hm0]
     first | exact h_l_3 hp stk (hg0) | (have q := h_l_3 hp stk (hg0); simp only [A_cascaderef07_Indent__1_3, h.map_cons, h.map_nil, h.mapE_nil, h.len_nil, he_e_string] at q; first | exact q | (cbv; exact q))
    | true =>
     simp only [c8] at hp ⊢
     cbv
     cases c9 : xcmp .lss v3 0 with
     | false =>
      simp only [c9] at hp ⊢
      cbv
      cases c10 : xcmp .lss r5_0 v3 with
      | false =>
       simp only [c10] at hp ⊢
       cbv
       try simp only [if_false, if_true, hn0, hm0]
       first | exact h_l_3 hp stk (hg0) | (have q := h_l_3 hp stk (hg0); simp only [A_cascaderef07_Indent__1_3, h.map_cons, h.map_nil, h.mapE_nil, h.len_nil, he_e_string] at q; first | exact q | (cbv; exact q))
      | true =>
       simp only [c10] at hp ⊢
       cbv
       try simp only [if_false, if_true, hn0, hm0]
       first | exact h_l_3 hp stk (hg0) | (have q := h_l_3 hp stk (hg0); simp only [A_cascaderef07_Indent__1_3, h.map_cons, h.map_nil, h.mapE_nil, h.len_nil, he_e_string] at q; first | exact q | (cbv; exact q))
     | true =>
      simp only [c9] at hp ⊢
      cbv
      try simp only [if_false, if_true, hn0, hm0]
      first | exact h_l_3 hp stk (hg0) | (have q := h_l_3 hp stk (hg0); simp only [A_cascaderef07_Indent__1_3, h.map_cons, h.map_nil, h.mapE_nil, h.len_nil, he_e_string] at q; first | exact q | (cbv; exact q))
def b_cascaderef07_Indent__1_3 (P : Prims) (c_cascaderef07_first : Str → Option (Int))  (L0_g : Nat) (L0 : (List Str)) (v3 v4 : Int) : Option ((Int × Int) ⊕ (Int)) :=
 some (.inl (v3, P.ar .add .i64 v4 1))
theorem o_cascaderef07_Indent__1_3  (L0_g : Nat) (L0 : (List Str)) (v3 v4 : Int) (hg0 : getO stk ⟨n0, k0⟩ = some (.arr L0_g 1 (xmap e_string L0)))  {out} (hp : b_cascaderef07_Indent__1_3 PP c_cascaderef07_first  L0_g L0 v3 v4 = some out) : (A_cascaderef07_Indent__1_3 xat @xmap xlen e_string m n0 k0 L0_g L0 v3 v4 stk) = (Sum.elim (fun (v3, v4) => (A_cascaderef07_Indent__1_1 xat @xmap xlen e_string m n0 k0 L0_g L0 v3 v4 stk)) (O_cascaderef07_Indent__1  m n0 k0 stk)) out := by
 have hn0 : (n0 = m) = False := eq_false (Nat.ne_of_lt hl0)
 have hm0 : decide (n0 < m) = true := decide_eq_true hl0
 subst hPP
 simp only [b_cascaderef07_Indent__1_3] at hp
 unfold A_cascaderef07_Indent__1_3
 rw [h.at_, hT]
 cbv
 cases hp
 try simp only [if_false, if_true, hn0, hm0]
 all_goals first | rfl | (cbv; done) | (simp only [h.nadd0, h.nle_refl, h.cut_all, h.cut_nil, h.map_cons, h.map_nil, h.mapE_nil, h.len_nil, he_e_string, O_cascaderef07_Indent__1, A_cascaderef07_Indent__1_1, if_true]; first | done | rfl | (cbv; done) | (cbv; simp only [h.map_cons, h.map_nil, h.mapE_nil, h.len_nil, he_e_string, O_cascaderef07_Indent__1, A_cascaderef07_Indent__1_1]; done))
end
def b_cascaderef07_Raw_0 (P : Prims) (c_cascaderef01_Lines : Str → Option ((List Str))) (c_cascaderef07_first : Str → Option (Int)) (c_cascaderef07_Indent__1 : Nat → (List Str) → Option (Int)) (c_cascaderef07_turned : Str → Str → Str → Option (Str)) (l_1 : T_cascaderef07_Raw_1) (v0 : Str) : Option (Str × Int) :=
 l_1 v0 0
section
variable (c_cascaderef01_Lines : Str → Option ((List Str))) (c_cascaderef07_first : Str → Option (Int)) (c_cascaderef07_Indent__1 : Nat → (List Str) → Option (Int)) (c_cascaderef07_turned : Str → Str → Str → Option (Str)) (h_cascaderef01_Lines : (C_cascaderef01_Lines xpcall xfcall @xmap e_string c_cascaderef01_Lines)) (h_cascaderef07_first : (C_cascaderef07_first xpcall xfcall c_cascaderef07_first)) (h_cascaderef07_Indent__1 : (C_cascaderef07_Indent__1 xpcall xfcall @xmap xlen e_string c_cascaderef07_Indent__1)) (h_cascaderef07_turned : (C_cascaderef07_turned xpcall xfcall c_cascaderef07_turned)) (stk : Stk) (m : Nat)   
include c_cascaderef01_Lines c_cascaderef07_first c_cascaderef07_Indent__1 c_cascaderef07_turned h_cascaderef01_Lines h_cascaderef07_first h_cascaderef07_Indent__1 h_cascaderef07_turned stk m  
theorem o_cascaderef07_Raw_0 (l_1 : T_cascaderef07_Raw_1) (v0 : Str)  (h_l_1 : H_cascaderef07_Raw_1 xat m  l_1) {out} (hp : b_cascaderef07_Raw_0 PP c_cascaderef01_Lines c_cascaderef07_first c_cascaderef07_Indent__1 c_cascaderef07_turned l_1 v0 = some out) : (A_cascaderef07_Raw_0 xat m  v0 stk) = (O_cascaderef07_Raw  m  stk) out := by
 subst hPP
 simp only [b_cascaderef07_Raw_0] at hp
 unfold A_cascaderef07_Raw_0
 rw [h.at_, hT]
 cbv
 first | exact h_l_1 hp stk | (have q := h_l_1 hp stk; simp only [A_cascaderef07_Raw_1, h.map_cons, h.map_nil, h.mapE_nil, h.len_nil, he_e_string] at q; first | exact q | (cbv; exact q))
def b_cascaderef07_Raw_1 (P : Prims) (c_cascaderef01_Lines : Str → Option ((List Str))) (c_cascaderef07_first : Str → Option (Int)) (c_cascaderef07_Indent__1 : Nat → (List Str) → Option (Int)) (c_cascaderef07_turned : Str → Str → Str → Option (Str)) (l_3 : T_cascaderef07_Raw_3) (l_5 : T_cascaderef07_Raw_5) (v0 : Str) (v4 : Int) : Option ((Str × Int) ⊕ (Str × Int)) :=
 match P.cmp .lss v4 (P.slen v0) with
 | false =>
  match c_cascaderef01_Lines v0 with
  | none => none
  | some r8_0 =>
   match P.idx r8_0 0 with
   | none => none
   | some a10 =>
    match P.idx r8_0 (P.ar .sub .i64 (P.len r8_0) 1) with
    | none => none
    | some a12 =>
     match P.cmp .gtr (P.slen v0) 0 with
     | false =>
      match l_5 v0 r8_0 with | none => none | some o22 => some (.inr o22)
     | true =>
      match c_cascaderef07_first a10 with
      | none => none
      | some r15_0 =>
       match P.cmp .eql r15_0 (P.slen a10) with
       | false =>
        match c_cascaderef07_first a12 with
        | none => none
        | some r18_0 =>
         match P.cmp .eql r18_0 (P.slen a12) with
         | false =>
          match l_5 v0 r8_0 with | none => none | some o21 => some (.inr o21)
         | true =>
          some (.inr ([], 4))
       | true =>
        some (.inr ([], 4))
 | true =>
  match P.sidx v0 v4 with
  | none => none
  | some b2 =>
   match P.cmp .eql b2 13 with
   | false =>
    match P.cmp .eql v4 (P.ar .sub .i64 (P.slen v0) 1) with
    | false =>
     l_3 v0 v4
    | true =>
     match P.cmp .eql b2 92 with
     | false =>
      match P.cmp .eql b2 34 with
      | false =>
       l_3 v0 v4
      | true =>
       some (.inr ([], 4))
     | true =>
      some (.inr ([], 4))
   | true =>
    some (.inr ([], 4))
theorem o_cascaderef07_Raw_1 (l_3 : T_cascaderef07_Raw_3) (l_5 : T_cascaderef07_Raw_5) (v0 : Str) (v4 : Int)  (h_l_3 : H_cascaderef07_Raw_3 xat m  l_3) (h_l_5 : H_cascaderef07_Raw_5 xat @xmap e_string m  l_5) {out} (hp : b_cascaderef07_Raw_1 PP c_cascaderef01_Lines c_cascaderef07_first c_cascaderef07_Indent__1 c_cascaderef07_turned l_3 l_5 v0 v4 = some out) : (A_cascaderef07_Raw_1 xat m  v0 v4 stk) = (Sum.elim (fun (v0, v4) => (A_cascaderef07_Raw_1 xat m  v0 v4 stk)) (O_cascaderef07_Raw  m  stk)) out := by
 subst hPP
 simp only [b_cascaderef07_Raw_1] at hp
 unfold A_cascaderef07_Raw_1
 rw [h.at_, hT]
 cbv
 try simp only [h.slen]
 cases c1 : xcmp .lss v4 (pslen v0) with
 | false =>
  simp only [c1] at hp ⊢
  cbv
  rw [h.at_, hT]
  cbv
  cases c9 : c_cascaderef01_Lines v0 with
  | none => simp only [c9] at hp; cases hp
  | some r8_0 =>
   simp only [c9] at hp
   have qc := fun s => (h_cascaderef01_Lines c9 s).1
   simp only [qc]
   cbv
   cases c11 : pidx r8_0 0 with
   | none => simp only [c11] at hp; cases hp
   | some a10 =>
    simp only [c11] at hp
    obtain ⟨q1, q2⟩ := h.idx e_string c11
    simp only [he_e_string] at q2
    simp only [q1, Bool.false_eq_true, if_false]
    cbv
    try simp only [q2]
    cbv
    try simp only [h.len]
    cases c13 : pidx r8_0 (xar .sub .i64 (plen r8_0) 1) with
    | none => simp only [c13] at hp; cases hp
    | some a12 =>
     simp only [c13] at hp
     obtain ⟨q1, q2⟩ := h.idx e_string c13
     simp only [he_e_string] at q2
     simp only [q1, Bool.false_eq_true, if_false]
     cbv
     try simp only [q2]
     cbv
     try simp only [h.slen]
     cases c14 : xcmp .gtr (pslen v0) 0 with
     | false =>
      simp only [c14] at hp ⊢
      cbv
      cases c : l_5 v0 r8_0 with
      | none => simp only [c] at hp; cases hp
      | some o22 =>
       simp only [c] at hp
       cases hp
       first | exact h_l_5 c stk | (have q := h_l_5 c stk; simp only [A_cascaderef07_Raw_5, h.map_cons, h.map_nil, h.mapE_nil, h.len_nil, he_e_string] at q; first | exact q | (cbv; exact q))
     | true =>
      simp only [c14] at hp ⊢
      cbv
      cases c16 : c_cascaderef07_first a10 with
      | none => simp only [c16] at hp; cases hp
      | some r15_0 =>
       simp only [c16] at hp
       have qc := fun s => (h_cascaderef07_first c16 s).1
       simp only [qc]
       cbv
       try simp only [h.slen]
       cases c17 : xcmp .eql r15_0 (pslen a10) with
       | false =>
        simp only [c17] at hp ⊢
        cbv
        cases c19 : c_cascaderef07_first a12 with
        | none => simp only [c19] at hp; cases hp
        | some r18_0 =>
         simp only [c19] at hp
         have qc := fun s => (h_cascaderef07_first c19 s).1
         simp only [qc]
         cbv
         try simp only [h.slen]
         cases c20 : xcmp .eql r18_0 (pslen a12) with
         | false =>
          simp only [c20] at hp ⊢
          cbv
          cases c : l_5 v0 r8_0 with
          | none => simp only [c] at hp; cases hp
          | some o21 =>
           simp only [c] at hp
           cases hp
           first | exact h_l_5 c stk | (have q := h_l_5 c stk; simp only [A_cascaderef07_Raw_5, h.map_cons, h.map_nil, h.mapE_nil, h.len_nil, he_e_string] at q; first | exact q | (cbv; exact q))
         | true =>
          simp only [c20] at hp ⊢
          cbv
          cases hp
          all_goals first | rfl | (cbv; done)
       | true =>
        simp only [c17] at hp ⊢
        cbv
        cases hp
        all_goals first | rfl | (cbv; done)
 | true =>
  simp only [c1] at hp ⊢
  cbv
  rw [h.at_, hT]
  cbv
  cases c3 : psidx v0 v4 with
  | none => simp only [c3] at hp; cases hp
  | some b2 =>
   simp only [c3] at hp
   obtain ⟨w, q1, q2, q3⟩ := h.sidx c3
   simp only [q1, q2, q3, Bool.false_eq_true, if_false]
   cbv
   cases c4 : xcmp .eql b2 13 with
   | false =>
    simp only [c4] at hp ⊢
    cbv
    try simp only [h.slen]
    cases c5 : xcmp .eql v4 (xar .sub .i64 (pslen v0) 1) with
    | false =>
     simp only [c5] at hp ⊢
     cbv
     first | exact h_l_3 hp stk | (have q := h_l_3 hp stk; simp only [A_cascaderef07_Raw_3, h.map_cons, h.map_nil, h.mapE_nil, h.len_nil, he_e_string] at q; first | exact q | (cbv; exact q))
    | true =>
     simp only [c5] at hp ⊢
     cbv
     obtain ⟨w, q1, q2, q3⟩ := h.sidx c3
     simp only [q1, q2, q3, Bool.false_eq_true, if_false]
     cbv
     cases c6 : xcmp .eql b2 92 with
     | false =>
      simp only [c6] at hp ⊢
      cbv
      obtain ⟨w, q1, q2, q3⟩ := h.sidx c3
      simp only [q1, q2, q3, Bool.false_eq_true, if_false]
      cbv
      cases c7 : xcmp .eql b2 34 with
      | false =>
       simp only [c7] at hp ⊢
       cbv
       first | exact h_l_3 hp stk | (have q := h_l_3 hp stk; simp only [A_cascaderef07_Raw_3, h.map_cons, h.map_nil, h.mapE_nil, h.len_nil, he_e_string] at q; first | exact q | (cbv; exact q))
      | true =>
       simp only [c7] at hp ⊢
       cbv
       cases hp
       all_goals first | rfl | (cbv; done)
     | true =>
      simp only [c6] at hp ⊢
      cbv
      cases hp
      all_goals first | rfl | (cbv; done)
   | true =>
    simp only [c4] at hp ⊢
    cbv
    cases hp
    all_goals first | rfl | (cbv; done)
def b_cascaderef07_Raw_3 (P : Prims) (c_cascaderef01_Lines : Str → Option ((List Str))) (c_cascaderef07_first : Str → Option (Int)) (c_cascaderef07_Indent__1 : Nat → (List Str) → Option (Int)) (c_cascaderef07_turned : Str → Str → Str → Option (Str))  (v0 : Str) (v4 : Int) : Option ((Str × Int) ⊕ (Str × Int)) :=
 some (.inl (v0, P.ar .add .i64 v4 1))
theorem o_cascaderef07_Raw_3  (v0 : Str) (v4 : Int)   {out} (hp : b_cascaderef07_Raw_3 PP c_cascaderef01_Lines c_cascaderef07_first c_cascaderef07_Indent__1 c_cascaderef07_turned  v0 v4 = some out) : (A_cascaderef07_Raw_3 xat m  v0 v4 stk) = (Sum.elim (fun (v0, v4) => (A_cascaderef07_Raw_1 xat m  v0 v4 stk)) (O_cascaderef07_Raw  m  stk)) out := by
 subst hPP
 simp only [b_cascaderef07_Raw_3] at hp
 unfold A_cascaderef07_Raw_3
 rw [h.at_, hT]
 cbv
 cases hp
 all_goals first | rfl | (cbv; done)
def b_cascaderef07_Raw_5 (P : Prims) (c_cascaderef01_Lines : Str → Option ((List Str))) (c_cascaderef07_first : Str → Option (Int)) (c_cascaderef07_Indent__1 : Nat → (List Str) → Option (Int)) (c_cascaderef07_turned : Str → Str → Str → Option (Str))  (v0 : Str) (v5 : (List Str)) : Option (Str × Int) :=
 match P.app 16 ([] : List Str) [[]] with
 | none => none
 | some l23 =>
  match P.app 16 l23 v5 with
  | none => none
  | some l25 =>
   match c_cascaderef07_Indent__1 2 l25 with
   | none => none
   | some r27_0 =>
    match P.cmp .neq r27_0 0 with
    | false =>
     match c_cascaderef07_turned v0 [34, 34, 34] [92, 34, 34, 34] with
     | none => none
     | some r30_0 =>
      match P.scat [10] r30_0 with
      | none => none
      | some s32 =>
       some (s32, 0)
    | true =>
     some ([], 4)
theorem o_cascaderef07_Raw_5  (v0 : Str) (v5 : (List Str))   {out} (hp : b_cascaderef07_Raw_5 PP c_cascaderef01_Lines c_cascaderef07_first c_cascaderef07_Indent__1 c_cascaderef07_turned  v0 v5 = some out) : (A_cascaderef07_Raw_5 xat @xmap e_string m  v0 v5 stk) = (O_cascaderef07_Raw  m  stk) out := by
 subst hPP
 simp only [b_cascaderef07_Raw_5] at hp
 unfold A_cascaderef07_Raw_5
 rw [h.at_, hT]
 cbv
 simp only [h.allsz_nil, h.allsz_cons]
 cbv
 simp only [h.allsz_nil, h.allsz_cons]
 cbv
 cases c24 : papp 16 ([] : List Str) [[]] with
 | none => simp only [c24] at hp; cases hp
 | some l23 =>
  simp only [c24] at hp
  obtain ⟨q1, q2, q3⟩ := h.app e_string c24 rfl
  simp only [h.map_cons, h.map_nil, h.len_nil, he_e_string] at q1 q2 q3
  try simp only [h.len_nil]
  cbv
  simp only [q1, q2, q3, if_true]
  cbv
  try simp only [hz_e_string, if_true]
  cbv
  cases c26 : papp 16 l23 v5 with
  | none => simp only [c26] at hp; cases hp
  | some l25 =>
   simp only [c26] at hp
   obtain ⟨q1, q2, q3⟩ := h.app e_string c26 rfl
   try simp only [h.len_nil]
   cbv
   simp only [q1, q2, q3, if_true]
   cbv
   cases c28 : c_cascaderef07_Indent__1 2 l25 with
   | none => simp only [c28] at hp; cases hp
   | some r27_0 =>
    simp only [c28] at hp
    have qc := (h_cascaderef07_Indent__1 c28 (⟨m, [([8], (.arr 2 1 (xmap e_string l25)))]⟩ :: stk) m [8] (h.gt _ _ _ _) (Nat.le_refl _)).1
    simp only [qc]
    cbv
    cases c29 : xcmp .neq r27_0 0 with
    | false =>
     simp only [c29] at hp ⊢
     cbv
     rw [h.at_, hT]
     cbv
     cases c31 : c_cascaderef07_turned v0 [34, 34, 34] [92, 34, 34, 34] with
     | none => simp only [c31] at hp; cases hp
     | some r30_0 =>
      simp only [c31] at hp
      have qc := fun s => (h_cascaderef07_turned c31 s).1
      simp only [qc]
      cbv
      cases c33 : pscat [10] r30_0 with
      | none => simp only [c33] at hp; cases hp
      | some s32 =>
       simp only [c33] at hp
       obtain ⟨q1, q2⟩ := h.scat c33
       simp only [q1, q2, if_true]
       cbv
       cases hp
       all_goals first | rfl | (cbv; done)
    | true =>
     simp only [c29] at hp ⊢
     cbv
     cases hp
     all_goals first | rfl | (cbv; done)
end
def b_cascadelaw07_BlockRaws_0 (P : Prims) (c_cascadelaw07_awake : Option (Bool)) (c_block_Raw : Str → Option (Str × Int)) (c_cascaderef07_Raw : Str → Option (Str × Int)) (c_block_Value : Str → Option (Str))  (v0 : Str) : Option (Bool) :=
 match c_cascadelaw07_awake with
 | none => none
 | some r1_0 =>
  match r1_0 with
  | false =>
   some r1_0
  | true =>
   match P.cmp .gtr (P.slen v0) 400 with
   | false =>
    match c_block_Raw v0 with
    | none => none
    | some (r5_0, r5_1) =>
     match c_cascaderef07_Raw v0 with
     | none => none
     | some (r7_0, r7_1) =>
      match P.seq r5_0 r7_0 with
      | false =>
       some false
      | true =>
       match P.cmp .eql r5_1 r7_1 with
       | false =>
        some false
       | true =>
        match P.cmp .neq r5_1 0 with
        | false =>
         match c_block_Value r5_0 with
         | none => none
         | some r12_0 =>
          some (P.seq r12_0 v0)
        | true =>
         some true
   | true =>
    some r1_0
section
variable (c_cascadelaw07_awake : Option (Bool)) (c_block_Raw : Str → Option (Str × Int)) (c_cascaderef07_Raw : Str → Option (Str × Int)) (c_block_Value : Str → Option (Str)) (h_cascadelaw07_awake : (C_cascadelaw07_awake xpcall xfcall c_cascadelaw07_awake)) (h_block_Raw : (C_block_Raw xpcall xfcall c_block_Raw)) (h_cascaderef07_Raw : (C_cascaderef07_Raw xpcall xfcall c_cascaderef07_Raw)) (h_block_Value : (C_block_Value xpcall xfcall c_block_Value)) (stk : Stk) (m : Nat)   
include c_cascadelaw07_awake c_block_Raw c_cascaderef07_Raw c_block_Value h_cascadelaw07_awake h_block_Raw h_cascaderef07_Raw h_block_Value stk m  
theorem o_cascadelaw07_BlockRaws_0  (v0 : Str)   {out} (hp : b_cascadelaw07_BlockRaws_0 PP c_cascadelaw07_awake c_block_Raw c_cascaderef07_Raw c_block_Value  v0 = some out) : (A_cascadelaw07_BlockRaws_0 xat m  v0 stk) = (O_cascadelaw07_BlockRaws  m  stk) out := by
 subst hPP
 simp only [b_cascadelaw07_BlockRaws_0] at hp
 unfold A_cascadelaw07_BlockRaws_0
 rw [h.at_, hT]
 cbv
 cases c2 : c_cascadelaw07_awake with
 | none => simp only [c2] at hp; cases hp
 | some r1_0 =>
  simp only [c2] at hp
  have qc := fun s => (h_cascadelaw07_awake c2 s).1
  simp only [qc]
  cbv
  cases r1_0 with
  | false =>
   simp only at hp
   cbv
   have qc := fun s => (h_cascadelaw07_awake c2 s).1
   simp only [qc]
   cbv
   cases hp
   all_goals first | rfl | (cbv; done)
  | true =>
   simp only at hp
   cbv
   try simp only [h.slen]
   cases c4 : xcmp .gtr (pslen v0) 400 with
   | false =>
    simp only [c4] at hp ⊢
    cbv
    rw [h.at_, hT]
    cbv
    cases c6 : c_block_Raw v0 with
    | none => simp only [c6] at hp; cases hp
    | some y15 =>
     obtain ⟨r5_0, r5_1⟩ := y15
     simp only [c6] at hp
     have qc := fun s => (h_block_Raw c6 s).1
     simp only [qc]
     cbv
     cases c8 : c_cascaderef07_Raw v0 with
     | none => simp only [c8] at hp; cases hp
     | some y14 =>
      obtain ⟨r7_0, r7_1⟩ := y14
      simp only [c8] at hp
      have qc := fun s => (h_cascaderef07_Raw c8 s).1
      simp only [qc]
      cbv
      cases c9 : xseq r5_0 r7_0 with
      | false =>
       simp only [c9] at hp ⊢
       cbv
       cases hp
       all_goals first | rfl | (cbv; done)
      | true =>
       simp only [c9] at hp ⊢
       cbv
       cases c10 : xcmp .eql r5_1 r7_1 with
       | false =>
        simp only [c10] at hp ⊢
        cbv
        cases hp
        all_goals first | rfl | (cbv; done)
       | true =>
        simp only [c10] at hp ⊢
        cbv
        cases c11 : xcmp .neq r5_1 0 with
        | false =>
         simp only [c11] at hp ⊢
         cbv
         cases c13 : c_block_Value r5_0 with
         | none => simp only [c13] at hp; cases hp
         | some r12_0 =>
          simp only [c13] at hp
          have qc := fun s => (h_block_Value c13 s).1
          simp only [qc]
          cbv
          cases hp
          all_goals first | rfl | (cbv; done)
        | true =>
         simp only [c11] at hp ⊢
         cbv
         cases hp
         all_goals first | rfl | (cbv; done)
   | true =>
    simp only [c4] at hp ⊢
    cbv
    have qc := fun s => (h_cascadelaw07_awake c2 s).1
    simp only [qc]
    cbv
    cases hp
    all_goals first | rfl | (cbv; done)
end
def b_cascadelaw07_BlockClean_0 (P : Prims) (c_cascadelaw07_awake : Option (Bool)) (c_block_Value : Str → Option (Str)) (l_3 : T_cascadelaw07_BlockClean_3) (v0 : Str) (v1 : Int) : Option (Bool) :=
 match c_cascadelaw07_awake with
 | none => none
 | some r1_0 =>
  match r1_0 with
  | false =>
   some r1_0
  | true =>
   match P.cmp .gtr (P.slen v0) 400 with
   | false =>
    match P.scat [10] v0 with
    | none => none
    | some s5 =>
     match c_block_Value s5 with
     | none => none
     | some r7_0 =>
      match P.seq r7_0 [] with
      | false =>
       l_3 v0 v1 r7_0 [] 0
      | true =>
       some true
   | true =>
    some r1_0
section
variable (c_cascadelaw07_awake : Option (Bool)) (c_block_Value : Str → Option (Str)) (h_cascadelaw07_awake : (C_cascadelaw07_awake xpcall xfcall c_cascadelaw07_awake)) (h_block_Value : (C_block_Value xpcall xfcall c_block_Value)) (stk : Stk) (m : Nat)   
include c_cascadelaw07_awake c_block_Value h_cascadelaw07_awake h_block_Value stk m  
theorem o_cascadelaw07_BlockClean_0 (l_3 : T_cascadelaw07_BlockClean_3) (v0 : Str) (v1 : Int)  (h_l_3 : H_cascadelaw07_BlockClean_3 xat m  l_3) {out} (hp : b_cascadelaw07_BlockClean_0 PP c_cascadelaw07_awake c_block_Value l_3 v0 v1 = some out) : (A_cascadelaw07_BlockClean_0 xat m  v0 v1 stk) = (O_cascadelaw07_BlockClean  m  stk) out := by
 subst hPP
 simp only [b_cascadelaw07_BlockClean_0] at hp
 unfold A_cascadelaw07_BlockClean_0
 rw [h.at_, hT]
 cbv
 cases c2 : c_cascadelaw07_awake with
 | none => simp only [c2] at hp; cases hp
 | some r1_0 =>
  simp only [c2] at hp
  have qc := fun s => (h_cascadelaw07_awake c2 s).1
  simp only [qc]
  cbv
  cases r1_0 with
  | false =>
   simp only at hp
   cbv
   have qc := fun s => (h_cascadelaw07_awake c2 s).1
   simp only [qc]
   cbv
   cases hp
   all_goals first | rfl | (cbv; done)
  | true =>
   simp only at hp
   cbv
   try simp only [h.slen]
   cases c4 : xcmp .gtr (pslen v0) 400 with
   | false =>
    simp only [c4] at hp ⊢
    cbv
    rw [h.at_, hT]
    cbv
    cases c6 : pscat [10] v0 with
    | none => simp only [c6] at hp; cases hp
    | some s5 =>
     simp only [c6] at hp
     obtain ⟨q1, q2⟩ := h.scat c6
     simp only [q1, q2, if_true]
     cbv
     cases c8 : c_block_Value s5 with
     | none => simp only [c8] at hp; cases hp
     | some r7_0 =>
      simp only [c8] at hp
      have qc := fun s => (h_block_Value c8 s).1
      simp only [qc]
      cbv
      cases c9 : xseq r7_0 [] with
      | false =>
       simp only [c9] at hp ⊢
       cbv
       rw [h.at_, hT]
       cbv
       first | exact h_l_3 hp stk | (have q := h_l_3 hp stk; simp only [A_cascadelaw07_BlockClean_3, h.map_cons, h.map_nil, h.mapE_nil, h.len_nil, he_e_string] at q; first | exact q | (cbv; exact q))
      | true =>
       simp only [c9] at hp ⊢
       cbv
       cases hp
       all_goals first | rfl | (cbv; done)
   | true =>
    simp only [c4] at hp ⊢
    cbv
    have qc := fun s => (h_cascadelaw07_awake c2 s).1
    simp only [qc]
    cbv
    cases hp
    all_goals first | rfl | (cbv; done)
def b_cascadelaw07_BlockClean_3 (P : Prims) (c_cascadelaw07_awake : Option (Bool)) (c_block_Value : Str → Option (Str)) (l_7 : T_cascadelaw07_BlockClean_7) (v0 : Str) (v1 : Int) (v5 v6 : Str) (v7 : Int) : Option ((Str × Int × Str × Str × Int) ⊕ (Bool)) :=
 match P.quo .rem .u8 v1 20 with
 | none => none
 | some n10 =>
  match P.cmp .lss v7 (P.wrap .i64 n10) with
  | false =>
   match P.scat [10] v6 with
   | none => none
   | some s15 =>
    match l_7 v0 v5 v6 s15 0 with | none => none | some o17 => some (.inr o17)
  | true =>
   match P.scat v6 [32] with
   | none => none
   | some s13 =>
    some (.inl (v0, v1, v5, s13, P.ar .add .i64 v7 1))
theorem o_cascadelaw07_BlockClean_3 (l_7 : T_cascadelaw07_BlockClean_7) (v0 : Str) (v1 : Int) (v5 v6 : Str) (v7 : Int)  (h_l_7 : H_cascadelaw07_BlockClean_7 xat m  l_7) {out} (hp : b_cascadelaw07_BlockClean_3 PP c_cascadelaw07_awake c_block_Value l_7 v0 v1 v5 v6 v7 = some out) : (A_cascadelaw07_BlockClean_3 xat m  v0 v1 v5 v6 v7 stk) = (Sum.elim (fun (v0, v1, v5, v6, v7) => (A_cascadelaw07_BlockClean_3 xat m  v0 v1 v5 v6 v7 stk)) (O_cascadelaw07_BlockClean  m  stk)) out := by
 subst hPP
 simp only [b_cascadelaw07_BlockClean_3] at hp
 unfold A_cascadelaw07_BlockClean_3
 rw [h.at_, hT]
 cbv
 cases c11 : pquo .rem .u8 v1 20 with
 | none => simp only [c11] at hp; cases hp
 | some n10 =>
  simp only [c11] at hp
  obtain ⟨q1, q2⟩ := h.quo c11
  simp only [q1, q2, Bool.false_eq_true, if_false]
  cbv
  cases c12 : xcmp .lss v7 (xwrap .i64 n10) with
  | false =>
   simp only [c12] at hp ⊢
   cbv
   rw [h.at_, hT]
   cbv
   cases c16 : pscat [10] v6 with
   | none => simp only [c16] at hp; cases hp
   | some s15 =>
    simp only [c16] at hp
    obtain ⟨q1, q2⟩ := h.scat c16
    simp only [q1, q2, if_true]
    cbv
    cases c : l_7 v0 v5 v6 s15 0 with
    | none => simp only [c] at hp; cases hp
    | some o17 =>
     simp only [c] at hp
     cases hp
     first | exact h_l_7 c stk | (have q := h_l_7 c stk; simp only [A_cascadelaw07_BlockClean_7, h.map_cons, h.map_nil, h.mapE_nil, h.len_nil, he_e_string] at q; first | exact q | (cbv; exact q))
  | true =>
   simp only [c12] at hp ⊢
   cbv
   rw [h.at_, hT]
   cbv
   cases c14 : pscat v6 [32] with
   | none => simp only [c14] at hp; cases hp
   | some s13 =>
    simp only [c14] at hp
    obtain ⟨q1, q2⟩ := h.scat c14
    simp only [q1, q2, if_true]
    cbv
    rw [h.at_, hT]
    cbv
    cases hp
    all_goals first | rfl | (cbv; done)
def b_cascadelaw07_BlockClean_7 (P : Prims) (c_cascadelaw07_awake : Option (Bool)) (c_block_Value : Str → Option (Str)) (l_9 : T_cascadelaw07_BlockClean_9) (v0 v5 v6 v8 : Str) (v9 : Int) : Option ((Str × Str × Str × Str × Int) ⊕ (Bool)) :=
 match P.cmp .lss v9 (P.slen v0) with
 | false =>
  match P.sidx v5 (P.ar .sub .i64 (P.slen v5) 1) with
  | none => none
  | some b37 =>
   match c_block_Value v8 with
   | none => none
   | some r39_0 =>
    match P.seq r39_0 v5 with
    | false =>
     some (.inr false)
    | true =>
     match P.sidx v5 0 with
     | none => none
     | some b42 =>
      match P.cmp .neq b42 10 with
      | false =>
       some (.inr false)
      | true =>
       match P.cmp .neq b37 10 with
       | false =>
        some (.inr false)
       | true =>
        some (.inr (P.cmp .neq b37 13))
 | true =>
  match P.ssub v0 (some v9) (some (P.ar .add .i64 v9 1)) with
  | none => none
  | some s19 =>
   match P.scat v8 s19 with
   | none => none
   | some s21 =>
    match P.sidx v0 v9 with
    | none => none
    | some b23 =>
     match P.cmp .eql b23 10 with
     | false =>
      match P.cmp .eql b23 13 with
      | false =>
       l_9 v0 v5 v6 s21 v9
      | true =>
       match P.cmp .lss v9 (P.ar .sub .i64 (P.slen v0) 1) with
       | false =>
        match P.scat s21 v6 with
        | none => none
        | some s35 =>
         l_9 v0 v5 v6 s35 v9
       | true =>
        match P.sidx v0 (P.ar .add .i64 v9 1) with
        | none => none
        | some b30 =>
         match P.cmp .eql b30 10 with
         | false =>
          match P.scat s21 v6 with
          | none => none
          | some s33 =>
           l_9 v0 v5 v6 s33 v9
         | true =>
          l_9 v0 v5 v6 s21 v9
     | true =>
      match P.scat s21 v6 with
      | none => none
      | some s26 =>
       l_9 v0 v5 v6 s26 v9
theorem o_cascadelaw07_BlockClean_7 (l_9 : T_cascadelaw07_BlockClean_9) (v0 v5 v6 v8 : Str) (v9 : Int)  (h_l_9 : H_cascadelaw07_BlockClean_9 xat m  l_9) {out} (hp : b_cascadelaw07_BlockClean_7 PP c_cascadelaw07_awake c_block_Value l_9 v0 v5 v6 v8 v9 = some out) : (A_cascadelaw07_BlockClean_7 xat m  v0 v5 v6 v8 v9 stk) = (Sum.elim (fun (v0, v5, v6, v8, v9) => (A_cascadelaw07_BlockClean_7 xat m  v0 v5 v6 v8 v9 stk)) (O_cascadelaw07_BlockClean  m  stk)) out := by
 subst hPP
 simp only [b_cascadelaw07_BlockClean_7] at hp
 unfold A_cascadelaw07_BlockClean_7
 rw [h.at_, hT]
 cbv
 try simp only [h.slen]
 cases c18 : xcmp .lss v9 (pslen v0) with
 | false =>
  simp only [c18] at hp ⊢
  cbv
  rw [h.at_, hT]
  cbv
  try simp only [h.slen]
  cases c38 : psidx v5 (xar .sub .i64 (pslen v5) 1) with
  | none => simp only [c38] at hp; cases hp
  | some b37 =>
   simp only [c38] at hp
   obtain ⟨w, q1, q2, q3⟩ := h.sidx c38
   simp only [q1, q2, q3, Bool.false_eq_true, if_false]
   cbv
   cases c40 : c_block_Value v8 with
   | none => simp only [c40] at hp; cases hp
   | some r39_0 =>
    simp only [c40] at hp
    have qc := fun s => (h_block_Value c40 s).1
    simp only [qc]
    cbv
    cases c41 : xseq r39_0 v5 with
    | false =>
     simp only [c41] at hp ⊢
     cbv
     cases hp
     all_goals first | rfl | (cbv; done)
    | true =>
     simp only [c41] at hp ⊢
     cbv
     cases c43 : psidx v5 0 with
     | none => simp only [c43] at hp; cases hp
     | some b42 =>
      simp only [c43] at hp
      obtain ⟨w, q1, q2, q3⟩ := h.sidx c43
      simp only [q1, q2, q3, Bool.false_eq_true, if_false]
      cbv
      cases c44 : xcmp .neq b42 10 with
      | false =>
       simp only [c44] at hp ⊢
       cbv
       cases hp
       all_goals first | rfl | (cbv; done)
      | true =>
       simp only [c44] at hp ⊢
       cbv
       cases c45 : xcmp .neq b37 10 with
       | false =>
        simp only [c45] at hp ⊢
        cbv
        cases hp
        all_goals first | rfl | (cbv; done)
       | true =>
        simp only [c45] at hp ⊢
        cbv
        cases hp
        all_goals first | rfl | (cbv; done)
 | true =>
  simp only [c18] at hp ⊢
  cbv
  rw [h.at_, hT]
  cbv
  cases c20 : pssub v0 (some v9) (some (xar .add .i64 v9 1)) with
  | none => simp only [c20] at hp; cases hp
  | some s19 =>
   simp only [c20] at hp
   obtain ⟨q0, q1, q2, q3, q4⟩ := h.ssub2 c20
   simp only [q0, q1, q2, q3, q4, Bool.false_eq_true, if_false, if_true]
   cbv
   try simp only [q0, q1, q2, q3, q4, if_true]
   cbv
   cases c22 : pscat v8 s19 with
   | none => simp only [c22] at hp; cases hp
   | some s21 =>
    simp only [c22] at hp
    obtain ⟨q1, q2⟩ := h.scat c22
    simp only [q1, q2, if_true]
    cbv
    cases c24 : psidx v0 v9 with
    | none => simp only [c24] at hp; cases hp
    | some b23 =>
     simp only [c24] at hp
     obtain ⟨w, q1, q2, q3⟩ := h.sidx c24
     simp only [q1, q2, q3, Bool.false_eq_true, if_false]
     cbv
     cases c25 : xcmp .eql b23 10 with
     | false =>
      simp only [c25] at hp ⊢
      cbv
      obtain ⟨w, q1, q2, q3⟩ := h.sidx c24
      simp only [q1, q2, q3, Bool.false_eq_true, if_false]
      cbv
      cases c28 : xcmp .eql b23 13 with
      | false =>
       simp only [c28] at hp ⊢
       cbv
       first | exact h_l_9 hp stk | (have q := h_l_9 hp stk; simp only [A_cascadelaw07_BlockClean_9, h.map_cons, h.map_nil, h.mapE_nil, h.len_nil, he_e_string] at q; first | exact q | (cbv; exact q))
      | true =>
       simp only [c28] at hp ⊢
       cbv
       try simp only [h.slen]
       cases c29 : xcmp .lss v9 (xar .sub .i64 (pslen v0) 1) with
       | false =>
        simp only [c29] at hp ⊢
        cbv
        cases c36 : pscat s21 v6 with
        | none => simp only [c36] at hp; cases hp
        | some s35 =>
         simp only [c36] at hp
         obtain ⟨q1, q2⟩ := h.scat c36
         simp only [q1, q2, if_true]
         cbv
         first | exact h_l_9 hp stk | (have q := h_l_9 hp stk; simp only [A_cascadelaw07_BlockClean_9, h.map_cons, h.map_nil, h.mapE_nil, h.len_nil, he_e_string] at q; first | exact q | (cbv; exact q))
       | true =>
        simp only [c29] at hp ⊢
        cbv
        cases c31 : psidx v0 (xar .add .i64 v9 1) with
        | none => simp only [c31] at hp; cases hp
        | some b30 =>
         simp only [c31] at hp
         obtain ⟨w, q1, q2, q3⟩ := h.sidx c31
         simp only [q1, q2, q3, Bool.false_eq_true, if_false]
         cbv
         cases c32 : xcmp .eql b30 10 with
         | false =>
          simp only [c32] at hp ⊢
          cbv
          cases c34 : pscat s21 v6 with
          | none => simp only [c34] at hp; cases hp
          | some s33 =>
           simp only [c34] at hp
           obtain ⟨q1, q2⟩ := h.scat c34
           simp only [q1, q2, if_true]
           cbv
           first | exact h_l_9 hp stk | (have q := h_l_9 hp stk; simp only [A_cascadelaw07_BlockClean_9, h.map_cons, h.map_nil, h.mapE_nil, h.len_nil, he_e_string] at q; first | exact q | (cbv; exact q))
         | true =>
          simp only [c32] at hp ⊢
          cbv
          first | exact h_l_9 hp stk | (have q := h_l_9 hp stk; simp only [A_cascadelaw07_BlockClean_9, h.map_cons, h.map_nil, h.mapE_nil, h.len_nil, he_e_string] at q; first | exact q | (cbv; exact q))
     | true =>
      simp only [c25] at hp ⊢
      cbv
      cases c27 : pscat s21 v6 with
      | none => simp only [c27] at hp; cases hp
      | some s26 =>
       simp only [c27] at hp
       obtain ⟨q1, q2⟩ := h.scat c27
       simp only [q1, q2, if_true]
       cbv
       first | exact h_l_9 hp stk | (have q := h_l_9 hp stk; simp only [A_cascadelaw07_BlockClean_9, h.map_cons, h.map_nil, h.mapE_nil, h.len_nil, he_e_string] at q; first | exact q | (cbv; exact q))
def b_cascadelaw07_BlockClean_9 (P : Prims) (c_cascadelaw07_awake : Option (Bool)) (c_block_Value : Str → Option (Str))  (v0 v5 v6 v8 : Str) (v9 : Int) : Option ((Str × Str × Str × Str × Int) ⊕ (Bool)) :=
 some (.inl (v0, v5, v6, v8, P.ar .add .i64 v9 1))
theorem o_cascadelaw07_BlockClean_9  (v0 v5 v6 v8 : Str) (v9 : Int)   {out} (hp : b_cascadelaw07_BlockClean_9 PP c_cascadelaw07_awake c_block_Value  v0 v5 v6 v8 v9 = some out) : (A_cascadelaw07_BlockClean_9 xat m  v0 v5 v6 v8 v9 stk) = (Sum.elim (fun (v0, v5, v6, v8, v9) => (A_cascadelaw07_BlockClean_7 xat m  v0 v5 v6 v8 v9 stk)) (O_cascadelaw07_BlockClean  m  stk)) out := by
 subst hPP
 simp only [b_cascadelaw07_BlockClean_9] at hp
 unfold A_cascadelaw07_BlockClean_9
 rw [h.at_, hT]
 cbv
 cases hp
 all_goals first | rfl | (cbv; done)
end
end
end Go.Abs.Q
