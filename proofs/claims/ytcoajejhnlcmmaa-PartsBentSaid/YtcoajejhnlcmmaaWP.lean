import Derived.Test.YtcoajejhnlcmmaaIrP
set_option linter.unusedSimpArgs false
set_option linter.unusedVariables false
set_option linter.unusedSectionVars false
namespace Go.Abs.P
set_option maxRecDepth 100000

section
variable {xR : FuncId → Option RF} {xiter : (St → Rs) → St → Rs} {xG : Nat → Option (List D)} {xcall : CallF} {xpcall : FuncId → List V → Stk → Option V} {xfcall : FuncId → List V → Stk → Option (V × Stk)} {xkcall : FuncId → List (List Nat) → List V → Stk → Option (V × Level × Stk)} {xlen : List D → Nat} {xnth : List D → Nat → Option D} {xcut : List D → Nat → Nat → List D} {xapp : List D → List D → List D} {xset : List D → Nat → D → List D} {xrep : Nat → D → List D} {xallsz : Nat → List D → Bool} {xslen : Str → Nat} {xsnth : Str → Nat → Option UInt8} {xscut : Str → Nat → Nat → Str} {xsapp : Str → Str → Str} {xseq : Str → Str → Bool} {xslt : Str → Str → Bool} {xofStr : Str → List D} {xtoStr : List D → Option Str} {xdec : Str → Nat → Nat × Nat} {xenc : Int → Str} {xar : BinOp → IntKind → Int → Int → Int} {xcmp : BinOp → Int → Int → Bool} {xwrap : IntKind → Int → Int} {xisz : Int → Bool} {xneg : Int → Bool} {xnat : Int → Nat} {xofN : Nat → Int} {xbyte : UInt8 → Int} {xnle : Nat → Nat → Bool} {xnadd : Nat → Nat → Nat} {xnsub : Nat → Nat → Nat} {xfits : Nat → Nat → Bool} {xfind : D → List (D × Nat × V) → Option (Option V)} {xputE : D → Nat → V → List (D × Nat × V) → Option (List (D × Nat × V))} {xfindK : D → List D → List D → Option (Option D)} {xelen : List (D × Nat × V) → Nat} {xfrzM : List (D × Nat × V) → Option (List D × List D)} {xat : AtF} {xsetO : Stk → Lab → O → Stk} {xtop : Stk → Nat} {xsame : Stk → Stk → Bool} {xmap : {α : Type} → (α → D) → List α → List D} {pquo : BinOp → IntKind → Int → Int → Option Int} {pshf : BinOp → IntKind → Int → Int → Option Int} {pslen : Str → Int} {psidx : Str → Int → Option Int} {pssub : Str → Option Int → Option Int → Option Str} {pscat : Str → Str → Option Str} {psit : Str → Nat → Option (Int × Int × Nat)} {pslist : Str → Option (List Int)} {pofBytes : List Int → Str} {plen : {α : Type} → List α → Int} {pidx : {α : Type} → List α → Int → Option α} {psub : {α : Type} → List α → Option Int → Option Int → Option (List α)} {papp : {α : Type} → Nat → List α → List α → Option (List α)} {pset : {α : Type} → List α → Int → α → Option (List α)} {pmake : {α : Type} → Nat → α → Int → Option (List α)} {ploop : {σ ρ : Type} → (σ → Option (σ ⊕ ρ)) → σ → Option ρ} {xT : FuncId → Option KF}
  (h : KLaws xR xiter xG xcall xpcall xfcall xkcall xlen xnth xcut xapp xset xrep xallsz xslen xsnth xscut xsapp xseq xslt xofStr xtoStr xdec xenc xar xcmp xwrap xisz xneg xnat xofN xbyte xnle xnadd xnsub xfits xfind xputE xfindK xelen xfrzM xat xsetO xtop xsame @xmap pquo pshf pslen psidx pssub pscat psit pslist pofBytes @plen @pidx @psub @papp @pset @pmake @ploop xT) (hT : xT = table)
variable {e_uint8 : Int → D} {e_string : Str → D} (he_e_uint8 : ∀ (x : Int), e_uint8 x = (.int .u8 x)) (hz_e_uint8 : ∀ l, xallsz 1 (xmap e_uint8 l) = true) (he_e_string : ∀ (x : Str), e_string x = (.str x)) (hz_e_string : ∀ l, xallsz 1 (xmap e_string l) = true)
include h hT he_e_uint8 hz_e_uint8 he_e_string hz_e_string
def b_parts_End_0 (P : Prims)    : Option (Str) :=
  some [45, 45, 99, 117, 116, 45, 45, 13, 10]
theorem o_parts_End_0   (stk : Stk) (m : Nat)        {out} (hp : b_parts_End_0 ⟨xar, xcmp, xwrap, xseq, xslt, xenc, pquo, pshf, pslen, psidx, pssub, pscat, psit, pslist, pofBytes, @plen, @pidx, @psub, @papp, @pset, @pmake, @ploop⟩    = some out) : xat 29 .frz 0 [] ⟨[], ⟨m, []⟩ :: stk⟩ = (fun r0 => (some (.ret (.d (.str r0)), stk) : Rk')) out := by
  simp only [b_parts_End_0] at hp
  rw [h.at_, hT]
  cbv
  cases hp
  all_goals first | rfl | (cbv; done) | (simp only [h.nadd0, h.nle_refl, h.cut_all, h.cut_nil, h.map_cons, h.map_nil, h.len_nil, he_e_uint8, he_e_string, if_true]; done) | (simp only [h.nadd0, h.nle_refl, h.cut_all, h.cut_nil, h.map_cons, h.map_nil, h.len_nil, he_e_uint8, he_e_string, if_true]; first | rfl | (cbv; done) | (cbv; simp only [h.map_cons, h.map_nil, h.len_nil, he_e_uint8, he_e_string]; done))
def b_parts_New__0_0 (P : Prims)    : Option (Str × Int × Bool × Int) :=
  some ([], 0, false, 0)
theorem o_parts_New__0_0   (stk : Stk) (m : Nat)        {out} (hp : b_parts_New__0_0 ⟨xar, xcmp, xwrap, xseq, xslt, xenc, pquo, pshf, pslen, psidx, pssub, pscat, psit, pslist, pofBytes, @plen, @pidx, @psub, @papp, @pset, @pmake, @ploop⟩    = some out) : xat 13 (.keep [[2]]) 0 [] ⟨[], ⟨m, []⟩ :: stk⟩ = (fun (qo2_0, qo2_1, qo2_2, qo2_3) => (some (.ret (.ref ⟨m, [2]⟩ 0), ⟨m, [([2], (.cells [(.d (.str qo2_0)), (.d (.int .i64 qo2_1)), (.d (.bool qo2_2)), (.d (.int .i64 qo2_3))]))]⟩ :: stk) : Rk')) out := by
  simp only [b_parts_New__0_0] at hp
  rw [h.at_, hT]
  cbv
  cases hp
  all_goals first | rfl | (cbv; done) | (simp only [h.nadd0, h.nle_refl, h.cut_all, h.cut_nil, h.map_cons, h.map_nil, h.len_nil, he_e_uint8, he_e_string, if_true]; done) | (simp only [h.nadd0, h.nle_refl, h.cut_all, h.cut_nil, h.map_cons, h.map_nil, h.len_nil, he_e_uint8, he_e_string, if_true]; first | rfl | (cbv; done) | (cbv; simp only [h.map_cons, h.map_nil, h.len_nil, he_e_uint8, he_e_string]; done))
def b_cascadelaw28_awake_0 (P : Prims) (c_parts_End : Option (Str)) (c_parts_New__0 : Option (Str × Int × Bool × Int))   : Option (Bool) :=
  match c_parts_End with
  | none => none
  | some r1_0 =>
    match P.seq r1_0 [45, 45, 99, 117, 116, 45, 45, 13, 10] with
    | false =>
      some false
    | true =>
      match c_parts_New__0 with
      | none => none
      | some (r4_0, r4_1, r4_2, r4_3) =>
        some true
theorem o_cascadelaw28_awake_0 (c_parts_End : Option (Str)) (c_parts_New__0 : Option (Str × Int × Bool × Int)) (h_parts_End : ∀ {r0 : Str}, c_parts_End  = some r0 → ∀ (stk : Stk) , xpcall 29 [] stk = some (.d (.str r0)) ∧ xfcall 29 [] stk = some (.d (.str r0), stk)) (h_parts_New__0 : ∀ {qo2_0 : Str} {qo2_1 : Int} {qo2_2 : Bool} {qo2_3 : Int}, c_parts_New__0  = some (qo2_0, qo2_1, qo2_2, qo2_3) → ∀ (stk : Stk) , ∀ m, m = topN stk + 1 → xkcall 13 [[2]] [] stk = some ((.ref ⟨m, [2]⟩ 0), ⟨m, [([2], (.cells [(.d (.str qo2_0)), (.d (.int .i64 qo2_1)), (.d (.bool qo2_2)), (.d (.int .i64 qo2_3))]))]⟩, stk)) (stk : Stk) (m : Nat)        {out} (hp : b_cascadelaw28_awake_0 ⟨xar, xcmp, xwrap, xseq, xslt, xenc, pquo, pshf, pslen, psidx, pssub, pscat, psit, pslist, pofBytes, @plen, @pidx, @psub, @papp, @pset, @pmake, @ploop⟩ c_parts_End c_parts_New__0   = some out) : xat 12 .frz 0 [] ⟨[], ⟨m, []⟩ :: stk⟩ = (fun r0 => (some (.ret (.d (.bool r0)), stk) : Rk')) out := by
  simp only [b_cascadelaw28_awake_0] at hp
  rw [h.at_, hT]
  cbv
  cases c2 : c_parts_End with
  | none => simp only [c2] at hp; cases hp
  | some r1_0 =>
    simp only [c2] at hp
    have qc := (h_parts_End c2 (⟨m, []⟩ :: stk) ).1
    simp only [qc]
    cbv
    cases c3 : xseq r1_0 [45, 45, 99, 117, 116, 45, 45, 13, 10] with
    | false =>
      simp only [c3] at hp ⊢
      cbv
      cases hp
      all_goals first | rfl | (cbv; done) | (simp only [h.nadd0, h.nle_refl, h.cut_all, h.cut_nil, h.map_cons, h.map_nil, h.len_nil, he_e_uint8, he_e_string, if_true]; done) | (simp only [h.nadd0, h.nle_refl, h.cut_all, h.cut_nil, h.map_cons, h.map_nil, h.len_nil, he_e_uint8, he_e_string, if_true]; first | rfl | (cbv; done) | (cbv; simp only [h.map_cons, h.map_nil, h.len_nil, he_e_uint8, he_e_string]; done))
    | true =>
      simp only [c3] at hp ⊢
      cbv
      cases c5 : c_parts_New__0 with
      | none => simp only [c5] at hp; cases hp
      | some y6 =>
        obtain ⟨r4_0, r4_1, r4_2, r4_3⟩ := y6
        simp only [c5] at hp
        have qc := h_parts_New__0 c5 (⟨m, []⟩ :: stk)  (m + 1) rfl
        simp only [qc]
        cbv
        cases hp
        all_goals first | rfl | (cbv; done) | (simp only [h.nadd0, h.nle_refl, h.cut_all, h.cut_nil, h.map_cons, h.map_nil, h.len_nil, he_e_uint8, he_e_string, if_true]; done) | (simp only [h.nadd0, h.nle_refl, h.cut_all, h.cut_nil, h.map_cons, h.map_nil, h.len_nil, he_e_uint8, he_e_string, if_true]; first | rfl | (cbv; done) | (cbv; simp only [h.map_cons, h.map_nil, h.len_nil, he_e_uint8, he_e_string]; done))
def b_parts_Reader_Feed__0_0 (P : Prims)   (v1 : Str) (L0_0 : Str) (L0_1 : Int) (L0_2 : Bool) (L0_3 : Int) : Option (Str × Int × Bool × Int) :=
  match P.scat L0_0 v1 with
  | none => none
  | some s1 =>
    some (s1, L0_1, L0_2, L0_3)
theorem o_parts_Reader_Feed__0_0   (stk : Stk) (m : Nat) (n0 : Nat) (k0 : List Nat) (hl0 : n0 < m)   (v1 : Str) (L0_0 : Str) (L0_1 : Int) (L0_2 : Bool) (L0_3 : Int) (hg0 : getO stk ⟨n0, k0⟩ = some (.cells [(.d (.str L0_0)), (.d (.int .i64 L0_1)), (.d (.bool L0_2)), (.d (.int .i64 L0_3))]))  {out} (hp : b_parts_Reader_Feed__0_0 ⟨xar, xcmp, xwrap, xseq, xslt, xenc, pquo, pshf, pslen, psidx, pssub, pscat, psit, pslist, pofBytes, @plen, @pidx, @psub, @papp, @pset, @pmake, @ploop⟩   v1 L0_0 L0_1 L0_2 L0_3 = some out) : xat 14 .frz 0 [] ⟨[(0, (.ref ⟨n0, k0⟩ 0)), (1, (.d (.str v1)))], ⟨m, []⟩ :: stk⟩ = (fun (r_w0_0, r_w0_1, r_w0_2, r_w0_3) => (some (.ret (.d (.tup [])), (xsetO stk ⟨n0, k0⟩ (.cells [(.d (.str r_w0_0)), (.d (.int .i64 r_w0_1)), (.d (.bool r_w0_2)), (.d (.int .i64 r_w0_3))]))) : Rk')) out := by
  have hn0 : (n0 = m) = False := eq_false (Nat.ne_of_lt hl0)
  have hm0 : decide (n0 < m) = true := decide_eq_true hl0
  simp only [b_parts_Reader_Feed__0_0] at hp
  rw [h.at_, hT]
  cbv
  simp only [if_false, if_true, hn0, hm0, hg0]
  cbv
  cases c2 : pscat L0_0 v1 with
  | none => simp only [c2] at hp; cases hp
  | some s1 =>
    simp only [c2] at hp
    obtain ⟨q1, q2⟩ := h.scat c2
    simp only [q1, q2, if_true]
    cbv
    try simp only [if_false, if_true, hn0, hm0, hg0]
    try cbv
    try simp only [h.set_o, h.st_, h.sb_ hl0, if_false, if_true, hn0, hm0, (h.gs (hg0) _)]
    try cbv
    cases hp
    try (simp only [h.so])
    try simp only [if_false, if_true, hn0, hm0]
    all_goals first | rfl | (cbv; done) | (simp only [h.nadd0, h.nle_refl, h.cut_all, h.cut_nil, h.map_cons, h.map_nil, h.len_nil, he_e_uint8, he_e_string, if_true]; done) | (simp only [h.nadd0, h.nle_refl, h.cut_all, h.cut_nil, h.map_cons, h.map_nil, h.len_nil, he_e_uint8, he_e_string, if_true]; first | rfl | (cbv; done) | (cbv; simp only [h.map_cons, h.map_nil, h.len_nil, he_e_uint8, he_e_string]; done))
def b_parts_scan_text__0_0 (P : Prims)  (l_1 : Str → Int → Str → Int → Int → Option (Str × Int × Int)) (v1 : Str) (L0_0 : Str) (L0_1 : Int) (L0_2 : Int) : Option (Str × Int × Int) :=
  l_1 v1 0 L0_0 L0_1 L0_2
theorem o_parts_scan_text__0_0   (stk : Stk) (m : Nat) (n0 : Nat) (k0 : List Nat) (hl0 : n0 < m)  (l_1 : Str → Int → Str → Int → Int → Option (Str × Int × Int)) (v1 : Str) (L0_0 : Str) (L0_1 : Int) (L0_2 : Int) (hg0 : getO stk ⟨n0, k0⟩ = some (.cells [(.d (.str L0_0)), (.d (.int .i64 L0_1)), (.d (.int .i64 L0_2))])) (h_l_1 : ∀ {v1 : Str} {v4 : Int} {L0_0 : Str} {L0_1 : Int} {L0_2 : Int} {out}, l_1 v1 v4 L0_0 L0_1 L0_2 = some out → ∀ (stk : Stk), getO stk ⟨n0, k0⟩ = some (.cells [(.d (.str L0_0)), (.d (.int .i64 L0_1)), (.d (.int .i64 L0_2))]) → xat 35 .frz 1 [.lp ⟨1, [0, 1, 4], []⟩, .blk 0] ⟨[(0, (.ref ⟨n0, k0⟩ 0)), (1, (.d (.str v1))), (4, (.d (.int .i64 v4)))], ⟨m, []⟩ :: stk⟩ = (fun (r_w0_0, r_w0_1, r_w0_2) => (some (.ret (.d (.tup [])), (xsetO stk ⟨n0, k0⟩ (.cells [(.d (.str r_w0_0)), (.d (.int .i64 r_w0_1)), (.d (.int .i64 r_w0_2))]))) : Rk')) out) {out} (hp : b_parts_scan_text__0_0 ⟨xar, xcmp, xwrap, xseq, xslt, xenc, pquo, pshf, pslen, psidx, pssub, pscat, psit, pslist, pofBytes, @plen, @pidx, @psub, @papp, @pset, @pmake, @ploop⟩  l_1 v1 L0_0 L0_1 L0_2 = some out) : xat 35 .frz 0 [] ⟨[(0, (.ref ⟨n0, k0⟩ 0)), (1, (.d (.str v1)))], ⟨m, []⟩ :: stk⟩ = (fun (r_w0_0, r_w0_1, r_w0_2) => (some (.ret (.d (.tup [])), (xsetO stk ⟨n0, k0⟩ (.cells [(.d (.str r_w0_0)), (.d (.int .i64 r_w0_1)), (.d (.int .i64 r_w0_2))]))) : Rk')) out := by
  have hn0 : (n0 = m) = False := eq_false (Nat.ne_of_lt hl0)
  have hm0 : decide (n0 < m) = true := decide_eq_true hl0
  simp only [b_parts_scan_text__0_0] at hp
  rw [h.at_, hT]
  cbv
  try simp only [if_false, if_true, hn0, hm0]
  first | exact h_l_1 hp stk (hg0) | (have q := h_l_1 hp stk (hg0); simp only [h.map_cons, h.map_nil, h.len_nil, he_e_uint8, he_e_string] at q; first | exact q | (cbv; exact q))
def b_parts_scan_text__0_1 (P : Prims)  (l_3 : Str → Int → Str → Int → Int → Option ((Str × Int × Str × Int × Int) ⊕ (Str × Int × Int))) (v1 : Str) (v4 : Int) (L0_0 : Str) (L0_1 : Int) (L0_2 : Int) : Option ((Str × Int × Str × Int × Int) ⊕ (Str × Int × Int)) :=
  match P.cmp .lss v4 (P.slen v1) with
  | false =>
    some (.inr (L0_0, L0_1, L0_2))
  | true =>
    match P.cmp .eql L0_2 0 with
    | false =>
      some (.inr (L0_0, L0_1, L0_2))
    | true =>
      match P.cmp .eql L0_1 (P.slen L0_0) with
      | false =>
        match P.sidx L0_0 L0_1 with
        | none => none
        | some b4 =>
          match P.sidx v1 v4 with
          | none => none
          | some b6 =>
            match P.cmp .neq b4 b6 with
            | false =>
              l_3 v1 v4 L0_0 (P.ar .add .i64 L0_1 1) L0_2
            | true =>
              l_3 v1 v4 L0_0 L0_1 2
      | true =>
        l_3 v1 v4 L0_0 L0_1 1
theorem o_parts_scan_text__0_1   (stk : Stk) (m : Nat) (n0 : Nat) (k0 : List Nat) (hl0 : n0 < m)  (l_3 : Str → Int → Str → Int → Int → Option ((Str × Int × Str × Int × Int) ⊕ (Str × Int × Int))) (v1 : Str) (v4 : Int) (L0_0 : Str) (L0_1 : Int) (L0_2 : Int) (hg0 : getO stk ⟨n0, k0⟩ = some (.cells [(.d (.str L0_0)), (.d (.int .i64 L0_1)), (.d (.int .i64 L0_2))])) (h_l_3 : ∀ {v1 : Str} {v4 : Int} {L0_0 : Str} {L0_1 : Int} {L0_2 : Int} {out}, l_3 v1 v4 L0_0 L0_1 L0_2 = some out → ∀ (stk : Stk), getO stk ⟨n0, k0⟩ = some (.cells [(.d (.str L0_0)), (.d (.int .i64 L0_1)), (.d (.int .i64 L0_2))]) → xat 35 .frz 3 [.lp ⟨1, [0, 1, 4], []⟩, .blk 0] ⟨[(0, (.ref ⟨n0, k0⟩ 0)), (1, (.d (.str v1))), (4, (.d (.int .i64 v4)))], ⟨m, []⟩ :: stk⟩ = (Sum.elim (fun (v1, v4, L0_0, L0_1, L0_2) => xat 35 .frz 1 [.lp ⟨1, [0, 1, 4], []⟩, .blk 0] ⟨[(0, (.ref ⟨n0, k0⟩ 0)), (1, (.d (.str v1))), (4, (.d (.int .i64 v4)))], ⟨m, []⟩ :: (xsetO stk ⟨n0, k0⟩ (.cells [(.d (.str L0_0)), (.d (.int .i64 L0_1)), (.d (.int .i64 L0_2))]))⟩) (fun (r_w0_0, r_w0_1, r_w0_2) => (some (.ret (.d (.tup [])), (xsetO stk ⟨n0, k0⟩ (.cells [(.d (.str r_w0_0)), (.d (.int .i64 r_w0_1)), (.d (.int .i64 r_w0_2))]))) : Rk'))) out) {out} (hp : b_parts_scan_text__0_1 ⟨xar, xcmp, xwrap, xseq, xslt, xenc, pquo, pshf, pslen, psidx, pssub, pscat, psit, pslist, pofBytes, @plen, @pidx, @psub, @papp, @pset, @pmake, @ploop⟩  l_3 v1 v4 L0_0 L0_1 L0_2 = some out) : xat 35 .frz 1 [.lp ⟨1, [0, 1, 4], []⟩, .blk 0] ⟨[(0, (.ref ⟨n0, k0⟩ 0)), (1, (.d (.str v1))), (4, (.d (.int .i64 v4)))], ⟨m, []⟩ :: stk⟩ = (Sum.elim (fun (v1, v4, L0_0, L0_1, L0_2) => xat 35 .frz 1 [.lp ⟨1, [0, 1, 4], []⟩, .blk 0] ⟨[(0, (.ref ⟨n0, k0⟩ 0)), (1, (.d (.str v1))), (4, (.d (.int .i64 v4)))], ⟨m, []⟩ :: (xsetO stk ⟨n0, k0⟩ (.cells [(.d (.str L0_0)), (.d (.int .i64 L0_1)), (.d (.int .i64 L0_2))]))⟩) (fun (r_w0_0, r_w0_1, r_w0_2) => (some (.ret (.d (.tup [])), (xsetO stk ⟨n0, k0⟩ (.cells [(.d (.str r_w0_0)), (.d (.int .i64 r_w0_1)), (.d (.int .i64 r_w0_2))]))) : Rk'))) out := by
  have hn0 : (n0 = m) = False := eq_false (Nat.ne_of_lt hl0)
  have hm0 : decide (n0 < m) = true := decide_eq_true hl0
  simp only [b_parts_scan_text__0_1] at hp
  rw [h.at_, hT]
  cbv
  try simp only [h.slen]
  cases c1 : xcmp .lss v4 (pslen v1) with
  | false =>
    simp only [c1] at hp ⊢
    cbv
    cases hp
    try (simp only [h.ss hg0])
    try simp only [if_false, if_true, hn0, hm0]
    all_goals first | rfl | (cbv; done) | (simp only [h.nadd0, h.nle_refl, h.cut_all, h.cut_nil, h.map_cons, h.map_nil, h.len_nil, he_e_uint8, he_e_string, if_true]; done) | (simp only [h.nadd0, h.nle_refl, h.cut_all, h.cut_nil, h.map_cons, h.map_nil, h.len_nil, he_e_uint8, he_e_string, if_true]; first | rfl | (cbv; done) | (cbv; simp only [h.map_cons, h.map_nil, h.len_nil, he_e_uint8, he_e_string]; done))
  | true =>
    simp only [c1] at hp ⊢
    cbv
    simp only [if_false, if_true, hn0, hm0, hg0]
    cbv
    cases c2 : xcmp .eql L0_2 0 with
    | false =>
      simp only [c2] at hp ⊢
      cbv
      cases hp
      try (simp only [h.ss hg0])
      try simp only [if_false, if_true, hn0, hm0]
      all_goals first | rfl | (cbv; done) | (simp only [h.nadd0, h.nle_refl, h.cut_all, h.cut_nil, h.map_cons, h.map_nil, h.len_nil, he_e_uint8, he_e_string, if_true]; done) | (simp only [h.nadd0, h.nle_refl, h.cut_all, h.cut_nil, h.map_cons, h.map_nil, h.len_nil, he_e_uint8, he_e_string, if_true]; first | rfl | (cbv; done) | (cbv; simp only [h.map_cons, h.map_nil, h.len_nil, he_e_uint8, he_e_string]; done))
    | true =>
      simp only [c2] at hp ⊢
      cbv
      try simp only [if_false, if_true, hn0, hm0]
      try cbv
      rw [h.at_, hT]
      cbv
      simp only [if_false, if_true, hn0, hm0, hg0]
      cbv
      simp only [if_false, if_true, hn0, hm0, hg0]
      cbv
      try simp only [h.slen]
      cases c3 : xcmp .eql L0_1 (pslen L0_0) with
      | false =>
        simp only [c3] at hp ⊢
        cbv
        simp only [if_false, if_true, hn0, hm0, hg0]
        cbv
        simp only [if_false, if_true, hn0, hm0, hg0]
        cbv
        cases c5 : psidx L0_0 L0_1 with
        | none => simp only [c5] at hp; cases hp
        | some b4 =>
          simp only [c5] at hp
          obtain ⟨w, q1, q2, q3⟩ := h.sidx c5
          simp only [q1, q2, q3, Bool.false_eq_true, if_false]
          cbv
          cases c7 : psidx v1 v4 with
          | none => simp only [c7] at hp; cases hp
          | some b6 =>
            simp only [c7] at hp
            obtain ⟨w, q1, q2, q3⟩ := h.sidx c7
            simp only [q1, q2, q3, Bool.false_eq_true, if_false]
            cbv
            cases c8 : xcmp .neq b4 b6 with
            | false =>
              simp only [c8] at hp ⊢
              cbv
              simp only [if_false, if_true, hn0, hm0, hg0]
              cbv
              try simp only [if_false, if_true, hn0, hm0, hg0]
              try cbv
              try simp only [h.set_o, h.st_, h.sb_ hl0, if_false, if_true, hn0, hm0, (h.gs (hg0) _)]
              try cbv
              try simp only [if_false, if_true, hn0, hm0]
              have q := h_l_3 hp (xsetO stk ⟨n0, k0⟩ (.cells [(.d (.str L0_0)), (.d (.int .i64 (xar .add .i64 L0_1 1))), (.d (.int .i64 L0_2))])) ((h.gs (hg0) _))
              first | (refine q.trans ?_; simp only [h.so]; done) | (refine q.trans ?_; simp only [h.so]; rfl) | (simp only [h.map_cons, h.map_nil, h.len_nil, he_e_uint8, he_e_string] at q; cbv; refine q.trans ?_; simp only [h.so]; done) | (simp only [h.map_cons, h.map_nil, h.len_nil, he_e_uint8, he_e_string] at q; cbv; refine q.trans ?_; simp only [h.so]; rfl)
            | true =>
              simp only [c8] at hp ⊢
              cbv
              try simp only [if_false, if_true, hn0, hm0, hg0]
              try cbv
              try simp only [h.set_o, h.st_, h.sb_ hl0, if_false, if_true, hn0, hm0, (h.gs (hg0) _)]
              try cbv
              try simp only [if_false, if_true, hn0, hm0]
              have q := h_l_3 hp (xsetO stk ⟨n0, k0⟩ (.cells [(.d (.str L0_0)), (.d (.int .i64 L0_1)), (.d (.int .i64 2))])) ((h.gs (hg0) _))
              first | (refine q.trans ?_; simp only [h.so]; done) | (refine q.trans ?_; simp only [h.so]; rfl) | (simp only [h.map_cons, h.map_nil, h.len_nil, he_e_uint8, he_e_string] at q; cbv; refine q.trans ?_; simp only [h.so]; done) | (simp only [h.map_cons, h.map_nil, h.len_nil, he_e_uint8, he_e_string] at q; cbv; refine q.trans ?_; simp only [h.so]; rfl)
      | true =>
        simp only [c3] at hp ⊢
        cbv
        try simp only [if_false, if_true, hn0, hm0, hg0]
        try cbv
        try simp only [h.set_o, h.st_, h.sb_ hl0, if_false, if_true, hn0, hm0, (h.gs (hg0) _)]
        try cbv
        try simp only [if_false, if_true, hn0, hm0]
        have q := h_l_3 hp (xsetO stk ⟨n0, k0⟩ (.cells [(.d (.str L0_0)), (.d (.int .i64 L0_1)), (.d (.int .i64 1))])) ((h.gs (hg0) _))
        first | (refine q.trans ?_; simp only [h.so]; done) | (refine q.trans ?_; simp only [h.so]; rfl) | (simp only [h.map_cons, h.map_nil, h.len_nil, he_e_uint8, he_e_string] at q; cbv; refine q.trans ?_; simp only [h.so]; done) | (simp only [h.map_cons, h.map_nil, h.len_nil, he_e_uint8, he_e_string] at q; cbv; refine q.trans ?_; simp only [h.so]; rfl)
def b_parts_scan_text__0_3 (P : Prims)   (v1 : Str) (v4 : Int) (L0_0 : Str) (L0_1 : Int) (L0_2 : Int) : Option ((Str × Int × Str × Int × Int) ⊕ (Str × Int × Int)) :=
  some (.inl (v1, P.ar .add .i64 v4 1, L0_0, L0_1, L0_2))
theorem o_parts_scan_text__0_3   (stk : Stk) (m : Nat) (n0 : Nat) (k0 : List Nat) (hl0 : n0 < m)   (v1 : Str) (v4 : Int) (L0_0 : Str) (L0_1 : Int) (L0_2 : Int) (hg0 : getO stk ⟨n0, k0⟩ = some (.cells [(.d (.str L0_0)), (.d (.int .i64 L0_1)), (.d (.int .i64 L0_2))]))  {out} (hp : b_parts_scan_text__0_3 ⟨xar, xcmp, xwrap, xseq, xslt, xenc, pquo, pshf, pslen, psidx, pssub, pscat, psit, pslist, pofBytes, @plen, @pidx, @psub, @papp, @pset, @pmake, @ploop⟩   v1 v4 L0_0 L0_1 L0_2 = some out) : xat 35 .frz 3 [.lp ⟨1, [0, 1, 4], []⟩, .blk 0] ⟨[(0, (.ref ⟨n0, k0⟩ 0)), (1, (.d (.str v1))), (4, (.d (.int .i64 v4)))], ⟨m, []⟩ :: stk⟩ = (Sum.elim (fun (v1, v4, L0_0, L0_1, L0_2) => xat 35 .frz 1 [.lp ⟨1, [0, 1, 4], []⟩, .blk 0] ⟨[(0, (.ref ⟨n0, k0⟩ 0)), (1, (.d (.str v1))), (4, (.d (.int .i64 v4)))], ⟨m, []⟩ :: (xsetO stk ⟨n0, k0⟩ (.cells [(.d (.str L0_0)), (.d (.int .i64 L0_1)), (.d (.int .i64 L0_2))]))⟩) (fun (r_w0_0, r_w0_1, r_w0_2) => (some (.ret (.d (.tup [])), (xsetO stk ⟨n0, k0⟩ (.cells [(.d (.str r_w0_0)), (.d (.int .i64 r_w0_1)), (.d (.int .i64 r_w0_2))]))) : Rk'))) out := by
  have hn0 : (n0 = m) = False := eq_false (Nat.ne_of_lt hl0)
  have hm0 : decide (n0 < m) = true := decide_eq_true hl0
  simp only [b_parts_scan_text__0_3] at hp
  rw [h.at_, hT]
  cbv
  cases hp
  try (simp only [h.ss hg0])
  try simp only [if_false, if_true, hn0, hm0]
  all_goals first | rfl | (cbv; done) | (simp only [h.nadd0, h.nle_refl, h.cut_all, h.cut_nil, h.map_cons, h.map_nil, h.len_nil, he_e_uint8, he_e_string, if_true]; done) | (simp only [h.nadd0, h.nle_refl, h.cut_all, h.cut_nil, h.map_cons, h.map_nil, h.len_nil, he_e_uint8, he_e_string, if_true]; first | rfl | (cbv; done) | (cbv; simp only [h.map_cons, h.map_nil, h.len_nil, he_e_uint8, he_e_string]; done))
def b_parts_scan_is__0_0 (P : Prims)   (v1 : Int) (L0_0 : Str) (L0_1 : Int) (L0_2 : Int) : Option (Bool) :=
  match P.cmp .eql L0_2 0 with
  | false =>
    some false
  | true =>
    match P.cmp .lss L0_1 (P.slen L0_0) with
    | false =>
      some false
    | true =>
      match P.sidx L0_0 L0_1 with
      | none => none
      | some b3 =>
        some (P.cmp .eql b3 v1)
theorem o_parts_scan_is__0_0   (stk : Stk) (m : Nat) (n0 : Nat) (k0 : List Nat) (hl0 : n0 < m)   (v1 : Int) (L0_0 : Str) (L0_1 : Int) (L0_2 : Int) (hg0 : getO stk ⟨n0, k0⟩ = some (.cells [(.d (.str L0_0)), (.d (.int .i64 L0_1)), (.d (.int .i64 L0_2))]))  {out} (hp : b_parts_scan_is__0_0 ⟨xar, xcmp, xwrap, xseq, xslt, xenc, pquo, pshf, pslen, psidx, pssub, pscat, psit, pslist, pofBytes, @plen, @pidx, @psub, @papp, @pset, @pmake, @ploop⟩   v1 L0_0 L0_1 L0_2 = some out) : xat 36 .frz 0 [] ⟨[(0, (.ref ⟨n0, k0⟩ 0)), (1, (.d (.int .u8 v1)))], ⟨m, []⟩ :: stk⟩ = (fun r0 => (some (.ret (.d (.bool r0)), stk) : Rk')) out := by
  have hn0 : (n0 = m) = False := eq_false (Nat.ne_of_lt hl0)
  have hm0 : decide (n0 < m) = true := decide_eq_true hl0
  simp only [b_parts_scan_is__0_0] at hp
  rw [h.at_, hT]
  cbv
  simp only [if_false, if_true, hn0, hm0, hg0]
  cbv
  cases c1 : xcmp .eql L0_2 0 with
  | false =>
    simp only [c1] at hp ⊢
    cbv
    cases hp
    try simp only [if_false, if_true, hn0, hm0]
    all_goals first | rfl | (cbv; done) | (simp only [h.nadd0, h.nle_refl, h.cut_all, h.cut_nil, h.map_cons, h.map_nil, h.len_nil, he_e_uint8, he_e_string, if_true]; done) | (simp only [h.nadd0, h.nle_refl, h.cut_all, h.cut_nil, h.map_cons, h.map_nil, h.len_nil, he_e_uint8, he_e_string, if_true]; first | rfl | (cbv; done) | (cbv; simp only [h.map_cons, h.map_nil, h.len_nil, he_e_uint8, he_e_string]; done))
  | true =>
    simp only [c1] at hp ⊢
    cbv
    simp only [if_false, if_true, hn0, hm0, hg0]
    cbv
    simp only [if_false, if_true, hn0, hm0, hg0]
    cbv
    try simp only [h.slen]
    cases c2 : xcmp .lss L0_1 (pslen L0_0) with
    | false =>
      simp only [c2] at hp ⊢
      cbv
      cases hp
      try simp only [if_false, if_true, hn0, hm0]
      all_goals first | rfl | (cbv; done) | (simp only [h.nadd0, h.nle_refl, h.cut_all, h.cut_nil, h.map_cons, h.map_nil, h.len_nil, he_e_uint8, he_e_string, if_true]; done) | (simp only [h.nadd0, h.nle_refl, h.cut_all, h.cut_nil, h.map_cons, h.map_nil, h.len_nil, he_e_uint8, he_e_string, if_true]; first | rfl | (cbv; done) | (cbv; simp only [h.map_cons, h.map_nil, h.len_nil, he_e_uint8, he_e_string]; done))
    | true =>
      simp only [c2] at hp ⊢
      cbv
      simp only [if_false, if_true, hn0, hm0, hg0]
      cbv
      simp only [if_false, if_true, hn0, hm0, hg0]
      cbv
      cases c4 : psidx L0_0 L0_1 with
      | none => simp only [c4] at hp; cases hp
      | some b3 =>
        simp only [c4] at hp
        obtain ⟨w, q1, q2, q3⟩ := h.sidx c4
        simp only [q1, q2, q3, Bool.false_eq_true, if_false]
        cbv
        cases hp
        try simp only [if_false, if_true, hn0, hm0]
        all_goals first | rfl | (cbv; done) | (simp only [h.nadd0, h.nle_refl, h.cut_all, h.cut_nil, h.map_cons, h.map_nil, h.len_nil, he_e_uint8, he_e_string, if_true]; done) | (simp only [h.nadd0, h.nle_refl, h.cut_all, h.cut_nil, h.map_cons, h.map_nil, h.len_nil, he_e_uint8, he_e_string, if_true]; first | rfl | (cbv; done) | (cbv; simp only [h.map_cons, h.map_nil, h.len_nil, he_e_uint8, he_e_string]; done))
def b_parts_scan_number_1__0_0 (P : Prims)   (L1_0 : Str) (L1_1 : Int) (L1_2 : Int) : Option (Bool) :=
  match P.cmp .eql L1_2 0 with
  | false =>
    some false
  | true =>
    match P.cmp .lss L1_1 (P.slen L1_0) with
    | false =>
      some false
    | true =>
      match P.sidx L1_0 L1_1 with
      | none => none
      | some b3 =>
        match P.cmp .geq b3 48 with
        | false =>
          some false
        | true =>
          some (P.cmp .leq b3 57)
theorem o_parts_scan_number_1__0_0   (stk : Stk) (m : Nat) (n0 : Nat) (k0 : List Nat) (n1 : Nat) (k1 : List Nat) (hl0 : n0 < m) (hl1 : n1 < m) (hd0_1 : (⟨n0, k0⟩ : Lab) ≠ ⟨n1, k1⟩)  (L1_0 : Str) (L1_1 : Int) (L1_2 : Int) (hg0 : getO stk ⟨n0, k0⟩ = some (.cells [(.ref ⟨n1, k1⟩ 0)])) (hg1 : getO stk ⟨n1, k1⟩ = some (.cells [(.d (.str L1_0)), (.d (.int .i64 L1_1)), (.d (.int .i64 L1_2))]))  {out} (hp : b_parts_scan_number_1__0_0 ⟨xar, xcmp, xwrap, xseq, xslt, xenc, pquo, pshf, pslen, psidx, pssub, pscat, psit, pslist, pofBytes, @plen, @pidx, @psub, @papp, @pset, @pmake, @ploop⟩   L1_0 L1_1 L1_2 = some out) : xat 40 .frz 0 [] ⟨[(0, (.ref ⟨n0, k0⟩ 0))], ⟨m, []⟩ :: stk⟩ = (fun r0 => (some (.ret (.d (.bool r0)), stk) : Rk')) out := by
  have hn0 : (n0 = m) = False := eq_false (Nat.ne_of_lt hl0)
  have hn1 : (n1 = m) = False := eq_false (Nat.ne_of_lt hl1)
  have hm0 : decide (n0 < m) = true := decide_eq_true hl0
  have hm1 : decide (n1 < m) = true := decide_eq_true hl1
  simp only [b_parts_scan_number_1__0_0] at hp
  rw [h.at_, hT]
  cbv
  simp only [if_false, if_true, hn0, hm0, hn1, hm1, hg0, hg1]
  cbv
  simp only [if_false, if_true, hn0, hm0, hn1, hm1, hg0, hg1]
  cbv
  cases c1 : xcmp .eql L1_2 0 with
  | false =>
    simp only [c1] at hp ⊢
    cbv
    cases hp
    try simp only [if_false, if_true, hn0, hm0, hn1, hm1]
    all_goals first | rfl | (cbv; done) | (simp only [h.nadd0, h.nle_refl, h.cut_all, h.cut_nil, h.map_cons, h.map_nil, h.len_nil, he_e_uint8, he_e_string, if_true]; done) | (simp only [h.nadd0, h.nle_refl, h.cut_all, h.cut_nil, h.map_cons, h.map_nil, h.len_nil, he_e_uint8, he_e_string, if_true]; first | rfl | (cbv; done) | (cbv; simp only [h.map_cons, h.map_nil, h.len_nil, he_e_uint8, he_e_string]; done))
  | true =>
    simp only [c1] at hp ⊢
    cbv
    simp only [if_false, if_true, hn0, hm0, hn1, hm1, hg0, hg1]
    cbv
    simp only [if_false, if_true, hn0, hm0, hn1, hm1, hg0, hg1]
    cbv
    simp only [if_false, if_true, hn0, hm0, hn1, hm1, hg0, hg1]
    cbv
    simp only [if_false, if_true, hn0, hm0, hn1, hm1, hg0, hg1]
    cbv
    try simp only [h.slen]
    cases c2 : xcmp .lss L1_1 (pslen L1_0) with
    | false =>
      simp only [c2] at hp ⊢
      cbv
      cases hp
      try simp only [if_false, if_true, hn0, hm0, hn1, hm1]
      all_goals first | rfl | (cbv; done) | (simp only [h.nadd0, h.nle_refl, h.cut_all, h.cut_nil, h.map_cons, h.map_nil, h.len_nil, he_e_uint8, he_e_string, if_true]; done) | (simp only [h.nadd0, h.nle_refl, h.cut_all, h.cut_nil, h.map_cons, h.map_nil, h.len_nil, he_e_uint8, he_e_string, if_true]; first | rfl | (cbv; done) | (cbv; simp only [h.map_cons, h.map_nil, h.len_nil, he_e_uint8, he_e_string]; done))
    | true =>
      simp only [c2] at hp ⊢
      cbv
      simp only [if_false, if_true, hn0, hm0, hn1, hm1, hg0, hg1]
      cbv
      simp only [if_false, if_true, hn0, hm0, hn1, hm1, hg0, hg1]
      cbv
      simp only [if_false, if_true, hn0, hm0, hn1, hm1, hg0, hg1]
      cbv
      simp only [if_false, if_true, hn0, hm0, hn1, hm1, hg0, hg1]
      cbv
      cases c4 : psidx L1_0 L1_1 with
      | none => simp only [c4] at hp; cases hp
      | some b3 =>
        simp only [c4] at hp
        obtain ⟨w, q1, q2, q3⟩ := h.sidx c4
        simp only [q1, q2, q3, Bool.false_eq_true, if_false]
        cbv
        cases c5 : xcmp .geq b3 48 with
        | false =>
          simp only [c5] at hp ⊢
          cbv
          cases hp
          try simp only [if_false, if_true, hn0, hm0, hn1, hm1]
          all_goals first | rfl | (cbv; done) | (simp only [h.nadd0, h.nle_refl, h.cut_all, h.cut_nil, h.map_cons, h.map_nil, h.len_nil, he_e_uint8, he_e_string, if_true]; done) | (simp only [h.nadd0, h.nle_refl, h.cut_all, h.cut_nil, h.map_cons, h.map_nil, h.len_nil, he_e_uint8, he_e_string, if_true]; first | rfl | (cbv; done) | (cbv; simp only [h.map_cons, h.map_nil, h.len_nil, he_e_uint8, he_e_string]; done))
        | true =>
          simp only [c5] at hp ⊢
          cbv
          simp only [if_false, if_true, hn0, hm0, hn1, hm1, hg0, hg1]
          cbv
          simp only [if_false, if_true, hn0, hm0, hn1, hm1, hg0, hg1]
          cbv
          simp only [if_false, if_true, hn0, hm0, hn1, hm1, hg0, hg1]
          cbv
          simp only [if_false, if_true, hn0, hm0, hn1, hm1, hg0, hg1]
          cbv
          obtain ⟨w, q1, q2, q3⟩ := h.sidx c4
          simp only [q1, q2, q3, Bool.false_eq_true, if_false]
          cbv
          cases hp
          try simp only [if_false, if_true, hn0, hm0, hn1, hm1]
          all_goals first | rfl | (cbv; done) | (simp only [h.nadd0, h.nle_refl, h.cut_all, h.cut_nil, h.map_cons, h.map_nil, h.len_nil, he_e_uint8, he_e_string, if_true]; done) | (simp only [h.nadd0, h.nle_refl, h.cut_all, h.cut_nil, h.map_cons, h.map_nil, h.len_nil, he_e_uint8, he_e_string, if_true]; first | rfl | (cbv; done) | (cbv; simp only [h.map_cons, h.map_nil, h.len_nil, he_e_uint8, he_e_string]; done))
def b_parts_scan_number__0_0 (P : Prims) (c_parts_scan_number_1__0 : Str → Int → Int → Option (Bool)) (l_1 : Int → Int → Str → Int → Int → Option (Int × Str × Int × Int)) (L0_0 : Str) (L0_1 : Int) (L0_2 : Int) : Option (Int × Str × Int × Int) :=
  l_1 0 L0_1 L0_0 L0_1 L0_2
theorem o_parts_scan_number__0_0 (c_parts_scan_number_1__0 : Str → Int → Int → Option (Bool)) (h_parts_scan_number_1__0 : ∀ {L1_0 : Str} {L1_1 : Int} {L1_2 : Int} {r0 : Bool}, c_parts_scan_number_1__0 L1_0 L1_1 L1_2 = some r0 → ∀ (stk : Stk) (n0 : Nat) (k0 : List Nat) (n1 : Nat) (k1 : List Nat), getO stk ⟨n0, k0⟩ = some (.cells [(.ref ⟨n1, k1⟩ 0)]) → getO stk ⟨n1, k1⟩ = some (.cells [(.d (.str L1_0)), (.d (.int .i64 L1_1)), (.d (.int .i64 L1_2))]) → n0 ≤ topN stk → n1 ≤ topN stk → (⟨n0, k0⟩ : Lab) ≠ ⟨n1, k1⟩ → xpcall 40 [(.ref ⟨n0, k0⟩ 0)] stk = some (.d (.bool r0)) ∧ xfcall 40 [(.ref ⟨n0, k0⟩ 0)] stk = some (.d (.bool r0), stk)) (stk : Stk) (m : Nat) (n0 : Nat) (k0 : List Nat) (hl0 : n0 < m)  (l_1 : Int → Int → Str → Int → Int → Option (Int × Str × Int × Int)) (L0_0 : Str) (L0_1 : Int) (L0_2 : Int) (hg0 : getO stk ⟨n0, k0⟩ = some (.cells [(.d (.str L0_0)), (.d (.int .i64 L0_1)), (.d (.int .i64 L0_2))])) (h_l_1 : ∀ {v3 : Int} {v4 : Int} {L0_0 : Str} {L0_1 : Int} {L0_2 : Int} {out}, l_1 v3 v4 L0_0 L0_1 L0_2 = some out → ∀ (stk : Stk), getO stk ⟨n0, k0⟩ = some (.cells [(.d (.str L0_0)), (.d (.int .i64 L0_1)), (.d (.int .i64 L0_2))]) → xat 37 .frz 1 [.lp ⟨1, [1, 3, 4, 5], [[1]]⟩, .blk 0, .sub ⟨4, [1, 3, 4], [[1]]⟩] ⟨[(1, (.ref ⟨m, [1]⟩ 0)), (3, (.d (.int .i64 v3))), (4, (.d (.int .i64 v4))), (5, (.clos (.func F.parts_scan_number_1) [] [(.ref ⟨m, [1]⟩ 0)]))], ⟨m, [([1], (.cells [(.ref ⟨n0, k0⟩ 0)]))]⟩ :: stk⟩ = (fun (r0, r_w0_0, r_w0_1, r_w0_2) => (some (.ret (.d (.int .i64 r0)), (xsetO stk ⟨n0, k0⟩ (.cells [(.d (.str r_w0_0)), (.d (.int .i64 r_w0_1)), (.d (.int .i64 r_w0_2))]))) : Rk')) out) {out} (hp : b_parts_scan_number__0_0 ⟨xar, xcmp, xwrap, xseq, xslt, xenc, pquo, pshf, pslen, psidx, pssub, pscat, psit, pslist, pofBytes, @plen, @pidx, @psub, @papp, @pset, @pmake, @ploop⟩ c_parts_scan_number_1__0 l_1 L0_0 L0_1 L0_2 = some out) : xat 37 .frz 0 [] ⟨[(0, (.ref ⟨n0, k0⟩ 0))], ⟨m, []⟩ :: stk⟩ = (fun (r0, r_w0_0, r_w0_1, r_w0_2) => (some (.ret (.d (.int .i64 r0)), (xsetO stk ⟨n0, k0⟩ (.cells [(.d (.str r_w0_0)), (.d (.int .i64 r_w0_1)), (.d (.int .i64 r_w0_2))]))) : Rk')) out := by
  have hn0 : (n0 = m) = False := eq_false (Nat.ne_of_lt hl0)
  have hm0 : decide (n0 < m) = true := decide_eq_true hl0
  simp only [b_parts_scan_number__0_0] at hp
  rw [h.at_, hT]
  cbv
  try simp only [if_false, if_true, hn0, hm0]
  try cbv
  simp only [if_false, if_true, hn0, hm0, hg0]
  cbv
  try simp only [if_false, if_true, hn0, hm0]
  first | exact h_l_1 hp stk (hg0) | (have q := h_l_1 hp stk (hg0); simp only [h.map_cons, h.map_nil, h.len_nil, he_e_uint8, he_e_string] at q; first | exact q | (cbv; exact q))
def b_parts_scan_number__0_1 (P : Prims) (c_parts_scan_number_1__0 : Str → Int → Int → Option (Bool)) (l_3 : Int → Int → Int → Str → Int → Int → Option ((Int × Int × Str × Int × Int) ⊕ (Int × Str × Int × Int))) (l_5 : Int → Str → Int → Int → Option (Int × Str × Int × Int)) (v3 : Int) (v4 : Int) (L0_0 : Str) (L0_1 : Int) (L0_2 : Int) : Option ((Int × Int × Str × Int × Int) ⊕ (Int × Str × Int × Int)) :=
  match c_parts_scan_number_1__0 L0_0 L0_1 L0_2 with
  | none => none
  | some r1_0 =>
    match r1_0 with
    | false =>
      match P.cmp .eql L0_1 v4 with
      | false =>
        match l_5 v3 L0_0 L0_1 L0_2 with | none => none | some o16 => some (.inr o16)
      | true =>
        match P.cmp .eql L0_2 0 with
        | false =>
          match l_5 v3 L0_0 L0_1 L0_2 with | none => none | some o15 => some (.inr o15)
        | true =>
          match P.cmp .eql L0_1 (P.slen L0_0) with
          | false =>
            match l_5 v3 L0_0 L0_1 2 with | none => none | some o14 => some (.inr o14)
          | true =>
            match l_5 v3 L0_0 L0_1 1 with | none => none | some o13 => some (.inr o13)
    | true =>
      match P.sidx L0_0 L0_1 with
      | none => none
      | some b4 =>
        match P.cmp .gtr L0_1 v4 with
        | false =>
          match P.cmp .gtr (P.ar .add .i64 (P.ar .mul .i64 v3 10) (P.wrap .i64 (P.ar .sub .u8 b4 48))) 16777216 with
          | false =>
            l_3 v3 v4 (P.wrap .i64 (P.ar .sub .u8 b4 48)) L0_0 L0_1 L0_2
          | true =>
            some (.inr (0, L0_0, L0_1, 2))
        | true =>
          match P.cmp .eql v3 0 with
          | false =>
            match P.cmp .gtr (P.ar .add .i64 (P.ar .mul .i64 v3 10) (P.wrap .i64 (P.ar .sub .u8 b4 48))) 16777216 with
            | false =>
              l_3 v3 v4 (P.wrap .i64 (P.ar .sub .u8 b4 48)) L0_0 L0_1 L0_2
            | true =>
              some (.inr (0, L0_0, L0_1, 2))
          | true =>
            some (.inr (0, L0_0, L0_1, 2))
theorem o_parts_scan_number__0_1 (c_parts_scan_number_1__0 : Str → Int → Int → Option (Bool)) (h_parts_scan_number_1__0 : ∀ {L1_0 : Str} {L1_1 : Int} {L1_2 : Int} {r0 : Bool}, c_parts_scan_number_1__0 L1_0 L1_1 L1_2 = some r0 → ∀ (stk : Stk) (n0 : Nat) (k0 : List Nat) (n1 : Nat) (k1 : List Nat), getO stk ⟨n0, k0⟩ = some (.cells [(.ref ⟨n1, k1⟩ 0)]) → getO stk ⟨n1, k1⟩ = some (.cells [(.d (.str L1_0)), (.d (.int .i64 L1_1)), (.d (.int .i64 L1_2))]) → n0 ≤ topN stk → n1 ≤ topN stk → (⟨n0, k0⟩ : Lab) ≠ ⟨n1, k1⟩ → xpcall 40 [(.ref ⟨n0, k0⟩ 0)] stk = some (.d (.bool r0)) ∧ xfcall 40 [(.ref ⟨n0, k0⟩ 0)] stk = some (.d (.bool r0), stk)) (stk : Stk) (m : Nat) (n0 : Nat) (k0 : List Nat) (hl0 : n0 < m)  (l_3 : Int → Int → Int → Str → Int → Int → Option ((Int × Int × Str × Int × Int) ⊕ (Int × Str × Int × Int))) (l_5 : Int → Str → Int → Int → Option (Int × Str × Int × Int)) (v3 : Int) (v4 : Int) (L0_0 : Str) (L0_1 : Int) (L0_2 : Int) (hg0 : getO stk ⟨n0, k0⟩ = some (.cells [(.d (.str L0_0)), (.d (.int .i64 L0_1)), (.d (.int .i64 L0_2))])) (h_l_3 : ∀ {v3 : Int} {v4 : Int} {v6 : Int} {L0_0 : Str} {L0_1 : Int} {L0_2 : Int} {out}, l_3 v3 v4 v6 L0_0 L0_1 L0_2 = some out → ∀ (stk : Stk), getO stk ⟨n0, k0⟩ = some (.cells [(.d (.str L0_0)), (.d (.int .i64 L0_1)), (.d (.int .i64 L0_2))]) → xat 37 .frz 3 [.blk 1, .lp ⟨1, [1, 3, 4, 5], [[1]]⟩, .blk 0, .sub ⟨4, [1, 3, 4], [[1]]⟩] ⟨[(1, (.ref ⟨m, [1]⟩ 0)), (3, (.d (.int .i64 v3))), (4, (.d (.int .i64 v4))), (5, (.clos (.func F.parts_scan_number_1) [] [(.ref ⟨m, [1]⟩ 0)])), (6, (.d (.int .i64 v6)))], ⟨m, [([1], (.cells [(.ref ⟨n0, k0⟩ 0)]))]⟩ :: stk⟩ = (Sum.elim (fun (v3, v4, L0_0, L0_1, L0_2) => xat 37 .frz 1 [.lp ⟨1, [1, 3, 4, 5], [[1]]⟩, .blk 0, .sub ⟨4, [1, 3, 4], [[1]]⟩] ⟨[(1, (.ref ⟨m, [1]⟩ 0)), (3, (.d (.int .i64 v3))), (4, (.d (.int .i64 v4))), (5, (.clos (.func F.parts_scan_number_1) [] [(.ref ⟨m, [1]⟩ 0)]))], ⟨m, [([1], (.cells [(.ref ⟨n0, k0⟩ 0)]))]⟩ :: (xsetO stk ⟨n0, k0⟩ (.cells [(.d (.str L0_0)), (.d (.int .i64 L0_1)), (.d (.int .i64 L0_2))]))⟩) (fun (r0, r_w0_0, r_w0_1, r_w0_2) => (some (.ret (.d (.int .i64 r0)), (xsetO stk ⟨n0, k0⟩ (.cells [(.d (.str r_w0_0)), (.d (.int .i64 r_w0_1)), (.d (.int .i64 r_w0_2))]))) : Rk'))) out) (h_l_5 : ∀ {v3 : Int} {L0_0 : Str} {L0_1 : Int} {L0_2 : Int} {out}, l_5 v3 L0_0 L0_1 L0_2 = some out → ∀ (stk : Stk), getO stk ⟨n0, k0⟩ = some (.cells [(.d (.str L0_0)), (.d (.int .i64 L0_1)), (.d (.int .i64 L0_2))]) → xat 37 .frz 5 [] ⟨[(3, (.d (.int .i64 v3)))], ⟨m, []⟩ :: stk⟩ = (fun (r0, r_w0_0, r_w0_1, r_w0_2) => (some (.ret (.d (.int .i64 r0)), (xsetO stk ⟨n0, k0⟩ (.cells [(.d (.str r_w0_0)), (.d (.int .i64 r_w0_1)), (.d (.int .i64 r_w0_2))]))) : Rk')) out) {out} (hp : b_parts_scan_number__0_1 ⟨xar, xcmp, xwrap, xseq, xslt, xenc, pquo, pshf, pslen, psidx, pssub, pscat, psit, pslist, pofBytes, @plen, @pidx, @psub, @papp, @pset, @pmake, @ploop⟩ c_parts_scan_number_1__0 l_3 l_5 v3 v4 L0_0 L0_1 L0_2 = some out) : xat 37 .frz 1 [.lp ⟨1, [1, 3, 4, 5], [[1]]⟩, .blk 0, .sub ⟨4, [1, 3, 4], [[1]]⟩] ⟨[(1, (.ref ⟨m, [1]⟩ 0)), (3, (.d (.int .i64 v3))), (4, (.d (.int .i64 v4))), (5, (.clos (.func F.parts_scan_number_1) [] [(.ref ⟨m, [1]⟩ 0)]))], ⟨m, [([1], (.cells [(.ref ⟨n0, k0⟩ 0)]))]⟩ :: stk⟩ = (Sum.elim (fun (v3, v4, L0_0, L0_1, L0_2) => xat 37 .frz 1 [.lp ⟨1, [1, 3, 4, 5], [[1]]⟩, .blk 0, .sub ⟨4, [1, 3, 4], [[1]]⟩] ⟨[(1, (.ref ⟨m, [1]⟩ 0)), (3, (.d (.int .i64 v3))), (4, (.d (.int .i64 v4))), (5, (.clos (.func F.parts_scan_number_1) [] [(.ref ⟨m, [1]⟩ 0)]))], ⟨m, [([1], (.cells [(.ref ⟨n0, k0⟩ 0)]))]⟩ :: (xsetO stk ⟨n0, k0⟩ (.cells [(.d (.str L0_0)), (.d (.int .i64 L0_1)), (.d (.int .i64 L0_2))]))⟩) (fun (r0, r_w0_0, r_w0_1, r_w0_2) => (some (.ret (.d (.int .i64 r0)), (xsetO stk ⟨n0, k0⟩ (.cells [(.d (.str r_w0_0)), (.d (.int .i64 r_w0_1)), (.d (.int .i64 r_w0_2))]))) : Rk'))) out := by
  have hn0 : (n0 = m) = False := eq_false (Nat.ne_of_lt hl0)
  have hm0 : decide (n0 < m) = true := decide_eq_true hl0
  simp only [b_parts_scan_number__0_1] at hp
  rw [h.at_, hT]
  cbv
  cases c2 : c_parts_scan_number_1__0 L0_0 L0_1 L0_2 with
  | none => simp only [c2] at hp; cases hp
  | some r1_0 =>
    simp only [c2] at hp
    have qc := (h_parts_scan_number_1__0 c2 (⟨m, [([1], (.cells [(.ref ⟨n0, k0⟩ 0)]))]⟩ :: stk) m [1] n0 k0 (h.gt _ _ _ _) ((h.gb hl0 _ _).trans (hg0)) (Nat.le_refl _) (Nat.le_of_lt hl0) (Ne.symm (h.dl hl0))).1
    simp only [qc]
    cbv
    cases r1_0 with
    | false =>
      simp only at hp
      cbv
      try simp only [if_false, if_true, hn0, hm0]
      try cbv
      rw [h.at_, hT]
      cbv
      simp only [if_false, if_true, hn0, hm0, hg0]
      cbv
      cases c10 : xcmp .eql L0_1 v4 with
      | false =>
        simp only [c10] at hp ⊢
        cbv
        cases c : l_5 v3 L0_0 L0_1 L0_2 with
        | none => simp only [c] at hp; cases hp
        | some o16 =>
          simp only [c] at hp
          cases hp
          try simp only [if_false, if_true, hn0, hm0]
          first | exact h_l_5 c stk (hg0) | (have q := h_l_5 c stk (hg0); simp only [h.map_cons, h.map_nil, h.len_nil, he_e_uint8, he_e_string] at q; first | exact q | (cbv; exact q))
      | true =>
        simp only [c10] at hp ⊢
        cbv
        simp only [if_false, if_true, hn0, hm0, hg0]
        cbv
        cases c11 : xcmp .eql L0_2 0 with
        | false =>
          simp only [c11] at hp ⊢
          cbv
          cases c : l_5 v3 L0_0 L0_1 L0_2 with
          | none => simp only [c] at hp; cases hp
          | some o15 =>
            simp only [c] at hp
            cases hp
            try simp only [if_false, if_true, hn0, hm0]
            first | exact h_l_5 c stk (hg0) | (have q := h_l_5 c stk (hg0); simp only [h.map_cons, h.map_nil, h.len_nil, he_e_uint8, he_e_string] at q; first | exact q | (cbv; exact q))
        | true =>
          simp only [c11] at hp ⊢
          cbv
          try simp only [if_false, if_true, hn0, hm0, hg0]
          try cbv
          try simp only [h.set_o, h.st_, h.sb_ hl0, if_false, if_true, hn0, hm0, (h.gs (hg0) _)]
          try cbv
          simp only [if_false, if_true, hn0, hm0, (h.gs (hg0) _)]
          cbv
          simp only [if_false, if_true, hn0, hm0, (h.gs (hg0) _)]
          cbv
          try simp only [h.slen]
          cases c12 : xcmp .eql L0_1 (pslen L0_0) with
          | false =>
            simp only [c12] at hp ⊢
            cbv
            cases c : l_5 v3 L0_0 L0_1 2 with
            | none => simp only [c] at hp; cases hp
            | some o14 =>
              simp only [c] at hp
              cases hp
              try simp only [if_false, if_true, hn0, hm0]
              have q := h_l_5 c (xsetO stk ⟨n0, k0⟩ (.cells [(.d (.str L0_0)), (.d (.int .i64 L0_1)), (.d (.int .i64 2))])) ((h.gs (hg0) _))
              first | (refine q.trans ?_; simp only [h.so]; done) | (refine q.trans ?_; simp only [h.so]; rfl) | (simp only [h.map_cons, h.map_nil, h.len_nil, he_e_uint8, he_e_string] at q; cbv; refine q.trans ?_; simp only [h.so]; done) | (simp only [h.map_cons, h.map_nil, h.len_nil, he_e_uint8, he_e_string] at q; cbv; refine q.trans ?_; simp only [h.so]; rfl)
          | true =>
            simp only [c12] at hp ⊢
            cbv
            try simp only [if_false, if_true, hn0, hm0, (h.gs (hg0) _)]
            try cbv
            try simp only [h.set_o, h.st_, h.sb_ hl0, if_false, if_true, hn0, hm0, (h.gs (hg0) _)]
            try simp only [h.so, if_false, if_true, hn0, hm0, (h.gs (hg0) _)]
            try cbv
            cases c : l_5 v3 L0_0 L0_1 1 with
            | none => simp only [c] at hp; cases hp
            | some o13 =>
              simp only [c] at hp
              cases hp
              try simp only [if_false, if_true, hn0, hm0]
              have q := h_l_5 c (xsetO stk ⟨n0, k0⟩ (.cells [(.d (.str L0_0)), (.d (.int .i64 L0_1)), (.d (.int .i64 1))])) ((h.gs (hg0) _))
              first | (refine q.trans ?_; simp only [h.so]; done) | (refine q.trans ?_; simp only [h.so]; rfl) | (simp only [h.map_cons, h.map_nil, h.len_nil, he_e_uint8, he_e_string] at q; cbv; refine q.trans ?_; simp only [h.so]; done) | (simp only [h.map_cons, h.map_nil, h.len_nil, he_e_uint8, he_e_string] at q; cbv; refine q.trans ?_; simp only [h.so]; rfl)
    | true =>
      simp only at hp
      cbv
      try simp only [if_false, if_true, hn0, hm0]
      try cbv
      rw [h.at_, hT]
      cbv
      simp only [if_false, if_true, hn0, hm0, hg0]
      cbv
      simp only [if_false, if_true, hn0, hm0, hg0]
      cbv
      cases c5 : psidx L0_0 L0_1 with
      | none => simp only [c5] at hp; cases hp
      | some b4 =>
        simp only [c5] at hp
        obtain ⟨w, q1, q2, q3⟩ := h.sidx c5
        simp only [q1, q2, q3, Bool.false_eq_true, if_false]
        cbv
        simp only [if_false, if_true, hn0, hm0, hg0]
        cbv
        cases c6 : xcmp .gtr L0_1 v4 with
        | false =>
          simp only [c6] at hp ⊢
          cbv
          cases c9 : xcmp .gtr (xar .add .i64 (xar .mul .i64 v3 10) (xwrap .i64 (xar .sub .u8 b4 48))) 16777216 with
          | false =>
            simp only [c9] at hp ⊢
            cbv
            try simp only [if_false, if_true, hn0, hm0]
            first | exact h_l_3 hp stk (hg0) | (have q := h_l_3 hp stk (hg0); simp only [h.map_cons, h.map_nil, h.len_nil, he_e_uint8, he_e_string] at q; first | exact q | (cbv; exact q))
          | true =>
            simp only [c9] at hp ⊢
            cbv
            try simp only [if_false, if_true, hn0, hm0, hg0]
            try cbv
            try simp only [h.set_o, h.st_, h.sb_ hl0, if_false, if_true, hn0, hm0, (h.gs (hg0) _)]
            try cbv
            cases hp
            try (simp only [h.so])
            try simp only [if_false, if_true, hn0, hm0]
            all_goals first | rfl | (cbv; done) | (simp only [h.nadd0, h.nle_refl, h.cut_all, h.cut_nil, h.map_cons, h.map_nil, h.len_nil, he_e_uint8, he_e_string, if_true]; done) | (simp only [h.nadd0, h.nle_refl, h.cut_all, h.cut_nil, h.map_cons, h.map_nil, h.len_nil, he_e_uint8, he_e_string, if_true]; first | rfl | (cbv; done) | (cbv; simp only [h.map_cons, h.map_nil, h.len_nil, he_e_uint8, he_e_string]; done))
        | true =>
          simp only [c6] at hp ⊢
          cbv
          cases c7 : xcmp .eql v3 0 with
          | false =>
            simp only [c7] at hp ⊢
            cbv
            cases c8 : xcmp .gtr (xar .add .i64 (xar .mul .i64 v3 10) (xwrap .i64 (xar .sub .u8 b4 48))) 16777216 with
            | false =>
              simp only [c8] at hp ⊢
              cbv
              try simp only [if_false, if_true, hn0, hm0]
              first | exact h_l_3 hp stk (hg0) | (have q := h_l_3 hp stk (hg0); simp only [h.map_cons, h.map_nil, h.len_nil, he_e_uint8, he_e_string] at q; first | exact q | (cbv; exact q))
            | true =>
              simp only [c8] at hp ⊢
              cbv
              try simp only [if_false, if_true, hn0, hm0, hg0]
              try cbv
              try simp only [h.set_o, h.st_, h.sb_ hl0, if_false, if_true, hn0, hm0, (h.gs (hg0) _)]
              try cbv
              cases hp
              try (simp only [h.so])
              try simp only [if_false, if_true, hn0, hm0]
              all_goals first | rfl | (cbv; done) | (simp only [h.nadd0, h.nle_refl, h.cut_all, h.cut_nil, h.map_cons, h.map_nil, h.len_nil, he_e_uint8, he_e_string, if_true]; done) | (simp only [h.nadd0, h.nle_refl, h.cut_all, h.cut_nil, h.map_cons, h.map_nil, h.len_nil, he_e_uint8, he_e_string, if_true]; first | rfl | (cbv; done) | (cbv; simp only [h.map_cons, h.map_nil, h.len_nil, he_e_uint8, he_e_string]; done))
          | true =>
            simp only [c7] at hp ⊢
            cbv
            try simp only [if_false, if_true, hn0, hm0, hg0]
            try cbv
            try simp only [h.set_o, h.st_, h.sb_ hl0, if_false, if_true, hn0, hm0, (h.gs (hg0) _)]
            try cbv
            cases hp
            try (simp only [h.so])
            try simp only [if_false, if_true, hn0, hm0]
            all_goals first | rfl | (cbv; done) | (simp only [h.nadd0, h.nle_refl, h.cut_all, h.cut_nil, h.map_cons, h.map_nil, h.len_nil, he_e_uint8, he_e_string, if_true]; done) | (simp only [h.nadd0, h.nle_refl, h.cut_all, h.cut_nil, h.map_cons, h.map_nil, h.len_nil, he_e_uint8, he_e_string, if_true]; first | rfl | (cbv; done) | (cbv; simp only [h.map_cons, h.map_nil, h.len_nil, he_e_uint8, he_e_string]; done))
def b_parts_scan_number__0_3 (P : Prims) (c_parts_scan_number_1__0 : Str → Int → Int → Option (Bool))  (v3 : Int) (v4 : Int) (v6 : Int) (L0_0 : Str) (L0_1 : Int) (L0_2 : Int) : Option ((Int × Int × Str × Int × Int) ⊕ (Int × Str × Int × Int)) :=
  some (.inl (P.ar .add .i64 (P.ar .mul .i64 v3 10) v6, v4, L0_0, P.ar .add .i64 L0_1 1, L0_2))
theorem o_parts_scan_number__0_3 (c_parts_scan_number_1__0 : Str → Int → Int → Option (Bool)) (h_parts_scan_number_1__0 : ∀ {L1_0 : Str} {L1_1 : Int} {L1_2 : Int} {r0 : Bool}, c_parts_scan_number_1__0 L1_0 L1_1 L1_2 = some r0 → ∀ (stk : Stk) (n0 : Nat) (k0 : List Nat) (n1 : Nat) (k1 : List Nat), getO stk ⟨n0, k0⟩ = some (.cells [(.ref ⟨n1, k1⟩ 0)]) → getO stk ⟨n1, k1⟩ = some (.cells [(.d (.str L1_0)), (.d (.int .i64 L1_1)), (.d (.int .i64 L1_2))]) → n0 ≤ topN stk → n1 ≤ topN stk → (⟨n0, k0⟩ : Lab) ≠ ⟨n1, k1⟩ → xpcall 40 [(.ref ⟨n0, k0⟩ 0)] stk = some (.d (.bool r0)) ∧ xfcall 40 [(.ref ⟨n0, k0⟩ 0)] stk = some (.d (.bool r0), stk)) (stk : Stk) (m : Nat) (n0 : Nat) (k0 : List Nat) (hl0 : n0 < m)   (v3 : Int) (v4 : Int) (v6 : Int) (L0_0 : Str) (L0_1 : Int) (L0_2 : Int) (hg0 : getO stk ⟨n0, k0⟩ = some (.cells [(.d (.str L0_0)), (.d (.int .i64 L0_1)), (.d (.int .i64 L0_2))]))  {out} (hp : b_parts_scan_number__0_3 ⟨xar, xcmp, xwrap, xseq, xslt, xenc, pquo, pshf, pslen, psidx, pssub, pscat, psit, pslist, pofBytes, @plen, @pidx, @psub, @papp, @pset, @pmake, @ploop⟩ c_parts_scan_number_1__0  v3 v4 v6 L0_0 L0_1 L0_2 = some out) : xat 37 .frz 3 [.blk 1, .lp ⟨1, [1, 3, 4, 5], [[1]]⟩, .blk 0, .sub ⟨4, [1, 3, 4], [[1]]⟩] ⟨[(1, (.ref ⟨m, [1]⟩ 0)), (3, (.d (.int .i64 v3))), (4, (.d (.int .i64 v4))), (5, (.clos (.func F.parts_scan_number_1) [] [(.ref ⟨m, [1]⟩ 0)])), (6, (.d (.int .i64 v6)))], ⟨m, [([1], (.cells [(.ref ⟨n0, k0⟩ 0)]))]⟩ :: stk⟩ = (Sum.elim (fun (v3, v4, L0_0, L0_1, L0_2) => xat 37 .frz 1 [.lp ⟨1, [1, 3, 4, 5], [[1]]⟩, .blk 0, .sub ⟨4, [1, 3, 4], [[1]]⟩] ⟨[(1, (.ref ⟨m, [1]⟩ 0)), (3, (.d (.int .i64 v3))), (4, (.d (.int .i64 v4))), (5, (.clos (.func F.parts_scan_number_1) [] [(.ref ⟨m, [1]⟩ 0)]))], ⟨m, [([1], (.cells [(.ref ⟨n0, k0⟩ 0)]))]⟩ :: (xsetO stk ⟨n0, k0⟩ (.cells [(.d (.str L0_0)), (.d (.int .i64 L0_1)), (.d (.int .i64 L0_2))]))⟩) (fun (r0, r_w0_0, r_w0_1, r_w0_2) => (some (.ret (.d (.int .i64 r0)), (xsetO stk ⟨n0, k0⟩ (.cells [(.d (.str r_w0_0)), (.d (.int .i64 r_w0_1)), (.d (.int .i64 r_w0_2))]))) : Rk'))) out := by
  have hn0 : (n0 = m) = False := eq_false (Nat.ne_of_lt hl0)
  have hm0 : decide (n0 < m) = true := decide_eq_true hl0
  simp only [b_parts_scan_number__0_3] at hp
  rw [h.at_, hT]
  cbv
  simp only [if_false, if_true, hn0, hm0, hg0]
  cbv
  try simp only [if_false, if_true, hn0, hm0, hg0]
  try cbv
  try simp only [h.set_o, h.st_, h.sb_ hl0, if_false, if_true, hn0, hm0, (h.gs (hg0) _)]
  try cbv
  cases hp
  try (simp only [h.so])
  try simp only [if_false, if_true, hn0, hm0]
  all_goals first | rfl | (cbv; done) | (simp only [h.nadd0, h.nle_refl, h.cut_all, h.cut_nil, h.map_cons, h.map_nil, h.len_nil, he_e_uint8, he_e_string, if_true]; done) | (simp only [h.nadd0, h.nle_refl, h.cut_all, h.cut_nil, h.map_cons, h.map_nil, h.len_nil, he_e_uint8, he_e_string, if_true]; first | rfl | (cbv; done) | (cbv; simp only [h.map_cons, h.map_nil, h.len_nil, he_e_uint8, he_e_string]; done))
def b_parts_scan_number__0_5 (P : Prims) (c_parts_scan_number_1__0 : Str → Int → Int → Option (Bool))  (v3 : Int) (L0_0 : Str) (L0_1 : Int) (L0_2 : Int) : Option (Int × Str × Int × Int) :=
  some (v3, L0_0, L0_1, L0_2)
theorem o_parts_scan_number__0_5 (c_parts_scan_number_1__0 : Str → Int → Int → Option (Bool)) (h_parts_scan_number_1__0 : ∀ {L1_0 : Str} {L1_1 : Int} {L1_2 : Int} {r0 : Bool}, c_parts_scan_number_1__0 L1_0 L1_1 L1_2 = some r0 → ∀ (stk : Stk) (n0 : Nat) (k0 : List Nat) (n1 : Nat) (k1 : List Nat), getO stk ⟨n0, k0⟩ = some (.cells [(.ref ⟨n1, k1⟩ 0)]) → getO stk ⟨n1, k1⟩ = some (.cells [(.d (.str L1_0)), (.d (.int .i64 L1_1)), (.d (.int .i64 L1_2))]) → n0 ≤ topN stk → n1 ≤ topN stk → (⟨n0, k0⟩ : Lab) ≠ ⟨n1, k1⟩ → xpcall 40 [(.ref ⟨n0, k0⟩ 0)] stk = some (.d (.bool r0)) ∧ xfcall 40 [(.ref ⟨n0, k0⟩ 0)] stk = some (.d (.bool r0), stk)) (stk : Stk) (m : Nat) (n0 : Nat) (k0 : List Nat) (hl0 : n0 < m)   (v3 : Int) (L0_0 : Str) (L0_1 : Int) (L0_2 : Int) (hg0 : getO stk ⟨n0, k0⟩ = some (.cells [(.d (.str L0_0)), (.d (.int .i64 L0_1)), (.d (.int .i64 L0_2))]))  {out} (hp : b_parts_scan_number__0_5 ⟨xar, xcmp, xwrap, xseq, xslt, xenc, pquo, pshf, pslen, psidx, pssub, pscat, psit, pslist, pofBytes, @plen, @pidx, @psub, @papp, @pset, @pmake, @ploop⟩ c_parts_scan_number_1__0  v3 L0_0 L0_1 L0_2 = some out) : xat 37 .frz 5 [] ⟨[(3, (.d (.int .i64 v3)))], ⟨m, []⟩ :: stk⟩ = (fun (r0, r_w0_0, r_w0_1, r_w0_2) => (some (.ret (.d (.int .i64 r0)), (xsetO stk ⟨n0, k0⟩ (.cells [(.d (.str r_w0_0)), (.d (.int .i64 r_w0_1)), (.d (.int .i64 r_w0_2))]))) : Rk')) out := by
  have hn0 : (n0 = m) = False := eq_false (Nat.ne_of_lt hl0)
  have hm0 : decide (n0 < m) = true := decide_eq_true hl0
  simp only [b_parts_scan_number__0_5] at hp
  rw [h.at_, hT]
  cbv
  cases hp
  try (simp only [h.ss hg0])
  try simp only [if_false, if_true, hn0, hm0]
  all_goals first | rfl | (cbv; done) | (simp only [h.nadd0, h.nle_refl, h.cut_all, h.cut_nil, h.map_cons, h.map_nil, h.len_nil, he_e_uint8, he_e_string, if_true]; done) | (simp only [h.nadd0, h.nle_refl, h.cut_all, h.cut_nil, h.map_cons, h.map_nil, h.len_nil, he_e_uint8, he_e_string, if_true]; first | rfl | (cbv; done) | (cbv; simp only [h.map_cons, h.map_nil, h.len_nil, he_e_uint8, he_e_string]; done))
def b_parts_scan_take__0_0 (P : Prims)   (v1 : Int) (L0_0 : Str) (L0_1 : Int) (L0_2 : Int) : Option (Str × Str × Int × Int) :=
  match P.cmp .neq L0_2 0 with
  | false =>
    match P.cmp .lss (P.ar .sub .i64 (P.slen L0_0) L0_1) v1 with
    | false =>
      match P.ssub L0_0 (some L0_1) (some (P.ar .add .i64 L0_1 v1)) with
      | none => none
      | some s3 =>
        some (s3, L0_0, P.ar .add .i64 L0_1 v1, L0_2)
    | true =>
      some ([], L0_0, P.slen L0_0, 1)
  | true =>
    some ([], L0_0, L0_1, L0_2)
theorem o_parts_scan_take__0_0   (stk : Stk) (m : Nat) (n0 : Nat) (k0 : List Nat) (hl0 : n0 < m)   (v1 : Int) (L0_0 : Str) (L0_1 : Int) (L0_2 : Int) (hg0 : getO stk ⟨n0, k0⟩ = some (.cells [(.d (.str L0_0)), (.d (.int .i64 L0_1)), (.d (.int .i64 L0_2))]))  {out} (hp : b_parts_scan_take__0_0 ⟨xar, xcmp, xwrap, xseq, xslt, xenc, pquo, pshf, pslen, psidx, pssub, pscat, psit, pslist, pofBytes, @plen, @pidx, @psub, @papp, @pset, @pmake, @ploop⟩   v1 L0_0 L0_1 L0_2 = some out) : xat 38 .frz 0 [] ⟨[(0, (.ref ⟨n0, k0⟩ 0)), (1, (.d (.int .i64 v1)))], ⟨m, []⟩ :: stk⟩ = (fun (r0, r_w0_0, r_w0_1, r_w0_2) => (some (.ret (.d (.str r0)), (xsetO stk ⟨n0, k0⟩ (.cells [(.d (.str r_w0_0)), (.d (.int .i64 r_w0_1)), (.d (.int .i64 r_w0_2))]))) : Rk')) out := by
  have hn0 : (n0 = m) = False := eq_false (Nat.ne_of_lt hl0)
  have hm0 : decide (n0 < m) = true := decide_eq_true hl0
  simp only [b_parts_scan_take__0_0] at hp
  rw [h.at_, hT]
  cbv
  simp only [if_false, if_true, hn0, hm0, hg0]
  cbv
  cases c1 : xcmp .neq L0_2 0 with
  | false =>
    simp only [c1] at hp ⊢
    cbv
    try simp only [if_false, if_true, hn0, hm0]
    try cbv
    rw [h.at_, hT]
    cbv
    simp only [if_false, if_true, hn0, hm0, hg0]
    cbv
    try simp only [h.slen]
    simp only [if_false, if_true, hn0, hm0, hg0]
    cbv
    cases c2 : xcmp .lss (xar .sub .i64 (pslen L0_0) L0_1) v1 with
    | false =>
      simp only [c2] at hp ⊢
      cbv
      try simp only [if_false, if_true, hn0, hm0]
      try cbv
      rw [h.at_, hT]
      cbv
      simp only [if_false, if_true, hn0, hm0, hg0]
      cbv
      simp only [if_false, if_true, hn0, hm0, hg0]
      cbv
      simp only [if_false, if_true, hn0, hm0, hg0]
      cbv
      cases c4 : pssub L0_0 (some L0_1) (some (xar .add .i64 L0_1 v1)) with
      | none => simp only [c4] at hp; cases hp
      | some s3 =>
        simp only [c4] at hp
        obtain ⟨q0, q1, q2, q3, q4⟩ := h.ssub2 c4
        simp only [q0, q1, q2, q3, q4, Bool.false_eq_true, if_false, if_true]
        cbv
        try simp only [q0, q1, q2, q3, q4, if_true]
        cbv
        simp only [if_false, if_true, hn0, hm0, hg0]
        cbv
        try simp only [if_false, if_true, hn0, hm0, hg0]
        try cbv
        try simp only [h.set_o, h.st_, h.sb_ hl0, if_false, if_true, hn0, hm0, (h.gs (hg0) _)]
        try cbv
        cases hp
        try (simp only [h.so])
        try simp only [if_false, if_true, hn0, hm0]
        all_goals first | rfl | (cbv; done) | (simp only [h.nadd0, h.nle_refl, h.cut_all, h.cut_nil, h.map_cons, h.map_nil, h.len_nil, he_e_uint8, he_e_string, if_true]; done) | (simp only [h.nadd0, h.nle_refl, h.cut_all, h.cut_nil, h.map_cons, h.map_nil, h.len_nil, he_e_uint8, he_e_string, if_true]; first | rfl | (cbv; done) | (cbv; simp only [h.map_cons, h.map_nil, h.len_nil, he_e_uint8, he_e_string]; done))
    | true =>
      simp only [c2] at hp ⊢
      cbv
      simp only [if_false, if_true, hn0, hm0, hg0]
      cbv
      try simp only [h.slen]
      try simp only [if_false, if_true, hn0, hm0, hg0]
      try cbv
      try simp only [h.set_o, h.st_, h.sb_ hl0, if_false, if_true, hn0, hm0, (h.gs (hg0) _)]
      try cbv
      try simp only [if_false, if_true, hn0, hm0, (h.gs (hg0) _)]
      try cbv
      try simp only [h.set_o, h.st_, h.sb_ hl0, if_false, if_true, hn0, hm0, (h.gs (hg0) _)]
      try simp only [h.so, if_false, if_true, hn0, hm0, (h.gs (hg0) _)]
      try cbv
      cases hp
      try (simp only [h.so])
      try simp only [if_false, if_true, hn0, hm0]
      all_goals first | rfl | (cbv; done) | (simp only [h.nadd0, h.nle_refl, h.cut_all, h.cut_nil, h.map_cons, h.map_nil, h.len_nil, he_e_uint8, he_e_string, if_true]; done) | (simp only [h.nadd0, h.nle_refl, h.cut_all, h.cut_nil, h.map_cons, h.map_nil, h.len_nil, he_e_uint8, he_e_string, if_true]; first | rfl | (cbv; done) | (cbv; simp only [h.map_cons, h.map_nil, h.len_nil, he_e_uint8, he_e_string]; done))
  | true =>
    simp only [c1] at hp ⊢
    cbv
    cases hp
    try (simp only [h.ss hg0])
    try simp only [if_false, if_true, hn0, hm0]
    all_goals first | rfl | (cbv; done) | (simp only [h.nadd0, h.nle_refl, h.cut_all, h.cut_nil, h.map_cons, h.map_nil, h.len_nil, he_e_uint8, he_e_string, if_true]; done) | (simp only [h.nadd0, h.nle_refl, h.cut_all, h.cut_nil, h.map_cons, h.map_nil, h.len_nil, he_e_uint8, he_e_string, if_true]; first | rfl | (cbv; done) | (cbv; simp only [h.map_cons, h.map_nil, h.len_nil, he_e_uint8, he_e_string]; done))
def b_parts_scan_part__0_0 (P : Prims) (c_parts_scan_text__0 : Str → Str → Int → Int → Option (Str × Int × Int)) (c_parts_scan_is__0 : Int → Str → Int → Int → Option (Bool)) (c_parts_scan_number__0 : Str → Int → Int → Option (Int × Str × Int × Int)) (c_parts_scan_take__0 : Int → Str → Int → Int → Option (Str × Str × Int × Int))  (L0_0 : Str) (L0_1 : Int) (L0_2 : Int) : Option (Str × Bool × Str × Int × Int) :=
  match c_parts_scan_text__0 [45, 45, 99, 117, 116] L0_0 L0_1 L0_2 with
  | none => none
  | some (r1_w0_0, r1_w0_1, r1_w0_2) =>
    match c_parts_scan_is__0 45 r1_w0_0 r1_w0_1 r1_w0_2 with
    | none => none
    | some r3_0 =>
      match r3_0 with
      | false =>
        match c_parts_scan_text__0 [13, 10, 67, 111, 110, 116, 101, 110, 116, 45, 84, 121, 112, 101, 58, 32, 97, 112, 112, 108, 105, 99, 97, 116, 105, 111, 110, 47, 106, 115, 111, 110, 13, 10, 67, 111, 110, 116, 101, 110, 116, 45, 76, 101, 110, 103, 116, 104, 58, 32] r1_w0_0 r1_w0_1 r1_w0_2 with
        | none => none
        | some (r9_w0_0, r9_w0_1, r9_w0_2) =>
          match c_parts_scan_number__0 r9_w0_0 r9_w0_1 r9_w0_2 with
          | none => none
          | some (r11_0, r11_w0_0, r11_w0_1, r11_w0_2) =>
            match c_parts_scan_text__0 [13, 10, 13, 10] r11_w0_0 r11_w0_1 r11_w0_2 with
            | none => none
            | some (r13_w0_0, r13_w0_1, r13_w0_2) =>
              match c_parts_scan_take__0 r11_0 r13_w0_0 r13_w0_1 r13_w0_2 with
              | none => none
              | some (r15_0, r15_w0_0, r15_w0_1, r15_w0_2) =>
                match c_parts_scan_text__0 [13, 10] r15_w0_0 r15_w0_1 r15_w0_2 with
                | none => none
                | some (r17_w0_0, r17_w0_1, r17_w0_2) =>
                  some (r15_0, true, r17_w0_0, r17_w0_1, r17_w0_2)
      | true =>
        match c_parts_scan_text__0 [45, 45, 13, 10] r1_w0_0 r1_w0_1 r1_w0_2 with
        | none => none
        | some (r6_w0_0, r6_w0_1, r6_w0_2) =>
          some ([], false, r6_w0_0, r6_w0_1, r6_w0_2)
theorem o_parts_scan_part__0_0 (c_parts_scan_text__0 : Str → Str → Int → Int → Option (Str × Int × Int)) (c_parts_scan_is__0 : Int → Str → Int → Int → Option (Bool)) (c_parts_scan_number__0 : Str → Int → Int → Option (Int × Str × Int × Int)) (c_parts_scan_take__0 : Int → Str → Int → Int → Option (Str × Str × Int × Int)) (h_parts_scan_text__0 : ∀ {v1 : Str} {L0_0 : Str} {L0_1 : Int} {L0_2 : Int} {r_w0_0 : Str} {r_w0_1 : Int} {r_w0_2 : Int}, c_parts_scan_text__0 v1 L0_0 L0_1 L0_2 = some (r_w0_0, r_w0_1, r_w0_2) → ∀ (stk : Stk) (n0 : Nat) (k0 : List Nat), getO stk ⟨n0, k0⟩ = some (.cells [(.d (.str L0_0)), (.d (.int .i64 L0_1)), (.d (.int .i64 L0_2))]) → n0 ≤ topN stk → xfcall 35 [(.ref ⟨n0, k0⟩ 0), (.d (.str v1))] stk = some (.d (.tup []), (xsetO stk ⟨n0, k0⟩ (.cells [(.d (.str r_w0_0)), (.d (.int .i64 r_w0_1)), (.d (.int .i64 r_w0_2))])))) (h_parts_scan_is__0 : ∀ {v1 : Int} {L0_0 : Str} {L0_1 : Int} {L0_2 : Int} {r0 : Bool}, c_parts_scan_is__0 v1 L0_0 L0_1 L0_2 = some r0 → ∀ (stk : Stk) (n0 : Nat) (k0 : List Nat), getO stk ⟨n0, k0⟩ = some (.cells [(.d (.str L0_0)), (.d (.int .i64 L0_1)), (.d (.int .i64 L0_2))]) → n0 ≤ topN stk → xpcall 36 [(.ref ⟨n0, k0⟩ 0), (.d (.int .u8 v1))] stk = some (.d (.bool r0)) ∧ xfcall 36 [(.ref ⟨n0, k0⟩ 0), (.d (.int .u8 v1))] stk = some (.d (.bool r0), stk)) (h_parts_scan_number__0 : ∀ {L0_0 : Str} {L0_1 : Int} {L0_2 : Int} {r0 : Int} {r_w0_0 : Str} {r_w0_1 : Int} {r_w0_2 : Int}, c_parts_scan_number__0 L0_0 L0_1 L0_2 = some (r0, r_w0_0, r_w0_1, r_w0_2) → ∀ (stk : Stk) (n0 : Nat) (k0 : List Nat), getO stk ⟨n0, k0⟩ = some (.cells [(.d (.str L0_0)), (.d (.int .i64 L0_1)), (.d (.int .i64 L0_2))]) → n0 ≤ topN stk → xfcall 37 [(.ref ⟨n0, k0⟩ 0)] stk = some (.d (.int .i64 r0), (xsetO stk ⟨n0, k0⟩ (.cells [(.d (.str r_w0_0)), (.d (.int .i64 r_w0_1)), (.d (.int .i64 r_w0_2))])))) (h_parts_scan_take__0 : ∀ {v1 : Int} {L0_0 : Str} {L0_1 : Int} {L0_2 : Int} {r0 : Str} {r_w0_0 : Str} {r_w0_1 : Int} {r_w0_2 : Int}, c_parts_scan_take__0 v1 L0_0 L0_1 L0_2 = some (r0, r_w0_0, r_w0_1, r_w0_2) → ∀ (stk : Stk) (n0 : Nat) (k0 : List Nat), getO stk ⟨n0, k0⟩ = some (.cells [(.d (.str L0_0)), (.d (.int .i64 L0_1)), (.d (.int .i64 L0_2))]) → n0 ≤ topN stk → xfcall 38 [(.ref ⟨n0, k0⟩ 0), (.d (.int .i64 v1))] stk = some (.d (.str r0), (xsetO stk ⟨n0, k0⟩ (.cells [(.d (.str r_w0_0)), (.d (.int .i64 r_w0_1)), (.d (.int .i64 r_w0_2))])))) (stk : Stk) (m : Nat) (n0 : Nat) (k0 : List Nat) (hl0 : n0 < m)   (L0_0 : Str) (L0_1 : Int) (L0_2 : Int) (hg0 : getO stk ⟨n0, k0⟩ = some (.cells [(.d (.str L0_0)), (.d (.int .i64 L0_1)), (.d (.int .i64 L0_2))]))  {out} (hp : b_parts_scan_part__0_0 ⟨xar, xcmp, xwrap, xseq, xslt, xenc, pquo, pshf, pslen, psidx, pssub, pscat, psit, pslist, pofBytes, @plen, @pidx, @psub, @papp, @pset, @pmake, @ploop⟩ c_parts_scan_text__0 c_parts_scan_is__0 c_parts_scan_number__0 c_parts_scan_take__0  L0_0 L0_1 L0_2 = some out) : xat 30 .frz 0 [] ⟨[(0, (.ref ⟨n0, k0⟩ 0))], ⟨m, []⟩ :: stk⟩ = (fun (r0, r1, r_w0_0, r_w0_1, r_w0_2) => (some (.ret (.d (.tup [(.str r0), (.bool r1)])), (xsetO stk ⟨n0, k0⟩ (.cells [(.d (.str r_w0_0)), (.d (.int .i64 r_w0_1)), (.d (.int .i64 r_w0_2))]))) : Rk')) out := by
  have hn0 : (n0 = m) = False := eq_false (Nat.ne_of_lt hl0)
  have hm0 : decide (n0 < m) = true := decide_eq_true hl0
  simp only [b_parts_scan_part__0_0] at hp
  rw [h.at_, hT]
  cbv
  cases c2 : c_parts_scan_text__0 [45, 45, 99, 117, 116] L0_0 L0_1 L0_2 with
  | none => simp only [c2] at hp; cases hp
  | some y24 =>
    obtain ⟨r1_w0_0, r1_w0_1, r1_w0_2⟩ := y24
    simp only [c2] at hp
    have qc := h_parts_scan_text__0 c2 (⟨m, []⟩ :: stk) n0 k0 ((h.gb hl0 _ _).trans (hg0)) (Nat.le_of_lt hl0)
    simp only [qc]
    simp only [h.st_, h.sb_ hl0]
    cbv
    cases c4 : c_parts_scan_is__0 45 r1_w0_0 r1_w0_1 r1_w0_2 with
    | none => simp only [c4] at hp; cases hp
    | some r3_0 =>
      simp only [c4] at hp
      have qc := (h_parts_scan_is__0 c4 (⟨m, []⟩ :: (xsetO stk ⟨n0, k0⟩ (.cells [(.d (.str r1_w0_0)), (.d (.int .i64 r1_w0_1)), (.d (.int .i64 r1_w0_2))]))) n0 k0 ((h.gb hl0 _ _).trans ((h.gs (hg0) _))) (Nat.le_of_lt hl0)).1
      simp only [qc]
      cbv
      cases r3_0 with
      | false =>
        simp only at hp
        cbv
        try simp only [if_false, if_true, hn0, hm0]
        try cbv
        rw [h.at_, hT]
        cbv
        cases c10 : c_parts_scan_text__0 [13, 10, 67, 111, 110, 116, 101, 110, 116, 45, 84, 121, 112, 101, 58, 32, 97, 112, 112, 108, 105, 99, 97, 116, 105, 111, 110, 47, 106, 115, 111, 110, 13, 10, 67, 111, 110, 116, 101, 110, 116, 45, 76, 101, 110, 103, 116, 104, 58, 32] r1_w0_0 r1_w0_1 r1_w0_2 with
        | none => simp only [c10] at hp; cases hp
        | some y23 =>
          obtain ⟨r9_w0_0, r9_w0_1, r9_w0_2⟩ := y23
          simp only [c10] at hp
          have qc := h_parts_scan_text__0 c10 (⟨m, []⟩ :: (xsetO stk ⟨n0, k0⟩ (.cells [(.d (.str r1_w0_0)), (.d (.int .i64 r1_w0_1)), (.d (.int .i64 r1_w0_2))]))) n0 k0 ((h.gb hl0 _ _).trans ((h.gs (hg0) _))) (Nat.le_of_lt hl0)
          simp only [qc]
          simp only [h.st_, h.sb_ hl0]
          try simp only [h.so]
          cbv
          cases c12 : c_parts_scan_number__0 r9_w0_0 r9_w0_1 r9_w0_2 with
          | none => simp only [c12] at hp; cases hp
          | some y22 =>
            obtain ⟨r11_0, r11_w0_0, r11_w0_1, r11_w0_2⟩ := y22
            simp only [c12] at hp
            have qc := h_parts_scan_number__0 c12 (⟨m, []⟩ :: (xsetO stk ⟨n0, k0⟩ (.cells [(.d (.str r9_w0_0)), (.d (.int .i64 r9_w0_1)), (.d (.int .i64 r9_w0_2))]))) n0 k0 ((h.gb hl0 _ _).trans ((h.gs (hg0) _))) (Nat.le_of_lt hl0)
            simp only [qc]
            simp only [h.st_, h.sb_ hl0]
            try simp only [h.so]
            cbv
            cases c14 : c_parts_scan_text__0 [13, 10, 13, 10] r11_w0_0 r11_w0_1 r11_w0_2 with
            | none => simp only [c14] at hp; cases hp
            | some y21 =>
              obtain ⟨r13_w0_0, r13_w0_1, r13_w0_2⟩ := y21
              simp only [c14] at hp
              have qc := h_parts_scan_text__0 c14 (⟨m, []⟩ :: (xsetO stk ⟨n0, k0⟩ (.cells [(.d (.str r11_w0_0)), (.d (.int .i64 r11_w0_1)), (.d (.int .i64 r11_w0_2))]))) n0 k0 ((h.gb hl0 _ _).trans ((h.gs (hg0) _))) (Nat.le_of_lt hl0)
              simp only [qc]
              simp only [h.st_, h.sb_ hl0]
              try simp only [h.so]
              cbv
              cases c16 : c_parts_scan_take__0 r11_0 r13_w0_0 r13_w0_1 r13_w0_2 with
              | none => simp only [c16] at hp; cases hp
              | some y20 =>
                obtain ⟨r15_0, r15_w0_0, r15_w0_1, r15_w0_2⟩ := y20
                simp only [c16] at hp
                have qc := h_parts_scan_take__0 c16 (⟨m, []⟩ :: (xsetO stk ⟨n0, k0⟩ (.cells [(.d (.str r13_w0_0)), (.d (.int .i64 r13_w0_1)), (.d (.int .i64 r13_w0_2))]))) n0 k0 ((h.gb hl0 _ _).trans ((h.gs (hg0) _))) (Nat.le_of_lt hl0)
                simp only [qc]
                simp only [h.st_, h.sb_ hl0]
                try simp only [h.so]
                cbv
                cases c18 : c_parts_scan_text__0 [13, 10] r15_w0_0 r15_w0_1 r15_w0_2 with
                | none => simp only [c18] at hp; cases hp
                | some y19 =>
                  obtain ⟨r17_w0_0, r17_w0_1, r17_w0_2⟩ := y19
                  simp only [c18] at hp
                  have qc := h_parts_scan_text__0 c18 (⟨m, []⟩ :: (xsetO stk ⟨n0, k0⟩ (.cells [(.d (.str r15_w0_0)), (.d (.int .i64 r15_w0_1)), (.d (.int .i64 r15_w0_2))]))) n0 k0 ((h.gb hl0 _ _).trans ((h.gs (hg0) _))) (Nat.le_of_lt hl0)
                  simp only [qc]
                  simp only [h.st_, h.sb_ hl0]
                  try simp only [h.so]
                  cbv
                  cases hp
                  try (simp only [h.so])
                  try simp only [if_false, if_true, hn0, hm0]
                  all_goals first | rfl | (cbv; done) | (simp only [h.nadd0, h.nle_refl, h.cut_all, h.cut_nil, h.map_cons, h.map_nil, h.len_nil, he_e_uint8, he_e_string, if_true]; done) | (simp only [h.nadd0, h.nle_refl, h.cut_all, h.cut_nil, h.map_cons, h.map_nil, h.len_nil, he_e_uint8, he_e_string, if_true]; first | rfl | (cbv; done) | (cbv; simp only [h.map_cons, h.map_nil, h.len_nil, he_e_uint8, he_e_string]; done))
      | true =>
        simp only at hp
        cbv
        cases c7 : c_parts_scan_text__0 [45, 45, 13, 10] r1_w0_0 r1_w0_1 r1_w0_2 with
        | none => simp only [c7] at hp; cases hp
        | some y8 =>
          obtain ⟨r6_w0_0, r6_w0_1, r6_w0_2⟩ := y8
          simp only [c7] at hp
          have qc := h_parts_scan_text__0 c7 (⟨m, []⟩ :: (xsetO stk ⟨n0, k0⟩ (.cells [(.d (.str r1_w0_0)), (.d (.int .i64 r1_w0_1)), (.d (.int .i64 r1_w0_2))]))) n0 k0 ((h.gb hl0 _ _).trans ((h.gs (hg0) _))) (Nat.le_of_lt hl0)
          simp only [qc]
          simp only [h.st_, h.sb_ hl0]
          try simp only [h.so]
          cbv
          cases hp
          try (simp only [h.so])
          try simp only [if_false, if_true, hn0, hm0]
          all_goals first | rfl | (cbv; done) | (simp only [h.nadd0, h.nle_refl, h.cut_all, h.cut_nil, h.map_cons, h.map_nil, h.len_nil, he_e_uint8, he_e_string, if_true]; done) | (simp only [h.nadd0, h.nle_refl, h.cut_all, h.cut_nil, h.map_cons, h.map_nil, h.len_nil, he_e_uint8, he_e_string, if_true]; first | rfl | (cbv; done) | (cbv; simp only [h.map_cons, h.map_nil, h.len_nil, he_e_uint8, he_e_string]; done))
def b_parts_Reader_Next__0_0 (P : Prims) (c_parts_scan_part__0 : Str → Int → Int → Option (Str × Bool × Str × Int × Int)) (c_parts_Reader_Next__0 : Str → Int → Bool → Int → Option (Str × Bool × Str × Int × Bool × Int))  (L0_0 : Str) (L0_1 : Int) (L0_2 : Bool) (L0_3 : Int) : Option (Str × Bool × Str × Int × Bool × Int) :=
  match P.cmp .gtr L0_3 0 with
  | false =>
    match P.seq L0_0 [] with
    | false =>
      match L0_2 with
      | false =>
        match c_parts_scan_part__0 L0_0 0 0 with
        | none => none
        | some (r4_0, r4_1, r4_w0_0, r4_w0_1, r4_w0_2) =>
          match P.cmp .eql r4_w0_2 2 with
          | false =>
            match P.cmp .eql r4_w0_2 1 with
            | false =>
              match P.ssub L0_0 (some r4_w0_1) none with
              | none => none
              | some s8 =>
                match r4_1 with
                | false =>
                  match c_parts_Reader_Next__0 s8 (P.ar .add .i64 L0_1 r4_w0_1) true L0_3 with
                  | none => none
                  | some (r11_0, r11_1, r11_w0_0, r11_w0_1, r11_w0_2, r11_w0_3) =>
                    some (r11_0, r11_1, r11_w0_0, r11_w0_1, r11_w0_2, r11_w0_3)
                | true =>
                  some (r4_0, true, s8, P.ar .add .i64 L0_1 r4_w0_1, false, L0_3)
            | true =>
              some ([], false, L0_0, L0_1, false, L0_3)
          | true =>
            some ([], false, L0_0, L0_1, false, P.ar .add .i64 (P.ar .add .i64 L0_1 r4_w0_1) 1)
      | true =>
        some ([], false, L0_0, L0_1, true, P.ar .add .i64 L0_1 1)
    | true =>
      some ([], false, L0_0, L0_1, L0_2, L0_3)
  | true =>
    some ([], false, L0_0, L0_1, L0_2, L0_3)
theorem o_parts_Reader_Next__0_0 (c_parts_scan_part__0 : Str → Int → Int → Option (Str × Bool × Str × Int × Int)) (c_parts_Reader_Next__0 : Str → Int → Bool → Int → Option (Str × Bool × Str × Int × Bool × Int)) (h_parts_scan_part__0 : ∀ {L0_0 : Str} {L0_1 : Int} {L0_2 : Int} {r0 : Str} {r1 : Bool} {r_w0_0 : Str} {r_w0_1 : Int} {r_w0_2 : Int}, c_parts_scan_part__0 L0_0 L0_1 L0_2 = some (r0, r1, r_w0_0, r_w0_1, r_w0_2) → ∀ (stk : Stk) (n0 : Nat) (k0 : List Nat), getO stk ⟨n0, k0⟩ = some (.cells [(.d (.str L0_0)), (.d (.int .i64 L0_1)), (.d (.int .i64 L0_2))]) → n0 ≤ topN stk → xfcall 30 [(.ref ⟨n0, k0⟩ 0)] stk = some (.d (.tup [(.str r0), (.bool r1)]), (xsetO stk ⟨n0, k0⟩ (.cells [(.d (.str r_w0_0)), (.d (.int .i64 r_w0_1)), (.d (.int .i64 r_w0_2))])))) (h_parts_Reader_Next__0 : ∀ {L0_0 : Str} {L0_1 : Int} {L0_2 : Bool} {L0_3 : Int} {r0 : Str} {r1 : Bool} {r_w0_0 : Str} {r_w0_1 : Int} {r_w0_2 : Bool} {r_w0_3 : Int}, c_parts_Reader_Next__0 L0_0 L0_1 L0_2 L0_3 = some (r0, r1, r_w0_0, r_w0_1, r_w0_2, r_w0_3) → ∀ (stk : Stk) (n0 : Nat) (k0 : List Nat), getO stk ⟨n0, k0⟩ = some (.cells [(.d (.str L0_0)), (.d (.int .i64 L0_1)), (.d (.bool L0_2)), (.d (.int .i64 L0_3))]) → n0 ≤ topN stk → xfcall 15 [(.ref ⟨n0, k0⟩ 0)] stk = some (.d (.tup [(.str r0), (.bool r1)]), (xsetO stk ⟨n0, k0⟩ (.cells [(.d (.str r_w0_0)), (.d (.int .i64 r_w0_1)), (.d (.bool r_w0_2)), (.d (.int .i64 r_w0_3))])))) (stk : Stk) (m : Nat) (n0 : Nat) (k0 : List Nat) (hl0 : n0 < m)   (L0_0 : Str) (L0_1 : Int) (L0_2 : Bool) (L0_3 : Int) (hg0 : getO stk ⟨n0, k0⟩ = some (.cells [(.d (.str L0_0)), (.d (.int .i64 L0_1)), (.d (.bool L0_2)), (.d (.int .i64 L0_3))]))  {out} (hp : b_parts_Reader_Next__0_0 ⟨xar, xcmp, xwrap, xseq, xslt, xenc, pquo, pshf, pslen, psidx, pssub, pscat, psit, pslist, pofBytes, @plen, @pidx, @psub, @papp, @pset, @pmake, @ploop⟩ c_parts_scan_part__0 c_parts_Reader_Next__0  L0_0 L0_1 L0_2 L0_3 = some out) : xat 15 .frz 0 [] ⟨[(0, (.ref ⟨n0, k0⟩ 0))], ⟨m, []⟩ :: stk⟩ = (fun (r0, r1, r_w0_0, r_w0_1, r_w0_2, r_w0_3) => (some (.ret (.d (.tup [(.str r0), (.bool r1)])), (xsetO stk ⟨n0, k0⟩ (.cells [(.d (.str r_w0_0)), (.d (.int .i64 r_w0_1)), (.d (.bool r_w0_2)), (.d (.int .i64 r_w0_3))]))) : Rk')) out := by
  have hn0 : (n0 = m) = False := eq_false (Nat.ne_of_lt hl0)
  have hm0 : decide (n0 < m) = true := decide_eq_true hl0
  simp only [b_parts_Reader_Next__0_0] at hp
  rw [h.at_, hT]
  cbv
  simp only [if_false, if_true, hn0, hm0, hg0]
  cbv
  cases c1 : xcmp .gtr L0_3 0 with
  | false =>
    simp only [c1] at hp ⊢
    cbv
    simp only [if_false, if_true, hn0, hm0, hg0]
    cbv
    cases c2 : xseq L0_0 [] with
    | false =>
      simp only [c2] at hp ⊢
      cbv
      simp only [if_false, if_true, hn0, hm0, hg0]
      cbv
      cases L0_2 with
      | false =>
        simp only at hp
        cbv
        try simp only [if_false, if_true, hn0, hm0]
        try cbv
        rw [h.at_, hT]
        cbv
        simp only [if_false, if_true, hn0, hm0, hg0]
        cbv
        cases c5 : c_parts_scan_part__0 L0_0 0 0 with
        | none => simp only [c5] at hp; cases hp
        | some y14 =>
          obtain ⟨r4_0, r4_1, r4_w0_0, r4_w0_1, r4_w0_2⟩ := y14
          simp only [c5] at hp
          have qc := h_parts_scan_part__0 c5 (⟨m, [([38], (.cells [(.d (.str L0_0)), (.d (.int .i64 0)), (.d (.int .i64 0))]))]⟩ :: stk) m [38] (h.gt _ _ _ _) (Nat.le_refl _)
          simp only [qc]
          simp only [h.st_]
          cbv
          cases c6 : xcmp .eql r4_w0_2 2 with
          | false =>
            simp only [c6] at hp ⊢
            cbv
            cases c7 : xcmp .eql r4_w0_2 1 with
            | false =>
              simp only [c7] at hp ⊢
              cbv
              try simp only [if_false, if_true, hn0, hm0]
              try cbv
              rw [h.at_, hT]
              cbv
              simp only [if_false, if_true, hn0, hm0, hg0]
              cbv
              cases c9 : pssub L0_0 (some r4_w0_1) none with
              | none => simp only [c9] at hp; cases hp
              | some s8 =>
                simp only [c9] at hp
                obtain ⟨q0, q1, q2, q3⟩ := h.ssub1 c9
                simp only [q0, q1, q2, q3, Bool.false_eq_true, if_false, if_true]
                cbv
                try simp only [q0, q1, q2, q3, if_true]
                cbv
                simp only [if_false, if_true, hn0, hm0, hg0]
                cbv
                try simp only [if_false, if_true, hn0, hm0, hg0]
                try cbv
                try simp only [h.set_o, h.st_, h.sb_ hl0, if_false, if_true, hn0, hm0, (h.gs (hg0) _)]
                try cbv
                try simp only [if_false, if_true, hn0, hm0, (h.gs (hg0) _)]
                try cbv
                try simp only [h.set_o, h.st_, h.sb_ hl0, if_false, if_true, hn0, hm0, (h.gs (hg0) _)]
                try simp only [h.so, if_false, if_true, hn0, hm0, (h.gs (hg0) _)]
                try cbv
                cases r4_1 with
                | false =>
                  simp only at hp
                  cbv
                  try simp only [if_false, if_true, hn0, hm0, (h.gs (hg0) _)]
                  try cbv
                  try simp only [h.set_o, h.st_, h.sb_ hl0, if_false, if_true, hn0, hm0, (h.gs (hg0) _)]
                  try simp only [h.so, if_false, if_true, hn0, hm0, (h.gs (hg0) _)]
                  try cbv
                  cases c12 : c_parts_Reader_Next__0 s8 (xar .add .i64 L0_1 r4_w0_1) true L0_3 with
                  | none => simp only [c12] at hp; cases hp
                  | some y13 =>
                    obtain ⟨r11_0, r11_1, r11_w0_0, r11_w0_1, r11_w0_2, r11_w0_3⟩ := y13
                    simp only [c12] at hp
                    have qc := h_parts_Reader_Next__0 c12 (⟨m, [([38], (.cells [(.d (.str r4_w0_0)), (.d (.int .i64 r4_w0_1)), (.d (.int .i64 r4_w0_2))]))]⟩ :: (xsetO stk ⟨n0, k0⟩ (.cells [(.d (.str s8)), (.d (.int .i64 (xar .add .i64 L0_1 r4_w0_1))), (.d (.bool true)), (.d (.int .i64 L0_3))]))) n0 k0 ((h.gb hl0 _ _).trans ((h.gs (hg0) _))) (Nat.le_of_lt hl0)
                    simp only [qc]
                    simp only [h.st_, h.sb_ hl0]
                    try simp only [h.so]
                    cbv
                    cases hp
                    try (simp only [h.so])
                    try simp only [if_false, if_true, hn0, hm0]
                    all_goals first | rfl | (cbv; done) | (simp only [h.nadd0, h.nle_refl, h.cut_all, h.cut_nil, h.map_cons, h.map_nil, h.len_nil, he_e_uint8, he_e_string, if_true]; done) | (simp only [h.nadd0, h.nle_refl, h.cut_all, h.cut_nil, h.map_cons, h.map_nil, h.len_nil, he_e_uint8, he_e_string, if_true]; first | rfl | (cbv; done) | (cbv; simp only [h.map_cons, h.map_nil, h.len_nil, he_e_uint8, he_e_string]; done))
                | true =>
                  simp only at hp
                  cbv
                  try simp only [if_false, if_true, hn0, hm0]
                  try cbv
                  rw [h.at_, hT]
                  cbv
                  cases hp
                  try (simp only [h.so])
                  try simp only [if_false, if_true, hn0, hm0]
                  all_goals first | rfl | (cbv; done) | (simp only [h.nadd0, h.nle_refl, h.cut_all, h.cut_nil, h.map_cons, h.map_nil, h.len_nil, he_e_uint8, he_e_string, if_true]; done) | (simp only [h.nadd0, h.nle_refl, h.cut_all, h.cut_nil, h.map_cons, h.map_nil, h.len_nil, he_e_uint8, he_e_string, if_true]; first | rfl | (cbv; done) | (cbv; simp only [h.map_cons, h.map_nil, h.len_nil, he_e_uint8, he_e_string]; done))
            | true =>
              simp only [c7] at hp ⊢
              cbv
              cases hp
              try (simp only [h.ss hg0])
              try simp only [if_false, if_true, hn0, hm0]
              all_goals first | rfl | (cbv; done) | (simp only [h.nadd0, h.nle_refl, h.cut_all, h.cut_nil, h.map_cons, h.map_nil, h.len_nil, he_e_uint8, he_e_string, if_true]; done) | (simp only [h.nadd0, h.nle_refl, h.cut_all, h.cut_nil, h.map_cons, h.map_nil, h.len_nil, he_e_uint8, he_e_string, if_true]; first | rfl | (cbv; done) | (cbv; simp only [h.map_cons, h.map_nil, h.len_nil, he_e_uint8, he_e_string]; done))
          | true =>
            simp only [c6] at hp ⊢
            cbv
            simp only [if_false, if_true, hn0, hm0, hg0]
            cbv
            try simp only [if_false, if_true, hn0, hm0, hg0]
            try cbv
            try simp only [h.set_o, h.st_, h.sb_ hl0, if_false, if_true, hn0, hm0, (h.gs (hg0) _)]
            try cbv
            cases hp
            try (simp only [h.so])
            try simp only [if_false, if_true, hn0, hm0]
            all_goals first | rfl | (cbv; done) | (simp only [h.nadd0, h.nle_refl, h.cut_all, h.cut_nil, h.map_cons, h.map_nil, h.len_nil, he_e_uint8, he_e_string, if_true]; done) | (simp only [h.nadd0, h.nle_refl, h.cut_all, h.cut_nil, h.map_cons, h.map_nil, h.len_nil, he_e_uint8, he_e_string, if_true]; first | rfl | (cbv; done) | (cbv; simp only [h.map_cons, h.map_nil, h.len_nil, he_e_uint8, he_e_string]; done))
      | true =>
        simp only at hp
        cbv
        simp only [if_false, if_true, hn0, hm0, hg0]
        cbv
        try simp only [if_false, if_true, hn0, hm0, hg0]
        try cbv
        try simp only [h.set_o, h.st_, h.sb_ hl0, if_false, if_true, hn0, hm0, (h.gs (hg0) _)]
        try cbv
        cases hp
        try (simp only [h.so])
        try simp only [if_false, if_true, hn0, hm0]
        all_goals first | rfl | (cbv; done) | (simp only [h.nadd0, h.nle_refl, h.cut_all, h.cut_nil, h.map_cons, h.map_nil, h.len_nil, he_e_uint8, he_e_string, if_true]; done) | (simp only [h.nadd0, h.nle_refl, h.cut_all, h.cut_nil, h.map_cons, h.map_nil, h.len_nil, he_e_uint8, he_e_string, if_true]; first | rfl | (cbv; done) | (cbv; simp only [h.map_cons, h.map_nil, h.len_nil, he_e_uint8, he_e_string]; done))
    | true =>
      simp only [c2] at hp ⊢
      cbv
      cases hp
      try (simp only [h.ss hg0])
      try simp only [if_false, if_true, hn0, hm0]
      all_goals first | rfl | (cbv; done) | (simp only [h.nadd0, h.nle_refl, h.cut_all, h.cut_nil, h.map_cons, h.map_nil, h.len_nil, he_e_uint8, he_e_string, if_true]; done) | (simp only [h.nadd0, h.nle_refl, h.cut_all, h.cut_nil, h.map_cons, h.map_nil, h.len_nil, he_e_uint8, he_e_string, if_true]; first | rfl | (cbv; done) | (cbv; simp only [h.map_cons, h.map_nil, h.len_nil, he_e_uint8, he_e_string]; done))
  | true =>
    simp only [c1] at hp ⊢
    cbv
    cases hp
    try (simp only [h.ss hg0])
    try simp only [if_false, if_true, hn0, hm0]
    all_goals first | rfl | (cbv; done) | (simp only [h.nadd0, h.nle_refl, h.cut_all, h.cut_nil, h.map_cons, h.map_nil, h.len_nil, he_e_uint8, he_e_string, if_true]; done) | (simp only [h.nadd0, h.nle_refl, h.cut_all, h.cut_nil, h.map_cons, h.map_nil, h.len_nil, he_e_uint8, he_e_string, if_true]; first | rfl | (cbv; done) | (cbv; simp only [h.map_cons, h.map_nil, h.len_nil, he_e_uint8, he_e_string]; done))
def b_parts_Reader_Bad__0_0 (P : Prims)   (L0_0 : Str) (L0_1 : Int) (L0_2 : Bool) (L0_3 : Int) : Option (Int) :=
  some (P.ar .sub .i64 L0_3 1)
theorem o_parts_Reader_Bad__0_0   (stk : Stk) (m : Nat) (n0 : Nat) (k0 : List Nat) (hl0 : n0 < m)   (L0_0 : Str) (L0_1 : Int) (L0_2 : Bool) (L0_3 : Int) (hg0 : getO stk ⟨n0, k0⟩ = some (.cells [(.d (.str L0_0)), (.d (.int .i64 L0_1)), (.d (.bool L0_2)), (.d (.int .i64 L0_3))]))  {out} (hp : b_parts_Reader_Bad__0_0 ⟨xar, xcmp, xwrap, xseq, xslt, xenc, pquo, pshf, pslen, psidx, pssub, pscat, psit, pslist, pofBytes, @plen, @pidx, @psub, @papp, @pset, @pmake, @ploop⟩   L0_0 L0_1 L0_2 L0_3 = some out) : xat 16 .frz 0 [] ⟨[(0, (.ref ⟨n0, k0⟩ 0))], ⟨m, []⟩ :: stk⟩ = (fun r0 => (some (.ret (.d (.int .i64 r0)), stk) : Rk')) out := by
  have hn0 : (n0 = m) = False := eq_false (Nat.ne_of_lt hl0)
  have hm0 : decide (n0 < m) = true := decide_eq_true hl0
  simp only [b_parts_Reader_Bad__0_0] at hp
  rw [h.at_, hT]
  cbv
  simp only [if_false, if_true, hn0, hm0, hg0]
  cbv
  cases hp
  try simp only [if_false, if_true, hn0, hm0]
  all_goals first | rfl | (cbv; done) | (simp only [h.nadd0, h.nle_refl, h.cut_all, h.cut_nil, h.map_cons, h.map_nil, h.len_nil, he_e_uint8, he_e_string, if_true]; done) | (simp only [h.nadd0, h.nle_refl, h.cut_all, h.cut_nil, h.map_cons, h.map_nil, h.len_nil, he_e_uint8, he_e_string, if_true]; first | rfl | (cbv; done) | (cbv; simp only [h.map_cons, h.map_nil, h.len_nil, he_e_uint8, he_e_string]; done))
def b_cascadelaw28_PartsLong_0 (P : Prims) (c_cascadelaw28_awake : Option (Bool)) (c_parts_New__0 : Option (Str × Int × Bool × Int)) (c_parts_Reader_Feed__0 : Str → Str → Int → Bool → Int → Option (Str × Int × Bool × Int)) (c_parts_Reader_Next__0 : Str → Int → Bool → Int → Option (Str × Bool × Str × Int × Bool × Int)) (c_parts_Reader_Bad__0 : Str → Int → Bool → Int → Option (Int)) (l_2 : Str → Option (Bool)) (v0 : Int) : Option (Bool) :=
  match c_cascadelaw28_awake with
  | none => none
  | some r1_0 =>
    match r1_0 with
    | false =>
      some false
    | true =>
      match P.quo .rem .u8 v0 3 with
      | none => none
      | some n4 =>
        match c_parts_New__0 with
        | none => none
        | some (r6_0, r6_1, r6_2, r6_3) =>
          match P.scat [45, 45, 99, 117, 116, 13, 10, 67, 111, 110, 116, 101, 110, 116, 45, 84, 121, 112, 101, 58, 32, 97, 112, 112, 108, 105, 99, 97, 116, 105, 111, 110, 47, 106, 115, 111, 110, 13, 10, 67, 111, 110, 116, 101, 110, 116, 45, 76, 101, 110, 103, 116, 104, 58, 32] [49, 54, 55, 55, 55, 50, 49] with
          | none => none
          | some s8 =>
            match P.scat s8 (P.ofBytes [P.wrap .u8 (P.ar .sub .i64 (P.ar .add .i64 48 (P.ar .add .i64 (P.wrap .i64 n4) 16777215)) 16777210)]) with
            | none => none
            | some s10 =>
              match P.scat s10 [13, 10] with
              | none => none
              | some s12 =>
                match c_parts_Reader_Feed__0 s12 r6_0 r6_1 r6_2 r6_3 with
                | none => none
                | some (r14_w0_0, r14_w0_1, r14_w0_2, r14_w0_3) =>
                  match c_parts_Reader_Next__0 r14_w0_0 r14_w0_1 r14_w0_2 r14_w0_3 with
                  | none => none
                  | some (r16_0, r16_1, r16_w0_0, r16_w0_1, r16_w0_2, r16_w0_3) =>
                    match r16_1 with
                    | false =>
                      match c_parts_Reader_Bad__0 r16_w0_0 r16_w0_1 r16_w0_2 r16_w0_3 with
                      | none => none
                      | some r19_0 =>
                        match P.cmp .geq r19_0 0 with
                        | false =>
                          match P.cmp .gtr (P.ar .add .i64 (P.wrap .i64 n4) 16777215) 16777216 with
                          | false =>
                            l_2 [45, 45, 99, 117, 116, 13, 10, 67, 111, 110, 116, 101, 110, 116, 45, 84, 121, 112, 101, 58, 32, 97, 112, 112, 108, 105, 99, 97, 116, 105, 111, 110, 47, 106, 115, 111, 110, 13, 10, 67, 111, 110, 116, 101, 110, 116, 45, 76, 101, 110, 103, 116, 104, 58, 32]
                          | true =>
                            some false
                        | true =>
                          match P.cmp .gtr (P.ar .add .i64 (P.wrap .i64 n4) 16777215) 16777216 with
                          | false =>
                            some false
                          | true =>
                            match P.cmp .neq r19_0 (P.ar .add .i64 (P.slen [45, 45, 99, 117, 116, 13, 10, 67, 111, 110, 116, 101, 110, 116, 45, 84, 121, 112, 101, 58, 32, 97, 112, 112, 108, 105, 99, 97, 116, 105, 111, 110, 47, 106, 115, 111, 110, 13, 10, 67, 111, 110, 116, 101, 110, 116, 45, 76, 101, 110, 103, 116, 104, 58, 32]) 7) with
                            | false =>
                              l_2 [45, 45, 99, 117, 116, 13, 10, 67, 111, 110, 116, 101, 110, 116, 45, 84, 121, 112, 101, 58, 32, 97, 112, 112, 108, 105, 99, 97, 116, 105, 111, 110, 47, 106, 115, 111, 110, 13, 10, 67, 111, 110, 116, 101, 110, 116, 45, 76, 101, 110, 103, 116, 104, 58, 32]
                            | true =>
                              some false
                    | true =>
                      some false
theorem o_cascadelaw28_PartsLong_0 (c_cascadelaw28_awake : Option (Bool)) (c_parts_New__0 : Option (Str × Int × Bool × Int)) (c_parts_Reader_Feed__0 : Str → Str → Int → Bool → Int → Option (Str × Int × Bool × Int)) (c_parts_Reader_Next__0 : Str → Int → Bool → Int → Option (Str × Bool × Str × Int × Bool × Int)) (c_parts_Reader_Bad__0 : Str → Int → Bool → Int → Option (Int)) (h_cascadelaw28_awake : ∀ {r0 : Bool}, c_cascadelaw28_awake  = some r0 → ∀ (stk : Stk) , xpcall 12 [] stk = some (.d (.bool r0)) ∧ xfcall 12 [] stk = some (.d (.bool r0), stk)) (h_parts_New__0 : ∀ {qo2_0 : Str} {qo2_1 : Int} {qo2_2 : Bool} {qo2_3 : Int}, c_parts_New__0  = some (qo2_0, qo2_1, qo2_2, qo2_3) → ∀ (stk : Stk) , ∀ m, m = topN stk + 1 → xkcall 13 [[2]] [] stk = some ((.ref ⟨m, [2]⟩ 0), ⟨m, [([2], (.cells [(.d (.str qo2_0)), (.d (.int .i64 qo2_1)), (.d (.bool qo2_2)), (.d (.int .i64 qo2_3))]))]⟩, stk)) (h_parts_Reader_Feed__0 : ∀ {v1 : Str} {L0_0 : Str} {L0_1 : Int} {L0_2 : Bool} {L0_3 : Int} {r_w0_0 : Str} {r_w0_1 : Int} {r_w0_2 : Bool} {r_w0_3 : Int}, c_parts_Reader_Feed__0 v1 L0_0 L0_1 L0_2 L0_3 = some (r_w0_0, r_w0_1, r_w0_2, r_w0_3) → ∀ (stk : Stk) (n0 : Nat) (k0 : List Nat), getO stk ⟨n0, k0⟩ = some (.cells [(.d (.str L0_0)), (.d (.int .i64 L0_1)), (.d (.bool L0_2)), (.d (.int .i64 L0_3))]) → n0 ≤ topN stk → xfcall 14 [(.ref ⟨n0, k0⟩ 0), (.d (.str v1))] stk = some (.d (.tup []), (xsetO stk ⟨n0, k0⟩ (.cells [(.d (.str r_w0_0)), (.d (.int .i64 r_w0_1)), (.d (.bool r_w0_2)), (.d (.int .i64 r_w0_3))])))) (h_parts_Reader_Next__0 : ∀ {L0_0 : Str} {L0_1 : Int} {L0_2 : Bool} {L0_3 : Int} {r0 : Str} {r1 : Bool} {r_w0_0 : Str} {r_w0_1 : Int} {r_w0_2 : Bool} {r_w0_3 : Int}, c_parts_Reader_Next__0 L0_0 L0_1 L0_2 L0_3 = some (r0, r1, r_w0_0, r_w0_1, r_w0_2, r_w0_3) → ∀ (stk : Stk) (n0 : Nat) (k0 : List Nat), getO stk ⟨n0, k0⟩ = some (.cells [(.d (.str L0_0)), (.d (.int .i64 L0_1)), (.d (.bool L0_2)), (.d (.int .i64 L0_3))]) → n0 ≤ topN stk → xfcall 15 [(.ref ⟨n0, k0⟩ 0)] stk = some (.d (.tup [(.str r0), (.bool r1)]), (xsetO stk ⟨n0, k0⟩ (.cells [(.d (.str r_w0_0)), (.d (.int .i64 r_w0_1)), (.d (.bool r_w0_2)), (.d (.int .i64 r_w0_3))])))) (h_parts_Reader_Bad__0 : ∀ {L0_0 : Str} {L0_1 : Int} {L0_2 : Bool} {L0_3 : Int} {r0 : Int}, c_parts_Reader_Bad__0 L0_0 L0_1 L0_2 L0_3 = some r0 → ∀ (stk : Stk) (n0 : Nat) (k0 : List Nat), getO stk ⟨n0, k0⟩ = some (.cells [(.d (.str L0_0)), (.d (.int .i64 L0_1)), (.d (.bool L0_2)), (.d (.int .i64 L0_3))]) → n0 ≤ topN stk → xpcall 16 [(.ref ⟨n0, k0⟩ 0)] stk = some (.d (.int .i64 r0)) ∧ xfcall 16 [(.ref ⟨n0, k0⟩ 0)] stk = some (.d (.int .i64 r0), stk)) (stk : Stk) (m : Nat)    (l_2 : Str → Option (Bool)) (v0 : Int)  (h_l_2 : ∀ {v4 : Str} {out}, l_2 v4 = some out → ∀ (stk : Stk), xat 5 .frz 2 [] ⟨[(4, (.d (.str v4)))], ⟨m, []⟩ :: stk⟩ = (fun r0 => (some (.ret (.d (.bool r0)), stk) : Rk')) out) {out} (hp : b_cascadelaw28_PartsLong_0 ⟨xar, xcmp, xwrap, xseq, xslt, xenc, pquo, pshf, pslen, psidx, pssub, pscat, psit, pslist, pofBytes, @plen, @pidx, @psub, @papp, @pset, @pmake, @ploop⟩ c_cascadelaw28_awake c_parts_New__0 c_parts_Reader_Feed__0 c_parts_Reader_Next__0 c_parts_Reader_Bad__0 l_2 v0 = some out) : xat 5 .frz 0 [] ⟨[(0, (.d (.int .u8 v0)))], ⟨m, []⟩ :: stk⟩ = (fun r0 => (some (.ret (.d (.bool r0)), stk) : Rk')) out := by
  simp only [b_cascadelaw28_PartsLong_0] at hp
  rw [h.at_, hT]
  cbv
  cases c2 : c_cascadelaw28_awake with
  | none => simp only [c2] at hp; cases hp
  | some r1_0 =>
    simp only [c2] at hp
    have qc := (h_cascadelaw28_awake c2 (⟨m, []⟩ :: stk) ).1
    simp only [qc]
    cbv
    cases r1_0 with
    | false =>
      simp only at hp
      cbv
      cases hp
      all_goals first | rfl | (cbv; done) | (simp only [h.nadd0, h.nle_refl, h.cut_all, h.cut_nil, h.map_cons, h.map_nil, h.len_nil, he_e_uint8, he_e_string, if_true]; done) | (simp only [h.nadd0, h.nle_refl, h.cut_all, h.cut_nil, h.map_cons, h.map_nil, h.len_nil, he_e_uint8, he_e_string, if_true]; first | rfl | (cbv; done) | (cbv; simp only [h.map_cons, h.map_nil, h.len_nil, he_e_uint8, he_e_string]; done))
    | true =>
      simp only at hp
      cbv
      rw [h.at_, hT]
      cbv
      cases c5 : pquo .rem .u8 v0 3 with
      | none => simp only [c5] at hp; cases hp
      | some n4 =>
        simp only [c5] at hp
        obtain ⟨q1, q2⟩ := h.quo c5
        simp only [q1, q2, Bool.false_eq_true, if_false]
        cbv
        cases c7 : c_parts_New__0 with
        | none => simp only [c7] at hp; cases hp
        | some y27 =>
          obtain ⟨r6_0, r6_1, r6_2, r6_3⟩ := y27
          simp only [c7] at hp
          have qc := h_parts_New__0 c7 (⟨m, []⟩ :: stk)  (m + 1) rfl
          simp only [qc]
          cbv
          cases c9 : pscat [45, 45, 99, 117, 116, 13, 10, 67, 111, 110, 116, 101, 110, 116, 45, 84, 121, 112, 101, 58, 32, 97, 112, 112, 108, 105, 99, 97, 116, 105, 111, 110, 47, 106, 115, 111, 110, 13, 10, 67, 111, 110, 116, 101, 110, 116, 45, 76, 101, 110, 103, 116, 104, 58, 32] [49, 54, 55, 55, 55, 50, 49] with
          | none => simp only [c9] at hp; cases hp
          | some s8 =>
            simp only [c9] at hp
            obtain ⟨q1, q2⟩ := h.scat c9
            simp only [q1, q2, if_true]
            cbv
            simp only [h.allsz_nil, h.allsz_cons]
            cbv
            have qb := h.ofBytes e_uint8 he_e_uint8 [xwrap .u8 (xar .sub .i64 (xar .add .i64 48 (xar .add .i64 (xwrap .i64 n4) 16777215)) 16777210)]
            try simp only [h.map_cons, h.map_nil, he_e_uint8] at qb
            simp only [qb]
            cbv
            cases c11 : pscat s8 (pofBytes [xwrap .u8 (xar .sub .i64 (xar .add .i64 48 (xar .add .i64 (xwrap .i64 n4) 16777215)) 16777210)]) with
            | none => simp only [c11] at hp; cases hp
            | some s10 =>
              simp only [c11] at hp
              obtain ⟨q1, q2⟩ := h.scat c11
              simp only [q1, q2, if_true]
              cbv
              cases c13 : pscat s10 [13, 10] with
              | none => simp only [c13] at hp; cases hp
              | some s12 =>
                simp only [c13] at hp
                obtain ⟨q1, q2⟩ := h.scat c13
                simp only [q1, q2, if_true]
                cbv
                cases c15 : c_parts_Reader_Feed__0 s12 r6_0 r6_1 r6_2 r6_3 with
                | none => simp only [c15] at hp; cases hp
                | some y26 =>
                  obtain ⟨r14_w0_0, r14_w0_1, r14_w0_2, r14_w0_3⟩ := y26
                  simp only [c15] at hp
                  have qc := h_parts_Reader_Feed__0 c15 (⟨m, [([17, 2], (.cells [(.d (.str r6_0)), (.d (.int .i64 r6_1)), (.d (.bool r6_2)), (.d (.int .i64 r6_3))]))]⟩ :: stk) m [17, 2] (h.gt _ _ _ _) (Nat.le_refl _)
                  simp only [qc]
                  simp only [h.st_]
                  cbv
                  cases c17 : c_parts_Reader_Next__0 r14_w0_0 r14_w0_1 r14_w0_2 r14_w0_3 with
                  | none => simp only [c17] at hp; cases hp
                  | some y25 =>
                    obtain ⟨r16_0, r16_1, r16_w0_0, r16_w0_1, r16_w0_2, r16_w0_3⟩ := y25
                    simp only [c17] at hp
                    have qc := h_parts_Reader_Next__0 c17 (⟨m, [([17, 2], (.cells [(.d (.str r14_w0_0)), (.d (.int .i64 r14_w0_1)), (.d (.bool r14_w0_2)), (.d (.int .i64 r14_w0_3))]))]⟩ :: stk) m [17, 2] (h.gt _ _ _ _) (Nat.le_refl _)
                    simp only [qc]
                    simp only [h.st_]
                    cbv
                    cases r16_1 with
                    | false =>
                      simp only at hp
                      cbv
                      cases c20 : c_parts_Reader_Bad__0 r16_w0_0 r16_w0_1 r16_w0_2 r16_w0_3 with
                      | none => simp only [c20] at hp; cases hp
                      | some r19_0 =>
                        simp only [c20] at hp
                        have qc := (h_parts_Reader_Bad__0 c20 (⟨m, [([17, 2], (.cells [(.d (.str r16_w0_0)), (.d (.int .i64 r16_w0_1)), (.d (.bool r16_w0_2)), (.d (.int .i64 r16_w0_3))]))]⟩ :: stk) m [17, 2] (h.gt _ _ _ _) (Nat.le_refl _)).1
                        simp only [qc]
                        cbv
                        cases c21 : xcmp .geq r19_0 0 with
                        | false =>
                          simp only [c21] at hp ⊢
                          cbv
                          cases c24 : xcmp .gtr (xar .add .i64 (xwrap .i64 n4) 16777215) 16777216 with
                          | false =>
                            simp only [c24] at hp ⊢
                            cbv
                            simp only [c24]
                            cbv
                            first | exact h_l_2 hp _ | (have q := h_l_2 hp _; simp only [h.map_cons, h.map_nil, h.len_nil, he_e_uint8, he_e_string] at q; first | exact q | (cbv; exact q))
                          | true =>
                            simp only [c24] at hp ⊢
                            cbv
                            cases hp
                            all_goals first | rfl | (cbv; done) | (simp only [h.nadd0, h.nle_refl, h.cut_all, h.cut_nil, h.map_cons, h.map_nil, h.len_nil, he_e_uint8, he_e_string, if_true]; done) | (simp only [h.nadd0, h.nle_refl, h.cut_all, h.cut_nil, h.map_cons, h.map_nil, h.len_nil, he_e_uint8, he_e_string, if_true]; first | rfl | (cbv; done) | (cbv; simp only [h.map_cons, h.map_nil, h.len_nil, he_e_uint8, he_e_string]; done))
                        | true =>
                          simp only [c21] at hp ⊢
                          cbv
                          cases c22 : xcmp .gtr (xar .add .i64 (xwrap .i64 n4) 16777215) 16777216 with
                          | false =>
                            simp only [c22] at hp ⊢
                            cbv
                            cases hp
                            all_goals first | rfl | (cbv; done) | (simp only [h.nadd0, h.nle_refl, h.cut_all, h.cut_nil, h.map_cons, h.map_nil, h.len_nil, he_e_uint8, he_e_string, if_true]; done) | (simp only [h.nadd0, h.nle_refl, h.cut_all, h.cut_nil, h.map_cons, h.map_nil, h.len_nil, he_e_uint8, he_e_string, if_true]; first | rfl | (cbv; done) | (cbv; simp only [h.map_cons, h.map_nil, h.len_nil, he_e_uint8, he_e_string]; done))
                          | true =>
                            simp only [c22] at hp ⊢
                            cbv
                            simp only [c22]
                            cbv
                            have qc := (h_parts_Reader_Bad__0 c20 (⟨m, [([17, 2], (.cells [(.d (.str r16_w0_0)), (.d (.int .i64 r16_w0_1)), (.d (.bool r16_w0_2)), (.d (.int .i64 r16_w0_3))]))]⟩ :: stk) m [17, 2] (h.gt _ _ _ _) (Nat.le_refl _)).1
                            simp only [qc]
                            cbv
                            try simp only [h.slen]
                            cases c23 : xcmp .neq r19_0 (xar .add .i64 (pslen [45, 45, 99, 117, 116, 13, 10, 67, 111, 110, 116, 101, 110, 116, 45, 84, 121, 112, 101, 58, 32, 97, 112, 112, 108, 105, 99, 97, 116, 105, 111, 110, 47, 106, 115, 111, 110, 13, 10, 67, 111, 110, 116, 101, 110, 116, 45, 76, 101, 110, 103, 116, 104, 58, 32]) 7) with
                            | false =>
                              simp only [c23] at hp ⊢
                              cbv
                              first | exact h_l_2 hp _ | (have q := h_l_2 hp _; simp only [h.map_cons, h.map_nil, h.len_nil, he_e_uint8, he_e_string] at q; first | exact q | (cbv; exact q))
                            | true =>
                              simp only [c23] at hp ⊢
                              cbv
                              cases hp
                              all_goals first | rfl | (cbv; done) | (simp only [h.nadd0, h.nle_refl, h.cut_all, h.cut_nil, h.map_cons, h.map_nil, h.len_nil, he_e_uint8, he_e_string, if_true]; done) | (simp only [h.nadd0, h.nle_refl, h.cut_all, h.cut_nil, h.map_cons, h.map_nil, h.len_nil, he_e_uint8, he_e_string, if_true]; first | rfl | (cbv; done) | (cbv; simp only [h.map_cons, h.map_nil, h.len_nil, he_e_uint8, he_e_string]; done))
                    | true =>
                      simp only at hp
                      cbv
                      cases hp
                      all_goals first | rfl | (cbv; done) | (simp only [h.nadd0, h.nle_refl, h.cut_all, h.cut_nil, h.map_cons, h.map_nil, h.len_nil, he_e_uint8, he_e_string, if_true]; done) | (simp only [h.nadd0, h.nle_refl, h.cut_all, h.cut_nil, h.map_cons, h.map_nil, h.len_nil, he_e_uint8, he_e_string, if_true]; first | rfl | (cbv; done) | (cbv; simp only [h.map_cons, h.map_nil, h.len_nil, he_e_uint8, he_e_string]; done))
def b_cascadelaw28_PartsLong_2 (P : Prims) (c_cascadelaw28_awake : Option (Bool)) (c_parts_New__0 : Option (Str × Int × Bool × Int)) (c_parts_Reader_Feed__0 : Str → Str → Int → Bool → Int → Option (Str × Int × Bool × Int)) (c_parts_Reader_Next__0 : Str → Int → Bool → Int → Option (Str × Bool × Str × Int × Bool × Int)) (c_parts_Reader_Bad__0 : Str → Int → Bool → Int → Option (Int))  (v4 : Str) : Option (Bool) :=
  match c_parts_New__0 with
  | none => none
  | some (r28_0, r28_1, r28_2, r28_3) =>
    match P.scat v4 [48, 48] with
    | none => none
    | some s30 =>
      match c_parts_Reader_Feed__0 s30 r28_0 r28_1 r28_2 r28_3 with
      | none => none
      | some (r32_w0_0, r32_w0_1, r32_w0_2, r32_w0_3) =>
        match c_parts_Reader_Next__0 r32_w0_0 r32_w0_1 r32_w0_2 r32_w0_3 with
        | none => none
        | some (r34_0, r34_1, r34_w0_0, r34_w0_1, r34_w0_2, r34_w0_3) =>
          match r34_1 with
          | false =>
            match c_parts_Reader_Bad__0 r34_w0_0 r34_w0_1 r34_w0_2 r34_w0_3 with
            | none => none
            | some r37_0 =>
              some (P.cmp .eql r37_0 (P.ar .add .i64 (P.slen v4) 1))
          | true =>
            some false
theorem o_cascadelaw28_PartsLong_2 (c_cascadelaw28_awake : Option (Bool)) (c_parts_New__0 : Option (Str × Int × Bool × Int)) (c_parts_Reader_Feed__0 : Str → Str → Int → Bool → Int → Option (Str × Int × Bool × Int)) (c_parts_Reader_Next__0 : Str → Int → Bool → Int → Option (Str × Bool × Str × Int × Bool × Int)) (c_parts_Reader_Bad__0 : Str → Int → Bool → Int → Option (Int)) (h_cascadelaw28_awake : ∀ {r0 : Bool}, c_cascadelaw28_awake  = some r0 → ∀ (stk : Stk) , xpcall 12 [] stk = some (.d (.bool r0)) ∧ xfcall 12 [] stk = some (.d (.bool r0), stk)) (h_parts_New__0 : ∀ {qo2_0 : Str} {qo2_1 : Int} {qo2_2 : Bool} {qo2_3 : Int}, c_parts_New__0  = some (qo2_0, qo2_1, qo2_2, qo2_3) → ∀ (stk : Stk) , ∀ m, m = topN stk + 1 → xkcall 13 [[2]] [] stk = some ((.ref ⟨m, [2]⟩ 0), ⟨m, [([2], (.cells [(.d (.str qo2_0)), (.d (.int .i64 qo2_1)), (.d (.bool qo2_2)), (.d (.int .i64 qo2_3))]))]⟩, stk)) (h_parts_Reader_Feed__0 : ∀ {v1 : Str} {L0_0 : Str} {L0_1 : Int} {L0_2 : Bool} {L0_3 : Int} {r_w0_0 : Str} {r_w0_1 : Int} {r_w0_2 : Bool} {r_w0_3 : Int}, c_parts_Reader_Feed__0 v1 L0_0 L0_1 L0_2 L0_3 = some (r_w0_0, r_w0_1, r_w0_2, r_w0_3) → ∀ (stk : Stk) (n0 : Nat) (k0 : List Nat), getO stk ⟨n0, k0⟩ = some (.cells [(.d (.str L0_0)), (.d (.int .i64 L0_1)), (.d (.bool L0_2)), (.d (.int .i64 L0_3))]) → n0 ≤ topN stk → xfcall 14 [(.ref ⟨n0, k0⟩ 0), (.d (.str v1))] stk = some (.d (.tup []), (xsetO stk ⟨n0, k0⟩ (.cells [(.d (.str r_w0_0)), (.d (.int .i64 r_w0_1)), (.d (.bool r_w0_2)), (.d (.int .i64 r_w0_3))])))) (h_parts_Reader_Next__0 : ∀ {L0_0 : Str} {L0_1 : Int} {L0_2 : Bool} {L0_3 : Int} {r0 : Str} {r1 : Bool} {r_w0_0 : Str} {r_w0_1 : Int} {r_w0_2 : Bool} {r_w0_3 : Int}, c_parts_Reader_Next__0 L0_0 L0_1 L0_2 L0_3 = some (r0, r1, r_w0_0, r_w0_1, r_w0_2, r_w0_3) → ∀ (stk : Stk) (n0 : Nat) (k0 : List Nat), getO stk ⟨n0, k0⟩ = some (.cells [(.d (.str L0_0)), (.d (.int .i64 L0_1)), (.d (.bool L0_2)), (.d (.int .i64 L0_3))]) → n0 ≤ topN stk → xfcall 15 [(.ref ⟨n0, k0⟩ 0)] stk = some (.d (.tup [(.str r0), (.bool r1)]), (xsetO stk ⟨n0, k0⟩ (.cells [(.d (.str r_w0_0)), (.d (.int .i64 r_w0_1)), (.d (.bool r_w0_2)), (.d (.int .i64 r_w0_3))])))) (h_parts_Reader_Bad__0 : ∀ {L0_0 : Str} {L0_1 : Int} {L0_2 : Bool} {L0_3 : Int} {r0 : Int}, c_parts_Reader_Bad__0 L0_0 L0_1 L0_2 L0_3 = some r0 → ∀ (stk : Stk) (n0 : Nat) (k0 : List Nat), getO stk ⟨n0, k0⟩ = some (.cells [(.d (.str L0_0)), (.d (.int .i64 L0_1)), (.d (.bool L0_2)), (.d (.int .i64 L0_3))]) → n0 ≤ topN stk → xpcall 16 [(.ref ⟨n0, k0⟩ 0)] stk = some (.d (.int .i64 r0)) ∧ xfcall 16 [(.ref ⟨n0, k0⟩ 0)] stk = some (.d (.int .i64 r0), stk)) (stk : Stk) (m : Nat)     (v4 : Str)   {out} (hp : b_cascadelaw28_PartsLong_2 ⟨xar, xcmp, xwrap, xseq, xslt, xenc, pquo, pshf, pslen, psidx, pssub, pscat, psit, pslist, pofBytes, @plen, @pidx, @psub, @papp, @pset, @pmake, @ploop⟩ c_cascadelaw28_awake c_parts_New__0 c_parts_Reader_Feed__0 c_parts_Reader_Next__0 c_parts_Reader_Bad__0  v4 = some out) : xat 5 .frz 2 [] ⟨[(4, (.d (.str v4)))], ⟨m, []⟩ :: stk⟩ = (fun r0 => (some (.ret (.d (.bool r0)), stk) : Rk')) out := by
  simp only [b_cascadelaw28_PartsLong_2] at hp
  rw [h.at_, hT]
  cbv
  cases c29 : c_parts_New__0 with
  | none => simp only [c29] at hp; cases hp
  | some y41 =>
    obtain ⟨r28_0, r28_1, r28_2, r28_3⟩ := y41
    simp only [c29] at hp
    have qc := h_parts_New__0 c29 (⟨m, []⟩ :: stk)  (m + 1) rfl
    simp only [qc]
    cbv
    cases c31 : pscat v4 [48, 48] with
    | none => simp only [c31] at hp; cases hp
    | some s30 =>
      simp only [c31] at hp
      obtain ⟨q1, q2⟩ := h.scat c31
      simp only [q1, q2, if_true]
      cbv
      cases c33 : c_parts_Reader_Feed__0 s30 r28_0 r28_1 r28_2 r28_3 with
      | none => simp only [c33] at hp; cases hp
      | some y40 =>
        obtain ⟨r32_w0_0, r32_w0_1, r32_w0_2, r32_w0_3⟩ := y40
        simp only [c33] at hp
        have qc := h_parts_Reader_Feed__0 c33 (⟨m, [([56, 2], (.cells [(.d (.str r28_0)), (.d (.int .i64 r28_1)), (.d (.bool r28_2)), (.d (.int .i64 r28_3))]))]⟩ :: stk) m [56, 2] (h.gt _ _ _ _) (Nat.le_refl _)
        simp only [qc]
        simp only [h.st_]
        cbv
        cases c35 : c_parts_Reader_Next__0 r32_w0_0 r32_w0_1 r32_w0_2 r32_w0_3 with
        | none => simp only [c35] at hp; cases hp
        | some y39 =>
          obtain ⟨r34_0, r34_1, r34_w0_0, r34_w0_1, r34_w0_2, r34_w0_3⟩ := y39
          simp only [c35] at hp
          have qc := h_parts_Reader_Next__0 c35 (⟨m, [([56, 2], (.cells [(.d (.str r32_w0_0)), (.d (.int .i64 r32_w0_1)), (.d (.bool r32_w0_2)), (.d (.int .i64 r32_w0_3))]))]⟩ :: stk) m [56, 2] (h.gt _ _ _ _) (Nat.le_refl _)
          simp only [qc]
          simp only [h.st_]
          cbv
          cases r34_1 with
          | false =>
            simp only at hp
            cbv
            cases c38 : c_parts_Reader_Bad__0 r34_w0_0 r34_w0_1 r34_w0_2 r34_w0_3 with
            | none => simp only [c38] at hp; cases hp
            | some r37_0 =>
              simp only [c38] at hp
              have qc := (h_parts_Reader_Bad__0 c38 (⟨m, [([56, 2], (.cells [(.d (.str r34_w0_0)), (.d (.int .i64 r34_w0_1)), (.d (.bool r34_w0_2)), (.d (.int .i64 r34_w0_3))]))]⟩ :: stk) m [56, 2] (h.gt _ _ _ _) (Nat.le_refl _)).1
              simp only [qc]
              cbv
              try simp only [h.slen]
              cases hp
              all_goals first | rfl | (cbv; done) | (simp only [h.nadd0, h.nle_refl, h.cut_all, h.cut_nil, h.map_cons, h.map_nil, h.len_nil, he_e_uint8, he_e_string, if_true]; done) | (simp only [h.nadd0, h.nle_refl, h.cut_all, h.cut_nil, h.map_cons, h.map_nil, h.len_nil, he_e_uint8, he_e_string, if_true]; first | rfl | (cbv; done) | (cbv; simp only [h.map_cons, h.map_nil, h.len_nil, he_e_uint8, he_e_string]; done))
          | true =>
            simp only at hp
            cbv
            cases hp
            all_goals first | rfl | (cbv; done) | (simp only [h.nadd0, h.nle_refl, h.cut_all, h.cut_nil, h.map_cons, h.map_nil, h.len_nil, he_e_uint8, he_e_string, if_true]; done) | (simp only [h.nadd0, h.nle_refl, h.cut_all, h.cut_nil, h.map_cons, h.map_nil, h.len_nil, he_e_uint8, he_e_string, if_true]; first | rfl | (cbv; done) | (cbv; simp only [h.map_cons, h.map_nil, h.len_nil, he_e_uint8, he_e_string]; done))
def b_cascadelaw28_few_0 (P : Prims)  (l_1 : (List Str) → Int → Int → Int → Option (Bool)) (v0 : (List Str)) (v1 : Int) (v2 : Int) : Option (Bool) :=
  l_1 v0 v1 v2 0
theorem o_cascadelaw28_few_0   (stk : Stk) (m : Nat)    (l_1 : (List Str) → Int → Int → Int → Option (Bool)) (v0 : (List Str)) (v1 : Int) (v2 : Int)  (h_l_1 : ∀ {v0 : (List Str)} {v1 : Int} {v2 : Int} {v7 : Int} {out}, l_1 v0 v1 v2 v7 = some out → ∀ (stk : Stk), xat 17 .frz 1 [.lp ⟨1, [0, 1, 2, 7], []⟩, .blk 0, .sub ⟨4, [0, 1], []⟩] ⟨[(0, (.d (.sl (xmap e_string v0)))), (1, (.d (.int .i64 v1))), (2, (.d (.int .i64 v2))), (7, (.d (.int .i64 v7)))], ⟨m, []⟩ :: stk⟩ = (fun r0 => (some (.ret (.d (.bool r0)), stk) : Rk')) out) {out} (hp : b_cascadelaw28_few_0 ⟨xar, xcmp, xwrap, xseq, xslt, xenc, pquo, pshf, pslen, psidx, pssub, pscat, psit, pslist, pofBytes, @plen, @pidx, @psub, @papp, @pset, @pmake, @ploop⟩  l_1 v0 v1 v2 = some out) : xat 17 .frz 0 [] ⟨[(0, (.d (.sl (xmap e_string v0)))), (1, (.d (.int .i64 v1))), (2, (.d (.int .i64 v2)))], ⟨m, []⟩ :: stk⟩ = (fun r0 => (some (.ret (.d (.bool r0)), stk) : Rk')) out := by
  simp only [b_cascadelaw28_few_0] at hp
  rw [h.at_, hT]
  cbv
  first | exact h_l_1 hp _ | (have q := h_l_1 hp _; simp only [h.map_cons, h.map_nil, h.len_nil, he_e_uint8, he_e_string] at q; first | exact q | (cbv; exact q))
def b_cascadelaw28_few_1 (P : Prims)  (l_4 : (List Str) → Int → Option (Bool)) (v0 : (List Str)) (v1 : Int) (v2 : Int) (v7 : Int) : Option (((List Str) × Int × Int × Int) ⊕ (Bool)) :=
  match P.cmp .lss v7 (P.len v0) with
  | false =>
    match l_4 v0 v1 with | none => none | some o7 => some (.inr o7)
  | true =>
    match P.cmp .lss v7 100 with
    | false =>
      match l_4 v0 v1 with | none => none | some o6 => some (.inr o6)
    | true =>
      match P.idx v0 v7 with
      | none => none
      | some a3 =>
        match P.cmp .gtr (P.slen a3) v2 with
        | false =>
          some (.inl (v0, v1, v2, P.ar .add .i64 v7 1))
        | true =>
          some (.inr false)
theorem o_cascadelaw28_few_1   (stk : Stk) (m : Nat)    (l_4 : (List Str) → Int → Option (Bool)) (v0 : (List Str)) (v1 : Int) (v2 : Int) (v7 : Int)  (h_l_4 : ∀ {v0 : (List Str)} {v1 : Int} {out}, l_4 v0 v1 = some out → ∀ (stk : Stk), xat 17 .frz 4 [] ⟨[(0, (.d (.sl (xmap e_string v0)))), (1, (.d (.int .i64 v1)))], ⟨m, []⟩ :: stk⟩ = (fun r0 => (some (.ret (.d (.bool r0)), stk) : Rk')) out) {out} (hp : b_cascadelaw28_few_1 ⟨xar, xcmp, xwrap, xseq, xslt, xenc, pquo, pshf, pslen, psidx, pssub, pscat, psit, pslist, pofBytes, @plen, @pidx, @psub, @papp, @pset, @pmake, @ploop⟩  l_4 v0 v1 v2 v7 = some out) : xat 17 .frz 1 [.lp ⟨1, [0, 1, 2, 7], []⟩, .blk 0, .sub ⟨4, [0, 1], []⟩] ⟨[(0, (.d (.sl (xmap e_string v0)))), (1, (.d (.int .i64 v1))), (2, (.d (.int .i64 v2))), (7, (.d (.int .i64 v7)))], ⟨m, []⟩ :: stk⟩ = (Sum.elim (fun (v0, v1, v2, v7) => xat 17 .frz 1 [.lp ⟨1, [0, 1, 2, 7], []⟩, .blk 0, .sub ⟨4, [0, 1], []⟩] ⟨[(0, (.d (.sl (xmap e_string v0)))), (1, (.d (.int .i64 v1))), (2, (.d (.int .i64 v2))), (7, (.d (.int .i64 v7)))], ⟨m, []⟩ :: stk⟩) (fun r0 => (some (.ret (.d (.bool r0)), stk) : Rk'))) out := by
  simp only [b_cascadelaw28_few_1] at hp
  rw [h.at_, hT]
  cbv
  try simp only [h.len]
  cases c1 : xcmp .lss v7 (plen v0) with
  | false =>
    simp only [c1] at hp ⊢
    cbv
    cases c : l_4 v0 v1 with
    | none => simp only [c] at hp; cases hp
    | some o7 =>
      simp only [c] at hp
      cases hp
      first | exact h_l_4 c _ | (have q := h_l_4 c _; simp only [h.map_cons, h.map_nil, h.len_nil, he_e_uint8, he_e_string] at q; first | exact q | (cbv; exact q))
  | true =>
    simp only [c1] at hp ⊢
    cbv
    cases c2 : xcmp .lss v7 100 with
    | false =>
      simp only [c2] at hp ⊢
      cbv
      cases c : l_4 v0 v1 with
      | none => simp only [c] at hp; cases hp
      | some o6 =>
        simp only [c] at hp
        cases hp
        first | exact h_l_4 c _ | (have q := h_l_4 c _; simp only [h.map_cons, h.map_nil, h.len_nil, he_e_uint8, he_e_string] at q; first | exact q | (cbv; exact q))
    | true =>
      simp only [c2] at hp ⊢
      cbv
      rw [h.at_, hT]
      cbv
      cases c4 : pidx v0 v7 with
      | none => simp only [c4] at hp; cases hp
      | some a3 =>
        simp only [c4] at hp
        obtain ⟨q1, q2⟩ := h.idx e_string c4
        simp only [he_e_string] at q2
        simp only [q1, Bool.false_eq_true, if_false]
        cbv
        try simp only [q2]
        cbv
        try simp only [h.slen]
        cases c5 : xcmp .gtr (pslen a3) v2 with
        | false =>
          simp only [c5] at hp ⊢
          cbv
          rw [h.at_, hT]
          cbv
          cases hp
          all_goals first | rfl | (cbv; done) | (simp only [h.nadd0, h.nle_refl, h.cut_all, h.cut_nil, h.map_cons, h.map_nil, h.len_nil, he_e_uint8, he_e_string, if_true]; done) | (simp only [h.nadd0, h.nle_refl, h.cut_all, h.cut_nil, h.map_cons, h.map_nil, h.len_nil, he_e_uint8, he_e_string, if_true]; first | rfl | (cbv; done) | (cbv; simp only [h.map_cons, h.map_nil, h.len_nil, he_e_uint8, he_e_string]; done))
        | true =>
          simp only [c5] at hp ⊢
          cbv
          cases hp
          all_goals first | rfl | (cbv; done) | (simp only [h.nadd0, h.nle_refl, h.cut_all, h.cut_nil, h.map_cons, h.map_nil, h.len_nil, he_e_uint8, he_e_string, if_true]; done) | (simp only [h.nadd0, h.nle_refl, h.cut_all, h.cut_nil, h.map_cons, h.map_nil, h.len_nil, he_e_uint8, he_e_string, if_true]; first | rfl | (cbv; done) | (cbv; simp only [h.map_cons, h.map_nil, h.len_nil, he_e_uint8, he_e_string]; done))
def b_cascadelaw28_few_4 (P : Prims)   (v0 : (List Str)) (v1 : Int) : Option (Bool) :=
  some (P.cmp .leq (P.len v0) v1)
theorem o_cascadelaw28_few_4   (stk : Stk) (m : Nat)     (v0 : (List Str)) (v1 : Int)   {out} (hp : b_cascadelaw28_few_4 ⟨xar, xcmp, xwrap, xseq, xslt, xenc, pquo, pshf, pslen, psidx, pssub, pscat, psit, pslist, pofBytes, @plen, @pidx, @psub, @papp, @pset, @pmake, @ploop⟩   v0 v1 = some out) : xat 17 .frz 4 [] ⟨[(0, (.d (.sl (xmap e_string v0)))), (1, (.d (.int .i64 v1)))], ⟨m, []⟩ :: stk⟩ = (fun r0 => (some (.ret (.d (.bool r0)), stk) : Rk')) out := by
  simp only [b_cascadelaw28_few_4] at hp
  rw [h.at_, hT]
  cbv
  try simp only [h.len]
  cases hp
  all_goals first | rfl | (cbv; done) | (simp only [h.nadd0, h.nle_refl, h.cut_all, h.cut_nil, h.map_cons, h.map_nil, h.len_nil, he_e_uint8, he_e_string, if_true]; done) | (simp only [h.nadd0, h.nle_refl, h.cut_all, h.cut_nil, h.map_cons, h.map_nil, h.len_nil, he_e_uint8, he_e_string, if_true]; first | rfl | (cbv; done) | (cbv; simp only [h.map_cons, h.map_nil, h.len_nil, he_e_uint8, he_e_string]; done))
def b_cascaderef05_Number_0 (P : Prims)  (l_2 : Int → Str → Str → Option (Str)) (v0 : Int) : Option (Str) :=
  match P.cmp .eql v0 0 with
  | false =>
    match P.cmp .lss v0 0 with
    | false =>
      l_2 v0 [] []
    | true =>
      l_2 v0 [] [45]
  | true =>
    some [48]
theorem o_cascaderef05_Number_0   (stk : Stk) (m : Nat)    (l_2 : Int → Str → Str → Option (Str)) (v0 : Int)  (h_l_2 : ∀ {v0 : Int} {v3 : Str} {v4 : Str} {out}, l_2 v0 v3 v4 = some out → ∀ (stk : Stk), xat 31 .frz 2 [] ⟨[(0, (.d (.int .i64 v0))), (3, (.d (.str v3))), (4, (.d (.str v4)))], ⟨m, []⟩ :: stk⟩ = (fun r0 => (some (.ret (.d (.str r0)), stk) : Rk')) out) {out} (hp : b_cascaderef05_Number_0 ⟨xar, xcmp, xwrap, xseq, xslt, xenc, pquo, pshf, pslen, psidx, pssub, pscat, psit, pslist, pofBytes, @plen, @pidx, @psub, @papp, @pset, @pmake, @ploop⟩  l_2 v0 = some out) : xat 31 .frz 0 [] ⟨[(0, (.d (.int .i64 v0)))], ⟨m, []⟩ :: stk⟩ = (fun r0 => (some (.ret (.d (.str r0)), stk) : Rk')) out := by
  simp only [b_cascaderef05_Number_0] at hp
  rw [h.at_, hT]
  cbv
  cases c1 : xcmp .eql v0 0 with
  | false =>
    simp only [c1] at hp ⊢
    cbv
    rw [h.at_, hT]
    cbv
    cases c2 : xcmp .lss v0 0 with
    | false =>
      simp only [c2] at hp ⊢
      cbv
      first | exact h_l_2 hp _ | (have q := h_l_2 hp _; simp only [h.map_cons, h.map_nil, h.len_nil, he_e_uint8, he_e_string] at q; first | exact q | (cbv; exact q))
    | true =>
      simp only [c2] at hp ⊢
      cbv
      first | exact h_l_2 hp _ | (have q := h_l_2 hp _; simp only [h.map_cons, h.map_nil, h.len_nil, he_e_uint8, he_e_string] at q; first | exact q | (cbv; exact q))
  | true =>
    simp only [c1] at hp ⊢
    cbv
    cases hp
    all_goals first | rfl | (cbv; done) | (simp only [h.nadd0, h.nle_refl, h.cut_all, h.cut_nil, h.map_cons, h.map_nil, h.len_nil, he_e_uint8, he_e_string, if_true]; done) | (simp only [h.nadd0, h.nle_refl, h.cut_all, h.cut_nil, h.map_cons, h.map_nil, h.len_nil, he_e_uint8, he_e_string, if_true]; first | rfl | (cbv; done) | (cbv; simp only [h.map_cons, h.map_nil, h.len_nil, he_e_uint8, he_e_string]; done))
def b_cascaderef05_Number_2 (P : Prims)  (l_3 : Int → Str → Str → Int → Option (Str)) (v0 : Int) (v3 : Str) (v4 : Str) : Option (Str) :=
  l_3 v0 v3 v4 0
theorem o_cascaderef05_Number_2   (stk : Stk) (m : Nat)    (l_3 : Int → Str → Str → Int → Option (Str)) (v0 : Int) (v3 : Str) (v4 : Str)  (h_l_3 : ∀ {v0 : Int} {v3 : Str} {v4 : Str} {v5 : Int} {out}, l_3 v0 v3 v4 v5 = some out → ∀ (stk : Stk), xat 31 .frz 3 [.lp ⟨3, [0, 3, 4, 5], []⟩, .blk 0, .sub ⟨7, [3, 4], []⟩] ⟨[(0, (.d (.int .i64 v0))), (3, (.d (.str v3))), (4, (.d (.str v4))), (5, (.d (.int .i64 v5)))], ⟨m, []⟩ :: stk⟩ = (fun r0 => (some (.ret (.d (.str r0)), stk) : Rk')) out) {out} (hp : b_cascaderef05_Number_2 ⟨xar, xcmp, xwrap, xseq, xslt, xenc, pquo, pshf, pslen, psidx, pssub, pscat, psit, pslist, pofBytes, @plen, @pidx, @psub, @papp, @pset, @pmake, @ploop⟩  l_3 v0 v3 v4 = some out) : xat 31 .frz 2 [] ⟨[(0, (.d (.int .i64 v0))), (3, (.d (.str v3))), (4, (.d (.str v4)))], ⟨m, []⟩ :: stk⟩ = (fun r0 => (some (.ret (.d (.str r0)), stk) : Rk')) out := by
  simp only [b_cascaderef05_Number_2] at hp
  rw [h.at_, hT]
  cbv
  first | exact h_l_3 hp _ | (have q := h_l_3 hp _; simp only [h.map_cons, h.map_nil, h.len_nil, he_e_uint8, he_e_string] at q; first | exact q | (cbv; exact q))
def b_cascaderef05_Number_3 (P : Prims)  (l_5 : Int → Str → Str → Int → Int → Option ((Int × Str × Str × Int) ⊕ (Str))) (l_7 : Str → Str → Option (Str)) (v0 : Int) (v3 : Str) (v4 : Str) (v5 : Int) : Option ((Int × Str × Str × Int) ⊕ (Str)) :=
  match P.cmp .lss v5 20 with
  | false =>
    match l_7 v3 v4 with | none => none | some o9 => some (.inr o9)
  | true =>
    match P.cmp .neq v0 0 with
    | false =>
      match l_7 v3 v4 with | none => none | some o8 => some (.inr o8)
    | true =>
      match P.quo .rem .i64 v0 10 with
      | none => none
      | some n5 =>
        match P.cmp .lss n5 0 with
        | false =>
          l_5 v0 v3 v4 v5 n5
        | true =>
          l_5 v0 v3 v4 v5 (P.ar .sub .i64 0 n5)
theorem o_cascaderef05_Number_3   (stk : Stk) (m : Nat)    (l_5 : Int → Str → Str → Int → Int → Option ((Int × Str × Str × Int) ⊕ (Str))) (l_7 : Str → Str → Option (Str)) (v0 : Int) (v3 : Str) (v4 : Str) (v5 : Int)  (h_l_5 : ∀ {v0 : Int} {v3 : Str} {v4 : Str} {v5 : Int} {v6 : Int} {out}, l_5 v0 v3 v4 v5 v6 = some out → ∀ (stk : Stk), xat 31 .frz 5 [.blk 1, .sub ⟨6, [0, 3, 4, 5], []⟩, .lp ⟨3, [0, 3, 4, 5], []⟩, .blk 0, .sub ⟨7, [3, 4], []⟩] ⟨[(0, (.d (.int .i64 v0))), (3, (.d (.str v3))), (4, (.d (.str v4))), (5, (.d (.int .i64 v5))), (6, (.d (.int .i64 v6)))], ⟨m, []⟩ :: stk⟩ = (Sum.elim (fun (v0, v3, v4, v5) => xat 31 .frz 3 [.lp ⟨3, [0, 3, 4, 5], []⟩, .blk 0, .sub ⟨7, [3, 4], []⟩] ⟨[(0, (.d (.int .i64 v0))), (3, (.d (.str v3))), (4, (.d (.str v4))), (5, (.d (.int .i64 v5)))], ⟨m, []⟩ :: stk⟩) (fun r0 => (some (.ret (.d (.str r0)), stk) : Rk'))) out) (h_l_7 : ∀ {v3 : Str} {v4 : Str} {out}, l_7 v3 v4 = some out → ∀ (stk : Stk), xat 31 .frz 7 [] ⟨[(3, (.d (.str v3))), (4, (.d (.str v4)))], ⟨m, []⟩ :: stk⟩ = (fun r0 => (some (.ret (.d (.str r0)), stk) : Rk')) out) {out} (hp : b_cascaderef05_Number_3 ⟨xar, xcmp, xwrap, xseq, xslt, xenc, pquo, pshf, pslen, psidx, pssub, pscat, psit, pslist, pofBytes, @plen, @pidx, @psub, @papp, @pset, @pmake, @ploop⟩  l_5 l_7 v0 v3 v4 v5 = some out) : xat 31 .frz 3 [.lp ⟨3, [0, 3, 4, 5], []⟩, .blk 0, .sub ⟨7, [3, 4], []⟩] ⟨[(0, (.d (.int .i64 v0))), (3, (.d (.str v3))), (4, (.d (.str v4))), (5, (.d (.int .i64 v5)))], ⟨m, []⟩ :: stk⟩ = (Sum.elim (fun (v0, v3, v4, v5) => xat 31 .frz 3 [.lp ⟨3, [0, 3, 4, 5], []⟩, .blk 0, .sub ⟨7, [3, 4], []⟩] ⟨[(0, (.d (.int .i64 v0))), (3, (.d (.str v3))), (4, (.d (.str v4))), (5, (.d (.int .i64 v5)))], ⟨m, []⟩ :: stk⟩) (fun r0 => (some (.ret (.d (.str r0)), stk) : Rk'))) out := by
  simp only [b_cascaderef05_Number_3] at hp
  rw [h.at_, hT]
  cbv
  cases c3 : xcmp .lss v5 20 with
  | false =>
    simp only [c3] at hp ⊢
    cbv
    cases c : l_7 v3 v4 with
    | none => simp only [c] at hp; cases hp
    | some o9 =>
      simp only [c] at hp
      cases hp
      first | exact h_l_7 c _ | (have q := h_l_7 c _; simp only [h.map_cons, h.map_nil, h.len_nil, he_e_uint8, he_e_string] at q; first | exact q | (cbv; exact q))
  | true =>
    simp only [c3] at hp ⊢
    cbv
    cases c4 : xcmp .neq v0 0 with
    | false =>
      simp only [c4] at hp ⊢
      cbv
      cases c : l_7 v3 v4 with
      | none => simp only [c] at hp; cases hp
      | some o8 =>
        simp only [c] at hp
        cases hp
        first | exact h_l_7 c _ | (have q := h_l_7 c _; simp only [h.map_cons, h.map_nil, h.len_nil, he_e_uint8, he_e_string] at q; first | exact q | (cbv; exact q))
    | true =>
      simp only [c4] at hp ⊢
      cbv
      rw [h.at_, hT]
      cbv
      cases c6 : pquo .rem .i64 v0 10 with
      | none => simp only [c6] at hp; cases hp
      | some n5 =>
        simp only [c6] at hp
        obtain ⟨q1, q2⟩ := h.quo c6
        simp only [q1, q2, Bool.false_eq_true, if_false]
        cbv
        cases c7 : xcmp .lss n5 0 with
        | false =>
          simp only [c7] at hp ⊢
          cbv
          first | exact h_l_5 hp _ | (have q := h_l_5 hp _; simp only [h.map_cons, h.map_nil, h.len_nil, he_e_uint8, he_e_string] at q; first | exact q | (cbv; exact q))
        | true =>
          simp only [c7] at hp ⊢
          cbv
          first | exact h_l_5 hp _ | (have q := h_l_5 hp _; simp only [h.map_cons, h.map_nil, h.len_nil, he_e_uint8, he_e_string] at q; first | exact q | (cbv; exact q))
def b_cascaderef05_Number_5 (P : Prims)   (v0 : Int) (v3 : Str) (v4 : Str) (v5 : Int) (v6 : Int) : Option ((Int × Str × Str × Int) ⊕ (Str)) :=
  match P.scat (P.ofBytes [P.wrap .u8 (P.ar .add .i64 48 v6)]) v3 with
  | none => none
  | some s10 =>
    match P.quo .quo .i64 v0 10 with
    | none => none
    | some n12 =>
      some (.inl (n12, s10, v4, P.ar .add .i64 v5 1))
theorem o_cascaderef05_Number_5   (stk : Stk) (m : Nat)     (v0 : Int) (v3 : Str) (v4 : Str) (v5 : Int) (v6 : Int)   {out} (hp : b_cascaderef05_Number_5 ⟨xar, xcmp, xwrap, xseq, xslt, xenc, pquo, pshf, pslen, psidx, pssub, pscat, psit, pslist, pofBytes, @plen, @pidx, @psub, @papp, @pset, @pmake, @ploop⟩   v0 v3 v4 v5 v6 = some out) : xat 31 .frz 5 [.blk 1, .sub ⟨6, [0, 3, 4, 5], []⟩, .lp ⟨3, [0, 3, 4, 5], []⟩, .blk 0, .sub ⟨7, [3, 4], []⟩] ⟨[(0, (.d (.int .i64 v0))), (3, (.d (.str v3))), (4, (.d (.str v4))), (5, (.d (.int .i64 v5))), (6, (.d (.int .i64 v6)))], ⟨m, []⟩ :: stk⟩ = (Sum.elim (fun (v0, v3, v4, v5) => xat 31 .frz 3 [.lp ⟨3, [0, 3, 4, 5], []⟩, .blk 0, .sub ⟨7, [3, 4], []⟩] ⟨[(0, (.d (.int .i64 v0))), (3, (.d (.str v3))), (4, (.d (.str v4))), (5, (.d (.int .i64 v5)))], ⟨m, []⟩ :: stk⟩) (fun r0 => (some (.ret (.d (.str r0)), stk) : Rk'))) out := by
  simp only [b_cascaderef05_Number_5] at hp
  rw [h.at_, hT]
  cbv
  simp only [h.allsz_nil, h.allsz_cons]
  cbv
  have qb := h.ofBytes e_uint8 he_e_uint8 [xwrap .u8 (xar .add .i64 48 v6)]
  try simp only [h.map_cons, h.map_nil, he_e_uint8] at qb
  simp only [qb]
  cbv
  cases c11 : pscat (pofBytes [xwrap .u8 (xar .add .i64 48 v6)]) v3 with
  | none => simp only [c11] at hp; cases hp
  | some s10 =>
    simp only [c11] at hp
    obtain ⟨q1, q2⟩ := h.scat c11
    simp only [q1, q2, if_true]
    cbv
    cases c13 : pquo .quo .i64 v0 10 with
    | none => simp only [c13] at hp; cases hp
    | some n12 =>
      simp only [c13] at hp
      obtain ⟨q1, q2⟩ := h.quo c13
      simp only [q1, q2, Bool.false_eq_true, if_false]
      cbv
      rw [h.at_, hT]
      cbv
      cases hp
      all_goals first | rfl | (cbv; done) | (simp only [h.nadd0, h.nle_refl, h.cut_all, h.cut_nil, h.map_cons, h.map_nil, h.len_nil, he_e_uint8, he_e_string, if_true]; done) | (simp only [h.nadd0, h.nle_refl, h.cut_all, h.cut_nil, h.map_cons, h.map_nil, h.len_nil, he_e_uint8, he_e_string, if_true]; first | rfl | (cbv; done) | (cbv; simp only [h.map_cons, h.map_nil, h.len_nil, he_e_uint8, he_e_string]; done))
def b_cascaderef05_Number_7 (P : Prims)   (v3 : Str) (v4 : Str) : Option (Str) :=
  match P.scat v4 v3 with
  | none => none
  | some s14 =>
    some s14
theorem o_cascaderef05_Number_7   (stk : Stk) (m : Nat)     (v3 : Str) (v4 : Str)   {out} (hp : b_cascaderef05_Number_7 ⟨xar, xcmp, xwrap, xseq, xslt, xenc, pquo, pshf, pslen, psidx, pssub, pscat, psit, pslist, pofBytes, @plen, @pidx, @psub, @papp, @pset, @pmake, @ploop⟩   v3 v4 = some out) : xat 31 .frz 7 [] ⟨[(3, (.d (.str v3))), (4, (.d (.str v4)))], ⟨m, []⟩ :: stk⟩ = (fun r0 => (some (.ret (.d (.str r0)), stk) : Rk')) out := by
  simp only [b_cascaderef05_Number_7] at hp
  rw [h.at_, hT]
  cbv
  cases c15 : pscat v4 v3 with
  | none => simp only [c15] at hp; cases hp
  | some s14 =>
    simp only [c15] at hp
    obtain ⟨q1, q2⟩ := h.scat c15
    simp only [q1, q2, if_true]
    cbv
    cases hp
    all_goals first | rfl | (cbv; done) | (simp only [h.nadd0, h.nle_refl, h.cut_all, h.cut_nil, h.map_cons, h.map_nil, h.len_nil, he_e_uint8, he_e_string, if_true]; done) | (simp only [h.nadd0, h.nle_refl, h.cut_all, h.cut_nil, h.map_cons, h.map_nil, h.len_nil, he_e_uint8, he_e_string, if_true]; first | rfl | (cbv; done) | (cbv; simp only [h.map_cons, h.map_nil, h.len_nil, he_e_uint8, he_e_string]; done))
def b_cascaderef28_Part_0 (P : Prims) (c_cascaderef05_Number : Int → Option (Str))  (v0 : Str) : Option (Str) :=
  match c_cascaderef05_Number (P.slen v0) with
  | none => none
  | some r1_0 =>
    match P.scat [45, 45, 99, 117, 116, 13, 10, 67, 111, 110, 116, 101, 110, 116, 45, 84, 121, 112, 101, 58, 32, 97, 112, 112, 108, 105, 99, 97, 116, 105, 111, 110, 47, 106, 115, 111, 110, 13, 10, 67, 111, 110, 116, 101, 110, 116, 45, 76, 101, 110, 103, 116, 104, 58, 32] r1_0 with
    | none => none
    | some s3 =>
      match P.scat s3 [13, 10, 13, 10] with
      | none => none
      | some s5 =>
        match P.scat s5 v0 with
        | none => none
        | some s7 =>
          match P.scat s7 [13, 10] with
          | none => none
          | some s9 =>
            some s9
theorem o_cascaderef28_Part_0 (c_cascaderef05_Number : Int → Option (Str)) (h_cascaderef05_Number : ∀ {v0 : Int} {r0 : Str}, c_cascaderef05_Number v0 = some r0 → ∀ (stk : Stk) , xpcall 31 [(.d (.int .i64 v0))] stk = some (.d (.str r0)) ∧ xfcall 31 [(.d (.int .i64 v0))] stk = some (.d (.str r0), stk)) (stk : Stk) (m : Nat)     (v0 : Str)   {out} (hp : b_cascaderef28_Part_0 ⟨xar, xcmp, xwrap, xseq, xslt, xenc, pquo, pshf, pslen, psidx, pssub, pscat, psit, pslist, pofBytes, @plen, @pidx, @psub, @papp, @pset, @pmake, @ploop⟩ c_cascaderef05_Number  v0 = some out) : xat 19 .frz 0 [] ⟨[(0, (.d (.str v0)))], ⟨m, []⟩ :: stk⟩ = (fun r0 => (some (.ret (.d (.str r0)), stk) : Rk')) out := by
  simp only [b_cascaderef28_Part_0] at hp
  rw [h.at_, hT]
  cbv
  try simp only [h.slen]
  cases c2 : c_cascaderef05_Number (pslen v0) with
  | none => simp only [c2] at hp; cases hp
  | some r1_0 =>
    simp only [c2] at hp
    have qc := (h_cascaderef05_Number c2 (⟨m, []⟩ :: stk) ).1
    simp only [qc]
    cbv
    cases c4 : pscat [45, 45, 99, 117, 116, 13, 10, 67, 111, 110, 116, 101, 110, 116, 45, 84, 121, 112, 101, 58, 32, 97, 112, 112, 108, 105, 99, 97, 116, 105, 111, 110, 47, 106, 115, 111, 110, 13, 10, 67, 111, 110, 116, 101, 110, 116, 45, 76, 101, 110, 103, 116, 104, 58, 32] r1_0 with
    | none => simp only [c4] at hp; cases hp
    | some s3 =>
      simp only [c4] at hp
      obtain ⟨q1, q2⟩ := h.scat c4
      simp only [q1, q2, if_true]
      cbv
      cases c6 : pscat s3 [13, 10, 13, 10] with
      | none => simp only [c6] at hp; cases hp
      | some s5 =>
        simp only [c6] at hp
        obtain ⟨q1, q2⟩ := h.scat c6
        simp only [q1, q2, if_true]
        cbv
        cases c8 : pscat s5 v0 with
        | none => simp only [c8] at hp; cases hp
        | some s7 =>
          simp only [c8] at hp
          obtain ⟨q1, q2⟩ := h.scat c8
          simp only [q1, q2, if_true]
          cbv
          cases c10 : pscat s7 [13, 10] with
          | none => simp only [c10] at hp; cases hp
          | some s9 =>
            simp only [c10] at hp
            obtain ⟨q1, q2⟩ := h.scat c10
            simp only [q1, q2, if_true]
            cbv
            cases hp
            all_goals first | rfl | (cbv; done) | (simp only [h.nadd0, h.nle_refl, h.cut_all, h.cut_nil, h.map_cons, h.map_nil, h.len_nil, he_e_uint8, he_e_string, if_true]; done) | (simp only [h.nadd0, h.nle_refl, h.cut_all, h.cut_nil, h.map_cons, h.map_nil, h.len_nil, he_e_uint8, he_e_string, if_true]; first | rfl | (cbv; done) | (cbv; simp only [h.map_cons, h.map_nil, h.len_nil, he_e_uint8, he_e_string]; done))
def b_cascaderef28_Whole_0 (P : Prims) (c_cascaderef28_Part : Str → Option (Str)) (l_1 : (List Str) → Str → Int → Option (Str)) (v0 : (List Str)) : Option (Str) :=
  l_1 v0 [] 0
theorem o_cascaderef28_Whole_0 (c_cascaderef28_Part : Str → Option (Str)) (h_cascaderef28_Part : ∀ {v0 : Str} {r0 : Str}, c_cascaderef28_Part v0 = some r0 → ∀ (stk : Stk) , xpcall 19 [(.d (.str v0))] stk = some (.d (.str r0)) ∧ xfcall 19 [(.d (.str v0))] stk = some (.d (.str r0), stk)) (stk : Stk) (m : Nat)    (l_1 : (List Str) → Str → Int → Option (Str)) (v0 : (List Str))  (h_l_1 : ∀ {v0 : (List Str)} {v3 : Str} {v4 : Int} {out}, l_1 v0 v3 v4 = some out → ∀ (stk : Stk), xat 18 .frz 1 [.lp ⟨1, [0, 3, 4], []⟩, .blk 0, .sub ⟨4, [3], []⟩] ⟨[(0, (.d (.sl (xmap e_string v0)))), (3, (.d (.str v3))), (4, (.d (.int .i64 v4)))], ⟨m, []⟩ :: stk⟩ = (fun r0 => (some (.ret (.d (.str r0)), stk) : Rk')) out) {out} (hp : b_cascaderef28_Whole_0 ⟨xar, xcmp, xwrap, xseq, xslt, xenc, pquo, pshf, pslen, psidx, pssub, pscat, psit, pslist, pofBytes, @plen, @pidx, @psub, @papp, @pset, @pmake, @ploop⟩ c_cascaderef28_Part l_1 v0 = some out) : xat 18 .frz 0 [] ⟨[(0, (.d (.sl (xmap e_string v0))))], ⟨m, []⟩ :: stk⟩ = (fun r0 => (some (.ret (.d (.str r0)), stk) : Rk')) out := by
  simp only [b_cascaderef28_Whole_0] at hp
  rw [h.at_, hT]
  cbv
  first | exact h_l_1 hp _ | (have q := h_l_1 hp _; simp only [h.map_cons, h.map_nil, h.len_nil, he_e_uint8, he_e_string] at q; first | exact q | (cbv; exact q))
def b_cascaderef28_Whole_1 (P : Prims) (c_cascaderef28_Part : Str → Option (Str))  (v0 : (List Str)) (v3 : Str) (v4 : Int) : Option (((List Str) × Str × Int) ⊕ (Str)) :=
  match P.cmp .lss v4 (P.len v0) with
  | false =>
    match P.scat v3 [45, 45, 99, 117, 116, 45, 45, 13, 10] with
    | none => none
    | some s8 =>
      some (.inr s8)
  | true =>
    match P.idx v0 v4 with
    | none => none
    | some a2 =>
      match c_cascaderef28_Part a2 with
      | none => none
      | some r4_0 =>
        match P.scat v3 r4_0 with
        | none => none
        | some s6 =>
          some (.inl (v0, s6, P.ar .add .i64 v4 1))
theorem o_cascaderef28_Whole_1 (c_cascaderef28_Part : Str → Option (Str)) (h_cascaderef28_Part : ∀ {v0 : Str} {r0 : Str}, c_cascaderef28_Part v0 = some r0 → ∀ (stk : Stk) , xpcall 19 [(.d (.str v0))] stk = some (.d (.str r0)) ∧ xfcall 19 [(.d (.str v0))] stk = some (.d (.str r0), stk)) (stk : Stk) (m : Nat)     (v0 : (List Str)) (v3 : Str) (v4 : Int)   {out} (hp : b_cascaderef28_Whole_1 ⟨xar, xcmp, xwrap, xseq, xslt, xenc, pquo, pshf, pslen, psidx, pssub, pscat, psit, pslist, pofBytes, @plen, @pidx, @psub, @papp, @pset, @pmake, @ploop⟩ c_cascaderef28_Part  v0 v3 v4 = some out) : xat 18 .frz 1 [.lp ⟨1, [0, 3, 4], []⟩, .blk 0, .sub ⟨4, [3], []⟩] ⟨[(0, (.d (.sl (xmap e_string v0)))), (3, (.d (.str v3))), (4, (.d (.int .i64 v4)))], ⟨m, []⟩ :: stk⟩ = (Sum.elim (fun (v0, v3, v4) => xat 18 .frz 1 [.lp ⟨1, [0, 3, 4], []⟩, .blk 0, .sub ⟨4, [3], []⟩] ⟨[(0, (.d (.sl (xmap e_string v0)))), (3, (.d (.str v3))), (4, (.d (.int .i64 v4)))], ⟨m, []⟩ :: stk⟩) (fun r0 => (some (.ret (.d (.str r0)), stk) : Rk'))) out := by
  simp only [b_cascaderef28_Whole_1] at hp
  rw [h.at_, hT]
  cbv
  try simp only [h.len]
  cases c1 : xcmp .lss v4 (plen v0) with
  | false =>
    simp only [c1] at hp ⊢
    cbv
    rw [h.at_, hT]
    cbv
    cases c9 : pscat v3 [45, 45, 99, 117, 116, 45, 45, 13, 10] with
    | none => simp only [c9] at hp; cases hp
    | some s8 =>
      simp only [c9] at hp
      obtain ⟨q1, q2⟩ := h.scat c9
      simp only [q1, q2, if_true]
      cbv
      cases hp
      all_goals first | rfl | (cbv; done) | (simp only [h.nadd0, h.nle_refl, h.cut_all, h.cut_nil, h.map_cons, h.map_nil, h.len_nil, he_e_uint8, he_e_string, if_true]; done) | (simp only [h.nadd0, h.nle_refl, h.cut_all, h.cut_nil, h.map_cons, h.map_nil, h.len_nil, he_e_uint8, he_e_string, if_true]; first | rfl | (cbv; done) | (cbv; simp only [h.map_cons, h.map_nil, h.len_nil, he_e_uint8, he_e_string]; done))
  | true =>
    simp only [c1] at hp ⊢
    cbv
    rw [h.at_, hT]
    cbv
    cases c3 : pidx v0 v4 with
    | none => simp only [c3] at hp; cases hp
    | some a2 =>
      simp only [c3] at hp
      obtain ⟨q1, q2⟩ := h.idx e_string c3
      simp only [he_e_string] at q2
      simp only [q1, Bool.false_eq_true, if_false]
      cbv
      try simp only [q2]
      cbv
      cases c5 : c_cascaderef28_Part a2 with
      | none => simp only [c5] at hp; cases hp
      | some r4_0 =>
        simp only [c5] at hp
        have qc := (h_cascaderef28_Part c5 (⟨m, []⟩ :: stk) ).1
        simp only [qc]
        cbv
        cases c7 : pscat v3 r4_0 with
        | none => simp only [c7] at hp; cases hp
        | some s6 =>
          simp only [c7] at hp
          obtain ⟨q1, q2⟩ := h.scat c7
          simp only [q1, q2, if_true]
          cbv
          rw [h.at_, hT]
          cbv
          cases hp
          all_goals first | rfl | (cbv; done) | (simp only [h.nadd0, h.nle_refl, h.cut_all, h.cut_nil, h.map_cons, h.map_nil, h.len_nil, he_e_uint8, he_e_string, if_true]; done) | (simp only [h.nadd0, h.nle_refl, h.cut_all, h.cut_nil, h.map_cons, h.map_nil, h.len_nil, he_e_uint8, he_e_string, if_true]; first | rfl | (cbv; done) | (cbv; simp only [h.map_cons, h.map_nil, h.len_nil, he_e_uint8, he_e_string]; done))
def b_cascadelaw28_drain__0_0 (P : Prims) (c_parts_Reader_Next__0 : Str → Int → Bool → Int → Option (Str × Bool × Str × Int × Bool × Int)) (l_1 : Int → Str → Int → Bool → Int → Option ((List Str) × Str × Int × Bool × Int)) (L0_0 : Str) (L0_1 : Int) (L0_2 : Bool) (L0_3 : Int) : Option ((List Str) × Str × Int × Bool × Int) :=
  l_1 0 L0_0 L0_1 L0_2 L0_3
theorem o_cascadelaw28_drain__0_0 (c_parts_Reader_Next__0 : Str → Int → Bool → Int → Option (Str × Bool × Str × Int × Bool × Int)) (h_parts_Reader_Next__0 : ∀ {L0_0 : Str} {L0_1 : Int} {L0_2 : Bool} {L0_3 : Int} {r0 : Str} {r1 : Bool} {r_w0_0 : Str} {r_w0_1 : Int} {r_w0_2 : Bool} {r_w0_3 : Int}, c_parts_Reader_Next__0 L0_0 L0_1 L0_2 L0_3 = some (r0, r1, r_w0_0, r_w0_1, r_w0_2, r_w0_3) → ∀ (stk : Stk) (n0 : Nat) (k0 : List Nat), getO stk ⟨n0, k0⟩ = some (.cells [(.d (.str L0_0)), (.d (.int .i64 L0_1)), (.d (.bool L0_2)), (.d (.int .i64 L0_3))]) → n0 ≤ topN stk → xfcall 15 [(.ref ⟨n0, k0⟩ 0)] stk = some (.d (.tup [(.str r0), (.bool r1)]), (xsetO stk ⟨n0, k0⟩ (.cells [(.d (.str r_w0_0)), (.d (.int .i64 r_w0_1)), (.d (.bool r_w0_2)), (.d (.int .i64 r_w0_3))])))) (stk : Stk) (m : Nat) (n0 : Nat) (k0 : List Nat) (hl0 : n0 < m)  (l_1 : Int → Str → Int → Bool → Int → Option ((List Str) × Str × Int × Bool × Int)) (L0_0 : Str) (L0_1 : Int) (L0_2 : Bool) (L0_3 : Int) (hg0 : getO stk ⟨n0, k0⟩ = some (.cells [(.d (.str L0_0)), (.d (.int .i64 L0_1)), (.d (.bool L0_2)), (.d (.int .i64 L0_3))])) (h_l_1 : ∀ {v5 : Int} {L0_0 : Str} {L0_1 : Int} {L0_2 : Bool} {L0_3 : Int} {out}, l_1 v5 L0_0 L0_1 L0_2 L0_3 = some out → ∀ (stk : Stk), getO stk ⟨n0, k0⟩ = some (.cells [(.d (.str L0_0)), (.d (.int .i64 L0_1)), (.d (.bool L0_2)), (.d (.int .i64 L0_3))]) → xat 20 .frz 1 [.lp ⟨1, [0, 1, 5], [[23]]⟩, .blk 0, .sub ⟨5, [1], [[23]]⟩] ⟨[(0, (.ref ⟨n0, k0⟩ 0)), (1, (.d .nils)), (5, (.d (.int .i64 v5)))], ⟨m, []⟩ :: stk⟩ = (fun (r0, r_w0_0, r_w0_1, r_w0_2, r_w0_3) => (some (.ret (.d (.sl (xmap e_string r0))), (xsetO stk ⟨n0, k0⟩ (.cells [(.d (.str r_w0_0)), (.d (.int .i64 r_w0_1)), (.d (.bool r_w0_2)), (.d (.int .i64 r_w0_3))]))) : Rk')) out) {out} (hp : b_cascadelaw28_drain__0_0 ⟨xar, xcmp, xwrap, xseq, xslt, xenc, pquo, pshf, pslen, psidx, pssub, pscat, psit, pslist, pofBytes, @plen, @pidx, @psub, @papp, @pset, @pmake, @ploop⟩ c_parts_Reader_Next__0 l_1 L0_0 L0_1 L0_2 L0_3 = some out) : xat 20 .frz 0 [] ⟨[(0, (.ref ⟨n0, k0⟩ 0)), (1, (.d .nils))], ⟨m, []⟩ :: stk⟩ = (fun (r0, r_w0_0, r_w0_1, r_w0_2, r_w0_3) => (some (.ret (.d (.sl (xmap e_string r0))), (xsetO stk ⟨n0, k0⟩ (.cells [(.d (.str r_w0_0)), (.d (.int .i64 r_w0_1)), (.d (.bool r_w0_2)), (.d (.int .i64 r_w0_3))]))) : Rk')) out := by
  have hn0 : (n0 = m) = False := eq_false (Nat.ne_of_lt hl0)
  have hm0 : decide (n0 < m) = true := decide_eq_true hl0
  simp only [b_cascadelaw28_drain__0_0] at hp
  rw [h.at_, hT]
  cbv
  try simp only [if_false, if_true, hn0, hm0]
  first | exact h_l_1 hp stk (hg0) | (have q := h_l_1 hp stk (hg0); simp only [h.map_cons, h.map_nil, h.len_nil, he_e_uint8, he_e_string] at q; first | exact q | (cbv; exact q))
def b_cascadelaw28_drain__0_1 (P : Prims) (c_parts_Reader_Next__0 : Str → Int → Bool → Int → Option (Str × Bool × Str × Int × Bool × Int)) (l_2 : Int → Str → Int → Bool → Int → Option ((Int × Str × Int × Bool × Int) ⊕ ((List Str) × Str × Int × Bool × Int))) (l_5 : Str → Int → Bool → Int → Option ((List Str) × Str × Int × Bool × Int)) (v5 : Int) (L0_0 : Str) (L0_1 : Int) (L0_2 : Bool) (L0_3 : Int) : Option ((Int × Str × Int × Bool × Int) ⊕ ((List Str) × Str × Int × Bool × Int)) :=
  match P.cmp .lss v5 500 with
  | false =>
    match l_5 L0_0 L0_1 L0_2 L0_3 with | none => none | some o2 => some (.inr o2)
  | true =>
    l_2 v5 L0_0 L0_1 L0_2 L0_3
theorem o_cascadelaw28_drain__0_1 (c_parts_Reader_Next__0 : Str → Int → Bool → Int → Option (Str × Bool × Str × Int × Bool × Int)) (h_parts_Reader_Next__0 : ∀ {L0_0 : Str} {L0_1 : Int} {L0_2 : Bool} {L0_3 : Int} {r0 : Str} {r1 : Bool} {r_w0_0 : Str} {r_w0_1 : Int} {r_w0_2 : Bool} {r_w0_3 : Int}, c_parts_Reader_Next__0 L0_0 L0_1 L0_2 L0_3 = some (r0, r1, r_w0_0, r_w0_1, r_w0_2, r_w0_3) → ∀ (stk : Stk) (n0 : Nat) (k0 : List Nat), getO stk ⟨n0, k0⟩ = some (.cells [(.d (.str L0_0)), (.d (.int .i64 L0_1)), (.d (.bool L0_2)), (.d (.int .i64 L0_3))]) → n0 ≤ topN stk → xfcall 15 [(.ref ⟨n0, k0⟩ 0)] stk = some (.d (.tup [(.str r0), (.bool r1)]), (xsetO stk ⟨n0, k0⟩ (.cells [(.d (.str r_w0_0)), (.d (.int .i64 r_w0_1)), (.d (.bool r_w0_2)), (.d (.int .i64 r_w0_3))])))) (stk : Stk) (m : Nat) (n0 : Nat) (k0 : List Nat) (hl0 : n0 < m)  (l_2 : Int → Str → Int → Bool → Int → Option ((Int × Str × Int × Bool × Int) ⊕ ((List Str) × Str × Int × Bool × Int))) (l_5 : Str → Int → Bool → Int → Option ((List Str) × Str × Int × Bool × Int)) (v5 : Int) (L0_0 : Str) (L0_1 : Int) (L0_2 : Bool) (L0_3 : Int) (hg0 : getO stk ⟨n0, k0⟩ = some (.cells [(.d (.str L0_0)), (.d (.int .i64 L0_1)), (.d (.bool L0_2)), (.d (.int .i64 L0_3))])) (h_l_2 : ∀ {v5 : Int} {L0_0 : Str} {L0_1 : Int} {L0_2 : Bool} {L0_3 : Int} {out}, l_2 v5 L0_0 L0_1 L0_2 L0_3 = some out → ∀ (stk : Stk), getO stk ⟨n0, k0⟩ = some (.cells [(.d (.str L0_0)), (.d (.int .i64 L0_1)), (.d (.bool L0_2)), (.d (.int .i64 L0_3))]) → xat 20 .frz 2 [.lp ⟨1, [0, 1, 5], [[23]]⟩, .blk 0, .sub ⟨5, [1], [[23]]⟩] ⟨[(0, (.ref ⟨n0, k0⟩ 0)), (1, (.d .nils)), (5, (.d (.int .i64 v5)))], ⟨m, []⟩ :: stk⟩ = (Sum.elim (fun (v5, L0_0, L0_1, L0_2, L0_3) => xat 20 .frz 1 [.lp ⟨1, [0, 1, 5], [[23]]⟩, .blk 0, .sub ⟨5, [1], [[23]]⟩] ⟨[(0, (.ref ⟨n0, k0⟩ 0)), (1, (.d .nils)), (5, (.d (.int .i64 v5)))], ⟨m, []⟩ :: (xsetO stk ⟨n0, k0⟩ (.cells [(.d (.str L0_0)), (.d (.int .i64 L0_1)), (.d (.bool L0_2)), (.d (.int .i64 L0_3))]))⟩) (fun (r0, r_w0_0, r_w0_1, r_w0_2, r_w0_3) => (some (.ret (.d (.sl (xmap e_string r0))), (xsetO stk ⟨n0, k0⟩ (.cells [(.d (.str r_w0_0)), (.d (.int .i64 r_w0_1)), (.d (.bool r_w0_2)), (.d (.int .i64 r_w0_3))]))) : Rk'))) out) (h_l_5 : ∀ {L0_0 : Str} {L0_1 : Int} {L0_2 : Bool} {L0_3 : Int} {out}, l_5 L0_0 L0_1 L0_2 L0_3 = some out → ∀ (stk : Stk), getO stk ⟨n0, k0⟩ = some (.cells [(.d (.str L0_0)), (.d (.int .i64 L0_1)), (.d (.bool L0_2)), (.d (.int .i64 L0_3))]) → xat 20 .frz 5 [] ⟨[(1, (.d .nils))], ⟨m, []⟩ :: stk⟩ = (fun (r0, r_w0_0, r_w0_1, r_w0_2, r_w0_3) => (some (.ret (.d (.sl (xmap e_string r0))), (xsetO stk ⟨n0, k0⟩ (.cells [(.d (.str r_w0_0)), (.d (.int .i64 r_w0_1)), (.d (.bool r_w0_2)), (.d (.int .i64 r_w0_3))]))) : Rk')) out) {out} (hp : b_cascadelaw28_drain__0_1 ⟨xar, xcmp, xwrap, xseq, xslt, xenc, pquo, pshf, pslen, psidx, pssub, pscat, psit, pslist, pofBytes, @plen, @pidx, @psub, @papp, @pset, @pmake, @ploop⟩ c_parts_Reader_Next__0 l_2 l_5 v5 L0_0 L0_1 L0_2 L0_3 = some out) : xat 20 .frz 1 [.lp ⟨1, [0, 1, 5], [[23]]⟩, .blk 0, .sub ⟨5, [1], [[23]]⟩] ⟨[(0, (.ref ⟨n0, k0⟩ 0)), (1, (.d .nils)), (5, (.d (.int .i64 v5)))], ⟨m, []⟩ :: stk⟩ = (Sum.elim (fun (v5, L0_0, L0_1, L0_2, L0_3) => xat 20 .frz 1 [.lp ⟨1, [0, 1, 5], [[23]]⟩, .blk 0, .sub ⟨5, [1], [[23]]⟩] ⟨[(0, (.ref ⟨n0, k0⟩ 0)), (1, (.d .nils)), (5, (.d (.int .i64 v5)))], ⟨m, []⟩ :: (xsetO stk ⟨n0, k0⟩ (.cells [(.d (.str L0_0)), (.d (.int .i64 L0_1)), (.d (.bool L0_2)), (.d (.int .i64 L0_3))]))⟩) (fun (r0, r_w0_0, r_w0_1, r_w0_2, r_w0_3) => (some (.ret (.d (.sl (xmap e_string r0))), (xsetO stk ⟨n0, k0⟩ (.cells [(.d (.str r_w0_0)), (.d (.int .i64 r_w0_1)), (.d (.bool r_w0_2)), (.d (.int .i64 r_w0_3))]))) : Rk'))) out := by
  have hn0 : (n0 = m) = False := eq_false (Nat.ne_of_lt hl0)
  have hm0 : decide (n0 < m) = true := decide_eq_true hl0
  simp only [b_cascadelaw28_drain__0_1] at hp
  rw [h.at_, hT]
  cbv
  cases c1 : xcmp .lss v5 500 with
  | false =>
    simp only [c1] at hp ⊢
    cbv
    cases c : l_5 L0_0 L0_1 L0_2 L0_3 with
    | none => simp only [c] at hp; cases hp
    | some o2 =>
      simp only [c] at hp
      cases hp
      try simp only [if_false, if_true, hn0, hm0]
      first | exact h_l_5 c stk (hg0) | (have q := h_l_5 c stk (hg0); simp only [h.map_cons, h.map_nil, h.len_nil, he_e_uint8, he_e_string] at q; first | exact q | (cbv; exact q))
  | true =>
    simp only [c1] at hp ⊢
    cbv
    try simp only [if_false, if_true, hn0, hm0]
    first | exact h_l_2 hp stk (hg0) | (have q := h_l_2 hp stk (hg0); simp only [h.map_cons, h.map_nil, h.len_nil, he_e_uint8, he_e_string] at q; first | exact q | (cbv; exact q))
def b_cascadelaw28_drain__0_2 (P : Prims) (c_parts_Reader_Next__0 : Str → Int → Bool → Int → Option (Str × Bool × Str × Int × Bool × Int)) (l_3 : Int → Str → Str → Int → Bool → Int → Option ((Int × Str × Int × Bool × Int) ⊕ ((List Str) × Str × Int × Bool × Int))) (v5 : Int) (L0_0 : Str) (L0_1 : Int) (L0_2 : Bool) (L0_3 : Int) : Option ((Int × Str × Int × Bool × Int) ⊕ ((List Str) × Str × Int × Bool × Int)) :=
  match c_parts_Reader_Next__0 L0_0 L0_1 L0_2 L0_3 with
  | none => none
  | some (r3_0, r3_1, r3_w0_0, r3_w0_1, r3_w0_2, r3_w0_3) =>
    match r3_1 with
    | false =>
      some (.inr ([], r3_w0_0, r3_w0_1, r3_w0_2, r3_w0_3))
    | true =>
      l_3 v5 r3_0 r3_w0_0 r3_w0_1 r3_w0_2 r3_w0_3
theorem o_cascadelaw28_drain__0_2 (c_parts_Reader_Next__0 : Str → Int → Bool → Int → Option (Str × Bool × Str × Int × Bool × Int)) (h_parts_Reader_Next__0 : ∀ {L0_0 : Str} {L0_1 : Int} {L0_2 : Bool} {L0_3 : Int} {r0 : Str} {r1 : Bool} {r_w0_0 : Str} {r_w0_1 : Int} {r_w0_2 : Bool} {r_w0_3 : Int}, c_parts_Reader_Next__0 L0_0 L0_1 L0_2 L0_3 = some (r0, r1, r_w0_0, r_w0_1, r_w0_2, r_w0_3) → ∀ (stk : Stk) (n0 : Nat) (k0 : List Nat), getO stk ⟨n0, k0⟩ = some (.cells [(.d (.str L0_0)), (.d (.int .i64 L0_1)), (.d (.bool L0_2)), (.d (.int .i64 L0_3))]) → n0 ≤ topN stk → xfcall 15 [(.ref ⟨n0, k0⟩ 0)] stk = some (.d (.tup [(.str r0), (.bool r1)]), (xsetO stk ⟨n0, k0⟩ (.cells [(.d (.str r_w0_0)), (.d (.int .i64 r_w0_1)), (.d (.bool r_w0_2)), (.d (.int .i64 r_w0_3))])))) (stk : Stk) (m : Nat) (n0 : Nat) (k0 : List Nat) (hl0 : n0 < m)  (l_3 : Int → Str → Str → Int → Bool → Int → Option ((Int × Str × Int × Bool × Int) ⊕ ((List Str) × Str × Int × Bool × Int))) (v5 : Int) (L0_0 : Str) (L0_1 : Int) (L0_2 : Bool) (L0_3 : Int) (hg0 : getO stk ⟨n0, k0⟩ = some (.cells [(.d (.str L0_0)), (.d (.int .i64 L0_1)), (.d (.bool L0_2)), (.d (.int .i64 L0_3))])) (h_l_3 : ∀ {v5 : Int} {v6 : Str} {L0_0 : Str} {L0_1 : Int} {L0_2 : Bool} {L0_3 : Int} {out}, l_3 v5 v6 L0_0 L0_1 L0_2 L0_3 = some out → ∀ (stk : Stk), getO stk ⟨n0, k0⟩ = some (.cells [(.d (.str L0_0)), (.d (.int .i64 L0_1)), (.d (.bool L0_2)), (.d (.int .i64 L0_3))]) → xat 20 .frz 3 [.blk 1, .sub ⟨4, [0, 1, 5], [[23]]⟩, .lp ⟨1, [0, 1, 5], [[23]]⟩, .blk 0, .sub ⟨5, [1], [[23]]⟩] ⟨[(0, (.ref ⟨n0, k0⟩ 0)), (1, (.d .nils)), (5, (.d (.int .i64 v5))), (6, (.d (.str v6)))], ⟨m, []⟩ :: stk⟩ = (Sum.elim (fun (v5, L0_0, L0_1, L0_2, L0_3) => xat 20 .frz 1 [.lp ⟨1, [0, 1, 5], [[23]]⟩, .blk 0, .sub ⟨5, [1], [[23]]⟩] ⟨[(0, (.ref ⟨n0, k0⟩ 0)), (1, (.d .nils)), (5, (.d (.int .i64 v5)))], ⟨m, []⟩ :: (xsetO stk ⟨n0, k0⟩ (.cells [(.d (.str L0_0)), (.d (.int .i64 L0_1)), (.d (.bool L0_2)), (.d (.int .i64 L0_3))]))⟩) (fun (r0, r_w0_0, r_w0_1, r_w0_2, r_w0_3) => (some (.ret (.d (.sl (xmap e_string r0))), (xsetO stk ⟨n0, k0⟩ (.cells [(.d (.str r_w0_0)), (.d (.int .i64 r_w0_1)), (.d (.bool r_w0_2)), (.d (.int .i64 r_w0_3))]))) : Rk'))) out) {out} (hp : b_cascadelaw28_drain__0_2 ⟨xar, xcmp, xwrap, xseq, xslt, xenc, pquo, pshf, pslen, psidx, pssub, pscat, psit, pslist, pofBytes, @plen, @pidx, @psub, @papp, @pset, @pmake, @ploop⟩ c_parts_Reader_Next__0 l_3 v5 L0_0 L0_1 L0_2 L0_3 = some out) : xat 20 .frz 2 [.lp ⟨1, [0, 1, 5], [[23]]⟩, .blk 0, .sub ⟨5, [1], [[23]]⟩] ⟨[(0, (.ref ⟨n0, k0⟩ 0)), (1, (.d .nils)), (5, (.d (.int .i64 v5)))], ⟨m, []⟩ :: stk⟩ = (Sum.elim (fun (v5, L0_0, L0_1, L0_2, L0_3) => xat 20 .frz 1 [.lp ⟨1, [0, 1, 5], [[23]]⟩, .blk 0, .sub ⟨5, [1], [[23]]⟩] ⟨[(0, (.ref ⟨n0, k0⟩ 0)), (1, (.d .nils)), (5, (.d (.int .i64 v5)))], ⟨m, []⟩ :: (xsetO stk ⟨n0, k0⟩ (.cells [(.d (.str L0_0)), (.d (.int .i64 L0_1)), (.d (.bool L0_2)), (.d (.int .i64 L0_3))]))⟩) (fun (r0, r_w0_0, r_w0_1, r_w0_2, r_w0_3) => (some (.ret (.d (.sl (xmap e_string r0))), (xsetO stk ⟨n0, k0⟩ (.cells [(.d (.str r_w0_0)), (.d (.int .i64 r_w0_1)), (.d (.bool r_w0_2)), (.d (.int .i64 r_w0_3))]))) : Rk'))) out := by
  have hn0 : (n0 = m) = False := eq_false (Nat.ne_of_lt hl0)
  have hm0 : decide (n0 < m) = true := decide_eq_true hl0
  simp only [b_cascadelaw28_drain__0_2] at hp
  rw [h.at_, hT]
  cbv
  cases c4 : c_parts_Reader_Next__0 L0_0 L0_1 L0_2 L0_3 with
  | none => simp only [c4] at hp; cases hp
  | some y6 =>
    obtain ⟨r3_0, r3_1, r3_w0_0, r3_w0_1, r3_w0_2, r3_w0_3⟩ := y6
    simp only [c4] at hp
    have qc := h_parts_Reader_Next__0 c4 (⟨m, []⟩ :: stk) n0 k0 ((h.gb hl0 _ _).trans (hg0)) (Nat.le_of_lt hl0)
    simp only [qc]
    simp only [h.st_, h.sb_ hl0]
    cbv
    cases r3_1 with
    | false =>
      simp only at hp
      cbv
      cases hp
      try (simp only [h.so])
      try simp only [if_false, if_true, hn0, hm0]
      all_goals first | rfl | (cbv; done) | (simp only [h.nadd0, h.nle_refl, h.cut_all, h.cut_nil, h.map_cons, h.map_nil, h.len_nil, he_e_uint8, he_e_string, if_true]; done) | (simp only [h.nadd0, h.nle_refl, h.cut_all, h.cut_nil, h.map_cons, h.map_nil, h.len_nil, he_e_uint8, he_e_string, if_true]; first | rfl | (cbv; done) | (cbv; simp only [h.map_cons, h.map_nil, h.len_nil, he_e_uint8, he_e_string]; done))
    | true =>
      simp only at hp
      cbv
      try simp only [if_false, if_true, hn0, hm0]
      have q := h_l_3 hp (xsetO stk ⟨n0, k0⟩ (.cells [(.d (.str r3_w0_0)), (.d (.int .i64 r3_w0_1)), (.d (.bool r3_w0_2)), (.d (.int .i64 r3_w0_3))])) ((h.gs (hg0) _))
      first | (refine q.trans ?_; simp only [h.so]; done) | (refine q.trans ?_; simp only [h.so]; rfl) | (simp only [h.map_cons, h.map_nil, h.len_nil, he_e_uint8, he_e_string] at q; cbv; refine q.trans ?_; simp only [h.so]; done) | (simp only [h.map_cons, h.map_nil, h.len_nil, he_e_uint8, he_e_string] at q; cbv; refine q.trans ?_; simp only [h.so]; rfl)
def b_cascadelaw28_drain__0_5 (P : Prims) (c_parts_Reader_Next__0 : Str → Int → Bool → Int → Option (Str × Bool × Str × Int × Bool × Int))  (L0_0 : Str) (L0_1 : Int) (L0_2 : Bool) (L0_3 : Int) : Option ((List Str) × Str × Int × Bool × Int) :=
  some ([], L0_0, L0_1, L0_2, L0_3)
theorem o_cascadelaw28_drain__0_5 (c_parts_Reader_Next__0 : Str → Int → Bool → Int → Option (Str × Bool × Str × Int × Bool × Int)) (h_parts_Reader_Next__0 : ∀ {L0_0 : Str} {L0_1 : Int} {L0_2 : Bool} {L0_3 : Int} {r0 : Str} {r1 : Bool} {r_w0_0 : Str} {r_w0_1 : Int} {r_w0_2 : Bool} {r_w0_3 : Int}, c_parts_Reader_Next__0 L0_0 L0_1 L0_2 L0_3 = some (r0, r1, r_w0_0, r_w0_1, r_w0_2, r_w0_3) → ∀ (stk : Stk) (n0 : Nat) (k0 : List Nat), getO stk ⟨n0, k0⟩ = some (.cells [(.d (.str L0_0)), (.d (.int .i64 L0_1)), (.d (.bool L0_2)), (.d (.int .i64 L0_3))]) → n0 ≤ topN stk → xfcall 15 [(.ref ⟨n0, k0⟩ 0)] stk = some (.d (.tup [(.str r0), (.bool r1)]), (xsetO stk ⟨n0, k0⟩ (.cells [(.d (.str r_w0_0)), (.d (.int .i64 r_w0_1)), (.d (.bool r_w0_2)), (.d (.int .i64 r_w0_3))])))) (stk : Stk) (m : Nat) (n0 : Nat) (k0 : List Nat) (hl0 : n0 < m)   (L0_0 : Str) (L0_1 : Int) (L0_2 : Bool) (L0_3 : Int) (hg0 : getO stk ⟨n0, k0⟩ = some (.cells [(.d (.str L0_0)), (.d (.int .i64 L0_1)), (.d (.bool L0_2)), (.d (.int .i64 L0_3))]))  {out} (hp : b_cascadelaw28_drain__0_5 ⟨xar, xcmp, xwrap, xseq, xslt, xenc, pquo, pshf, pslen, psidx, pssub, pscat, psit, pslist, pofBytes, @plen, @pidx, @psub, @papp, @pset, @pmake, @ploop⟩ c_parts_Reader_Next__0  L0_0 L0_1 L0_2 L0_3 = some out) : xat 20 .frz 5 [] ⟨[(1, (.d .nils))], ⟨m, []⟩ :: stk⟩ = (fun (r0, r_w0_0, r_w0_1, r_w0_2, r_w0_3) => (some (.ret (.d (.sl (xmap e_string r0))), (xsetO stk ⟨n0, k0⟩ (.cells [(.d (.str r_w0_0)), (.d (.int .i64 r_w0_1)), (.d (.bool r_w0_2)), (.d (.int .i64 r_w0_3))]))) : Rk')) out := by
  have hn0 : (n0 = m) = False := eq_false (Nat.ne_of_lt hl0)
  have hm0 : decide (n0 < m) = true := decide_eq_true hl0
  simp only [b_cascadelaw28_drain__0_5] at hp
  rw [h.at_, hT]
  cbv
  cases hp
  try (simp only [h.ss hg0])
  try simp only [if_false, if_true, hn0, hm0]
  all_goals first | rfl | (cbv; done) | (simp only [h.nadd0, h.nle_refl, h.cut_all, h.cut_nil, h.map_cons, h.map_nil, h.len_nil, he_e_uint8, he_e_string, if_true]; done) | (simp only [h.nadd0, h.nle_refl, h.cut_all, h.cut_nil, h.map_cons, h.map_nil, h.len_nil, he_e_uint8, he_e_string, if_true]; first | rfl | (cbv; done) | (cbv; simp only [h.map_cons, h.map_nil, h.len_nil, he_e_uint8, he_e_string]; done))
def b_cascadelaw28_drain__0_3 (P : Prims) (c_parts_Reader_Next__0 : Str → Int → Bool → Int → Option (Str × Bool × Str × Int × Bool × Int)) (l_4 : Nat → (List Str) → Int → Str → Int → Bool → Int → Option ((Int × Str × Int × Bool × Int) ⊕ ((List Str) × Str × Int × Bool × Int))) (v5 : Int) (v6 : Str) (L0_0 : Str) (L0_1 : Int) (L0_2 : Bool) (L0_3 : Int) : Option ((Int × Str × Int × Bool × Int) ⊕ ((List Str) × Str × Int × Bool × Int)) :=
  match P.app 16 ([] : List Str) [v6] with
  | none => none
  | some l7 =>
    l_4 0 l7 v5 L0_0 L0_1 L0_2 L0_3
theorem o_cascadelaw28_drain__0_3 (c_parts_Reader_Next__0 : Str → Int → Bool → Int → Option (Str × Bool × Str × Int × Bool × Int)) (h_parts_Reader_Next__0 : ∀ {L0_0 : Str} {L0_1 : Int} {L0_2 : Bool} {L0_3 : Int} {r0 : Str} {r1 : Bool} {r_w0_0 : Str} {r_w0_1 : Int} {r_w0_2 : Bool} {r_w0_3 : Int}, c_parts_Reader_Next__0 L0_0 L0_1 L0_2 L0_3 = some (r0, r1, r_w0_0, r_w0_1, r_w0_2, r_w0_3) → ∀ (stk : Stk) (n0 : Nat) (k0 : List Nat), getO stk ⟨n0, k0⟩ = some (.cells [(.d (.str L0_0)), (.d (.int .i64 L0_1)), (.d (.bool L0_2)), (.d (.int .i64 L0_3))]) → n0 ≤ topN stk → xfcall 15 [(.ref ⟨n0, k0⟩ 0)] stk = some (.d (.tup [(.str r0), (.bool r1)]), (xsetO stk ⟨n0, k0⟩ (.cells [(.d (.str r_w0_0)), (.d (.int .i64 r_w0_1)), (.d (.bool r_w0_2)), (.d (.int .i64 r_w0_3))])))) (stk : Stk) (m : Nat) (n0 : Nat) (k0 : List Nat) (hl0 : n0 < m)  (l_4 : Nat → (List Str) → Int → Str → Int → Bool → Int → Option ((Int × Str × Int × Bool × Int) ⊕ ((List Str) × Str × Int × Bool × Int))) (v5 : Int) (v6 : Str) (L0_0 : Str) (L0_1 : Int) (L0_2 : Bool) (L0_3 : Int) (hg0 : getO stk ⟨n0, k0⟩ = some (.cells [(.d (.str L0_0)), (.d (.int .i64 L0_1)), (.d (.bool L0_2)), (.d (.int .i64 L0_3))])) (h_l_4 : ∀ {o23_g : Nat} {o23 : (List Str)} {v5 : Int} {L0_0 : Str} {L0_1 : Int} {L0_2 : Bool} {L0_3 : Int} {out}, l_4 o23_g o23 v5 L0_0 L0_1 L0_2 L0_3 = some out → ∀ (stk : Stk), getO stk ⟨n0, k0⟩ = some (.cells [(.d (.str L0_0)), (.d (.int .i64 L0_1)), (.d (.bool L0_2)), (.d (.int .i64 L0_3))]) → xat 20 .frz 4 [.lp ⟨1, [0, 1, 5], [[23]]⟩, .blk 0, .sub ⟨5, [1], [[23]]⟩] ⟨[(0, (.ref ⟨n0, k0⟩ 0)), (1, (.msl ⟨m, [23]⟩ o23_g 0 (xlen (xmap e_string o23)))), (5, (.d (.int .i64 v5)))], ⟨m, [([23], (.arr o23_g 1 (xmap e_string o23)))]⟩ :: stk⟩ = (Sum.elim (fun (v5, L0_0, L0_1, L0_2, L0_3) => xat 20 .frz 1 [.lp ⟨1, [0, 1, 5], [[23]]⟩, .blk 0, .sub ⟨5, [1], [[23]]⟩] ⟨[(0, (.ref ⟨n0, k0⟩ 0)), (1, (.d .nils)), (5, (.d (.int .i64 v5)))], ⟨m, []⟩ :: (xsetO stk ⟨n0, k0⟩ (.cells [(.d (.str L0_0)), (.d (.int .i64 L0_1)), (.d (.bool L0_2)), (.d (.int .i64 L0_3))]))⟩) (fun (r0, r_w0_0, r_w0_1, r_w0_2, r_w0_3) => (some (.ret (.d (.sl (xmap e_string r0))), (xsetO stk ⟨n0, k0⟩ (.cells [(.d (.str r_w0_0)), (.d (.int .i64 r_w0_1)), (.d (.bool r_w0_2)), (.d (.int .i64 r_w0_3))]))) : Rk'))) out) {out} (hp : b_cascadelaw28_drain__0_3 ⟨xar, xcmp, xwrap, xseq, xslt, xenc, pquo, pshf, pslen, psidx, pssub, pscat, psit, pslist, pofBytes, @plen, @pidx, @psub, @papp, @pset, @pmake, @ploop⟩ c_parts_Reader_Next__0 l_4 v5 v6 L0_0 L0_1 L0_2 L0_3 = some out) : xat 20 .frz 3 [.blk 1, .sub ⟨4, [0, 1, 5], [[23]]⟩, .lp ⟨1, [0, 1, 5], [[23]]⟩, .blk 0, .sub ⟨5, [1], [[23]]⟩] ⟨[(0, (.ref ⟨n0, k0⟩ 0)), (1, (.d .nils)), (5, (.d (.int .i64 v5))), (6, (.d (.str v6)))], ⟨m, []⟩ :: stk⟩ = (Sum.elim (fun (v5, L0_0, L0_1, L0_2, L0_3) => xat 20 .frz 1 [.lp ⟨1, [0, 1, 5], [[23]]⟩, .blk 0, .sub ⟨5, [1], [[23]]⟩] ⟨[(0, (.ref ⟨n0, k0⟩ 0)), (1, (.d .nils)), (5, (.d (.int .i64 v5)))], ⟨m, []⟩ :: (xsetO stk ⟨n0, k0⟩ (.cells [(.d (.str L0_0)), (.d (.int .i64 L0_1)), (.d (.bool L0_2)), (.d (.int .i64 L0_3))]))⟩) (fun (r0, r_w0_0, r_w0_1, r_w0_2, r_w0_3) => (some (.ret (.d (.sl (xmap e_string r0))), (xsetO stk ⟨n0, k0⟩ (.cells [(.d (.str r_w0_0)), (.d (.int .i64 r_w0_1)), (.d (.bool r_w0_2)), (.d (.int .i64 r_w0_3))]))) : Rk'))) out := by
  have hn0 : (n0 = m) = False := eq_false (Nat.ne_of_lt hl0)
  have hm0 : decide (n0 < m) = true := decide_eq_true hl0
  simp only [b_cascadelaw28_drain__0_3] at hp
  rw [h.at_, hT]
  cbv
  simp only [h.allsz_nil, h.allsz_cons]
  cbv
  simp only [h.allsz_nil, h.allsz_cons]
  cbv
  cases c8 : papp 16 ([] : List Str) [v6] with
  | none => simp only [c8] at hp; cases hp
  | some l7 =>
    simp only [c8] at hp
    obtain ⟨q1, q2, q3⟩ := h.app0 e_string c8 rfl
    simp only [h.map_cons, h.map_nil, he_e_string] at q1 q2 q3
    simp only [q1, if_true]
    try simp only [q3]
    try simp only [q2]
    cbv
    try simp only [if_false, if_true, hn0, hm0]
    first | exact h_l_4 hp stk (hg0) | (have q := h_l_4 hp stk (hg0); simp only [h.map_cons, h.map_nil, h.len_nil, he_e_uint8, he_e_string] at q; first | exact q | (cbv; exact q))
def b_cascadelaw28_drain__0_4 (P : Prims) (c_parts_Reader_Next__0 : Str → Int → Bool → Int → Option (Str × Bool × Str × Int × Bool × Int)) (l_6 : Nat → (List Str) → Int → Str → Int → Bool → Int → Option ((List Str) × Str × Int × Bool × Int)) (o23_g : Nat) (o23 : (List Str)) (v5 : Int) (L0_0 : Str) (L0_1 : Int) (L0_2 : Bool) (L0_3 : Int) : Option ((Int × Str × Int × Bool × Int) ⊕ ((List Str) × Str × Int × Bool × Int)) :=
  match l_6 o23_g o23 (P.ar .add .i64 v5 1) L0_0 L0_1 L0_2 L0_3 with | none => none | some o9 => some (.inr o9)
theorem o_cascadelaw28_drain__0_4 (c_parts_Reader_Next__0 : Str → Int → Bool → Int → Option (Str × Bool × Str × Int × Bool × Int)) (h_parts_Reader_Next__0 : ∀ {L0_0 : Str} {L0_1 : Int} {L0_2 : Bool} {L0_3 : Int} {r0 : Str} {r1 : Bool} {r_w0_0 : Str} {r_w0_1 : Int} {r_w0_2 : Bool} {r_w0_3 : Int}, c_parts_Reader_Next__0 L0_0 L0_1 L0_2 L0_3 = some (r0, r1, r_w0_0, r_w0_1, r_w0_2, r_w0_3) → ∀ (stk : Stk) (n0 : Nat) (k0 : List Nat), getO stk ⟨n0, k0⟩ = some (.cells [(.d (.str L0_0)), (.d (.int .i64 L0_1)), (.d (.bool L0_2)), (.d (.int .i64 L0_3))]) → n0 ≤ topN stk → xfcall 15 [(.ref ⟨n0, k0⟩ 0)] stk = some (.d (.tup [(.str r0), (.bool r1)]), (xsetO stk ⟨n0, k0⟩ (.cells [(.d (.str r_w0_0)), (.d (.int .i64 r_w0_1)), (.d (.bool r_w0_2)), (.d (.int .i64 r_w0_3))])))) (stk : Stk) (m : Nat) (n0 : Nat) (k0 : List Nat) (hl0 : n0 < m)  (l_6 : Nat → (List Str) → Int → Str → Int → Bool → Int → Option ((List Str) × Str × Int × Bool × Int)) (o23_g : Nat) (o23 : (List Str)) (v5 : Int) (L0_0 : Str) (L0_1 : Int) (L0_2 : Bool) (L0_3 : Int) (hg0 : getO stk ⟨n0, k0⟩ = some (.cells [(.d (.str L0_0)), (.d (.int .i64 L0_1)), (.d (.bool L0_2)), (.d (.int .i64 L0_3))])) (h_l_6 : ∀ {o23_g : Nat} {o23 : (List Str)} {v5 : Int} {L0_0 : Str} {L0_1 : Int} {L0_2 : Bool} {L0_3 : Int} {out}, l_6 o23_g o23 v5 L0_0 L0_1 L0_2 L0_3 = some out → ∀ (stk : Stk), getO stk ⟨n0, k0⟩ = some (.cells [(.d (.str L0_0)), (.d (.int .i64 L0_1)), (.d (.bool L0_2)), (.d (.int .i64 L0_3))]) → xat 20 .frz 1 [.lp ⟨1, [0, 1, 5], [[23]]⟩, .blk 0, .sub ⟨5, [1], [[23]]⟩] ⟨[(0, (.ref ⟨n0, k0⟩ 0)), (1, (.msl ⟨m, [23]⟩ o23_g 0 (xlen (xmap e_string o23)))), (5, (.d (.int .i64 v5)))], ⟨m, [([23], (.arr o23_g 1 (xmap e_string o23)))]⟩ :: stk⟩ = (fun (r0, r_w0_0, r_w0_1, r_w0_2, r_w0_3) => (some (.ret (.d (.sl (xmap e_string r0))), (xsetO stk ⟨n0, k0⟩ (.cells [(.d (.str r_w0_0)), (.d (.int .i64 r_w0_1)), (.d (.bool r_w0_2)), (.d (.int .i64 r_w0_3))]))) : Rk')) out) {out} (hp : b_cascadelaw28_drain__0_4 ⟨xar, xcmp, xwrap, xseq, xslt, xenc, pquo, pshf, pslen, psidx, pssub, pscat, psit, pslist, pofBytes, @plen, @pidx, @psub, @papp, @pset, @pmake, @ploop⟩ c_parts_Reader_Next__0 l_6 o23_g o23 v5 L0_0 L0_1 L0_2 L0_3 = some out) : xat 20 .frz 4 [.lp ⟨1, [0, 1, 5], [[23]]⟩, .blk 0, .sub ⟨5, [1], [[23]]⟩] ⟨[(0, (.ref ⟨n0, k0⟩ 0)), (1, (.msl ⟨m, [23]⟩ o23_g 0 (xlen (xmap e_string o23)))), (5, (.d (.int .i64 v5)))], ⟨m, [([23], (.arr o23_g 1 (xmap e_string o23)))]⟩ :: stk⟩ = (Sum.elim (fun (v5, L0_0, L0_1, L0_2, L0_3) => xat 20 .frz 1 [.lp ⟨1, [0, 1, 5], [[23]]⟩, .blk 0, .sub ⟨5, [1], [[23]]⟩] ⟨[(0, (.ref ⟨n0, k0⟩ 0)), (1, (.d .nils)), (5, (.d (.int .i64 v5)))], ⟨m, []⟩ :: (xsetO stk ⟨n0, k0⟩ (.cells [(.d (.str L0_0)), (.d (.int .i64 L0_1)), (.d (.bool L0_2)), (.d (.int .i64 L0_3))]))⟩) (fun (r0, r_w0_0, r_w0_1, r_w0_2, r_w0_3) => (some (.ret (.d (.sl (xmap e_string r0))), (xsetO stk ⟨n0, k0⟩ (.cells [(.d (.str r_w0_0)), (.d (.int .i64 r_w0_1)), (.d (.bool r_w0_2)), (.d (.int .i64 r_w0_3))]))) : Rk'))) out := by
  have hn0 : (n0 = m) = False := eq_false (Nat.ne_of_lt hl0)
  have hm0 : decide (n0 < m) = true := decide_eq_true hl0
  simp only [b_cascadelaw28_drain__0_4] at hp
  rw [h.at_, hT]
  cbv
  cases c : l_6 o23_g o23 (xar .add .i64 v5 1) L0_0 L0_1 L0_2 L0_3 with
  | none => simp only [c] at hp; cases hp
  | some o9 =>
    simp only [c] at hp
    cases hp
    try simp only [if_false, if_true, hn0, hm0]
    first | exact h_l_6 c stk (hg0) | (have q := h_l_6 c stk (hg0); simp only [h.map_cons, h.map_nil, h.len_nil, he_e_uint8, he_e_string] at q; first | exact q | (cbv; exact q))
def b_cascadelaw28_drain__0_6 (P : Prims) (c_parts_Reader_Next__0 : Str → Int → Bool → Int → Option (Str × Bool × Str × Int × Bool × Int)) (l_7 : Nat → (List Str) → Int → Str → Int → Bool → Int → Option ((Nat × (List Str) × Int × Str × Int × Bool × Int) ⊕ ((List Str) × Str × Int × Bool × Int))) (l_8 : Nat → (List Str) → Str → Int → Bool → Int → Option ((List Str) × Str × Int × Bool × Int)) (o23_g : Nat) (o23 : (List Str)) (v5 : Int) (L0_0 : Str) (L0_1 : Int) (L0_2 : Bool) (L0_3 : Int) : Option ((Nat × (List Str) × Int × Str × Int × Bool × Int) ⊕ ((List Str) × Str × Int × Bool × Int)) :=
  match P.cmp .lss v5 500 with
  | false =>
    match l_8 o23_g o23 L0_0 L0_1 L0_2 L0_3 with | none => none | some o11 => some (.inr o11)
  | true =>
    l_7 o23_g o23 v5 L0_0 L0_1 L0_2 L0_3
theorem o_cascadelaw28_drain__0_6 (c_parts_Reader_Next__0 : Str → Int → Bool → Int → Option (Str × Bool × Str × Int × Bool × Int)) (h_parts_Reader_Next__0 : ∀ {L0_0 : Str} {L0_1 : Int} {L0_2 : Bool} {L0_3 : Int} {r0 : Str} {r1 : Bool} {r_w0_0 : Str} {r_w0_1 : Int} {r_w0_2 : Bool} {r_w0_3 : Int}, c_parts_Reader_Next__0 L0_0 L0_1 L0_2 L0_3 = some (r0, r1, r_w0_0, r_w0_1, r_w0_2, r_w0_3) → ∀ (stk : Stk) (n0 : Nat) (k0 : List Nat), getO stk ⟨n0, k0⟩ = some (.cells [(.d (.str L0_0)), (.d (.int .i64 L0_1)), (.d (.bool L0_2)), (.d (.int .i64 L0_3))]) → n0 ≤ topN stk → xfcall 15 [(.ref ⟨n0, k0⟩ 0)] stk = some (.d (.tup [(.str r0), (.bool r1)]), (xsetO stk ⟨n0, k0⟩ (.cells [(.d (.str r_w0_0)), (.d (.int .i64 r_w0_1)), (.d (.bool r_w0_2)), (.d (.int .i64 r_w0_3))])))) (stk : Stk) (m : Nat) (n0 : Nat) (k0 : List Nat) (hl0 : n0 < m)  (l_7 : Nat → (List Str) → Int → Str → Int → Bool → Int → Option ((Nat × (List Str) × Int × Str × Int × Bool × Int) ⊕ ((List Str) × Str × Int × Bool × Int))) (l_8 : Nat → (List Str) → Str → Int → Bool → Int → Option ((List Str) × Str × Int × Bool × Int)) (o23_g : Nat) (o23 : (List Str)) (v5 : Int) (L0_0 : Str) (L0_1 : Int) (L0_2 : Bool) (L0_3 : Int) (hg0 : getO stk ⟨n0, k0⟩ = some (.cells [(.d (.str L0_0)), (.d (.int .i64 L0_1)), (.d (.bool L0_2)), (.d (.int .i64 L0_3))])) (h_l_7 : ∀ {o23_g : Nat} {o23 : (List Str)} {v5 : Int} {L0_0 : Str} {L0_1 : Int} {L0_2 : Bool} {L0_3 : Int} {out}, l_7 o23_g o23 v5 L0_0 L0_1 L0_2 L0_3 = some out → ∀ (stk : Stk), getO stk ⟨n0, k0⟩ = some (.cells [(.d (.str L0_0)), (.d (.int .i64 L0_1)), (.d (.bool L0_2)), (.d (.int .i64 L0_3))]) → xat 20 .frz 2 [.lp ⟨1, [0, 1, 5], [[23]]⟩, .blk 0, .sub ⟨5, [1], [[23]]⟩] ⟨[(0, (.ref ⟨n0, k0⟩ 0)), (1, (.msl ⟨m, [23]⟩ o23_g 0 (xlen (xmap e_string o23)))), (5, (.d (.int .i64 v5)))], ⟨m, [([23], (.arr o23_g 1 (xmap e_string o23)))]⟩ :: stk⟩ = (Sum.elim (fun (o23_g, o23, v5, L0_0, L0_1, L0_2, L0_3) => xat 20 .frz 1 [.lp ⟨1, [0, 1, 5], [[23]]⟩, .blk 0, .sub ⟨5, [1], [[23]]⟩] ⟨[(0, (.ref ⟨n0, k0⟩ 0)), (1, (.msl ⟨m, [23]⟩ o23_g 0 (xlen (xmap e_string o23)))), (5, (.d (.int .i64 v5)))], ⟨m, [([23], (.arr o23_g 1 (xmap e_string o23)))]⟩ :: (xsetO stk ⟨n0, k0⟩ (.cells [(.d (.str L0_0)), (.d (.int .i64 L0_1)), (.d (.bool L0_2)), (.d (.int .i64 L0_3))]))⟩) (fun (r0, r_w0_0, r_w0_1, r_w0_2, r_w0_3) => (some (.ret (.d (.sl (xmap e_string r0))), (xsetO stk ⟨n0, k0⟩ (.cells [(.d (.str r_w0_0)), (.d (.int .i64 r_w0_1)), (.d (.bool r_w0_2)), (.d (.int .i64 r_w0_3))]))) : Rk'))) out) (h_l_8 : ∀ {o23_g : Nat} {o23 : (List Str)} {L0_0 : Str} {L0_1 : Int} {L0_2 : Bool} {L0_3 : Int} {out}, l_8 o23_g o23 L0_0 L0_1 L0_2 L0_3 = some out → ∀ (stk : Stk), getO stk ⟨n0, k0⟩ = some (.cells [(.d (.str L0_0)), (.d (.int .i64 L0_1)), (.d (.bool L0_2)), (.d (.int .i64 L0_3))]) → xat 20 .frz 5 [] ⟨[(1, (.msl ⟨m, [23]⟩ o23_g 0 (xlen (xmap e_string o23))))], ⟨m, [([23], (.arr o23_g 1 (xmap e_string o23)))]⟩ :: stk⟩ = (fun (r0, r_w0_0, r_w0_1, r_w0_2, r_w0_3) => (some (.ret (.d (.sl (xmap e_string r0))), (xsetO stk ⟨n0, k0⟩ (.cells [(.d (.str r_w0_0)), (.d (.int .i64 r_w0_1)), (.d (.bool r_w0_2)), (.d (.int .i64 r_w0_3))]))) : Rk')) out) {out} (hp : b_cascadelaw28_drain__0_6 ⟨xar, xcmp, xwrap, xseq, xslt, xenc, pquo, pshf, pslen, psidx, pssub, pscat, psit, pslist, pofBytes, @plen, @pidx, @psub, @papp, @pset, @pmake, @ploop⟩ c_parts_Reader_Next__0 l_7 l_8 o23_g o23 v5 L0_0 L0_1 L0_2 L0_3 = some out) : xat 20 .frz 1 [.lp ⟨1, [0, 1, 5], [[23]]⟩, .blk 0, .sub ⟨5, [1], [[23]]⟩] ⟨[(0, (.ref ⟨n0, k0⟩ 0)), (1, (.msl ⟨m, [23]⟩ o23_g 0 (xlen (xmap e_string o23)))), (5, (.d (.int .i64 v5)))], ⟨m, [([23], (.arr o23_g 1 (xmap e_string o23)))]⟩ :: stk⟩ = (Sum.elim (fun (o23_g, o23, v5, L0_0, L0_1, L0_2, L0_3) => xat 20 .frz 1 [.lp ⟨1, [0, 1, 5], [[23]]⟩, .blk 0, .sub ⟨5, [1], [[23]]⟩] ⟨[(0, (.ref ⟨n0, k0⟩ 0)), (1, (.msl ⟨m, [23]⟩ o23_g 0 (xlen (xmap e_string o23)))), (5, (.d (.int .i64 v5)))], ⟨m, [([23], (.arr o23_g 1 (xmap e_string o23)))]⟩ :: (xsetO stk ⟨n0, k0⟩ (.cells [(.d (.str L0_0)), (.d (.int .i64 L0_1)), (.d (.bool L0_2)), (.d (.int .i64 L0_3))]))⟩) (fun (r0, r_w0_0, r_w0_1, r_w0_2, r_w0_3) => (some (.ret (.d (.sl (xmap e_string r0))), (xsetO stk ⟨n0, k0⟩ (.cells [(.d (.str r_w0_0)), (.d (.int .i64 r_w0_1)), (.d (.bool r_w0_2)), (.d (.int .i64 r_w0_3))]))) : Rk'))) out := by
  have hn0 : (n0 = m) = False := eq_false (Nat.ne_of_lt hl0)
  have hm0 : decide (n0 < m) = true := decide_eq_true hl0
  simp only [b_cascadelaw28_drain__0_6] at hp
  rw [h.at_, hT]
  cbv
  cases c10 : xcmp .lss v5 500 with
  | false =>
    simp only [c10] at hp ⊢
    cbv
    cases c : l_8 o23_g o23 L0_0 L0_1 L0_2 L0_3 with
    | none => simp only [c] at hp; cases hp
    | some o11 =>
      simp only [c] at hp
      cases hp
      try simp only [if_false, if_true, hn0, hm0]
      first | exact h_l_8 c stk (hg0) | (have q := h_l_8 c stk (hg0); simp only [h.map_cons, h.map_nil, h.len_nil, he_e_uint8, he_e_string] at q; first | exact q | (cbv; exact q))
  | true =>
    simp only [c10] at hp ⊢
    cbv
    try simp only [if_false, if_true, hn0, hm0]
    first | exact h_l_7 hp stk (hg0) | (have q := h_l_7 hp stk (hg0); simp only [h.map_cons, h.map_nil, h.len_nil, he_e_uint8, he_e_string] at q; first | exact q | (cbv; exact q))
def b_cascadelaw28_drain__0_7 (P : Prims) (c_parts_Reader_Next__0 : Str → Int → Bool → Int → Option (Str × Bool × Str × Int × Bool × Int)) (l_9 : Nat → (List Str) → Int → Str → Str → Int → Bool → Int → Option ((Nat × (List Str) × Int × Str × Int × Bool × Int) ⊕ ((List Str) × Str × Int × Bool × Int))) (o23_g : Nat) (o23 : (List Str)) (v5 : Int) (L0_0 : Str) (L0_1 : Int) (L0_2 : Bool) (L0_3 : Int) : Option ((Nat × (List Str) × Int × Str × Int × Bool × Int) ⊕ ((List Str) × Str × Int × Bool × Int)) :=
  match c_parts_Reader_Next__0 L0_0 L0_1 L0_2 L0_3 with
  | none => none
  | some (r12_0, r12_1, r12_w0_0, r12_w0_1, r12_w0_2, r12_w0_3) =>
    match r12_1 with
    | false =>
      some (.inr (o23, r12_w0_0, r12_w0_1, r12_w0_2, r12_w0_3))
    | true =>
      l_9 o23_g o23 v5 r12_0 r12_w0_0 r12_w0_1 r12_w0_2 r12_w0_3
theorem o_cascadelaw28_drain__0_7 (c_parts_Reader_Next__0 : Str → Int → Bool → Int → Option (Str × Bool × Str × Int × Bool × Int)) (h_parts_Reader_Next__0 : ∀ {L0_0 : Str} {L0_1 : Int} {L0_2 : Bool} {L0_3 : Int} {r0 : Str} {r1 : Bool} {r_w0_0 : Str} {r_w0_1 : Int} {r_w0_2 : Bool} {r_w0_3 : Int}, c_parts_Reader_Next__0 L0_0 L0_1 L0_2 L0_3 = some (r0, r1, r_w0_0, r_w0_1, r_w0_2, r_w0_3) → ∀ (stk : Stk) (n0 : Nat) (k0 : List Nat), getO stk ⟨n0, k0⟩ = some (.cells [(.d (.str L0_0)), (.d (.int .i64 L0_1)), (.d (.bool L0_2)), (.d (.int .i64 L0_3))]) → n0 ≤ topN stk → xfcall 15 [(.ref ⟨n0, k0⟩ 0)] stk = some (.d (.tup [(.str r0), (.bool r1)]), (xsetO stk ⟨n0, k0⟩ (.cells [(.d (.str r_w0_0)), (.d (.int .i64 r_w0_1)), (.d (.bool r_w0_2)), (.d (.int .i64 r_w0_3))])))) (stk : Stk) (m : Nat) (n0 : Nat) (k0 : List Nat) (hl0 : n0 < m)  (l_9 : Nat → (List Str) → Int → Str → Str → Int → Bool → Int → Option ((Nat × (List Str) × Int × Str × Int × Bool × Int) ⊕ ((List Str) × Str × Int × Bool × Int))) (o23_g : Nat) (o23 : (List Str)) (v5 : Int) (L0_0 : Str) (L0_1 : Int) (L0_2 : Bool) (L0_3 : Int) (hg0 : getO stk ⟨n0, k0⟩ = some (.cells [(.d (.str L0_0)), (.d (.int .i64 L0_1)), (.d (.bool L0_2)), (.d (.int .i64 L0_3))])) (h_l_9 : ∀ {o23_g : Nat} {o23 : (List Str)} {v5 : Int} {v6 : Str} {L0_0 : Str} {L0_1 : Int} {L0_2 : Bool} {L0_3 : Int} {out}, l_9 o23_g o23 v5 v6 L0_0 L0_1 L0_2 L0_3 = some out → ∀ (stk : Stk), getO stk ⟨n0, k0⟩ = some (.cells [(.d (.str L0_0)), (.d (.int .i64 L0_1)), (.d (.bool L0_2)), (.d (.int .i64 L0_3))]) → xat 20 .frz 3 [.blk 1, .sub ⟨4, [0, 1, 5], [[23]]⟩, .lp ⟨1, [0, 1, 5], [[23]]⟩, .blk 0, .sub ⟨5, [1], [[23]]⟩] ⟨[(0, (.ref ⟨n0, k0⟩ 0)), (1, (.msl ⟨m, [23]⟩ o23_g 0 (xlen (xmap e_string o23)))), (5, (.d (.int .i64 v5))), (6, (.d (.str v6)))], ⟨m, [([23], (.arr o23_g 1 (xmap e_string o23)))]⟩ :: stk⟩ = (Sum.elim (fun (o23_g, o23, v5, L0_0, L0_1, L0_2, L0_3) => xat 20 .frz 1 [.lp ⟨1, [0, 1, 5], [[23]]⟩, .blk 0, .sub ⟨5, [1], [[23]]⟩] ⟨[(0, (.ref ⟨n0, k0⟩ 0)), (1, (.msl ⟨m, [23]⟩ o23_g 0 (xlen (xmap e_string o23)))), (5, (.d (.int .i64 v5)))], ⟨m, [([23], (.arr o23_g 1 (xmap e_string o23)))]⟩ :: (xsetO stk ⟨n0, k0⟩ (.cells [(.d (.str L0_0)), (.d (.int .i64 L0_1)), (.d (.bool L0_2)), (.d (.int .i64 L0_3))]))⟩) (fun (r0, r_w0_0, r_w0_1, r_w0_2, r_w0_3) => (some (.ret (.d (.sl (xmap e_string r0))), (xsetO stk ⟨n0, k0⟩ (.cells [(.d (.str r_w0_0)), (.d (.int .i64 r_w0_1)), (.d (.bool r_w0_2)), (.d (.int .i64 r_w0_3))]))) : Rk'))) out) {out} (hp : b_cascadelaw28_drain__0_7 ⟨xar, xcmp, xwrap, xseq, xslt, xenc, pquo, pshf, pslen, psidx, pssub, pscat, psit, pslist, pofBytes, @plen, @pidx, @psub, @papp, @pset, @pmake, @ploop⟩ c_parts_Reader_Next__0 l_9 o23_g o23 v5 L0_0 L0_1 L0_2 L0_3 = some out) : xat 20 .frz 2 [.lp ⟨1, [0, 1, 5], [[23]]⟩, .blk 0, .sub ⟨5, [1], [[23]]⟩] ⟨[(0, (.ref ⟨n0, k0⟩ 0)), (1, (.msl ⟨m, [23]⟩ o23_g 0 (xlen (xmap e_string o23)))), (5, (.d (.int .i64 v5)))], ⟨m, [([23], (.arr o23_g 1 (xmap e_string o23)))]⟩ :: stk⟩ = (Sum.elim (fun (o23_g, o23, v5, L0_0, L0_1, L0_2, L0_3) => xat 20 .frz 1 [.lp ⟨1, [0, 1, 5], [[23]]⟩, .blk 0, .sub ⟨5, [1], [[23]]⟩] ⟨[(0, (.ref ⟨n0, k0⟩ 0)), (1, (.msl ⟨m, [23]⟩ o23_g 0 (xlen (xmap e_string o23)))), (5, (.d (.int .i64 v5)))], ⟨m, [([23], (.arr o23_g 1 (xmap e_string o23)))]⟩ :: (xsetO stk ⟨n0, k0⟩ (.cells [(.d (.str L0_0)), (.d (.int .i64 L0_1)), (.d (.bool L0_2)), (.d (.int .i64 L0_3))]))⟩) (fun (r0, r_w0_0, r_w0_1, r_w0_2, r_w0_3) => (some (.ret (.d (.sl (xmap e_string r0))), (xsetO stk ⟨n0, k0⟩ (.cells [(.d (.str r_w0_0)), (.d (.int .i64 r_w0_1)), (.d (.bool r_w0_2)), (.d (.int .i64 r_w0_3))]))) : Rk'))) out := by
  have hn0 : (n0 = m) = False := eq_false (Nat.ne_of_lt hl0)
  have hm0 : decide (n0 < m) = true := decide_eq_true hl0
  simp only [b_cascadelaw28_drain__0_7] at hp
  rw [h.at_, hT]
  cbv
  cases c13 : c_parts_Reader_Next__0 L0_0 L0_1 L0_2 L0_3 with
  | none => simp only [c13] at hp; cases hp
  | some y15 =>
    obtain ⟨r12_0, r12_1, r12_w0_0, r12_w0_1, r12_w0_2, r12_w0_3⟩ := y15
    simp only [c13] at hp
    have qc := h_parts_Reader_Next__0 c13 (⟨m, [([23], (.arr o23_g 1 (xmap e_string o23)))]⟩ :: stk) n0 k0 ((h.gb hl0 _ _).trans (hg0)) (Nat.le_of_lt hl0)
    simp only [qc]
    simp only [h.st_, h.sb_ hl0]
    cbv
    cases r12_1 with
    | false =>
      simp only at hp
      cbv
      cases hp
      try (simp only [h.so])
      try simp only [if_false, if_true, hn0, hm0]
      all_goals first | rfl | (cbv; done) | (simp only [h.nadd0, h.nle_refl, h.cut_all, h.cut_nil, h.map_cons, h.map_nil, h.len_nil, he_e_uint8, he_e_string, if_true]; done) | (simp only [h.nadd0, h.nle_refl, h.cut_all, h.cut_nil, h.map_cons, h.map_nil, h.len_nil, he_e_uint8, he_e_string, if_true]; first | rfl | (cbv; done) | (cbv; simp only [h.map_cons, h.map_nil, h.len_nil, he_e_uint8, he_e_string]; done))
    | true =>
      simp only at hp
      cbv
      try simp only [if_false, if_true, hn0, hm0]
      have q := h_l_9 hp (xsetO stk ⟨n0, k0⟩ (.cells [(.d (.str r12_w0_0)), (.d (.int .i64 r12_w0_1)), (.d (.bool r12_w0_2)), (.d (.int .i64 r12_w0_3))])) ((h.gs (hg0) _))
      first | (refine q.trans ?_; simp only [h.so]; done) | (refine q.trans ?_; simp only [h.so]; rfl) | (simp only [h.map_cons, h.map_nil, h.len_nil, he_e_uint8, he_e_string] at q; cbv; refine q.trans ?_; simp only [h.so]; done) | (simp only [h.map_cons, h.map_nil, h.len_nil, he_e_uint8, he_e_string] at q; cbv; refine q.trans ?_; simp only [h.so]; rfl)
def b_cascadelaw28_drain__0_8 (P : Prims) (c_parts_Reader_Next__0 : Str → Int → Bool → Int → Option (Str × Bool × Str × Int × Bool × Int))  (o23_g : Nat) (o23 : (List Str)) (L0_0 : Str) (L0_1 : Int) (L0_2 : Bool) (L0_3 : Int) : Option ((List Str) × Str × Int × Bool × Int) :=
  some (o23, L0_0, L0_1, L0_2, L0_3)
theorem o_cascadelaw28_drain__0_8 (c_parts_Reader_Next__0 : Str → Int → Bool → Int → Option (Str × Bool × Str × Int × Bool × Int)) (h_parts_Reader_Next__0 : ∀ {L0_0 : Str} {L0_1 : Int} {L0_2 : Bool} {L0_3 : Int} {r0 : Str} {r1 : Bool} {r_w0_0 : Str} {r_w0_1 : Int} {r_w0_2 : Bool} {r_w0_3 : Int}, c_parts_Reader_Next__0 L0_0 L0_1 L0_2 L0_3 = some (r0, r1, r_w0_0, r_w0_1, r_w0_2, r_w0_3) → ∀ (stk : Stk) (n0 : Nat) (k0 : List Nat), getO stk ⟨n0, k0⟩ = some (.cells [(.d (.str L0_0)), (.d (.int .i64 L0_1)), (.d (.bool L0_2)), (.d (.int .i64 L0_3))]) → n0 ≤ topN stk → xfcall 15 [(.ref ⟨n0, k0⟩ 0)] stk = some (.d (.tup [(.str r0), (.bool r1)]), (xsetO stk ⟨n0, k0⟩ (.cells [(.d (.str r_w0_0)), (.d (.int .i64 r_w0_1)), (.d (.bool r_w0_2)), (.d (.int .i64 r_w0_3))])))) (stk : Stk) (m : Nat) (n0 : Nat) (k0 : List Nat) (hl0 : n0 < m)   (o23_g : Nat) (o23 : (List Str)) (L0_0 : Str) (L0_1 : Int) (L0_2 : Bool) (L0_3 : Int) (hg0 : getO stk ⟨n0, k0⟩ = some (.cells [(.d (.str L0_0)), (.d (.int .i64 L0_1)), (.d (.bool L0_2)), (.d (.int .i64 L0_3))]))  {out} (hp : b_cascadelaw28_drain__0_8 ⟨xar, xcmp, xwrap, xseq, xslt, xenc, pquo, pshf, pslen, psidx, pssub, pscat, psit, pslist, pofBytes, @plen, @pidx, @psub, @papp, @pset, @pmake, @ploop⟩ c_parts_Reader_Next__0  o23_g o23 L0_0 L0_1 L0_2 L0_3 = some out) : xat 20 .frz 5 [] ⟨[(1, (.msl ⟨m, [23]⟩ o23_g 0 (xlen (xmap e_string o23))))], ⟨m, [([23], (.arr o23_g 1 (xmap e_string o23)))]⟩ :: stk⟩ = (fun (r0, r_w0_0, r_w0_1, r_w0_2, r_w0_3) => (some (.ret (.d (.sl (xmap e_string r0))), (xsetO stk ⟨n0, k0⟩ (.cells [(.d (.str r_w0_0)), (.d (.int .i64 r_w0_1)), (.d (.bool r_w0_2)), (.d (.int .i64 r_w0_3))]))) : Rk')) out := by
  have hn0 : (n0 = m) = False := eq_false (Nat.ne_of_lt hl0)
  have hm0 : decide (n0 < m) = true := decide_eq_true hl0
  simp only [b_cascadelaw28_drain__0_8] at hp
  rw [h.at_, hT]
  cbv
  cases hp
  try (simp only [h.ss hg0])
  try simp only [if_false, if_true, hn0, hm0]
  all_goals first | rfl | (cbv; done) | (simp only [h.nadd0, h.nle_refl, h.cut_all, h.cut_nil, h.map_cons, h.map_nil, h.len_nil, he_e_uint8, he_e_string, if_true]; done) | (simp only [h.nadd0, h.nle_refl, h.cut_all, h.cut_nil, h.map_cons, h.map_nil, h.len_nil, he_e_uint8, he_e_string, if_true]; first | rfl | (cbv; done) | (cbv; simp only [h.map_cons, h.map_nil, h.len_nil, he_e_uint8, he_e_string]; done))
def b_cascadelaw28_drain__0_9 (P : Prims) (c_parts_Reader_Next__0 : Str → Int → Bool → Int → Option (Str × Bool × Str × Int × Bool × Int)) (l_10 : Nat → (List Str) → Int → Str → Int → Bool → Int → Option ((Nat × (List Str) × Int × Str × Int × Bool × Int) ⊕ ((List Str) × Str × Int × Bool × Int))) (o23_g : Nat) (o23 : (List Str)) (v5 : Int) (v6 : Str) (L0_0 : Str) (L0_1 : Int) (L0_2 : Bool) (L0_3 : Int) : Option ((Nat × (List Str) × Int × Str × Int × Bool × Int) ⊕ ((List Str) × Str × Int × Bool × Int)) :=
  match P.app 16 o23 [v6] with
  | none => none
  | some l16 =>
    l_10 (o23_g + 1) l16 v5 L0_0 L0_1 L0_2 L0_3
theorem o_cascadelaw28_drain__0_9 (c_parts_Reader_Next__0 : Str → Int → Bool → Int → Option (Str × Bool × Str × Int × Bool × Int)) (h_parts_Reader_Next__0 : ∀ {L0_0 : Str} {L0_1 : Int} {L0_2 : Bool} {L0_3 : Int} {r0 : Str} {r1 : Bool} {r_w0_0 : Str} {r_w0_1 : Int} {r_w0_2 : Bool} {r_w0_3 : Int}, c_parts_Reader_Next__0 L0_0 L0_1 L0_2 L0_3 = some (r0, r1, r_w0_0, r_w0_1, r_w0_2, r_w0_3) → ∀ (stk : Stk) (n0 : Nat) (k0 : List Nat), getO stk ⟨n0, k0⟩ = some (.cells [(.d (.str L0_0)), (.d (.int .i64 L0_1)), (.d (.bool L0_2)), (.d (.int .i64 L0_3))]) → n0 ≤ topN stk → xfcall 15 [(.ref ⟨n0, k0⟩ 0)] stk = some (.d (.tup [(.str r0), (.bool r1)]), (xsetO stk ⟨n0, k0⟩ (.cells [(.d (.str r_w0_0)), (.d (.int .i64 r_w0_1)), (.d (.bool r_w0_2)), (.d (.int .i64 r_w0_3))])))) (stk : Stk) (m : Nat) (n0 : Nat) (k0 : List Nat) (hl0 : n0 < m)  (l_10 : Nat → (List Str) → Int → Str → Int → Bool → Int → Option ((Nat × (List Str) × Int × Str × Int × Bool × Int) ⊕ ((List Str) × Str × Int × Bool × Int))) (o23_g : Nat) (o23 : (List Str)) (v5 : Int) (v6 : Str) (L0_0 : Str) (L0_1 : Int) (L0_2 : Bool) (L0_3 : Int) (hg0 : getO stk ⟨n0, k0⟩ = some (.cells [(.d (.str L0_0)), (.d (.int .i64 L0_1)), (.d (.bool L0_2)), (.d (.int .i64 L0_3))])) (h_l_10 : ∀ {o23_g : Nat} {o23 : (List Str)} {v5 : Int} {L0_0 : Str} {L0_1 : Int} {L0_2 : Bool} {L0_3 : Int} {out}, l_10 o23_g o23 v5 L0_0 L0_1 L0_2 L0_3 = some out → ∀ (stk : Stk), getO stk ⟨n0, k0⟩ = some (.cells [(.d (.str L0_0)), (.d (.int .i64 L0_1)), (.d (.bool L0_2)), (.d (.int .i64 L0_3))]) → xat 20 .frz 4 [.lp ⟨1, [0, 1, 5], [[23]]⟩, .blk 0, .sub ⟨5, [1], [[23]]⟩] ⟨[(0, (.ref ⟨n0, k0⟩ 0)), (1, (.msl ⟨m, [23]⟩ o23_g 0 (xlen (xmap e_string o23)))), (5, (.d (.int .i64 v5)))], ⟨m, [([23], (.arr o23_g 1 (xmap e_string o23)))]⟩ :: stk⟩ = (Sum.elim (fun (o23_g, o23, v5, L0_0, L0_1, L0_2, L0_3) => xat 20 .frz 1 [.lp ⟨1, [0, 1, 5], [[23]]⟩, .blk 0, .sub ⟨5, [1], [[23]]⟩] ⟨[(0, (.ref ⟨n0, k0⟩ 0)), (1, (.msl ⟨m, [23]⟩ o23_g 0 (xlen (xmap e_string o23)))), (5, (.d (.int .i64 v5)))], ⟨m, [([23], (.arr o23_g 1 (xmap e_string o23)))]⟩ :: (xsetO stk ⟨n0, k0⟩ (.cells [(.d (.str L0_0)), (.d (.int .i64 L0_1)), (.d (.bool L0_2)), (.d (.int .i64 L0_3))]))⟩) (fun (r0, r_w0_0, r_w0_1, r_w0_2, r_w0_3) => (some (.ret (.d (.sl (xmap e_string r0))), (xsetO stk ⟨n0, k0⟩ (.cells [(.d (.str r_w0_0)), (.d (.int .i64 r_w0_1)), (.d (.bool r_w0_2)), (.d (.int .i64 r_w0_3))]))) : Rk'))) out) {out} (hp : b_cascadelaw28_drain__0_9 ⟨xar, xcmp, xwrap, xseq, xslt, xenc, pquo, pshf, pslen, psidx, pssub, pscat, psit, pslist, pofBytes, @plen, @pidx, @psub, @papp, @pset, @pmake, @ploop⟩ c_parts_Reader_Next__0 l_10 o23_g o23 v5 v6 L0_0 L0_1 L0_2 L0_3 = some out) : xat 20 .frz 3 [.blk 1, .sub ⟨4, [0, 1, 5], [[23]]⟩, .lp ⟨1, [0, 1, 5], [[23]]⟩, .blk 0, .sub ⟨5, [1], [[23]]⟩] ⟨[(0, (.ref ⟨n0, k0⟩ 0)), (1, (.msl ⟨m, [23]⟩ o23_g 0 (xlen (xmap e_string o23)))), (5, (.d (.int .i64 v5))), (6, (.d (.str v6)))], ⟨m, [([23], (.arr o23_g 1 (xmap e_string o23)))]⟩ :: stk⟩ = (Sum.elim (fun (o23_g, o23, v5, L0_0, L0_1, L0_2, L0_3) => xat 20 .frz 1 [.lp ⟨1, [0, 1, 5], [[23]]⟩, .blk 0, .sub ⟨5, [1], [[23]]⟩] ⟨[(0, (.ref ⟨n0, k0⟩ 0)), (1, (.msl ⟨m, [23]⟩ o23_g 0 (xlen (xmap e_string o23)))), (5, (.d (.int .i64 v5)))], ⟨m, [([23], (.arr o23_g 1 (xmap e_string o23)))]⟩ :: (xsetO stk ⟨n0, k0⟩ (.cells [(.d (.str L0_0)), (.d (.int .i64 L0_1)), (.d (.bool L0_2)), (.d (.int .i64 L0_3))]))⟩) (fun (r0, r_w0_0, r_w0_1, r_w0_2, r_w0_3) => (some (.ret (.d (.sl (xmap e_string r0))), (xsetO stk ⟨n0, k0⟩ (.cells [(.d (.str r_w0_0)), (.d (.int .i64 r_w0_1)), (.d (.bool r_w0_2)), (.d (.int .i64 r_w0_3))]))) : Rk'))) out := by
  have hn0 : (n0 = m) = False := eq_false (Nat.ne_of_lt hl0)
  have hm0 : decide (n0 < m) = true := decide_eq_true hl0
  simp only [b_cascadelaw28_drain__0_9] at hp
  rw [h.at_, hT]
  cbv
  simp only [h.allsz_nil, h.allsz_cons]
  cbv
  simp only [h.allsz_nil, h.allsz_cons]
  cbv
  cases c17 : papp 16 o23 [v6] with
  | none => simp only [c17] at hp; cases hp
  | some l16 =>
    simp only [c17] at hp
    obtain ⟨q1, q2, q3⟩ := h.app e_string c17 rfl
    simp only [h.map_cons, h.map_nil, h.len_nil, he_e_string] at q1 q2 q3
    try simp only [h.len_nil]
    cbv
    simp only [q1, q2, q3, if_true]
    cbv
    try simp only [if_false, if_true, hn0, hm0]
    first | exact h_l_10 hp stk (hg0) | (have q := h_l_10 hp stk (hg0); simp only [h.map_cons, h.map_nil, h.len_nil, he_e_uint8, he_e_string] at q; first | exact q | (cbv; exact q))
def b_cascadelaw28_drain__0_10 (P : Prims) (c_parts_Reader_Next__0 : Str → Int → Bool → Int → Option (Str × Bool × Str × Int × Bool × Int))  (o23_g : Nat) (o23 : (List Str)) (v5 : Int) (L0_0 : Str) (L0_1 : Int) (L0_2 : Bool) (L0_3 : Int) : Option ((Nat × (List Str) × Int × Str × Int × Bool × Int) ⊕ ((List Str) × Str × Int × Bool × Int)) :=
  some (.inl (o23_g, o23, P.ar .add .i64 v5 1, L0_0, L0_1, L0_2, L0_3))
theorem o_cascadelaw28_drain__0_10 (c_parts_Reader_Next__0 : Str → Int → Bool → Int → Option (Str × Bool × Str × Int × Bool × Int)) (h_parts_Reader_Next__0 : ∀ {L0_0 : Str} {L0_1 : Int} {L0_2 : Bool} {L0_3 : Int} {r0 : Str} {r1 : Bool} {r_w0_0 : Str} {r_w0_1 : Int} {r_w0_2 : Bool} {r_w0_3 : Int}, c_parts_Reader_Next__0 L0_0 L0_1 L0_2 L0_3 = some (r0, r1, r_w0_0, r_w0_1, r_w0_2, r_w0_3) → ∀ (stk : Stk) (n0 : Nat) (k0 : List Nat), getO stk ⟨n0, k0⟩ = some (.cells [(.d (.str L0_0)), (.d (.int .i64 L0_1)), (.d (.bool L0_2)), (.d (.int .i64 L0_3))]) → n0 ≤ topN stk → xfcall 15 [(.ref ⟨n0, k0⟩ 0)] stk = some (.d (.tup [(.str r0), (.bool r1)]), (xsetO stk ⟨n0, k0⟩ (.cells [(.d (.str r_w0_0)), (.d (.int .i64 r_w0_1)), (.d (.bool r_w0_2)), (.d (.int .i64 r_w0_3))])))) (stk : Stk) (m : Nat) (n0 : Nat) (k0 : List Nat) (hl0 : n0 < m)   (o23_g : Nat) (o23 : (List Str)) (v5 : Int) (L0_0 : Str) (L0_1 : Int) (L0_2 : Bool) (L0_3 : Int) (hg0 : getO stk ⟨n0, k0⟩ = some (.cells [(.d (.str L0_0)), (.d (.int .i64 L0_1)), (.d (.bool L0_2)), (.d (.int .i64 L0_3))]))  {out} (hp : b_cascadelaw28_drain__0_10 ⟨xar, xcmp, xwrap, xseq, xslt, xenc, pquo, pshf, pslen, psidx, pssub, pscat, psit, pslist, pofBytes, @plen, @pidx, @psub, @papp, @pset, @pmake, @ploop⟩ c_parts_Reader_Next__0  o23_g o23 v5 L0_0 L0_1 L0_2 L0_3 = some out) : xat 20 .frz 4 [.lp ⟨1, [0, 1, 5], [[23]]⟩, .blk 0, .sub ⟨5, [1], [[23]]⟩] ⟨[(0, (.ref ⟨n0, k0⟩ 0)), (1, (.msl ⟨m, [23]⟩ o23_g 0 (xlen (xmap e_string o23)))), (5, (.d (.int .i64 v5)))], ⟨m, [([23], (.arr o23_g 1 (xmap e_string o23)))]⟩ :: stk⟩ = (Sum.elim (fun (o23_g, o23, v5, L0_0, L0_1, L0_2, L0_3) => xat 20 .frz 1 [.lp ⟨1, [0, 1, 5], [[23]]⟩, .blk 0, .sub ⟨5, [1], [[23]]⟩] ⟨[(0, (.ref ⟨n0, k0⟩ 0)), (1, (.msl ⟨m, [23]⟩ o23_g 0 (xlen (xmap e_string o23)))), (5, (.d (.int .i64 v5)))], ⟨m, [([23], (.arr o23_g 1 (xmap e_string o23)))]⟩ :: (xsetO stk ⟨n0, k0⟩ (.cells [(.d (.str L0_0)), (.d (.int .i64 L0_1)), (.d (.bool L0_2)), (.d (.int .i64 L0_3))]))⟩) (fun (r0, r_w0_0, r_w0_1, r_w0_2, r_w0_3) => (some (.ret (.d (.sl (xmap e_string r0))), (xsetO stk ⟨n0, k0⟩ (.cells [(.d (.str r_w0_0)), (.d (.int .i64 r_w0_1)), (.d (.bool r_w0_2)), (.d (.int .i64 r_w0_3))]))) : Rk'))) out := by
  have hn0 : (n0 = m) = False := eq_false (Nat.ne_of_lt hl0)
  have hm0 : decide (n0 < m) = true := decide_eq_true hl0
  simp only [b_cascadelaw28_drain__0_10] at hp
  rw [h.at_, hT]
  cbv
  cases hp
  try (simp only [h.ss hg0])
  try simp only [if_false, if_true, hn0, hm0]
  all_goals first | rfl | (cbv; done) | (simp only [h.nadd0, h.nle_refl, h.cut_all, h.cut_nil, h.map_cons, h.map_nil, h.len_nil, he_e_uint8, he_e_string, if_true]; done) | (simp only [h.nadd0, h.nle_refl, h.cut_all, h.cut_nil, h.map_cons, h.map_nil, h.len_nil, he_e_uint8, he_e_string, if_true]; first | rfl | (cbv; done) | (cbv; simp only [h.map_cons, h.map_nil, h.len_nil, he_e_uint8, he_e_string]; done))
def b_cascaderef12_SameNames_0 (P : Prims)  (l_2 : (List Str) → (List Str) → Int → Option (Bool)) (v0 : (List Str)) (v1 : (List Str)) : Option (Bool) :=
  match P.cmp .neq (P.len v0) (P.len v1) with
  | false =>
    l_2 v0 v1 0
  | true =>
    some false
theorem o_cascaderef12_SameNames_0   (stk : Stk) (m : Nat)    (l_2 : (List Str) → (List Str) → Int → Option (Bool)) (v0 : (List Str)) (v1 : (List Str))  (h_l_2 : ∀ {v0 : (List Str)} {v1 : (List Str)} {v5 : Int} {out}, l_2 v0 v1 v5 = some out → ∀ (stk : Stk), xat 21 .frz 2 [.lp ⟨2, [0, 1, 5], []⟩, .blk 0, .sub ⟨5, [], []⟩] ⟨[(0, (.d (.sl (xmap e_string v0)))), (1, (.d (.sl (xmap e_string v1)))), (5, (.d (.int .i64 v5)))], ⟨m, []⟩ :: stk⟩ = (fun r0 => (some (.ret (.d (.bool r0)), stk) : Rk')) out) {out} (hp : b_cascaderef12_SameNames_0 ⟨xar, xcmp, xwrap, xseq, xslt, xenc, pquo, pshf, pslen, psidx, pssub, pscat, psit, pslist, pofBytes, @plen, @pidx, @psub, @papp, @pset, @pmake, @ploop⟩  l_2 v0 v1 = some out) : xat 21 .frz 0 [] ⟨[(0, (.d (.sl (xmap e_string v0)))), (1, (.d (.sl (xmap e_string v1))))], ⟨m, []⟩ :: stk⟩ = (fun r0 => (some (.ret (.d (.bool r0)), stk) : Rk')) out := by
  simp only [b_cascaderef12_SameNames_0] at hp
  rw [h.at_, hT]
  cbv
  try simp only [h.len]
  try simp only [h.len]
  cases c1 : xcmp .neq (plen v0) (plen v1) with
  | false =>
    simp only [c1] at hp ⊢
    cbv
    rw [h.at_, hT]
    cbv
    first | exact h_l_2 hp _ | (have q := h_l_2 hp _; simp only [h.map_cons, h.map_nil, h.len_nil, he_e_uint8, he_e_string] at q; first | exact q | (cbv; exact q))
  | true =>
    simp only [c1] at hp ⊢
    cbv
    cases hp
    all_goals first | rfl | (cbv; done) | (simp only [h.nadd0, h.nle_refl, h.cut_all, h.cut_nil, h.map_cons, h.map_nil, h.len_nil, he_e_uint8, he_e_string, if_true]; done) | (simp only [h.nadd0, h.nle_refl, h.cut_all, h.cut_nil, h.map_cons, h.map_nil, h.len_nil, he_e_uint8, he_e_string, if_true]; first | rfl | (cbv; done) | (cbv; simp only [h.map_cons, h.map_nil, h.len_nil, he_e_uint8, he_e_string]; done))
def b_cascaderef12_SameNames_2 (P : Prims)   (v0 : (List Str)) (v1 : (List Str)) (v5 : Int) : Option (((List Str) × (List Str) × Int) ⊕ (Bool)) :=
  match P.cmp .lss v5 (P.len v0) with
  | false =>
    some (.inr true)
  | true =>
    match P.idx v0 v5 with
    | none => none
    | some a3 =>
      match P.idx v1 v5 with
      | none => none
      | some a5 =>
        match P.seq a3 a5 with
        | false =>
          some (.inr false)
        | true =>
          some (.inl (v0, v1, P.ar .add .i64 v5 1))
theorem o_cascaderef12_SameNames_2   (stk : Stk) (m : Nat)     (v0 : (List Str)) (v1 : (List Str)) (v5 : Int)   {out} (hp : b_cascaderef12_SameNames_2 ⟨xar, xcmp, xwrap, xseq, xslt, xenc, pquo, pshf, pslen, psidx, pssub, pscat, psit, pslist, pofBytes, @plen, @pidx, @psub, @papp, @pset, @pmake, @ploop⟩   v0 v1 v5 = some out) : xat 21 .frz 2 [.lp ⟨2, [0, 1, 5], []⟩, .blk 0, .sub ⟨5, [], []⟩] ⟨[(0, (.d (.sl (xmap e_string v0)))), (1, (.d (.sl (xmap e_string v1)))), (5, (.d (.int .i64 v5)))], ⟨m, []⟩ :: stk⟩ = (Sum.elim (fun (v0, v1, v5) => xat 21 .frz 2 [.lp ⟨2, [0, 1, 5], []⟩, .blk 0, .sub ⟨5, [], []⟩] ⟨[(0, (.d (.sl (xmap e_string v0)))), (1, (.d (.sl (xmap e_string v1)))), (5, (.d (.int .i64 v5)))], ⟨m, []⟩ :: stk⟩) (fun r0 => (some (.ret (.d (.bool r0)), stk) : Rk'))) out := by
  simp only [b_cascaderef12_SameNames_2] at hp
  rw [h.at_, hT]
  cbv
  try simp only [h.len]
  cases c2 : xcmp .lss v5 (plen v0) with
  | false =>
    simp only [c2] at hp ⊢
    cbv
    rw [h.at_, hT]
    cbv
    cases hp
    all_goals first | rfl | (cbv; done) | (simp only [h.nadd0, h.nle_refl, h.cut_all, h.cut_nil, h.map_cons, h.map_nil, h.len_nil, he_e_uint8, he_e_string, if_true]; done) | (simp only [h.nadd0, h.nle_refl, h.cut_all, h.cut_nil, h.map_cons, h.map_nil, h.len_nil, he_e_uint8, he_e_string, if_true]; first | rfl | (cbv; done) | (cbv; simp only [h.map_cons, h.map_nil, h.len_nil, he_e_uint8, he_e_string]; done))
  | true =>
    simp only [c2] at hp ⊢
    cbv
    rw [h.at_, hT]
    cbv
    cases c4 : pidx v0 v5 with
    | none => simp only [c4] at hp; cases hp
    | some a3 =>
      simp only [c4] at hp
      obtain ⟨q1, q2⟩ := h.idx e_string c4
      simp only [he_e_string] at q2
      simp only [q1, Bool.false_eq_true, if_false]
      cbv
      try simp only [q2]
      cbv
      cases c6 : pidx v1 v5 with
      | none => simp only [c6] at hp; cases hp
      | some a5 =>
        simp only [c6] at hp
        obtain ⟨q1, q2⟩ := h.idx e_string c6
        simp only [he_e_string] at q2
        simp only [q1, Bool.false_eq_true, if_false]
        cbv
        try simp only [q2]
        cbv
        cases c7 : xseq a3 a5 with
        | false =>
          simp only [c7] at hp ⊢
          cbv
          cases hp
          all_goals first | rfl | (cbv; done) | (simp only [h.nadd0, h.nle_refl, h.cut_all, h.cut_nil, h.map_cons, h.map_nil, h.len_nil, he_e_uint8, he_e_string, if_true]; done) | (simp only [h.nadd0, h.nle_refl, h.cut_all, h.cut_nil, h.map_cons, h.map_nil, h.len_nil, he_e_uint8, he_e_string, if_true]; first | rfl | (cbv; done) | (cbv; simp only [h.map_cons, h.map_nil, h.len_nil, he_e_uint8, he_e_string]; done))
        | true =>
          simp only [c7] at hp ⊢
          cbv
          rw [h.at_, hT]
          cbv
          cases hp
          all_goals first | rfl | (cbv; done) | (simp only [h.nadd0, h.nle_refl, h.cut_all, h.cut_nil, h.map_cons, h.map_nil, h.len_nil, he_e_uint8, he_e_string, if_true]; done) | (simp only [h.nadd0, h.nle_refl, h.cut_all, h.cut_nil, h.map_cons, h.map_nil, h.len_nil, he_e_uint8, he_e_string, if_true]; first | rfl | (cbv; done) | (cbv; simp only [h.map_cons, h.map_nil, h.len_nil, he_e_uint8, he_e_string]; done))
def b_parts_Reader_Over__0_0 (P : Prims)   (L0_0 : Str) (L0_1 : Int) (L0_2 : Bool) (L0_3 : Int) : Option (Bool) :=
  some L0_2
theorem o_parts_Reader_Over__0_0   (stk : Stk) (m : Nat) (n0 : Nat) (k0 : List Nat) (hl0 : n0 < m)   (L0_0 : Str) (L0_1 : Int) (L0_2 : Bool) (L0_3 : Int) (hg0 : getO stk ⟨n0, k0⟩ = some (.cells [(.d (.str L0_0)), (.d (.int .i64 L0_1)), (.d (.bool L0_2)), (.d (.int .i64 L0_3))]))  {out} (hp : b_parts_Reader_Over__0_0 ⟨xar, xcmp, xwrap, xseq, xslt, xenc, pquo, pshf, pslen, psidx, pssub, pscat, psit, pslist, pofBytes, @plen, @pidx, @psub, @papp, @pset, @pmake, @ploop⟩   L0_0 L0_1 L0_2 L0_3 = some out) : xat 22 .frz 0 [] ⟨[(0, (.ref ⟨n0, k0⟩ 0))], ⟨m, []⟩ :: stk⟩ = (fun r0 => (some (.ret (.d (.bool r0)), stk) : Rk')) out := by
  have hn0 : (n0 = m) = False := eq_false (Nat.ne_of_lt hl0)
  have hm0 : decide (n0 < m) = true := decide_eq_true hl0
  simp only [b_parts_Reader_Over__0_0] at hp
  rw [h.at_, hT]
  cbv
  simp only [if_false, if_true, hn0, hm0, hg0]
  cbv
  cases hp
  try simp only [if_false, if_true, hn0, hm0]
  all_goals first | rfl | (cbv; done) | (simp only [h.nadd0, h.nle_refl, h.cut_all, h.cut_nil, h.map_cons, h.map_nil, h.len_nil, he_e_uint8, he_e_string, if_true]; done) | (simp only [h.nadd0, h.nle_refl, h.cut_all, h.cut_nil, h.map_cons, h.map_nil, h.len_nil, he_e_uint8, he_e_string, if_true]; first | rfl | (cbv; done) | (cbv; simp only [h.map_cons, h.map_nil, h.len_nil, he_e_uint8, he_e_string]; done))
def b_cascadelaw28_PartsBent_0 (P : Prims) (c_cascadelaw28_awake : Option (Bool)) (c_cascadelaw28_few : (List Str) → Int → Int → Option (Bool)) (c_cascaderef28_Whole : (List Str) → Option (Str)) (c_cascaderef28_Part : Str → Option (Str)) (c_parts_New__0 : Option (Str × Int × Bool × Int)) (c_parts_Reader_Feed__0 : Str → Str → Int → Bool → Int → Option (Str × Int × Bool × Int)) (c_cascadelaw28_drain__0 : Str → Int → Bool → Int → Option ((List Str) × Str × Int × Bool × Int)) (c_cascaderef12_SameNames : (List Str) → (List Str) → Option (Bool)) (c_parts_Reader_Bad__0 : Str → Int → Bool → Int → Option (Int)) (c_parts_Reader_Over__0 : Str → Int → Bool → Int → Option (Bool)) (l_2 : (List Str) → Int → Str → Int → Int → Int → Option (Bool)) (v0 : (List Str)) (v1 : Int) (v2 : Int) : Option (Bool) :=
  match c_cascadelaw28_awake with
  | none => none
  | some r1_0 =>
    match r1_0 with
    | false =>
      some r1_0
    | true =>
      match c_cascadelaw28_few v0 10 100 with
      | none => none
      | some r4_0 =>
        match r4_0 with
        | false =>
          some r1_0
        | true =>
          match P.cmp .eql v2 0 with
          | false =>
            match c_cascaderef28_Whole v0 with
            | none => none
            | some r8_0 =>
              match P.quo .rem .i64 (P.wrap .i64 v1) (P.slen r8_0) with
              | none => none
              | some n10 =>
                l_2 v0 v2 r8_0 n10 0 0
          | true =>
            some r1_0
theorem o_cascadelaw28_PartsBent_0 (c_cascadelaw28_awake : Option (Bool)) (c_cascadelaw28_few : (List Str) → Int → Int → Option (Bool)) (c_cascaderef28_Whole : (List Str) → Option (Str)) (c_cascaderef28_Part : Str → Option (Str)) (c_parts_New__0 : Option (Str × Int × Bool × Int)) (c_parts_Reader_Feed__0 : Str → Str → Int → Bool → Int → Option (Str × Int × Bool × Int)) (c_cascadelaw28_drain__0 : Str → Int → Bool → Int → Option ((List Str) × Str × Int × Bool × Int)) (c_cascaderef12_SameNames : (List Str) → (List Str) → Option (Bool)) (c_parts_Reader_Bad__0 : Str → Int → Bool → Int → Option (Int)) (c_parts_Reader_Over__0 : Str → Int → Bool → Int → Option (Bool)) (h_cascadelaw28_awake : ∀ {r0 : Bool}, c_cascadelaw28_awake  = some r0 → ∀ (stk : Stk) , xpcall 12 [] stk = some (.d (.bool r0)) ∧ xfcall 12 [] stk = some (.d (.bool r0), stk)) (h_cascadelaw28_few : ∀ {v0 : (List Str)} {v1 : Int} {v2 : Int} {r0 : Bool}, c_cascadelaw28_few v0 v1 v2 = some r0 → ∀ (stk : Stk) , xpcall 17 [(.d (.sl (xmap e_string v0))), (.d (.int .i64 v1)), (.d (.int .i64 v2))] stk = some (.d (.bool r0)) ∧ xfcall 17 [(.d (.sl (xmap e_string v0))), (.d (.int .i64 v1)), (.d (.int .i64 v2))] stk = some (.d (.bool r0), stk)) (h_cascaderef28_Whole : ∀ {v0 : (List Str)} {r0 : Str}, c_cascaderef28_Whole v0 = some r0 → ∀ (stk : Stk) , xpcall 18 [(.d (.sl (xmap e_string v0)))] stk = some (.d (.str r0)) ∧ xfcall 18 [(.d (.sl (xmap e_string v0)))] stk = some (.d (.str r0), stk)) (h_cascaderef28_Part : ∀ {v0 : Str} {r0 : Str}, c_cascaderef28_Part v0 = some r0 → ∀ (stk : Stk) , xpcall 19 [(.d (.str v0))] stk = some (.d (.str r0)) ∧ xfcall 19 [(.d (.str v0))] stk = some (.d (.str r0), stk)) (h_parts_New__0 : ∀ {qo2_0 : Str} {qo2_1 : Int} {qo2_2 : Bool} {qo2_3 : Int}, c_parts_New__0  = some (qo2_0, qo2_1, qo2_2, qo2_3) → ∀ (stk : Stk) , ∀ m, m = topN stk + 1 → xkcall 13 [[2]] [] stk = some ((.ref ⟨m, [2]⟩ 0), ⟨m, [([2], (.cells [(.d (.str qo2_0)), (.d (.int .i64 qo2_1)), (.d (.bool qo2_2)), (.d (.int .i64 qo2_3))]))]⟩, stk)) (h_parts_Reader_Feed__0 : ∀ {v1 : Str} {L0_0 : Str} {L0_1 : Int} {L0_2 : Bool} {L0_3 : Int} {r_w0_0 : Str} {r_w0_1 : Int} {r_w0_2 : Bool} {r_w0_3 : Int}, c_parts_Reader_Feed__0 v1 L0_0 L0_1 L0_2 L0_3 = some (r_w0_0, r_w0_1, r_w0_2, r_w0_3) → ∀ (stk : Stk) (n0 : Nat) (k0 : List Nat), getO stk ⟨n0, k0⟩ = some (.cells [(.d (.str L0_0)), (.d (.int .i64 L0_1)), (.d (.bool L0_2)), (.d (.int .i64 L0_3))]) → n0 ≤ topN stk → xfcall 14 [(.ref ⟨n0, k0⟩ 0), (.d (.str v1))] stk = some (.d (.tup []), (xsetO stk ⟨n0, k0⟩ (.cells [(.d (.str r_w0_0)), (.d (.int .i64 r_w0_1)), (.d (.bool r_w0_2)), (.d (.int .i64 r_w0_3))])))) (h_cascadelaw28_drain__0 : ∀ {L0_0 : Str} {L0_1 : Int} {L0_2 : Bool} {L0_3 : Int} {r0 : (List Str)} {r_w0_0 : Str} {r_w0_1 : Int} {r_w0_2 : Bool} {r_w0_3 : Int}, c_cascadelaw28_drain__0 L0_0 L0_1 L0_2 L0_3 = some (r0, r_w0_0, r_w0_1, r_w0_2, r_w0_3) → ∀ (stk : Stk) (n0 : Nat) (k0 : List Nat), getO stk ⟨n0, k0⟩ = some (.cells [(.d (.str L0_0)), (.d (.int .i64 L0_1)), (.d (.bool L0_2)), (.d (.int .i64 L0_3))]) → n0 ≤ topN stk → xfcall 20 [(.ref ⟨n0, k0⟩ 0), (.d .nils)] stk = some (.d (.sl (xmap e_string r0)), (xsetO stk ⟨n0, k0⟩ (.cells [(.d (.str r_w0_0)), (.d (.int .i64 r_w0_1)), (.d (.bool r_w0_2)), (.d (.int .i64 r_w0_3))])))) (h_cascaderef12_SameNames : ∀ {v0 : (List Str)} {v1 : (List Str)} {r0 : Bool}, c_cascaderef12_SameNames v0 v1 = some r0 → ∀ (stk : Stk) , xpcall 21 [(.d (.sl (xmap e_string v0))), (.d (.sl (xmap e_string v1)))] stk = some (.d (.bool r0)) ∧ xfcall 21 [(.d (.sl (xmap e_string v0))), (.d (.sl (xmap e_string v1)))] stk = some (.d (.bool r0), stk)) (h_parts_Reader_Bad__0 : ∀ {L0_0 : Str} {L0_1 : Int} {L0_2 : Bool} {L0_3 : Int} {r0 : Int}, c_parts_Reader_Bad__0 L0_0 L0_1 L0_2 L0_3 = some r0 → ∀ (stk : Stk) (n0 : Nat) (k0 : List Nat), getO stk ⟨n0, k0⟩ = some (.cells [(.d (.str L0_0)), (.d (.int .i64 L0_1)), (.d (.bool L0_2)), (.d (.int .i64 L0_3))]) → n0 ≤ topN stk → xpcall 16 [(.ref ⟨n0, k0⟩ 0)] stk = some (.d (.int .i64 r0)) ∧ xfcall 16 [(.ref ⟨n0, k0⟩ 0)] stk = some (.d (.int .i64 r0), stk)) (h_parts_Reader_Over__0 : ∀ {L0_0 : Str} {L0_1 : Int} {L0_2 : Bool} {L0_3 : Int} {r0 : Bool}, c_parts_Reader_Over__0 L0_0 L0_1 L0_2 L0_3 = some r0 → ∀ (stk : Stk) (n0 : Nat) (k0 : List Nat), getO stk ⟨n0, k0⟩ = some (.cells [(.d (.str L0_0)), (.d (.int .i64 L0_1)), (.d (.bool L0_2)), (.d (.int .i64 L0_3))]) → n0 ≤ topN stk → xpcall 22 [(.ref ⟨n0, k0⟩ 0)] stk = some (.d (.bool r0)) ∧ xfcall 22 [(.ref ⟨n0, k0⟩ 0)] stk = some (.d (.bool r0), stk)) (stk : Stk) (m : Nat)    (l_2 : (List Str) → Int → Str → Int → Int → Int → Option (Bool)) (v0 : (List Str)) (v1 : Int) (v2 : Int)  (h_l_2 : ∀ {v0 : (List Str)} {v2 : Int} {v7 : Str} {v8 : Int} {v9 : Int} {v10 : Int} {out}, l_2 v0 v2 v7 v8 v9 v10 = some out → ∀ (stk : Stk), xat 6 .frz 2 [.lp ⟨2, [0, 2, 7, 8, 9, 10], []⟩, .blk 0, .sub ⟨7, [0, 2, 7, 8], []⟩] ⟨[(0, (.d (.sl (xmap e_string v0)))), (2, (.d (.int .u8 v2))), (7, (.d (.str v7))), (8, (.d (.int .i64 v8))), (9, (.d (.int .i64 v9))), (10, (.d (.int .i64 v10)))], ⟨m, []⟩ :: stk⟩ = (fun r0 => (some (.ret (.d (.bool r0)), stk) : Rk')) out) {out} (hp : b_cascadelaw28_PartsBent_0 ⟨xar, xcmp, xwrap, xseq, xslt, xenc, pquo, pshf, pslen, psidx, pssub, pscat, psit, pslist, pofBytes, @plen, @pidx, @psub, @papp, @pset, @pmake, @ploop⟩ c_cascadelaw28_awake c_cascadelaw28_few c_cascaderef28_Whole c_cascaderef28_Part c_parts_New__0 c_parts_Reader_Feed__0 c_cascadelaw28_drain__0 c_cascaderef12_SameNames c_parts_Reader_Bad__0 c_parts_Reader_Over__0 l_2 v0 v1 v2 = some out) : xat 6 .frz 0 [] ⟨[(0, (.d (.sl (xmap e_string v0)))), (1, (.d (.int .u16 v1))), (2, (.d (.int .u8 v2)))], ⟨m, []⟩ :: stk⟩ = (fun r0 => (some (.ret (.d (.bool r0)), stk) : Rk')) out := by
  simp only [b_cascadelaw28_PartsBent_0] at hp
  rw [h.at_, hT]
  cbv
  cases c2 : c_cascadelaw28_awake with
  | none => simp only [c2] at hp; cases hp
  | some r1_0 =>
    simp only [c2] at hp
    have qc := (h_cascadelaw28_awake c2 (⟨m, []⟩ :: stk) ).1
    simp only [qc]
    cbv
    cases r1_0 with
    | false =>
      simp only at hp
      cbv
      have qc := (h_cascadelaw28_awake c2 (⟨m, []⟩ :: stk) ).1
      simp only [qc]
      cbv
      cases hp
      all_goals first | rfl | (cbv; done) | (simp only [h.nadd0, h.nle_refl, h.cut_all, h.cut_nil, h.map_cons, h.map_nil, h.len_nil, he_e_uint8, he_e_string, if_true]; done) | (simp only [h.nadd0, h.nle_refl, h.cut_all, h.cut_nil, h.map_cons, h.map_nil, h.len_nil, he_e_uint8, he_e_string, if_true]; first | rfl | (cbv; done) | (cbv; simp only [h.map_cons, h.map_nil, h.len_nil, he_e_uint8, he_e_string]; done))
    | true =>
      simp only at hp
      cbv
      cases c5 : c_cascadelaw28_few v0 10 100 with
      | none => simp only [c5] at hp; cases hp
      | some r4_0 =>
        simp only [c5] at hp
        have qc := (h_cascadelaw28_few c5 (⟨m, []⟩ :: stk) ).1
        simp only [qc]
        cbv
        cases r4_0 with
        | false =>
          simp only at hp
          cbv
          have qc := (h_cascadelaw28_awake c2 (⟨m, []⟩ :: stk) ).1
          simp only [qc]
          cbv
          cases hp
          all_goals first | rfl | (cbv; done) | (simp only [h.nadd0, h.nle_refl, h.cut_all, h.cut_nil, h.map_cons, h.map_nil, h.len_nil, he_e_uint8, he_e_string, if_true]; done) | (simp only [h.nadd0, h.nle_refl, h.cut_all, h.cut_nil, h.map_cons, h.map_nil, h.len_nil, he_e_uint8, he_e_string, if_true]; first | rfl | (cbv; done) | (cbv; simp only [h.map_cons, h.map_nil, h.len_nil, he_e_uint8, he_e_string]; done))
        | true =>
          simp only at hp
          cbv
          cases c7 : xcmp .eql v2 0 with
          | false =>
            simp only [c7] at hp ⊢
            cbv
            rw [h.at_, hT]
            cbv
            cases c9 : c_cascaderef28_Whole v0 with
            | none => simp only [c9] at hp; cases hp
            | some r8_0 =>
              simp only [c9] at hp
              have qc := (h_cascaderef28_Whole c9 (⟨m, []⟩ :: stk) ).1
              simp only [qc]
              cbv
              try simp only [h.slen]
              cases c11 : pquo .rem .i64 (xwrap .i64 v1) (pslen r8_0) with
              | none => simp only [c11] at hp; cases hp
              | some n10 =>
                simp only [c11] at hp
                obtain ⟨q1, q2⟩ := h.quo c11
                simp only [q1, q2, Bool.false_eq_true, if_false]
                cbv
                first | exact h_l_2 hp _ | (have q := h_l_2 hp _; simp only [h.map_cons, h.map_nil, h.len_nil, he_e_uint8, he_e_string] at q; first | exact q | (cbv; exact q))
          | true =>
            simp only [c7] at hp ⊢
            cbv
            have qc := (h_cascadelaw28_awake c2 (⟨m, []⟩ :: stk) ).1
            simp only [qc]
            cbv
            cases hp
            all_goals first | rfl | (cbv; done) | (simp only [h.nadd0, h.nle_refl, h.cut_all, h.cut_nil, h.map_cons, h.map_nil, h.len_nil, he_e_uint8, he_e_string, if_true]; done) | (simp only [h.nadd0, h.nle_refl, h.cut_all, h.cut_nil, h.map_cons, h.map_nil, h.len_nil, he_e_uint8, he_e_string, if_true]; first | rfl | (cbv; done) | (cbv; simp only [h.map_cons, h.map_nil, h.len_nil, he_e_uint8, he_e_string]; done))
def b_cascadelaw28_PartsBent_2 (P : Prims) (c_cascadelaw28_awake : Option (Bool)) (c_cascadelaw28_few : (List Str) → Int → Int → Option (Bool)) (c_cascaderef28_Whole : (List Str) → Option (Str)) (c_cascaderef28_Part : Str → Option (Str)) (c_parts_New__0 : Option (Str × Int × Bool × Int)) (c_parts_Reader_Feed__0 : Str → Str → Int → Bool → Int → Option (Str × Int × Bool × Int)) (c_cascadelaw28_drain__0 : Str → Int → Bool → Int → Option ((List Str) × Str × Int × Bool × Int)) (c_cascaderef12_SameNames : (List Str) → (List Str) → Option (Bool)) (c_parts_Reader_Bad__0 : Str → Int → Bool → Int → Option (Int)) (c_parts_Reader_Over__0 : Str → Int → Bool → Int → Option (Bool)) (l_4 : (List Str) → Int → Str → Int → Int → Int → Str → Int → Option (((List Str) × Int × Str × Int × Int × Int) ⊕ (Bool))) (v0 : (List Str)) (v2 : Int) (v7 : Str) (v8 : Int) (v9 : Int) (v10 : Int) : Option (((List Str) × Int × Str × Int × Int × Int) ⊕ (Bool)) :=
  match P.cmp .lss v10 (P.len v0) with
  | false =>
    match P.slist v7 with
    | none => none
    | some l19 =>
      match P.idx l19 v8 with
      | none => none
      | some a22 =>
        match P.set l19 v8 (P.ar .xor .u8 a22 v2) with
        | none => none
        | some l25 =>
          match c_parts_New__0 with
          | none => none
          | some (r27_0, r27_1, r27_2, r27_3) =>
            match c_parts_Reader_Feed__0 (P.ofBytes l25) r27_0 r27_1 r27_2 r27_3 with
            | none => none
            | some (r29_w0_0, r29_w0_1, r29_w0_2, r29_w0_3) =>
              match c_cascadelaw28_drain__0 r29_w0_0 r29_w0_1 r29_w0_2 r29_w0_3 with
              | none => none
              | some (r31_0, r31_w0_0, r31_w0_1, r31_w0_2, r31_w0_3) =>
                match P.cmp .gtr (P.len r31_0) (P.len v0) with
                | false =>
                  match P.sub v0 none (some (P.len r31_0)) with
                  | none => none
                  | some s34 =>
                    match c_cascaderef12_SameNames r31_0 s34 with
                    | none => none
                    | some r36_0 =>
                      match r36_0 with
                      | false =>
                        some (.inr false)
                      | true =>
                        match c_parts_Reader_Bad__0 r31_w0_0 r31_w0_1 r31_w0_2 r31_w0_3 with
                        | none => none
                        | some r39_0 =>
                          match P.cmp .geq r39_0 0 with
                          | false =>
                            match c_parts_Reader_Over__0 r31_w0_0 r31_w0_1 r31_w0_2 r31_w0_3 with
                            | none => none
                            | some r42_0 =>
                              match r42_0 with
                              | false =>
                                some (.inr true)
                              | true =>
                                some (.inr false)
                          | true =>
                            some (.inr true)
                | true =>
                  some (.inr false)
  | true =>
    match P.idx v0 v10 with
    | none => none
    | some a13 =>
      match c_cascaderef28_Part a13 with
      | none => none
      | some r15_0 =>
        match P.cmp .geq v8 (P.ar .sub .i64 (P.ar .sub .i64 (P.ar .add .i64 v9 (P.slen r15_0)) 2) (P.slen a13)) with
        | false =>
          l_4 v0 v2 v7 v8 v9 v10 r15_0 (P.ar .sub .i64 (P.ar .sub .i64 (P.ar .add .i64 v9 (P.slen r15_0)) 2) (P.slen a13))
        | true =>
          match P.cmp .lss v8 (P.ar .add .i64 (P.ar .sub .i64 (P.ar .sub .i64 (P.ar .add .i64 v9 (P.slen r15_0)) 2) (P.slen a13)) (P.slen a13)) with
          | false =>
            l_4 v0 v2 v7 v8 v9 v10 r15_0 (P.ar .sub .i64 (P.ar .sub .i64 (P.ar .add .i64 v9 (P.slen r15_0)) 2) (P.slen a13))
          | true =>
            some (.inr true)
theorem o_cascadelaw28_PartsBent_2 (c_cascadelaw28_awake : Option (Bool)) (c_cascadelaw28_few : (List Str) → Int → Int → Option (Bool)) (c_cascaderef28_Whole : (List Str) → Option (Str)) (c_cascaderef28_Part : Str → Option (Str)) (c_parts_New__0 : Option (Str × Int × Bool × Int)) (c_parts_Reader_Feed__0 : Str → Str → Int → Bool → Int → Option (Str × Int × Bool × Int)) (c_cascadelaw28_drain__0 : Str → Int → Bool → Int → Option ((List Str) × Str × Int × Bool × Int)) (c_cascaderef12_SameNames : (List Str) → (List Str) → Option (Bool)) (c_parts_Reader_Bad__0 : Str → Int → Bool → Int → Option (Int)) (c_parts_Reader_Over__0 : Str → Int → Bool → Int → Option (Bool)) (h_cascadelaw28_awake : ∀ {r0 : Bool}, c_cascadelaw28_awake  = some r0 → ∀ (stk : Stk) , xpcall 12 [] stk = some (.d (.bool r0)) ∧ xfcall 12 [] stk = some (.d (.bool r0), stk)) (h_cascadelaw28_few : ∀ {v0 : (List Str)} {v1 : Int} {v2 : Int} {r0 : Bool}, c_cascadelaw28_few v0 v1 v2 = some r0 → ∀ (stk : Stk) , xpcall 17 [(.d (.sl (xmap e_string v0))), (.d (.int .i64 v1)), (.d (.int .i64 v2))] stk = some (.d (.bool r0)) ∧ xfcall 17 [(.d (.sl (xmap e_string v0))), (.d (.int .i64 v1)), (.d (.int .i64 v2))] stk = some (.d (.bool r0), stk)) (h_cascaderef28_Whole : ∀ {v0 : (List Str)} {r0 : Str}, c_cascaderef28_Whole v0 = some r0 → ∀ (stk : Stk) , xpcall 18 [(.d (.sl (xmap e_string v0)))] stk = some (.d (.str r0)) ∧ xfcall 18 [(.d (.sl (xmap e_string v0)))] stk = some (.d (.str r0), stk)) (h_cascaderef28_Part : ∀ {v0 : Str} {r0 : Str}, c_cascaderef28_Part v0 = some r0 → ∀ (stk : Stk) , xpcall 19 [(.d (.str v0))] stk = some (.d (.str r0)) ∧ xfcall 19 [(.d (.str v0))] stk = some (.d (.str r0), stk)) (h_parts_New__0 : ∀ {qo2_0 : Str} {qo2_1 : Int} {qo2_2 : Bool} {qo2_3 : Int}, c_parts_New__0  = some (qo2_0, qo2_1, qo2_2, qo2_3) → ∀ (stk : Stk) , ∀ m, m = topN stk + 1 → xkcall 13 [[2]] [] stk = some ((.ref ⟨m, [2]⟩ 0), ⟨m, [([2], (.cells [(.d (.str qo2_0)), (.d (.int .i64 qo2_1)), (.d (.bool qo2_2)), (.d (.int .i64 qo2_3))]))]⟩, stk)) (h_parts_Reader_Feed__0 : ∀ {v1 : Str} {L0_0 : Str} {L0_1 : Int} {L0_2 : Bool} {L0_3 : Int} {r_w0_0 : Str} {r_w0_1 : Int} {r_w0_2 : Bool} {r_w0_3 : Int}, c_parts_Reader_Feed__0 v1 L0_0 L0_1 L0_2 L0_3 = some (r_w0_0, r_w0_1, r_w0_2, r_w0_3) → ∀ (stk : Stk) (n0 : Nat) (k0 : List Nat), getO stk ⟨n0, k0⟩ = some (.cells [(.d (.str L0_0)), (.d (.int .i64 L0_1)), (.d (.bool L0_2)), (.d (.int .i64 L0_3))]) → n0 ≤ topN stk → xfcall 14 [(.ref ⟨n0, k0⟩ 0), (.d (.str v1))] stk = some (.d (.tup []), (xsetO stk ⟨n0, k0⟩ (.cells [(.d (.str r_w0_0)), (.d (.int .i64 r_w0_1)), (.d (.bool r_w0_2)), (.d (.int .i64 r_w0_3))])))) (h_cascadelaw28_drain__0 : ∀ {L0_0 : Str} {L0_1 : Int} {L0_2 : Bool} {L0_3 : Int} {r0 : (List Str)} {r_w0_0 : Str} {r_w0_1 : Int} {r_w0_2 : Bool} {r_w0_3 : Int}, c_cascadelaw28_drain__0 L0_0 L0_1 L0_2 L0_3 = some (r0, r_w0_0, r_w0_1, r_w0_2, r_w0_3) → ∀ (stk : Stk) (n0 : Nat) (k0 : List Nat), getO stk ⟨n0, k0⟩ = some (.cells [(.d (.str L0_0)), (.d (.int .i64 L0_1)), (.d (.bool L0_2)), (.d (.int .i64 L0_3))]) → n0 ≤ topN stk → xfcall 20 [(.ref ⟨n0, k0⟩ 0), (.d .nils)] stk = some (.d (.sl (xmap e_string r0)), (xsetO stk ⟨n0, k0⟩ (.cells [(.d (.str r_w0_0)), (.d (.int .i64 r_w0_1)), (.d (.bool r_w0_2)), (.d (.int .i64 r_w0_3))])))) (h_cascaderef12_SameNames : ∀ {v0 : (List Str)} {v1 : (List Str)} {r0 : Bool}, c_cascaderef12_SameNames v0 v1 = some r0 → ∀ (stk : Stk) , xpcall 21 [(.d (.sl (xmap e_string v0))), (.d (.sl (xmap e_string v1)))] stk = some (.d (.bool r0)) ∧ xfcall 21 [(.d (.sl (xmap e_string v0))), (.d (.sl (xmap e_string v1)))] stk = some (.d (.bool r0), stk)) (h_parts_Reader_Bad__0 : ∀ {L0_0 : Str} {L0_1 : Int} {L0_2 : Bool} {L0_3 : Int} {r0 : Int}, c_parts_Reader_Bad__0 L0_0 L0_1 L0_2 L0_3 = some r0 → ∀ (stk : Stk) (n0 : Nat) (k0 : List Nat), getO stk ⟨n0, k0⟩ = some (.cells [(.d (.str L0_0)), (.d (.int .i64 L0_1)), (.d (.bool L0_2)), (.d (.int .i64 L0_3))]) → n0 ≤ topN stk → xpcall 16 [(.ref ⟨n0, k0⟩ 0)] stk = some (.d (.int .i64 r0)) ∧ xfcall 16 [(.ref ⟨n0, k0⟩ 0)] stk = some (.d (.int .i64 r0), stk)) (h_parts_Reader_Over__0 : ∀ {L0_0 : Str} {L0_1 : Int} {L0_2 : Bool} {L0_3 : Int} {r0 : Bool}, c_parts_Reader_Over__0 L0_0 L0_1 L0_2 L0_3 = some r0 → ∀ (stk : Stk) (n0 : Nat) (k0 : List Nat), getO stk ⟨n0, k0⟩ = some (.cells [(.d (.str L0_0)), (.d (.int .i64 L0_1)), (.d (.bool L0_2)), (.d (.int .i64 L0_3))]) → n0 ≤ topN stk → xpcall 22 [(.ref ⟨n0, k0⟩ 0)] stk = some (.d (.bool r0)) ∧ xfcall 22 [(.ref ⟨n0, k0⟩ 0)] stk = some (.d (.bool r0), stk)) (stk : Stk) (m : Nat)    (l_4 : (List Str) → Int → Str → Int → Int → Int → Str → Int → Option (((List Str) × Int × Str × Int × Int × Int) ⊕ (Bool))) (v0 : (List Str)) (v2 : Int) (v7 : Str) (v8 : Int) (v9 : Int) (v10 : Int)  (h_l_4 : ∀ {v0 : (List Str)} {v2 : Int} {v7 : Str} {v8 : Int} {v9 : Int} {v10 : Int} {v11 : Str} {v12 : Int} {out}, l_4 v0 v2 v7 v8 v9 v10 v11 v12 = some out → ∀ (stk : Stk), xat 6 .frz 4 [.blk 1, .sub ⟨6, [0, 2, 7, 8, 9, 10], []⟩, .lp ⟨2, [0, 2, 7, 8, 9, 10], []⟩, .blk 0, .sub ⟨7, [0, 2, 7, 8], []⟩] ⟨[(0, (.d (.sl (xmap e_string v0)))), (2, (.d (.int .u8 v2))), (7, (.d (.str v7))), (8, (.d (.int .i64 v8))), (9, (.d (.int .i64 v9))), (10, (.d (.int .i64 v10))), (11, (.d (.str v11))), (12, (.d (.int .i64 v12)))], ⟨m, []⟩ :: stk⟩ = (Sum.elim (fun (v0, v2, v7, v8, v9, v10) => xat 6 .frz 2 [.lp ⟨2, [0, 2, 7, 8, 9, 10], []⟩, .blk 0, .sub ⟨7, [0, 2, 7, 8], []⟩] ⟨[(0, (.d (.sl (xmap e_string v0)))), (2, (.d (.int .u8 v2))), (7, (.d (.str v7))), (8, (.d (.int .i64 v8))), (9, (.d (.int .i64 v9))), (10, (.d (.int .i64 v10)))], ⟨m, []⟩ :: stk⟩) (fun r0 => (some (.ret (.d (.bool r0)), stk) : Rk'))) out) {out} (hp : b_cascadelaw28_PartsBent_2 ⟨xar, xcmp, xwrap, xseq, xslt, xenc, pquo, pshf, pslen, psidx, pssub, pscat, psit, pslist, pofBytes, @plen, @pidx, @psub, @papp, @pset, @pmake, @ploop⟩ c_cascadelaw28_awake c_cascadelaw28_few c_cascaderef28_Whole c_cascaderef28_Part c_parts_New__0 c_parts_Reader_Feed__0 c_cascadelaw28_drain__0 c_cascaderef12_SameNames c_parts_Reader_Bad__0 c_parts_Reader_Over__0 l_4 v0 v2 v7 v8 v9 v10 = some out) : xat 6 .frz 2 [.lp ⟨2, [0, 2, 7, 8, 9, 10], []⟩, .blk 0, .sub ⟨7, [0, 2, 7, 8], []⟩] ⟨[(0, (.d (.sl (xmap e_string v0)))), (2, (.d (.int .u8 v2))), (7, (.d (.str v7))), (8, (.d (.int .i64 v8))), (9, (.d (.int .i64 v9))), (10, (.d (.int .i64 v10)))], ⟨m, []⟩ :: stk⟩ = (Sum.elim (fun (v0, v2, v7, v8, v9, v10) => xat 6 .frz 2 [.lp ⟨2, [0, 2, 7, 8, 9, 10], []⟩, .blk 0, .sub ⟨7, [0, 2, 7, 8], []⟩] ⟨[(0, (.d (.sl (xmap e_string v0)))), (2, (.d (.int .u8 v2))), (7, (.d (.str v7))), (8, (.d (.int .i64 v8))), (9, (.d (.int .i64 v9))), (10, (.d (.int .i64 v10)))], ⟨m, []⟩ :: stk⟩) (fun r0 => (some (.ret (.d (.bool r0)), stk) : Rk'))) out := by
  simp only [b_cascadelaw28_PartsBent_2] at hp
  rw [h.at_, hT]
  cbv
  try simp only [h.len]
  cases c12 : xcmp .lss v10 (plen v0) with
  | false =>
    simp only [c12] at hp ⊢
    cbv
    rw [h.at_, hT]
    cbv
    cases c20 : pslist v7 with
    | none => simp only [c20] at hp; cases hp
    | some l19 =>
      simp only [c20] at hp
      obtain ⟨q1, q2, q3⟩ := h.slist e_uint8 he_e_uint8 c20
      simp only [q1, if_true]
      try simp only [q2, q3]
      cbv
      cases c23 : pidx l19 v8 with
      | none => simp only [c23] at hp; cases hp
      | some a22 =>
        simp only [c23] at hp
        obtain ⟨q1, q2, q3, w21⟩ := h.idxm e_uint8 c23
        simp only [he_e_uint8] at w21
        simp only [q1, Bool.false_eq_true, if_false]
        cbv
        simp only [q2, q3, if_true]
        cbv
        simp only [w21]
        cbv
        obtain ⟨q1, q2, q3, w24⟩ := h.idxm e_uint8 c23
        simp only [he_e_uint8] at w24
        simp only [q1, Bool.false_eq_true, if_false]
        cbv
        simp only [q2, q3, if_true]
        cbv
        cases c26 : pset l19 v8 (xar .xor .u8 a22 v2) with
        | none => simp only [c26] at hp; cases hp
        | some l25 =>
          simp only [c26] at hp
          obtain ⟨q1, q2, q3, ⟨y, q4⟩, q5, q6⟩ := h.set_ e_uint8 c26
          simp only [he_e_uint8] at q5
          simp only [w24]
          cbv
          try simp only [w24]
          try simp only [List.headD, splice, List.take_succ_cons, List.take_zero, List.drop_succ_cons, List.drop_zero, List.cons_append, List.nil_append, List.length_cons, List.length_nil, Nat.zero_add, Nat.reduceAdd]
          simp only [q5]
          try simp only [← q6]
          cbv
          cases c28 : c_parts_New__0 with
          | none => simp only [c28] at hp; cases hp
          | some y47 =>
            obtain ⟨r27_0, r27_1, r27_2, r27_3⟩ := y47
            simp only [c28] at hp
            have qc := h_parts_New__0 c28 (⟨m, [([96], (.arr 0 1 (xmap e_uint8 l25)))]⟩ :: stk)  (m + 1) rfl
            simp only [qc]
            cbv
            try simp only [h.nadd0, h.nle_refl, h.cut_all, if_true]
            try cbv
            have qb := h.ofBytes e_uint8 he_e_uint8 l25
            try simp only [h.map_cons, h.map_nil, he_e_uint8] at qb
            simp only [qb]
            cbv
            cases c30 : c_parts_Reader_Feed__0 (pofBytes l25) r27_0 r27_1 r27_2 r27_3 with
            | none => simp only [c30] at hp; cases hp
            | some y46 =>
              obtain ⟨r29_w0_0, r29_w0_1, r29_w0_2, r29_w0_3⟩ := y46
              simp only [c30] at hp
              have qc := h_parts_Reader_Feed__0 c30 (⟨m, [([96], (.arr 0 1 (xmap e_uint8 l25))), ([104, 2], (.cells [(.d (.str r27_0)), (.d (.int .i64 r27_1)), (.d (.bool r27_2)), (.d (.int .i64 r27_3))]))]⟩ :: stk) m [104, 2] (h.gt _ _ _ _) (Nat.le_refl _)
              simp only [qc]
              simp only [h.st_]
              cbv
              cases c32 : c_cascadelaw28_drain__0 r29_w0_0 r29_w0_1 r29_w0_2 r29_w0_3 with
              | none => simp only [c32] at hp; cases hp
              | some y45 =>
                obtain ⟨r31_0, r31_w0_0, r31_w0_1, r31_w0_2, r31_w0_3⟩ := y45
                simp only [c32] at hp
                have qc := h_cascadelaw28_drain__0 c32 (⟨m, [([96], (.arr 0 1 (xmap e_uint8 l25))), ([104, 2], (.cells [(.d (.str r29_w0_0)), (.d (.int .i64 r29_w0_1)), (.d (.bool r29_w0_2)), (.d (.int .i64 r29_w0_3))]))]⟩ :: stk) m [104, 2] (h.gt _ _ _ _) (Nat.le_refl _)
                simp only [qc]
                simp only [h.st_]
                cbv
                try simp only [h.len]
                try simp only [h.len]
                cases c33 : xcmp .gtr (plen r31_0) (plen v0) with
                | false =>
                  simp only [c33] at hp ⊢
                  cbv
                  try simp only [h.len]
                  cases c35 : psub v0 none (some (plen r31_0)) with
                  | none => simp only [c35] at hp; cases hp
                  | some s34 =>
                    simp only [c35] at hp
                    obtain ⟨q0, q1, q2, q3⟩ := h.sub0 e_string c35
                    simp only [q0, q1, q2, q3, Bool.false_eq_true, if_false, if_true, hz_e_string]
                    cbv
                    try simp only [q0, q1, q2, q3, if_true, hz_e_string]
                    cbv
                    cases c37 : c_cascaderef12_SameNames r31_0 s34 with
                    | none => simp only [c37] at hp; cases hp
                    | some r36_0 =>
                      simp only [c37] at hp
                      have qc := (h_cascaderef12_SameNames c37 (⟨m, [([96], (.arr 0 1 (xmap e_uint8 l25))), ([104, 2], (.cells [(.d (.str r31_w0_0)), (.d (.int .i64 r31_w0_1)), (.d (.bool r31_w0_2)), (.d (.int .i64 r31_w0_3))]))]⟩ :: stk) ).1
                      simp only [qc]
                      cbv
                      cases r36_0 with
                      | false =>
                        simp only at hp
                        cbv
                        cases hp
                        all_goals first | rfl | (cbv; done) | (simp only [h.nadd0, h.nle_refl, h.cut_all, h.cut_nil, h.map_cons, h.map_nil, h.len_nil, he_e_uint8, he_e_string, if_true]; done) | (simp only [h.nadd0, h.nle_refl, h.cut_all, h.cut_nil, h.map_cons, h.map_nil, h.len_nil, he_e_uint8, he_e_string, if_true]; first | rfl | (cbv; done) | (cbv; simp only [h.map_cons, h.map_nil, h.len_nil, he_e_uint8, he_e_string]; done))
                      | true =>
                        simp only at hp
                        cbv
                        rw [h.at_, hT]
                        cbv
                        cases c40 : c_parts_Reader_Bad__0 r31_w0_0 r31_w0_1 r31_w0_2 r31_w0_3 with
                        | none => simp only [c40] at hp; cases hp
                        | some r39_0 =>
                          simp only [c40] at hp
                          have qc := (h_parts_Reader_Bad__0 c40 (⟨m, [([104, 2], (.cells [(.d (.str r31_w0_0)), (.d (.int .i64 r31_w0_1)), (.d (.bool r31_w0_2)), (.d (.int .i64 r31_w0_3))]))]⟩ :: stk) m [104, 2] (h.gt _ _ _ _) (Nat.le_refl _)).1
                          simp only [qc]
                          cbv
                          cases c41 : xcmp .geq r39_0 0 with
                          | false =>
                            simp only [c41] at hp ⊢
                            cbv
                            cases c43 : c_parts_Reader_Over__0 r31_w0_0 r31_w0_1 r31_w0_2 r31_w0_3 with
                            | none => simp only [c43] at hp; cases hp
                            | some r42_0 =>
                              simp only [c43] at hp
                              have qc := (h_parts_Reader_Over__0 c43 (⟨m, [([104, 2], (.cells [(.d (.str r31_w0_0)), (.d (.int .i64 r31_w0_1)), (.d (.bool r31_w0_2)), (.d (.int .i64 r31_w0_3))]))]⟩ :: stk) m [104, 2] (h.gt _ _ _ _) (Nat.le_refl _)).1
                              simp only [qc]
                              cbv
                              cases r42_0 with
                              | false =>
                                simp only at hp
                                cbv
                                cases hp
                                all_goals first | rfl | (cbv; done) | (simp only [h.nadd0, h.nle_refl, h.cut_all, h.cut_nil, h.map_cons, h.map_nil, h.len_nil, he_e_uint8, he_e_string, if_true]; done) | (simp only [h.nadd0, h.nle_refl, h.cut_all, h.cut_nil, h.map_cons, h.map_nil, h.len_nil, he_e_uint8, he_e_string, if_true]; first | rfl | (cbv; done) | (cbv; simp only [h.map_cons, h.map_nil, h.len_nil, he_e_uint8, he_e_string]; done))
                              | true =>
                                simp only at hp
                                cbv
                                cases hp
                                all_goals first | rfl | (cbv; done) | (simp only [h.nadd0, h.nle_refl, h.cut_all, h.cut_nil, h.map_cons, h.map_nil, h.len_nil, he_e_uint8, he_e_string, if_true]; done) | (simp only [h.nadd0, h.nle_refl, h.cut_all, h.cut_nil, h.map_cons, h.map_nil, h.len_nil, he_e_uint8, he_e_string, if_true]; first | rfl | (cbv; done) | (cbv; simp only [h.map_cons, h.map_nil, h.len_nil, he_e_uint8, he_e_string]; done))
                          | true =>
                            simp only [c41] at hp ⊢
                            cbv
                            cases hp
                            all_goals first | rfl | (cbv; done) | (simp only [h.nadd0, h.nle_refl, h.cut_all, h.cut_nil, h.map_cons, h.map_nil, h.len_nil, he_e_uint8, he_e_string, if_true]; done) | (simp only [h.nadd0, h.nle_refl, h.cut_all, h.cut_nil, h.map_cons, h.map_nil, h.len_nil, he_e_uint8, he_e_string, if_true]; first | rfl | (cbv; done) | (cbv; simp only [h.map_cons, h.map_nil, h.len_nil, he_e_uint8, he_e_string]; done))
                | true =>
                  simp only [c33] at hp ⊢
                  cbv
                  cases hp
                  all_goals first | rfl | (cbv; done) | (simp only [h.nadd0, h.nle_refl, h.cut_all, h.cut_nil, h.map_cons, h.map_nil, h.len_nil, he_e_uint8, he_e_string, if_true]; done) | (simp only [h.nadd0, h.nle_refl, h.cut_all, h.cut_nil, h.map_cons, h.map_nil, h.len_nil, he_e_uint8, he_e_string, if_true]; first | rfl | (cbv; done) | (cbv; simp only [h.map_cons, h.map_nil, h.len_nil, he_e_uint8, he_e_string]; done))
  | true =>
    simp only [c12] at hp ⊢
    cbv
    rw [h.at_, hT]
    cbv
    cases c14 : pidx v0 v10 with
    | none => simp only [c14] at hp; cases hp
    | some a13 =>
      simp only [c14] at hp
      obtain ⟨q1, q2⟩ := h.idx e_string c14
      simp only [he_e_string] at q2
      simp only [q1, Bool.false_eq_true, if_false]
      cbv
      try simp only [q2]
      cbv
      cases c16 : c_cascaderef28_Part a13 with
      | none => simp only [c16] at hp; cases hp
      | some r15_0 =>
        simp only [c16] at hp
        have qc := (h_cascaderef28_Part c16 (⟨m, []⟩ :: stk) ).1
        simp only [qc]
        cbv
        try simp only [h.slen]
        obtain ⟨q1, q2⟩ := h.idx e_string c14
        simp only [he_e_string] at q2
        simp only [q1, Bool.false_eq_true, if_false]
        cbv
        try simp only [q2]
        cbv
        try simp only [h.slen]
        cases c17 : xcmp .geq v8 (xar .sub .i64 (xar .sub .i64 (xar .add .i64 v9 (pslen r15_0)) 2) (pslen a13)) with
        | false =>
          simp only [c17] at hp ⊢
          cbv
          first | exact h_l_4 hp _ | (have q := h_l_4 hp _; simp only [h.map_cons, h.map_nil, h.len_nil, he_e_uint8, he_e_string] at q; first | exact q | (cbv; exact q))
        | true =>
          simp only [c17] at hp ⊢
          cbv
          obtain ⟨q1, q2⟩ := h.idx e_string c14
          simp only [he_e_string] at q2
          simp only [q1, Bool.false_eq_true, if_false]
          cbv
          try simp only [q2]
          cbv
          try simp only [h.slen]
          cases c18 : xcmp .lss v8 (xar .add .i64 (xar .sub .i64 (xar .sub .i64 (xar .add .i64 v9 (pslen r15_0)) 2) (pslen a13)) (pslen a13)) with
          | false =>
            simp only [c18] at hp ⊢
            cbv
            first | exact h_l_4 hp _ | (have q := h_l_4 hp _; simp only [h.map_cons, h.map_nil, h.len_nil, he_e_uint8, he_e_string] at q; first | exact q | (cbv; exact q))
          | true =>
            simp only [c18] at hp ⊢
            cbv
            cases hp
            all_goals first | rfl | (cbv; done) | (simp only [h.nadd0, h.nle_refl, h.cut_all, h.cut_nil, h.map_cons, h.map_nil, h.len_nil, he_e_uint8, he_e_string, if_true]; done) | (simp only [h.nadd0, h.nle_refl, h.cut_all, h.cut_nil, h.map_cons, h.map_nil, h.len_nil, he_e_uint8, he_e_string, if_true]; first | rfl | (cbv; done) | (cbv; simp only [h.map_cons, h.map_nil, h.len_nil, he_e_uint8, he_e_string]; done))
def b_cascadelaw28_PartsBent_4 (P : Prims) (c_cascadelaw28_awake : Option (Bool)) (c_cascadelaw28_few : (List Str) → Int → Int → Option (Bool)) (c_cascaderef28_Whole : (List Str) → Option (Str)) (c_cascaderef28_Part : Str → Option (Str)) (c_parts_New__0 : Option (Str × Int × Bool × Int)) (c_parts_Reader_Feed__0 : Str → Str → Int → Bool → Int → Option (Str × Int × Bool × Int)) (c_cascadelaw28_drain__0 : Str → Int → Bool → Int → Option ((List Str) × Str × Int × Bool × Int)) (c_cascaderef12_SameNames : (List Str) → (List Str) → Option (Bool)) (c_parts_Reader_Bad__0 : Str → Int → Bool → Int → Option (Int)) (c_parts_Reader_Over__0 : Str → Int → Bool → Int → Option (Bool)) (l_5 : (List Str) → Int → Str → Int → Int → Int → Str → Option (((List Str) × Int × Str × Int × Int × Int) ⊕ (Bool))) (v0 : (List Str)) (v2 : Int) (v7 : Str) (v8 : Int) (v9 : Int) (v10 : Int) (v11 : Str) (v12 : Int) : Option (((List Str) × Int × Str × Int × Int × Int) ⊕ (Bool)) :=
  match P.cmp .geq v8 v9 with
  | false =>
    l_5 v0 v2 v7 v8 v9 v10 v11
  | true =>
    match P.cmp .lss v8 v12 with
    | false =>
      l_5 v0 v2 v7 v8 v9 v10 v11
    | true =>
      match P.sidx v7 v8 with
      | none => none
      | some b50 =>
        match P.cmp .geq b50 48 with
        | false =>
          l_5 v0 v2 v7 v8 v9 v10 v11
        | true =>
          match P.cmp .leq b50 57 with
          | false =>
            l_5 v0 v2 v7 v8 v9 v10 v11
          | true =>
            some (.inr true)
theorem o_cascadelaw28_PartsBent_4 (c_cascadelaw28_awake : Option (Bool)) (c_cascadelaw28_few : (List Str) → Int → Int → Option (Bool)) (c_cascaderef28_Whole : (List Str) → Option (Str)) (c_cascaderef28_Part : Str → Option (Str)) (c_parts_New__0 : Option (Str × Int × Bool × Int)) (c_parts_Reader_Feed__0 : Str → Str → Int → Bool → Int → Option (Str × Int × Bool × Int)) (c_cascadelaw28_drain__0 : Str → Int → Bool → Int → Option ((List Str) × Str × Int × Bool × Int)) (c_cascaderef12_SameNames : (List Str) → (List Str) → Option (Bool)) (c_parts_Reader_Bad__0 : Str → Int → Bool → Int → Option (Int)) (c_parts_Reader_Over__0 : Str → Int → Bool → Int → Option (Bool)) (h_cascadelaw28_awake : ∀ {r0 : Bool}, c_cascadelaw28_awake  = some r0 → ∀ (stk : Stk) , xpcall 12 [] stk = some (.d (.bool r0)) ∧ xfcall 12 [] stk = some (.d (.bool r0), stk)) (h_cascadelaw28_few : ∀ {v0 : (List Str)} {v1 : Int} {v2 : Int} {r0 : Bool}, c_cascadelaw28_few v0 v1 v2 = some r0 → ∀ (stk : Stk) , xpcall 17 [(.d (.sl (xmap e_string v0))), (.d (.int .i64 v1)), (.d (.int .i64 v2))] stk = some (.d (.bool r0)) ∧ xfcall 17 [(.d (.sl (xmap e_string v0))), (.d (.int .i64 v1)), (.d (.int .i64 v2))] stk = some (.d (.bool r0), stk)) (h_cascaderef28_Whole : ∀ {v0 : (List Str)} {r0 : Str}, c_cascaderef28_Whole v0 = some r0 → ∀ (stk : Stk) , xpcall 18 [(.d (.sl (xmap e_string v0)))] stk = some (.d (.str r0)) ∧ xfcall 18 [(.d (.sl (xmap e_string v0)))] stk = some (.d (.str r0), stk)) (h_cascaderef28_Part : ∀ {v0 : Str} {r0 : Str}, c_cascaderef28_Part v0 = some r0 → ∀ (stk : Stk) , xpcall 19 [(.d (.str v0))] stk = some (.d (.str r0)) ∧ xfcall 19 [(.d (.str v0))] stk = some (.d (.str r0), stk)) (h_parts_New__0 : ∀ {qo2_0 : Str} {qo2_1 : Int} {qo2_2 : Bool} {qo2_3 : Int}, c_parts_New__0  = some (qo2_0, qo2_1, qo2_2, qo2_3) → ∀ (stk : Stk) , ∀ m, m = topN stk + 1 → xkcall 13 [[2]] [] stk = some ((.ref ⟨m, [2]⟩ 0), ⟨m, [([2], (.cells [(.d (.str qo2_0)), (.d (.int .i64 qo2_1)), (.d (.bool qo2_2)), (.d (.int .i64 qo2_3))]))]⟩, stk)) (h_parts_Reader_Feed__0 : ∀ {v1 : Str} {L0_0 : Str} {L0_1 : Int} {L0_2 : Bool} {L0_3 : Int} {r_w0_0 : Str} {r_w0_1 : Int} {r_w0_2 : Bool} {r_w0_3 : Int}, c_parts_Reader_Feed__0 v1 L0_0 L0_1 L0_2 L0_3 = some (r_w0_0, r_w0_1, r_w0_2, r_w0_3) → ∀ (stk : Stk) (n0 : Nat) (k0 : List Nat), getO stk ⟨n0, k0⟩ = some (.cells [(.d (.str L0_0)), (.d (.int .i64 L0_1)), (.d (.bool L0_2)), (.d (.int .i64 L0_3))]) → n0 ≤ topN stk → xfcall 14 [(.ref ⟨n0, k0⟩ 0), (.d (.str v1))] stk = some (.d (.tup []), (xsetO stk ⟨n0, k0⟩ (.cells [(.d (.str r_w0_0)), (.d (.int .i64 r_w0_1)), (.d (.bool r_w0_2)), (.d (.int .i64 r_w0_3))])))) (h_cascadelaw28_drain__0 : ∀ {L0_0 : Str} {L0_1 : Int} {L0_2 : Bool} {L0_3 : Int} {r0 : (List Str)} {r_w0_0 : Str} {r_w0_1 : Int} {r_w0_2 : Bool} {r_w0_3 : Int}, c_cascadelaw28_drain__0 L0_0 L0_1 L0_2 L0_3 = some (r0, r_w0_0, r_w0_1, r_w0_2, r_w0_3) → ∀ (stk : Stk) (n0 : Nat) (k0 : List Nat), getO stk ⟨n0, k0⟩ = some (.cells [(.d (.str L0_0)), (.d (.int .i64 L0_1)), (.d (.bool L0_2)), (.d (.int .i64 L0_3))]) → n0 ≤ topN stk → xfcall 20 [(.ref ⟨n0, k0⟩ 0), (.d .nils)] stk = some (.d (.sl (xmap e_string r0)), (xsetO stk ⟨n0, k0⟩ (.cells [(.d (.str r_w0_0)), (.d (.int .i64 r_w0_1)), (.d (.bool r_w0_2)), (.d (.int .i64 r_w0_3))])))) (h_cascaderef12_SameNames : ∀ {v0 : (List Str)} {v1 : (List Str)} {r0 : Bool}, c_cascaderef12_SameNames v0 v1 = some r0 → ∀ (stk : Stk) , xpcall 21 [(.d (.sl (xmap e_string v0))), (.d (.sl (xmap e_string v1)))] stk = some (.d (.bool r0)) ∧ xfcall 21 [(.d (.sl (xmap e_string v0))), (.d (.sl (xmap e_string v1)))] stk = some (.d (.bool r0), stk)) (h_parts_Reader_Bad__0 : ∀ {L0_0 : Str} {L0_1 : Int} {L0_2 : Bool} {L0_3 : Int} {r0 : Int}, c_parts_Reader_Bad__0 L0_0 L0_1 L0_2 L0_3 = some r0 → ∀ (stk : Stk) (n0 : Nat) (k0 : List Nat), getO stk ⟨n0, k0⟩ = some (.cells [(.d (.str L0_0)), (.d (.int .i64 L0_1)), (.d (.bool L0_2)), (.d (.int .i64 L0_3))]) → n0 ≤ topN stk → xpcall 16 [(.ref ⟨n0, k0⟩ 0)] stk = some (.d (.int .i64 r0)) ∧ xfcall 16 [(.ref ⟨n0, k0⟩ 0)] stk = some (.d (.int .i64 r0), stk)) (h_parts_Reader_Over__0 : ∀ {L0_0 : Str} {L0_1 : Int} {L0_2 : Bool} {L0_3 : Int} {r0 : Bool}, c_parts_Reader_Over__0 L0_0 L0_1 L0_2 L0_3 = some r0 → ∀ (stk : Stk) (n0 : Nat) (k0 : List Nat), getO stk ⟨n0, k0⟩ = some (.cells [(.d (.str L0_0)), (.d (.int .i64 L0_1)), (.d (.bool L0_2)), (.d (.int .i64 L0_3))]) → n0 ≤ topN stk → xpcall 22 [(.ref ⟨n0, k0⟩ 0)] stk = some (.d (.bool r0)) ∧ xfcall 22 [(.ref ⟨n0, k0⟩ 0)] stk = some (.d (.bool r0), stk)) (stk : Stk) (m : Nat)    (l_5 : (List Str) → Int → Str → Int → Int → Int → Str → Option (((List Str) × Int × Str × Int × Int × Int) ⊕ (Bool))) (v0 : (List Str)) (v2 : Int) (v7 : Str) (v8 : Int) (v9 : Int) (v10 : Int) (v11 : Str) (v12 : Int)  (h_l_5 : ∀ {v0 : (List Str)} {v2 : Int} {v7 : Str} {v8 : Int} {v9 : Int} {v10 : Int} {v11 : Str} {out}, l_5 v0 v2 v7 v8 v9 v10 v11 = some out → ∀ (stk : Stk), xat 6 .frz 5 [.blk 1, .sub ⟨6, [0, 2, 7, 8, 9, 10], []⟩, .lp ⟨2, [0, 2, 7, 8, 9, 10], []⟩, .blk 0, .sub ⟨7, [0, 2, 7, 8], []⟩] ⟨[(0, (.d (.sl (xmap e_string v0)))), (2, (.d (.int .u8 v2))), (7, (.d (.str v7))), (8, (.d (.int .i64 v8))), (9, (.d (.int .i64 v9))), (10, (.d (.int .i64 v10))), (11, (.d (.str v11)))], ⟨m, []⟩ :: stk⟩ = (Sum.elim (fun (v0, v2, v7, v8, v9, v10) => xat 6 .frz 2 [.lp ⟨2, [0, 2, 7, 8, 9, 10], []⟩, .blk 0, .sub ⟨7, [0, 2, 7, 8], []⟩] ⟨[(0, (.d (.sl (xmap e_string v0)))), (2, (.d (.int .u8 v2))), (7, (.d (.str v7))), (8, (.d (.int .i64 v8))), (9, (.d (.int .i64 v9))), (10, (.d (.int .i64 v10)))], ⟨m, []⟩ :: stk⟩) (fun r0 => (some (.ret (.d (.bool r0)), stk) : Rk'))) out) {out} (hp : b_cascadelaw28_PartsBent_4 ⟨xar, xcmp, xwrap, xseq, xslt, xenc, pquo, pshf, pslen, psidx, pssub, pscat, psit, pslist, pofBytes, @plen, @pidx, @psub, @papp, @pset, @pmake, @ploop⟩ c_cascadelaw28_awake c_cascadelaw28_few c_cascaderef28_Whole c_cascaderef28_Part c_parts_New__0 c_parts_Reader_Feed__0 c_cascadelaw28_drain__0 c_cascaderef12_SameNames c_parts_Reader_Bad__0 c_parts_Reader_Over__0 l_5 v0 v2 v7 v8 v9 v10 v11 v12 = some out) : xat 6 .frz 4 [.blk 1, .sub ⟨6, [0, 2, 7, 8, 9, 10], []⟩, .lp ⟨2, [0, 2, 7, 8, 9, 10], []⟩, .blk 0, .sub ⟨7, [0, 2, 7, 8], []⟩] ⟨[(0, (.d (.sl (xmap e_string v0)))), (2, (.d (.int .u8 v2))), (7, (.d (.str v7))), (8, (.d (.int .i64 v8))), (9, (.d (.int .i64 v9))), (10, (.d (.int .i64 v10))), (11, (.d (.str v11))), (12, (.d (.int .i64 v12)))], ⟨m, []⟩ :: stk⟩ = (Sum.elim (fun (v0, v2, v7, v8, v9, v10) => xat 6 .frz 2 [.lp ⟨2, [0, 2, 7, 8, 9, 10], []⟩, .blk 0, .sub ⟨7, [0, 2, 7, 8], []⟩] ⟨[(0, (.d (.sl (xmap e_string v0)))), (2, (.d (.int .u8 v2))), (7, (.d (.str v7))), (8, (.d (.int .i64 v8))), (9, (.d (.int .i64 v9))), (10, (.d (.int .i64 v10)))], ⟨m, []⟩ :: stk⟩) (fun r0 => (some (.ret (.d (.bool r0)), stk) : Rk'))) out := by
  simp only [b_cascadelaw28_PartsBent_4] at hp
  rw [h.at_, hT]
  cbv
  cases c48 : xcmp .geq v8 v9 with
  | false =>
    simp only [c48] at hp ⊢
    cbv
    first | exact h_l_5 hp _ | (have q := h_l_5 hp _; simp only [h.map_cons, h.map_nil, h.len_nil, he_e_uint8, he_e_string] at q; first | exact q | (cbv; exact q))
  | true =>
    simp only [c48] at hp ⊢
    cbv
    cases c49 : xcmp .lss v8 v12 with
    | false =>
      simp only [c49] at hp ⊢
      cbv
      first | exact h_l_5 hp _ | (have q := h_l_5 hp _; simp only [h.map_cons, h.map_nil, h.len_nil, he_e_uint8, he_e_string] at q; first | exact q | (cbv; exact q))
    | true =>
      simp only [c49] at hp ⊢
      cbv
      cases c51 : psidx v7 v8 with
      | none => simp only [c51] at hp; cases hp
      | some b50 =>
        simp only [c51] at hp
        obtain ⟨w, q1, q2, q3⟩ := h.sidx c51
        simp only [q1, q2, q3, Bool.false_eq_true, if_false]
        cbv
        cases c52 : xcmp .geq b50 48 with
        | false =>
          simp only [c52] at hp ⊢
          cbv
          first | exact h_l_5 hp _ | (have q := h_l_5 hp _; simp only [h.map_cons, h.map_nil, h.len_nil, he_e_uint8, he_e_string] at q; first | exact q | (cbv; exact q))
        | true =>
          simp only [c52] at hp ⊢
          cbv
          obtain ⟨w, q1, q2, q3⟩ := h.sidx c51
          simp only [q1, q2, q3, Bool.false_eq_true, if_false]
          cbv
          cases c53 : xcmp .leq b50 57 with
          | false =>
            simp only [c53] at hp ⊢
            cbv
            first | exact h_l_5 hp _ | (have q := h_l_5 hp _; simp only [h.map_cons, h.map_nil, h.len_nil, he_e_uint8, he_e_string] at q; first | exact q | (cbv; exact q))
          | true =>
            simp only [c53] at hp ⊢
            cbv
            cases hp
            all_goals first | rfl | (cbv; done) | (simp only [h.nadd0, h.nle_refl, h.cut_all, h.cut_nil, h.map_cons, h.map_nil, h.len_nil, he_e_uint8, he_e_string, if_true]; done) | (simp only [h.nadd0, h.nle_refl, h.cut_all, h.cut_nil, h.map_cons, h.map_nil, h.len_nil, he_e_uint8, he_e_string, if_true]; first | rfl | (cbv; done) | (cbv; simp only [h.map_cons, h.map_nil, h.len_nil, he_e_uint8, he_e_string]; done))
def b_cascadelaw28_PartsBent_5 (P : Prims) (c_cascadelaw28_awake : Option (Bool)) (c_cascadelaw28_few : (List Str) → Int → Int → Option (Bool)) (c_cascaderef28_Whole : (List Str) → Option (Str)) (c_cascaderef28_Part : Str → Option (Str)) (c_parts_New__0 : Option (Str × Int × Bool × Int)) (c_parts_Reader_Feed__0 : Str → Str → Int → Bool → Int → Option (Str × Int × Bool × Int)) (c_cascadelaw28_drain__0 : Str → Int → Bool → Int → Option ((List Str) × Str × Int × Bool × Int)) (c_cascaderef12_SameNames : (List Str) → (List Str) → Option (Bool)) (c_parts_Reader_Bad__0 : Str → Int → Bool → Int → Option (Int)) (c_parts_Reader_Over__0 : Str → Int → Bool → Int → Option (Bool))  (v0 : (List Str)) (v2 : Int) (v7 : Str) (v8 : Int) (v9 : Int) (v10 : Int) (v11 : Str) : Option (((List Str) × Int × Str × Int × Int × Int) ⊕ (Bool)) :=
  some (.inl (v0, v2, v7, v8, P.ar .add .i64 v9 (P.slen v11), P.ar .add .i64 v10 1))
theorem o_cascadelaw28_PartsBent_5 (c_cascadelaw28_awake : Option (Bool)) (c_cascadelaw28_few : (List Str) → Int → Int → Option (Bool)) (c_cascaderef28_Whole : (List Str) → Option (Str)) (c_cascaderef28_Part : Str → Option (Str)) (c_parts_New__0 : Option (Str × Int × Bool × Int)) (c_parts_Reader_Feed__0 : Str → Str → Int → Bool → Int → Option (Str × Int × Bool × Int)) (c_cascadelaw28_drain__0 : Str → Int → Bool → Int → Option ((List Str) × Str × Int × Bool × Int)) (c_cascaderef12_SameNames : (List Str) → (List Str) → Option (Bool)) (c_parts_Reader_Bad__0 : Str → Int → Bool → Int → Option (Int)) (c_parts_Reader_Over__0 : Str → Int → Bool → Int → Option (Bool)) (h_cascadelaw28_awake : ∀ {r0 : Bool}, c_cascadelaw28_awake  = some r0 → ∀ (stk : Stk) , xpcall 12 [] stk = some (.d (.bool r0)) ∧ xfcall 12 [] stk = some (.d (.bool r0), stk)) (h_cascadelaw28_few : ∀ {v0 : (List Str)} {v1 : Int} {v2 : Int} {r0 : Bool}, c_cascadelaw28_few v0 v1 v2 = some r0 → ∀ (stk : Stk) , xpcall 17 [(.d (.sl (xmap e_string v0))), (.d (.int .i64 v1)), (.d (.int .i64 v2))] stk = some (.d (.bool r0)) ∧ xfcall 17 [(.d (.sl (xmap e_string v0))), (.d (.int .i64 v1)), (.d (.int .i64 v2))] stk = some (.d (.bool r0), stk)) (h_cascaderef28_Whole : ∀ {v0 : (List Str)} {r0 : Str}, c_cascaderef28_Whole v0 = some r0 → ∀ (stk : Stk) , xpcall 18 [(.d (.sl (xmap e_string v0)))] stk = some (.d (.str r0)) ∧ xfcall 18 [(.d (.sl (xmap e_string v0)))] stk = some (.d (.str r0), stk)) (h_cascaderef28_Part : ∀ {v0 : Str} {r0 : Str}, c_cascaderef28_Part v0 = some r0 → ∀ (stk : Stk) , xpcall 19 [(.d (.str v0))] stk = some (.d (.str r0)) ∧ xfcall 19 [(.d (.str v0))] stk = some (.d (.str r0), stk)) (h_parts_New__0 : ∀ {qo2_0 : Str} {qo2_1 : Int} {qo2_2 : Bool} {qo2_3 : Int}, c_parts_New__0  = some (qo2_0, qo2_1, qo2_2, qo2_3) → ∀ (stk : Stk) , ∀ m, m = topN stk + 1 → xkcall 13 [[2]] [] stk = some ((.ref ⟨m, [2]⟩ 0), ⟨m, [([2], (.cells [(.d (.str qo2_0)), (.d (.int .i64 qo2_1)), (.d (.bool qo2_2)), (.d (.int .i64 qo2_3))]))]⟩, stk)) (h_parts_Reader_Feed__0 : ∀ {v1 : Str} {L0_0 : Str} {L0_1 : Int} {L0_2 : Bool} {L0_3 : Int} {r_w0_0 : Str} {r_w0_1 : Int} {r_w0_2 : Bool} {r_w0_3 : Int}, c_parts_Reader_Feed__0 v1 L0_0 L0_1 L0_2 L0_3 = some (r_w0_0, r_w0_1, r_w0_2, r_w0_3) → ∀ (stk : Stk) (n0 : Nat) (k0 : List Nat), getO stk ⟨n0, k0⟩ = some (.cells [(.d (.str L0_0)), (.d (.int .i64 L0_1)), (.d (.bool L0_2)), (.d (.int .i64 L0_3))]) → n0 ≤ topN stk → xfcall 14 [(.ref ⟨n0, k0⟩ 0), (.d (.str v1))] stk = some (.d (.tup []), (xsetO stk ⟨n0, k0⟩ (.cells [(.d (.str r_w0_0)), (.d (.int .i64 r_w0_1)), (.d (.bool r_w0_2)), (.d (.int .i64 r_w0_3))])))) (h_cascadelaw28_drain__0 : ∀ {L0_0 : Str} {L0_1 : Int} {L0_2 : Bool} {L0_3 : Int} {r0 : (List Str)} {r_w0_0 : Str} {r_w0_1 : Int} {r_w0_2 : Bool} {r_w0_3 : Int}, c_cascadelaw28_drain__0 L0_0 L0_1 L0_2 L0_3 = some (r0, r_w0_0, r_w0_1, r_w0_2, r_w0_3) → ∀ (stk : Stk) (n0 : Nat) (k0 : List Nat), getO stk ⟨n0, k0⟩ = some (.cells [(.d (.str L0_0)), (.d (.int .i64 L0_1)), (.d (.bool L0_2)), (.d (.int .i64 L0_3))]) → n0 ≤ topN stk → xfcall 20 [(.ref ⟨n0, k0⟩ 0), (.d .nils)] stk = some (.d (.sl (xmap e_string r0)), (xsetO stk ⟨n0, k0⟩ (.cells [(.d (.str r_w0_0)), (.d (.int .i64 r_w0_1)), (.d (.bool r_w0_2)), (.d (.int .i64 r_w0_3))])))) (h_cascaderef12_SameNames : ∀ {v0 : (List Str)} {v1 : (List Str)} {r0 : Bool}, c_cascaderef12_SameNames v0 v1 = some r0 → ∀ (stk : Stk) , xpcall 21 [(.d (.sl (xmap e_string v0))), (.d (.sl (xmap e_string v1)))] stk = some (.d (.bool r0)) ∧ xfcall 21 [(.d (.sl (xmap e_string v0))), (.d (.sl (xmap e_string v1)))] stk = some (.d (.bool r0), stk)) (h_parts_Reader_Bad__0 : ∀ {L0_0 : Str} {L0_1 : Int} {L0_2 : Bool} {L0_3 : Int} {r0 : Int}, c_parts_Reader_Bad__0 L0_0 L0_1 L0_2 L0_3 = some r0 → ∀ (stk : Stk) (n0 : Nat) (k0 : List Nat), getO stk ⟨n0, k0⟩ = some (.cells [(.d (.str L0_0)), (.d (.int .i64 L0_1)), (.d (.bool L0_2)), (.d (.int .i64 L0_3))]) → n0 ≤ topN stk → xpcall 16 [(.ref ⟨n0, k0⟩ 0)] stk = some (.d (.int .i64 r0)) ∧ xfcall 16 [(.ref ⟨n0, k0⟩ 0)] stk = some (.d (.int .i64 r0), stk)) (h_parts_Reader_Over__0 : ∀ {L0_0 : Str} {L0_1 : Int} {L0_2 : Bool} {L0_3 : Int} {r0 : Bool}, c_parts_Reader_Over__0 L0_0 L0_1 L0_2 L0_3 = some r0 → ∀ (stk : Stk) (n0 : Nat) (k0 : List Nat), getO stk ⟨n0, k0⟩ = some (.cells [(.d (.str L0_0)), (.d (.int .i64 L0_1)), (.d (.bool L0_2)), (.d (.int .i64 L0_3))]) → n0 ≤ topN stk → xpcall 22 [(.ref ⟨n0, k0⟩ 0)] stk = some (.d (.bool r0)) ∧ xfcall 22 [(.ref ⟨n0, k0⟩ 0)] stk = some (.d (.bool r0), stk)) (stk : Stk) (m : Nat)     (v0 : (List Str)) (v2 : Int) (v7 : Str) (v8 : Int) (v9 : Int) (v10 : Int) (v11 : Str)   {out} (hp : b_cascadelaw28_PartsBent_5 ⟨xar, xcmp, xwrap, xseq, xslt, xenc, pquo, pshf, pslen, psidx, pssub, pscat, psit, pslist, pofBytes, @plen, @pidx, @psub, @papp, @pset, @pmake, @ploop⟩ c_cascadelaw28_awake c_cascadelaw28_few c_cascaderef28_Whole c_cascaderef28_Part c_parts_New__0 c_parts_Reader_Feed__0 c_cascadelaw28_drain__0 c_cascaderef12_SameNames c_parts_Reader_Bad__0 c_parts_Reader_Over__0  v0 v2 v7 v8 v9 v10 v11 = some out) : xat 6 .frz 5 [.blk 1, .sub ⟨6, [0, 2, 7, 8, 9, 10], []⟩, .lp ⟨2, [0, 2, 7, 8, 9, 10], []⟩, .blk 0, .sub ⟨7, [0, 2, 7, 8], []⟩] ⟨[(0, (.d (.sl (xmap e_string v0)))), (2, (.d (.int .u8 v2))), (7, (.d (.str v7))), (8, (.d (.int .i64 v8))), (9, (.d (.int .i64 v9))), (10, (.d (.int .i64 v10))), (11, (.d (.str v11)))], ⟨m, []⟩ :: stk⟩ = (Sum.elim (fun (v0, v2, v7, v8, v9, v10) => xat 6 .frz 2 [.lp ⟨2, [0, 2, 7, 8, 9, 10], []⟩, .blk 0, .sub ⟨7, [0, 2, 7, 8], []⟩] ⟨[(0, (.d (.sl (xmap e_string v0)))), (2, (.d (.int .u8 v2))), (7, (.d (.str v7))), (8, (.d (.int .i64 v8))), (9, (.d (.int .i64 v9))), (10, (.d (.int .i64 v10)))], ⟨m, []⟩ :: stk⟩) (fun r0 => (some (.ret (.d (.bool r0)), stk) : Rk'))) out := by
  simp only [b_cascadelaw28_PartsBent_5] at hp
  rw [h.at_, hT]
  cbv
  try simp only [h.slen]
  rw [h.at_, hT]
  cbv
  cases hp
  all_goals first | rfl | (cbv; done) | (simp only [h.nadd0, h.nle_refl, h.cut_all, h.cut_nil, h.map_cons, h.map_nil, h.len_nil, he_e_uint8, he_e_string, if_true]; done) | (simp only [h.nadd0, h.nle_refl, h.cut_all, h.cut_nil, h.map_cons, h.map_nil, h.len_nil, he_e_uint8, he_e_string, if_true]; first | rfl | (cbv; done) | (cbv; simp only [h.map_cons, h.map_nil, h.len_nil, he_e_uint8, he_e_string]; done))
end
end Go.Abs.P
