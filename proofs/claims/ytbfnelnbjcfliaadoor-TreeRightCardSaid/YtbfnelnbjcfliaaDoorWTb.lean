import Derived.Test.YtbfnelnbjcfliaaDoorWT
set_option linter.unusedSimpArgs false
set_option linter.unusedVariables false
set_option linter.unusedSectionVars false
namespace Go.Abs.T
set_option maxRecDepth 100000
section
variable {xR : FuncId → Option RF} {xiter : (St → Rs) → St → Rs} {xG : Nat → Option (List D)} {xcall : CallF} {xpcall : FuncId → List V → Stk → Option V} {xfcall : FuncId → List V → Stk → Option (V × Stk)} {xkcall : FuncId → List (List Nat) → List V → Stk → Option (V × Level × Stk)} {xlen : List D → Nat} {xnth : List D → Nat → Option D} {xcut : List D → Nat → Nat → List D} {xapp : List D → List D → List D} {xset : List D → Nat → D → List D} {xrep : Nat → D → List D} {xallsz : Nat → List D → Bool} {xslen : Str → Nat} {xsnth : Str → Nat → Option UInt8} {xscut : Str → Nat → Nat → Str} {xsapp : Str → Str → Str} {xseq : Str → Str → Bool} {xslt : Str → Str → Bool} {xofStr : Str → List D} {xtoStr : List D → Option Str} {xdec : Str → Nat → Nat × Nat} {xenc : Int → Str} {xar : BinOp → IntKind → Int → Int → Int} {xcmp : BinOp → Int → Int → Bool} {xwrap : IntKind → Int → Int} {xisz : Int → Bool} {xneg : Int → Bool} {xnat : Int → Nat} {xofN : Nat → Int} {xbyte : UInt8 → Int} {xnle : Nat → Nat → Bool} {xnadd : Nat → Nat → Nat} {xnsub : Nat → Nat → Nat} {xfits : Nat → Nat → Bool} {xfind : D → List (D × Nat × V) → Option (Option V)} {xputE : D → Nat → V → List (D × Nat × V) → Option (List (D × Nat × V))} {xfindK : D → List D → List D → Option (Option D)} {xelen : List (D × Nat × V) → Nat} {xfrzM : List (D × Nat × V) → Option (List D × List D)} {xat : AtF} {xsetO : Stk → Lab → O → Stk} {xtop : Stk → Nat} {xsame : Stk → Stk → Bool} {xmap : {α : Type} → (α → D) → List α → List D} {xmapE : {α : Type} → (α → D) → List (Str × Nat × α) → List (D × Nat × V)} {pquo : BinOp → IntKind → Int → Int → Option Int} {pshf : BinOp → IntKind → Int → Int → Option Int} {pslen : Str → Int} {psidx : Str → Int → Option Int} {pssub : Str → Option Int → Option Int → Option Str} {pscat : Str → Str → Option Str} {psit : Str → Nat → Option (Int × Int × Nat)} {pslist : Str → Option (List Int)} {pofBytes : List Int → Str} {plen : {α : Type} → List α → Int} {pidx : {α : Type} → List α → Int → Option α} {psub : {α : Type} → List α → Option Int → Option Int → Option (List α)} {papp : {α : Type} → Nat → List α → List α → Option (List α)} {pset : {α : Type} → List α → Int → α → Option (List α)} {pmake : {α : Type} → Nat → α → Int → Option (List α)} {pmfind : {α : Type} → Str → List (Str × Nat × α) → Option α} {pmput : {α : Type} → Str → Nat → α → List (Str × Nat × α) → List (Str × Nat × α)} {ploop : {σ ρ : Type} → (σ → Option (σ ⊕ ρ)) → σ → Option ρ} {xT : FuncId → Option KF}
  (h : KLaws xR xiter xG xcall xpcall xfcall xkcall xlen xnth xcut xapp xset xrep xallsz xslen xsnth xscut xsapp xseq xslt xofStr xtoStr xdec xenc xar xcmp xwrap xisz xneg xnat xofN xbyte xnle xnadd xnsub xfits xfind xputE xfindK xelen xfrzM xat xsetO xtop xsame @xmap @xmapE pquo pshf pslen psidx pssub pscat psit pslist pofBytes @plen @pidx @psub @papp @pset @pmake @pmfind @pmput @ploop xT) (hT : xT = table)
variable {e_api_Value : S_api_Value → D} {e_api_Pair : S_api_Pair → D} {e_int : Int → D} (he_e_api_Value : ∀ (x_0 : Int) (x_1 : Int) (x_2 : Str) (x_3 : (List S_api_Value)) (x_4 : (List S_api_Pair)), e_api_Value ⟨x_0, x_1, x_2, x_3, x_4⟩ = (.agg [(.int .i64 x_0), (.int .i64 x_1), (.str x_2), (.sl (xmap e_api_Value x_3)), (.sl (xmap e_api_Pair x_4))])) (hz_e_api_Value : ∀ l, xallsz 5 (xmap e_api_Value l) = true) (he_e_api_Pair : ∀ (x_0 : Str) (x_1_0 : Int) (x_1_1 : Int) (x_1_2 : Str) (x_1_3 : (List S_api_Value)) (x_1_4 : (List S_api_Pair)), e_api_Pair ⟨x_0, ⟨x_1_0, x_1_1, x_1_2, x_1_3, x_1_4⟩⟩ = (.agg [(.str x_0), (.int .i64 x_1_0), (.int .i64 x_1_1), (.str x_1_2), (.sl (xmap e_api_Value x_1_3)), (.sl (xmap e_api_Pair x_1_4))])) (hz_e_api_Pair : ∀ l, xallsz 6 (xmap e_api_Pair l) = true) (he_e_int : ∀ (x : Int), e_int x = (.int .i64 x)) (hz_e_int : ∀ l, xallsz 1 (xmap e_int l) = true)
include h hT he_e_api_Value hz_e_api_Value he_e_api_Pair hz_e_api_Pair he_e_int hz_e_int
def b_cascaderef03_Same_0 (P : Prims) (c_cascaderef03_Same : S_api_Value → S_api_Value → Option (Bool)) (l_2 : Int → Int → Str → (List S_api_Value) → (List S_api_Pair) → Int → Int → Str → (List S_api_Value) → (List S_api_Pair) → Int → Option (Bool)) (v0_0 : Int) (v0_1 : Int) (v0_2 : Str) (v0_3 : (List S_api_Value)) (v0_4 : (List S_api_Pair)) (v1_0 : Int) (v1_1 : Int) (v1_2 : Str) (v1_3 : (List S_api_Value)) (v1_4 : (List S_api_Pair)) : Option (Bool) :=
  match P.cmp .neq v0_0 v1_0 with
  | false =>
    match P.cmp .neq v0_1 v1_1 with
    | false =>
      match P.seq v0_2 v1_2 with
      | false =>
        some false
      | true =>
        match P.cmp .neq (P.len v0_3) (P.len v1_3) with
        | false =>
          match P.cmp .neq (P.len v0_4) (P.len v1_4) with
          | false =>
            l_2 v0_0 v0_1 v0_2 v0_3 v0_4 v1_0 v1_1 v1_2 v1_3 v1_4 0
          | true =>
            some false
        | true =>
          some false
    | true =>
      some false
  | true =>
    some false
theorem o_cascaderef03_Same_0 (c_cascaderef03_Same : S_api_Value → S_api_Value → Option (Bool)) (h_cascaderef03_Same : ∀ {v0_0 : Int} {v0_1 : Int} {v0_2 : Str} {v0_3 : (List S_api_Value)} {v0_4 : (List S_api_Pair)} {v1_0 : Int} {v1_1 : Int} {v1_2 : Str} {v1_3 : (List S_api_Value)} {v1_4 : (List S_api_Pair)} {r0 : Bool}, c_cascaderef03_Same ⟨v0_0, v0_1, v0_2, v0_3, v0_4⟩ ⟨v1_0, v1_1, v1_2, v1_3, v1_4⟩ = some r0 → ∀ (stk : Stk) , xpcall 19 [(.d (.agg [(.int .i64 v0_0), (.int .i64 v0_1), (.str v0_2), (.sl (xmap e_api_Value v0_3)), (.sl (xmap e_api_Pair v0_4))])), (.d (.agg [(.int .i64 v1_0), (.int .i64 v1_1), (.str v1_2), (.sl (xmap e_api_Value v1_3)), (.sl (xmap e_api_Pair v1_4))]))] stk = some (.d (.bool r0)) ∧ xfcall 19 [(.d (.agg [(.int .i64 v0_0), (.int .i64 v0_1), (.str v0_2), (.sl (xmap e_api_Value v0_3)), (.sl (xmap e_api_Pair v0_4))])), (.d (.agg [(.int .i64 v1_0), (.int .i64 v1_1), (.str v1_2), (.sl (xmap e_api_Value v1_3)), (.sl (xmap e_api_Pair v1_4))]))] stk = some (.d (.bool r0), stk)) (stk : Stk) (m : Nat)    (l_2 : Int → Int → Str → (List S_api_Value) → (List S_api_Pair) → Int → Int → Str → (List S_api_Value) → (List S_api_Pair) → Int → Option (Bool)) (v0_0 : Int) (v0_1 : Int) (v0_2 : Str) (v0_3 : (List S_api_Value)) (v0_4 : (List S_api_Pair)) (v1_0 : Int) (v1_1 : Int) (v1_2 : Str) (v1_3 : (List S_api_Value)) (v1_4 : (List S_api_Pair))  (h_l_2 : ∀ {v2_0 : Int} {v2_1 : Int} {v2_2 : Str} {v2_3 : (List S_api_Value)} {v2_4 : (List S_api_Pair)} {v3_0 : Int} {v3_1 : Int} {v3_2 : Str} {v3_3 : (List S_api_Value)} {v3_4 : (List S_api_Pair)} {v5 : Int} {out}, l_2 v2_0 v2_1 v2_2 v2_3 v2_4 v3_0 v3_1 v3_2 v3_3 v3_4 v5 = some out → ∀ (stk : Stk), xat 19 .frz 2 [.lp ⟨2, [2, 3, 5], []⟩, .blk 0, .sub ⟨5, [2, 3], []⟩] ⟨[(2, (.d (.iptr [(.int .i64 v2_0), (.int .i64 v2_1), (.str v2_2), (.sl (xmap e_api_Value v2_3)), (.sl (xmap e_api_Pair v2_4))]))), (3, (.d (.iptr [(.int .i64 v3_0), (.int .i64 v3_1), (.str v3_2), (.sl (xmap e_api_Value v3_3)), (.sl (xmap e_api_Pair v3_4))]))), (5, (.d (.int .i64 v5)))], ⟨m, []⟩ :: stk⟩ = (fun r0 => (some (.ret (.d (.bool r0)), stk) : Rk')) out) {out} (hp : b_cascaderef03_Same_0 ⟨xar, xcmp, xwrap, xseq, xslt, xenc, pquo, pshf, pslen, psidx, pssub, pscat, psit, pslist, pofBytes, @plen, @pidx, @psub, @papp, @pset, @pmake, @pmfind, @pmput, @ploop⟩ c_cascaderef03_Same l_2 v0_0 v0_1 v0_2 v0_3 v0_4 v1_0 v1_1 v1_2 v1_3 v1_4 = some out) : xat 19 .frz 0 [] ⟨[(0, (.d (.agg [(.int .i64 v0_0), (.int .i64 v0_1), (.str v0_2), (.sl (xmap e_api_Value v0_3)), (.sl (xmap e_api_Pair v0_4))]))), (1, (.d (.agg [(.int .i64 v1_0), (.int .i64 v1_1), (.str v1_2), (.sl (xmap e_api_Value v1_3)), (.sl (xmap e_api_Pair v1_4))])))], ⟨m, []⟩ :: stk⟩ = (fun r0 => (some (.ret (.d (.bool r0)), stk) : Rk')) out := by
  simp only [b_cascaderef03_Same_0] at hp
  rw [h.at_, hT]
  cbv
  cases c1 : xcmp .neq v0_0 v1_0 with
  | false =>
    simp only [c1] at hp ⊢
    cbv
    cases c2 : xcmp .neq v0_1 v1_1 with
    | false =>
      simp only [c2] at hp ⊢
      cbv
      cases c3 : xseq v0_2 v1_2 with
      | false =>
        simp only [c3] at hp ⊢
        cbv
        cases hp
        all_goals first | rfl | (cbv; done)
      | true =>
        simp only [c3] at hp ⊢
        cbv
        try simp only [h.len]
        try simp only [h.len]
        cases c4 : xcmp .neq (plen v0_3) (plen v1_3) with
        | false =>
          simp only [c4] at hp ⊢
          cbv
          try simp only [h.len]
          try simp only [h.len]
          cases c5 : xcmp .neq (plen v0_4) (plen v1_4) with
          | false =>
            simp only [c5] at hp ⊢
            cbv
            rw [h.at_, hT]
            cbv
            first | exact h_l_2 hp stk | (have q := h_l_2 hp stk; simp only [h.map_cons, h.map_nil, h.mapE_nil, h.len_nil, he_e_api_Value, he_e_api_Pair, he_e_int] at q; first | exact q | (cbv; exact q))
          | true =>
            simp only [c5] at hp ⊢
            cbv
            cases hp
            all_goals first | rfl | (cbv; done)
        | true =>
          simp only [c4] at hp ⊢
          cbv
          cases hp
          all_goals first | rfl | (cbv; done)
    | true =>
      simp only [c2] at hp ⊢
      cbv
      cases hp
      all_goals first | rfl | (cbv; done)
  | true =>
    simp only [c1] at hp ⊢
    cbv
    cases hp
    all_goals first | rfl | (cbv; done)
def b_cascaderef03_Same_2 (P : Prims) (c_cascaderef03_Same : S_api_Value → S_api_Value → Option (Bool)) (l_6 : Int → Int → Str → (List S_api_Value) → (List S_api_Pair) → Int → Int → Str → (List S_api_Value) → (List S_api_Pair) → Int → Option (Bool)) (v2_0 : Int) (v2_1 : Int) (v2_2 : Str) (v2_3 : (List S_api_Value)) (v2_4 : (List S_api_Pair)) (v3_0 : Int) (v3_1 : Int) (v3_2 : Str) (v3_3 : (List S_api_Value)) (v3_4 : (List S_api_Pair)) (v5 : Int) : Option ((Int × Int × Str × (List S_api_Value) × (List S_api_Pair) × Int × Int × Str × (List S_api_Value) × (List S_api_Pair) × Int) ⊕ (Bool)) :=
  match P.cmp .lss v5 (P.len v2_3) with
  | false =>
    match l_6 v2_0 v2_1 v2_2 v2_3 v2_4 v3_0 v3_1 v3_2 v3_3 v3_4 0 with | none => none | some o16 => some (.inr o16)
  | true =>
    match P.idx v2_3 v5 with
    | none => none
    | some ⟨a7_0, a7_1, a7_2, a7_3, a7_4⟩ =>
      match P.idx v3_3 v5 with
      | none => none
      | some ⟨a9_0, a9_1, a9_2, a9_3, a9_4⟩ =>
        match c_cascaderef03_Same ⟨a7_0, a7_1, a7_2, a7_3, a7_4⟩ ⟨a9_0, a9_1, a9_2, a9_3, a9_4⟩ with
        | none => none
        | some r11_0 =>
          match r11_0 with
          | false =>
            some (.inr false)
          | true =>
            some (.inl (v2_0, v2_1, v2_2, v2_3, v2_4, v3_0, v3_1, v3_2, v3_3, v3_4, P.ar .add .i64 v5 1))
theorem o_cascaderef03_Same_2 (c_cascaderef03_Same : S_api_Value → S_api_Value → Option (Bool)) (h_cascaderef03_Same : ∀ {v0_0 : Int} {v0_1 : Int} {v0_2 : Str} {v0_3 : (List S_api_Value)} {v0_4 : (List S_api_Pair)} {v1_0 : Int} {v1_1 : Int} {v1_2 : Str} {v1_3 : (List S_api_Value)} {v1_4 : (List S_api_Pair)} {r0 : Bool}, c_cascaderef03_Same ⟨v0_0, v0_1, v0_2, v0_3, v0_4⟩ ⟨v1_0, v1_1, v1_2, v1_3, v1_4⟩ = some r0 → ∀ (stk : Stk) , xpcall 19 [(.d (.agg [(.int .i64 v0_0), (.int .i64 v0_1), (.str v0_2), (.sl (xmap e_api_Value v0_3)), (.sl (xmap e_api_Pair v0_4))])), (.d (.agg [(.int .i64 v1_0), (.int .i64 v1_1), (.str v1_2), (.sl (xmap e_api_Value v1_3)), (.sl (xmap e_api_Pair v1_4))]))] stk = some (.d (.bool r0)) ∧ xfcall 19 [(.d (.agg [(.int .i64 v0_0), (.int .i64 v0_1), (.str v0_2), (.sl (xmap e_api_Value v0_3)), (.sl (xmap e_api_Pair v0_4))])), (.d (.agg [(.int .i64 v1_0), (.int .i64 v1_1), (.str v1_2), (.sl (xmap e_api_Value v1_3)), (.sl (xmap e_api_Pair v1_4))]))] stk = some (.d (.bool r0), stk)) (stk : Stk) (m : Nat)    (l_6 : Int → Int → Str → (List S_api_Value) → (List S_api_Pair) → Int → Int → Str → (List S_api_Value) → (List S_api_Pair) → Int → Option (Bool)) (v2_0 : Int) (v2_1 : Int) (v2_2 : Str) (v2_3 : (List S_api_Value)) (v2_4 : (List S_api_Pair)) (v3_0 : Int) (v3_1 : Int) (v3_2 : Str) (v3_3 : (List S_api_Value)) (v3_4 : (List S_api_Pair)) (v5 : Int)  (h_l_6 : ∀ {v2_0 : Int} {v2_1 : Int} {v2_2 : Str} {v2_3 : (List S_api_Value)} {v2_4 : (List S_api_Pair)} {v3_0 : Int} {v3_1 : Int} {v3_2 : Str} {v3_3 : (List S_api_Value)} {v3_4 : (List S_api_Pair)} {v6 : Int} {out}, l_6 v2_0 v2_1 v2_2 v2_3 v2_4 v3_0 v3_1 v3_2 v3_3 v3_4 v6 = some out → ∀ (stk : Stk), xat 19 .frz 6 [.lp ⟨6, [2, 3, 6], []⟩, .blk 2, .sub ⟨9, [], []⟩] ⟨[(2, (.d (.iptr [(.int .i64 v2_0), (.int .i64 v2_1), (.str v2_2), (.sl (xmap e_api_Value v2_3)), (.sl (xmap e_api_Pair v2_4))]))), (3, (.d (.iptr [(.int .i64 v3_0), (.int .i64 v3_1), (.str v3_2), (.sl (xmap e_api_Value v3_3)), (.sl (xmap e_api_Pair v3_4))]))), (6, (.d (.int .i64 v6)))], ⟨m, []⟩ :: stk⟩ = (fun r0 => (some (.ret (.d (.bool r0)), stk) : Rk')) out) {out} (hp : b_cascaderef03_Same_2 ⟨xar, xcmp, xwrap, xseq, xslt, xenc, pquo, pshf, pslen, psidx, pssub, pscat, psit, pslist, pofBytes, @plen, @pidx, @psub, @papp, @pset, @pmake, @pmfind, @pmput, @ploop⟩ c_cascaderef03_Same l_6 v2_0 v2_1 v2_2 v2_3 v2_4 v3_0 v3_1 v3_2 v3_3 v3_4 v5 = some out) : xat 19 .frz 2 [.lp ⟨2, [2, 3, 5], []⟩, .blk 0, .sub ⟨5, [2, 3], []⟩] ⟨[(2, (.d (.iptr [(.int .i64 v2_0), (.int .i64 v2_1), (.str v2_2), (.sl (xmap e_api_Value v2_3)), (.sl (xmap e_api_Pair v2_4))]))), (3, (.d (.iptr [(.int .i64 v3_0), (.int .i64 v3_1), (.str v3_2), (.sl (xmap e_api_Value v3_3)), (.sl (xmap e_api_Pair v3_4))]))), (5, (.d (.int .i64 v5)))], ⟨m, []⟩ :: stk⟩ = (Sum.elim (fun (v2_0, v2_1, v2_2, v2_3, v2_4, v3_0, v3_1, v3_2, v3_3, v3_4, v5) => xat 19 .frz 2 [.lp ⟨2, [2, 3, 5], []⟩, .blk 0, .sub ⟨5, [2, 3], []⟩] ⟨[(2, (.d (.iptr [(.int .i64 v2_0), (.int .i64 v2_1), (.str v2_2), (.sl (xmap e_api_Value v2_3)), (.sl (xmap e_api_Pair v2_4))]))), (3, (.d (.iptr [(.int .i64 v3_0), (.int .i64 v3_1), (.str v3_2), (.sl (xmap e_api_Value v3_3)), (.sl (xmap e_api_Pair v3_4))]))), (5, (.d (.int .i64 v5)))], ⟨m, []⟩ :: stk⟩) (fun r0 => (some (.ret (.d (.bool r0)), stk) : Rk'))) out := by
  simp only [b_cascaderef03_Same_2] at hp
  rw [h.at_, hT]
  cbv
  try simp only [h.len]
  cases c6 : xcmp .lss v5 (plen v2_3) with
  | false =>
    simp only [c6] at hp ⊢
    cbv
    rw [h.at_, hT]
    cbv
    cases c : l_6 v2_0 v2_1 v2_2 v2_3 v2_4 v3_0 v3_1 v3_2 v3_3 v3_4 0 with
    | none => simp only [c] at hp; cases hp
    | some o16 =>
      simp only [c] at hp
      cases hp
      first | exact h_l_6 c stk | (have q := h_l_6 c stk; simp only [h.map_cons, h.map_nil, h.mapE_nil, h.len_nil, he_e_api_Value, he_e_api_Pair, he_e_int] at q; first | exact q | (cbv; exact q))
  | true =>
    simp only [c6] at hp ⊢
    cbv
    rw [h.at_, hT]
    cbv
    cases c8 : pidx v2_3 v5 with
    | none => simp only [c8] at hp; cases hp
    | some y15 =>
      obtain ⟨a7_0, a7_1, a7_2, a7_3, a7_4⟩ := y15
      simp only [c8] at hp
      obtain ⟨q1, q2⟩ := h.idx e_api_Value c8
      simp only [he_e_api_Value] at q2
      simp only [q1, Bool.false_eq_true, if_false]
      cbv
      try simp only [q2]
      cbv
      cases c10 : pidx v3_3 v5 with
      | none => simp only [c10] at hp; cases hp
      | some y14 =>
        obtain ⟨a9_0, a9_1, a9_2, a9_3, a9_4⟩ := y14
        simp only [c10] at hp
        obtain ⟨q1, q2⟩ := h.idx e_api_Value c10
        simp only [he_e_api_Value] at q2
        simp only [q1, Bool.false_eq_true, if_false]
        cbv
        try simp only [q2]
        cbv
        cases c12 : c_cascaderef03_Same ⟨a7_0, a7_1, a7_2, a7_3, a7_4⟩ ⟨a9_0, a9_1, a9_2, a9_3, a9_4⟩ with
        | none => simp only [c12] at hp; cases hp
        | some r11_0 =>
          simp only [c12] at hp
          have qc := (h_cascaderef03_Same c12 (⟨m, []⟩ :: stk) ).1
          simp only [qc]
          cbv
          cases r11_0 with
          | false =>
            simp only at hp
            cbv
            cases hp
            all_goals first | rfl | (cbv; done)
          | true =>
            simp only at hp
            cbv
            rw [h.at_, hT]
            cbv
            cases hp
            all_goals first | rfl | (cbv; done)
def b_cascaderef03_Same_6 (P : Prims) (c_cascaderef03_Same : S_api_Value → S_api_Value → Option (Bool))  (v2_0 : Int) (v2_1 : Int) (v2_2 : Str) (v2_3 : (List S_api_Value)) (v2_4 : (List S_api_Pair)) (v3_0 : Int) (v3_1 : Int) (v3_2 : Str) (v3_3 : (List S_api_Value)) (v3_4 : (List S_api_Pair)) (v6 : Int) : Option ((Int × Int × Str × (List S_api_Value) × (List S_api_Pair) × Int × Int × Str × (List S_api_Value) × (List S_api_Pair) × Int) ⊕ (Bool)) :=
  match P.cmp .lss v6 (P.len v2_4) with
  | false =>
    some (.inr true)
  | true =>
    match P.idx v2_4 v6 with
    | none => none
    | some ⟨a18_0, ⟨a18_1_0, a18_1_1, a18_1_2, a18_1_3, a18_1_4⟩⟩ =>
      match P.idx v3_4 v6 with
      | none => none
      | some ⟨a20_0, ⟨a20_1_0, a20_1_1, a20_1_2, a20_1_3, a20_1_4⟩⟩ =>
        match P.seq a18_0 a20_0 with
        | false =>
          some (.inr false)
        | true =>
          match c_cascaderef03_Same ⟨a18_1_0, a18_1_1, a18_1_2, a18_1_3, a18_1_4⟩ ⟨a20_1_0, a20_1_1, a20_1_2, a20_1_3, a20_1_4⟩ with
          | none => none
          | some r23_0 =>
            match r23_0 with
            | false =>
              some (.inr false)
            | true =>
              some (.inl (v2_0, v2_1, v2_2, v2_3, v2_4, v3_0, v3_1, v3_2, v3_3, v3_4, P.ar .add .i64 v6 1))
theorem o_cascaderef03_Same_6 (c_cascaderef03_Same : S_api_Value → S_api_Value → Option (Bool)) (h_cascaderef03_Same : ∀ {v0_0 : Int} {v0_1 : Int} {v0_2 : Str} {v0_3 : (List S_api_Value)} {v0_4 : (List S_api_Pair)} {v1_0 : Int} {v1_1 : Int} {v1_2 : Str} {v1_3 : (List S_api_Value)} {v1_4 : (List S_api_Pair)} {r0 : Bool}, c_cascaderef03_Same ⟨v0_0, v0_1, v0_2, v0_3, v0_4⟩ ⟨v1_0, v1_1, v1_2, v1_3, v1_4⟩ = some r0 → ∀ (stk : Stk) , xpcall 19 [(.d (.agg [(.int .i64 v0_0), (.int .i64 v0_1), (.str v0_2), (.sl (xmap e_api_Value v0_3)), (.sl (xmap e_api_Pair v0_4))])), (.d (.agg [(.int .i64 v1_0), (.int .i64 v1_1), (.str v1_2), (.sl (xmap e_api_Value v1_3)), (.sl (xmap e_api_Pair v1_4))]))] stk = some (.d (.bool r0)) ∧ xfcall 19 [(.d (.agg [(.int .i64 v0_0), (.int .i64 v0_1), (.str v0_2), (.sl (xmap e_api_Value v0_3)), (.sl (xmap e_api_Pair v0_4))])), (.d (.agg [(.int .i64 v1_0), (.int .i64 v1_1), (.str v1_2), (.sl (xmap e_api_Value v1_3)), (.sl (xmap e_api_Pair v1_4))]))] stk = some (.d (.bool r0), stk)) (stk : Stk) (m : Nat)     (v2_0 : Int) (v2_1 : Int) (v2_2 : Str) (v2_3 : (List S_api_Value)) (v2_4 : (List S_api_Pair)) (v3_0 : Int) (v3_1 : Int) (v3_2 : Str) (v3_3 : (List S_api_Value)) (v3_4 : (List S_api_Pair)) (v6 : Int)   {out} (hp : b_cascaderef03_Same_6 ⟨xar, xcmp, xwrap, xseq, xslt, xenc, pquo, pshf, pslen, psidx, pssub, pscat, psit, pslist, pofBytes, @plen, @pidx, @psub, @papp, @pset, @pmake, @pmfind, @pmput, @ploop⟩ c_cascaderef03_Same  v2_0 v2_1 v2_2 v2_3 v2_4 v3_0 v3_1 v3_2 v3_3 v3_4 v6 = some out) : xat 19 .frz 6 [.lp ⟨6, [2, 3, 6], []⟩, .blk 2, .sub ⟨9, [], []⟩] ⟨[(2, (.d (.iptr [(.int .i64 v2_0), (.int .i64 v2_1), (.str v2_2), (.sl (xmap e_api_Value v2_3)), (.sl (xmap e_api_Pair v2_4))]))), (3, (.d (.iptr [(.int .i64 v3_0), (.int .i64 v3_1), (.str v3_2), (.sl (xmap e_api_Value v3_3)), (.sl (xmap e_api_Pair v3_4))]))), (6, (.d (.int .i64 v6)))], ⟨m, []⟩ :: stk⟩ = (Sum.elim (fun (v2_0, v2_1, v2_2, v2_3, v2_4, v3_0, v3_1, v3_2, v3_3, v3_4, v6) => xat 19 .frz 6 [.lp ⟨6, [2, 3, 6], []⟩, .blk 2, .sub ⟨9, [], []⟩] ⟨[(2, (.d (.iptr [(.int .i64 v2_0), (.int .i64 v2_1), (.str v2_2), (.sl (xmap e_api_Value v2_3)), (.sl (xmap e_api_Pair v2_4))]))), (3, (.d (.iptr [(.int .i64 v3_0), (.int .i64 v3_1), (.str v3_2), (.sl (xmap e_api_Value v3_3)), (.sl (xmap e_api_Pair v3_4))]))), (6, (.d (.int .i64 v6)))], ⟨m, []⟩ :: stk⟩) (fun r0 => (some (.ret (.d (.bool r0)), stk) : Rk'))) out := by
  simp only [b_cascaderef03_Same_6] at hp
  rw [h.at_, hT]
  cbv
  try simp only [h.len]
  cases c17 : xcmp .lss v6 (plen v2_4) with
  | false =>
    simp only [c17] at hp ⊢
    cbv
    rw [h.at_, hT]
    cbv
    cases hp
    all_goals first | rfl | (cbv; done)
  | true =>
    simp only [c17] at hp ⊢
    cbv
    rw [h.at_, hT]
    cbv
    cases c19 : pidx v2_4 v6 with
    | none => simp only [c19] at hp; cases hp
    | some y27 =>
      obtain ⟨a18_0, ⟨a18_1_0, a18_1_1, a18_1_2, a18_1_3, a18_1_4⟩⟩ := y27
      simp only [c19] at hp
      obtain ⟨q1, q2⟩ := h.idx e_api_Pair c19
      simp only [he_e_api_Pair] at q2
      simp only [q1, Bool.false_eq_true, if_false]
      cbv
      try simp only [q2]
      cbv
      cases c21 : pidx v3_4 v6 with
      | none => simp only [c21] at hp; cases hp
      | some y26 =>
        obtain ⟨a20_0, ⟨a20_1_0, a20_1_1, a20_1_2, a20_1_3, a20_1_4⟩⟩ := y26
        simp only [c21] at hp
        obtain ⟨q1, q2⟩ := h.idx e_api_Pair c21
        simp only [he_e_api_Pair] at q2
        simp only [q1, Bool.false_eq_true, if_false]
        cbv
        try simp only [q2]
        cbv
        cases c22 : xseq a18_0 a20_0 with
        | false =>
          simp only [c22] at hp ⊢
          cbv
          cases hp
          all_goals first | rfl | (cbv; done)
        | true =>
          simp only [c22] at hp ⊢
          cbv
          obtain ⟨q1, q2⟩ := h.idx e_api_Pair c19
          simp only [he_e_api_Pair] at q2
          simp only [q1, Bool.false_eq_true, if_false]
          cbv
          try simp only [q2]
          cbv
          obtain ⟨q1, q2⟩ := h.idx e_api_Pair c21
          simp only [he_e_api_Pair] at q2
          simp only [q1, Bool.false_eq_true, if_false]
          cbv
          try simp only [q2]
          cbv
          cases c24 : c_cascaderef03_Same ⟨a18_1_0, a18_1_1, a18_1_2, a18_1_3, a18_1_4⟩ ⟨a20_1_0, a20_1_1, a20_1_2, a20_1_3, a20_1_4⟩ with
          | none => simp only [c24] at hp; cases hp
          | some r23_0 =>
            simp only [c24] at hp
            have qc := (h_cascaderef03_Same c24 (⟨m, []⟩ :: stk) ).1
            simp only [qc]
            cbv
            cases r23_0 with
            | false =>
              simp only at hp
              cbv
              cases hp
              all_goals first | rfl | (cbv; done)
            | true =>
              simp only at hp
              cbv
              rw [h.at_, hT]
              cbv
              cases hp
              all_goals first | rfl | (cbv; done)
def b_cascadelaw03_zero_0 (P : Prims) (c_cascaderef03_Same : S_api_Value → S_api_Value → Option (Bool))  (v0_0 : Int) (v0_1 : Int) (v0_2 : Str) (v0_3 : (List S_api_Value)) (v0_4 : (List S_api_Pair)) : Option (Bool) :=
  match c_cascaderef03_Same ⟨v0_0, v0_1, v0_2, v0_3, v0_4⟩ ⟨0, 0, [], [], []⟩ with
  | none => none
  | some r1_0 =>
    some r1_0
theorem o_cascadelaw03_zero_0 (c_cascaderef03_Same : S_api_Value → S_api_Value → Option (Bool)) (h_cascaderef03_Same : ∀ {v0_0 : Int} {v0_1 : Int} {v0_2 : Str} {v0_3 : (List S_api_Value)} {v0_4 : (List S_api_Pair)} {v1_0 : Int} {v1_1 : Int} {v1_2 : Str} {v1_3 : (List S_api_Value)} {v1_4 : (List S_api_Pair)} {r0 : Bool}, c_cascaderef03_Same ⟨v0_0, v0_1, v0_2, v0_3, v0_4⟩ ⟨v1_0, v1_1, v1_2, v1_3, v1_4⟩ = some r0 → ∀ (stk : Stk) , xpcall 19 [(.d (.agg [(.int .i64 v0_0), (.int .i64 v0_1), (.str v0_2), (.sl (xmap e_api_Value v0_3)), (.sl (xmap e_api_Pair v0_4))])), (.d (.agg [(.int .i64 v1_0), (.int .i64 v1_1), (.str v1_2), (.sl (xmap e_api_Value v1_3)), (.sl (xmap e_api_Pair v1_4))]))] stk = some (.d (.bool r0)) ∧ xfcall 19 [(.d (.agg [(.int .i64 v0_0), (.int .i64 v0_1), (.str v0_2), (.sl (xmap e_api_Value v0_3)), (.sl (xmap e_api_Pair v0_4))])), (.d (.agg [(.int .i64 v1_0), (.int .i64 v1_1), (.str v1_2), (.sl (xmap e_api_Value v1_3)), (.sl (xmap e_api_Pair v1_4))]))] stk = some (.d (.bool r0), stk)) (stk : Stk) (m : Nat)     (v0_0 : Int) (v0_1 : Int) (v0_2 : Str) (v0_3 : (List S_api_Value)) (v0_4 : (List S_api_Pair))   {out} (hp : b_cascadelaw03_zero_0 ⟨xar, xcmp, xwrap, xseq, xslt, xenc, pquo, pshf, pslen, psidx, pssub, pscat, psit, pslist, pofBytes, @plen, @pidx, @psub, @papp, @pset, @pmake, @pmfind, @pmput, @ploop⟩ c_cascaderef03_Same  v0_0 v0_1 v0_2 v0_3 v0_4 = some out) : xat 20 .frz 0 [] ⟨[(0, (.d (.agg [(.int .i64 v0_0), (.int .i64 v0_1), (.str v0_2), (.sl (xmap e_api_Value v0_3)), (.sl (xmap e_api_Pair v0_4))])))], ⟨m, []⟩ :: stk⟩ = (fun r0 => (some (.ret (.d (.bool r0)), stk) : Rk')) out := by
  simp only [b_cascadelaw03_zero_0] at hp
  rw [h.at_, hT]
  cbv
  cases c2 : c_cascaderef03_Same ⟨v0_0, v0_1, v0_2, v0_3, v0_4⟩ ⟨0, 0, [], [], []⟩ with
  | none => simp only [c2] at hp; cases hp
  | some r1_0 =>
    simp only [c2] at hp
    have qc := (h_cascaderef03_Same c2 (⟨m, []⟩ :: stk) ).1
    try simp only [h.map_nil] at qc
    simp only [qc]
    cbv
    cases hp
    all_goals first | rfl | (cbv; done)
def b_cascadelaw03_TreeRight_0 (P : Prims) (c_cascadelaw03_awake : Option (Bool)) (c_cascaderef03_Few : S_api_Value → Int → Option (Bool)) (c_cascaderef03_Right : S_api_Value → Option (Bool)) (c_cascaderef03_Count : S_api_Value → Option (Int)) (c_tree_Clone : S_api_Value → Option (S_api_Value)) (c_tree_Right : S_api_Value → Option (Bool)) (c_tree_Count : S_api_Value → Option (Int)) (c_cascaderef03_Same : S_api_Value → S_api_Value → Option (Bool)) (c_cascadelaw03_zero : S_api_Value → Option (Bool)) (l_2 : Int → Int → Str → (List S_api_Value) → (List S_api_Pair) → Bool → Int → Option (Bool)) (v0_0 : Int) (v0_1 : Int) (v0_2 : Str) (v0_3 : (List S_api_Value)) (v0_4 : (List S_api_Pair)) : Option (Bool) :=
  match c_cascadelaw03_awake with
  | none => none
  | some r1_0 =>
    match r1_0 with
    | false =>
      some r1_0
    | true =>
      match c_cascaderef03_Few ⟨v0_0, v0_1, v0_2, v0_3, v0_4⟩ 60 with
      | none => none
      | some r4_0 =>
        match r4_0 with
        | false =>
          some r1_0
        | true =>
          match c_cascaderef03_Right ⟨v0_0, v0_1, v0_2, v0_3, v0_4⟩ with
          | none => none
          | some r7_0 =>
            match r7_0 with
            | false =>
              l_2 v0_0 v0_1 v0_2 v0_3 v0_4 false 0
            | true =>
              match c_cascaderef03_Count ⟨v0_0, v0_1, v0_2, v0_3, v0_4⟩ with
              | none => none
              | some r10_0 =>
                l_2 v0_0 v0_1 v0_2 v0_3 v0_4 true r10_0
theorem o_cascadelaw03_TreeRight_0 (c_cascadelaw03_awake : Option (Bool)) (c_cascaderef03_Few : S_api_Value → Int → Option (Bool)) (c_cascaderef03_Right : S_api_Value → Option (Bool)) (c_cascaderef03_Count : S_api_Value → Option (Int)) (c_tree_Clone : S_api_Value → Option (S_api_Value)) (c_tree_Right : S_api_Value → Option (Bool)) (c_tree_Count : S_api_Value → Option (Int)) (c_cascaderef03_Same : S_api_Value → S_api_Value → Option (Bool)) (c_cascadelaw03_zero : S_api_Value → Option (Bool)) (h_cascadelaw03_awake : ∀ {r0 : Bool}, c_cascadelaw03_awake  = some r0 → ∀ (stk : Stk) , xpcall 12 [] stk = some (.d (.bool r0)) ∧ xfcall 12 [] stk = some (.d (.bool r0), stk)) (h_cascaderef03_Few : ∀ {v0_0 : Int} {v0_1 : Int} {v0_2 : Str} {v0_3 : (List S_api_Value)} {v0_4 : (List S_api_Pair)} {v1 : Int} {r0 : Bool}, c_cascaderef03_Few ⟨v0_0, v0_1, v0_2, v0_3, v0_4⟩ v1 = some r0 → ∀ (stk : Stk) , xpcall 13 [(.d (.agg [(.int .i64 v0_0), (.int .i64 v0_1), (.str v0_2), (.sl (xmap e_api_Value v0_3)), (.sl (xmap e_api_Pair v0_4))])), (.d (.int .i64 v1))] stk = some (.d (.bool r0)) ∧ xfcall 13 [(.d (.agg [(.int .i64 v0_0), (.int .i64 v0_1), (.str v0_2), (.sl (xmap e_api_Value v0_3)), (.sl (xmap e_api_Pair v0_4))])), (.d (.int .i64 v1))] stk = some (.d (.bool r0), stk)) (h_cascaderef03_Right : ∀ {v0_0 : Int} {v0_1 : Int} {v0_2 : Str} {v0_3 : (List S_api_Value)} {v0_4 : (List S_api_Pair)} {r0 : Bool}, c_cascaderef03_Right ⟨v0_0, v0_1, v0_2, v0_3, v0_4⟩ = some r0 → ∀ (stk : Stk) , xpcall 14 [(.d (.agg [(.int .i64 v0_0), (.int .i64 v0_1), (.str v0_2), (.sl (xmap e_api_Value v0_3)), (.sl (xmap e_api_Pair v0_4))]))] stk = some (.d (.bool r0)) ∧ xfcall 14 [(.d (.agg [(.int .i64 v0_0), (.int .i64 v0_1), (.str v0_2), (.sl (xmap e_api_Value v0_3)), (.sl (xmap e_api_Pair v0_4))]))] stk = some (.d (.bool r0), stk)) (h_cascaderef03_Count : ∀ {v0_0 : Int} {v0_1 : Int} {v0_2 : Str} {v0_3 : (List S_api_Value)} {v0_4 : (List S_api_Pair)} {r0 : Int}, c_cascaderef03_Count ⟨v0_0, v0_1, v0_2, v0_3, v0_4⟩ = some r0 → ∀ (stk : Stk) , xpcall 15 [(.d (.agg [(.int .i64 v0_0), (.int .i64 v0_1), (.str v0_2), (.sl (xmap e_api_Value v0_3)), (.sl (xmap e_api_Pair v0_4))]))] stk = some (.d (.int .i64 r0)) ∧ xfcall 15 [(.d (.agg [(.int .i64 v0_0), (.int .i64 v0_1), (.str v0_2), (.sl (xmap e_api_Value v0_3)), (.sl (xmap e_api_Pair v0_4))]))] stk = some (.d (.int .i64 r0), stk)) (h_tree_Clone : ∀ {v0_0 : Int} {v0_1 : Int} {v0_2 : Str} {v0_3 : (List S_api_Value)} {v0_4 : (List S_api_Pair)} {r0_0 : Int} {r0_1 : Int} {r0_2 : Str} {r0_3 : (List S_api_Value)} {r0_4 : (List S_api_Pair)}, c_tree_Clone ⟨v0_0, v0_1, v0_2, v0_3, v0_4⟩ = some ⟨r0_0, r0_1, r0_2, r0_3, r0_4⟩ → ∀ (stk : Stk) , xpcall 16 [(.d (.agg [(.int .i64 v0_0), (.int .i64 v0_1), (.str v0_2), (.sl (xmap e_api_Value v0_3)), (.sl (xmap e_api_Pair v0_4))]))] stk = some (.d (.agg [(.int .i64 r0_0), (.int .i64 r0_1), (.str r0_2), (.sl (xmap e_api_Value r0_3)), (.sl (xmap e_api_Pair r0_4))])) ∧ xfcall 16 [(.d (.agg [(.int .i64 v0_0), (.int .i64 v0_1), (.str v0_2), (.sl (xmap e_api_Value v0_3)), (.sl (xmap e_api_Pair v0_4))]))] stk = some (.d (.agg [(.int .i64 r0_0), (.int .i64 r0_1), (.str r0_2), (.sl (xmap e_api_Value r0_3)), (.sl (xmap e_api_Pair r0_4))]), stk)) (h_tree_Right : ∀ {v0_0 : Int} {v0_1 : Int} {v0_2 : Str} {v0_3 : (List S_api_Value)} {v0_4 : (List S_api_Pair)} {r0 : Bool}, c_tree_Right ⟨v0_0, v0_1, v0_2, v0_3, v0_4⟩ = some r0 → ∀ (stk : Stk) , xpcall 17 [(.d (.agg [(.int .i64 v0_0), (.int .i64 v0_1), (.str v0_2), (.sl (xmap e_api_Value v0_3)), (.sl (xmap e_api_Pair v0_4))]))] stk = some (.d (.bool r0)) ∧ xfcall 17 [(.d (.agg [(.int .i64 v0_0), (.int .i64 v0_1), (.str v0_2), (.sl (xmap e_api_Value v0_3)), (.sl (xmap e_api_Pair v0_4))]))] stk = some (.d (.bool r0), stk)) (h_tree_Count : ∀ {v0_0 : Int} {v0_1 : Int} {v0_2 : Str} {v0_3 : (List S_api_Value)} {v0_4 : (List S_api_Pair)} {r0 : Int}, c_tree_Count ⟨v0_0, v0_1, v0_2, v0_3, v0_4⟩ = some r0 → ∀ (stk : Stk) , xpcall 18 [(.d (.agg [(.int .i64 v0_0), (.int .i64 v0_1), (.str v0_2), (.sl (xmap e_api_Value v0_3)), (.sl (xmap e_api_Pair v0_4))]))] stk = some (.d (.int .i64 r0)) ∧ xfcall 18 [(.d (.agg [(.int .i64 v0_0), (.int .i64 v0_1), (.str v0_2), (.sl (xmap e_api_Value v0_3)), (.sl (xmap e_api_Pair v0_4))]))] stk = some (.d (.int .i64 r0), stk)) (h_cascaderef03_Same : ∀ {v0_0 : Int} {v0_1 : Int} {v0_2 : Str} {v0_3 : (List S_api_Value)} {v0_4 : (List S_api_Pair)} {v1_0 : Int} {v1_1 : Int} {v1_2 : Str} {v1_3 : (List S_api_Value)} {v1_4 : (List S_api_Pair)} {r0 : Bool}, c_cascaderef03_Same ⟨v0_0, v0_1, v0_2, v0_3, v0_4⟩ ⟨v1_0, v1_1, v1_2, v1_3, v1_4⟩ = some r0 → ∀ (stk : Stk) , xpcall 19 [(.d (.agg [(.int .i64 v0_0), (.int .i64 v0_1), (.str v0_2), (.sl (xmap e_api_Value v0_3)), (.sl (xmap e_api_Pair v0_4))])), (.d (.agg [(.int .i64 v1_0), (.int .i64 v1_1), (.str v1_2), (.sl (xmap e_api_Value v1_3)), (.sl (xmap e_api_Pair v1_4))]))] stk = some (.d (.bool r0)) ∧ xfcall 19 [(.d (.agg [(.int .i64 v0_0), (.int .i64 v0_1), (.str v0_2), (.sl (xmap e_api_Value v0_3)), (.sl (xmap e_api_Pair v0_4))])), (.d (.agg [(.int .i64 v1_0), (.int .i64 v1_1), (.str v1_2), (.sl (xmap e_api_Value v1_3)), (.sl (xmap e_api_Pair v1_4))]))] stk = some (.d (.bool r0), stk)) (h_cascadelaw03_zero : ∀ {v0_0 : Int} {v0_1 : Int} {v0_2 : Str} {v0_3 : (List S_api_Value)} {v0_4 : (List S_api_Pair)} {r0 : Bool}, c_cascadelaw03_zero ⟨v0_0, v0_1, v0_2, v0_3, v0_4⟩ = some r0 → ∀ (stk : Stk) , xpcall 20 [(.d (.agg [(.int .i64 v0_0), (.int .i64 v0_1), (.str v0_2), (.sl (xmap e_api_Value v0_3)), (.sl (xmap e_api_Pair v0_4))]))] stk = some (.d (.bool r0)) ∧ xfcall 20 [(.d (.agg [(.int .i64 v0_0), (.int .i64 v0_1), (.str v0_2), (.sl (xmap e_api_Value v0_3)), (.sl (xmap e_api_Pair v0_4))]))] stk = some (.d (.bool r0), stk)) (stk : Stk) (m : Nat)    (l_2 : Int → Int → Str → (List S_api_Value) → (List S_api_Pair) → Bool → Int → Option (Bool)) (v0_0 : Int) (v0_1 : Int) (v0_2 : Str) (v0_3 : (List S_api_Value)) (v0_4 : (List S_api_Pair))  (h_l_2 : ∀ {v1_0 : Int} {v1_1 : Int} {v1_2 : Str} {v1_3 : (List S_api_Value)} {v1_4 : (List S_api_Pair)} {v3 : Bool} {v4 : Int} {out}, l_2 v1_0 v1_1 v1_2 v1_3 v1_4 v3 v4 = some out → ∀ (stk : Stk), xat 3 .frz 2 [] ⟨[(1, (.d (.iptr [(.int .i64 v1_0), (.int .i64 v1_1), (.str v1_2), (.sl (xmap e_api_Value v1_3)), (.sl (xmap e_api_Pair v1_4))]))), (3, (.d (.bool v3))), (4, (.d (.int .i64 v4)))], ⟨m, []⟩ :: stk⟩ = (fun r0 => (some (.ret (.d (.bool r0)), stk) : Rk')) out) {out} (hp : b_cascadelaw03_TreeRight_0 ⟨xar, xcmp, xwrap, xseq, xslt, xenc, pquo, pshf, pslen, psidx, pssub, pscat, psit, pslist, pofBytes, @plen, @pidx, @psub, @papp, @pset, @pmake, @pmfind, @pmput, @ploop⟩ c_cascadelaw03_awake c_cascaderef03_Few c_cascaderef03_Right c_cascaderef03_Count c_tree_Clone c_tree_Right c_tree_Count c_cascaderef03_Same c_cascadelaw03_zero l_2 v0_0 v0_1 v0_2 v0_3 v0_4 = some out) : xat 3 .frz 0 [] ⟨[(0, (.d (.agg [(.int .i64 v0_0), (.int .i64 v0_1), (.str v0_2), (.sl (xmap e_api_Value v0_3)), (.sl (xmap e_api_Pair v0_4))])))], ⟨m, []⟩ :: stk⟩ = (fun r0 => (some (.ret (.d (.bool r0)), stk) : Rk')) out := by
  simp only [b_cascadelaw03_TreeRight_0] at hp
  rw [h.at_, hT]
  cbv
  cases c2 : c_cascadelaw03_awake with
  | none => simp only [c2] at hp; cases hp
  | some r1_0 =>
    simp only [c2] at hp
    have qc := (h_cascadelaw03_awake c2 (⟨m, []⟩ :: stk) ).1
    simp only [qc]
    cbv
    cases r1_0 with
    | false =>
      simp only at hp
      cbv
      have qc := (h_cascadelaw03_awake c2 (⟨m, []⟩ :: stk) ).1
      simp only [qc]
      cbv
      cases hp
      all_goals first | rfl | (cbv; done)
    | true =>
      simp only at hp
      cbv
      cases c5 : c_cascaderef03_Few ⟨v0_0, v0_1, v0_2, v0_3, v0_4⟩ 60 with
      | none => simp only [c5] at hp; cases hp
      | some r4_0 =>
        simp only [c5] at hp
        have qc := (h_cascaderef03_Few c5 (⟨m, []⟩ :: stk) ).1
        simp only [qc]
        cbv
        cases r4_0 with
        | false =>
          simp only at hp
          cbv
          have qc := (h_cascadelaw03_awake c2 (⟨m, []⟩ :: stk) ).1
          simp only [qc]
          cbv
          cases hp
          all_goals first | rfl | (cbv; done)
        | true =>
          simp only at hp
          cbv
          rw [h.at_, hT]
          cbv
          cases c8 : c_cascaderef03_Right ⟨v0_0, v0_1, v0_2, v0_3, v0_4⟩ with
          | none => simp only [c8] at hp; cases hp
          | some r7_0 =>
            simp only [c8] at hp
            have qc := (h_cascaderef03_Right c8 (⟨m, []⟩ :: stk) ).1
            simp only [qc]
            cbv
            cases r7_0 with
            | false =>
              simp only at hp
              cbv
              first | exact h_l_2 hp stk | (have q := h_l_2 hp stk; simp only [h.map_cons, h.map_nil, h.mapE_nil, h.len_nil, he_e_api_Value, he_e_api_Pair, he_e_int] at q; first | exact q | (cbv; exact q))
            | true =>
              simp only at hp
              cbv
              cases c11 : c_cascaderef03_Count ⟨v0_0, v0_1, v0_2, v0_3, v0_4⟩ with
              | none => simp only [c11] at hp; cases hp
              | some r10_0 =>
                simp only [c11] at hp
                have qc := (h_cascaderef03_Count c11 (⟨m, []⟩ :: stk) ).1
                simp only [qc]
                cbv
                first | exact h_l_2 hp stk | (have q := h_l_2 hp stk; simp only [h.map_cons, h.map_nil, h.mapE_nil, h.len_nil, he_e_api_Value, he_e_api_Pair, he_e_int] at q; first | exact q | (cbv; exact q))
def b_cascadelaw03_TreeRight_2 (P : Prims) (c_cascadelaw03_awake : Option (Bool)) (c_cascaderef03_Few : S_api_Value → Int → Option (Bool)) (c_cascaderef03_Right : S_api_Value → Option (Bool)) (c_cascaderef03_Count : S_api_Value → Option (Int)) (c_tree_Clone : S_api_Value → Option (S_api_Value)) (c_tree_Right : S_api_Value → Option (Bool)) (c_tree_Count : S_api_Value → Option (Int)) (c_cascaderef03_Same : S_api_Value → S_api_Value → Option (Bool)) (c_cascadelaw03_zero : S_api_Value → Option (Bool)) (l_3 : Int → Int → Str → (List S_api_Value) → (List S_api_Pair) → Bool → Int → Int → Str → (List S_api_Value) → (List S_api_Pair) → Option (Bool)) (v1_0 : Int) (v1_1 : Int) (v1_2 : Str) (v1_3 : (List S_api_Value)) (v1_4 : (List S_api_Pair)) (v3 : Bool) (v4 : Int) : Option (Bool) :=
  match c_tree_Clone ⟨v1_0, v1_1, v1_2, v1_3, v1_4⟩ with
  | none => none
  | some ⟨r12_0_0, r12_0_1, r12_0_2, r12_0_3, r12_0_4⟩ =>
    match c_tree_Right ⟨v1_0, v1_1, v1_2, v1_3, v1_4⟩ with
    | none => none
    | some r14_0 =>
      match r14_0 with
      | false =>
        match v3 with
        | false =>
          match c_tree_Count ⟨v1_0, v1_1, v1_2, v1_3, v1_4⟩ with
          | none => none
          | some r22_0 =>
            match P.cmp .neq r22_0 v4 with
            | false =>
              l_3 v1_0 v1_1 v1_2 v1_3 v1_4 false r12_0_0 r12_0_1 r12_0_2 r12_0_3 r12_0_4
            | true =>
              some false
        | true =>
          some false
      | true =>
        match v3 with
        | false =>
          some false
        | true =>
          match c_tree_Count ⟨v1_0, v1_1, v1_2, v1_3, v1_4⟩ with
          | none => none
          | some r18_0 =>
            match P.cmp .neq r18_0 v4 with
            | false =>
              l_3 v1_0 v1_1 v1_2 v1_3 v1_4 true r12_0_0 r12_0_1 r12_0_2 r12_0_3 r12_0_4
            | true =>
              some false
theorem o_cascadelaw03_TreeRight_2 (c_cascadelaw03_awake : Option (Bool)) (c_cascaderef03_Few : S_api_Value → Int → Option (Bool)) (c_cascaderef03_Right : S_api_Value → Option (Bool)) (c_cascaderef03_Count : S_api_Value → Option (Int)) (c_tree_Clone : S_api_Value → Option (S_api_Value)) (c_tree_Right : S_api_Value → Option (Bool)) (c_tree_Count : S_api_Value → Option (Int)) (c_cascaderef03_Same : S_api_Value → S_api_Value → Option (Bool)) (c_cascadelaw03_zero : S_api_Value → Option (Bool)) (h_cascadelaw03_awake : ∀ {r0 : Bool}, c_cascadelaw03_awake  = some r0 → ∀ (stk : Stk) , xpcall 12 [] stk = some (.d (.bool r0)) ∧ xfcall 12 [] stk = some (.d (.bool r0), stk)) (h_cascaderef03_Few : ∀ {v0_0 : Int} {v0_1 : Int} {v0_2 : Str} {v0_3 : (List S_api_Value)} {v0_4 : (List S_api_Pair)} {v1 : Int} {r0 : Bool}, c_cascaderef03_Few ⟨v0_0, v0_1, v0_2, v0_3, v0_4⟩ v1 = some r0 → ∀ (stk : Stk) , xpcall 13 [(.d (.agg [(.int .i64 v0_0), (.int .i64 v0_1), (.str v0_2), (.sl (xmap e_api_Value v0_3)), (.sl (xmap e_api_Pair v0_4))])), (.d (.int .i64 v1))] stk = some (.d (.bool r0)) ∧ xfcall 13 [(.d (.agg [(.int .i64 v0_0), (.int .i64 v0_1), (.str v0_2), (.sl (xmap e_api_Value v0_3)), (.sl (xmap e_api_Pair v0_4))])), (.d (.int .i64 v1))] stk = some (.d (.bool r0), stk)) (h_cascaderef03_Right : ∀ {v0_0 : Int} {v0_1 : Int} {v0_2 : Str} {v0_3 : (List S_api_Value)} {v0_4 : (List S_api_Pair)} {r0 : Bool}, c_cascaderef03_Right ⟨v0_0, v0_1, v0_2, v0_3, v0_4⟩ = some r0 → ∀ (stk : Stk) , xpcall 14 [(.d (.agg [(.int .i64 v0_0), (.int .i64 v0_1), (.str v0_2), (.sl (xmap e_api_Value v0_3)), (.sl (xmap e_api_Pair v0_4))]))] stk = some (.d (.bool r0)) ∧ xfcall 14 [(.d (.agg [(.int .i64 v0_0), (.int .i64 v0_1), (.str v0_2), (.sl (xmap e_api_Value v0_3)), (.sl (xmap e_api_Pair v0_4))]))] stk = some (.d (.bool r0), stk)) (h_cascaderef03_Count : ∀ {v0_0 : Int} {v0_1 : Int} {v0_2 : Str} {v0_3 : (List S_api_Value)} {v0_4 : (List S_api_Pair)} {r0 : Int}, c_cascaderef03_Count ⟨v0_0, v0_1, v0_2, v0_3, v0_4⟩ = some r0 → ∀ (stk : Stk) , xpcall 15 [(.d (.agg [(.int .i64 v0_0), (.int .i64 v0_1), (.str v0_2), (.sl (xmap e_api_Value v0_3)), (.sl (xmap e_api_Pair v0_4))]))] stk = some (.d (.int .i64 r0)) ∧ xfcall 15 [(.d (.agg [(.int .i64 v0_0), (.int .i64 v0_1), (.str v0_2), (.sl (xmap e_api_Value v0_3)), (.sl (xmap e_api_Pair v0_4))]))] stk = some (.d (.int .i64 r0), stk)) (h_tree_Clone : ∀ {v0_0 : Int} {v0_1 : Int} {v0_2 : Str} {v0_3 : (List S_api_Value)} {v0_4 : (List S_api_Pair)} {r0_0 : Int} {r0_1 : Int} {r0_2 : Str} {r0_3 : (List S_api_Value)} {r0_4 : (List S_api_Pair)}, c_tree_Clone ⟨v0_0, v0_1, v0_2, v0_3, v0_4⟩ = some ⟨r0_0, r0_1, r0_2, r0_3, r0_4⟩ → ∀ (stk : Stk) , xpcall 16 [(.d (.agg [(.int .i64 v0_0), (.int .i64 v0_1), (.str v0_2), (.sl (xmap e_api_Value v0_3)), (.sl (xmap e_api_Pair v0_4))]))] stk = some (.d (.agg [(.int .i64 r0_0), (.int .i64 r0_1), (.str r0_2), (.sl (xmap e_api_Value r0_3)), (.sl (xmap e_api_Pair r0_4))])) ∧ xfcall 16 [(.d (.agg [(.int .i64 v0_0), (.int .i64 v0_1), (.str v0_2), (.sl (xmap e_api_Value v0_3)), (.sl (xmap e_api_Pair v0_4))]))] stk = some (.d (.agg [(.int .i64 r0_0), (.int .i64 r0_1), (.str r0_2), (.sl (xmap e_api_Value r0_3)), (.sl (xmap e_api_Pair r0_4))]), stk)) (h_tree_Right : ∀ {v0_0 : Int} {v0_1 : Int} {v0_2 : Str} {v0_3 : (List S_api_Value)} {v0_4 : (List S_api_Pair)} {r0 : Bool}, c_tree_Right ⟨v0_0, v0_1, v0_2, v0_3, v0_4⟩ = some r0 → ∀ (stk : Stk) , xpcall 17 [(.d (.agg [(.int .i64 v0_0), (.int .i64 v0_1), (.str v0_2), (.sl (xmap e_api_Value v0_3)), (.sl (xmap e_api_Pair v0_4))]))] stk = some (.d (.bool r0)) ∧ xfcall 17 [(.d (.agg [(.int .i64 v0_0), (.int .i64 v0_1), (.str v0_2), (.sl (xmap e_api_Value v0_3)), (.sl (xmap e_api_Pair v0_4))]))] stk = some (.d (.bool r0), stk)) (h_tree_Count : ∀ {v0_0 : Int} {v0_1 : Int} {v0_2 : Str} {v0_3 : (List S_api_Value)} {v0_4 : (List S_api_Pair)} {r0 : Int}, c_tree_Count ⟨v0_0, v0_1, v0_2, v0_3, v0_4⟩ = some r0 → ∀ (stk : Stk) , xpcall 18 [(.d (.agg [(.int .i64 v0_0), (.int .i64 v0_1), (.str v0_2), (.sl (xmap e_api_Value v0_3)), (.sl (xmap e_api_Pair v0_4))]))] stk = some (.d (.int .i64 r0)) ∧ xfcall 18 [(.d (.agg [(.int .i64 v0_0), (.int .i64 v0_1), (.str v0_2), (.sl (xmap e_api_Value v0_3)), (.sl (xmap e_api_Pair v0_4))]))] stk = some (.d (.int .i64 r0), stk)) (h_cascaderef03_Same : ∀ {v0_0 : Int} {v0_1 : Int} {v0_2 : Str} {v0_3 : (List S_api_Value)} {v0_4 : (List S_api_Pair)} {v1_0 : Int} {v1_1 : Int} {v1_2 : Str} {v1_3 : (List S_api_Value)} {v1_4 : (List S_api_Pair)} {r0 : Bool}, c_cascaderef03_Same ⟨v0_0, v0_1, v0_2, v0_3, v0_4⟩ ⟨v1_0, v1_1, v1_2, v1_3, v1_4⟩ = some r0 → ∀ (stk : Stk) , xpcall 19 [(.d (.agg [(.int .i64 v0_0), (.int .i64 v0_1), (.str v0_2), (.sl (xmap e_api_Value v0_3)), (.sl (xmap e_api_Pair v0_4))])), (.d (.agg [(.int .i64 v1_0), (.int .i64 v1_1), (.str v1_2), (.sl (xmap e_api_Value v1_3)), (.sl (xmap e_api_Pair v1_4))]))] stk = some (.d (.bool r0)) ∧ xfcall 19 [(.d (.agg [(.int .i64 v0_0), (.int .i64 v0_1), (.str v0_2), (.sl (xmap e_api_Value v0_3)), (.sl (xmap e_api_Pair v0_4))])), (.d (.agg [(.int .i64 v1_0), (.int .i64 v1_1), (.str v1_2), (.sl (xmap e_api_Value v1_3)), (.sl (xmap e_api_Pair v1_4))]))] stk = some (.d (.bool r0), stk)) (h_cascadelaw03_zero : ∀ {v0_0 : Int} {v0_1 : Int} {v0_2 : Str} {v0_3 : (List S_api_Value)} {v0_4 : (List S_api_Pair)} {r0 : Bool}, c_cascadelaw03_zero ⟨v0_0, v0_1, v0_2, v0_3, v0_4⟩ = some r0 → ∀ (stk : Stk) , xpcall 20 [(.d (.agg [(.int .i64 v0_0), (.int .i64 v0_1), (.str v0_2), (.sl (xmap e_api_Value v0_3)), (.sl (xmap e_api_Pair v0_4))]))] stk = some (.d (.bool r0)) ∧ xfcall 20 [(.d (.agg [(.int .i64 v0_0), (.int .i64 v0_1), (.str v0_2), (.sl (xmap e_api_Value v0_3)), (.sl (xmap e_api_Pair v0_4))]))] stk = some (.d (.bool r0), stk)) (stk : Stk) (m : Nat)    (l_3 : Int → Int → Str → (List S_api_Value) → (List S_api_Pair) → Bool → Int → Int → Str → (List S_api_Value) → (List S_api_Pair) → Option (Bool)) (v1_0 : Int) (v1_1 : Int) (v1_2 : Str) (v1_3 : (List S_api_Value)) (v1_4 : (List S_api_Pair)) (v3 : Bool) (v4 : Int)  (h_l_3 : ∀ {v1_0 : Int} {v1_1 : Int} {v1_2 : Str} {v1_3 : (List S_api_Value)} {v1_4 : (List S_api_Pair)} {v3 : Bool} {o5_0 : Int} {o5_1 : Int} {o5_2 : Str} {o5_3 : (List S_api_Value)} {o5_4 : (List S_api_Pair)} {out}, l_3 v1_0 v1_1 v1_2 v1_3 v1_4 v3 o5_0 o5_1 o5_2 o5_3 o5_4 = some out → ∀ (stk : Stk), xat 3 .frz 3 [] ⟨[(1, (.d (.iptr [(.int .i64 v1_0), (.int .i64 v1_1), (.str v1_2), (.sl (xmap e_api_Value v1_3)), (.sl (xmap e_api_Pair v1_4))]))), (3, (.d (.bool v3))), (5, (.ref ⟨m, [5]⟩ 0))], ⟨m, [([5], (.cells [(.d (.int .i64 o5_0)), (.d (.int .i64 o5_1)), (.d (.str o5_2)), (.d (.sl (xmap e_api_Value o5_3))), (.d (.sl (xmap e_api_Pair o5_4)))]))]⟩ :: stk⟩ = (fun r0 => (some (.ret (.d (.bool r0)), stk) : Rk')) out) {out} (hp : b_cascadelaw03_TreeRight_2 ⟨xar, xcmp, xwrap, xseq, xslt, xenc, pquo, pshf, pslen, psidx, pssub, pscat, psit, pslist, pofBytes, @plen, @pidx, @psub, @papp, @pset, @pmake, @pmfind, @pmput, @ploop⟩ c_cascadelaw03_awake c_cascaderef03_Few c_cascaderef03_Right c_cascaderef03_Count c_tree_Clone c_tree_Right c_tree_Count c_cascaderef03_Same c_cascadelaw03_zero l_3 v1_0 v1_1 v1_2 v1_3 v1_4 v3 v4 = some out) : xat 3 .frz 2 [] ⟨[(1, (.d (.iptr [(.int .i64 v1_0), (.int .i64 v1_1), (.str v1_2), (.sl (xmap e_api_Value v1_3)), (.sl (xmap e_api_Pair v1_4))]))), (3, (.d (.bool v3))), (4, (.d (.int .i64 v4)))], ⟨m, []⟩ :: stk⟩ = (fun r0 => (some (.ret (.d (.bool r0)), stk) : Rk')) out := by
  simp only [b_cascadelaw03_TreeRight_2] at hp
  rw [h.at_, hT]
  cbv
  cases c13 : c_tree_Clone ⟨v1_0, v1_1, v1_2, v1_3, v1_4⟩ with
  | none => simp only [c13] at hp; cases hp
  | some y25 =>
    obtain ⟨r12_0_0, r12_0_1, r12_0_2, r12_0_3, r12_0_4⟩ := y25
    simp only [c13] at hp
    have qc := (h_tree_Clone c13 (⟨m, []⟩ :: stk) ).1
    simp only [qc]
    cbv
    cases c15 : c_tree_Right ⟨v1_0, v1_1, v1_2, v1_3, v1_4⟩ with
    | none => simp only [c15] at hp; cases hp
    | some r14_0 =>
      simp only [c15] at hp
      have qc := (h_tree_Right c15 (⟨m, [([5], (.cells [(.d (.int .i64 r12_0_0)), (.d (.int .i64 r12_0_1)), (.d (.str r12_0_2)), (.d (.sl (xmap e_api_Value r12_0_3))), (.d (.sl (xmap e_api_Pair r12_0_4)))]))]⟩ :: stk) ).1
      simp only [qc]
      cbv
      cases r14_0 with
      | false =>
        simp only at hp
        cbv
        cases v3 with
        | false =>
          simp only at hp
          cbv
          cases c23 : c_tree_Count ⟨v1_0, v1_1, v1_2, v1_3, v1_4⟩ with
          | none => simp only [c23] at hp; cases hp
          | some r22_0 =>
            simp only [c23] at hp
            have qc := (h_tree_Count c23 (⟨m, [([5], (.cells [(.d (.int .i64 r12_0_0)), (.d (.int .i64 r12_0_1)), (.d (.str r12_0_2)), (.d (.sl (xmap e_api_Value r12_0_3))), (.d (.sl (xmap e_api_Pair r12_0_4)))]))]⟩ :: stk) ).1
            simp only [qc]
            cbv
            cases c24 : xcmp .neq r22_0 v4 with
            | false =>
              simp only [c24] at hp ⊢
              cbv
              first | exact h_l_3 hp stk | (have q := h_l_3 hp stk; simp only [h.map_cons, h.map_nil, h.mapE_nil, h.len_nil, he_e_api_Value, he_e_api_Pair, he_e_int] at q; first | exact q | (cbv; exact q))
            | true =>
              simp only [c24] at hp ⊢
              cbv
              cases hp
              all_goals first | rfl | (cbv; done)
        | true =>
          simp only at hp
          cbv
          cases hp
          all_goals first | rfl | (cbv; done)
      | true =>
        simp only at hp
        cbv
        cases v3 with
        | false =>
          simp only at hp
          cbv
          cases hp
          all_goals first | rfl | (cbv; done)
        | true =>
          simp only at hp
          cbv
          cases c19 : c_tree_Count ⟨v1_0, v1_1, v1_2, v1_3, v1_4⟩ with
          | none => simp only [c19] at hp; cases hp
          | some r18_0 =>
            simp only [c19] at hp
            have qc := (h_tree_Count c19 (⟨m, [([5], (.cells [(.d (.int .i64 r12_0_0)), (.d (.int .i64 r12_0_1)), (.d (.str r12_0_2)), (.d (.sl (xmap e_api_Value r12_0_3))), (.d (.sl (xmap e_api_Pair r12_0_4)))]))]⟩ :: stk) ).1
            simp only [qc]
            cbv
            cases c20 : xcmp .neq r18_0 v4 with
            | false =>
              simp only [c20] at hp ⊢
              cbv
              first | exact h_l_3 hp stk | (have q := h_l_3 hp stk; simp only [h.map_cons, h.map_nil, h.mapE_nil, h.len_nil, he_e_api_Value, he_e_api_Pair, he_e_int] at q; first | exact q | (cbv; exact q))
            | true =>
              simp only [c20] at hp ⊢
              cbv
              cases hp
              all_goals first | rfl | (cbv; done)
def b_cascadelaw03_TreeRight_3 (P : Prims) (c_cascadelaw03_awake : Option (Bool)) (c_cascaderef03_Few : S_api_Value → Int → Option (Bool)) (c_cascaderef03_Right : S_api_Value → Option (Bool)) (c_cascaderef03_Count : S_api_Value → Option (Int)) (c_tree_Clone : S_api_Value → Option (S_api_Value)) (c_tree_Right : S_api_Value → Option (Bool)) (c_tree_Count : S_api_Value → Option (Int)) (c_cascaderef03_Same : S_api_Value → S_api_Value → Option (Bool)) (c_cascadelaw03_zero : S_api_Value → Option (Bool))  (v1_0 : Int) (v1_1 : Int) (v1_2 : Str) (v1_3 : (List S_api_Value)) (v1_4 : (List S_api_Pair)) (v3 : Bool) (o5_0 : Int) (o5_1 : Int) (o5_2 : Str) (o5_3 : (List S_api_Value)) (o5_4 : (List S_api_Pair)) : Option (Bool) :=
  match v3 with
  | false =>
    match c_cascadelaw03_zero ⟨o5_0, o5_1, o5_2, o5_3, o5_4⟩ with
    | none => none
    | some r30_0 =>
      some r30_0
  | true =>
    match c_cascaderef03_Same ⟨o5_0, o5_1, o5_2, o5_3, o5_4⟩ ⟨v1_0, v1_1, v1_2, v1_3, v1_4⟩ with
    | none => none
    | some r27_0 =>
      match r27_0 with
      | false =>
        some false
      | true =>
        some true
theorem o_cascadelaw03_TreeRight_3 (c_cascadelaw03_awake : Option (Bool)) (c_cascaderef03_Few : S_api_Value → Int → Option (Bool)) (c_cascaderef03_Right : S_api_Value → Option (Bool)) (c_cascaderef03_Count : S_api_Value → Option (Int)) (c_tree_Clone : S_api_Value → Option (S_api_Value)) (c_tree_Right : S_api_Value → Option (Bool)) (c_tree_Count : S_api_Value → Option (Int)) (c_cascaderef03_Same : S_api_Value → S_api_Value → Option (Bool)) (c_cascadelaw03_zero : S_api_Value → Option (Bool)) (h_cascadelaw03_awake : ∀ {r0 : Bool}, c_cascadelaw03_awake  = some r0 → ∀ (stk : Stk) , xpcall 12 [] stk = some (.d (.bool r0)) ∧ xfcall 12 [] stk = some (.d (.bool r0), stk)) (h_cascaderef03_Few : ∀ {v0_0 : Int} {v0_1 : Int} {v0_2 : Str} {v0_3 : (List S_api_Value)} {v0_4 : (List S_api_Pair)} {v1 : Int} {r0 : Bool}, c_cascaderef03_Few ⟨v0_0, v0_1, v0_2, v0_3, v0_4⟩ v1 = some r0 → ∀ (stk : Stk) , xpcall 13 [(.d (.agg [(.int .i64 v0_0), (.int .i64 v0_1), (.str v0_2), (.sl (xmap e_api_Value v0_3)), (.sl (xmap e_api_Pair v0_4))])), (.d (.int .i64 v1))] stk = some (.d (.bool r0)) ∧ xfcall 13 [(.d (.agg [(.int .i64 v0_0), (.int .i64 v0_1), (.str v0_2), (.sl (xmap e_api_Value v0_3)), (.sl (xmap e_api_Pair v0_4))])), (.d (.int .i64 v1))] stk = some (.d (.bool r0), stk)) (h_cascaderef03_Right : ∀ {v0_0 : Int} {v0_1 : Int} {v0_2 : Str} {v0_3 : (List S_api_Value)} {v0_4 : (List S_api_Pair)} {r0 : Bool}, c_cascaderef03_Right ⟨v0_0, v0_1, v0_2, v0_3, v0_4⟩ = some r0 → ∀ (stk : Stk) , xpcall 14 [(.d (.agg [(.int .i64 v0_0), (.int .i64 v0_1), (.str v0_2), (.sl (xmap e_api_Value v0_3)), (.sl (xmap e_api_Pair v0_4))]))] stk = some (.d (.bool r0)) ∧ xfcall 14 [(.d (.agg [(.int .i64 v0_0), (.int .i64 v0_1), (.str v0_2), (.sl (xmap e_api_Value v0_3)), (.sl (xmap e_api_Pair v0_4))]))] stk = some (.d (.bool r0), stk)) (h_cascaderef03_Count : ∀ {v0_0 : Int} {v0_1 : Int} {v0_2 : Str} {v0_3 : (List S_api_Value)} {v0_4 : (List S_api_Pair)} {r0 : Int}, c_cascaderef03_Count ⟨v0_0, v0_1, v0_2, v0_3, v0_4⟩ = some r0 → ∀ (stk : Stk) , xpcall 15 [(.d (.agg [(.int .i64 v0_0), (.int .i64 v0_1), (.str v0_2), (.sl (xmap e_api_Value v0_3)), (.sl (xmap e_api_Pair v0_4))]))] stk = some (.d (.int .i64 r0)) ∧ xfcall 15 [(.d (.agg [(.int .i64 v0_0), (.int .i64 v0_1), (.str v0_2), (.sl (xmap e_api_Value v0_3)), (.sl (xmap e_api_Pair v0_4))]))] stk = some (.d (.int .i64 r0), stk)) (h_tree_Clone : ∀ {v0_0 : Int} {v0_1 : Int} {v0_2 : Str} {v0_3 : (List S_api_Value)} {v0_4 : (List S_api_Pair)} {r0_0 : Int} {r0_1 : Int} {r0_2 : Str} {r0_3 : (List S_api_Value)} {r0_4 : (List S_api_Pair)}, c_tree_Clone ⟨v0_0, v0_1, v0_2, v0_3, v0_4⟩ = some ⟨r0_0, r0_1, r0_2, r0_3, r0_4⟩ → ∀ (stk : Stk) , xpcall 16 [(.d (.agg [(.int .i64 v0_0), (.int .i64 v0_1), (.str v0_2), (.sl (xmap e_api_Value v0_3)), (.sl (xmap e_api_Pair v0_4))]))] stk = some (.d (.agg [(.int .i64 r0_0), (.int .i64 r0_1), (.str r0_2), (.sl (xmap e_api_Value r0_3)), (.sl (xmap e_api_Pair r0_4))])) ∧ xfcall 16 [(.d (.agg [(.int .i64 v0_0), (.int .i64 v0_1), (.str v0_2), (.sl (xmap e_api_Value v0_3)), (.sl (xmap e_api_Pair v0_4))]))] stk = some (.d (.agg [(.int .i64 r0_0), (.int .i64 r0_1), (.str r0_2), (.sl (xmap e_api_Value r0_3)), (.sl (xmap e_api_Pair r0_4))]), stk)) (h_tree_Right : ∀ {v0_0 : Int} {v0_1 : Int} {v0_2 : Str} {v0_3 : (List S_api_Value)} {v0_4 : (List S_api_Pair)} {r0 : Bool}, c_tree_Right ⟨v0_0, v0_1, v0_2, v0_3, v0_4⟩ = some r0 → ∀ (stk : Stk) , xpcall 17 [(.d (.agg [(.int .i64 v0_0), (.int .i64 v0_1), (.str v0_2), (.sl (xmap e_api_Value v0_3)), (.sl (xmap e_api_Pair v0_4))]))] stk = some (.d (.bool r0)) ∧ xfcall 17 [(.d (.agg [(.int .i64 v0_0), (.int .i64 v0_1), (.str v0_2), (.sl (xmap e_api_Value v0_3)), (.sl (xmap e_api_Pair v0_4))]))] stk = some (.d (.bool r0), stk)) (h_tree_Count : ∀ {v0_0 : Int} {v0_1 : Int} {v0_2 : Str} {v0_3 : (List S_api_Value)} {v0_4 : (List S_api_Pair)} {r0 : Int}, c_tree_Count ⟨v0_0, v0_1, v0_2, v0_3, v0_4⟩ = some r0 → ∀ (stk : Stk) , xpcall 18 [(.d (.agg [(.int .i64 v0_0), (.int .i64 v0_1), (.str v0_2), (.sl (xmap e_api_Value v0_3)), (.sl (xmap e_api_Pair v0_4))]))] stk = some (.d (.int .i64 r0)) ∧ xfcall 18 [(.d (.agg [(.int .i64 v0_0), (.int .i64 v0_1), (.str v0_2), (.sl (xmap e_api_Value v0_3)), (.sl (xmap e_api_Pair v0_4))]))] stk = some (.d (.int .i64 r0), stk)) (h_cascaderef03_Same : ∀ {v0_0 : Int} {v0_1 : Int} {v0_2 : Str} {v0_3 : (List S_api_Value)} {v0_4 : (List S_api_Pair)} {v1_0 : Int} {v1_1 : Int} {v1_2 : Str} {v1_3 : (List S_api_Value)} {v1_4 : (List S_api_Pair)} {r0 : Bool}, c_cascaderef03_Same ⟨v0_0, v0_1, v0_2, v0_3, v0_4⟩ ⟨v1_0, v1_1, v1_2, v1_3, v1_4⟩ = some r0 → ∀ (stk : Stk) , xpcall 19 [(.d (.agg [(.int .i64 v0_0), (.int .i64 v0_1), (.str v0_2), (.sl (xmap e_api_Value v0_3)), (.sl (xmap e_api_Pair v0_4))])), (.d (.agg [(.int .i64 v1_0), (.int .i64 v1_1), (.str v1_2), (.sl (xmap e_api_Value v1_3)), (.sl (xmap e_api_Pair v1_4))]))] stk = some (.d (.bool r0)) ∧ xfcall 19 [(.d (.agg [(.int .i64 v0_0), (.int .i64 v0_1), (.str v0_2), (.sl (xmap e_api_Value v0_3)), (.sl (xmap e_api_Pair v0_4))])), (.d (.agg [(.int .i64 v1_0), (.int .i64 v1_1), (.str v1_2), (.sl (xmap e_api_Value v1_3)), (.sl (xmap e_api_Pair v1_4))]))] stk = some (.d (.bool r0), stk)) (h_cascadelaw03_zero : ∀ {v0_0 : Int} {v0_1 : Int} {v0_2 : Str} {v0_3 : (List S_api_Value)} {v0_4 : (List S_api_Pair)} {r0 : Bool}, c_cascadelaw03_zero ⟨v0_0, v0_1, v0_2, v0_3, v0_4⟩ = some r0 → ∀ (stk : Stk) , xpcall 20 [(.d (.agg [(.int .i64 v0_0), (.int .i64 v0_1), (.str v0_2), (.sl (xmap e_api_Value v0_3)), (.sl (xmap e_api_Pair v0_4))]))] stk = some (.d (.bool r0)) ∧ xfcall 20 [(.d (.agg [(.int .i64 v0_0), (.int .i64 v0_1), (.str v0_2), (.sl (xmap e_api_Value v0_3)), (.sl (xmap e_api_Pair v0_4))]))] stk = some (.d (.bool r0), stk)) (stk : Stk) (m : Nat)     (v1_0 : Int) (v1_1 : Int) (v1_2 : Str) (v1_3 : (List S_api_Value)) (v1_4 : (List S_api_Pair)) (v3 : Bool) (o5_0 : Int) (o5_1 : Int) (o5_2 : Str) (o5_3 : (List S_api_Value)) (o5_4 : (List S_api_Pair))   {out} (hp : b_cascadelaw03_TreeRight_3 ⟨xar, xcmp, xwrap, xseq, xslt, xenc, pquo, pshf, pslen, psidx, pssub, pscat, psit, pslist, pofBytes, @plen, @pidx, @psub, @papp, @pset, @pmake, @pmfind, @pmput, @ploop⟩ c_cascadelaw03_awake c_cascaderef03_Few c_cascaderef03_Right c_cascaderef03_Count c_tree_Clone c_tree_Right c_tree_Count c_cascaderef03_Same c_cascadelaw03_zero  v1_0 v1_1 v1_2 v1_3 v1_4 v3 o5_0 o5_1 o5_2 o5_3 o5_4 = some out) : xat 3 .frz 3 [] ⟨[(1, (.d (.iptr [(.int .i64 v1_0), (.int .i64 v1_1), (.str v1_2), (.sl (xmap e_api_Value v1_3)), (.sl (xmap e_api_Pair v1_4))]))), (3, (.d (.bool v3))), (5, (.ref ⟨m, [5]⟩ 0))], ⟨m, [([5], (.cells [(.d (.int .i64 o5_0)), (.d (.int .i64 o5_1)), (.d (.str o5_2)), (.d (.sl (xmap e_api_Value o5_3))), (.d (.sl (xmap e_api_Pair o5_4)))]))]⟩ :: stk⟩ = (fun r0 => (some (.ret (.d (.bool r0)), stk) : Rk')) out := by
  simp only [b_cascadelaw03_TreeRight_3] at hp
  rw [h.at_, hT]
  cbv
  cases v3 with
  | false =>
    simp only at hp
    cbv
    cases c31 : c_cascadelaw03_zero ⟨o5_0, o5_1, o5_2, o5_3, o5_4⟩ with
    | none => simp only [c31] at hp; cases hp
    | some r30_0 =>
      simp only [c31] at hp
      have qc := (h_cascadelaw03_zero c31 (⟨m, [([5], (.cells [(.d (.int .i64 o5_0)), (.d (.int .i64 o5_1)), (.d (.str o5_2)), (.d (.sl (xmap e_api_Value o5_3))), (.d (.sl (xmap e_api_Pair o5_4)))]))]⟩ :: stk) ).1
      simp only [qc]
      cbv
      cases hp
      all_goals first | rfl | (cbv; done)
  | true =>
    simp only at hp
    cbv
    cases c28 : c_cascaderef03_Same ⟨o5_0, o5_1, o5_2, o5_3, o5_4⟩ ⟨v1_0, v1_1, v1_2, v1_3, v1_4⟩ with
    | none => simp only [c28] at hp; cases hp
    | some r27_0 =>
      simp only [c28] at hp
      have qc := (h_cascaderef03_Same c28 (⟨m, [([5], (.cells [(.d (.int .i64 o5_0)), (.d (.int .i64 o5_1)), (.d (.str o5_2)), (.d (.sl (xmap e_api_Value o5_3))), (.d (.sl (xmap e_api_Pair o5_4)))]))]⟩ :: stk) ).1
      simp only [qc]
      cbv
      cases r27_0 with
      | false =>
        simp only at hp
        cbv
        cases hp
        all_goals first | rfl | (cbv; done)
      | true =>
        simp only at hp
        cbv
        cases hp
        all_goals first | rfl | (cbv; done)
end
end Go.Abs.T
