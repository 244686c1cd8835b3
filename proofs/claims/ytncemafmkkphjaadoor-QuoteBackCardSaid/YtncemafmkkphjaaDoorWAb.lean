import Derived.Test.YtncemafmkkphjaaDoorWA
set_option linter.unusedSimpArgs false
set_option linter.unusedVariables false
set_option linter.unusedSectionVars false
namespace Go.Abs.A
set_option maxRecDepth 100000
section
variable {xR : FuncId → Option RF} {xiter : (St → Rs) → St → Rs} {xG : Nat → Option (List D)} {xcall : CallF} {xpcall : FuncId → List V → Stk → Option V} {xfcall : FuncId → List V → Stk → Option (V × Stk)} {xlen : List D → Nat} {xnth : List D → Nat → Option D} {xcut : List D → Nat → Nat → List D} {xapp : List D → List D → List D} {xset : List D → Nat → D → List D} {xrep : Nat → D → List D} {xallsz : Nat → List D → Bool} {xslen : Str → Nat} {xsnth : Str → Nat → Option UInt8} {xscut : Str → Nat → Nat → Str} {xsapp : Str → Str → Str} {xseq : Str → Str → Bool} {xslt : Str → Str → Bool} {xofStr : Str → List D} {xtoStr : List D → Option Str} {xdec : Str → Nat → Nat × Nat} {xenc : Int → Str} {xar : BinOp → IntKind → Int → Int → Int} {xcmp : BinOp → Int → Int → Bool} {xwrap : IntKind → Int → Int} {xisz : Int → Bool} {xneg : Int → Bool} {xnat : Int → Nat} {xofN : Nat → Int} {xbyte : UInt8 → Int} {xnle : Nat → Nat → Bool} {xnadd : Nat → Nat → Nat} {xnsub : Nat → Nat → Nat} {xfits : Nat → Nat → Bool} {xfind : D → List (D × Nat × V) → Option (Option V)} {xputE : D → Nat → V → List (D × Nat × V) → Option (List (D × Nat × V))} {xfindK : D → List D → List D → Option (Option D)} {xelen : List (D × Nat × V) → Nat} {xfrzM : List (D × Nat × V) → Option (List D × List D)} {xat : AtF} {xtop : Stk → Nat} {xsame : Stk → Stk → Bool} {xmap : {α : Type} → (α → D) → List α → List D} {pquo : BinOp → IntKind → Int → Int → Option Int} {pshf : BinOp → IntKind → Int → Int → Option Int} {pslen : Str → Int} {psidx : Str → Int → Option Int} {pssub : Str → Option Int → Option Int → Option Str} {pscat : Str → Str → Option Str} {psit : Str → Nat → Option (Int × Int × Nat)} {pslist : Str → Option (List Int)} {pofBytes : List Int → Str} {plen : {α : Type} → List α → Int} {pidx : {α : Type} → List α → Int → Option α} {psub : {α : Type} → List α → Option Int → Option Int → Option (List α)} {papp : {α : Type} → Nat → List α → List α → Option (List α)} {pset : {α : Type} → List α → Int → α → Option (List α)} {pmake : {α : Type} → Nat → α → Int → Option (List α)} {ploop : {σ ρ : Type} → (σ → Option (σ ⊕ ρ)) → σ → Option ρ} {xT : FuncId → Option KF}
  (h : KLaws xR xiter xG xcall xpcall xfcall xlen xnth xcut xapp xset xrep xallsz xslen xsnth xscut xsapp xseq xslt xofStr xtoStr xdec xenc xar xcmp xwrap xisz xneg xnat xofN xbyte xnle xnadd xnsub xfits xfind xputE xfindK xelen xfrzM xat xtop xsame @xmap pquo pshf pslen psidx pssub pscat psit pslist pofBytes @plen @pidx @psub @papp @pset @pmake @ploop xT) (hT : xT = table)
variable {e_int32 : Int → D} {e_uint8 : Int → D} (he_e_int32 : ∀ (x : Int), e_int32 x = (.int .i32 x)) (hz_e_int32 : ∀ l, xallsz 1 (xmap e_int32 l) = true) (he_e_uint8 : ∀ (x : Int), e_uint8 x = (.int .u8 x)) (hz_e_uint8 : ∀ l, xallsz 1 (xmap e_uint8 l) = true)
include h hT he_e_int32 hz_e_int32 he_e_uint8 hz_e_uint8
def b_quote_digit_1 (P : Prims)    : Option (Int) :=
  some (-1)
theorem o_quote_digit_1   (stk : Stk) (m : Nat)    {out} (hp : b_quote_digit_1 ⟨xar, xcmp, xwrap, xseq, xslt, xenc, pquo, pshf, pslen, psidx, pssub, pscat, psit, pslist, pofBytes, @plen, @pidx, @psub, @papp, @pset, @pmake, @ploop⟩    = some out) : xat 63 true 1 [] ⟨[], ⟨m, []⟩ :: stk⟩ = (fun r0 => (some (.ret (.d (.int .i32 r0)), stk) : Rk')) out := by
  simp only [b_quote_digit_1] at hp
  rw [h.at_, hT]
  cbv
  cases hp
  first | rfl | (cbv; done) | (simp only [h.nadd0, h.nle_refl, h.cut_all, h.cut_nil, h.map_cons, h.map_nil, h.len_nil, he_e_int32, he_e_uint8, if_true]; done) | (simp only [h.nadd0, h.nle_refl, h.cut_all, h.cut_nil, h.map_cons, h.map_nil, h.len_nil, he_e_int32, he_e_uint8, if_true]; first | rfl | (cbv; done) | (cbv; simp only [h.map_cons, h.map_nil, h.len_nil, he_e_int32, he_e_uint8]; done))
def b_quote_unit_0 (P : Prims) (c_quote_digit : Int → Option (Int)) (l_2 : Str → Int → Int → Option (Int)) (v0 : Str) : Option (Int) :=
  match P.cmp .lss (P.slen v0) 6 with
  | false =>
    match P.sidx v0 0 with
    | none => none
    | some b2 =>
      match P.cmp .neq b2 92 with
      | false =>
        match P.sidx v0 1 with
        | none => none
        | some b5 =>
          match P.cmp .neq b5 117 with
          | false =>
            l_2 v0 0 0
          | true =>
            some (-1)
      | true =>
        some (-1)
  | true =>
    some (-1)
theorem o_quote_unit_0 (c_quote_digit : Int → Option (Int)) (h_quote_digit : ∀ {a0 : Int} {r0 : Int}, c_quote_digit a0 = some r0 → ∀ stk, xpcall 63 [(.d (.int .u8 a0))] stk = some (.d (.int .i32 r0))) (stk : Stk) (m : Nat) (l_2 : Str → Int → Int → Option (Int)) (v0 : Str) (h_l_2 : ∀ {v0 : Str} {v3 : Int} {v19 : Int} {out}, l_2 v0 v3 v19 = some out → xat 58 true 2 [.lp ⟨2, [0, 3, 19], []⟩, .blk 0, .sub ⟨6, [3], []⟩] ⟨[(0, (.d (.str v0))), (3, (.d (.int .i32 v3))), (19, (.d (.int .i64 v19)))], ⟨m, []⟩ :: stk⟩ = (fun r0 => (some (.ret (.d (.int .i32 r0)), stk) : Rk')) out) {out} (hp : b_quote_unit_0 ⟨xar, xcmp, xwrap, xseq, xslt, xenc, pquo, pshf, pslen, psidx, pssub, pscat, psit, pslist, pofBytes, @plen, @pidx, @psub, @papp, @pset, @pmake, @ploop⟩ c_quote_digit l_2 v0 = some out) : xat 58 true 0 [] ⟨[(0, (.d (.str v0)))], ⟨m, []⟩ :: stk⟩ = (fun r0 => (some (.ret (.d (.int .i32 r0)), stk) : Rk')) out := by
  simp only [b_quote_unit_0] at hp
  rw [h.at_, hT]
  cbv
  try simp only [h.slen]
  cases c1 : xcmp .lss (pslen v0) 6 with
  | false =>
    simp only [c1] at hp ⊢
    cbv
    cases c3 : psidx v0 0 with
    | none => simp only [c3] at hp; cases hp
    | some b2 =>
      simp only [c3] at hp
      obtain ⟨w, q1, q2, q3⟩ := h.sidx c3
      simp only [q1, q2, q3, Bool.false_eq_true, if_false]
      cbv
      cases c4 : xcmp .neq b2 92 with
      | false =>
        simp only [c4] at hp ⊢
        cbv
        cases c6 : psidx v0 1 with
        | none => simp only [c6] at hp; cases hp
        | some b5 =>
          simp only [c6] at hp
          obtain ⟨w, q1, q2, q3⟩ := h.sidx c6
          simp only [q1, q2, q3, Bool.false_eq_true, if_false]
          cbv
          cases c7 : xcmp .neq b5 117 with
          | false =>
            simp only [c7] at hp ⊢
            cbv
            rw [h.at_, hT]
            cbv
            first | exact h_l_2 hp | (have q := h_l_2 hp; simp only [h.map_cons, h.map_nil, h.len_nil, he_e_int32, he_e_uint8] at q; first | exact q | (cbv; exact q))
          | true =>
            simp only [c7] at hp ⊢
            cbv
            cases hp
            first | rfl | (cbv; done) | (simp only [h.nadd0, h.nle_refl, h.cut_all, h.cut_nil, h.map_cons, h.map_nil, h.len_nil, he_e_int32, he_e_uint8, if_true]; done) | (simp only [h.nadd0, h.nle_refl, h.cut_all, h.cut_nil, h.map_cons, h.map_nil, h.len_nil, he_e_int32, he_e_uint8, if_true]; first | rfl | (cbv; done) | (cbv; simp only [h.map_cons, h.map_nil, h.len_nil, he_e_int32, he_e_uint8]; done))
      | true =>
        simp only [c4] at hp ⊢
        cbv
        cases hp
        first | rfl | (cbv; done) | (simp only [h.nadd0, h.nle_refl, h.cut_all, h.cut_nil, h.map_cons, h.map_nil, h.len_nil, he_e_int32, he_e_uint8, if_true]; done) | (simp only [h.nadd0, h.nle_refl, h.cut_all, h.cut_nil, h.map_cons, h.map_nil, h.len_nil, he_e_int32, he_e_uint8, if_true]; first | rfl | (cbv; done) | (cbv; simp only [h.map_cons, h.map_nil, h.len_nil, he_e_int32, he_e_uint8]; done))
  | true =>
    simp only [c1] at hp ⊢
    cbv
    cases hp
    first | rfl | (cbv; done) | (simp only [h.nadd0, h.nle_refl, h.cut_all, h.cut_nil, h.map_cons, h.map_nil, h.len_nil, he_e_int32, he_e_uint8, if_true]; done) | (simp only [h.nadd0, h.nle_refl, h.cut_all, h.cut_nil, h.map_cons, h.map_nil, h.len_nil, he_e_int32, he_e_uint8, if_true]; first | rfl | (cbv; done) | (cbv; simp only [h.map_cons, h.map_nil, h.len_nil, he_e_int32, he_e_uint8]; done))
def b_quote_unit_2 (P : Prims) (c_quote_digit : Int → Option (Int))  (v0 : Str) (v3 : Int) (v19 : Int) : Option ((Str × Int × Int) ⊕ (Int)) :=
  match P.cmp .lss v19 4 with
  | false =>
    some (.inr v3)
  | true =>
    match P.sidx v0 (P.ar .add .i64 2 v19) with
    | none => none
    | some b9 =>
      match c_quote_digit b9 with
      | none => none
      | some r11 =>
        match P.cmp .lss r11 0 with
        | false =>
          match P.shf .shl .i32 v3 4 with
          | none => none
          | some n14 =>
            some (.inl (v0, P.ar .or .i32 n14 r11, P.ar .add .i64 v19 1))
        | true =>
          some (.inr (-1))
theorem o_quote_unit_2 (c_quote_digit : Int → Option (Int)) (h_quote_digit : ∀ {a0 : Int} {r0 : Int}, c_quote_digit a0 = some r0 → ∀ stk, xpcall 63 [(.d (.int .u8 a0))] stk = some (.d (.int .i32 r0))) (stk : Stk) (m : Nat)  (v0 : Str) (v3 : Int) (v19 : Int)  {out} (hp : b_quote_unit_2 ⟨xar, xcmp, xwrap, xseq, xslt, xenc, pquo, pshf, pslen, psidx, pssub, pscat, psit, pslist, pofBytes, @plen, @pidx, @psub, @papp, @pset, @pmake, @ploop⟩ c_quote_digit  v0 v3 v19 = some out) : xat 58 true 2 [.lp ⟨2, [0, 3, 19], []⟩, .blk 0, .sub ⟨6, [3], []⟩] ⟨[(0, (.d (.str v0))), (3, (.d (.int .i32 v3))), (19, (.d (.int .i64 v19)))], ⟨m, []⟩ :: stk⟩ = (Sum.elim (fun (v0, v3, v19) => xat 58 true 2 [.lp ⟨2, [0, 3, 19], []⟩, .blk 0, .sub ⟨6, [3], []⟩] ⟨[(0, (.d (.str v0))), (3, (.d (.int .i32 v3))), (19, (.d (.int .i64 v19)))], ⟨m, []⟩ :: stk⟩) (fun r0 => (some (.ret (.d (.int .i32 r0)), stk) : Rk'))) out := by
  simp only [b_quote_unit_2] at hp
  rw [h.at_, hT]
  cbv
  cases c8 : xcmp .lss v19 4 with
  | false =>
    simp only [c8] at hp ⊢
    cbv
    rw [h.at_, hT]
    cbv
    cases hp
    first | rfl | (cbv; done) | (simp only [h.nadd0, h.nle_refl, h.cut_all, h.cut_nil, h.map_cons, h.map_nil, h.len_nil, he_e_int32, he_e_uint8, if_true]; done) | (simp only [h.nadd0, h.nle_refl, h.cut_all, h.cut_nil, h.map_cons, h.map_nil, h.len_nil, he_e_int32, he_e_uint8, if_true]; first | rfl | (cbv; done) | (cbv; simp only [h.map_cons, h.map_nil, h.len_nil, he_e_int32, he_e_uint8]; done))
  | true =>
    simp only [c8] at hp ⊢
    cbv
    rw [h.at_, hT]
    cbv
    cases c10 : psidx v0 (xar .add .i64 2 v19) with
    | none => simp only [c10] at hp; cases hp
    | some b9 =>
      simp only [c10] at hp
      obtain ⟨w, q1, q2, q3⟩ := h.sidx c10
      simp only [q1, q2, q3, Bool.false_eq_true, if_false]
      cbv
      cases c12 : c_quote_digit b9 with
      | none => simp only [c12] at hp; cases hp
      | some r11 =>
        simp only [c12] at hp
        have qc := h_quote_digit c12 (⟨m, []⟩ :: stk)
        simp only [qc]
        cbv
        cases c13 : xcmp .lss r11 0 with
        | false =>
          simp only [c13] at hp ⊢
          cbv
          rw [h.at_, hT]
          cbv
          cases c15 : pshf .shl .i32 v3 4 with
          | none => simp only [c15] at hp; cases hp
          | some n14 =>
            simp only [c15] at hp
            obtain ⟨q1, q2⟩ := h.shf c15
            simp only [q1, q2, Bool.false_eq_true, if_false]
            cbv
            rw [h.at_, hT]
            cbv
            cases hp
            first | rfl | (cbv; done) | (simp only [h.nadd0, h.nle_refl, h.cut_all, h.cut_nil, h.map_cons, h.map_nil, h.len_nil, he_e_int32, he_e_uint8, if_true]; done) | (simp only [h.nadd0, h.nle_refl, h.cut_all, h.cut_nil, h.map_cons, h.map_nil, h.len_nil, he_e_int32, he_e_uint8, if_true]; first | rfl | (cbv; done) | (cbv; simp only [h.map_cons, h.map_nil, h.len_nil, he_e_int32, he_e_uint8]; done))
        | true =>
          simp only [c13] at hp ⊢
          cbv
          cases hp
          first | rfl | (cbv; done) | (simp only [h.nadd0, h.nle_refl, h.cut_all, h.cut_nil, h.map_cons, h.map_nil, h.len_nil, he_e_int32, he_e_uint8, if_true]; done) | (simp only [h.nadd0, h.nle_refl, h.cut_all, h.cut_nil, h.map_cons, h.map_nil, h.len_nil, he_e_int32, he_e_uint8, if_true]; first | rfl | (cbv; done) | (cbv; simp only [h.map_cons, h.map_nil, h.len_nil, he_e_int32, he_e_uint8]; done))
def b_quote_escaped_0 (P : Prims) (c_quote_short : Int → Option (Int × Bool)) (c_quote_unit : Str → Option (Int)) (l_1 : Str → Option (Int × Int)) (v0 : Str) : Option (Int × Int) :=
  match P.cmp .gtr (P.slen v0) 1 with
  | false =>
    l_1 v0
  | true =>
    match P.sidx v0 1 with
    | none => none
    | some b2 =>
      match c_quote_short b2 with
      | none => none
      | some (r4_0, r4_1) =>
        match r4_1 with
        | false =>
          l_1 v0
        | true =>
          some (r4_0, 2)
theorem o_quote_escaped_0 (c_quote_short : Int → Option (Int × Bool)) (c_quote_unit : Str → Option (Int)) (h_quote_short : ∀ {a0 : Int} {r0 : Int} {r1 : Bool}, c_quote_short a0 = some (r0, r1) → ∀ stk, xpcall 57 [(.d (.int .u8 a0))] stk = some (.d (.tup [(.int .i32 r0), (.bool r1)]))) (h_quote_unit : ∀ {a0 : Str} {r0 : Int}, c_quote_unit a0 = some r0 → ∀ stk, xpcall 58 [(.d (.str a0))] stk = some (.d (.int .i32 r0))) (stk : Stk) (m : Nat) (l_1 : Str → Option (Int × Int)) (v0 : Str) (h_l_1 : ∀ {v0 : Str} {out}, l_1 v0 = some out → xat 50 true 1 [] ⟨[(0, (.d (.str v0)))], ⟨m, []⟩ :: stk⟩ = (fun (r0, r1) => (some (.ret (.d (.tup [(.int .i32 r0), (.int .i64 r1)])), stk) : Rk')) out) {out} (hp : b_quote_escaped_0 ⟨xar, xcmp, xwrap, xseq, xslt, xenc, pquo, pshf, pslen, psidx, pssub, pscat, psit, pslist, pofBytes, @plen, @pidx, @psub, @papp, @pset, @pmake, @ploop⟩ c_quote_short c_quote_unit l_1 v0 = some out) : xat 50 true 0 [] ⟨[(0, (.d (.str v0)))], ⟨m, []⟩ :: stk⟩ = (fun (r0, r1) => (some (.ret (.d (.tup [(.int .i32 r0), (.int .i64 r1)])), stk) : Rk')) out := by
  simp only [b_quote_escaped_0] at hp
  rw [h.at_, hT]
  cbv
  try simp only [h.slen]
  cases c1 : xcmp .gtr (pslen v0) 1 with
  | false =>
    simp only [c1] at hp ⊢
    cbv
    first | exact h_l_1 hp | (have q := h_l_1 hp; simp only [h.map_cons, h.map_nil, h.len_nil, he_e_int32, he_e_uint8] at q; first | exact q | (cbv; exact q))
  | true =>
    simp only [c1] at hp ⊢
    cbv
    cases c3 : psidx v0 1 with
    | none => simp only [c3] at hp; cases hp
    | some b2 =>
      simp only [c3] at hp
      obtain ⟨w, q1, q2, q3⟩ := h.sidx c3
      simp only [q1, q2, q3, Bool.false_eq_true, if_false]
      cbv
      cases c5 : c_quote_short b2 with
      | none => simp only [c5] at hp; cases hp
      | some y7 =>
        obtain ⟨r4_0, r4_1⟩ := y7
        simp only [c5] at hp
        have qc := h_quote_short c5 (⟨m, []⟩ :: stk)
        simp only [qc]
        cbv
        cases r4_1 with
        | false =>
          simp only at hp
          cbv
          first | exact h_l_1 hp | (have q := h_l_1 hp; simp only [h.map_cons, h.map_nil, h.len_nil, he_e_int32, he_e_uint8] at q; first | exact q | (cbv; exact q))
        | true =>
          simp only at hp
          cbv
          cases hp
          first | rfl | (cbv; done) | (simp only [h.nadd0, h.nle_refl, h.cut_all, h.cut_nil, h.map_cons, h.map_nil, h.len_nil, he_e_int32, he_e_uint8, if_true]; done) | (simp only [h.nadd0, h.nle_refl, h.cut_all, h.cut_nil, h.map_cons, h.map_nil, h.len_nil, he_e_int32, he_e_uint8, if_true]; first | rfl | (cbv; done) | (cbv; simp only [h.map_cons, h.map_nil, h.len_nil, he_e_int32, he_e_uint8]; done))
def b_quote_escaped_1 (P : Prims) (c_quote_short : Int → Option (Int × Bool)) (c_quote_unit : Str → Option (Int)) (l_2 : Str → Int → Option (Int × Int)) (v0 : Str) : Option (Int × Int) :=
  match c_quote_unit v0 with
  | none => none
  | some r8 =>
    match P.cmp .lss r8 0 with
    | false =>
      match P.cmp .geq r8 56320 with
      | false =>
        match P.cmp .lss r8 55296 with
        | false =>
          match P.cmp .gtr r8 57343 with
          | false =>
            l_2 v0 r8
          | true =>
            some (r8, 6)
        | true =>
          some (r8, 6)
      | true =>
        match P.cmp .leq r8 57343 with
        | false =>
          match P.cmp .lss r8 55296 with
          | false =>
            match P.cmp .gtr r8 57343 with
            | false =>
              l_2 v0 r8
            | true =>
              some (r8, 6)
          | true =>
            some (r8, 6)
        | true =>
          some (0, 0)
    | true =>
      some (0, 0)
theorem o_quote_escaped_1 (c_quote_short : Int → Option (Int × Bool)) (c_quote_unit : Str → Option (Int)) (h_quote_short : ∀ {a0 : Int} {r0 : Int} {r1 : Bool}, c_quote_short a0 = some (r0, r1) → ∀ stk, xpcall 57 [(.d (.int .u8 a0))] stk = some (.d (.tup [(.int .i32 r0), (.bool r1)]))) (h_quote_unit : ∀ {a0 : Str} {r0 : Int}, c_quote_unit a0 = some r0 → ∀ stk, xpcall 58 [(.d (.str a0))] stk = some (.d (.int .i32 r0))) (stk : Stk) (m : Nat) (l_2 : Str → Int → Option (Int × Int)) (v0 : Str) (h_l_2 : ∀ {v0 : Str} {v6 : Int} {out}, l_2 v0 v6 = some out → xat 50 true 2 [] ⟨[(0, (.d (.str v0))), (6, (.d (.int .i32 v6)))], ⟨m, []⟩ :: stk⟩ = (fun (r0, r1) => (some (.ret (.d (.tup [(.int .i32 r0), (.int .i64 r1)])), stk) : Rk')) out) {out} (hp : b_quote_escaped_1 ⟨xar, xcmp, xwrap, xseq, xslt, xenc, pquo, pshf, pslen, psidx, pssub, pscat, psit, pslist, pofBytes, @plen, @pidx, @psub, @papp, @pset, @pmake, @ploop⟩ c_quote_short c_quote_unit l_2 v0 = some out) : xat 50 true 1 [] ⟨[(0, (.d (.str v0)))], ⟨m, []⟩ :: stk⟩ = (fun (r0, r1) => (some (.ret (.d (.tup [(.int .i32 r0), (.int .i64 r1)])), stk) : Rk')) out := by
  simp only [b_quote_escaped_1] at hp
  rw [h.at_, hT]
  cbv
  cases c9 : c_quote_unit v0 with
  | none => simp only [c9] at hp; cases hp
  | some r8 =>
    simp only [c9] at hp
    have qc := h_quote_unit c9 (⟨m, []⟩ :: stk)
    simp only [qc]
    cbv
    cases c10 : xcmp .lss r8 0 with
    | false =>
      simp only [c10] at hp ⊢
      cbv
      cases c11 : xcmp .geq r8 56320 with
      | false =>
        simp only [c11] at hp ⊢
        cbv
        cases c15 : xcmp .lss r8 55296 with
        | false =>
          simp only [c15] at hp ⊢
          cbv
          cases c16 : xcmp .gtr r8 57343 with
          | false =>
            simp only [c16] at hp ⊢
            cbv
            first | exact h_l_2 hp | (have q := h_l_2 hp; simp only [h.map_cons, h.map_nil, h.len_nil, he_e_int32, he_e_uint8] at q; first | exact q | (cbv; exact q))
          | true =>
            simp only [c16] at hp ⊢
            cbv
            cases hp
            first | rfl | (cbv; done) | (simp only [h.nadd0, h.nle_refl, h.cut_all, h.cut_nil, h.map_cons, h.map_nil, h.len_nil, he_e_int32, he_e_uint8, if_true]; done) | (simp only [h.nadd0, h.nle_refl, h.cut_all, h.cut_nil, h.map_cons, h.map_nil, h.len_nil, he_e_int32, he_e_uint8, if_true]; first | rfl | (cbv; done) | (cbv; simp only [h.map_cons, h.map_nil, h.len_nil, he_e_int32, he_e_uint8]; done))
        | true =>
          simp only [c15] at hp ⊢
          cbv
          cases hp
          first | rfl | (cbv; done) | (simp only [h.nadd0, h.nle_refl, h.cut_all, h.cut_nil, h.map_cons, h.map_nil, h.len_nil, he_e_int32, he_e_uint8, if_true]; done) | (simp only [h.nadd0, h.nle_refl, h.cut_all, h.cut_nil, h.map_cons, h.map_nil, h.len_nil, he_e_int32, he_e_uint8, if_true]; first | rfl | (cbv; done) | (cbv; simp only [h.map_cons, h.map_nil, h.len_nil, he_e_int32, he_e_uint8]; done))
      | true =>
        simp only [c11] at hp ⊢
        cbv
        cases c12 : xcmp .leq r8 57343 with
        | false =>
          simp only [c12] at hp ⊢
          cbv
          cases c13 : xcmp .lss r8 55296 with
          | false =>
            simp only [c13] at hp ⊢
            cbv
            cases c14 : xcmp .gtr r8 57343 with
            | false =>
              simp only [c14] at hp ⊢
              cbv
              first | exact h_l_2 hp | (have q := h_l_2 hp; simp only [h.map_cons, h.map_nil, h.len_nil, he_e_int32, he_e_uint8] at q; first | exact q | (cbv; exact q))
            | true =>
              simp only [c14] at hp ⊢
              cbv
              cases hp
              first | rfl | (cbv; done) | (simp only [h.nadd0, h.nle_refl, h.cut_all, h.cut_nil, h.map_cons, h.map_nil, h.len_nil, he_e_int32, he_e_uint8, if_true]; done) | (simp only [h.nadd0, h.nle_refl, h.cut_all, h.cut_nil, h.map_cons, h.map_nil, h.len_nil, he_e_int32, he_e_uint8, if_true]; first | rfl | (cbv; done) | (cbv; simp only [h.map_cons, h.map_nil, h.len_nil, he_e_int32, he_e_uint8]; done))
          | true =>
            simp only [c13] at hp ⊢
            cbv
            cases hp
            first | rfl | (cbv; done) | (simp only [h.nadd0, h.nle_refl, h.cut_all, h.cut_nil, h.map_cons, h.map_nil, h.len_nil, he_e_int32, he_e_uint8, if_true]; done) | (simp only [h.nadd0, h.nle_refl, h.cut_all, h.cut_nil, h.map_cons, h.map_nil, h.len_nil, he_e_int32, he_e_uint8, if_true]; first | rfl | (cbv; done) | (cbv; simp only [h.map_cons, h.map_nil, h.len_nil, he_e_int32, he_e_uint8]; done))
        | true =>
          simp only [c12] at hp ⊢
          cbv
          cases hp
          first | rfl | (cbv; done) | (simp only [h.nadd0, h.nle_refl, h.cut_all, h.cut_nil, h.map_cons, h.map_nil, h.len_nil, he_e_int32, he_e_uint8, if_true]; done) | (simp only [h.nadd0, h.nle_refl, h.cut_all, h.cut_nil, h.map_cons, h.map_nil, h.len_nil, he_e_int32, he_e_uint8, if_true]; first | rfl | (cbv; done) | (cbv; simp only [h.map_cons, h.map_nil, h.len_nil, he_e_int32, he_e_uint8]; done))
    | true =>
      simp only [c10] at hp ⊢
      cbv
      cases hp
      first | rfl | (cbv; done) | (simp only [h.nadd0, h.nle_refl, h.cut_all, h.cut_nil, h.map_cons, h.map_nil, h.len_nil, he_e_int32, he_e_uint8, if_true]; done) | (simp only [h.nadd0, h.nle_refl, h.cut_all, h.cut_nil, h.map_cons, h.map_nil, h.len_nil, he_e_int32, he_e_uint8, if_true]; first | rfl | (cbv; done) | (cbv; simp only [h.map_cons, h.map_nil, h.len_nil, he_e_int32, he_e_uint8]; done))
def b_quote_escaped_2 (P : Prims) (c_quote_short : Int → Option (Int × Bool)) (c_quote_unit : Str → Option (Int))  (v0 : Str) (v6 : Int) : Option (Int × Int) :=
  match P.ssub v0 (some 6) none with
  | none => none
  | some s17 =>
    match c_quote_unit s17 with
    | none => none
    | some r19 =>
      match P.cmp .lss r19 56320 with
      | false =>
        match P.cmp .gtr r19 57343 with
        | false =>
          match P.shf .shl .i32 (P.ar .sub .i32 v6 55296) 10 with
          | none => none
          | some n23 =>
            some (P.ar .sub .i32 (P.ar .add .i32 (P.ar .add .i32 65536 n23) r19) 56320, 12)
        | true =>
          some (0, 0)
      | true =>
        some (0, 0)
theorem o_quote_escaped_2 (c_quote_short : Int → Option (Int × Bool)) (c_quote_unit : Str → Option (Int)) (h_quote_short : ∀ {a0 : Int} {r0 : Int} {r1 : Bool}, c_quote_short a0 = some (r0, r1) → ∀ stk, xpcall 57 [(.d (.int .u8 a0))] stk = some (.d (.tup [(.int .i32 r0), (.bool r1)]))) (h_quote_unit : ∀ {a0 : Str} {r0 : Int}, c_quote_unit a0 = some r0 → ∀ stk, xpcall 58 [(.d (.str a0))] stk = some (.d (.int .i32 r0))) (stk : Stk) (m : Nat)  (v0 : Str) (v6 : Int)  {out} (hp : b_quote_escaped_2 ⟨xar, xcmp, xwrap, xseq, xslt, xenc, pquo, pshf, pslen, psidx, pssub, pscat, psit, pslist, pofBytes, @plen, @pidx, @psub, @papp, @pset, @pmake, @ploop⟩ c_quote_short c_quote_unit  v0 v6 = some out) : xat 50 true 2 [] ⟨[(0, (.d (.str v0))), (6, (.d (.int .i32 v6)))], ⟨m, []⟩ :: stk⟩ = (fun (r0, r1) => (some (.ret (.d (.tup [(.int .i32 r0), (.int .i64 r1)])), stk) : Rk')) out := by
  simp only [b_quote_escaped_2] at hp
  rw [h.at_, hT]
  cbv
  cases c18 : pssub v0 (some 6) none with
  | none => simp only [c18] at hp; cases hp
  | some s17 =>
    simp only [c18] at hp
    obtain ⟨q0, q1, q2, q3⟩ := h.ssub1 c18
    simp only [q0, q1, q2, q3, Bool.false_eq_true, if_false, if_true]
    cbv
    try simp only [q0, q1, q2, q3, if_true]
    cbv
    cases c20 : c_quote_unit s17 with
    | none => simp only [c20] at hp; cases hp
    | some r19 =>
      simp only [c20] at hp
      have qc := h_quote_unit c20 (⟨m, []⟩ :: stk)
      simp only [qc]
      cbv
      cases c21 : xcmp .lss r19 56320 with
      | false =>
        simp only [c21] at hp ⊢
        cbv
        cases c22 : xcmp .gtr r19 57343 with
        | false =>
          simp only [c22] at hp ⊢
          cbv
          rw [h.at_, hT]
          cbv
          cases c24 : pshf .shl .i32 (xar .sub .i32 v6 55296) 10 with
          | none => simp only [c24] at hp; cases hp
          | some n23 =>
            simp only [c24] at hp
            obtain ⟨q1, q2⟩ := h.shf c24
            simp only [q1, q2, Bool.false_eq_true, if_false]
            cbv
            cases hp
            first | rfl | (cbv; done) | (simp only [h.nadd0, h.nle_refl, h.cut_all, h.cut_nil, h.map_cons, h.map_nil, h.len_nil, he_e_int32, he_e_uint8, if_true]; done) | (simp only [h.nadd0, h.nle_refl, h.cut_all, h.cut_nil, h.map_cons, h.map_nil, h.len_nil, he_e_int32, he_e_uint8, if_true]; first | rfl | (cbv; done) | (cbv; simp only [h.map_cons, h.map_nil, h.len_nil, he_e_int32, he_e_uint8]; done))
        | true =>
          simp only [c22] at hp ⊢
          cbv
          cases hp
          first | rfl | (cbv; done) | (simp only [h.nadd0, h.nle_refl, h.cut_all, h.cut_nil, h.map_cons, h.map_nil, h.len_nil, he_e_int32, he_e_uint8, if_true]; done) | (simp only [h.nadd0, h.nle_refl, h.cut_all, h.cut_nil, h.map_cons, h.map_nil, h.len_nil, he_e_int32, he_e_uint8, if_true]; first | rfl | (cbv; done) | (cbv; simp only [h.map_cons, h.map_nil, h.len_nil, he_e_int32, he_e_uint8]; done))
      | true =>
        simp only [c21] at hp ⊢
        cbv
        cases hp
        first | rfl | (cbv; done) | (simp only [h.nadd0, h.nle_refl, h.cut_all, h.cut_nil, h.map_cons, h.map_nil, h.len_nil, he_e_int32, he_e_uint8, if_true]; done) | (simp only [h.nadd0, h.nle_refl, h.cut_all, h.cut_nil, h.map_cons, h.map_nil, h.len_nil, he_e_int32, he_e_uint8, if_true]; first | rfl | (cbv; done) | (cbv; simp only [h.map_cons, h.map_nil, h.len_nil, he_e_int32, he_e_uint8]; done))
def b_quote_Unquote_0 (P : Prims) (c_unicode_utf8_DecodeRuneInString : Str → Option (Int × Int)) (c_strings_HasPrefix : Str → Str → Option (Bool)) (c_strings_Builder_WriteRune : Str → Int → Option (Str × Int)) (c_strings_Builder_String : Str → Option Str) (c_quote_escaped : Str → Option (Int × Int)) (l_2 : Str → Int → Bool → Nat → Str → Option (Str × Int × Int)) (v0 : Str) : Option (Str × Int × Int) :=
  match c_strings_HasPrefix v0 [34] with
  | none => none
  | some r1 =>
    match r1 with
    | false =>
      some ([], 0, 4)
    | true =>
      l_2 v0 1 false 0 []
theorem o_quote_Unquote_0 (c_unicode_utf8_DecodeRuneInString : Str → Option (Int × Int)) (c_strings_HasPrefix : Str → Str → Option (Bool)) (c_strings_Builder_WriteRune : Str → Int → Option (Str × Int)) (c_strings_Builder_String : Str → Option Str) (c_quote_escaped : Str → Option (Int × Int)) (h_unicode_utf8_DecodeRuneInString : ∀ {a0 : Str} {r0 : Int} {r1 : Int}, c_unicode_utf8_DecodeRuneInString a0 = some (r0, r1) → ∀ stk, xpcall 38 [(.d (.str a0))] stk = some (.d (.tup [(.int .i32 r0), (.int .i64 r1)]))) (h_strings_HasPrefix : ∀ {a0 : Str} {a1 : Str} {r0 : Bool}, c_strings_HasPrefix a0 a1 = some r0 → ∀ stk, xpcall 40 [(.d (.str a0)), (.d (.str a1))] stk = some (.d (.bool r0))) (h_strings_Builder_WriteRune : ∀ {s : Str} {a : Int} {s1 : Str} {n : Int}, c_strings_Builder_WriteRune s a = some (s1, n) → ∀ stk l l1 u g, getO stk l = some (.bld 53 u (.msl l1 g 0 0)) → getO stk l1 = some (.hid 5 g s) → xfcall 42 [.ref l 0, .d (.int .i32 a)] stk = some (.d (.tup [.int .i64 n, .nili]), setO (setO stk l1 (.hid 5 (g + 1) s1)) l (.bld 53 true (.msl l1 (g + 1) 0 0)))) (h_strings_Builder_String : ∀ {s s1 : Str}, c_strings_Builder_String s = some s1 → ∀ stk l l1 u g, getO stk l = some (.bld 53 u (.msl l1 g 0 0)) → getO stk l1 = some (.hid 5 g s) → xfcall 43 [.ref l 0] stk = some (.d (.str s1), setO (setO stk l1 (.hid 5 (g + 1) [])) l (.bld 53 u .dead))) (h_quote_escaped : ∀ {a0 : Str} {r0 : Int} {r1 : Int}, c_quote_escaped a0 = some (r0, r1) → ∀ stk, xpcall 50 [(.d (.str a0))] stk = some (.d (.tup [(.int .i32 r0), (.int .i64 r1)]))) (stk : Stk) (m : Nat) (l_2 : Str → Int → Bool → Nat → Str → Option (Str × Int × Int)) (v0 : Str) (h_l_2 : ∀ {v0 : Str} {v6 : Int} {o5_u : Bool} {o5_1_g : Nat} {o5_1_s : Str} {out}, l_2 v0 v6 o5_u o5_1_g o5_1_s = some out → xat 32 true 2 [.lp ⟨2, [0, 5, 6], [[5], [5, 1]]⟩, .blk 0, .sub ⟨5, [0], []⟩] ⟨[(0, (.d (.str v0))), (5, (.ref ⟨m, [5]⟩ 0)), (6, (.d (.int .i64 v6)))], ⟨m, [([5], (.bld 53 o5_u (.msl ⟨m, [5, 1]⟩ o5_1_g 0 0))), ([5, 1], (.hid 5 o5_1_g o5_1_s))]⟩ :: stk⟩ = (fun (r0, r1, r2) => (some (.ret (.d (.tup [(.str r0), (.int .i64 r1), (.int .i64 r2)])), stk) : Rk')) out) {out} (hp : b_quote_Unquote_0 ⟨xar, xcmp, xwrap, xseq, xslt, xenc, pquo, pshf, pslen, psidx, pssub, pscat, psit, pslist, pofBytes, @plen, @pidx, @psub, @papp, @pset, @pmake, @ploop⟩ c_unicode_utf8_DecodeRuneInString c_strings_HasPrefix c_strings_Builder_WriteRune c_strings_Builder_String c_quote_escaped l_2 v0 = some out) : xat 32 true 0 [] ⟨[(0, (.d (.str v0)))], ⟨m, []⟩ :: stk⟩ = (fun (r0, r1, r2) => (some (.ret (.d (.tup [(.str r0), (.int .i64 r1), (.int .i64 r2)])), stk) : Rk')) out := by
  simp only [b_quote_Unquote_0] at hp
  rw [h.at_, hT]
  cbv
  cases c2 : c_strings_HasPrefix v0 [34] with
  | none => simp only [c2] at hp; cases hp
  | some r1 =>
    simp only [c2] at hp
    have qc := h_strings_HasPrefix c2 (⟨m, []⟩ :: stk)
    simp only [qc]
    cbv
    cases r1 with
    | false =>
      simp only at hp
      cbv
      cases hp
      first | rfl | (cbv; done) | (simp only [h.nadd0, h.nle_refl, h.cut_all, h.cut_nil, h.map_cons, h.map_nil, h.len_nil, he_e_int32, he_e_uint8, if_true]; done) | (simp only [h.nadd0, h.nle_refl, h.cut_all, h.cut_nil, h.map_cons, h.map_nil, h.len_nil, he_e_int32, he_e_uint8, if_true]; first | rfl | (cbv; done) | (cbv; simp only [h.map_cons, h.map_nil, h.len_nil, he_e_int32, he_e_uint8]; done))
    | true =>
      simp only at hp
      cbv
      rw [h.at_, hT]
      cbv
      first | exact h_l_2 hp | (have q := h_l_2 hp; simp only [h.map_cons, h.map_nil, h.len_nil, he_e_int32, he_e_uint8] at q; first | exact q | (cbv; exact q))
def b_quote_Unquote_2 (P : Prims) (c_unicode_utf8_DecodeRuneInString : Str → Option (Int × Int)) (c_strings_HasPrefix : Str → Str → Option (Bool)) (c_strings_Builder_WriteRune : Str → Int → Option (Str × Int)) (c_strings_Builder_String : Str → Option Str) (c_quote_escaped : Str → Option (Int × Int)) (l_4 : Str → Int → Int → Int → Bool → Nat → Str → Option ((Str × Int × Bool × Nat × Str) ⊕ (Str × Int × Int))) (v0 : Str) (v6 : Int) (o5_u : Bool) (o5_1_g : Nat) (o5_1_s : Str) : Option ((Str × Int × Bool × Nat × Str) ⊕ (Str × Int × Int)) :=
  match P.cmp .lss v6 (P.slen v0) with
  | false =>
    some (.inr ([], P.slen v0, 4))
  | true =>
    match P.ssub v0 (some v6) none with
    | none => none
    | some s5 =>
      match c_unicode_utf8_DecodeRuneInString s5 with
      | none => none
      | some (r7_0, r7_1) =>
        match P.cmp .eql r7_0 34 with
        | false =>
          match P.cmp .lss r7_0 32 with
          | false =>
            match P.cmp .eql r7_0 65533 with
            | false =>
              match P.cmp .eql r7_0 92 with
              | false =>
                l_4 v0 v6 r7_0 r7_1 o5_u o5_1_g o5_1_s
              | true =>
                match c_quote_escaped s5 with
                | none => none
                | some (r21_0, r21_1) =>
                  match P.cmp .eql r21_1 0 with
                  | false =>
                    l_4 v0 v6 r21_0 r21_1 o5_u o5_1_g o5_1_s
                  | true =>
                    some (.inr ([], v6, 4))
            | true =>
              match P.cmp .eql r7_1 1 with
              | false =>
                match P.cmp .eql r7_0 92 with
                | false =>
                  l_4 v0 v6 r7_0 r7_1 o5_u o5_1_g o5_1_s
                | true =>
                  match c_quote_escaped s5 with
                  | none => none
                  | some (r16_0, r16_1) =>
                    match P.cmp .eql r16_1 0 with
                    | false =>
                      l_4 v0 v6 r16_0 r16_1 o5_u o5_1_g o5_1_s
                    | true =>
                      some (.inr ([], v6, 4))
              | true =>
                some (.inr ([], v6, 2))
          | true =>
            some (.inr ([], v6, 4))
        | true =>
          match c_strings_Builder_String o5_1_s with
          | none => none
          | some s10 =>
            some (.inr (s10, P.ar .add .i64 v6 1, 0))
theorem o_quote_Unquote_2 (c_unicode_utf8_DecodeRuneInString : Str → Option (Int × Int)) (c_strings_HasPrefix : Str → Str → Option (Bool)) (c_strings_Builder_WriteRune : Str → Int → Option (Str × Int)) (c_strings_Builder_String : Str → Option Str) (c_quote_escaped : Str → Option (Int × Int)) (h_unicode_utf8_DecodeRuneInString : ∀ {a0 : Str} {r0 : Int} {r1 : Int}, c_unicode_utf8_DecodeRuneInString a0 = some (r0, r1) → ∀ stk, xpcall 38 [(.d (.str a0))] stk = some (.d (.tup [(.int .i32 r0), (.int .i64 r1)]))) (h_strings_HasPrefix : ∀ {a0 : Str} {a1 : Str} {r0 : Bool}, c_strings_HasPrefix a0 a1 = some r0 → ∀ stk, xpcall 40 [(.d (.str a0)), (.d (.str a1))] stk = some (.d (.bool r0))) (h_strings_Builder_WriteRune : ∀ {s : Str} {a : Int} {s1 : Str} {n : Int}, c_strings_Builder_WriteRune s a = some (s1, n) → ∀ stk l l1 u g, getO stk l = some (.bld 53 u (.msl l1 g 0 0)) → getO stk l1 = some (.hid 5 g s) → xfcall 42 [.ref l 0, .d (.int .i32 a)] stk = some (.d (.tup [.int .i64 n, .nili]), setO (setO stk l1 (.hid 5 (g + 1) s1)) l (.bld 53 true (.msl l1 (g + 1) 0 0)))) (h_strings_Builder_String : ∀ {s s1 : Str}, c_strings_Builder_String s = some s1 → ∀ stk l l1 u g, getO stk l = some (.bld 53 u (.msl l1 g 0 0)) → getO stk l1 = some (.hid 5 g s) → xfcall 43 [.ref l 0] stk = some (.d (.str s1), setO (setO stk l1 (.hid 5 (g + 1) [])) l (.bld 53 u .dead))) (h_quote_escaped : ∀ {a0 : Str} {r0 : Int} {r1 : Int}, c_quote_escaped a0 = some (r0, r1) → ∀ stk, xpcall 50 [(.d (.str a0))] stk = some (.d (.tup [(.int .i32 r0), (.int .i64 r1)]))) (stk : Stk) (m : Nat) (l_4 : Str → Int → Int → Int → Bool → Nat → Str → Option ((Str × Int × Bool × Nat × Str) ⊕ (Str × Int × Int))) (v0 : Str) (v6 : Int) (o5_u : Bool) (o5_1_g : Nat) (o5_1_s : Str) (h_l_4 : ∀ {v0 : Str} {v6 : Int} {v7 : Int} {v8 : Int} {o5_u : Bool} {o5_1_g : Nat} {o5_1_s : Str} {out}, l_4 v0 v6 v7 v8 o5_u o5_1_g o5_1_s = some out → xat 32 true 4 [.blk 1, .lp ⟨2, [0, 5, 6], [[5], [5, 1]]⟩, .blk 0, .sub ⟨5, [0], []⟩] ⟨[(0, (.d (.str v0))), (5, (.ref ⟨m, [5]⟩ 0)), (6, (.d (.int .i64 v6))), (7, (.d (.int .i32 v7))), (8, (.d (.int .i64 v8)))], ⟨m, [([5], (.bld 53 o5_u (.msl ⟨m, [5, 1]⟩ o5_1_g 0 0))), ([5, 1], (.hid 5 o5_1_g o5_1_s))]⟩ :: stk⟩ = (Sum.elim (fun (v0, v6, o5_u, o5_1_g, o5_1_s) => xat 32 true 2 [.lp ⟨2, [0, 5, 6], [[5], [5, 1]]⟩, .blk 0, .sub ⟨5, [0], []⟩] ⟨[(0, (.d (.str v0))), (5, (.ref ⟨m, [5]⟩ 0)), (6, (.d (.int .i64 v6)))], ⟨m, [([5], (.bld 53 o5_u (.msl ⟨m, [5, 1]⟩ o5_1_g 0 0))), ([5, 1], (.hid 5 o5_1_g o5_1_s))]⟩ :: stk⟩) (fun (r0, r1, r2) => (some (.ret (.d (.tup [(.str r0), (.int .i64 r1), (.int .i64 r2)])), stk) : Rk'))) out) {out} (hp : b_quote_Unquote_2 ⟨xar, xcmp, xwrap, xseq, xslt, xenc, pquo, pshf, pslen, psidx, pssub, pscat, psit, pslist, pofBytes, @plen, @pidx, @psub, @papp, @pset, @pmake, @ploop⟩ c_unicode_utf8_DecodeRuneInString c_strings_HasPrefix c_strings_Builder_WriteRune c_strings_Builder_String c_quote_escaped l_4 v0 v6 o5_u o5_1_g o5_1_s = some out) : xat 32 true 2 [.lp ⟨2, [0, 5, 6], [[5], [5, 1]]⟩, .blk 0, .sub ⟨5, [0], []⟩] ⟨[(0, (.d (.str v0))), (5, (.ref ⟨m, [5]⟩ 0)), (6, (.d (.int .i64 v6)))], ⟨m, [([5], (.bld 53 o5_u (.msl ⟨m, [5, 1]⟩ o5_1_g 0 0))), ([5, 1], (.hid 5 o5_1_g o5_1_s))]⟩ :: stk⟩ = (Sum.elim (fun (v0, v6, o5_u, o5_1_g, o5_1_s) => xat 32 true 2 [.lp ⟨2, [0, 5, 6], [[5], [5, 1]]⟩, .blk 0, .sub ⟨5, [0], []⟩] ⟨[(0, (.d (.str v0))), (5, (.ref ⟨m, [5]⟩ 0)), (6, (.d (.int .i64 v6)))], ⟨m, [([5], (.bld 53 o5_u (.msl ⟨m, [5, 1]⟩ o5_1_g 0 0))), ([5, 1], (.hid 5 o5_1_g o5_1_s))]⟩ :: stk⟩) (fun (r0, r1, r2) => (some (.ret (.d (.tup [(.str r0), (.int .i64 r1), (.int .i64 r2)])), stk) : Rk'))) out := by
  simp only [b_quote_Unquote_2] at hp
  rw [h.at_, hT]
  cbv
  try simp only [h.slen]
  cases c4 : xcmp .lss v6 (pslen v0) with
  | false =>
    simp only [c4] at hp ⊢
    cbv
    rw [h.at_, hT]
    cbv
    try simp only [h.slen]
    cases hp
    first | rfl | (cbv; done) | (simp only [h.nadd0, h.nle_refl, h.cut_all, h.cut_nil, h.map_cons, h.map_nil, h.len_nil, he_e_int32, he_e_uint8, if_true]; done) | (simp only [h.nadd0, h.nle_refl, h.cut_all, h.cut_nil, h.map_cons, h.map_nil, h.len_nil, he_e_int32, he_e_uint8, if_true]; first | rfl | (cbv; done) | (cbv; simp only [h.map_cons, h.map_nil, h.len_nil, he_e_int32, he_e_uint8]; done))
  | true =>
    simp only [c4] at hp ⊢
    cbv
    rw [h.at_, hT]
    cbv
    cases c6 : pssub v0 (some v6) none with
    | none => simp only [c6] at hp; cases hp
    | some s5 =>
      simp only [c6] at hp
      obtain ⟨q0, q1, q2, q3⟩ := h.ssub1 c6
      simp only [q0, q1, q2, q3, Bool.false_eq_true, if_false, if_true]
      cbv
      try simp only [q0, q1, q2, q3, if_true]
      cbv
      cases c8 : c_unicode_utf8_DecodeRuneInString s5 with
      | none => simp only [c8] at hp; cases hp
      | some y25 =>
        obtain ⟨r7_0, r7_1⟩ := y25
        simp only [c8] at hp
        have qc := h_unicode_utf8_DecodeRuneInString c8 (⟨m, [([5], (.bld 53 o5_u (.msl ⟨m, [5, 1]⟩ o5_1_g 0 0))), ([5, 1], (.hid 5 o5_1_g o5_1_s))]⟩ :: stk)
        simp only [qc]
        cbv
        cases c9 : xcmp .eql r7_0 34 with
        | false =>
          simp only [c9] at hp ⊢
          cbv
          cases c12 : xcmp .lss r7_0 32 with
          | false =>
            simp only [c12] at hp ⊢
            cbv
            cases c13 : xcmp .eql r7_0 65533 with
            | false =>
              simp only [c13] at hp ⊢
              cbv
              cases c20 : xcmp .eql r7_0 92 with
              | false =>
                simp only [c20] at hp ⊢
                cbv
                first | exact h_l_4 hp | (have q := h_l_4 hp; simp only [h.map_cons, h.map_nil, h.len_nil, he_e_int32, he_e_uint8] at q; first | exact q | (cbv; exact q))
              | true =>
                simp only [c20] at hp ⊢
                cbv
                obtain ⟨q0, q1, q2, q3⟩ := h.ssub1 c6
                simp only [q0, q1, q2, q3, Bool.false_eq_true, if_false, if_true]
                cbv
                try simp only [q0, q1, q2, q3, if_true]
                cbv
                cases c22 : c_quote_escaped s5 with
                | none => simp only [c22] at hp; cases hp
                | some y24 =>
                  obtain ⟨r21_0, r21_1⟩ := y24
                  simp only [c22] at hp
                  have qc := h_quote_escaped c22 (⟨m, [([5], (.bld 53 o5_u (.msl ⟨m, [5, 1]⟩ o5_1_g 0 0))), ([5, 1], (.hid 5 o5_1_g o5_1_s))]⟩ :: stk)
                  simp only [qc]
                  cbv
                  cases c23 : xcmp .eql r21_1 0 with
                  | false =>
                    simp only [c23] at hp ⊢
                    cbv
                    first | exact h_l_4 hp | (have q := h_l_4 hp; simp only [h.map_cons, h.map_nil, h.len_nil, he_e_int32, he_e_uint8] at q; first | exact q | (cbv; exact q))
                  | true =>
                    simp only [c23] at hp ⊢
                    cbv
                    cases hp
                    first | rfl | (cbv; done) | (simp only [h.nadd0, h.nle_refl, h.cut_all, h.cut_nil, h.map_cons, h.map_nil, h.len_nil, he_e_int32, he_e_uint8, if_true]; done) | (simp only [h.nadd0, h.nle_refl, h.cut_all, h.cut_nil, h.map_cons, h.map_nil, h.len_nil, he_e_int32, he_e_uint8, if_true]; first | rfl | (cbv; done) | (cbv; simp only [h.map_cons, h.map_nil, h.len_nil, he_e_int32, he_e_uint8]; done))
            | true =>
              simp only [c13] at hp ⊢
              cbv
              cases c14 : xcmp .eql r7_1 1 with
              | false =>
                simp only [c14] at hp ⊢
                cbv
                cases c15 : xcmp .eql r7_0 92 with
                | false =>
                  simp only [c15] at hp ⊢
                  cbv
                  first | exact h_l_4 hp | (have q := h_l_4 hp; simp only [h.map_cons, h.map_nil, h.len_nil, he_e_int32, he_e_uint8] at q; first | exact q | (cbv; exact q))
                | true =>
                  simp only [c15] at hp ⊢
                  cbv
                  obtain ⟨q0, q1, q2, q3⟩ := h.ssub1 c6
                  simp only [q0, q1, q2, q3, Bool.false_eq_true, if_false, if_true]
                  cbv
                  try simp only [q0, q1, q2, q3, if_true]
                  cbv
                  cases c17 : c_quote_escaped s5 with
                  | none => simp only [c17] at hp; cases hp
                  | some y19 =>
                    obtain ⟨r16_0, r16_1⟩ := y19
                    simp only [c17] at hp
                    have qc := h_quote_escaped c17 (⟨m, [([5], (.bld 53 o5_u (.msl ⟨m, [5, 1]⟩ o5_1_g 0 0))), ([5, 1], (.hid 5 o5_1_g o5_1_s))]⟩ :: stk)
                    simp only [qc]
                    cbv
                    cases c18 : xcmp .eql r16_1 0 with
                    | false =>
                      simp only [c18] at hp ⊢
                      cbv
                      first | exact h_l_4 hp | (have q := h_l_4 hp; simp only [h.map_cons, h.map_nil, h.len_nil, he_e_int32, he_e_uint8] at q; first | exact q | (cbv; exact q))
                    | true =>
                      simp only [c18] at hp ⊢
                      cbv
                      cases hp
                      first | rfl | (cbv; done) | (simp only [h.nadd0, h.nle_refl, h.cut_all, h.cut_nil, h.map_cons, h.map_nil, h.len_nil, he_e_int32, he_e_uint8, if_true]; done) | (simp only [h.nadd0, h.nle_refl, h.cut_all, h.cut_nil, h.map_cons, h.map_nil, h.len_nil, he_e_int32, he_e_uint8, if_true]; first | rfl | (cbv; done) | (cbv; simp only [h.map_cons, h.map_nil, h.len_nil, he_e_int32, he_e_uint8]; done))
              | true =>
                simp only [c14] at hp ⊢
                cbv
                cases hp
                first | rfl | (cbv; done) | (simp only [h.nadd0, h.nle_refl, h.cut_all, h.cut_nil, h.map_cons, h.map_nil, h.len_nil, he_e_int32, he_e_uint8, if_true]; done) | (simp only [h.nadd0, h.nle_refl, h.cut_all, h.cut_nil, h.map_cons, h.map_nil, h.len_nil, he_e_int32, he_e_uint8, if_true]; first | rfl | (cbv; done) | (cbv; simp only [h.map_cons, h.map_nil, h.len_nil, he_e_int32, he_e_uint8]; done))
          | true =>
            simp only [c12] at hp ⊢
            cbv
            cases hp
            first | rfl | (cbv; done) | (simp only [h.nadd0, h.nle_refl, h.cut_all, h.cut_nil, h.map_cons, h.map_nil, h.len_nil, he_e_int32, he_e_uint8, if_true]; done) | (simp only [h.nadd0, h.nle_refl, h.cut_all, h.cut_nil, h.map_cons, h.map_nil, h.len_nil, he_e_int32, he_e_uint8, if_true]; first | rfl | (cbv; done) | (cbv; simp only [h.map_cons, h.map_nil, h.len_nil, he_e_int32, he_e_uint8]; done))
        | true =>
          simp only [c9] at hp ⊢
          cbv
          cases c11 : c_strings_Builder_String o5_1_s with
          | none => simp only [c11] at hp; cases hp
          | some s10 =>
            simp only [c11] at hp
            have qc := h_strings_Builder_String c11 (⟨m, [([5], (.bld 53 o5_u (.msl ⟨m, [5, 1]⟩ o5_1_g 0 0))), ([5, 1], (.hid 5 o5_1_g o5_1_s))]⟩ :: stk) ⟨m, [5]⟩ ⟨m, [5, 1]⟩ o5_u o5_1_g (by cbv) (by cbv)
            simp only [qc]
            cbv
            cases hp
            first | rfl | (cbv; done) | (simp only [h.nadd0, h.nle_refl, h.cut_all, h.cut_nil, h.map_cons, h.map_nil, h.len_nil, he_e_int32, he_e_uint8, if_true]; done) | (simp only [h.nadd0, h.nle_refl, h.cut_all, h.cut_nil, h.map_cons, h.map_nil, h.len_nil, he_e_int32, he_e_uint8, if_true]; first | rfl | (cbv; done) | (cbv; simp only [h.map_cons, h.map_nil, h.len_nil, he_e_int32, he_e_uint8]; done))
def b_quote_Unquote_4 (P : Prims) (c_unicode_utf8_DecodeRuneInString : Str → Option (Int × Int)) (c_strings_HasPrefix : Str → Str → Option (Bool)) (c_strings_Builder_WriteRune : Str → Int → Option (Str × Int)) (c_strings_Builder_String : Str → Option Str) (c_quote_escaped : Str → Option (Int × Int))  (v0 : Str) (v6 : Int) (v7 : Int) (v8 : Int) (o5_u : Bool) (o5_1_g : Nat) (o5_1_s : Str) : Option ((Str × Int × Bool × Nat × Str) ⊕ (Str × Int × Int)) :=
  match c_strings_Builder_WriteRune o5_1_s v7 with
  | none => none
  | some (s47, s47_n) =>
    some (.inl (v0, P.ar .add .i64 v6 v8, true, o5_1_g + 1, s47))
theorem o_quote_Unquote_4 (c_unicode_utf8_DecodeRuneInString : Str → Option (Int × Int)) (c_strings_HasPrefix : Str → Str → Option (Bool)) (c_strings_Builder_WriteRune : Str → Int → Option (Str × Int)) (c_strings_Builder_String : Str → Option Str) (c_quote_escaped : Str → Option (Int × Int)) (h_unicode_utf8_DecodeRuneInString : ∀ {a0 : Str} {r0 : Int} {r1 : Int}, c_unicode_utf8_DecodeRuneInString a0 = some (r0, r1) → ∀ stk, xpcall 38 [(.d (.str a0))] stk = some (.d (.tup [(.int .i32 r0), (.int .i64 r1)]))) (h_strings_HasPrefix : ∀ {a0 : Str} {a1 : Str} {r0 : Bool}, c_strings_HasPrefix a0 a1 = some r0 → ∀ stk, xpcall 40 [(.d (.str a0)), (.d (.str a1))] stk = some (.d (.bool r0))) (h_strings_Builder_WriteRune : ∀ {s : Str} {a : Int} {s1 : Str} {n : Int}, c_strings_Builder_WriteRune s a = some (s1, n) → ∀ stk l l1 u g, getO stk l = some (.bld 53 u (.msl l1 g 0 0)) → getO stk l1 = some (.hid 5 g s) → xfcall 42 [.ref l 0, .d (.int .i32 a)] stk = some (.d (.tup [.int .i64 n, .nili]), setO (setO stk l1 (.hid 5 (g + 1) s1)) l (.bld 53 true (.msl l1 (g + 1) 0 0)))) (h_strings_Builder_String : ∀ {s s1 : Str}, c_strings_Builder_String s = some s1 → ∀ stk l l1 u g, getO stk l = some (.bld 53 u (.msl l1 g 0 0)) → getO stk l1 = some (.hid 5 g s) → xfcall 43 [.ref l 0] stk = some (.d (.str s1), setO (setO stk l1 (.hid 5 (g + 1) [])) l (.bld 53 u .dead))) (h_quote_escaped : ∀ {a0 : Str} {r0 : Int} {r1 : Int}, c_quote_escaped a0 = some (r0, r1) → ∀ stk, xpcall 50 [(.d (.str a0))] stk = some (.d (.tup [(.int .i32 r0), (.int .i64 r1)]))) (stk : Stk) (m : Nat)  (v0 : Str) (v6 : Int) (v7 : Int) (v8 : Int) (o5_u : Bool) (o5_1_g : Nat) (o5_1_s : Str)  {out} (hp : b_quote_Unquote_4 ⟨xar, xcmp, xwrap, xseq, xslt, xenc, pquo, pshf, pslen, psidx, pssub, pscat, psit, pslist, pofBytes, @plen, @pidx, @psub, @papp, @pset, @pmake, @ploop⟩ c_unicode_utf8_DecodeRuneInString c_strings_HasPrefix c_strings_Builder_WriteRune c_strings_Builder_String c_quote_escaped  v0 v6 v7 v8 o5_u o5_1_g o5_1_s = some out) : xat 32 true 4 [.blk 1, .lp ⟨2, [0, 5, 6], [[5], [5, 1]]⟩, .blk 0, .sub ⟨5, [0], []⟩] ⟨[(0, (.d (.str v0))), (5, (.ref ⟨m, [5]⟩ 0)), (6, (.d (.int .i64 v6))), (7, (.d (.int .i32 v7))), (8, (.d (.int .i64 v8)))], ⟨m, [([5], (.bld 53 o5_u (.msl ⟨m, [5, 1]⟩ o5_1_g 0 0))), ([5, 1], (.hid 5 o5_1_g o5_1_s))]⟩ :: stk⟩ = (Sum.elim (fun (v0, v6, o5_u, o5_1_g, o5_1_s) => xat 32 true 2 [.lp ⟨2, [0, 5, 6], [[5], [5, 1]]⟩, .blk 0, .sub ⟨5, [0], []⟩] ⟨[(0, (.d (.str v0))), (5, (.ref ⟨m, [5]⟩ 0)), (6, (.d (.int .i64 v6)))], ⟨m, [([5], (.bld 53 o5_u (.msl ⟨m, [5, 1]⟩ o5_1_g 0 0))), ([5, 1], (.hid 5 o5_1_g o5_1_s))]⟩ :: stk⟩) (fun (r0, r1, r2) => (some (.ret (.d (.tup [(.str r0), (.int .i64 r1), (.int .i64 r2)])), stk) : Rk'))) out := by
  simp only [b_quote_Unquote_4] at hp
  rw [h.at_, hT]
  cbv
  cases c48 : c_strings_Builder_WriteRune o5_1_s v7 with
  | none => simp only [c48] at hp; cases hp
  | some y49 =>
    obtain ⟨s47, s47_n⟩ := y49
    simp only [c48] at hp
    have qc := h_strings_Builder_WriteRune c48 (⟨m, [([5], (.bld 53 o5_u (.msl ⟨m, [5, 1]⟩ o5_1_g 0 0))), ([5, 1], (.hid 5 o5_1_g o5_1_s))]⟩ :: stk) ⟨m, [5]⟩ ⟨m, [5, 1]⟩ o5_u o5_1_g (by cbv) (by cbv)
    simp only [qc]
    cbv
    cases hp
    first | rfl | (cbv; done) | (simp only [h.nadd0, h.nle_refl, h.cut_all, h.cut_nil, h.map_cons, h.map_nil, h.len_nil, he_e_int32, he_e_uint8, if_true]; done) | (simp only [h.nadd0, h.nle_refl, h.cut_all, h.cut_nil, h.map_cons, h.map_nil, h.len_nil, he_e_int32, he_e_uint8, if_true]; first | rfl | (cbv; done) | (cbv; simp only [h.map_cons, h.map_nil, h.len_nil, he_e_int32, he_e_uint8]; done))
def b_cascaderef02_four_0 (P : Prims)  (l_2 : Str → Int → Int → Int → Option (Int)) (v0 : Str) (v1 : Int) : Option (Int) :=
  match P.cmp .geq v1 (P.ar .sub .i64 (P.slen v0) 3) with
  | false =>
    l_2 v0 v1 0 v1
  | true =>
    some (-1)
theorem o_cascaderef02_four_0   (stk : Stk) (m : Nat) (l_2 : Str → Int → Int → Int → Option (Int)) (v0 : Str) (v1 : Int) (h_l_2 : ∀ {v0 : Str} {v1 : Int} {v5 : Int} {v6 : Int} {out}, l_2 v0 v1 v5 v6 = some out → xat 59 true 2 [.lp ⟨2, [0, 1, 5, 6], []⟩, .blk 0, .sub ⟨9, [5], []⟩] ⟨[(0, (.d (.str v0))), (1, (.d (.int .i64 v1))), (5, (.d (.int .i64 v5))), (6, (.d (.int .i64 v6)))], ⟨m, []⟩ :: stk⟩ = (fun r0 => (some (.ret (.d (.int .i64 r0)), stk) : Rk')) out) {out} (hp : b_cascaderef02_four_0 ⟨xar, xcmp, xwrap, xseq, xslt, xenc, pquo, pshf, pslen, psidx, pssub, pscat, psit, pslist, pofBytes, @plen, @pidx, @psub, @papp, @pset, @pmake, @ploop⟩  l_2 v0 v1 = some out) : xat 59 true 0 [] ⟨[(0, (.d (.str v0))), (1, (.d (.int .i64 v1)))], ⟨m, []⟩ :: stk⟩ = (fun r0 => (some (.ret (.d (.int .i64 r0)), stk) : Rk')) out := by
  simp only [b_cascaderef02_four_0] at hp
  rw [h.at_, hT]
  cbv
  try simp only [h.slen]
  cases c1 : xcmp .geq v1 (xar .sub .i64 (pslen v0) 3) with
  | false =>
    simp only [c1] at hp ⊢
    cbv
    rw [h.at_, hT]
    cbv
    first | exact h_l_2 hp | (have q := h_l_2 hp; simp only [h.map_cons, h.map_nil, h.len_nil, he_e_int32, he_e_uint8] at q; first | exact q | (cbv; exact q))
  | true =>
    simp only [c1] at hp ⊢
    cbv
    cases hp
    first | rfl | (cbv; done) | (simp only [h.nadd0, h.nle_refl, h.cut_all, h.cut_nil, h.map_cons, h.map_nil, h.len_nil, he_e_int32, he_e_uint8, if_true]; done) | (simp only [h.nadd0, h.nle_refl, h.cut_all, h.cut_nil, h.map_cons, h.map_nil, h.len_nil, he_e_int32, he_e_uint8, if_true]; first | rfl | (cbv; done) | (cbv; simp only [h.map_cons, h.map_nil, h.len_nil, he_e_int32, he_e_uint8]; done))
def b_cascaderef02_four_2 (P : Prims)  (l_4 : Str → Int → Int → Int → Int → Int → Option ((Str × Int × Int × Int) ⊕ (Int))) (v0 : Str) (v1 : Int) (v5 : Int) (v6 : Int) : Option ((Str × Int × Int × Int) ⊕ (Int)) :=
  match P.cmp .lss v6 (P.ar .add .i64 v1 4) with
  | false =>
    some (.inr v5)
  | true =>
    match P.sidx v0 v6 with
    | none => none
    | some b3 =>
      match P.cmp .geq (P.wrap .i64 b3) 48 with
      | false =>
        l_4 v0 v1 v5 v6 (P.wrap .i64 b3) (-1)
      | true =>
        match P.cmp .leq (P.wrap .i64 b3) 57 with
        | false =>
          l_4 v0 v1 v5 v6 (P.wrap .i64 b3) (-1)
        | true =>
          l_4 v0 v1 v5 v6 (P.wrap .i64 b3) (P.ar .sub .i64 (P.wrap .i64 b3) 48)
theorem o_cascaderef02_four_2   (stk : Stk) (m : Nat) (l_4 : Str → Int → Int → Int → Int → Int → Option ((Str × Int × Int × Int) ⊕ (Int))) (v0 : Str) (v1 : Int) (v5 : Int) (v6 : Int) (h_l_4 : ∀ {v0 : Str} {v1 : Int} {v5 : Int} {v6 : Int} {v7 : Int} {v8 : Int} {out}, l_4 v0 v1 v5 v6 v7 v8 = some out → xat 59 true 4 [.blk 1, .sub ⟨8, [0, 1, 5, 6], []⟩, .lp ⟨2, [0, 1, 5, 6], []⟩, .blk 0, .sub ⟨9, [5], []⟩] ⟨[(0, (.d (.str v0))), (1, (.d (.int .i64 v1))), (5, (.d (.int .i64 v5))), (6, (.d (.int .i64 v6))), (7, (.d (.int .i64 v7))), (8, (.d (.int .i64 v8)))], ⟨m, []⟩ :: stk⟩ = (Sum.elim (fun (v0, v1, v5, v6) => xat 59 true 2 [.lp ⟨2, [0, 1, 5, 6], []⟩, .blk 0, .sub ⟨9, [5], []⟩] ⟨[(0, (.d (.str v0))), (1, (.d (.int .i64 v1))), (5, (.d (.int .i64 v5))), (6, (.d (.int .i64 v6)))], ⟨m, []⟩ :: stk⟩) (fun r0 => (some (.ret (.d (.int .i64 r0)), stk) : Rk'))) out) {out} (hp : b_cascaderef02_four_2 ⟨xar, xcmp, xwrap, xseq, xslt, xenc, pquo, pshf, pslen, psidx, pssub, pscat, psit, pslist, pofBytes, @plen, @pidx, @psub, @papp, @pset, @pmake, @ploop⟩  l_4 v0 v1 v5 v6 = some out) : xat 59 true 2 [.lp ⟨2, [0, 1, 5, 6], []⟩, .blk 0, .sub ⟨9, [5], []⟩] ⟨[(0, (.d (.str v0))), (1, (.d (.int .i64 v1))), (5, (.d (.int .i64 v5))), (6, (.d (.int .i64 v6)))], ⟨m, []⟩ :: stk⟩ = (Sum.elim (fun (v0, v1, v5, v6) => xat 59 true 2 [.lp ⟨2, [0, 1, 5, 6], []⟩, .blk 0, .sub ⟨9, [5], []⟩] ⟨[(0, (.d (.str v0))), (1, (.d (.int .i64 v1))), (5, (.d (.int .i64 v5))), (6, (.d (.int .i64 v6)))], ⟨m, []⟩ :: stk⟩) (fun r0 => (some (.ret (.d (.int .i64 r0)), stk) : Rk'))) out := by
  simp only [b_cascaderef02_four_2] at hp
  rw [h.at_, hT]
  cbv
  cases c2 : xcmp .lss v6 (xar .add .i64 v1 4) with
  | false =>
    simp only [c2] at hp ⊢
    cbv
    rw [h.at_, hT]
    cbv
    cases hp
    first | rfl | (cbv; done) | (simp only [h.nadd0, h.nle_refl, h.cut_all, h.cut_nil, h.map_cons, h.map_nil, h.len_nil, he_e_int32, he_e_uint8, if_true]; done) | (simp only [h.nadd0, h.nle_refl, h.cut_all, h.cut_nil, h.map_cons, h.map_nil, h.len_nil, he_e_int32, he_e_uint8, if_true]; first | rfl | (cbv; done) | (cbv; simp only [h.map_cons, h.map_nil, h.len_nil, he_e_int32, he_e_uint8]; done))
  | true =>
    simp only [c2] at hp ⊢
    cbv
    rw [h.at_, hT]
    cbv
    cases c4 : psidx v0 v6 with
    | none => simp only [c4] at hp; cases hp
    | some b3 =>
      simp only [c4] at hp
      obtain ⟨w, q1, q2, q3⟩ := h.sidx c4
      simp only [q1, q2, q3, Bool.false_eq_true, if_false]
      cbv
      cases c5 : xcmp .geq (xwrap .i64 b3) 48 with
      | false =>
        simp only [c5] at hp ⊢
        cbv
        first | exact h_l_4 hp | (have q := h_l_4 hp; simp only [h.map_cons, h.map_nil, h.len_nil, he_e_int32, he_e_uint8] at q; first | exact q | (cbv; exact q))
      | true =>
        simp only [c5] at hp ⊢
        cbv
        cases c6 : xcmp .leq (xwrap .i64 b3) 57 with
        | false =>
          simp only [c6] at hp ⊢
          cbv
          first | exact h_l_4 hp | (have q := h_l_4 hp; simp only [h.map_cons, h.map_nil, h.len_nil, he_e_int32, he_e_uint8] at q; first | exact q | (cbv; exact q))
        | true =>
          simp only [c6] at hp ⊢
          cbv
          first | exact h_l_4 hp | (have q := h_l_4 hp; simp only [h.map_cons, h.map_nil, h.len_nil, he_e_int32, he_e_uint8] at q; first | exact q | (cbv; exact q))
def b_cascaderef02_four_4 (P : Prims)  (l_5 : Str → Int → Int → Int → Int → Int → Option ((Str × Int × Int × Int) ⊕ (Int))) (v0 : Str) (v1 : Int) (v5 : Int) (v6 : Int) (v7 : Int) (v8 : Int) : Option ((Str × Int × Int × Int) ⊕ (Int)) :=
  match P.cmp .geq v7 97 with
  | false =>
    l_5 v0 v1 v5 v6 v7 v8
  | true =>
    match P.cmp .leq v7 102 with
    | false =>
      l_5 v0 v1 v5 v6 v7 v8
    | true =>
      l_5 v0 v1 v5 v6 v7 (P.ar .sub .i64 v7 87)
theorem o_cascaderef02_four_4   (stk : Stk) (m : Nat) (l_5 : Str → Int → Int → Int → Int → Int → Option ((Str × Int × Int × Int) ⊕ (Int))) (v0 : Str) (v1 : Int) (v5 : Int) (v6 : Int) (v7 : Int) (v8 : Int) (h_l_5 : ∀ {v0 : Str} {v1 : Int} {v5 : Int} {v6 : Int} {v7 : Int} {v8 : Int} {out}, l_5 v0 v1 v5 v6 v7 v8 = some out → xat 59 true 5 [.blk 1, .sub ⟨8, [0, 1, 5, 6], []⟩, .lp ⟨2, [0, 1, 5, 6], []⟩, .blk 0, .sub ⟨9, [5], []⟩] ⟨[(0, (.d (.str v0))), (1, (.d (.int .i64 v1))), (5, (.d (.int .i64 v5))), (6, (.d (.int .i64 v6))), (7, (.d (.int .i64 v7))), (8, (.d (.int .i64 v8)))], ⟨m, []⟩ :: stk⟩ = (Sum.elim (fun (v0, v1, v5, v6) => xat 59 true 2 [.lp ⟨2, [0, 1, 5, 6], []⟩, .blk 0, .sub ⟨9, [5], []⟩] ⟨[(0, (.d (.str v0))), (1, (.d (.int .i64 v1))), (5, (.d (.int .i64 v5))), (6, (.d (.int .i64 v6)))], ⟨m, []⟩ :: stk⟩) (fun r0 => (some (.ret (.d (.int .i64 r0)), stk) : Rk'))) out) {out} (hp : b_cascaderef02_four_4 ⟨xar, xcmp, xwrap, xseq, xslt, xenc, pquo, pshf, pslen, psidx, pssub, pscat, psit, pslist, pofBytes, @plen, @pidx, @psub, @papp, @pset, @pmake, @ploop⟩  l_5 v0 v1 v5 v6 v7 v8 = some out) : xat 59 true 4 [.blk 1, .sub ⟨8, [0, 1, 5, 6], []⟩, .lp ⟨2, [0, 1, 5, 6], []⟩, .blk 0, .sub ⟨9, [5], []⟩] ⟨[(0, (.d (.str v0))), (1, (.d (.int .i64 v1))), (5, (.d (.int .i64 v5))), (6, (.d (.int .i64 v6))), (7, (.d (.int .i64 v7))), (8, (.d (.int .i64 v8)))], ⟨m, []⟩ :: stk⟩ = (Sum.elim (fun (v0, v1, v5, v6) => xat 59 true 2 [.lp ⟨2, [0, 1, 5, 6], []⟩, .blk 0, .sub ⟨9, [5], []⟩] ⟨[(0, (.d (.str v0))), (1, (.d (.int .i64 v1))), (5, (.d (.int .i64 v5))), (6, (.d (.int .i64 v6)))], ⟨m, []⟩ :: stk⟩) (fun r0 => (some (.ret (.d (.int .i64 r0)), stk) : Rk'))) out := by
  simp only [b_cascaderef02_four_4] at hp
  rw [h.at_, hT]
  cbv
  cases c11 : xcmp .geq v7 97 with
  | false =>
    simp only [c11] at hp ⊢
    cbv
    first | exact h_l_5 hp | (have q := h_l_5 hp; simp only [h.map_cons, h.map_nil, h.len_nil, he_e_int32, he_e_uint8] at q; first | exact q | (cbv; exact q))
  | true =>
    simp only [c11] at hp ⊢
    cbv
    cases c12 : xcmp .leq v7 102 with
    | false =>
      simp only [c12] at hp ⊢
      cbv
      first | exact h_l_5 hp | (have q := h_l_5 hp; simp only [h.map_cons, h.map_nil, h.len_nil, he_e_int32, he_e_uint8] at q; first | exact q | (cbv; exact q))
    | true =>
      simp only [c12] at hp ⊢
      cbv
      first | exact h_l_5 hp | (have q := h_l_5 hp; simp only [h.map_cons, h.map_nil, h.len_nil, he_e_int32, he_e_uint8] at q; first | exact q | (cbv; exact q))
def b_cascaderef02_four_5 (P : Prims)  (l_6 : Str → Int → Int → Int → Int → Option ((Str × Int × Int × Int) ⊕ (Int))) (v0 : Str) (v1 : Int) (v5 : Int) (v6 : Int) (v7 : Int) (v8 : Int) : Option ((Str × Int × Int × Int) ⊕ (Int)) :=
  match P.cmp .geq v7 65 with
  | false =>
    l_6 v0 v1 v5 v6 v8
  | true =>
    match P.cmp .leq v7 70 with
    | false =>
      l_6 v0 v1 v5 v6 v8
    | true =>
      l_6 v0 v1 v5 v6 (P.ar .sub .i64 v7 55)
theorem o_cascaderef02_four_5   (stk : Stk) (m : Nat) (l_6 : Str → Int → Int → Int → Int → Option ((Str × Int × Int × Int) ⊕ (Int))) (v0 : Str) (v1 : Int) (v5 : Int) (v6 : Int) (v7 : Int) (v8 : Int) (h_l_6 : ∀ {v0 : Str} {v1 : Int} {v5 : Int} {v6 : Int} {v8 : Int} {out}, l_6 v0 v1 v5 v6 v8 = some out → xat 59 true 6 [.blk 1, .sub ⟨8, [0, 1, 5, 6], []⟩, .lp ⟨2, [0, 1, 5, 6], []⟩, .blk 0, .sub ⟨9, [5], []⟩] ⟨[(0, (.d (.str v0))), (1, (.d (.int .i64 v1))), (5, (.d (.int .i64 v5))), (6, (.d (.int .i64 v6))), (8, (.d (.int .i64 v8)))], ⟨m, []⟩ :: stk⟩ = (Sum.elim (fun (v0, v1, v5, v6) => xat 59 true 2 [.lp ⟨2, [0, 1, 5, 6], []⟩, .blk 0, .sub ⟨9, [5], []⟩] ⟨[(0, (.d (.str v0))), (1, (.d (.int .i64 v1))), (5, (.d (.int .i64 v5))), (6, (.d (.int .i64 v6)))], ⟨m, []⟩ :: stk⟩) (fun r0 => (some (.ret (.d (.int .i64 r0)), stk) : Rk'))) out) {out} (hp : b_cascaderef02_four_5 ⟨xar, xcmp, xwrap, xseq, xslt, xenc, pquo, pshf, pslen, psidx, pssub, pscat, psit, pslist, pofBytes, @plen, @pidx, @psub, @papp, @pset, @pmake, @ploop⟩  l_6 v0 v1 v5 v6 v7 v8 = some out) : xat 59 true 5 [.blk 1, .sub ⟨8, [0, 1, 5, 6], []⟩, .lp ⟨2, [0, 1, 5, 6], []⟩, .blk 0, .sub ⟨9, [5], []⟩] ⟨[(0, (.d (.str v0))), (1, (.d (.int .i64 v1))), (5, (.d (.int .i64 v5))), (6, (.d (.int .i64 v6))), (7, (.d (.int .i64 v7))), (8, (.d (.int .i64 v8)))], ⟨m, []⟩ :: stk⟩ = (Sum.elim (fun (v0, v1, v5, v6) => xat 59 true 2 [.lp ⟨2, [0, 1, 5, 6], []⟩, .blk 0, .sub ⟨9, [5], []⟩] ⟨[(0, (.d (.str v0))), (1, (.d (.int .i64 v1))), (5, (.d (.int .i64 v5))), (6, (.d (.int .i64 v6)))], ⟨m, []⟩ :: stk⟩) (fun r0 => (some (.ret (.d (.int .i64 r0)), stk) : Rk'))) out := by
  simp only [b_cascaderef02_four_5] at hp
  rw [h.at_, hT]
  cbv
  cases c13 : xcmp .geq v7 65 with
  | false =>
    simp only [c13] at hp ⊢
    cbv
    first | exact h_l_6 hp | (have q := h_l_6 hp; simp only [h.map_cons, h.map_nil, h.len_nil, he_e_int32, he_e_uint8] at q; first | exact q | (cbv; exact q))
  | true =>
    simp only [c13] at hp ⊢
    cbv
    cases c14 : xcmp .leq v7 70 with
    | false =>
      simp only [c14] at hp ⊢
      cbv
      first | exact h_l_6 hp | (have q := h_l_6 hp; simp only [h.map_cons, h.map_nil, h.len_nil, he_e_int32, he_e_uint8] at q; first | exact q | (cbv; exact q))
    | true =>
      simp only [c14] at hp ⊢
      cbv
      first | exact h_l_6 hp | (have q := h_l_6 hp; simp only [h.map_cons, h.map_nil, h.len_nil, he_e_int32, he_e_uint8] at q; first | exact q | (cbv; exact q))
def b_cascaderef02_four_6 (P : Prims)   (v0 : Str) (v1 : Int) (v5 : Int) (v6 : Int) (v8 : Int) : Option ((Str × Int × Int × Int) ⊕ (Int)) :=
  match P.cmp .lss v8 0 with
  | false =>
    some (.inl (v0, v1, P.ar .add .i64 (P.ar .mul .i64 v5 16) v8, P.ar .add .i64 v6 1))
  | true =>
    some (.inr (-1))
theorem o_cascaderef02_four_6   (stk : Stk) (m : Nat)  (v0 : Str) (v1 : Int) (v5 : Int) (v6 : Int) (v8 : Int)  {out} (hp : b_cascaderef02_four_6 ⟨xar, xcmp, xwrap, xseq, xslt, xenc, pquo, pshf, pslen, psidx, pssub, pscat, psit, pslist, pofBytes, @plen, @pidx, @psub, @papp, @pset, @pmake, @ploop⟩   v0 v1 v5 v6 v8 = some out) : xat 59 true 6 [.blk 1, .sub ⟨8, [0, 1, 5, 6], []⟩, .lp ⟨2, [0, 1, 5, 6], []⟩, .blk 0, .sub ⟨9, [5], []⟩] ⟨[(0, (.d (.str v0))), (1, (.d (.int .i64 v1))), (5, (.d (.int .i64 v5))), (6, (.d (.int .i64 v6))), (8, (.d (.int .i64 v8)))], ⟨m, []⟩ :: stk⟩ = (Sum.elim (fun (v0, v1, v5, v6) => xat 59 true 2 [.lp ⟨2, [0, 1, 5, 6], []⟩, .blk 0, .sub ⟨9, [5], []⟩] ⟨[(0, (.d (.str v0))), (1, (.d (.int .i64 v1))), (5, (.d (.int .i64 v5))), (6, (.d (.int .i64 v6)))], ⟨m, []⟩ :: stk⟩) (fun r0 => (some (.ret (.d (.int .i64 r0)), stk) : Rk'))) out := by
  simp only [b_cascaderef02_four_6] at hp
  rw [h.at_, hT]
  cbv
  cases c15 : xcmp .lss v8 0 with
  | false =>
    simp only [c15] at hp ⊢
    cbv
    rw [h.at_, hT]
    cbv
    rw [h.at_, hT]
    cbv
    cases hp
    first | rfl | (cbv; done) | (simp only [h.nadd0, h.nle_refl, h.cut_all, h.cut_nil, h.map_cons, h.map_nil, h.len_nil, he_e_int32, he_e_uint8, if_true]; done) | (simp only [h.nadd0, h.nle_refl, h.cut_all, h.cut_nil, h.map_cons, h.map_nil, h.len_nil, he_e_int32, he_e_uint8, if_true]; first | rfl | (cbv; done) | (cbv; simp only [h.map_cons, h.map_nil, h.len_nil, he_e_int32, he_e_uint8]; done))
  | true =>
    simp only [c15] at hp ⊢
    cbv
    cases hp
    first | rfl | (cbv; done) | (simp only [h.nadd0, h.nle_refl, h.cut_all, h.cut_nil, h.map_cons, h.map_nil, h.len_nil, he_e_int32, he_e_uint8, if_true]; done) | (simp only [h.nadd0, h.nle_refl, h.cut_all, h.cut_nil, h.map_cons, h.map_nil, h.len_nil, he_e_int32, he_e_uint8, if_true]; first | rfl | (cbv; done) | (cbv; simp only [h.map_cons, h.map_nil, h.len_nil, he_e_int32, he_e_uint8]; done))
def b_cascaderef02_sign_0 (P : Prims) (c_cascaderef02_four : Str → Int → Option (Int)) (l_2 : Str → Int → Int → Str → Str → Int → Option (Int × Int)) (v0 : Str) (v1 : Int) : Option (Int × Int) :=
  match P.cmp .geq v1 (P.ar .sub .i64 (P.slen v0) 1) with
  | false =>
    match P.sidx v0 (P.ar .add .i64 v1 1) with
    | none => none
    | some b2 =>
      l_2 v0 v1 b2 [34, 92, 47, 98, 102, 110, 114, 116] [34, 92, 47, 8, 12, 10, 13, 9] 0
  | true =>
    some (0, 0)
theorem o_cascaderef02_sign_0 (c_cascaderef02_four : Str → Int → Option (Int)) (h_cascaderef02_four : ∀ {a0 : Str} {a1 : Int} {r0 : Int}, c_cascaderef02_four a0 a1 = some r0 → ∀ stk, xpcall 59 [(.d (.str a0)), (.d (.int .i64 a1))] stk = some (.d (.int .i64 r0))) (stk : Stk) (m : Nat) (l_2 : Str → Int → Int → Str → Str → Int → Option (Int × Int)) (v0 : Str) (v1 : Int) (h_l_2 : ∀ {v0 : Str} {v1 : Int} {v6 : Int} {v7 : Str} {v8 : Str} {v9 : Int} {out}, l_2 v0 v1 v6 v7 v8 v9 = some out → xat 51 true 2 [.lp ⟨2, [0, 1, 6, 7, 8, 9], []⟩, .blk 0, .sub ⟨5, [0, 1, 6], []⟩] ⟨[(0, (.d (.str v0))), (1, (.d (.int .i64 v1))), (6, (.d (.int .u8 v6))), (7, (.d (.str v7))), (8, (.d (.str v8))), (9, (.d (.int .i64 v9)))], ⟨m, []⟩ :: stk⟩ = (fun (r0, r1) => (some (.ret (.d (.tup [(.int .i32 r0), (.int .i64 r1)])), stk) : Rk')) out) {out} (hp : b_cascaderef02_sign_0 ⟨xar, xcmp, xwrap, xseq, xslt, xenc, pquo, pshf, pslen, psidx, pssub, pscat, psit, pslist, pofBytes, @plen, @pidx, @psub, @papp, @pset, @pmake, @ploop⟩ c_cascaderef02_four l_2 v0 v1 = some out) : xat 51 true 0 [] ⟨[(0, (.d (.str v0))), (1, (.d (.int .i64 v1)))], ⟨m, []⟩ :: stk⟩ = (fun (r0, r1) => (some (.ret (.d (.tup [(.int .i32 r0), (.int .i64 r1)])), stk) : Rk')) out := by
  simp only [b_cascaderef02_sign_0] at hp
  rw [h.at_, hT]
  cbv
  try simp only [h.slen]
  cases c1 : xcmp .geq v1 (xar .sub .i64 (pslen v0) 1) with
  | false =>
    simp only [c1] at hp ⊢
    cbv
    rw [h.at_, hT]
    cbv
    cases c3 : psidx v0 (xar .add .i64 v1 1) with
    | none => simp only [c3] at hp; cases hp
    | some b2 =>
      simp only [c3] at hp
      obtain ⟨w, q1, q2, q3⟩ := h.sidx c3
      simp only [q1, q2, q3, Bool.false_eq_true, if_false]
      cbv
      first | exact h_l_2 hp | (have q := h_l_2 hp; simp only [h.map_cons, h.map_nil, h.len_nil, he_e_int32, he_e_uint8] at q; first | exact q | (cbv; exact q))
  | true =>
    simp only [c1] at hp ⊢
    cbv
    cases hp
    first | rfl | (cbv; done) | (simp only [h.nadd0, h.nle_refl, h.cut_all, h.cut_nil, h.map_cons, h.map_nil, h.len_nil, he_e_int32, he_e_uint8, if_true]; done) | (simp only [h.nadd0, h.nle_refl, h.cut_all, h.cut_nil, h.map_cons, h.map_nil, h.len_nil, he_e_int32, he_e_uint8, if_true]; first | rfl | (cbv; done) | (cbv; simp only [h.map_cons, h.map_nil, h.len_nil, he_e_int32, he_e_uint8]; done))
def b_cascaderef02_sign_2 (P : Prims) (c_cascaderef02_four : Str → Int → Option (Int))  (v0 : Str) (v1 : Int) (v6 : Int) (v7 : Str) (v8 : Str) (v9 : Int) : Option ((Str × Int × Int × Str × Str × Int) ⊕ (Int × Int)) :=
  match P.cmp .lss v9 (P.slen v7) with
  | false =>
    match P.cmp .neq v6 117 with
    | false =>
      match c_cascaderef02_four v0 (P.ar .add .i64 v1 2) with
      | none => none
      | some r13 =>
        match P.cmp .lss r13 0 with
        | false =>
          match P.cmp .lss r13 55296 with
          | false =>
            match P.cmp .gtr r13 57343 with
            | false =>
              match P.cmp .gtr r13 56319 with
              | false =>
                match P.cmp .geq v1 (P.ar .sub .i64 (P.slen v0) 7) with
                | false =>
                  match P.sidx v0 (P.ar .add .i64 v1 6) with
                  | none => none
                  | some b20 =>
                    match P.cmp .neq b20 92 with
                    | false =>
                      match P.sidx v0 (P.ar .add .i64 v1 7) with
                      | none => none
                      | some b23 =>
                        match P.cmp .neq b23 117 with
                        | false =>
                          match c_cascaderef02_four v0 (P.ar .add .i64 v1 8) with
                          | none => none
                          | some r26 =>
                            match P.cmp .lss r26 56320 with
                            | false =>
                              match P.cmp .gtr r26 57343 with
                              | false =>
                                some (.inr (P.wrap .i32 (P.ar .sub .i64 (P.ar .add .i64 (P.ar .add .i64 65536 (P.ar .mul .i64 (P.ar .sub .i64 r13 55296) 1024)) r26) 56320), 12))
                              | true =>
                                some (.inr (0, 0))
                            | true =>
                              some (.inr (0, 0))
                        | true =>
                          some (.inr (0, 0))
                    | true =>
                      some (.inr (0, 0))
                | true =>
                  some (.inr (0, 0))
              | true =>
                some (.inr (0, 0))
            | true =>
              some (.inr (P.wrap .i32 r13, 6))
          | true =>
            some (.inr (P.wrap .i32 r13, 6))
        | true =>
          some (.inr (0, 0))
    | true =>
      some (.inr (0, 0))
  | true =>
    match P.sidx v7 v9 with
    | none => none
    | some b7 =>
      match P.cmp .eql b7 v6 with
      | false =>
        some (.inl (v0, v1, v6, v7, v8, P.ar .add .i64 v9 1))
      | true =>
        match P.sidx v8 v9 with
        | none => none
        | some b10 =>
          some (.inr (P.wrap .i32 b10, 2))
theorem o_cascaderef02_sign_2 (c_cascaderef02_four : Str → Int → Option (Int)) (h_cascaderef02_four : ∀ {a0 : Str} {a1 : Int} {r0 : Int}, c_cascaderef02_four a0 a1 = some r0 → ∀ stk, xpcall 59 [(.d (.str a0)), (.d (.int .i64 a1))] stk = some (.d (.int .i64 r0))) (stk : Stk) (m : Nat)  (v0 : Str) (v1 : Int) (v6 : Int) (v7 : Str) (v8 : Str) (v9 : Int)  {out} (hp : b_cascaderef02_sign_2 ⟨xar, xcmp, xwrap, xseq, xslt, xenc, pquo, pshf, pslen, psidx, pssub, pscat, psit, pslist, pofBytes, @plen, @pidx, @psub, @papp, @pset, @pmake, @ploop⟩ c_cascaderef02_four  v0 v1 v6 v7 v8 v9 = some out) : xat 51 true 2 [.lp ⟨2, [0, 1, 6, 7, 8, 9], []⟩, .blk 0, .sub ⟨5, [0, 1, 6], []⟩] ⟨[(0, (.d (.str v0))), (1, (.d (.int .i64 v1))), (6, (.d (.int .u8 v6))), (7, (.d (.str v7))), (8, (.d (.str v8))), (9, (.d (.int .i64 v9)))], ⟨m, []⟩ :: stk⟩ = (Sum.elim (fun (v0, v1, v6, v7, v8, v9) => xat 51 true 2 [.lp ⟨2, [0, 1, 6, 7, 8, 9], []⟩, .blk 0, .sub ⟨5, [0, 1, 6], []⟩] ⟨[(0, (.d (.str v0))), (1, (.d (.int .i64 v1))), (6, (.d (.int .u8 v6))), (7, (.d (.str v7))), (8, (.d (.str v8))), (9, (.d (.int .i64 v9)))], ⟨m, []⟩ :: stk⟩) (fun (r0, r1) => (some (.ret (.d (.tup [(.int .i32 r0), (.int .i64 r1)])), stk) : Rk'))) out := by
  simp only [b_cascaderef02_sign_2] at hp
  rw [h.at_, hT]
  cbv
  try simp only [h.slen]
  cases c6 : xcmp .lss v9 (pslen v7) with
  | false =>
    simp only [c6] at hp ⊢
    cbv
    rw [h.at_, hT]
    cbv
    cases c12 : xcmp .neq v6 117 with
    | false =>
      simp only [c12] at hp ⊢
      cbv
      rw [h.at_, hT]
      cbv
      cases c14 : c_cascaderef02_four v0 (xar .add .i64 v1 2) with
      | none => simp only [c14] at hp; cases hp
      | some r13 =>
        simp only [c14] at hp
        have qc := h_cascaderef02_four c14 (⟨m, []⟩ :: stk)
        simp only [qc]
        cbv
        cases c15 : xcmp .lss r13 0 with
        | false =>
          simp only [c15] at hp ⊢
          cbv
          rw [h.at_, hT]
          cbv
          cases c16 : xcmp .lss r13 55296 with
          | false =>
            simp only [c16] at hp ⊢
            cbv
            cases c17 : xcmp .gtr r13 57343 with
            | false =>
              simp only [c17] at hp ⊢
              cbv
              rw [h.at_, hT]
              cbv
              cases c18 : xcmp .gtr r13 56319 with
              | false =>
                simp only [c18] at hp ⊢
                cbv
                try simp only [h.slen]
                cases c19 : xcmp .geq v1 (xar .sub .i64 (pslen v0) 7) with
                | false =>
                  simp only [c19] at hp ⊢
                  cbv
                  cases c21 : psidx v0 (xar .add .i64 v1 6) with
                  | none => simp only [c21] at hp; cases hp
                  | some b20 =>
                    simp only [c21] at hp
                    obtain ⟨w, q1, q2, q3⟩ := h.sidx c21
                    simp only [q1, q2, q3, Bool.false_eq_true, if_false]
                    cbv
                    cases c22 : xcmp .neq b20 92 with
                    | false =>
                      simp only [c22] at hp ⊢
                      cbv
                      cases c24 : psidx v0 (xar .add .i64 v1 7) with
                      | none => simp only [c24] at hp; cases hp
                      | some b23 =>
                        simp only [c24] at hp
                        obtain ⟨w, q1, q2, q3⟩ := h.sidx c24
                        simp only [q1, q2, q3, Bool.false_eq_true, if_false]
                        cbv
                        cases c25 : xcmp .neq b23 117 with
                        | false =>
                          simp only [c25] at hp ⊢
                          cbv
                          rw [h.at_, hT]
                          cbv
                          cases c27 : c_cascaderef02_four v0 (xar .add .i64 v1 8) with
                          | none => simp only [c27] at hp; cases hp
                          | some r26 =>
                            simp only [c27] at hp
                            have qc := h_cascaderef02_four c27 (⟨m, []⟩ :: stk)
                            simp only [qc]
                            cbv
                            cases c28 : xcmp .lss r26 56320 with
                            | false =>
                              simp only [c28] at hp ⊢
                              cbv
                              cases c29 : xcmp .gtr r26 57343 with
                              | false =>
                                simp only [c29] at hp ⊢
                                cbv
                                rw [h.at_, hT]
                                cbv
                                cases hp
                                first | rfl | (cbv; done) | (simp only [h.nadd0, h.nle_refl, h.cut_all, h.cut_nil, h.map_cons, h.map_nil, h.len_nil, he_e_int32, he_e_uint8, if_true]; done) | (simp only [h.nadd0, h.nle_refl, h.cut_all, h.cut_nil, h.map_cons, h.map_nil, h.len_nil, he_e_int32, he_e_uint8, if_true]; first | rfl | (cbv; done) | (cbv; simp only [h.map_cons, h.map_nil, h.len_nil, he_e_int32, he_e_uint8]; done))
                              | true =>
                                simp only [c29] at hp ⊢
                                cbv
                                cases hp
                                first | rfl | (cbv; done) | (simp only [h.nadd0, h.nle_refl, h.cut_all, h.cut_nil, h.map_cons, h.map_nil, h.len_nil, he_e_int32, he_e_uint8, if_true]; done) | (simp only [h.nadd0, h.nle_refl, h.cut_all, h.cut_nil, h.map_cons, h.map_nil, h.len_nil, he_e_int32, he_e_uint8, if_true]; first | rfl | (cbv; done) | (cbv; simp only [h.map_cons, h.map_nil, h.len_nil, he_e_int32, he_e_uint8]; done))
                            | true =>
                              simp only [c28] at hp ⊢
                              cbv
                              cases hp
                              first | rfl | (cbv; done) | (simp only [h.nadd0, h.nle_refl, h.cut_all, h.cut_nil, h.map_cons, h.map_nil, h.len_nil, he_e_int32, he_e_uint8, if_true]; done) | (simp only [h.nadd0, h.nle_refl, h.cut_all, h.cut_nil, h.map_cons, h.map_nil, h.len_nil, he_e_int32, he_e_uint8, if_true]; first | rfl | (cbv; done) | (cbv; simp only [h.map_cons, h.map_nil, h.len_nil, he_e_int32, he_e_uint8]; done))
                        | true =>
                          simp only [c25] at hp ⊢
                          cbv
                          cases hp
                          first | rfl | (cbv; done) | (simp only [h.nadd0, h.nle_refl, h.cut_all, h.cut_nil, h.map_cons, h.map_nil, h.len_nil, he_e_int32, he_e_uint8, if_true]; done) | (simp only [h.nadd0, h.nle_refl, h.cut_all, h.cut_nil, h.map_cons, h.map_nil, h.len_nil, he_e_int32, he_e_uint8, if_true]; first | rfl | (cbv; done) | (cbv; simp only [h.map_cons, h.map_nil, h.len_nil, he_e_int32, he_e_uint8]; done))
                    | true =>
                      simp only [c22] at hp ⊢
                      cbv
                      cases hp
                      first | rfl | (cbv; done) | (simp only [h.nadd0, h.nle_refl, h.cut_all, h.cut_nil, h.map_cons, h.map_nil, h.len_nil, he_e_int32, he_e_uint8, if_true]; done) | (simp only [h.nadd0, h.nle_refl, h.cut_all, h.cut_nil, h.map_cons, h.map_nil, h.len_nil, he_e_int32, he_e_uint8, if_true]; first | rfl | (cbv; done) | (cbv; simp only [h.map_cons, h.map_nil, h.len_nil, he_e_int32, he_e_uint8]; done))
                | true =>
                  simp only [c19] at hp ⊢
                  cbv
                  cases hp
                  first | rfl | (cbv; done) | (simp only [h.nadd0, h.nle_refl, h.cut_all, h.cut_nil, h.map_cons, h.map_nil, h.len_nil, he_e_int32, he_e_uint8, if_true]; done) | (simp only [h.nadd0, h.nle_refl, h.cut_all, h.cut_nil, h.map_cons, h.map_nil, h.len_nil, he_e_int32, he_e_uint8, if_true]; first | rfl | (cbv; done) | (cbv; simp only [h.map_cons, h.map_nil, h.len_nil, he_e_int32, he_e_uint8]; done))
              | true =>
                simp only [c18] at hp ⊢
                cbv
                cases hp
                first | rfl | (cbv; done) | (simp only [h.nadd0, h.nle_refl, h.cut_all, h.cut_nil, h.map_cons, h.map_nil, h.len_nil, he_e_int32, he_e_uint8, if_true]; done) | (simp only [h.nadd0, h.nle_refl, h.cut_all, h.cut_nil, h.map_cons, h.map_nil, h.len_nil, he_e_int32, he_e_uint8, if_true]; first | rfl | (cbv; done) | (cbv; simp only [h.map_cons, h.map_nil, h.len_nil, he_e_int32, he_e_uint8]; done))
            | true =>
              simp only [c17] at hp ⊢
              cbv
              cases hp
              first | rfl | (cbv; done) | (simp only [h.nadd0, h.nle_refl, h.cut_all, h.cut_nil, h.map_cons, h.map_nil, h.len_nil, he_e_int32, he_e_uint8, if_true]; done) | (simp only [h.nadd0, h.nle_refl, h.cut_all, h.cut_nil, h.map_cons, h.map_nil, h.len_nil, he_e_int32, he_e_uint8, if_true]; first | rfl | (cbv; done) | (cbv; simp only [h.map_cons, h.map_nil, h.len_nil, he_e_int32, he_e_uint8]; done))
          | true =>
            simp only [c16] at hp ⊢
            cbv
            cases hp
            first | rfl | (cbv; done) | (simp only [h.nadd0, h.nle_refl, h.cut_all, h.cut_nil, h.map_cons, h.map_nil, h.len_nil, he_e_int32, he_e_uint8, if_true]; done) | (simp only [h.nadd0, h.nle_refl, h.cut_all, h.cut_nil, h.map_cons, h.map_nil, h.len_nil, he_e_int32, he_e_uint8, if_true]; first | rfl | (cbv; done) | (cbv; simp only [h.map_cons, h.map_nil, h.len_nil, he_e_int32, he_e_uint8]; done))
        | true =>
          simp only [c15] at hp ⊢
          cbv
          cases hp
          first | rfl | (cbv; done) | (simp only [h.nadd0, h.nle_refl, h.cut_all, h.cut_nil, h.map_cons, h.map_nil, h.len_nil, he_e_int32, he_e_uint8, if_true]; done) | (simp only [h.nadd0, h.nle_refl, h.cut_all, h.cut_nil, h.map_cons, h.map_nil, h.len_nil, he_e_int32, he_e_uint8, if_true]; first | rfl | (cbv; done) | (cbv; simp only [h.map_cons, h.map_nil, h.len_nil, he_e_int32, he_e_uint8]; done))
    | true =>
      simp only [c12] at hp ⊢
      cbv
      cases hp
      first | rfl | (cbv; done) | (simp only [h.nadd0, h.nle_refl, h.cut_all, h.cut_nil, h.map_cons, h.map_nil, h.len_nil, he_e_int32, he_e_uint8, if_true]; done) | (simp only [h.nadd0, h.nle_refl, h.cut_all, h.cut_nil, h.map_cons, h.map_nil, h.len_nil, he_e_int32, he_e_uint8, if_true]; first | rfl | (cbv; done) | (cbv; simp only [h.map_cons, h.map_nil, h.len_nil, he_e_int32, he_e_uint8]; done))
  | true =>
    simp only [c6] at hp ⊢
    cbv
    rw [h.at_, hT]
    cbv
    cases c8 : psidx v7 v9 with
    | none => simp only [c8] at hp; cases hp
    | some b7 =>
      simp only [c8] at hp
      obtain ⟨w, q1, q2, q3⟩ := h.sidx c8
      simp only [q1, q2, q3, Bool.false_eq_true, if_false]
      cbv
      cases c9 : xcmp .eql b7 v6 with
      | false =>
        simp only [c9] at hp ⊢
        cbv
        rw [h.at_, hT]
        cbv
        cases hp
        first | rfl | (cbv; done) | (simp only [h.nadd0, h.nle_refl, h.cut_all, h.cut_nil, h.map_cons, h.map_nil, h.len_nil, he_e_int32, he_e_uint8, if_true]; done) | (simp only [h.nadd0, h.nle_refl, h.cut_all, h.cut_nil, h.map_cons, h.map_nil, h.len_nil, he_e_int32, he_e_uint8, if_true]; first | rfl | (cbv; done) | (cbv; simp only [h.map_cons, h.map_nil, h.len_nil, he_e_int32, he_e_uint8]; done))
      | true =>
        simp only [c9] at hp ⊢
        cbv
        cases c11 : psidx v8 v9 with
        | none => simp only [c11] at hp; cases hp
        | some b10 =>
          simp only [c11] at hp
          obtain ⟨w, q1, q2, q3⟩ := h.sidx c11
          simp only [q1, q2, q3, Bool.false_eq_true, if_false]
          cbv
          cases hp
          first | rfl | (cbv; done) | (simp only [h.nadd0, h.nle_refl, h.cut_all, h.cut_nil, h.map_cons, h.map_nil, h.len_nil, he_e_int32, he_e_uint8, if_true]; done) | (simp only [h.nadd0, h.nle_refl, h.cut_all, h.cut_nil, h.map_cons, h.map_nil, h.len_nil, he_e_int32, he_e_uint8, if_true]; first | rfl | (cbv; done) | (cbv; simp only [h.map_cons, h.map_nil, h.len_nil, he_e_int32, he_e_uint8]; done))
def b_cascaderef02_Unquote_0 (P : Prims) (c_cascaderef01_Size : Str → Int → Option (Int × Int)) (c_cascaderef01_Rune : Int → Option (Str)) (c_cascaderef02_sign : Str → Int → Option (Int × Int)) (l_2 : Str → Str → Int → Option (Str × Int × Int)) (v0 : Str) : Option (Str × Int × Int) :=
  match P.cmp .eql (P.slen v0) 0 with
  | false =>
    match P.sidx v0 0 with
    | none => none
    | some b2 =>
      match P.cmp .neq b2 34 with
      | false =>
        l_2 v0 [] 1
      | true =>
        some ([], 0, 4)
  | true =>
    some ([], 0, 4)
theorem o_cascaderef02_Unquote_0 (c_cascaderef01_Size : Str → Int → Option (Int × Int)) (c_cascaderef01_Rune : Int → Option (Str)) (c_cascaderef02_sign : Str → Int → Option (Int × Int)) (h_cascaderef01_Size : ∀ {a0 : Str} {a1 : Int} {r0 : Int} {r1 : Int}, c_cascaderef01_Size a0 a1 = some (r0, r1) → ∀ stk, xpcall 37 [(.d (.str a0)), (.d (.int .i64 a1))] stk = some (.d (.tup [(.int .i64 r0), (.int .i32 r1)]))) (h_cascaderef01_Rune : ∀ {a0 : Int} {r0 : Str}, c_cascaderef01_Rune a0 = some r0 → ∀ stk, xpcall 44 [(.d (.int .i32 a0))] stk = some (.d (.str r0))) (h_cascaderef02_sign : ∀ {a0 : Str} {a1 : Int} {r0 : Int} {r1 : Int}, c_cascaderef02_sign a0 a1 = some (r0, r1) → ∀ stk, xpcall 51 [(.d (.str a0)), (.d (.int .i64 a1))] stk = some (.d (.tup [(.int .i32 r0), (.int .i64 r1)]))) (stk : Stk) (m : Nat) (l_2 : Str → Str → Int → Option (Str × Int × Int)) (v0 : Str) (h_l_2 : ∀ {v0 : Str} {v5 : Str} {v6 : Int} {out}, l_2 v0 v5 v6 = some out → xat 33 true 2 [.lp ⟨2, [0, 5, 6], []⟩, .blk 0, .sub ⟨9, [0], []⟩] ⟨[(0, (.d (.str v0))), (5, (.d (.str v5))), (6, (.d (.int .i64 v6)))], ⟨m, []⟩ :: stk⟩ = (fun (r0, r1, r2) => (some (.ret (.d (.tup [(.str r0), (.int .i64 r1), (.int .i64 r2)])), stk) : Rk')) out) {out} (hp : b_cascaderef02_Unquote_0 ⟨xar, xcmp, xwrap, xseq, xslt, xenc, pquo, pshf, pslen, psidx, pssub, pscat, psit, pslist, pofBytes, @plen, @pidx, @psub, @papp, @pset, @pmake, @ploop⟩ c_cascaderef01_Size c_cascaderef01_Rune c_cascaderef02_sign l_2 v0 = some out) : xat 33 true 0 [] ⟨[(0, (.d (.str v0)))], ⟨m, []⟩ :: stk⟩ = (fun (r0, r1, r2) => (some (.ret (.d (.tup [(.str r0), (.int .i64 r1), (.int .i64 r2)])), stk) : Rk')) out := by
  simp only [b_cascaderef02_Unquote_0] at hp
  rw [h.at_, hT]
  cbv
  try simp only [h.slen]
  cases c1 : xcmp .eql (pslen v0) 0 with
  | false =>
    simp only [c1] at hp ⊢
    cbv
    cases c3 : psidx v0 0 with
    | none => simp only [c3] at hp; cases hp
    | some b2 =>
      simp only [c3] at hp
      obtain ⟨w, q1, q2, q3⟩ := h.sidx c3
      simp only [q1, q2, q3, Bool.false_eq_true, if_false]
      cbv
      cases c4 : xcmp .neq b2 34 with
      | false =>
        simp only [c4] at hp ⊢
        cbv
        rw [h.at_, hT]
        cbv
        first | exact h_l_2 hp | (have q := h_l_2 hp; simp only [h.map_cons, h.map_nil, h.len_nil, he_e_int32, he_e_uint8] at q; first | exact q | (cbv; exact q))
      | true =>
        simp only [c4] at hp ⊢
        cbv
        cases hp
        first | rfl | (cbv; done) | (simp only [h.nadd0, h.nle_refl, h.cut_all, h.cut_nil, h.map_cons, h.map_nil, h.len_nil, he_e_int32, he_e_uint8, if_true]; done) | (simp only [h.nadd0, h.nle_refl, h.cut_all, h.cut_nil, h.map_cons, h.map_nil, h.len_nil, he_e_int32, he_e_uint8, if_true]; first | rfl | (cbv; done) | (cbv; simp only [h.map_cons, h.map_nil, h.len_nil, he_e_int32, he_e_uint8]; done))
  | true =>
    simp only [c1] at hp ⊢
    cbv
    cases hp
    first | rfl | (cbv; done) | (simp only [h.nadd0, h.nle_refl, h.cut_all, h.cut_nil, h.map_cons, h.map_nil, h.len_nil, he_e_int32, he_e_uint8, if_true]; done) | (simp only [h.nadd0, h.nle_refl, h.cut_all, h.cut_nil, h.map_cons, h.map_nil, h.len_nil, he_e_int32, he_e_uint8, if_true]; first | rfl | (cbv; done) | (cbv; simp only [h.map_cons, h.map_nil, h.len_nil, he_e_int32, he_e_uint8]; done))
def b_cascaderef02_Unquote_2 (P : Prims) (c_cascaderef01_Size : Str → Int → Option (Int × Int)) (c_cascaderef01_Rune : Int → Option (Str)) (c_cascaderef02_sign : Str → Int → Option (Int × Int))  (v0 : Str) (v5 : Str) (v6 : Int) : Option ((Str × Str × Int) ⊕ (Str × Int × Int)) :=
  match P.cmp .lss v6 (P.slen v0) with
  | false =>
    some (.inr ([], P.slen v0, 4))
  | true =>
    match P.sidx v0 v6 with
    | none => none
    | some b6 =>
      match P.cmp .eql b6 34 with
      | false =>
        match P.cmp .lss b6 32 with
        | false =>
          match P.cmp .eql b6 92 with
          | false =>
            match c_cascaderef01_Size v0 v6 with
            | none => none
            | some (r19_0, r19_1) =>
              match P.cmp .eql r19_0 0 with
              | false =>
                match P.ssub v0 (some v6) (some (P.ar .add .i64 v6 r19_0)) with
                | none => none
                | some s22 =>
                  match P.scat v5 s22 with
                  | none => none
                  | some s24 =>
                    some (.inl (v0, s24, P.ar .add .i64 v6 r19_0))
              | true =>
                some (.inr ([], v6, 2))
          | true =>
            match c_cascaderef02_sign v0 v6 with
            | none => none
            | some (r11_0, r11_1) =>
              match P.cmp .eql r11_1 0 with
              | false =>
                match c_cascaderef01_Rune r11_0 with
                | none => none
                | some r14 =>
                  match P.scat v5 r14 with
                  | none => none
                  | some s16 =>
                    some (.inl (v0, s16, P.ar .add .i64 v6 r11_1))
              | true =>
                some (.inr ([], v6, 4))
        | true =>
          some (.inr ([], v6, 4))
      | true =>
        some (.inr (v5, P.ar .add .i64 v6 1, 0))
theorem o_cascaderef02_Unquote_2 (c_cascaderef01_Size : Str → Int → Option (Int × Int)) (c_cascaderef01_Rune : Int → Option (Str)) (c_cascaderef02_sign : Str → Int → Option (Int × Int)) (h_cascaderef01_Size : ∀ {a0 : Str} {a1 : Int} {r0 : Int} {r1 : Int}, c_cascaderef01_Size a0 a1 = some (r0, r1) → ∀ stk, xpcall 37 [(.d (.str a0)), (.d (.int .i64 a1))] stk = some (.d (.tup [(.int .i64 r0), (.int .i32 r1)]))) (h_cascaderef01_Rune : ∀ {a0 : Int} {r0 : Str}, c_cascaderef01_Rune a0 = some r0 → ∀ stk, xpcall 44 [(.d (.int .i32 a0))] stk = some (.d (.str r0))) (h_cascaderef02_sign : ∀ {a0 : Str} {a1 : Int} {r0 : Int} {r1 : Int}, c_cascaderef02_sign a0 a1 = some (r0, r1) → ∀ stk, xpcall 51 [(.d (.str a0)), (.d (.int .i64 a1))] stk = some (.d (.tup [(.int .i32 r0), (.int .i64 r1)]))) (stk : Stk) (m : Nat)  (v0 : Str) (v5 : Str) (v6 : Int)  {out} (hp : b_cascaderef02_Unquote_2 ⟨xar, xcmp, xwrap, xseq, xslt, xenc, pquo, pshf, pslen, psidx, pssub, pscat, psit, pslist, pofBytes, @plen, @pidx, @psub, @papp, @pset, @pmake, @ploop⟩ c_cascaderef01_Size c_cascaderef01_Rune c_cascaderef02_sign  v0 v5 v6 = some out) : xat 33 true 2 [.lp ⟨2, [0, 5, 6], []⟩, .blk 0, .sub ⟨9, [0], []⟩] ⟨[(0, (.d (.str v0))), (5, (.d (.str v5))), (6, (.d (.int .i64 v6)))], ⟨m, []⟩ :: stk⟩ = (Sum.elim (fun (v0, v5, v6) => xat 33 true 2 [.lp ⟨2, [0, 5, 6], []⟩, .blk 0, .sub ⟨9, [0], []⟩] ⟨[(0, (.d (.str v0))), (5, (.d (.str v5))), (6, (.d (.int .i64 v6)))], ⟨m, []⟩ :: stk⟩) (fun (r0, r1, r2) => (some (.ret (.d (.tup [(.str r0), (.int .i64 r1), (.int .i64 r2)])), stk) : Rk'))) out := by
  simp only [b_cascaderef02_Unquote_2] at hp
  rw [h.at_, hT]
  cbv
  try simp only [h.slen]
  cases c5 : xcmp .lss v6 (pslen v0) with
  | false =>
    simp only [c5] at hp ⊢
    cbv
    rw [h.at_, hT]
    cbv
    try simp only [h.slen]
    cases hp
    first | rfl | (cbv; done) | (simp only [h.nadd0, h.nle_refl, h.cut_all, h.cut_nil, h.map_cons, h.map_nil, h.len_nil, he_e_int32, he_e_uint8, if_true]; done) | (simp only [h.nadd0, h.nle_refl, h.cut_all, h.cut_nil, h.map_cons, h.map_nil, h.len_nil, he_e_int32, he_e_uint8, if_true]; first | rfl | (cbv; done) | (cbv; simp only [h.map_cons, h.map_nil, h.len_nil, he_e_int32, he_e_uint8]; done))
  | true =>
    simp only [c5] at hp ⊢
    cbv
    rw [h.at_, hT]
    cbv
    cases c7 : psidx v0 v6 with
    | none => simp only [c7] at hp; cases hp
    | some b6 =>
      simp only [c7] at hp
      obtain ⟨w, q1, q2, q3⟩ := h.sidx c7
      simp only [q1, q2, q3, Bool.false_eq_true, if_false]
      cbv
      cases c8 : xcmp .eql b6 34 with
      | false =>
        simp only [c8] at hp ⊢
        cbv
        rw [h.at_, hT]
        cbv
        obtain ⟨w, q1, q2, q3⟩ := h.sidx c7
        simp only [q1, q2, q3, Bool.false_eq_true, if_false]
        cbv
        cases c9 : xcmp .lss b6 32 with
        | false =>
          simp only [c9] at hp ⊢
          cbv
          rw [h.at_, hT]
          cbv
          obtain ⟨w, q1, q2, q3⟩ := h.sidx c7
          simp only [q1, q2, q3, Bool.false_eq_true, if_false]
          cbv
          cases c10 : xcmp .eql b6 92 with
          | false =>
            simp only [c10] at hp ⊢
            cbv
            rw [h.at_, hT]
            cbv
            cases c20 : c_cascaderef01_Size v0 v6 with
            | none => simp only [c20] at hp; cases hp
            | some y26 =>
              obtain ⟨r19_0, r19_1⟩ := y26
              simp only [c20] at hp
              have qc := h_cascaderef01_Size c20 (⟨m, []⟩ :: stk)
              simp only [qc]
              cbv
              cases c21 : xcmp .eql r19_0 0 with
              | false =>
                simp only [c21] at hp ⊢
                cbv
                rw [h.at_, hT]
                cbv
                cases c23 : pssub v0 (some v6) (some (xar .add .i64 v6 r19_0)) with
                | none => simp only [c23] at hp; cases hp
                | some s22 =>
                  simp only [c23] at hp
                  obtain ⟨q0, q1, q2, q3, q4⟩ := h.ssub2 c23
                  simp only [q0, q1, q2, q3, q4, Bool.false_eq_true, if_false, if_true]
                  cbv
                  try simp only [q0, q1, q2, q3, q4, if_true]
                  cbv
                  cases c25 : pscat v5 s22 with
                  | none => simp only [c25] at hp; cases hp
                  | some s24 =>
                    simp only [c25] at hp
                    obtain ⟨q1, q2⟩ := h.scat c25
                    simp only [q1, q2, if_true]
                    cbv
                    cases hp
                    first | rfl | (cbv; done) | (simp only [h.nadd0, h.nle_refl, h.cut_all, h.cut_nil, h.map_cons, h.map_nil, h.len_nil, he_e_int32, he_e_uint8, if_true]; done) | (simp only [h.nadd0, h.nle_refl, h.cut_all, h.cut_nil, h.map_cons, h.map_nil, h.len_nil, he_e_int32, he_e_uint8, if_true]; first | rfl | (cbv; done) | (cbv; simp only [h.map_cons, h.map_nil, h.len_nil, he_e_int32, he_e_uint8]; done))
              | true =>
                simp only [c21] at hp ⊢
                cbv
                cases hp
                first | rfl | (cbv; done) | (simp only [h.nadd0, h.nle_refl, h.cut_all, h.cut_nil, h.map_cons, h.map_nil, h.len_nil, he_e_int32, he_e_uint8, if_true]; done) | (simp only [h.nadd0, h.nle_refl, h.cut_all, h.cut_nil, h.map_cons, h.map_nil, h.len_nil, he_e_int32, he_e_uint8, if_true]; first | rfl | (cbv; done) | (cbv; simp only [h.map_cons, h.map_nil, h.len_nil, he_e_int32, he_e_uint8]; done))
          | true =>
            simp only [c10] at hp ⊢
            cbv
            cases c12 : c_cascaderef02_sign v0 v6 with
            | none => simp only [c12] at hp; cases hp
            | some y18 =>
              obtain ⟨r11_0, r11_1⟩ := y18
              simp only [c12] at hp
              have qc := h_cascaderef02_sign c12 (⟨m, []⟩ :: stk)
              simp only [qc]
              cbv
              cases c13 : xcmp .eql r11_1 0 with
              | false =>
                simp only [c13] at hp ⊢
                cbv
                rw [h.at_, hT]
                cbv
                cases c15 : c_cascaderef01_Rune r11_0 with
                | none => simp only [c15] at hp; cases hp
                | some r14 =>
                  simp only [c15] at hp
                  have qc := h_cascaderef01_Rune c15 (⟨m, []⟩ :: stk)
                  simp only [qc]
                  cbv
                  cases c17 : pscat v5 r14 with
                  | none => simp only [c17] at hp; cases hp
                  | some s16 =>
                    simp only [c17] at hp
                    obtain ⟨q1, q2⟩ := h.scat c17
                    simp only [q1, q2, if_true]
                    cbv
                    cases hp
                    first | rfl | (cbv; done) | (simp only [h.nadd0, h.nle_refl, h.cut_all, h.cut_nil, h.map_cons, h.map_nil, h.len_nil, he_e_int32, he_e_uint8, if_true]; done) | (simp only [h.nadd0, h.nle_refl, h.cut_all, h.cut_nil, h.map_cons, h.map_nil, h.len_nil, he_e_int32, he_e_uint8, if_true]; first | rfl | (cbv; done) | (cbv; simp only [h.map_cons, h.map_nil, h.len_nil, he_e_int32, he_e_uint8]; done))
              | true =>
                simp only [c13] at hp ⊢
                cbv
                cases hp
                first | rfl | (cbv; done) | (simp only [h.nadd0, h.nle_refl, h.cut_all, h.cut_nil, h.map_cons, h.map_nil, h.len_nil, he_e_int32, he_e_uint8, if_true]; done) | (simp only [h.nadd0, h.nle_refl, h.cut_all, h.cut_nil, h.map_cons, h.map_nil, h.len_nil, he_e_int32, he_e_uint8, if_true]; first | rfl | (cbv; done) | (cbv; simp only [h.map_cons, h.map_nil, h.len_nil, he_e_int32, he_e_uint8]; done))
        | true =>
          simp only [c9] at hp ⊢
          cbv
          cases hp
          first | rfl | (cbv; done) | (simp only [h.nadd0, h.nle_refl, h.cut_all, h.cut_nil, h.map_cons, h.map_nil, h.len_nil, he_e_int32, he_e_uint8, if_true]; done) | (simp only [h.nadd0, h.nle_refl, h.cut_all, h.cut_nil, h.map_cons, h.map_nil, h.len_nil, he_e_int32, he_e_uint8, if_true]; first | rfl | (cbv; done) | (cbv; simp only [h.map_cons, h.map_nil, h.len_nil, he_e_int32, he_e_uint8]; done))
      | true =>
        simp only [c8] at hp ⊢
        cbv
        cases hp
        first | rfl | (cbv; done) | (simp only [h.nadd0, h.nle_refl, h.cut_all, h.cut_nil, h.map_cons, h.map_nil, h.len_nil, he_e_int32, he_e_uint8, if_true]; done) | (simp only [h.nadd0, h.nle_refl, h.cut_all, h.cut_nil, h.map_cons, h.map_nil, h.len_nil, he_e_int32, he_e_uint8, if_true]; first | rfl | (cbv; done) | (cbv; simp only [h.map_cons, h.map_nil, h.len_nil, he_e_int32, he_e_uint8]; done))
def b_cascadelaw02_QuoteReads_0 (P : Prims) (c_cascadelaw02_awake : Option (Bool)) (c_quote_Unquote : Str → Option (Str × Int × Int)) (c_cascaderef02_Unquote : Str → Option (Str × Int × Int))  (v0 : Str) : Option (Bool) :=
  match c_cascadelaw02_awake with
  | none => none
  | some r1 =>
    match r1 with
    | false =>
      some r1
    | true =>
      match P.cmp .gtr (P.slen v0) 400 with
      | false =>
        match c_quote_Unquote v0 with
        | none => none
        | some (r5_0, r5_1, r5_2) =>
          match c_cascaderef02_Unquote v0 with
          | none => none
          | some (r7_0, r7_1, r7_2) =>
            match P.seq r5_0 r7_0 with
            | false =>
              some false
            | true =>
              match P.cmp .eql r5_1 r7_1 with
              | false =>
                some false
              | true =>
                some (P.cmp .eql r5_2 r7_2)
      | true =>
        some r1
theorem o_cascadelaw02_QuoteReads_0 (c_cascadelaw02_awake : Option (Bool)) (c_quote_Unquote : Str → Option (Str × Int × Int)) (c_cascaderef02_Unquote : Str → Option (Str × Int × Int)) (h_cascadelaw02_awake : ∀ {r0 : Bool}, c_cascadelaw02_awake  = some r0 → ∀ stk, xpcall 28 [] stk = some (.d (.bool r0))) (h_quote_Unquote : ∀ {a0 : Str} {r0 : Str} {r1 : Int} {r2 : Int}, c_quote_Unquote a0 = some (r0, r1, r2) → ∀ stk, xpcall 32 [(.d (.str a0))] stk = some (.d (.tup [(.str r0), (.int .i64 r1), (.int .i64 r2)]))) (h_cascaderef02_Unquote : ∀ {a0 : Str} {r0 : Str} {r1 : Int} {r2 : Int}, c_cascaderef02_Unquote a0 = some (r0, r1, r2) → ∀ stk, xpcall 33 [(.d (.str a0))] stk = some (.d (.tup [(.str r0), (.int .i64 r1), (.int .i64 r2)]))) (stk : Stk) (m : Nat)  (v0 : Str)  {out} (hp : b_cascadelaw02_QuoteReads_0 ⟨xar, xcmp, xwrap, xseq, xslt, xenc, pquo, pshf, pslen, psidx, pssub, pscat, psit, pslist, pofBytes, @plen, @pidx, @psub, @papp, @pset, @pmake, @ploop⟩ c_cascadelaw02_awake c_quote_Unquote c_cascaderef02_Unquote  v0 = some out) : xat 11 true 0 [] ⟨[(0, (.d (.str v0)))], ⟨m, []⟩ :: stk⟩ = (fun r0 => (some (.ret (.d (.bool r0)), stk) : Rk')) out := by
  simp only [b_cascadelaw02_QuoteReads_0] at hp
  rw [h.at_, hT]
  cbv
  cases c2 : c_cascadelaw02_awake with
  | none => simp only [c2] at hp; cases hp
  | some r1 =>
    simp only [c2] at hp
    have qc := h_cascadelaw02_awake c2 (⟨m, []⟩ :: stk)
    simp only [qc]
    cbv
    cases r1 with
    | false =>
      simp only at hp
      cbv
      have qc := h_cascadelaw02_awake c2 (⟨m, []⟩ :: stk)
      simp only [qc]
      cbv
      cases hp
      first | rfl | (cbv; done) | (simp only [h.nadd0, h.nle_refl, h.cut_all, h.cut_nil, h.map_cons, h.map_nil, h.len_nil, he_e_int32, he_e_uint8, if_true]; done) | (simp only [h.nadd0, h.nle_refl, h.cut_all, h.cut_nil, h.map_cons, h.map_nil, h.len_nil, he_e_int32, he_e_uint8, if_true]; first | rfl | (cbv; done) | (cbv; simp only [h.map_cons, h.map_nil, h.len_nil, he_e_int32, he_e_uint8]; done))
    | true =>
      simp only at hp
      cbv
      try simp only [h.slen]
      cases c4 : xcmp .gtr (pslen v0) 400 with
      | false =>
        simp only [c4] at hp ⊢
        cbv
        rw [h.at_, hT]
        cbv
        cases c6 : c_quote_Unquote v0 with
        | none => simp only [c6] at hp; cases hp
        | some y12 =>
          obtain ⟨r5_0, r5_1, r5_2⟩ := y12
          simp only [c6] at hp
          have qc := h_quote_Unquote c6 (⟨m, []⟩ :: stk)
          simp only [qc]
          cbv
          cases c8 : c_cascaderef02_Unquote v0 with
          | none => simp only [c8] at hp; cases hp
          | some y11 =>
            obtain ⟨r7_0, r7_1, r7_2⟩ := y11
            simp only [c8] at hp
            have qc := h_cascaderef02_Unquote c8 (⟨m, []⟩ :: stk)
            simp only [qc]
            cbv
            cases c9 : xseq r5_0 r7_0 with
            | false =>
              simp only [c9] at hp ⊢
              cbv
              cases hp
              first | rfl | (cbv; done) | (simp only [h.nadd0, h.nle_refl, h.cut_all, h.cut_nil, h.map_cons, h.map_nil, h.len_nil, he_e_int32, he_e_uint8, if_true]; done) | (simp only [h.nadd0, h.nle_refl, h.cut_all, h.cut_nil, h.map_cons, h.map_nil, h.len_nil, he_e_int32, he_e_uint8, if_true]; first | rfl | (cbv; done) | (cbv; simp only [h.map_cons, h.map_nil, h.len_nil, he_e_int32, he_e_uint8]; done))
            | true =>
              simp only [c9] at hp ⊢
              cbv
              cases c10 : xcmp .eql r5_1 r7_1 with
              | false =>
                simp only [c10] at hp ⊢
                cbv
                cases hp
                first | rfl | (cbv; done) | (simp only [h.nadd0, h.nle_refl, h.cut_all, h.cut_nil, h.map_cons, h.map_nil, h.len_nil, he_e_int32, he_e_uint8, if_true]; done) | (simp only [h.nadd0, h.nle_refl, h.cut_all, h.cut_nil, h.map_cons, h.map_nil, h.len_nil, he_e_int32, he_e_uint8, if_true]; first | rfl | (cbv; done) | (cbv; simp only [h.map_cons, h.map_nil, h.len_nil, he_e_int32, he_e_uint8]; done))
              | true =>
                simp only [c10] at hp ⊢
                cbv
                cases hp
                first | rfl | (cbv; done) | (simp only [h.nadd0, h.nle_refl, h.cut_all, h.cut_nil, h.map_cons, h.map_nil, h.len_nil, he_e_int32, he_e_uint8, if_true]; done) | (simp only [h.nadd0, h.nle_refl, h.cut_all, h.cut_nil, h.map_cons, h.map_nil, h.len_nil, he_e_int32, he_e_uint8, if_true]; first | rfl | (cbv; done) | (cbv; simp only [h.map_cons, h.map_nil, h.len_nil, he_e_int32, he_e_uint8]; done))
      | true =>
        simp only [c4] at hp ⊢
        cbv
        have qc := h_cascadelaw02_awake c2 (⟨m, []⟩ :: stk)
        simp only [qc]
        cbv
        cases hp
        first | rfl | (cbv; done) | (simp only [h.nadd0, h.nle_refl, h.cut_all, h.cut_nil, h.map_cons, h.map_nil, h.len_nil, he_e_int32, he_e_uint8, if_true]; done) | (simp only [h.nadd0, h.nle_refl, h.cut_all, h.cut_nil, h.map_cons, h.map_nil, h.len_nil, he_e_int32, he_e_uint8, if_true]; first | rfl | (cbv; done) | (cbv; simp only [h.map_cons, h.map_nil, h.len_nil, he_e_int32, he_e_uint8]; done))
def b_cascadelaw02_QuoteBack_0 (P : Prims) (c_cascadelaw02_awake : Option (Bool)) (c_quote_Quote : Str → Option (Str × Int)) (c_cascaderef01_Right : Str → Option (Bool)) (c_quote_Unquote : Str → Option (Str × Int × Int))  (v0 : Str) (v1 : Str) : Option (Bool) :=
  match c_cascadelaw02_awake with
  | none => none
  | some r1 =>
    match r1 with
    | false =>
      some r1
    | true =>
      match P.cmp .gtr (P.slen v0) 200 with
      | false =>
        match P.cmp .gtr (P.slen v1) 200 with
        | false =>
          match c_cascaderef01_Right v0 with
          | none => none
          | some r6 =>
            match r6 with
            | false =>
              some r1
            | true =>
              match c_quote_Quote v0 with
              | none => none
              | some (r9_0, r9_1) =>
                match P.scat r9_0 v1 with
                | none => none
                | some s11 =>
                  match c_quote_Unquote s11 with
                  | none => none
                  | some (r13_0, r13_1, r13_2) =>
                    match P.cmp .eql r13_2 0 with
                    | false =>
                      some false
                    | true =>
                      match P.seq r13_0 v0 with
                      | false =>
                        some false
                      | true =>
                        some (P.cmp .eql r13_1 (P.slen r9_0))
        | true =>
          some r1
      | true =>
        some r1
theorem o_cascadelaw02_QuoteBack_0 (c_cascadelaw02_awake : Option (Bool)) (c_quote_Quote : Str → Option (Str × Int)) (c_cascaderef01_Right : Str → Option (Bool)) (c_quote_Unquote : Str → Option (Str × Int × Int)) (h_cascadelaw02_awake : ∀ {r0 : Bool}, c_cascadelaw02_awake  = some r0 → ∀ stk, xpcall 28 [] stk = some (.d (.bool r0))) (h_quote_Quote : ∀ {a0 : Str} {r0 : Str} {r1 : Int}, c_quote_Quote a0 = some (r0, r1) → ∀ stk, xpcall 29 [(.d (.str a0))] stk = some (.d (.tup [(.str r0), (.int .i64 r1)]))) (h_cascaderef01_Right : ∀ {a0 : Str} {r0 : Bool}, c_cascaderef01_Right a0 = some r0 → ∀ stk, xpcall 30 [(.d (.str a0))] stk = some (.d (.bool r0))) (h_quote_Unquote : ∀ {a0 : Str} {r0 : Str} {r1 : Int} {r2 : Int}, c_quote_Unquote a0 = some (r0, r1, r2) → ∀ stk, xpcall 32 [(.d (.str a0))] stk = some (.d (.tup [(.str r0), (.int .i64 r1), (.int .i64 r2)]))) (stk : Stk) (m : Nat)  (v0 : Str) (v1 : Str)  {out} (hp : b_cascadelaw02_QuoteBack_0 ⟨xar, xcmp, xwrap, xseq, xslt, xenc, pquo, pshf, pslen, psidx, pssub, pscat, psit, pslist, pofBytes, @plen, @pidx, @psub, @papp, @pset, @pmake, @ploop⟩ c_cascadelaw02_awake c_quote_Quote c_cascaderef01_Right c_quote_Unquote  v0 v1 = some out) : xat 12 true 0 [] ⟨[(0, (.d (.str v0))), (1, (.d (.str v1)))], ⟨m, []⟩ :: stk⟩ = (fun r0 => (some (.ret (.d (.bool r0)), stk) : Rk')) out := by
  simp only [b_cascadelaw02_QuoteBack_0] at hp
  rw [h.at_, hT]
  cbv
  cases c2 : c_cascadelaw02_awake with
  | none => simp only [c2] at hp; cases hp
  | some r1 =>
    simp only [c2] at hp
    have qc := h_cascadelaw02_awake c2 (⟨m, []⟩ :: stk)
    simp only [qc]
    cbv
    cases r1 with
    | false =>
      simp only at hp
      cbv
      have qc := h_cascadelaw02_awake c2 (⟨m, []⟩ :: stk)
      simp only [qc]
      cbv
      cases hp
      first | rfl | (cbv; done) | (simp only [h.nadd0, h.nle_refl, h.cut_all, h.cut_nil, h.map_cons, h.map_nil, h.len_nil, he_e_int32, he_e_uint8, if_true]; done) | (simp only [h.nadd0, h.nle_refl, h.cut_all, h.cut_nil, h.map_cons, h.map_nil, h.len_nil, he_e_int32, he_e_uint8, if_true]; first | rfl | (cbv; done) | (cbv; simp only [h.map_cons, h.map_nil, h.len_nil, he_e_int32, he_e_uint8]; done))
    | true =>
      simp only at hp
      cbv
      try simp only [h.slen]
      cases c4 : xcmp .gtr (pslen v0) 200 with
      | false =>
        simp only [c4] at hp ⊢
        cbv
        try simp only [h.slen]
        cases c5 : xcmp .gtr (pslen v1) 200 with
        | false =>
          simp only [c5] at hp ⊢
          cbv
          cases c7 : c_cascaderef01_Right v0 with
          | none => simp only [c7] at hp; cases hp
          | some r6 =>
            simp only [c7] at hp
            have qc := h_cascaderef01_Right c7 (⟨m, []⟩ :: stk)
            simp only [qc]
            cbv
            cases r6 with
            | false =>
              simp only at hp
              cbv
              have qc := h_cascadelaw02_awake c2 (⟨m, []⟩ :: stk)
              simp only [qc]
              cbv
              cases hp
              first | rfl | (cbv; done) | (simp only [h.nadd0, h.nle_refl, h.cut_all, h.cut_nil, h.map_cons, h.map_nil, h.len_nil, he_e_int32, he_e_uint8, if_true]; done) | (simp only [h.nadd0, h.nle_refl, h.cut_all, h.cut_nil, h.map_cons, h.map_nil, h.len_nil, he_e_int32, he_e_uint8, if_true]; first | rfl | (cbv; done) | (cbv; simp only [h.map_cons, h.map_nil, h.len_nil, he_e_int32, he_e_uint8]; done))
            | true =>
              simp only at hp
              cbv
              rw [h.at_, hT]
              cbv
              cases c10 : c_quote_Quote v0 with
              | none => simp only [c10] at hp; cases hp
              | some y18 =>
                obtain ⟨r9_0, r9_1⟩ := y18
                simp only [c10] at hp
                have qc := h_quote_Quote c10 (⟨m, []⟩ :: stk)
                simp only [qc]
                cbv
                cases c12 : pscat r9_0 v1 with
                | none => simp only [c12] at hp; cases hp
                | some s11 =>
                  simp only [c12] at hp
                  obtain ⟨q1, q2⟩ := h.scat c12
                  simp only [q1, q2, if_true]
                  cbv
                  cases c14 : c_quote_Unquote s11 with
                  | none => simp only [c14] at hp; cases hp
                  | some y17 =>
                    obtain ⟨r13_0, r13_1, r13_2⟩ := y17
                    simp only [c14] at hp
                    have qc := h_quote_Unquote c14 (⟨m, []⟩ :: stk)
                    simp only [qc]
                    cbv
                    cases c15 : xcmp .eql r13_2 0 with
                    | false =>
                      simp only [c15] at hp ⊢
                      cbv
                      cases hp
                      first | rfl | (cbv; done) | (simp only [h.nadd0, h.nle_refl, h.cut_all, h.cut_nil, h.map_cons, h.map_nil, h.len_nil, he_e_int32, he_e_uint8, if_true]; done) | (simp only [h.nadd0, h.nle_refl, h.cut_all, h.cut_nil, h.map_cons, h.map_nil, h.len_nil, he_e_int32, he_e_uint8, if_true]; first | rfl | (cbv; done) | (cbv; simp only [h.map_cons, h.map_nil, h.len_nil, he_e_int32, he_e_uint8]; done))
                    | true =>
                      simp only [c15] at hp ⊢
                      cbv
                      cases c16 : xseq r13_0 v0 with
                      | false =>
                        simp only [c16] at hp ⊢
                        cbv
                        cases hp
                        first | rfl | (cbv; done) | (simp only [h.nadd0, h.nle_refl, h.cut_all, h.cut_nil, h.map_cons, h.map_nil, h.len_nil, he_e_int32, he_e_uint8, if_true]; done) | (simp only [h.nadd0, h.nle_refl, h.cut_all, h.cut_nil, h.map_cons, h.map_nil, h.len_nil, he_e_int32, he_e_uint8, if_true]; first | rfl | (cbv; done) | (cbv; simp only [h.map_cons, h.map_nil, h.len_nil, he_e_int32, he_e_uint8]; done))
                      | true =>
                        simp only [c16] at hp ⊢
                        cbv
                        try simp only [h.slen]
                        cases hp
                        first | rfl | (cbv; done) | (simp only [h.nadd0, h.nle_refl, h.cut_all, h.cut_nil, h.map_cons, h.map_nil, h.len_nil, he_e_int32, he_e_uint8, if_true]; done) | (simp only [h.nadd0, h.nle_refl, h.cut_all, h.cut_nil, h.map_cons, h.map_nil, h.len_nil, he_e_int32, he_e_uint8, if_true]; first | rfl | (cbv; done) | (cbv; simp only [h.map_cons, h.map_nil, h.len_nil, he_e_int32, he_e_uint8]; done))
        | true =>
          simp only [c5] at hp ⊢
          cbv
          have qc := h_cascadelaw02_awake c2 (⟨m, []⟩ :: stk)
          simp only [qc]
          cbv
          cases hp
          first | rfl | (cbv; done) | (simp only [h.nadd0, h.nle_refl, h.cut_all, h.cut_nil, h.map_cons, h.map_nil, h.len_nil, he_e_int32, he_e_uint8, if_true]; done) | (simp only [h.nadd0, h.nle_refl, h.cut_all, h.cut_nil, h.map_cons, h.map_nil, h.len_nil, he_e_int32, he_e_uint8, if_true]; first | rfl | (cbv; done) | (cbv; simp only [h.map_cons, h.map_nil, h.len_nil, he_e_int32, he_e_uint8]; done))
      | true =>
        simp only [c4] at hp ⊢
        cbv
        have qc := h_cascadelaw02_awake c2 (⟨m, []⟩ :: stk)
        simp only [qc]
        cbv
        cases hp
        first | rfl | (cbv; done) | (simp only [h.nadd0, h.nle_refl, h.cut_all, h.cut_nil, h.map_cons, h.map_nil, h.len_nil, he_e_int32, he_e_uint8, if_true]; done) | (simp only [h.nadd0, h.nle_refl, h.cut_all, h.cut_nil, h.map_cons, h.map_nil, h.len_nil, he_e_int32, he_e_uint8, if_true]; first | rfl | (cbv; done) | (cbv; simp only [h.map_cons, h.map_nil, h.len_nil, he_e_int32, he_e_uint8]; done))
def b_cascadelaw02_QuoteCuts_0 (P : Prims) (c_cascadelaw02_awake : Option (Bool)) (c_quote_Quote : Str → Option (Str × Int)) (c_quote_Unquote : Str → Option (Str × Int × Int)) (l_2 : Str → Int → Int → Option (Bool)) (v0 : Str) (v1 : Int) : Option (Bool) :=
  match c_cascadelaw02_awake with
  | none => none
  | some r1 =>
    match r1 with
    | false =>
      some r1
    | true =>
      match P.cmp .gtr (P.slen v0) 200 with
      | false =>
        l_2 v0 v1 0
      | true =>
        some r1
theorem o_cascadelaw02_QuoteCuts_0 (c_cascadelaw02_awake : Option (Bool)) (c_quote_Quote : Str → Option (Str × Int)) (c_quote_Unquote : Str → Option (Str × Int × Int)) (h_cascadelaw02_awake : ∀ {r0 : Bool}, c_cascadelaw02_awake  = some r0 → ∀ stk, xpcall 28 [] stk = some (.d (.bool r0))) (h_quote_Quote : ∀ {a0 : Str} {r0 : Str} {r1 : Int}, c_quote_Quote a0 = some (r0, r1) → ∀ stk, xpcall 29 [(.d (.str a0))] stk = some (.d (.tup [(.str r0), (.int .i64 r1)]))) (h_quote_Unquote : ∀ {a0 : Str} {r0 : Str} {r1 : Int} {r2 : Int}, c_quote_Unquote a0 = some (r0, r1, r2) → ∀ stk, xpcall 32 [(.d (.str a0))] stk = some (.d (.tup [(.str r0), (.int .i64 r1), (.int .i64 r2)]))) (stk : Stk) (m : Nat) (l_2 : Str → Int → Int → Option (Bool)) (v0 : Str) (v1 : Int) (h_l_2 : ∀ {v0 : Str} {v1 : Int} {v5 : Int} {out}, l_2 v0 v1 v5 = some out → xat 13 true 2 [.lp ⟨2, [0, 1, 5], []⟩, .blk 0, .sub ⟨5, [0, 1], []⟩] ⟨[(0, (.d (.str v0))), (1, (.d (.int .u16 v1))), (5, (.d (.int .i64 v5)))], ⟨m, []⟩ :: stk⟩ = (fun r0 => (some (.ret (.d (.bool r0)), stk) : Rk')) out) {out} (hp : b_cascadelaw02_QuoteCuts_0 ⟨xar, xcmp, xwrap, xseq, xslt, xenc, pquo, pshf, pslen, psidx, pssub, pscat, psit, pslist, pofBytes, @plen, @pidx, @psub, @papp, @pset, @pmake, @ploop⟩ c_cascadelaw02_awake c_quote_Quote c_quote_Unquote l_2 v0 v1 = some out) : xat 13 true 0 [] ⟨[(0, (.d (.str v0))), (1, (.d (.int .u16 v1)))], ⟨m, []⟩ :: stk⟩ = (fun r0 => (some (.ret (.d (.bool r0)), stk) : Rk')) out := by
  simp only [b_cascadelaw02_QuoteCuts_0] at hp
  rw [h.at_, hT]
  cbv
  cases c2 : c_cascadelaw02_awake with
  | none => simp only [c2] at hp; cases hp
  | some r1 =>
    simp only [c2] at hp
    have qc := h_cascadelaw02_awake c2 (⟨m, []⟩ :: stk)
    simp only [qc]
    cbv
    cases r1 with
    | false =>
      simp only at hp
      cbv
      have qc := h_cascadelaw02_awake c2 (⟨m, []⟩ :: stk)
      simp only [qc]
      cbv
      cases hp
      first | rfl | (cbv; done) | (simp only [h.nadd0, h.nle_refl, h.cut_all, h.cut_nil, h.map_cons, h.map_nil, h.len_nil, he_e_int32, he_e_uint8, if_true]; done) | (simp only [h.nadd0, h.nle_refl, h.cut_all, h.cut_nil, h.map_cons, h.map_nil, h.len_nil, he_e_int32, he_e_uint8, if_true]; first | rfl | (cbv; done) | (cbv; simp only [h.map_cons, h.map_nil, h.len_nil, he_e_int32, he_e_uint8]; done))
    | true =>
      simp only at hp
      cbv
      try simp only [h.slen]
      cases c4 : xcmp .gtr (pslen v0) 200 with
      | false =>
        simp only [c4] at hp ⊢
        cbv
        rw [h.at_, hT]
        cbv
        first | exact h_l_2 hp | (have q := h_l_2 hp; simp only [h.map_cons, h.map_nil, h.len_nil, he_e_int32, he_e_uint8] at q; first | exact q | (cbv; exact q))
      | true =>
        simp only [c4] at hp ⊢
        cbv
        have qc := h_cascadelaw02_awake c2 (⟨m, []⟩ :: stk)
        simp only [qc]
        cbv
        cases hp
        first | rfl | (cbv; done) | (simp only [h.nadd0, h.nle_refl, h.cut_all, h.cut_nil, h.map_cons, h.map_nil, h.len_nil, he_e_int32, he_e_uint8, if_true]; done) | (simp only [h.nadd0, h.nle_refl, h.cut_all, h.cut_nil, h.map_cons, h.map_nil, h.len_nil, he_e_int32, he_e_uint8, if_true]; first | rfl | (cbv; done) | (cbv; simp only [h.map_cons, h.map_nil, h.len_nil, he_e_int32, he_e_uint8]; done))
def b_cascadelaw02_QuoteCuts_2 (P : Prims) (c_cascadelaw02_awake : Option (Bool)) (c_quote_Quote : Str → Option (Str × Int)) (c_quote_Unquote : Str → Option (Str × Int × Int))  (v0 : Str) (v1 : Int) (v5 : Int) : Option ((Str × Int × Int) ⊕ (Bool)) :=
  match P.cmp .lss v5 (P.slen v0) with
  | false =>
    match c_quote_Quote v0 with
    | none => none
    | some (r12_0, r12_1) =>
      match P.cmp .eql (P.slen r12_0) 0 with
      | false =>
        match P.quo .rem .i64 (P.wrap .i64 v1) (P.slen r12_0) with
        | none => none
        | some n15 =>
          match P.ssub r12_0 none (some n15) with
          | none => none
          | some s17 =>
            match c_quote_Unquote s17 with
            | none => none
            | some (r19_0, r19_1, r19_2) =>
              match P.seq r19_0 [] with
              | false =>
                some (.inr false)
              | true =>
                match P.cmp .eql r19_1 n15 with
                | false =>
                  some (.inr false)
                | true =>
                  some (.inr (P.cmp .eql r19_2 4))
      | true =>
        some (.inr false)
  | true =>
    match P.sidx v0 v5 with
    | none => none
    | some b6 =>
      match P.cmp .lss b6 32 with
      | false =>
        match P.cmp .gtr b6 126 with
        | false =>
          match P.cmp .eql b6 34 with
          | false =>
            match P.cmp .eql b6 92 with
            | false =>
              some (.inl (v0, v1, P.ar .add .i64 v5 1))
            | true =>
              some (.inr true)
          | true =>
            some (.inr true)
        | true =>
          some (.inr true)
      | true =>
        some (.inr true)
theorem o_cascadelaw02_QuoteCuts_2 (c_cascadelaw02_awake : Option (Bool)) (c_quote_Quote : Str → Option (Str × Int)) (c_quote_Unquote : Str → Option (Str × Int × Int)) (h_cascadelaw02_awake : ∀ {r0 : Bool}, c_cascadelaw02_awake  = some r0 → ∀ stk, xpcall 28 [] stk = some (.d (.bool r0))) (h_quote_Quote : ∀ {a0 : Str} {r0 : Str} {r1 : Int}, c_quote_Quote a0 = some (r0, r1) → ∀ stk, xpcall 29 [(.d (.str a0))] stk = some (.d (.tup [(.str r0), (.int .i64 r1)]))) (h_quote_Unquote : ∀ {a0 : Str} {r0 : Str} {r1 : Int} {r2 : Int}, c_quote_Unquote a0 = some (r0, r1, r2) → ∀ stk, xpcall 32 [(.d (.str a0))] stk = some (.d (.tup [(.str r0), (.int .i64 r1), (.int .i64 r2)]))) (stk : Stk) (m : Nat)  (v0 : Str) (v1 : Int) (v5 : Int)  {out} (hp : b_cascadelaw02_QuoteCuts_2 ⟨xar, xcmp, xwrap, xseq, xslt, xenc, pquo, pshf, pslen, psidx, pssub, pscat, psit, pslist, pofBytes, @plen, @pidx, @psub, @papp, @pset, @pmake, @ploop⟩ c_cascadelaw02_awake c_quote_Quote c_quote_Unquote  v0 v1 v5 = some out) : xat 13 true 2 [.lp ⟨2, [0, 1, 5], []⟩, .blk 0, .sub ⟨5, [0, 1], []⟩] ⟨[(0, (.d (.str v0))), (1, (.d (.int .u16 v1))), (5, (.d (.int .i64 v5)))], ⟨m, []⟩ :: stk⟩ = (Sum.elim (fun (v0, v1, v5) => xat 13 true 2 [.lp ⟨2, [0, 1, 5], []⟩, .blk 0, .sub ⟨5, [0, 1], []⟩] ⟨[(0, (.d (.str v0))), (1, (.d (.int .u16 v1))), (5, (.d (.int .i64 v5)))], ⟨m, []⟩ :: stk⟩) (fun r0 => (some (.ret (.d (.bool r0)), stk) : Rk'))) out := by
  simp only [b_cascadelaw02_QuoteCuts_2] at hp
  rw [h.at_, hT]
  cbv
  try simp only [h.slen]
  cases c5 : xcmp .lss v5 (pslen v0) with
  | false =>
    simp only [c5] at hp ⊢
    cbv
    rw [h.at_, hT]
    cbv
    cases c13 : c_quote_Quote v0 with
    | none => simp only [c13] at hp; cases hp
    | some y24 =>
      obtain ⟨r12_0, r12_1⟩ := y24
      simp only [c13] at hp
      have qc := h_quote_Quote c13 (⟨m, []⟩ :: stk)
      simp only [qc]
      cbv
      try simp only [h.slen]
      cases c14 : xcmp .eql (pslen r12_0) 0 with
      | false =>
        simp only [c14] at hp ⊢
        cbv
        rw [h.at_, hT]
        cbv
        try simp only [h.slen]
        cases c16 : pquo .rem .i64 (xwrap .i64 v1) (pslen r12_0) with
        | none => simp only [c16] at hp; cases hp
        | some n15 =>
          simp only [c16] at hp
          obtain ⟨q1, q2⟩ := h.quo c16
          simp only [q1, q2, Bool.false_eq_true, if_false]
          cbv
          cases c18 : pssub r12_0 none (some n15) with
          | none => simp only [c18] at hp; cases hp
          | some s17 =>
            simp only [c18] at hp
            obtain ⟨q0, q1, q2, q3⟩ := h.ssub0 c18
            simp only [q0, q1, q2, q3, Bool.false_eq_true, if_false, if_true]
            cbv
            try simp only [q0, q1, q2, q3, if_true]
            cbv
            cases c20 : c_quote_Unquote s17 with
            | none => simp only [c20] at hp; cases hp
            | some y23 =>
              obtain ⟨r19_0, r19_1, r19_2⟩ := y23
              simp only [c20] at hp
              have qc := h_quote_Unquote c20 (⟨m, []⟩ :: stk)
              simp only [qc]
              cbv
              cases c21 : xseq r19_0 [] with
              | false =>
                simp only [c21] at hp ⊢
                cbv
                cases hp
                first | rfl | (cbv; done) | (simp only [h.nadd0, h.nle_refl, h.cut_all, h.cut_nil, h.map_cons, h.map_nil, h.len_nil, he_e_int32, he_e_uint8, if_true]; done) | (simp only [h.nadd0, h.nle_refl, h.cut_all, h.cut_nil, h.map_cons, h.map_nil, h.len_nil, he_e_int32, he_e_uint8, if_true]; first | rfl | (cbv; done) | (cbv; simp only [h.map_cons, h.map_nil, h.len_nil, he_e_int32, he_e_uint8]; done))
              | true =>
                simp only [c21] at hp ⊢
                cbv
                cases c22 : xcmp .eql r19_1 n15 with
                | false =>
                  simp only [c22] at hp ⊢
                  cbv
                  cases hp
                  first | rfl | (cbv; done) | (simp only [h.nadd0, h.nle_refl, h.cut_all, h.cut_nil, h.map_cons, h.map_nil, h.len_nil, he_e_int32, he_e_uint8, if_true]; done) | (simp only [h.nadd0, h.nle_refl, h.cut_all, h.cut_nil, h.map_cons, h.map_nil, h.len_nil, he_e_int32, he_e_uint8, if_true]; first | rfl | (cbv; done) | (cbv; simp only [h.map_cons, h.map_nil, h.len_nil, he_e_int32, he_e_uint8]; done))
                | true =>
                  simp only [c22] at hp ⊢
                  cbv
                  cases hp
                  first | rfl | (cbv; done) | (simp only [h.nadd0, h.nle_refl, h.cut_all, h.cut_nil, h.map_cons, h.map_nil, h.len_nil, he_e_int32, he_e_uint8, if_true]; done) | (simp only [h.nadd0, h.nle_refl, h.cut_all, h.cut_nil, h.map_cons, h.map_nil, h.len_nil, he_e_int32, he_e_uint8, if_true]; first | rfl | (cbv; done) | (cbv; simp only [h.map_cons, h.map_nil, h.len_nil, he_e_int32, he_e_uint8]; done))
      | true =>
        simp only [c14] at hp ⊢
        cbv
        cases hp
        first | rfl | (cbv; done) | (simp only [h.nadd0, h.nle_refl, h.cut_all, h.cut_nil, h.map_cons, h.map_nil, h.len_nil, he_e_int32, he_e_uint8, if_true]; done) | (simp only [h.nadd0, h.nle_refl, h.cut_all, h.cut_nil, h.map_cons, h.map_nil, h.len_nil, he_e_int32, he_e_uint8, if_true]; first | rfl | (cbv; done) | (cbv; simp only [h.map_cons, h.map_nil, h.len_nil, he_e_int32, he_e_uint8]; done))
  | true =>
    simp only [c5] at hp ⊢
    cbv
    rw [h.at_, hT]
    cbv
    cases c7 : psidx v0 v5 with
    | none => simp only [c7] at hp; cases hp
    | some b6 =>
      simp only [c7] at hp
      obtain ⟨w, q1, q2, q3⟩ := h.sidx c7
      simp only [q1, q2, q3, Bool.false_eq_true, if_false]
      cbv
      cases c8 : xcmp .lss b6 32 with
      | false =>
        simp only [c8] at hp ⊢
        cbv
        obtain ⟨w, q1, q2, q3⟩ := h.sidx c7
        simp only [q1, q2, q3, Bool.false_eq_true, if_false]
        cbv
        cases c9 : xcmp .gtr b6 126 with
        | false =>
          simp only [c9] at hp ⊢
          cbv
          obtain ⟨w, q1, q2, q3⟩ := h.sidx c7
          simp only [q1, q2, q3, Bool.false_eq_true, if_false]
          cbv
          cases c10 : xcmp .eql b6 34 with
          | false =>
            simp only [c10] at hp ⊢
            cbv
            obtain ⟨w, q1, q2, q3⟩ := h.sidx c7
            simp only [q1, q2, q3, Bool.false_eq_true, if_false]
            cbv
            cases c11 : xcmp .eql b6 92 with
            | false =>
              simp only [c11] at hp ⊢
              cbv
              rw [h.at_, hT]
              cbv
              cases hp
              first | rfl | (cbv; done) | (simp only [h.nadd0, h.nle_refl, h.cut_all, h.cut_nil, h.map_cons, h.map_nil, h.len_nil, he_e_int32, he_e_uint8, if_true]; done) | (simp only [h.nadd0, h.nle_refl, h.cut_all, h.cut_nil, h.map_cons, h.map_nil, h.len_nil, he_e_int32, he_e_uint8, if_true]; first | rfl | (cbv; done) | (cbv; simp only [h.map_cons, h.map_nil, h.len_nil, he_e_int32, he_e_uint8]; done))
            | true =>
              simp only [c11] at hp ⊢
              cbv
              cases hp
              first | rfl | (cbv; done) | (simp only [h.nadd0, h.nle_refl, h.cut_all, h.cut_nil, h.map_cons, h.map_nil, h.len_nil, he_e_int32, he_e_uint8, if_true]; done) | (simp only [h.nadd0, h.nle_refl, h.cut_all, h.cut_nil, h.map_cons, h.map_nil, h.len_nil, he_e_int32, he_e_uint8, if_true]; first | rfl | (cbv; done) | (cbv; simp only [h.map_cons, h.map_nil, h.len_nil, he_e_int32, he_e_uint8]; done))
          | true =>
            simp only [c10] at hp ⊢
            cbv
            cases hp
            first | rfl | (cbv; done) | (simp only [h.nadd0, h.nle_refl, h.cut_all, h.cut_nil, h.map_cons, h.map_nil, h.len_nil, he_e_int32, he_e_uint8, if_true]; done) | (simp only [h.nadd0, h.nle_refl, h.cut_all, h.cut_nil, h.map_cons, h.map_nil, h.len_nil, he_e_int32, he_e_uint8, if_true]; first | rfl | (cbv; done) | (cbv; simp only [h.map_cons, h.map_nil, h.len_nil, he_e_int32, he_e_uint8]; done))
        | true =>
          simp only [c9] at hp ⊢
          cbv
          cases hp
          first | rfl | (cbv; done) | (simp only [h.nadd0, h.nle_refl, h.cut_all, h.cut_nil, h.map_cons, h.map_nil, h.len_nil, he_e_int32, he_e_uint8, if_true]; done) | (simp only [h.nadd0, h.nle_refl, h.cut_all, h.cut_nil, h.map_cons, h.map_nil, h.len_nil, he_e_int32, he_e_uint8, if_true]; first | rfl | (cbv; done) | (cbv; simp only [h.map_cons, h.map_nil, h.len_nil, he_e_int32, he_e_uint8]; done))
      | true =>
        simp only [c8] at hp ⊢
        cbv
        cases hp
        first | rfl | (cbv; done) | (simp only [h.nadd0, h.nle_refl, h.cut_all, h.cut_nil, h.map_cons, h.map_nil, h.len_nil, he_e_int32, he_e_uint8, if_true]; done) | (simp only [h.nadd0, h.nle_refl, h.cut_all, h.cut_nil, h.map_cons, h.map_nil, h.len_nil, he_e_int32, he_e_uint8, if_true]; first | rfl | (cbv; done) | (cbv; simp only [h.map_cons, h.map_nil, h.len_nil, he_e_int32, he_e_uint8]; done))
end
end Go.Abs.A
