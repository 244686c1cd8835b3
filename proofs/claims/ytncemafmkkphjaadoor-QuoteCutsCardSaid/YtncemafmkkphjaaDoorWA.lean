import Derived.Test.YtncemafmkkphjaaDoorIrA
set_option linter.unusedSimpArgs false
set_option linter.unusedVariables false
set_option linter.unusedSectionVars false
namespace Go.Abs.A
set_option maxRecDepth 100000
def e_int32 : Int → D := fun x => (.int .i32 x)
def e_uint8 : Int → D := fun x => (.int .u8 x)
section
variable {xR : FuncId → Option RF} {xiter : (St → Rs) → St → Rs} {xG : Nat → Option (List D)} {xcall : CallF} {xpcall : FuncId → List V → Stk → Option V} {xfcall : FuncId → List V → Stk → Option (V × Stk)} {xlen : List D → Nat} {xnth : List D → Nat → Option D} {xcut : List D → Nat → Nat → List D} {xapp : List D → List D → List D} {xset : List D → Nat → D → List D} {xrep : Nat → D → List D} {xallsz : Nat → List D → Bool} {xslen : Str → Nat} {xsnth : Str → Nat → Option UInt8} {xscut : Str → Nat → Nat → Str} {xsapp : Str → Str → Str} {xseq : Str → Str → Bool} {xslt : Str → Str → Bool} {xofStr : Str → List D} {xtoStr : List D → Option Str} {xdec : Str → Nat → Nat × Nat} {xenc : Int → Str} {xar : BinOp → IntKind → Int → Int → Int} {xcmp : BinOp → Int → Int → Bool} {xwrap : IntKind → Int → Int} {xisz : Int → Bool} {xneg : Int → Bool} {xnat : Int → Nat} {xofN : Nat → Int} {xbyte : UInt8 → Int} {xnle : Nat → Nat → Bool} {xnadd : Nat → Nat → Nat} {xnsub : Nat → Nat → Nat} {xfits : Nat → Nat → Bool} {xfind : D → List (D × Nat × V) → Option (Option V)} {xputE : D → Nat → V → List (D × Nat × V) → Option (List (D × Nat × V))} {xfindK : D → List D → List D → Option (Option D)} {xelen : List (D × Nat × V) → Nat} {xfrzM : List (D × Nat × V) → Option (List D × List D)} {xat : AtF} {xtop : Stk → Nat} {xsame : Stk → Stk → Bool} {xmap : {α : Type} → (α → D) → List α → List D} {pquo : BinOp → IntKind → Int → Int → Option Int} {pshf : BinOp → IntKind → Int → Int → Option Int} {pslen : Str → Int} {psidx : Str → Int → Option Int} {pssub : Str → Option Int → Option Int → Option Str} {pscat : Str → Str → Option Str} {psit : Str → Nat → Option (Int × Int × Nat)} {pslist : Str → Option (List Int)} {pofBytes : List Int → Str} {plen : {α : Type} → List α → Int} {pidx : {α : Type} → List α → Int → Option α} {psub : {α : Type} → List α → Option Int → Option Int → Option (List α)} {papp : {α : Type} → Nat → List α → List α → Option (List α)} {pset : {α : Type} → List α → Int → α → Option (List α)} {pmake : {α : Type} → Nat → α → Int → Option (List α)} {ploop : {σ ρ : Type} → (σ → Option (σ ⊕ ρ)) → σ → Option ρ} {xT : FuncId → Option KF}
  (h : KLaws xR xiter xG xcall xpcall xfcall xlen xnth xcut xapp xset xrep xallsz xslen xsnth xscut xsapp xseq xslt xofStr xtoStr xdec xenc xar xcmp xwrap xisz xneg xnat xofN xbyte xnle xnadd xnsub xfits xfind xputE xfindK xelen xfrzM xat xtop xsame @xmap pquo pshf pslen psidx pssub pscat psit pslist pofBytes @plen @pidx @psub @papp @pset @pmake @ploop xT) (hT : xT = table)
variable {e_int32 : Int → D} {e_uint8 : Int → D} (he_e_int32 : ∀ (x : Int), e_int32 x = (.int .i32 x)) (hz_e_int32 : ∀ l, xallsz 1 (xmap e_int32 l) = true) (he_e_uint8 : ∀ (x : Int), e_uint8 x = (.int .u8 x)) (hz_e_uint8 : ∀ l, xallsz 1 (xmap e_uint8 l) = true)
include h hT he_e_int32 hz_e_int32 he_e_uint8 hz_e_uint8
def b_text_letter_0 (P : Prims)   (v0 : Int) : Option (Bool) :=
  match P.cmp .geq v0 97 with
  | false =>
    match P.cmp .geq v0 65 with
    | false =>
      some (P.cmp .eql v0 95)
    | true =>
      match P.cmp .leq v0 90 with
      | false =>
        some (P.cmp .eql v0 95)
      | true =>
        some true
  | true =>
    match P.cmp .leq v0 122 with
    | false =>
      match P.cmp .geq v0 65 with
      | false =>
        some (P.cmp .eql v0 95)
      | true =>
        match P.cmp .leq v0 90 with
        | false =>
          some (P.cmp .eql v0 95)
        | true =>
          some true
    | true =>
      some true
theorem o_text_letter_0   (stk : Stk) (m : Nat)  (v0 : Int)  {out} (hp : b_text_letter_0 ⟨xar, xcmp, xwrap, xseq, xslt, xenc, pquo, pshf, pslen, psidx, pssub, pscat, psit, pslist, pofBytes, @plen, @pidx, @psub, @papp, @pset, @pmake, @ploop⟩   v0 = some out) : xat 34 true 0 [] ⟨[(0, (.d (.int .i32 v0)))], ⟨m, []⟩ :: stk⟩ = (fun r0 => (some (.ret (.d (.bool r0)), stk) : Rk')) out := by
  simp only [b_text_letter_0] at hp
  rw [h.at_, hT]
  cbv
  cases c1 : xcmp .geq v0 97 with
  | false =>
    simp only [c1] at hp ⊢
    cbv
    cases c5 : xcmp .geq v0 65 with
    | false =>
      simp only [c5] at hp ⊢
      cbv
      cases hp
      first | rfl | (cbv; done) | (simp only [h.nadd0, h.nle_refl, h.cut_all, h.cut_nil, h.map_cons, h.map_nil, h.len_nil, he_e_int32, he_e_uint8, if_true]; done) | (simp only [h.nadd0, h.nle_refl, h.cut_all, h.cut_nil, h.map_cons, h.map_nil, h.len_nil, he_e_int32, he_e_uint8, if_true]; first | rfl | (cbv; done) | (cbv; simp only [h.map_cons, h.map_nil, h.len_nil, he_e_int32, he_e_uint8]; done))
    | true =>
      simp only [c5] at hp ⊢
      cbv
      cases c6 : xcmp .leq v0 90 with
      | false =>
        simp only [c6] at hp ⊢
        cbv
        cases hp
        first | rfl | (cbv; done) | (simp only [h.nadd0, h.nle_refl, h.cut_all, h.cut_nil, h.map_cons, h.map_nil, h.len_nil, he_e_int32, he_e_uint8, if_true]; done) | (simp only [h.nadd0, h.nle_refl, h.cut_all, h.cut_nil, h.map_cons, h.map_nil, h.len_nil, he_e_int32, he_e_uint8, if_true]; first | rfl | (cbv; done) | (cbv; simp only [h.map_cons, h.map_nil, h.len_nil, he_e_int32, he_e_uint8]; done))
      | true =>
        simp only [c6] at hp ⊢
        cbv
        cases hp
        first | rfl | (cbv; done) | (simp only [h.nadd0, h.nle_refl, h.cut_all, h.cut_nil, h.map_cons, h.map_nil, h.len_nil, he_e_int32, he_e_uint8, if_true]; done) | (simp only [h.nadd0, h.nle_refl, h.cut_all, h.cut_nil, h.map_cons, h.map_nil, h.len_nil, he_e_int32, he_e_uint8, if_true]; first | rfl | (cbv; done) | (cbv; simp only [h.map_cons, h.map_nil, h.len_nil, he_e_int32, he_e_uint8]; done))
  | true =>
    simp only [c1] at hp ⊢
    cbv
    cases c2 : xcmp .leq v0 122 with
    | false =>
      simp only [c2] at hp ⊢
      cbv
      cases c3 : xcmp .geq v0 65 with
      | false =>
        simp only [c3] at hp ⊢
        cbv
        cases hp
        first | rfl | (cbv; done) | (simp only [h.nadd0, h.nle_refl, h.cut_all, h.cut_nil, h.map_cons, h.map_nil, h.len_nil, he_e_int32, he_e_uint8, if_true]; done) | (simp only [h.nadd0, h.nle_refl, h.cut_all, h.cut_nil, h.map_cons, h.map_nil, h.len_nil, he_e_int32, he_e_uint8, if_true]; first | rfl | (cbv; done) | (cbv; simp only [h.map_cons, h.map_nil, h.len_nil, he_e_int32, he_e_uint8]; done))
      | true =>
        simp only [c3] at hp ⊢
        cbv
        cases c4 : xcmp .leq v0 90 with
        | false =>
          simp only [c4] at hp ⊢
          cbv
          cases hp
          first | rfl | (cbv; done) | (simp only [h.nadd0, h.nle_refl, h.cut_all, h.cut_nil, h.map_cons, h.map_nil, h.len_nil, he_e_int32, he_e_uint8, if_true]; done) | (simp only [h.nadd0, h.nle_refl, h.cut_all, h.cut_nil, h.map_cons, h.map_nil, h.len_nil, he_e_int32, he_e_uint8, if_true]; first | rfl | (cbv; done) | (cbv; simp only [h.map_cons, h.map_nil, h.len_nil, he_e_int32, he_e_uint8]; done))
        | true =>
          simp only [c4] at hp ⊢
          cbv
          cases hp
          first | rfl | (cbv; done) | (simp only [h.nadd0, h.nle_refl, h.cut_all, h.cut_nil, h.map_cons, h.map_nil, h.len_nil, he_e_int32, he_e_uint8, if_true]; done) | (simp only [h.nadd0, h.nle_refl, h.cut_all, h.cut_nil, h.map_cons, h.map_nil, h.len_nil, he_e_int32, he_e_uint8, if_true]; first | rfl | (cbv; done) | (cbv; simp only [h.map_cons, h.map_nil, h.len_nil, he_e_int32, he_e_uint8]; done))
    | true =>
      simp only [c2] at hp ⊢
      cbv
      cases hp
      first | rfl | (cbv; done) | (simp only [h.nadd0, h.nle_refl, h.cut_all, h.cut_nil, h.map_cons, h.map_nil, h.len_nil, he_e_int32, he_e_uint8, if_true]; done) | (simp only [h.nadd0, h.nle_refl, h.cut_all, h.cut_nil, h.map_cons, h.map_nil, h.len_nil, he_e_int32, he_e_uint8, if_true]; first | rfl | (cbv; done) | (cbv; simp only [h.map_cons, h.map_nil, h.len_nil, he_e_int32, he_e_uint8]; done))
def b_text_Name_0 (P : Prims) (c_text_letter : Int → Option (Bool)) (l_1 : Str → Str → Nat → Option (Bool)) (v0 : Str) : Option (Bool) :=
  l_1 v0 v0 0
theorem o_text_Name_0 (c_text_letter : Int → Option (Bool)) (h_text_letter : ∀ {a0 : Int} {r0 : Bool}, c_text_letter a0 = some r0 → ∀ stk, xpcall 34 [(.d (.int .i32 a0))] stk = some (.d (.bool r0))) (stk : Stk) (m : Nat) (l_1 : Str → Str → Nat → Option (Bool)) (v0 : Str) (h_l_1 : ∀ {v0 : Str} {o6_s : Str} {o6_p : Nat} {out}, l_1 v0 o6_s o6_p = some out → xat 15 true 1 [.lp ⟨1, [0, 6], [[6]]⟩, .blk 0, .sub ⟨3, [0], []⟩] ⟨[(0, (.d (.str v0))), (6, (.ref ⟨m, [6]⟩ 0))], ⟨m, [([6], (.siter o6_s o6_p))]⟩ :: stk⟩ = (fun r0 => (some (.ret (.d (.bool r0)), stk) : Rk')) out) {out} (hp : b_text_Name_0 ⟨xar, xcmp, xwrap, xseq, xslt, xenc, pquo, pshf, pslen, psidx, pssub, pscat, psit, pslist, pofBytes, @plen, @pidx, @psub, @papp, @pset, @pmake, @ploop⟩ c_text_letter l_1 v0 = some out) : xat 15 true 0 [] ⟨[(0, (.d (.str v0)))], ⟨m, []⟩ :: stk⟩ = (fun r0 => (some (.ret (.d (.bool r0)), stk) : Rk')) out := by
  simp only [b_text_Name_0] at hp
  rw [h.at_, hT]
  cbv
  first | exact h_l_1 hp | (have q := h_l_1 hp; simp only [h.map_cons, h.map_nil, h.len_nil, he_e_int32, he_e_uint8] at q; first | exact q | (cbv; exact q))
def b_text_Name_1 (P : Prims) (c_text_letter : Int → Option (Bool))  (v0 : Str) (o6_s : Str) (o6_p : Nat) : Option ((Str × Str × Nat) ⊕ (Bool)) :=
  match P.sit o6_s o6_p with
  | none =>
    match P.seq v0 [] with
    | false =>
      some (.inr true)
    | true =>
      some (.inr false)
  | some (i1, r2, n3) =>
    match c_text_letter r2 with
    | none => none
    | some r4 =>
      match r4 with
      | false =>
        match P.cmp .eql i1 0 with
        | false =>
          match P.cmp .lss r2 48 with
          | false =>
            match P.cmp .gtr r2 57 with
            | false =>
              some (.inl (v0, o6_s, n3))
            | true =>
              some (.inr false)
          | true =>
            some (.inr false)
        | true =>
          some (.inr false)
      | true =>
        some (.inl (v0, o6_s, n3))
theorem o_text_Name_1 (c_text_letter : Int → Option (Bool)) (h_text_letter : ∀ {a0 : Int} {r0 : Bool}, c_text_letter a0 = some r0 → ∀ stk, xpcall 34 [(.d (.int .i32 a0))] stk = some (.d (.bool r0))) (stk : Stk) (m : Nat)  (v0 : Str) (o6_s : Str) (o6_p : Nat)  {out} (hp : b_text_Name_1 ⟨xar, xcmp, xwrap, xseq, xslt, xenc, pquo, pshf, pslen, psidx, pssub, pscat, psit, pslist, pofBytes, @plen, @pidx, @psub, @papp, @pset, @pmake, @ploop⟩ c_text_letter  v0 o6_s o6_p = some out) : xat 15 true 1 [.lp ⟨1, [0, 6], [[6]]⟩, .blk 0, .sub ⟨3, [0], []⟩] ⟨[(0, (.d (.str v0))), (6, (.ref ⟨m, [6]⟩ 0))], ⟨m, [([6], (.siter o6_s o6_p))]⟩ :: stk⟩ = (Sum.elim (fun (v0, o6_s, o6_p) => xat 15 true 1 [.lp ⟨1, [0, 6], [[6]]⟩, .blk 0, .sub ⟨3, [0], []⟩] ⟨[(0, (.d (.str v0))), (6, (.ref ⟨m, [6]⟩ 0))], ⟨m, [([6], (.siter o6_s o6_p))]⟩ :: stk⟩) (fun r0 => (some (.ret (.d (.bool r0)), stk) : Rk'))) out := by
  simp only [b_text_Name_1] at hp
  rw [h.at_, hT]
  cbv
  cases c11 : psit o6_s o6_p with
  | none =>
    simp only [c11] at hp
    have q1 := h.sit0 c11
    simp only [q1, Bool.false_eq_true, if_false]
    cbv
    rw [h.at_, hT]
    cbv
    cases c10 : xseq v0 [] with
    | false =>
      simp only [c10] at hp ⊢
      cbv
      cases hp
      first | rfl | (cbv; done) | (simp only [h.nadd0, h.nle_refl, h.cut_all, h.cut_nil, h.map_cons, h.map_nil, h.len_nil, he_e_int32, he_e_uint8, if_true]; done) | (simp only [h.nadd0, h.nle_refl, h.cut_all, h.cut_nil, h.map_cons, h.map_nil, h.len_nil, he_e_int32, he_e_uint8, if_true]; first | rfl | (cbv; done) | (cbv; simp only [h.map_cons, h.map_nil, h.len_nil, he_e_int32, he_e_uint8]; done))
    | true =>
      simp only [c10] at hp ⊢
      cbv
      cases hp
      first | rfl | (cbv; done) | (simp only [h.nadd0, h.nle_refl, h.cut_all, h.cut_nil, h.map_cons, h.map_nil, h.len_nil, he_e_int32, he_e_uint8, if_true]; done) | (simp only [h.nadd0, h.nle_refl, h.cut_all, h.cut_nil, h.map_cons, h.map_nil, h.len_nil, he_e_int32, he_e_uint8, if_true]; first | rfl | (cbv; done) | (cbv; simp only [h.map_cons, h.map_nil, h.len_nil, he_e_int32, he_e_uint8]; done))
  | some y12 =>
    obtain ⟨i1, r2, n3⟩ := y12
    simp only [c11] at hp
    obtain ⟨q1, q2, q3, q4⟩ := h.sit1 c11
    simp only [q1, q2, q3, q4, if_true]
    cbv
    rw [h.at_, hT]
    cbv
    cases c5 : c_text_letter r2 with
    | none => simp only [c5] at hp; cases hp
    | some r4 =>
      simp only [c5] at hp
      have qc := h_text_letter c5 (⟨m, [([6], (.siter o6_s n3))]⟩ :: stk)
      simp only [qc]
      cbv
      cases r4 with
      | false =>
        simp only at hp
        cbv
        cases c7 : xcmp .eql i1 0 with
        | false =>
          simp only [c7] at hp ⊢
          cbv
          cases c8 : xcmp .lss r2 48 with
          | false =>
            simp only [c8] at hp ⊢
            cbv
            cases c9 : xcmp .gtr r2 57 with
            | false =>
              simp only [c9] at hp ⊢
              cbv
              cases hp
              first | rfl | (cbv; done) | (simp only [h.nadd0, h.nle_refl, h.cut_all, h.cut_nil, h.map_cons, h.map_nil, h.len_nil, he_e_int32, he_e_uint8, if_true]; done) | (simp only [h.nadd0, h.nle_refl, h.cut_all, h.cut_nil, h.map_cons, h.map_nil, h.len_nil, he_e_int32, he_e_uint8, if_true]; first | rfl | (cbv; done) | (cbv; simp only [h.map_cons, h.map_nil, h.len_nil, he_e_int32, he_e_uint8]; done))
            | true =>
              simp only [c9] at hp ⊢
              cbv
              cases hp
              first | rfl | (cbv; done) | (simp only [h.nadd0, h.nle_refl, h.cut_all, h.cut_nil, h.map_cons, h.map_nil, h.len_nil, he_e_int32, he_e_uint8, if_true]; done) | (simp only [h.nadd0, h.nle_refl, h.cut_all, h.cut_nil, h.map_cons, h.map_nil, h.len_nil, he_e_int32, he_e_uint8, if_true]; first | rfl | (cbv; done) | (cbv; simp only [h.map_cons, h.map_nil, h.len_nil, he_e_int32, he_e_uint8]; done))
          | true =>
            simp only [c8] at hp ⊢
            cbv
            cases hp
            first | rfl | (cbv; done) | (simp only [h.nadd0, h.nle_refl, h.cut_all, h.cut_nil, h.map_cons, h.map_nil, h.len_nil, he_e_int32, he_e_uint8, if_true]; done) | (simp only [h.nadd0, h.nle_refl, h.cut_all, h.cut_nil, h.map_cons, h.map_nil, h.len_nil, he_e_int32, he_e_uint8, if_true]; first | rfl | (cbv; done) | (cbv; simp only [h.map_cons, h.map_nil, h.len_nil, he_e_int32, he_e_uint8]; done))
        | true =>
          simp only [c7] at hp ⊢
          cbv
          cases hp
          first | rfl | (cbv; done) | (simp only [h.nadd0, h.nle_refl, h.cut_all, h.cut_nil, h.map_cons, h.map_nil, h.len_nil, he_e_int32, he_e_uint8, if_true]; done) | (simp only [h.nadd0, h.nle_refl, h.cut_all, h.cut_nil, h.map_cons, h.map_nil, h.len_nil, he_e_int32, he_e_uint8, if_true]; first | rfl | (cbv; done) | (cbv; simp only [h.map_cons, h.map_nil, h.len_nil, he_e_int32, he_e_uint8]; done))
      | true =>
        simp only at hp
        cbv
        cases hp
        first | rfl | (cbv; done) | (simp only [h.nadd0, h.nle_refl, h.cut_all, h.cut_nil, h.map_cons, h.map_nil, h.len_nil, he_e_int32, he_e_uint8, if_true]; done) | (simp only [h.nadd0, h.nle_refl, h.cut_all, h.cut_nil, h.map_cons, h.map_nil, h.len_nil, he_e_int32, he_e_uint8, if_true]; first | rfl | (cbv; done) | (cbv; simp only [h.map_cons, h.map_nil, h.len_nil, he_e_int32, he_e_uint8]; done))
def b_text_Bad_0 (P : Prims) (c_unicode_utf8_DecodeRuneInString : Str → Option (Int × Int)) (l_1 : Str → Str → Nat → Option (Int)) (v0 : Str) : Option (Int) :=
  l_1 v0 v0 0
theorem o_text_Bad_0 (c_unicode_utf8_DecodeRuneInString : Str → Option (Int × Int)) (h_unicode_utf8_DecodeRuneInString : ∀ {a0 : Str} {r0 : Int} {r1 : Int}, c_unicode_utf8_DecodeRuneInString a0 = some (r0, r1) → ∀ stk, xpcall 38 [(.d (.str a0))] stk = some (.d (.tup [(.int .i32 r0), (.int .i64 r1)]))) (stk : Stk) (m : Nat) (l_1 : Str → Str → Nat → Option (Int)) (v0 : Str) (h_l_1 : ∀ {v0 : Str} {o8_s : Str} {o8_p : Nat} {out}, l_1 v0 o8_s o8_p = some out → xat 19 true 1 [.lp ⟨1, [0, 8], [[8]]⟩, .blk 0, .sub ⟨4, [], []⟩] ⟨[(0, (.d (.str v0))), (8, (.ref ⟨m, [8]⟩ 0))], ⟨m, [([8], (.siter o8_s o8_p))]⟩ :: stk⟩ = (fun r0 => (some (.ret (.d (.int .i64 r0)), stk) : Rk')) out) {out} (hp : b_text_Bad_0 ⟨xar, xcmp, xwrap, xseq, xslt, xenc, pquo, pshf, pslen, psidx, pssub, pscat, psit, pslist, pofBytes, @plen, @pidx, @psub, @papp, @pset, @pmake, @ploop⟩ c_unicode_utf8_DecodeRuneInString l_1 v0 = some out) : xat 19 true 0 [] ⟨[(0, (.d (.str v0)))], ⟨m, []⟩ :: stk⟩ = (fun r0 => (some (.ret (.d (.int .i64 r0)), stk) : Rk')) out := by
  simp only [b_text_Bad_0] at hp
  rw [h.at_, hT]
  cbv
  first | exact h_l_1 hp | (have q := h_l_1 hp; simp only [h.map_cons, h.map_nil, h.len_nil, he_e_int32, he_e_uint8] at q; first | exact q | (cbv; exact q))
def b_text_Bad_1 (P : Prims) (c_unicode_utf8_DecodeRuneInString : Str → Option (Int × Int))  (v0 : Str) (o8_s : Str) (o8_p : Nat) : Option ((Str × Str × Nat) ⊕ (Int)) :=
  match P.sit o8_s o8_p with
  | none =>
    some (.inr (-1))
  | some (i1, r2, n3) =>
    match P.cmp .neq r2 65533 with
    | false =>
      match P.ssub v0 (some i1) none with
      | none => none
      | some s5 =>
        match c_unicode_utf8_DecodeRuneInString s5 with
        | none => none
        | some (r7_0, r7_1) =>
          match P.cmp .eql r7_1 1 with
          | false =>
            some (.inl (v0, o8_s, n3))
          | true =>
            some (.inr i1)
    | true =>
      some (.inl (v0, o8_s, n3))
theorem o_text_Bad_1 (c_unicode_utf8_DecodeRuneInString : Str → Option (Int × Int)) (h_unicode_utf8_DecodeRuneInString : ∀ {a0 : Str} {r0 : Int} {r1 : Int}, c_unicode_utf8_DecodeRuneInString a0 = some (r0, r1) → ∀ stk, xpcall 38 [(.d (.str a0))] stk = some (.d (.tup [(.int .i32 r0), (.int .i64 r1)]))) (stk : Stk) (m : Nat)  (v0 : Str) (o8_s : Str) (o8_p : Nat)  {out} (hp : b_text_Bad_1 ⟨xar, xcmp, xwrap, xseq, xslt, xenc, pquo, pshf, pslen, psidx, pssub, pscat, psit, pslist, pofBytes, @plen, @pidx, @psub, @papp, @pset, @pmake, @ploop⟩ c_unicode_utf8_DecodeRuneInString  v0 o8_s o8_p = some out) : xat 19 true 1 [.lp ⟨1, [0, 8], [[8]]⟩, .blk 0, .sub ⟨4, [], []⟩] ⟨[(0, (.d (.str v0))), (8, (.ref ⟨m, [8]⟩ 0))], ⟨m, [([8], (.siter o8_s o8_p))]⟩ :: stk⟩ = (Sum.elim (fun (v0, o8_s, o8_p) => xat 19 true 1 [.lp ⟨1, [0, 8], [[8]]⟩, .blk 0, .sub ⟨4, [], []⟩] ⟨[(0, (.d (.str v0))), (8, (.ref ⟨m, [8]⟩ 0))], ⟨m, [([8], (.siter o8_s o8_p))]⟩ :: stk⟩) (fun r0 => (some (.ret (.d (.int .i64 r0)), stk) : Rk'))) out := by
  simp only [b_text_Bad_1] at hp
  rw [h.at_, hT]
  cbv
  cases c11 : psit o8_s o8_p with
  | none =>
    simp only [c11] at hp
    have q1 := h.sit0 c11
    simp only [q1, Bool.false_eq_true, if_false]
    cbv
    rw [h.at_, hT]
    cbv
    cases hp
    first | rfl | (cbv; done) | (simp only [h.nadd0, h.nle_refl, h.cut_all, h.cut_nil, h.map_cons, h.map_nil, h.len_nil, he_e_int32, he_e_uint8, if_true]; done) | (simp only [h.nadd0, h.nle_refl, h.cut_all, h.cut_nil, h.map_cons, h.map_nil, h.len_nil, he_e_int32, he_e_uint8, if_true]; first | rfl | (cbv; done) | (cbv; simp only [h.map_cons, h.map_nil, h.len_nil, he_e_int32, he_e_uint8]; done))
  | some y12 =>
    obtain ⟨i1, r2, n3⟩ := y12
    simp only [c11] at hp
    obtain ⟨q1, q2, q3, q4⟩ := h.sit1 c11
    simp only [q1, q2, q3, q4, if_true]
    cbv
    rw [h.at_, hT]
    cbv
    cases c4 : xcmp .neq r2 65533 with
    | false =>
      simp only [c4] at hp ⊢
      cbv
      rw [h.at_, hT]
      cbv
      cases c6 : pssub v0 (some i1) none with
      | none => simp only [c6] at hp; cases hp
      | some s5 =>
        simp only [c6] at hp
        obtain ⟨q0, q1, q2, q3⟩ := h.ssub1 c6
        simp only [q0, q1, q2, q3, Bool.false_eq_true, if_false, if_true]
        cbv
        try simp only [q0, q1, q2, q3, if_true]
        cbv
        cases c8 : c_unicode_utf8_DecodeRuneInString s5 with
        | none => simp only [c8] at hp; cases hp
        | some y10 =>
          obtain ⟨r7_0, r7_1⟩ := y10
          simp only [c8] at hp
          have qc := h_unicode_utf8_DecodeRuneInString c8 (⟨m, [([8], (.siter o8_s n3))]⟩ :: stk)
          simp only [qc]
          cbv
          cases c9 : xcmp .eql r7_1 1 with
          | false =>
            simp only [c9] at hp ⊢
            cbv
            cases hp
            first | rfl | (cbv; done) | (simp only [h.nadd0, h.nle_refl, h.cut_all, h.cut_nil, h.map_cons, h.map_nil, h.len_nil, he_e_int32, he_e_uint8, if_true]; done) | (simp only [h.nadd0, h.nle_refl, h.cut_all, h.cut_nil, h.map_cons, h.map_nil, h.len_nil, he_e_int32, he_e_uint8, if_true]; first | rfl | (cbv; done) | (cbv; simp only [h.map_cons, h.map_nil, h.len_nil, he_e_int32, he_e_uint8]; done))
          | true =>
            simp only [c9] at hp ⊢
            cbv
            cases hp
            first | rfl | (cbv; done) | (simp only [h.nadd0, h.nle_refl, h.cut_all, h.cut_nil, h.map_cons, h.map_nil, h.len_nil, he_e_int32, he_e_uint8, if_true]; done) | (simp only [h.nadd0, h.nle_refl, h.cut_all, h.cut_nil, h.map_cons, h.map_nil, h.len_nil, he_e_int32, he_e_uint8, if_true]; first | rfl | (cbv; done) | (cbv; simp only [h.map_cons, h.map_nil, h.len_nil, he_e_int32, he_e_uint8]; done))
    | true =>
      simp only [c4] at hp ⊢
      cbv
      cases hp
      first | rfl | (cbv; done) | (simp only [h.nadd0, h.nle_refl, h.cut_all, h.cut_nil, h.map_cons, h.map_nil, h.len_nil, he_e_int32, he_e_uint8, if_true]; done) | (simp only [h.nadd0, h.nle_refl, h.cut_all, h.cut_nil, h.map_cons, h.map_nil, h.len_nil, he_e_int32, he_e_uint8, if_true]; first | rfl | (cbv; done) | (cbv; simp only [h.map_cons, h.map_nil, h.len_nil, he_e_int32, he_e_uint8]; done))
def b_text_Right_0 (P : Prims) (c_text_Bad : Str → Option (Int))  (v0 : Str) : Option (Bool) :=
  match c_text_Bad v0 with
  | none => none
  | some r1 =>
    some (P.cmp .lss r1 0)
theorem o_text_Right_0 (c_text_Bad : Str → Option (Int)) (h_text_Bad : ∀ {a0 : Str} {r0 : Int}, c_text_Bad a0 = some r0 → ∀ stk, xpcall 19 [(.d (.str a0))] stk = some (.d (.int .i64 r0))) (stk : Stk) (m : Nat)  (v0 : Str)  {out} (hp : b_text_Right_0 ⟨xar, xcmp, xwrap, xseq, xslt, xenc, pquo, pshf, pslen, psidx, pssub, pscat, psit, pslist, pofBytes, @plen, @pidx, @psub, @papp, @pset, @pmake, @ploop⟩ c_text_Bad  v0 = some out) : xat 17 true 0 [] ⟨[(0, (.d (.str v0)))], ⟨m, []⟩ :: stk⟩ = (fun r0 => (some (.ret (.d (.bool r0)), stk) : Rk')) out := by
  simp only [b_text_Right_0] at hp
  rw [h.at_, hT]
  cbv
  cases c2 : c_text_Bad v0 with
  | none => simp only [c2] at hp; cases hp
  | some r1 =>
    simp only [c2] at hp
    have qc := h_text_Bad c2 (⟨m, []⟩ :: stk)
    simp only [qc]
    cbv
    cases hp
    first | rfl | (cbv; done) | (simp only [h.nadd0, h.nle_refl, h.cut_all, h.cut_nil, h.map_cons, h.map_nil, h.len_nil, he_e_int32, he_e_uint8, if_true]; done) | (simp only [h.nadd0, h.nle_refl, h.cut_all, h.cut_nil, h.map_cons, h.map_nil, h.len_nil, he_e_int32, he_e_uint8, if_true]; first | rfl | (cbv; done) | (cbv; simp only [h.map_cons, h.map_nil, h.len_nil, he_e_int32, he_e_uint8]; done))
def b_cascadelaw01_awake_0 (P : Prims) (c_text_Name : Str → Option (Bool)) (c_text_Right : Str → Option (Bool)) (c_text_Bad : Str → Option (Int))   : Option (Bool) :=
  match c_text_Right [97] with
  | none => none
  | some r1 =>
    match r1 with
    | false =>
      some false
    | true =>
      match c_text_Bad [97] with
      | none => none
      | some r4 =>
        match P.cmp .eql r4 (-1) with
        | false =>
          some false
        | true =>
          match c_text_Name [97, 95, 49] with
          | none => none
          | some r7 =>
            some r7
theorem o_cascadelaw01_awake_0 (c_text_Name : Str → Option (Bool)) (c_text_Right : Str → Option (Bool)) (c_text_Bad : Str → Option (Int)) (h_text_Name : ∀ {a0 : Str} {r0 : Bool}, c_text_Name a0 = some r0 → ∀ stk, xpcall 15 [(.d (.str a0))] stk = some (.d (.bool r0))) (h_text_Right : ∀ {a0 : Str} {r0 : Bool}, c_text_Right a0 = some r0 → ∀ stk, xpcall 17 [(.d (.str a0))] stk = some (.d (.bool r0))) (h_text_Bad : ∀ {a0 : Str} {r0 : Int}, c_text_Bad a0 = some r0 → ∀ stk, xpcall 19 [(.d (.str a0))] stk = some (.d (.int .i64 r0))) (stk : Stk) (m : Nat)    {out} (hp : b_cascadelaw01_awake_0 ⟨xar, xcmp, xwrap, xseq, xslt, xenc, pquo, pshf, pslen, psidx, pssub, pscat, psit, pslist, pofBytes, @plen, @pidx, @psub, @papp, @pset, @pmake, @ploop⟩ c_text_Name c_text_Right c_text_Bad   = some out) : xat 14 true 0 [] ⟨[], ⟨m, []⟩ :: stk⟩ = (fun r0 => (some (.ret (.d (.bool r0)), stk) : Rk')) out := by
  simp only [b_cascadelaw01_awake_0] at hp
  rw [h.at_, hT]
  cbv
  cases c2 : c_text_Right [97] with
  | none => simp only [c2] at hp; cases hp
  | some r1 =>
    simp only [c2] at hp
    have qc := h_text_Right c2 (⟨m, []⟩ :: stk)
    simp only [qc]
    cbv
    cases r1 with
    | false =>
      simp only at hp
      cbv
      cases hp
      first | rfl | (cbv; done) | (simp only [h.nadd0, h.nle_refl, h.cut_all, h.cut_nil, h.map_cons, h.map_nil, h.len_nil, he_e_int32, he_e_uint8, if_true]; done) | (simp only [h.nadd0, h.nle_refl, h.cut_all, h.cut_nil, h.map_cons, h.map_nil, h.len_nil, he_e_int32, he_e_uint8, if_true]; first | rfl | (cbv; done) | (cbv; simp only [h.map_cons, h.map_nil, h.len_nil, he_e_int32, he_e_uint8]; done))
    | true =>
      simp only at hp
      cbv
      cases c5 : c_text_Bad [97] with
      | none => simp only [c5] at hp; cases hp
      | some r4 =>
        simp only [c5] at hp
        have qc := h_text_Bad c5 (⟨m, []⟩ :: stk)
        simp only [qc]
        cbv
        cases c6 : xcmp .eql r4 (-1) with
        | false =>
          simp only [c6] at hp ⊢
          cbv
          cases hp
          first | rfl | (cbv; done) | (simp only [h.nadd0, h.nle_refl, h.cut_all, h.cut_nil, h.map_cons, h.map_nil, h.len_nil, he_e_int32, he_e_uint8, if_true]; done) | (simp only [h.nadd0, h.nle_refl, h.cut_all, h.cut_nil, h.map_cons, h.map_nil, h.len_nil, he_e_int32, he_e_uint8, if_true]; first | rfl | (cbv; done) | (cbv; simp only [h.map_cons, h.map_nil, h.len_nil, he_e_int32, he_e_uint8]; done))
        | true =>
          simp only [c6] at hp ⊢
          cbv
          cases c8 : c_text_Name [97, 95, 49] with
          | none => simp only [c8] at hp; cases hp
          | some r7 =>
            simp only [c8] at hp
            have qc := h_text_Name c8 (⟨m, []⟩ :: stk)
            simp only [qc]
            cbv
            cases hp
            first | rfl | (cbv; done) | (simp only [h.nadd0, h.nle_refl, h.cut_all, h.cut_nil, h.map_cons, h.map_nil, h.len_nil, he_e_int32, he_e_uint8, if_true]; done) | (simp only [h.nadd0, h.nle_refl, h.cut_all, h.cut_nil, h.map_cons, h.map_nil, h.len_nil, he_e_int32, he_e_uint8, if_true]; first | rfl | (cbv; done) | (cbv; simp only [h.map_cons, h.map_nil, h.len_nil, he_e_int32, he_e_uint8]; done))
def b_cascaderef01_Letter_0 (P : Prims)   (v0 : Int) : Option (Bool) :=
  match P.cmp .geq v0 97 with
  | false =>
    match P.cmp .geq v0 65 with
    | false =>
      some (P.cmp .eql v0 95)
    | true =>
      match P.cmp .leq v0 90 with
      | false =>
        some (P.cmp .eql v0 95)
      | true =>
        some true
  | true =>
    match P.cmp .leq v0 122 with
    | false =>
      match P.cmp .geq v0 65 with
      | false =>
        some (P.cmp .eql v0 95)
      | true =>
        match P.cmp .leq v0 90 with
        | false =>
          some (P.cmp .eql v0 95)
        | true =>
          some true
    | true =>
      some true
theorem o_cascaderef01_Letter_0   (stk : Stk) (m : Nat)  (v0 : Int)  {out} (hp : b_cascaderef01_Letter_0 ⟨xar, xcmp, xwrap, xseq, xslt, xenc, pquo, pshf, pslen, psidx, pssub, pscat, psit, pslist, pofBytes, @plen, @pidx, @psub, @papp, @pset, @pmake, @ploop⟩   v0 = some out) : xat 35 true 0 [] ⟨[(0, (.d (.int .u8 v0)))], ⟨m, []⟩ :: stk⟩ = (fun r0 => (some (.ret (.d (.bool r0)), stk) : Rk')) out := by
  simp only [b_cascaderef01_Letter_0] at hp
  rw [h.at_, hT]
  cbv
  cases c1 : xcmp .geq v0 97 with
  | false =>
    simp only [c1] at hp ⊢
    cbv
    cases c5 : xcmp .geq v0 65 with
    | false =>
      simp only [c5] at hp ⊢
      cbv
      cases hp
      first | rfl | (cbv; done) | (simp only [h.nadd0, h.nle_refl, h.cut_all, h.cut_nil, h.map_cons, h.map_nil, h.len_nil, he_e_int32, he_e_uint8, if_true]; done) | (simp only [h.nadd0, h.nle_refl, h.cut_all, h.cut_nil, h.map_cons, h.map_nil, h.len_nil, he_e_int32, he_e_uint8, if_true]; first | rfl | (cbv; done) | (cbv; simp only [h.map_cons, h.map_nil, h.len_nil, he_e_int32, he_e_uint8]; done))
    | true =>
      simp only [c5] at hp ⊢
      cbv
      cases c6 : xcmp .leq v0 90 with
      | false =>
        simp only [c6] at hp ⊢
        cbv
        cases hp
        first | rfl | (cbv; done) | (simp only [h.nadd0, h.nle_refl, h.cut_all, h.cut_nil, h.map_cons, h.map_nil, h.len_nil, he_e_int32, he_e_uint8, if_true]; done) | (simp only [h.nadd0, h.nle_refl, h.cut_all, h.cut_nil, h.map_cons, h.map_nil, h.len_nil, he_e_int32, he_e_uint8, if_true]; first | rfl | (cbv; done) | (cbv; simp only [h.map_cons, h.map_nil, h.len_nil, he_e_int32, he_e_uint8]; done))
      | true =>
        simp only [c6] at hp ⊢
        cbv
        cases hp
        first | rfl | (cbv; done) | (simp only [h.nadd0, h.nle_refl, h.cut_all, h.cut_nil, h.map_cons, h.map_nil, h.len_nil, he_e_int32, he_e_uint8, if_true]; done) | (simp only [h.nadd0, h.nle_refl, h.cut_all, h.cut_nil, h.map_cons, h.map_nil, h.len_nil, he_e_int32, he_e_uint8, if_true]; first | rfl | (cbv; done) | (cbv; simp only [h.map_cons, h.map_nil, h.len_nil, he_e_int32, he_e_uint8]; done))
  | true =>
    simp only [c1] at hp ⊢
    cbv
    cases c2 : xcmp .leq v0 122 with
    | false =>
      simp only [c2] at hp ⊢
      cbv
      cases c3 : xcmp .geq v0 65 with
      | false =>
        simp only [c3] at hp ⊢
        cbv
        cases hp
        first | rfl | (cbv; done) | (simp only [h.nadd0, h.nle_refl, h.cut_all, h.cut_nil, h.map_cons, h.map_nil, h.len_nil, he_e_int32, he_e_uint8, if_true]; done) | (simp only [h.nadd0, h.nle_refl, h.cut_all, h.cut_nil, h.map_cons, h.map_nil, h.len_nil, he_e_int32, he_e_uint8, if_true]; first | rfl | (cbv; done) | (cbv; simp only [h.map_cons, h.map_nil, h.len_nil, he_e_int32, he_e_uint8]; done))
      | true =>
        simp only [c3] at hp ⊢
        cbv
        cases c4 : xcmp .leq v0 90 with
        | false =>
          simp only [c4] at hp ⊢
          cbv
          cases hp
          first | rfl | (cbv; done) | (simp only [h.nadd0, h.nle_refl, h.cut_all, h.cut_nil, h.map_cons, h.map_nil, h.len_nil, he_e_int32, he_e_uint8, if_true]; done) | (simp only [h.nadd0, h.nle_refl, h.cut_all, h.cut_nil, h.map_cons, h.map_nil, h.len_nil, he_e_int32, he_e_uint8, if_true]; first | rfl | (cbv; done) | (cbv; simp only [h.map_cons, h.map_nil, h.len_nil, he_e_int32, he_e_uint8]; done))
        | true =>
          simp only [c4] at hp ⊢
          cbv
          cases hp
          first | rfl | (cbv; done) | (simp only [h.nadd0, h.nle_refl, h.cut_all, h.cut_nil, h.map_cons, h.map_nil, h.len_nil, he_e_int32, he_e_uint8, if_true]; done) | (simp only [h.nadd0, h.nle_refl, h.cut_all, h.cut_nil, h.map_cons, h.map_nil, h.len_nil, he_e_int32, he_e_uint8, if_true]; first | rfl | (cbv; done) | (cbv; simp only [h.map_cons, h.map_nil, h.len_nil, he_e_int32, he_e_uint8]; done))
    | true =>
      simp only [c2] at hp ⊢
      cbv
      cases hp
      first | rfl | (cbv; done) | (simp only [h.nadd0, h.nle_refl, h.cut_all, h.cut_nil, h.map_cons, h.map_nil, h.len_nil, he_e_int32, he_e_uint8, if_true]; done) | (simp only [h.nadd0, h.nle_refl, h.cut_all, h.cut_nil, h.map_cons, h.map_nil, h.len_nil, he_e_int32, he_e_uint8, if_true]; first | rfl | (cbv; done) | (cbv; simp only [h.map_cons, h.map_nil, h.len_nil, he_e_int32, he_e_uint8]; done))
def b_cascaderef01_Digit_0 (P : Prims)   (v0 : Int) : Option (Bool) :=
  match P.cmp .geq v0 48 with
  | false =>
    some false
  | true =>
    some (P.cmp .leq v0 57)
theorem o_cascaderef01_Digit_0   (stk : Stk) (m : Nat)  (v0 : Int)  {out} (hp : b_cascaderef01_Digit_0 ⟨xar, xcmp, xwrap, xseq, xslt, xenc, pquo, pshf, pslen, psidx, pssub, pscat, psit, pslist, pofBytes, @plen, @pidx, @psub, @papp, @pset, @pmake, @ploop⟩   v0 = some out) : xat 36 true 0 [] ⟨[(0, (.d (.int .u8 v0)))], ⟨m, []⟩ :: stk⟩ = (fun r0 => (some (.ret (.d (.bool r0)), stk) : Rk')) out := by
  simp only [b_cascaderef01_Digit_0] at hp
  rw [h.at_, hT]
  cbv
  cases c1 : xcmp .geq v0 48 with
  | false =>
    simp only [c1] at hp ⊢
    cbv
    cases hp
    first | rfl | (cbv; done) | (simp only [h.nadd0, h.nle_refl, h.cut_all, h.cut_nil, h.map_cons, h.map_nil, h.len_nil, he_e_int32, he_e_uint8, if_true]; done) | (simp only [h.nadd0, h.nle_refl, h.cut_all, h.cut_nil, h.map_cons, h.map_nil, h.len_nil, he_e_int32, he_e_uint8, if_true]; first | rfl | (cbv; done) | (cbv; simp only [h.map_cons, h.map_nil, h.len_nil, he_e_int32, he_e_uint8]; done))
  | true =>
    simp only [c1] at hp ⊢
    cbv
    cases hp
    first | rfl | (cbv; done) | (simp only [h.nadd0, h.nle_refl, h.cut_all, h.cut_nil, h.map_cons, h.map_nil, h.len_nil, he_e_int32, he_e_uint8, if_true]; done) | (simp only [h.nadd0, h.nle_refl, h.cut_all, h.cut_nil, h.map_cons, h.map_nil, h.len_nil, he_e_int32, he_e_uint8, if_true]; first | rfl | (cbv; done) | (cbv; simp only [h.map_cons, h.map_nil, h.len_nil, he_e_int32, he_e_uint8]; done))
def b_cascaderef01_Name_0 (P : Prims) (c_cascaderef01_Letter : Int → Option (Bool)) (c_cascaderef01_Digit : Int → Option (Bool)) (l_1 : Str → Int → Option (Bool)) (v0 : Str) : Option (Bool) :=
  l_1 v0 0
theorem o_cascaderef01_Name_0 (c_cascaderef01_Letter : Int → Option (Bool)) (c_cascaderef01_Digit : Int → Option (Bool)) (h_cascaderef01_Letter : ∀ {a0 : Int} {r0 : Bool}, c_cascaderef01_Letter a0 = some r0 → ∀ stk, xpcall 35 [(.d (.int .u8 a0))] stk = some (.d (.bool r0))) (h_cascaderef01_Digit : ∀ {a0 : Int} {r0 : Bool}, c_cascaderef01_Digit a0 = some r0 → ∀ stk, xpcall 36 [(.d (.int .u8 a0))] stk = some (.d (.bool r0))) (stk : Stk) (m : Nat) (l_1 : Str → Int → Option (Bool)) (v0 : Str) (h_l_1 : ∀ {v0 : Str} {v3 : Int} {out}, l_1 v0 v3 = some out → xat 16 true 1 [.lp ⟨1, [0, 3], []⟩, .blk 0, .sub ⟨4, [0], []⟩] ⟨[(0, (.d (.str v0))), (3, (.d (.int .i64 v3)))], ⟨m, []⟩ :: stk⟩ = (fun r0 => (some (.ret (.d (.bool r0)), stk) : Rk')) out) {out} (hp : b_cascaderef01_Name_0 ⟨xar, xcmp, xwrap, xseq, xslt, xenc, pquo, pshf, pslen, psidx, pssub, pscat, psit, pslist, pofBytes, @plen, @pidx, @psub, @papp, @pset, @pmake, @ploop⟩ c_cascaderef01_Letter c_cascaderef01_Digit l_1 v0 = some out) : xat 16 true 0 [] ⟨[(0, (.d (.str v0)))], ⟨m, []⟩ :: stk⟩ = (fun r0 => (some (.ret (.d (.bool r0)), stk) : Rk')) out := by
  simp only [b_cascaderef01_Name_0] at hp
  rw [h.at_, hT]
  cbv
  first | exact h_l_1 hp | (have q := h_l_1 hp; simp only [h.map_cons, h.map_nil, h.len_nil, he_e_int32, he_e_uint8] at q; first | exact q | (cbv; exact q))
def b_cascaderef01_Name_1 (P : Prims) (c_cascaderef01_Letter : Int → Option (Bool)) (c_cascaderef01_Digit : Int → Option (Bool)) (l_3 : Str → Int → Option ((Str × Int) ⊕ (Bool))) (v0 : Str) (v3 : Int) : Option ((Str × Int) ⊕ (Bool)) :=
  match P.cmp .lss v3 (P.slen v0) with
  | false =>
    some (.inr (P.cmp .gtr (P.slen v0) 0))
  | true =>
    match P.sidx v0 v3 with
    | none => none
    | some b2 =>
      match c_cascaderef01_Letter b2 with
      | none => none
      | some r4 =>
        match r4 with
        | false =>
          match P.cmp .eql v3 0 with
          | false =>
            match c_cascaderef01_Digit b2 with
            | none => none
            | some r8 =>
              match r8 with
              | false =>
                some (.inr false)
              | true =>
                l_3 v0 v3
          | true =>
            some (.inr false)
        | true =>
          l_3 v0 v3
theorem o_cascaderef01_Name_1 (c_cascaderef01_Letter : Int → Option (Bool)) (c_cascaderef01_Digit : Int → Option (Bool)) (h_cascaderef01_Letter : ∀ {a0 : Int} {r0 : Bool}, c_cascaderef01_Letter a0 = some r0 → ∀ stk, xpcall 35 [(.d (.int .u8 a0))] stk = some (.d (.bool r0))) (h_cascaderef01_Digit : ∀ {a0 : Int} {r0 : Bool}, c_cascaderef01_Digit a0 = some r0 → ∀ stk, xpcall 36 [(.d (.int .u8 a0))] stk = some (.d (.bool r0))) (stk : Stk) (m : Nat) (l_3 : Str → Int → Option ((Str × Int) ⊕ (Bool))) (v0 : Str) (v3 : Int) (h_l_3 : ∀ {v0 : Str} {v3 : Int} {out}, l_3 v0 v3 = some out → xat 16 true 3 [.lp ⟨1, [0, 3], []⟩, .blk 0, .sub ⟨4, [0], []⟩] ⟨[(0, (.d (.str v0))), (3, (.d (.int .i64 v3)))], ⟨m, []⟩ :: stk⟩ = (Sum.elim (fun (v0, v3) => xat 16 true 1 [.lp ⟨1, [0, 3], []⟩, .blk 0, .sub ⟨4, [0], []⟩] ⟨[(0, (.d (.str v0))), (3, (.d (.int .i64 v3)))], ⟨m, []⟩ :: stk⟩) (fun r0 => (some (.ret (.d (.bool r0)), stk) : Rk'))) out) {out} (hp : b_cascaderef01_Name_1 ⟨xar, xcmp, xwrap, xseq, xslt, xenc, pquo, pshf, pslen, psidx, pssub, pscat, psit, pslist, pofBytes, @plen, @pidx, @psub, @papp, @pset, @pmake, @ploop⟩ c_cascaderef01_Letter c_cascaderef01_Digit l_3 v0 v3 = some out) : xat 16 true 1 [.lp ⟨1, [0, 3], []⟩, .blk 0, .sub ⟨4, [0], []⟩] ⟨[(0, (.d (.str v0))), (3, (.d (.int .i64 v3)))], ⟨m, []⟩ :: stk⟩ = (Sum.elim (fun (v0, v3) => xat 16 true 1 [.lp ⟨1, [0, 3], []⟩, .blk 0, .sub ⟨4, [0], []⟩] ⟨[(0, (.d (.str v0))), (3, (.d (.int .i64 v3)))], ⟨m, []⟩ :: stk⟩) (fun r0 => (some (.ret (.d (.bool r0)), stk) : Rk'))) out := by
  simp only [b_cascaderef01_Name_1] at hp
  rw [h.at_, hT]
  cbv
  try simp only [h.slen]
  cases c1 : xcmp .lss v3 (pslen v0) with
  | false =>
    simp only [c1] at hp ⊢
    cbv
    rw [h.at_, hT]
    cbv
    try simp only [h.slen]
    cases hp
    first | rfl | (cbv; done) | (simp only [h.nadd0, h.nle_refl, h.cut_all, h.cut_nil, h.map_cons, h.map_nil, h.len_nil, he_e_int32, he_e_uint8, if_true]; done) | (simp only [h.nadd0, h.nle_refl, h.cut_all, h.cut_nil, h.map_cons, h.map_nil, h.len_nil, he_e_int32, he_e_uint8, if_true]; first | rfl | (cbv; done) | (cbv; simp only [h.map_cons, h.map_nil, h.len_nil, he_e_int32, he_e_uint8]; done))
  | true =>
    simp only [c1] at hp ⊢
    cbv
    rw [h.at_, hT]
    cbv
    cases c3 : psidx v0 v3 with
    | none => simp only [c3] at hp; cases hp
    | some b2 =>
      simp only [c3] at hp
      obtain ⟨w, q1, q2, q3⟩ := h.sidx c3
      simp only [q1, q2, q3, Bool.false_eq_true, if_false]
      cbv
      cases c5 : c_cascaderef01_Letter b2 with
      | none => simp only [c5] at hp; cases hp
      | some r4 =>
        simp only [c5] at hp
        have qc := h_cascaderef01_Letter c5 (⟨m, []⟩ :: stk)
        simp only [qc]
        cbv
        cases r4 with
        | false =>
          simp only at hp
          cbv
          cases c7 : xcmp .eql v3 0 with
          | false =>
            simp only [c7] at hp ⊢
            cbv
            obtain ⟨w, q1, q2, q3⟩ := h.sidx c3
            simp only [q1, q2, q3, Bool.false_eq_true, if_false]
            cbv
            cases c9 : c_cascaderef01_Digit b2 with
            | none => simp only [c9] at hp; cases hp
            | some r8 =>
              simp only [c9] at hp
              have qc := h_cascaderef01_Digit c9 (⟨m, []⟩ :: stk)
              simp only [qc]
              cbv
              cases r8 with
              | false =>
                simp only at hp
                cbv
                cases hp
                first | rfl | (cbv; done) | (simp only [h.nadd0, h.nle_refl, h.cut_all, h.cut_nil, h.map_cons, h.map_nil, h.len_nil, he_e_int32, he_e_uint8, if_true]; done) | (simp only [h.nadd0, h.nle_refl, h.cut_all, h.cut_nil, h.map_cons, h.map_nil, h.len_nil, he_e_int32, he_e_uint8, if_true]; first | rfl | (cbv; done) | (cbv; simp only [h.map_cons, h.map_nil, h.len_nil, he_e_int32, he_e_uint8]; done))
              | true =>
                simp only at hp
                cbv
                first | exact h_l_3 hp | (have q := h_l_3 hp; simp only [h.map_cons, h.map_nil, h.len_nil, he_e_int32, he_e_uint8] at q; first | exact q | (cbv; exact q))
          | true =>
            simp only [c7] at hp ⊢
            cbv
            cases hp
            first | rfl | (cbv; done) | (simp only [h.nadd0, h.nle_refl, h.cut_all, h.cut_nil, h.map_cons, h.map_nil, h.len_nil, he_e_int32, he_e_uint8, if_true]; done) | (simp only [h.nadd0, h.nle_refl, h.cut_all, h.cut_nil, h.map_cons, h.map_nil, h.len_nil, he_e_int32, he_e_uint8, if_true]; first | rfl | (cbv; done) | (cbv; simp only [h.map_cons, h.map_nil, h.len_nil, he_e_int32, he_e_uint8]; done))
        | true =>
          simp only at hp
          cbv
          first | exact h_l_3 hp | (have q := h_l_3 hp; simp only [h.map_cons, h.map_nil, h.len_nil, he_e_int32, he_e_uint8] at q; first | exact q | (cbv; exact q))
def b_cascaderef01_Name_3 (P : Prims) (c_cascaderef01_Letter : Int → Option (Bool)) (c_cascaderef01_Digit : Int → Option (Bool))  (v0 : Str) (v3 : Int) : Option ((Str × Int) ⊕ (Bool)) :=
  some (.inl (v0, P.ar .add .i64 v3 1))
theorem o_cascaderef01_Name_3 (c_cascaderef01_Letter : Int → Option (Bool)) (c_cascaderef01_Digit : Int → Option (Bool)) (h_cascaderef01_Letter : ∀ {a0 : Int} {r0 : Bool}, c_cascaderef01_Letter a0 = some r0 → ∀ stk, xpcall 35 [(.d (.int .u8 a0))] stk = some (.d (.bool r0))) (h_cascaderef01_Digit : ∀ {a0 : Int} {r0 : Bool}, c_cascaderef01_Digit a0 = some r0 → ∀ stk, xpcall 36 [(.d (.int .u8 a0))] stk = some (.d (.bool r0))) (stk : Stk) (m : Nat)  (v0 : Str) (v3 : Int)  {out} (hp : b_cascaderef01_Name_3 ⟨xar, xcmp, xwrap, xseq, xslt, xenc, pquo, pshf, pslen, psidx, pssub, pscat, psit, pslist, pofBytes, @plen, @pidx, @psub, @papp, @pset, @pmake, @ploop⟩ c_cascaderef01_Letter c_cascaderef01_Digit  v0 v3 = some out) : xat 16 true 3 [.lp ⟨1, [0, 3], []⟩, .blk 0, .sub ⟨4, [0], []⟩] ⟨[(0, (.d (.str v0))), (3, (.d (.int .i64 v3)))], ⟨m, []⟩ :: stk⟩ = (Sum.elim (fun (v0, v3) => xat 16 true 1 [.lp ⟨1, [0, 3], []⟩, .blk 0, .sub ⟨4, [0], []⟩] ⟨[(0, (.d (.str v0))), (3, (.d (.int .i64 v3)))], ⟨m, []⟩ :: stk⟩) (fun r0 => (some (.ret (.d (.bool r0)), stk) : Rk'))) out := by
  simp only [b_cascaderef01_Name_3] at hp
  rw [h.at_, hT]
  cbv
  cases hp
  first | rfl | (cbv; done) | (simp only [h.nadd0, h.nle_refl, h.cut_all, h.cut_nil, h.map_cons, h.map_nil, h.len_nil, he_e_int32, he_e_uint8, if_true]; done) | (simp only [h.nadd0, h.nle_refl, h.cut_all, h.cut_nil, h.map_cons, h.map_nil, h.len_nil, he_e_int32, he_e_uint8, if_true]; first | rfl | (cbv; done) | (cbv; simp only [h.map_cons, h.map_nil, h.len_nil, he_e_int32, he_e_uint8]; done))
def b_cascadelaw01_TextNames_0 (P : Prims) (c_cascadelaw01_awake : Option (Bool)) (c_text_Name : Str → Option (Bool)) (c_cascaderef01_Name : Str → Option (Bool)) (c_text_Right : Str → Option (Bool))  (v0 : Str) : Option (Bool) :=
  match c_cascadelaw01_awake with
  | none => none
  | some r1 =>
    match r1 with
    | false =>
      some r1
    | true =>
      match P.cmp .gtr (P.slen v0) 200 with
      | false =>
        match c_text_Name v0 with
        | none => none
        | some r5 =>
          match c_cascaderef01_Name v0 with
          | none => none
          | some r7 =>
            match r5 with
            | false =>
              match r7 with
              | false =>
                some true
              | true =>
                some false
            | true =>
              match r7 with
              | false =>
                some false
              | true =>
                match c_text_Right v0 with
                | none => none
                | some r11 =>
                  some r11
      | true =>
        some r1
theorem o_cascadelaw01_TextNames_0 (c_cascadelaw01_awake : Option (Bool)) (c_text_Name : Str → Option (Bool)) (c_cascaderef01_Name : Str → Option (Bool)) (c_text_Right : Str → Option (Bool)) (h_cascadelaw01_awake : ∀ {r0 : Bool}, c_cascadelaw01_awake  = some r0 → ∀ stk, xpcall 14 [] stk = some (.d (.bool r0))) (h_text_Name : ∀ {a0 : Str} {r0 : Bool}, c_text_Name a0 = some r0 → ∀ stk, xpcall 15 [(.d (.str a0))] stk = some (.d (.bool r0))) (h_cascaderef01_Name : ∀ {a0 : Str} {r0 : Bool}, c_cascaderef01_Name a0 = some r0 → ∀ stk, xpcall 16 [(.d (.str a0))] stk = some (.d (.bool r0))) (h_text_Right : ∀ {a0 : Str} {r0 : Bool}, c_text_Right a0 = some r0 → ∀ stk, xpcall 17 [(.d (.str a0))] stk = some (.d (.bool r0))) (stk : Stk) (m : Nat)  (v0 : Str)  {out} (hp : b_cascadelaw01_TextNames_0 ⟨xar, xcmp, xwrap, xseq, xslt, xenc, pquo, pshf, pslen, psidx, pssub, pscat, psit, pslist, pofBytes, @plen, @pidx, @psub, @papp, @pset, @pmake, @ploop⟩ c_cascadelaw01_awake c_text_Name c_cascaderef01_Name c_text_Right  v0 = some out) : xat 3 true 0 [] ⟨[(0, (.d (.str v0)))], ⟨m, []⟩ :: stk⟩ = (fun r0 => (some (.ret (.d (.bool r0)), stk) : Rk')) out := by
  simp only [b_cascadelaw01_TextNames_0] at hp
  rw [h.at_, hT]
  cbv
  cases c2 : c_cascadelaw01_awake with
  | none => simp only [c2] at hp; cases hp
  | some r1 =>
    simp only [c2] at hp
    have qc := h_cascadelaw01_awake c2 (⟨m, []⟩ :: stk)
    simp only [qc]
    cbv
    cases r1 with
    | false =>
      simp only at hp
      cbv
      have qc := h_cascadelaw01_awake c2 (⟨m, []⟩ :: stk)
      simp only [qc]
      cbv
      cases hp
      first | rfl | (cbv; done) | (simp only [h.nadd0, h.nle_refl, h.cut_all, h.cut_nil, h.map_cons, h.map_nil, h.len_nil, he_e_int32, he_e_uint8, if_true]; done) | (simp only [h.nadd0, h.nle_refl, h.cut_all, h.cut_nil, h.map_cons, h.map_nil, h.len_nil, he_e_int32, he_e_uint8, if_true]; first | rfl | (cbv; done) | (cbv; simp only [h.map_cons, h.map_nil, h.len_nil, he_e_int32, he_e_uint8]; done))
    | true =>
      simp only at hp
      cbv
      try simp only [h.slen]
      cases c4 : xcmp .gtr (pslen v0) 200 with
      | false =>
        simp only [c4] at hp ⊢
        cbv
        rw [h.at_, hT]
        cbv
        cases c6 : c_text_Name v0 with
        | none => simp only [c6] at hp; cases hp
        | some r5 =>
          simp only [c6] at hp
          have qc := h_text_Name c6 (⟨m, []⟩ :: stk)
          simp only [qc]
          cbv
          cases c8 : c_cascaderef01_Name v0 with
          | none => simp only [c8] at hp; cases hp
          | some r7 =>
            simp only [c8] at hp
            have qc := h_cascaderef01_Name c8 (⟨m, []⟩ :: stk)
            simp only [qc]
            cbv
            cases r5 with
            | false =>
              simp only at hp
              cbv
              cases r7 with
              | false =>
                simp only at hp
                cbv
                have qc := h_text_Name c6 (⟨m, []⟩ :: stk)
                simp only [qc]
                cbv
                cases hp
                first | rfl | (cbv; done) | (simp only [h.nadd0, h.nle_refl, h.cut_all, h.cut_nil, h.map_cons, h.map_nil, h.len_nil, he_e_int32, he_e_uint8, if_true]; done) | (simp only [h.nadd0, h.nle_refl, h.cut_all, h.cut_nil, h.map_cons, h.map_nil, h.len_nil, he_e_int32, he_e_uint8, if_true]; first | rfl | (cbv; done) | (cbv; simp only [h.map_cons, h.map_nil, h.len_nil, he_e_int32, he_e_uint8]; done))
              | true =>
                simp only at hp
                cbv
                cases hp
                first | rfl | (cbv; done) | (simp only [h.nadd0, h.nle_refl, h.cut_all, h.cut_nil, h.map_cons, h.map_nil, h.len_nil, he_e_int32, he_e_uint8, if_true]; done) | (simp only [h.nadd0, h.nle_refl, h.cut_all, h.cut_nil, h.map_cons, h.map_nil, h.len_nil, he_e_int32, he_e_uint8, if_true]; first | rfl | (cbv; done) | (cbv; simp only [h.map_cons, h.map_nil, h.len_nil, he_e_int32, he_e_uint8]; done))
            | true =>
              simp only at hp
              cbv
              cases r7 with
              | false =>
                simp only at hp
                cbv
                cases hp
                first | rfl | (cbv; done) | (simp only [h.nadd0, h.nle_refl, h.cut_all, h.cut_nil, h.map_cons, h.map_nil, h.len_nil, he_e_int32, he_e_uint8, if_true]; done) | (simp only [h.nadd0, h.nle_refl, h.cut_all, h.cut_nil, h.map_cons, h.map_nil, h.len_nil, he_e_int32, he_e_uint8, if_true]; first | rfl | (cbv; done) | (cbv; simp only [h.map_cons, h.map_nil, h.len_nil, he_e_int32, he_e_uint8]; done))
              | true =>
                simp only at hp
                cbv
                have qc := h_text_Name c6 (⟨m, []⟩ :: stk)
                simp only [qc]
                cbv
                cases c12 : c_text_Right v0 with
                | none => simp only [c12] at hp; cases hp
                | some r11 =>
                  simp only [c12] at hp
                  have qc := h_text_Right c12 (⟨m, []⟩ :: stk)
                  simp only [qc]
                  cbv
                  cases hp
                  first | rfl | (cbv; done) | (simp only [h.nadd0, h.nle_refl, h.cut_all, h.cut_nil, h.map_cons, h.map_nil, h.len_nil, he_e_int32, he_e_uint8, if_true]; done) | (simp only [h.nadd0, h.nle_refl, h.cut_all, h.cut_nil, h.map_cons, h.map_nil, h.len_nil, he_e_int32, he_e_uint8, if_true]; first | rfl | (cbv; done) | (cbv; simp only [h.map_cons, h.map_nil, h.len_nil, he_e_int32, he_e_uint8]; done))
      | true =>
        simp only [c4] at hp ⊢
        cbv
        have qc := h_cascadelaw01_awake c2 (⟨m, []⟩ :: stk)
        simp only [qc]
        cbv
        cases hp
        first | rfl | (cbv; done) | (simp only [h.nadd0, h.nle_refl, h.cut_all, h.cut_nil, h.map_cons, h.map_nil, h.len_nil, he_e_int32, he_e_uint8, if_true]; done) | (simp only [h.nadd0, h.nle_refl, h.cut_all, h.cut_nil, h.map_cons, h.map_nil, h.len_nil, he_e_int32, he_e_uint8, if_true]; first | rfl | (cbv; done) | (cbv; simp only [h.map_cons, h.map_nil, h.len_nil, he_e_int32, he_e_uint8]; done))
def b_cascaderef01_Size_0 (P : Prims)  (l_2 : Str → Int → Int → Int → Int → Int → Option (Int × Int)) (v0 : Str) (v1 : Int) : Option (Int × Int) :=
  match P.sidx v0 v1 with
  | none => none
  | some b1 =>
    match P.cmp .lss (P.wrap .i64 b1) 128 with
    | false =>
      match P.cmp .geq (P.wrap .i64 b1) 194 with
      | false =>
        l_2 v0 v1 (P.wrap .i64 b1) 0 0 0
      | true =>
        match P.cmp .lss (P.wrap .i64 b1) 224 with
        | false =>
          l_2 v0 v1 (P.wrap .i64 b1) 0 0 0
        | true =>
          l_2 v0 v1 (P.wrap .i64 b1) 2 (P.ar .sub .i64 (P.wrap .i64 b1) 192) 128
    | true =>
      some (1, P.wrap .i32 (P.wrap .i64 b1))
theorem o_cascaderef01_Size_0   (stk : Stk) (m : Nat) (l_2 : Str → Int → Int → Int → Int → Int → Option (Int × Int)) (v0 : Str) (v1 : Int) (h_l_2 : ∀ {v0 : Str} {v1 : Int} {v6 : Int} {v7 : Int} {v8 : Int} {v9 : Int} {out}, l_2 v0 v1 v6 v7 v8 v9 = some out → xat 37 true 2 [] ⟨[(0, (.d (.str v0))), (1, (.d (.int .i64 v1))), (6, (.d (.int .i64 v6))), (7, (.d (.int .i64 v7))), (8, (.d (.int .i64 v8))), (9, (.d (.int .i64 v9)))], ⟨m, []⟩ :: stk⟩ = (fun (r0, r1) => (some (.ret (.d (.tup [(.int .i64 r0), (.int .i32 r1)])), stk) : Rk')) out) {out} (hp : b_cascaderef01_Size_0 ⟨xar, xcmp, xwrap, xseq, xslt, xenc, pquo, pshf, pslen, psidx, pssub, pscat, psit, pslist, pofBytes, @plen, @pidx, @psub, @papp, @pset, @pmake, @ploop⟩  l_2 v0 v1 = some out) : xat 37 true 0 [] ⟨[(0, (.d (.str v0))), (1, (.d (.int .i64 v1)))], ⟨m, []⟩ :: stk⟩ = (fun (r0, r1) => (some (.ret (.d (.tup [(.int .i64 r0), (.int .i32 r1)])), stk) : Rk')) out := by
  simp only [b_cascaderef01_Size_0] at hp
  rw [h.at_, hT]
  cbv
  cases c2 : psidx v0 v1 with
  | none => simp only [c2] at hp; cases hp
  | some b1 =>
    simp only [c2] at hp
    obtain ⟨w, q1, q2, q3⟩ := h.sidx c2
    simp only [q1, q2, q3, Bool.false_eq_true, if_false]
    cbv
    cases c3 : xcmp .lss (xwrap .i64 b1) 128 with
    | false =>
      simp only [c3] at hp ⊢
      cbv
      rw [h.at_, hT]
      cbv
      cases c4 : xcmp .geq (xwrap .i64 b1) 194 with
      | false =>
        simp only [c4] at hp ⊢
        cbv
        first | exact h_l_2 hp | (have q := h_l_2 hp; simp only [h.map_cons, h.map_nil, h.len_nil, he_e_int32, he_e_uint8] at q; first | exact q | (cbv; exact q))
      | true =>
        simp only [c4] at hp ⊢
        cbv
        cases c5 : xcmp .lss (xwrap .i64 b1) 224 with
        | false =>
          simp only [c5] at hp ⊢
          cbv
          first | exact h_l_2 hp | (have q := h_l_2 hp; simp only [h.map_cons, h.map_nil, h.len_nil, he_e_int32, he_e_uint8] at q; first | exact q | (cbv; exact q))
        | true =>
          simp only [c5] at hp ⊢
          cbv
          first | exact h_l_2 hp | (have q := h_l_2 hp; simp only [h.map_cons, h.map_nil, h.len_nil, he_e_int32, he_e_uint8] at q; first | exact q | (cbv; exact q))
    | true =>
      simp only [c3] at hp ⊢
      cbv
      cases hp
      first | rfl | (cbv; done) | (simp only [h.nadd0, h.nle_refl, h.cut_all, h.cut_nil, h.map_cons, h.map_nil, h.len_nil, he_e_int32, he_e_uint8, if_true]; done) | (simp only [h.nadd0, h.nle_refl, h.cut_all, h.cut_nil, h.map_cons, h.map_nil, h.len_nil, he_e_int32, he_e_uint8, if_true]; first | rfl | (cbv; done) | (cbv; simp only [h.map_cons, h.map_nil, h.len_nil, he_e_int32, he_e_uint8]; done))
def b_cascaderef01_Size_2 (P : Prims)  (l_3 : Str → Int → Int → Int → Int → Int → Option (Int × Int)) (v0 : Str) (v1 : Int) (v6 : Int) (v7 : Int) (v8 : Int) (v9 : Int) : Option (Int × Int) :=
  match P.cmp .geq v6 224 with
  | false =>
    l_3 v0 v1 v6 v7 v8 v9
  | true =>
    match P.cmp .lss v6 240 with
    | false =>
      l_3 v0 v1 v6 v7 v8 v9
    | true =>
      l_3 v0 v1 v6 3 (P.ar .sub .i64 v6 224) 2048
theorem o_cascaderef01_Size_2   (stk : Stk) (m : Nat) (l_3 : Str → Int → Int → Int → Int → Int → Option (Int × Int)) (v0 : Str) (v1 : Int) (v6 : Int) (v7 : Int) (v8 : Int) (v9 : Int) (h_l_3 : ∀ {v0 : Str} {v1 : Int} {v6 : Int} {v7 : Int} {v8 : Int} {v9 : Int} {out}, l_3 v0 v1 v6 v7 v8 v9 = some out → xat 37 true 3 [] ⟨[(0, (.d (.str v0))), (1, (.d (.int .i64 v1))), (6, (.d (.int .i64 v6))), (7, (.d (.int .i64 v7))), (8, (.d (.int .i64 v8))), (9, (.d (.int .i64 v9)))], ⟨m, []⟩ :: stk⟩ = (fun (r0, r1) => (some (.ret (.d (.tup [(.int .i64 r0), (.int .i32 r1)])), stk) : Rk')) out) {out} (hp : b_cascaderef01_Size_2 ⟨xar, xcmp, xwrap, xseq, xslt, xenc, pquo, pshf, pslen, psidx, pssub, pscat, psit, pslist, pofBytes, @plen, @pidx, @psub, @papp, @pset, @pmake, @ploop⟩  l_3 v0 v1 v6 v7 v8 v9 = some out) : xat 37 true 2 [] ⟨[(0, (.d (.str v0))), (1, (.d (.int .i64 v1))), (6, (.d (.int .i64 v6))), (7, (.d (.int .i64 v7))), (8, (.d (.int .i64 v8))), (9, (.d (.int .i64 v9)))], ⟨m, []⟩ :: stk⟩ = (fun (r0, r1) => (some (.ret (.d (.tup [(.int .i64 r0), (.int .i32 r1)])), stk) : Rk')) out := by
  simp only [b_cascaderef01_Size_2] at hp
  rw [h.at_, hT]
  cbv
  cases c8 : xcmp .geq v6 224 with
  | false =>
    simp only [c8] at hp ⊢
    cbv
    first | exact h_l_3 hp | (have q := h_l_3 hp; simp only [h.map_cons, h.map_nil, h.len_nil, he_e_int32, he_e_uint8] at q; first | exact q | (cbv; exact q))
  | true =>
    simp only [c8] at hp ⊢
    cbv
    cases c9 : xcmp .lss v6 240 with
    | false =>
      simp only [c9] at hp ⊢
      cbv
      first | exact h_l_3 hp | (have q := h_l_3 hp; simp only [h.map_cons, h.map_nil, h.len_nil, he_e_int32, he_e_uint8] at q; first | exact q | (cbv; exact q))
    | true =>
      simp only [c9] at hp ⊢
      cbv
      first | exact h_l_3 hp | (have q := h_l_3 hp; simp only [h.map_cons, h.map_nil, h.len_nil, he_e_int32, he_e_uint8] at q; first | exact q | (cbv; exact q))
def b_cascaderef01_Size_3 (P : Prims)  (l_4 : Str → Int → Int → Int → Int → Option (Int × Int)) (v0 : Str) (v1 : Int) (v6 : Int) (v7 : Int) (v8 : Int) (v9 : Int) : Option (Int × Int) :=
  match P.cmp .geq v6 240 with
  | false =>
    l_4 v0 v1 v7 v8 v9
  | true =>
    match P.cmp .lss v6 245 with
    | false =>
      l_4 v0 v1 v7 v8 v9
    | true =>
      l_4 v0 v1 4 (P.ar .sub .i64 v6 240) 65536
theorem o_cascaderef01_Size_3   (stk : Stk) (m : Nat) (l_4 : Str → Int → Int → Int → Int → Option (Int × Int)) (v0 : Str) (v1 : Int) (v6 : Int) (v7 : Int) (v8 : Int) (v9 : Int) (h_l_4 : ∀ {v0 : Str} {v1 : Int} {v7 : Int} {v8 : Int} {v9 : Int} {out}, l_4 v0 v1 v7 v8 v9 = some out → xat 37 true 4 [] ⟨[(0, (.d (.str v0))), (1, (.d (.int .i64 v1))), (7, (.d (.int .i64 v7))), (8, (.d (.int .i64 v8))), (9, (.d (.int .i64 v9)))], ⟨m, []⟩ :: stk⟩ = (fun (r0, r1) => (some (.ret (.d (.tup [(.int .i64 r0), (.int .i32 r1)])), stk) : Rk')) out) {out} (hp : b_cascaderef01_Size_3 ⟨xar, xcmp, xwrap, xseq, xslt, xenc, pquo, pshf, pslen, psidx, pssub, pscat, psit, pslist, pofBytes, @plen, @pidx, @psub, @papp, @pset, @pmake, @ploop⟩  l_4 v0 v1 v6 v7 v8 v9 = some out) : xat 37 true 3 [] ⟨[(0, (.d (.str v0))), (1, (.d (.int .i64 v1))), (6, (.d (.int .i64 v6))), (7, (.d (.int .i64 v7))), (8, (.d (.int .i64 v8))), (9, (.d (.int .i64 v9)))], ⟨m, []⟩ :: stk⟩ = (fun (r0, r1) => (some (.ret (.d (.tup [(.int .i64 r0), (.int .i32 r1)])), stk) : Rk')) out := by
  simp only [b_cascaderef01_Size_3] at hp
  rw [h.at_, hT]
  cbv
  cases c10 : xcmp .geq v6 240 with
  | false =>
    simp only [c10] at hp ⊢
    cbv
    first | exact h_l_4 hp | (have q := h_l_4 hp; simp only [h.map_cons, h.map_nil, h.len_nil, he_e_int32, he_e_uint8] at q; first | exact q | (cbv; exact q))
  | true =>
    simp only [c10] at hp ⊢
    cbv
    cases c11 : xcmp .lss v6 245 with
    | false =>
      simp only [c11] at hp ⊢
      cbv
      first | exact h_l_4 hp | (have q := h_l_4 hp; simp only [h.map_cons, h.map_nil, h.len_nil, he_e_int32, he_e_uint8] at q; first | exact q | (cbv; exact q))
    | true =>
      simp only [c11] at hp ⊢
      cbv
      first | exact h_l_4 hp | (have q := h_l_4 hp; simp only [h.map_cons, h.map_nil, h.len_nil, he_e_int32, he_e_uint8] at q; first | exact q | (cbv; exact q))
def b_cascaderef01_Size_4 (P : Prims)  (l_6 : Str → Int → Int → Int → Int → Int → Option (Int × Int)) (v0 : Str) (v1 : Int) (v7 : Int) (v8 : Int) (v9 : Int) : Option (Int × Int) :=
  match P.cmp .eql v7 0 with
  | false =>
    match P.cmp .geq v1 (P.ar .add .i64 (P.ar .sub .i64 (P.slen v0) v7) 1) with
    | false =>
      l_6 v0 v1 v7 v8 v9 1
    | true =>
      some (0, 0)
  | true =>
    some (0, 0)
theorem o_cascaderef01_Size_4   (stk : Stk) (m : Nat) (l_6 : Str → Int → Int → Int → Int → Int → Option (Int × Int)) (v0 : Str) (v1 : Int) (v7 : Int) (v8 : Int) (v9 : Int) (h_l_6 : ∀ {v0 : Str} {v1 : Int} {v7 : Int} {v8 : Int} {v9 : Int} {v10 : Int} {out}, l_6 v0 v1 v7 v8 v9 v10 = some out → xat 37 true 6 [.lp ⟨6, [0, 1, 7, 8, 9, 10], []⟩, .blk 0, .sub ⟨10, [7, 8, 9], []⟩] ⟨[(0, (.d (.str v0))), (1, (.d (.int .i64 v1))), (7, (.d (.int .i64 v7))), (8, (.d (.int .i64 v8))), (9, (.d (.int .i64 v9))), (10, (.d (.int .i64 v10)))], ⟨m, []⟩ :: stk⟩ = (fun (r0, r1) => (some (.ret (.d (.tup [(.int .i64 r0), (.int .i32 r1)])), stk) : Rk')) out) {out} (hp : b_cascaderef01_Size_4 ⟨xar, xcmp, xwrap, xseq, xslt, xenc, pquo, pshf, pslen, psidx, pssub, pscat, psit, pslist, pofBytes, @plen, @pidx, @psub, @papp, @pset, @pmake, @ploop⟩  l_6 v0 v1 v7 v8 v9 = some out) : xat 37 true 4 [] ⟨[(0, (.d (.str v0))), (1, (.d (.int .i64 v1))), (7, (.d (.int .i64 v7))), (8, (.d (.int .i64 v8))), (9, (.d (.int .i64 v9)))], ⟨m, []⟩ :: stk⟩ = (fun (r0, r1) => (some (.ret (.d (.tup [(.int .i64 r0), (.int .i32 r1)])), stk) : Rk')) out := by
  simp only [b_cascaderef01_Size_4] at hp
  rw [h.at_, hT]
  cbv
  cases c12 : xcmp .eql v7 0 with
  | false =>
    simp only [c12] at hp ⊢
    cbv
    try simp only [h.slen]
    cases c13 : xcmp .geq v1 (xar .add .i64 (xar .sub .i64 (pslen v0) v7) 1) with
    | false =>
      simp only [c13] at hp ⊢
      cbv
      rw [h.at_, hT]
      cbv
      first | exact h_l_6 hp | (have q := h_l_6 hp; simp only [h.map_cons, h.map_nil, h.len_nil, he_e_int32, he_e_uint8] at q; first | exact q | (cbv; exact q))
    | true =>
      simp only [c13] at hp ⊢
      cbv
      cases hp
      first | rfl | (cbv; done) | (simp only [h.nadd0, h.nle_refl, h.cut_all, h.cut_nil, h.map_cons, h.map_nil, h.len_nil, he_e_int32, he_e_uint8, if_true]; done) | (simp only [h.nadd0, h.nle_refl, h.cut_all, h.cut_nil, h.map_cons, h.map_nil, h.len_nil, he_e_int32, he_e_uint8, if_true]; first | rfl | (cbv; done) | (cbv; simp only [h.map_cons, h.map_nil, h.len_nil, he_e_int32, he_e_uint8]; done))
  | true =>
    simp only [c12] at hp ⊢
    cbv
    cases hp
    first | rfl | (cbv; done) | (simp only [h.nadd0, h.nle_refl, h.cut_all, h.cut_nil, h.map_cons, h.map_nil, h.len_nil, he_e_int32, he_e_uint8, if_true]; done) | (simp only [h.nadd0, h.nle_refl, h.cut_all, h.cut_nil, h.map_cons, h.map_nil, h.len_nil, he_e_int32, he_e_uint8, if_true]; first | rfl | (cbv; done) | (cbv; simp only [h.map_cons, h.map_nil, h.len_nil, he_e_int32, he_e_uint8]; done))
def b_cascaderef01_Size_6 (P : Prims)  (l_11 : Int → Int → Option (Int × Int)) (v0 : Str) (v1 : Int) (v7 : Int) (v8 : Int) (v9 : Int) (v10 : Int) : Option ((Str × Int × Int × Int × Int × Int) ⊕ (Int × Int)) :=
  match P.cmp .lss v10 v7 with
  | false =>
    match P.cmp .lss v8 v9 with
    | false =>
      match P.cmp .gtr v8 1114111 with
      | false =>
        match P.cmp .geq v8 55296 with
        | false =>
          match l_11 v7 v8 with | none => none | some o24 => some (.inr o24)
        | true =>
          match P.cmp .lss v8 57344 with
          | false =>
            match l_11 v7 v8 with | none => none | some o23 => some (.inr o23)
          | true =>
            some (.inr (0, 0))
      | true =>
        some (.inr (0, 0))
    | true =>
      some (.inr (0, 0))
  | true =>
    match P.sidx v0 (P.ar .add .i64 v1 v10) with
    | none => none
    | some b15 =>
      match P.cmp .lss (P.wrap .i64 b15) 128 with
      | false =>
        match P.cmp .geq (P.wrap .i64 b15) 192 with
        | false =>
          some (.inl (v0, v1, v7, P.ar .sub .i64 (P.ar .add .i64 (P.ar .mul .i64 v8 64) (P.wrap .i64 b15)) 128, v9, P.ar .add .i64 v10 1))
        | true =>
          some (.inr (0, 0))
      | true =>
        some (.inr (0, 0))
theorem o_cascaderef01_Size_6   (stk : Stk) (m : Nat) (l_11 : Int → Int → Option (Int × Int)) (v0 : Str) (v1 : Int) (v7 : Int) (v8 : Int) (v9 : Int) (v10 : Int) (h_l_11 : ∀ {v7 : Int} {v8 : Int} {out}, l_11 v7 v8 = some out → xat 37 true 11 [] ⟨[(7, (.d (.int .i64 v7))), (8, (.d (.int .i64 v8)))], ⟨m, []⟩ :: stk⟩ = (fun (r0, r1) => (some (.ret (.d (.tup [(.int .i64 r0), (.int .i32 r1)])), stk) : Rk')) out) {out} (hp : b_cascaderef01_Size_6 ⟨xar, xcmp, xwrap, xseq, xslt, xenc, pquo, pshf, pslen, psidx, pssub, pscat, psit, pslist, pofBytes, @plen, @pidx, @psub, @papp, @pset, @pmake, @ploop⟩  l_11 v0 v1 v7 v8 v9 v10 = some out) : xat 37 true 6 [.lp ⟨6, [0, 1, 7, 8, 9, 10], []⟩, .blk 0, .sub ⟨10, [7, 8, 9], []⟩] ⟨[(0, (.d (.str v0))), (1, (.d (.int .i64 v1))), (7, (.d (.int .i64 v7))), (8, (.d (.int .i64 v8))), (9, (.d (.int .i64 v9))), (10, (.d (.int .i64 v10)))], ⟨m, []⟩ :: stk⟩ = (Sum.elim (fun (v0, v1, v7, v8, v9, v10) => xat 37 true 6 [.lp ⟨6, [0, 1, 7, 8, 9, 10], []⟩, .blk 0, .sub ⟨10, [7, 8, 9], []⟩] ⟨[(0, (.d (.str v0))), (1, (.d (.int .i64 v1))), (7, (.d (.int .i64 v7))), (8, (.d (.int .i64 v8))), (9, (.d (.int .i64 v9))), (10, (.d (.int .i64 v10)))], ⟨m, []⟩ :: stk⟩) (fun (r0, r1) => (some (.ret (.d (.tup [(.int .i64 r0), (.int .i32 r1)])), stk) : Rk'))) out := by
  simp only [b_cascaderef01_Size_6] at hp
  rw [h.at_, hT]
  cbv
  cases c14 : xcmp .lss v10 v7 with
  | false =>
    simp only [c14] at hp ⊢
    cbv
    rw [h.at_, hT]
    cbv
    cases c19 : xcmp .lss v8 v9 with
    | false =>
      simp only [c19] at hp ⊢
      cbv
      cases c20 : xcmp .gtr v8 1114111 with
      | false =>
        simp only [c20] at hp ⊢
        cbv
        cases c21 : xcmp .geq v8 55296 with
        | false =>
          simp only [c21] at hp ⊢
          cbv
          cases c : l_11 v7 v8 with
          | none => simp only [c] at hp; cases hp
          | some o24 =>
            simp only [c] at hp
            cases hp
            first | exact h_l_11 c | (have q := h_l_11 c; simp only [h.map_cons, h.map_nil, h.len_nil, he_e_int32, he_e_uint8] at q; first | exact q | (cbv; exact q))
        | true =>
          simp only [c21] at hp ⊢
          cbv
          cases c22 : xcmp .lss v8 57344 with
          | false =>
            simp only [c22] at hp ⊢
            cbv
            cases c : l_11 v7 v8 with
            | none => simp only [c] at hp; cases hp
            | some o23 =>
              simp only [c] at hp
              cases hp
              first | exact h_l_11 c | (have q := h_l_11 c; simp only [h.map_cons, h.map_nil, h.len_nil, he_e_int32, he_e_uint8] at q; first | exact q | (cbv; exact q))
          | true =>
            simp only [c22] at hp ⊢
            cbv
            cases hp
            first | rfl | (cbv; done) | (simp only [h.nadd0, h.nle_refl, h.cut_all, h.cut_nil, h.map_cons, h.map_nil, h.len_nil, he_e_int32, he_e_uint8, if_true]; done) | (simp only [h.nadd0, h.nle_refl, h.cut_all, h.cut_nil, h.map_cons, h.map_nil, h.len_nil, he_e_int32, he_e_uint8, if_true]; first | rfl | (cbv; done) | (cbv; simp only [h.map_cons, h.map_nil, h.len_nil, he_e_int32, he_e_uint8]; done))
      | true =>
        simp only [c20] at hp ⊢
        cbv
        cases hp
        first | rfl | (cbv; done) | (simp only [h.nadd0, h.nle_refl, h.cut_all, h.cut_nil, h.map_cons, h.map_nil, h.len_nil, he_e_int32, he_e_uint8, if_true]; done) | (simp only [h.nadd0, h.nle_refl, h.cut_all, h.cut_nil, h.map_cons, h.map_nil, h.len_nil, he_e_int32, he_e_uint8, if_true]; first | rfl | (cbv; done) | (cbv; simp only [h.map_cons, h.map_nil, h.len_nil, he_e_int32, he_e_uint8]; done))
    | true =>
      simp only [c19] at hp ⊢
      cbv
      cases hp
      first | rfl | (cbv; done) | (simp only [h.nadd0, h.nle_refl, h.cut_all, h.cut_nil, h.map_cons, h.map_nil, h.len_nil, he_e_int32, he_e_uint8, if_true]; done) | (simp only [h.nadd0, h.nle_refl, h.cut_all, h.cut_nil, h.map_cons, h.map_nil, h.len_nil, he_e_int32, he_e_uint8, if_true]; first | rfl | (cbv; done) | (cbv; simp only [h.map_cons, h.map_nil, h.len_nil, he_e_int32, he_e_uint8]; done))
  | true =>
    simp only [c14] at hp ⊢
    cbv
    rw [h.at_, hT]
    cbv
    cases c16 : psidx v0 (xar .add .i64 v1 v10) with
    | none => simp only [c16] at hp; cases hp
    | some b15 =>
      simp only [c16] at hp
      obtain ⟨w, q1, q2, q3⟩ := h.sidx c16
      simp only [q1, q2, q3, Bool.false_eq_true, if_false]
      cbv
      cases c17 : xcmp .lss (xwrap .i64 b15) 128 with
      | false =>
        simp only [c17] at hp ⊢
        cbv
        cases c18 : xcmp .geq (xwrap .i64 b15) 192 with
        | false =>
          simp only [c18] at hp ⊢
          cbv
          rw [h.at_, hT]
          cbv
          rw [h.at_, hT]
          cbv
          cases hp
          first | rfl | (cbv; done) | (simp only [h.nadd0, h.nle_refl, h.cut_all, h.cut_nil, h.map_cons, h.map_nil, h.len_nil, he_e_int32, he_e_uint8, if_true]; done) | (simp only [h.nadd0, h.nle_refl, h.cut_all, h.cut_nil, h.map_cons, h.map_nil, h.len_nil, he_e_int32, he_e_uint8, if_true]; first | rfl | (cbv; done) | (cbv; simp only [h.map_cons, h.map_nil, h.len_nil, he_e_int32, he_e_uint8]; done))
        | true =>
          simp only [c18] at hp ⊢
          cbv
          cases hp
          first | rfl | (cbv; done) | (simp only [h.nadd0, h.nle_refl, h.cut_all, h.cut_nil, h.map_cons, h.map_nil, h.len_nil, he_e_int32, he_e_uint8, if_true]; done) | (simp only [h.nadd0, h.nle_refl, h.cut_all, h.cut_nil, h.map_cons, h.map_nil, h.len_nil, he_e_int32, he_e_uint8, if_true]; first | rfl | (cbv; done) | (cbv; simp only [h.map_cons, h.map_nil, h.len_nil, he_e_int32, he_e_uint8]; done))
      | true =>
        simp only [c17] at hp ⊢
        cbv
        cases hp
        first | rfl | (cbv; done) | (simp only [h.nadd0, h.nle_refl, h.cut_all, h.cut_nil, h.map_cons, h.map_nil, h.len_nil, he_e_int32, he_e_uint8, if_true]; done) | (simp only [h.nadd0, h.nle_refl, h.cut_all, h.cut_nil, h.map_cons, h.map_nil, h.len_nil, he_e_int32, he_e_uint8, if_true]; first | rfl | (cbv; done) | (cbv; simp only [h.map_cons, h.map_nil, h.len_nil, he_e_int32, he_e_uint8]; done))
def b_cascaderef01_Size_11 (P : Prims)   (v7 : Int) (v8 : Int) : Option (Int × Int) :=
  some (v7, P.wrap .i32 v8)
theorem o_cascaderef01_Size_11   (stk : Stk) (m : Nat)  (v7 : Int) (v8 : Int)  {out} (hp : b_cascaderef01_Size_11 ⟨xar, xcmp, xwrap, xseq, xslt, xenc, pquo, pshf, pslen, psidx, pssub, pscat, psit, pslist, pofBytes, @plen, @pidx, @psub, @papp, @pset, @pmake, @ploop⟩   v7 v8 = some out) : xat 37 true 11 [] ⟨[(7, (.d (.int .i64 v7))), (8, (.d (.int .i64 v8)))], ⟨m, []⟩ :: stk⟩ = (fun (r0, r1) => (some (.ret (.d (.tup [(.int .i64 r0), (.int .i32 r1)])), stk) : Rk')) out := by
  simp only [b_cascaderef01_Size_11] at hp
  rw [h.at_, hT]
  cbv
  cases hp
  first | rfl | (cbv; done) | (simp only [h.nadd0, h.nle_refl, h.cut_all, h.cut_nil, h.map_cons, h.map_nil, h.len_nil, he_e_int32, he_e_uint8, if_true]; done) | (simp only [h.nadd0, h.nle_refl, h.cut_all, h.cut_nil, h.map_cons, h.map_nil, h.len_nil, he_e_int32, he_e_uint8, if_true]; first | rfl | (cbv; done) | (cbv; simp only [h.map_cons, h.map_nil, h.len_nil, he_e_int32, he_e_uint8]; done))
def b_cascaderef01_Bad_0 (P : Prims) (c_cascaderef01_Size : Str → Int → Option (Int × Int)) (l_1 : Str → Int → Option (Int)) (v0 : Str) : Option (Int) :=
  l_1 v0 0
theorem o_cascaderef01_Bad_0 (c_cascaderef01_Size : Str → Int → Option (Int × Int)) (h_cascaderef01_Size : ∀ {a0 : Str} {a1 : Int} {r0 : Int} {r1 : Int}, c_cascaderef01_Size a0 a1 = some (r0, r1) → ∀ stk, xpcall 37 [(.d (.str a0)), (.d (.int .i64 a1))] stk = some (.d (.tup [(.int .i64 r0), (.int .i32 r1)]))) (stk : Stk) (m : Nat) (l_1 : Str → Int → Option (Int)) (v0 : Str) (h_l_1 : ∀ {v0 : Str} {v3 : Int} {out}, l_1 v0 v3 = some out → xat 18 true 1 [.lp ⟨1, [0, 3], []⟩, .blk 0, .sub ⟨4, [], []⟩] ⟨[(0, (.d (.str v0))), (3, (.d (.int .i64 v3)))], ⟨m, []⟩ :: stk⟩ = (fun r0 => (some (.ret (.d (.int .i64 r0)), stk) : Rk')) out) {out} (hp : b_cascaderef01_Bad_0 ⟨xar, xcmp, xwrap, xseq, xslt, xenc, pquo, pshf, pslen, psidx, pssub, pscat, psit, pslist, pofBytes, @plen, @pidx, @psub, @papp, @pset, @pmake, @ploop⟩ c_cascaderef01_Size l_1 v0 = some out) : xat 18 true 0 [] ⟨[(0, (.d (.str v0)))], ⟨m, []⟩ :: stk⟩ = (fun r0 => (some (.ret (.d (.int .i64 r0)), stk) : Rk')) out := by
  simp only [b_cascaderef01_Bad_0] at hp
  rw [h.at_, hT]
  cbv
  first | exact h_l_1 hp | (have q := h_l_1 hp; simp only [h.map_cons, h.map_nil, h.len_nil, he_e_int32, he_e_uint8] at q; first | exact q | (cbv; exact q))
def b_cascaderef01_Bad_1 (P : Prims) (c_cascaderef01_Size : Str → Int → Option (Int × Int))  (v0 : Str) (v3 : Int) : Option ((Str × Int) ⊕ (Int)) :=
  match P.cmp .lss v3 (P.slen v0) with
  | false =>
    some (.inr (-1))
  | true =>
    match c_cascaderef01_Size v0 v3 with
    | none => none
    | some (r2_0, r2_1) =>
      match P.cmp .eql r2_0 0 with
      | false =>
        some (.inl (v0, P.ar .add .i64 v3 r2_0))
      | true =>
        some (.inr v3)
theorem o_cascaderef01_Bad_1 (c_cascaderef01_Size : Str → Int → Option (Int × Int)) (h_cascaderef01_Size : ∀ {a0 : Str} {a1 : Int} {r0 : Int} {r1 : Int}, c_cascaderef01_Size a0 a1 = some (r0, r1) → ∀ stk, xpcall 37 [(.d (.str a0)), (.d (.int .i64 a1))] stk = some (.d (.tup [(.int .i64 r0), (.int .i32 r1)]))) (stk : Stk) (m : Nat)  (v0 : Str) (v3 : Int)  {out} (hp : b_cascaderef01_Bad_1 ⟨xar, xcmp, xwrap, xseq, xslt, xenc, pquo, pshf, pslen, psidx, pssub, pscat, psit, pslist, pofBytes, @plen, @pidx, @psub, @papp, @pset, @pmake, @ploop⟩ c_cascaderef01_Size  v0 v3 = some out) : xat 18 true 1 [.lp ⟨1, [0, 3], []⟩, .blk 0, .sub ⟨4, [], []⟩] ⟨[(0, (.d (.str v0))), (3, (.d (.int .i64 v3)))], ⟨m, []⟩ :: stk⟩ = (Sum.elim (fun (v0, v3) => xat 18 true 1 [.lp ⟨1, [0, 3], []⟩, .blk 0, .sub ⟨4, [], []⟩] ⟨[(0, (.d (.str v0))), (3, (.d (.int .i64 v3)))], ⟨m, []⟩ :: stk⟩) (fun r0 => (some (.ret (.d (.int .i64 r0)), stk) : Rk'))) out := by
  simp only [b_cascaderef01_Bad_1] at hp
  rw [h.at_, hT]
  cbv
  try simp only [h.slen]
  cases c1 : xcmp .lss v3 (pslen v0) with
  | false =>
    simp only [c1] at hp ⊢
    cbv
    rw [h.at_, hT]
    cbv
    cases hp
    first | rfl | (cbv; done) | (simp only [h.nadd0, h.nle_refl, h.cut_all, h.cut_nil, h.map_cons, h.map_nil, h.len_nil, he_e_int32, he_e_uint8, if_true]; done) | (simp only [h.nadd0, h.nle_refl, h.cut_all, h.cut_nil, h.map_cons, h.map_nil, h.len_nil, he_e_int32, he_e_uint8, if_true]; first | rfl | (cbv; done) | (cbv; simp only [h.map_cons, h.map_nil, h.len_nil, he_e_int32, he_e_uint8]; done))
  | true =>
    simp only [c1] at hp ⊢
    cbv
    rw [h.at_, hT]
    cbv
    cases c3 : c_cascaderef01_Size v0 v3 with
    | none => simp only [c3] at hp; cases hp
    | some y5 =>
      obtain ⟨r2_0, r2_1⟩ := y5
      simp only [c3] at hp
      have qc := h_cascaderef01_Size c3 (⟨m, []⟩ :: stk)
      simp only [qc]
      cbv
      cases c4 : xcmp .eql r2_0 0 with
      | false =>
        simp only [c4] at hp ⊢
        cbv
        rw [h.at_, hT]
        cbv
        cases hp
        first | rfl | (cbv; done) | (simp only [h.nadd0, h.nle_refl, h.cut_all, h.cut_nil, h.map_cons, h.map_nil, h.len_nil, he_e_int32, he_e_uint8, if_true]; done) | (simp only [h.nadd0, h.nle_refl, h.cut_all, h.cut_nil, h.map_cons, h.map_nil, h.len_nil, he_e_int32, he_e_uint8, if_true]; first | rfl | (cbv; done) | (cbv; simp only [h.map_cons, h.map_nil, h.len_nil, he_e_int32, he_e_uint8]; done))
      | true =>
        simp only [c4] at hp ⊢
        cbv
        cases hp
        first | rfl | (cbv; done) | (simp only [h.nadd0, h.nle_refl, h.cut_all, h.cut_nil, h.map_cons, h.map_nil, h.len_nil, he_e_int32, he_e_uint8, if_true]; done) | (simp only [h.nadd0, h.nle_refl, h.cut_all, h.cut_nil, h.map_cons, h.map_nil, h.len_nil, he_e_int32, he_e_uint8, if_true]; first | rfl | (cbv; done) | (cbv; simp only [h.map_cons, h.map_nil, h.len_nil, he_e_int32, he_e_uint8]; done))
def b_cascadelaw01_same_0 (P : Prims)  (l_2 : (List Int) → (List Int) → Int → Option (Bool)) (v0 : (List Int)) (v1 : (List Int)) : Option (Bool) :=
  match P.cmp .neq (P.len v0) (P.len v1) with
  | false =>
    l_2 v0 v1 0
  | true =>
    some false
theorem o_cascadelaw01_same_0   (stk : Stk) (m : Nat) (l_2 : (List Int) → (List Int) → Int → Option (Bool)) (v0 : (List Int)) (v1 : (List Int)) (h_l_2 : ∀ {v0 : (List Int)} {v1 : (List Int)} {v5 : Int} {out}, l_2 v0 v1 v5 = some out → xat 20 true 2 [.lp ⟨2, [0, 1, 5], []⟩, .blk 0, .sub ⟨5, [], []⟩] ⟨[(0, (.d (.sl (xmap e_int32 v0)))), (1, (.d (.sl (xmap e_int32 v1)))), (5, (.d (.int .i64 v5)))], ⟨m, []⟩ :: stk⟩ = (fun r0 => (some (.ret (.d (.bool r0)), stk) : Rk')) out) {out} (hp : b_cascadelaw01_same_0 ⟨xar, xcmp, xwrap, xseq, xslt, xenc, pquo, pshf, pslen, psidx, pssub, pscat, psit, pslist, pofBytes, @plen, @pidx, @psub, @papp, @pset, @pmake, @ploop⟩  l_2 v0 v1 = some out) : xat 20 true 0 [] ⟨[(0, (.d (.sl (xmap e_int32 v0)))), (1, (.d (.sl (xmap e_int32 v1))))], ⟨m, []⟩ :: stk⟩ = (fun r0 => (some (.ret (.d (.bool r0)), stk) : Rk')) out := by
  simp only [b_cascadelaw01_same_0] at hp
  rw [h.at_, hT]
  cbv
  try simp only [h.len]
  try simp only [h.len]
  cases c1 : xcmp .neq (plen v0) (plen v1) with
  | false =>
    simp only [c1] at hp ⊢
    cbv
    rw [h.at_, hT]
    cbv
    first | exact h_l_2 hp | (have q := h_l_2 hp; simp only [h.map_cons, h.map_nil, h.len_nil, he_e_int32, he_e_uint8] at q; first | exact q | (cbv; exact q))
  | true =>
    simp only [c1] at hp ⊢
    cbv
    cases hp
    first | rfl | (cbv; done) | (simp only [h.nadd0, h.nle_refl, h.cut_all, h.cut_nil, h.map_cons, h.map_nil, h.len_nil, he_e_int32, he_e_uint8, if_true]; done) | (simp only [h.nadd0, h.nle_refl, h.cut_all, h.cut_nil, h.map_cons, h.map_nil, h.len_nil, he_e_int32, he_e_uint8, if_true]; first | rfl | (cbv; done) | (cbv; simp only [h.map_cons, h.map_nil, h.len_nil, he_e_int32, he_e_uint8]; done))
def b_cascadelaw01_same_2 (P : Prims)   (v0 : (List Int)) (v1 : (List Int)) (v5 : Int) : Option (((List Int) × (List Int) × Int) ⊕ (Bool)) :=
  match P.cmp .lss v5 (P.len v0) with
  | false =>
    some (.inr true)
  | true =>
    match P.idx v0 v5 with
    | none => none
    | some a3 =>
      match P.idx v1 v5 with
      | none => none
      | some a5 =>
        match P.cmp .neq a3 a5 with
        | false =>
          some (.inl (v0, v1, P.ar .add .i64 v5 1))
        | true =>
          some (.inr false)
theorem o_cascadelaw01_same_2   (stk : Stk) (m : Nat)  (v0 : (List Int)) (v1 : (List Int)) (v5 : Int)  {out} (hp : b_cascadelaw01_same_2 ⟨xar, xcmp, xwrap, xseq, xslt, xenc, pquo, pshf, pslen, psidx, pssub, pscat, psit, pslist, pofBytes, @plen, @pidx, @psub, @papp, @pset, @pmake, @ploop⟩   v0 v1 v5 = some out) : xat 20 true 2 [.lp ⟨2, [0, 1, 5], []⟩, .blk 0, .sub ⟨5, [], []⟩] ⟨[(0, (.d (.sl (xmap e_int32 v0)))), (1, (.d (.sl (xmap e_int32 v1)))), (5, (.d (.int .i64 v5)))], ⟨m, []⟩ :: stk⟩ = (Sum.elim (fun (v0, v1, v5) => xat 20 true 2 [.lp ⟨2, [0, 1, 5], []⟩, .blk 0, .sub ⟨5, [], []⟩] ⟨[(0, (.d (.sl (xmap e_int32 v0)))), (1, (.d (.sl (xmap e_int32 v1)))), (5, (.d (.int .i64 v5)))], ⟨m, []⟩ :: stk⟩) (fun r0 => (some (.ret (.d (.bool r0)), stk) : Rk'))) out := by
  simp only [b_cascadelaw01_same_2] at hp
  rw [h.at_, hT]
  cbv
  try simp only [h.len]
  cases c2 : xcmp .lss v5 (plen v0) with
  | false =>
    simp only [c2] at hp ⊢
    cbv
    rw [h.at_, hT]
    cbv
    cases hp
    first | rfl | (cbv; done) | (simp only [h.nadd0, h.nle_refl, h.cut_all, h.cut_nil, h.map_cons, h.map_nil, h.len_nil, he_e_int32, he_e_uint8, if_true]; done) | (simp only [h.nadd0, h.nle_refl, h.cut_all, h.cut_nil, h.map_cons, h.map_nil, h.len_nil, he_e_int32, he_e_uint8, if_true]; first | rfl | (cbv; done) | (cbv; simp only [h.map_cons, h.map_nil, h.len_nil, he_e_int32, he_e_uint8]; done))
  | true =>
    simp only [c2] at hp ⊢
    cbv
    rw [h.at_, hT]
    cbv
    cases c4 : pidx v0 v5 with
    | none => simp only [c4] at hp; cases hp
    | some a3 =>
      simp only [c4] at hp
      obtain ⟨q1, q2⟩ := h.idx e_int32 c4
      simp only [he_e_int32] at q2
      simp only [q1, Bool.false_eq_true, if_false]
      cbv
      try simp only [q2]
      cbv
      cases c6 : pidx v1 v5 with
      | none => simp only [c6] at hp; cases hp
      | some a5 =>
        simp only [c6] at hp
        obtain ⟨q1, q2⟩ := h.idx e_int32 c6
        simp only [he_e_int32] at q2
        simp only [q1, Bool.false_eq_true, if_false]
        cbv
        try simp only [q2]
        cbv
        cases c7 : xcmp .neq a3 a5 with
        | false =>
          simp only [c7] at hp ⊢
          cbv
          rw [h.at_, hT]
          cbv
          cases hp
          first | rfl | (cbv; done) | (simp only [h.nadd0, h.nle_refl, h.cut_all, h.cut_nil, h.map_cons, h.map_nil, h.len_nil, he_e_int32, he_e_uint8, if_true]; done) | (simp only [h.nadd0, h.nle_refl, h.cut_all, h.cut_nil, h.map_cons, h.map_nil, h.len_nil, he_e_int32, he_e_uint8, if_true]; first | rfl | (cbv; done) | (cbv; simp only [h.map_cons, h.map_nil, h.len_nil, he_e_int32, he_e_uint8]; done))
        | true =>
          simp only [c7] at hp ⊢
          cbv
          cases hp
          first | rfl | (cbv; done) | (simp only [h.nadd0, h.nle_refl, h.cut_all, h.cut_nil, h.map_cons, h.map_nil, h.len_nil, he_e_int32, he_e_uint8, if_true]; done) | (simp only [h.nadd0, h.nle_refl, h.cut_all, h.cut_nil, h.map_cons, h.map_nil, h.len_nil, he_e_int32, he_e_uint8, if_true]; first | rfl | (cbv; done) | (cbv; simp only [h.map_cons, h.map_nil, h.len_nil, he_e_int32, he_e_uint8]; done))
def b_text_Runes_0 (P : Prims) (c_text_Right : Str → Option (Bool)) (l_2 : Nat → (List Int) → Str → Nat → Option ((List Int))) (v0 : Str) : Option ((List Int)) :=
  match c_text_Right v0 with
  | none => none
  | some r1 =>
    match r1 with
    | false =>
      some []
    | true =>
      l_2 0 [] v0 0
theorem o_text_Runes_0 (c_text_Right : Str → Option (Bool)) (h_text_Right : ∀ {a0 : Str} {r0 : Bool}, c_text_Right a0 = some r0 → ∀ stk, xpcall 17 [(.d (.str a0))] stk = some (.d (.bool r0))) (stk : Stk) (m : Nat) (l_2 : Nat → (List Int) → Str → Nat → Option ((List Int))) (v0 : Str) (h_l_2 : ∀ {o3_g : Nat} {o3 : (List Int)} {o10_s : Str} {o10_p : Nat} {out}, l_2 o3_g o3 o10_s o10_p = some out → xat 21 true 2 [.lp ⟨2, [3, 10], [[3], [10]]⟩, .blk 0, .sub ⟨4, [3], [[3]]⟩] ⟨[(3, (.msl ⟨m, [3]⟩ o3_g 0 (xlen (xmap e_int32 o3)))), (10, (.ref ⟨m, [10]⟩ 0))], ⟨m, [([3], (.arr o3_g 1 (xmap e_int32 o3))), ([10], (.siter o10_s o10_p))]⟩ :: stk⟩ = (fun r0 => (some (.ret (.d (.sl (xmap e_int32 r0))), stk) : Rk')) out) {out} (hp : b_text_Runes_0 ⟨xar, xcmp, xwrap, xseq, xslt, xenc, pquo, pshf, pslen, psidx, pssub, pscat, psit, pslist, pofBytes, @plen, @pidx, @psub, @papp, @pset, @pmake, @ploop⟩ c_text_Right l_2 v0 = some out) : xat 21 true 0 [] ⟨[(0, (.d (.str v0)))], ⟨m, []⟩ :: stk⟩ = (fun r0 => (some (.ret (.d (.sl (xmap e_int32 r0))), stk) : Rk')) out := by
  simp only [b_text_Runes_0] at hp
  rw [h.at_, hT]
  cbv
  cases c2 : c_text_Right v0 with
  | none => simp only [c2] at hp; cases hp
  | some r1 =>
    simp only [c2] at hp
    have qc := h_text_Right c2 (⟨m, []⟩ :: stk)
    simp only [qc]
    cbv
    cases r1 with
    | false =>
      simp only at hp
      cbv
      cases hp
      first | rfl | (cbv; done) | (simp only [h.nadd0, h.nle_refl, h.cut_all, h.cut_nil, h.map_cons, h.map_nil, h.len_nil, he_e_int32, he_e_uint8, if_true]; done) | (simp only [h.nadd0, h.nle_refl, h.cut_all, h.cut_nil, h.map_cons, h.map_nil, h.len_nil, he_e_int32, he_e_uint8, if_true]; first | rfl | (cbv; done) | (cbv; simp only [h.map_cons, h.map_nil, h.len_nil, he_e_int32, he_e_uint8]; done))
    | true =>
      simp only at hp
      cbv
      rw [h.at_, hT]
      cbv
      first | exact h_l_2 hp | (have q := h_l_2 hp; simp only [h.map_cons, h.map_nil, h.len_nil, he_e_int32, he_e_uint8] at q; first | exact q | (cbv; exact q))
def b_text_Runes_2 (P : Prims) (c_text_Right : Str → Option (Bool))  (o3_g : Nat) (o3 : (List Int)) (o10_s : Str) (o10_p : Nat) : Option ((Nat × (List Int) × Str × Nat) ⊕ ((List Int))) :=
  match P.sit o10_s o10_p with
  | none =>
    some (.inr o3)
  | some (i4, r5, n6) =>
    match P.app 4 o3 [r5] with
    | none => none
    | some l7 =>
      some (.inl (o3_g + 1, l7, o10_s, n6))
theorem o_text_Runes_2 (c_text_Right : Str → Option (Bool)) (h_text_Right : ∀ {a0 : Str} {r0 : Bool}, c_text_Right a0 = some r0 → ∀ stk, xpcall 17 [(.d (.str a0))] stk = some (.d (.bool r0))) (stk : Stk) (m : Nat)  (o3_g : Nat) (o3 : (List Int)) (o10_s : Str) (o10_p : Nat)  {out} (hp : b_text_Runes_2 ⟨xar, xcmp, xwrap, xseq, xslt, xenc, pquo, pshf, pslen, psidx, pssub, pscat, psit, pslist, pofBytes, @plen, @pidx, @psub, @papp, @pset, @pmake, @ploop⟩ c_text_Right  o3_g o3 o10_s o10_p = some out) : xat 21 true 2 [.lp ⟨2, [3, 10], [[3], [10]]⟩, .blk 0, .sub ⟨4, [3], [[3]]⟩] ⟨[(3, (.msl ⟨m, [3]⟩ o3_g 0 (xlen (xmap e_int32 o3)))), (10, (.ref ⟨m, [10]⟩ 0))], ⟨m, [([3], (.arr o3_g 1 (xmap e_int32 o3))), ([10], (.siter o10_s o10_p))]⟩ :: stk⟩ = (Sum.elim (fun (o3_g, o3, o10_s, o10_p) => xat 21 true 2 [.lp ⟨2, [3, 10], [[3], [10]]⟩, .blk 0, .sub ⟨4, [3], [[3]]⟩] ⟨[(3, (.msl ⟨m, [3]⟩ o3_g 0 (xlen (xmap e_int32 o3)))), (10, (.ref ⟨m, [10]⟩ 0))], ⟨m, [([3], (.arr o3_g 1 (xmap e_int32 o3))), ([10], (.siter o10_s o10_p))]⟩ :: stk⟩) (fun r0 => (some (.ret (.d (.sl (xmap e_int32 r0))), stk) : Rk'))) out := by
  simp only [b_text_Runes_2] at hp
  rw [h.at_, hT]
  cbv
  cases c9 : psit o10_s o10_p with
  | none =>
    simp only [c9] at hp
    have q1 := h.sit0 c9
    simp only [q1, Bool.false_eq_true, if_false]
    cbv
    rw [h.at_, hT]
    cbv
    cases hp
    first | rfl | (cbv; done) | (simp only [h.nadd0, h.nle_refl, h.cut_all, h.cut_nil, h.map_cons, h.map_nil, h.len_nil, he_e_int32, he_e_uint8, if_true]; done) | (simp only [h.nadd0, h.nle_refl, h.cut_all, h.cut_nil, h.map_cons, h.map_nil, h.len_nil, he_e_int32, he_e_uint8, if_true]; first | rfl | (cbv; done) | (cbv; simp only [h.map_cons, h.map_nil, h.len_nil, he_e_int32, he_e_uint8]; done))
  | some y10 =>
    obtain ⟨i4, r5, n6⟩ := y10
    simp only [c9] at hp
    obtain ⟨q1, q2, q3, q4⟩ := h.sit1 c9
    simp only [q1, q2, q3, q4, if_true]
    cbv
    rw [h.at_, hT]
    cbv
    simp only [h.allsz_nil, h.allsz_cons]
    cbv
    simp only [h.allsz_nil, h.allsz_cons]
    cbv
    cases c8 : papp 4 o3 [r5] with
    | none => simp only [c8] at hp; cases hp
    | some l7 =>
      simp only [c8] at hp
      obtain ⟨q1, q2, q3⟩ := h.app e_int32 c8 rfl
      simp only [h.map_cons, h.map_nil, h.len_nil, he_e_int32] at q1 q2 q3
      try simp only [h.len_nil]
      cbv
      simp only [q1, q2, q3, if_true]
      cbv
      cases hp
      first | rfl | (cbv; done) | (simp only [h.nadd0, h.nle_refl, h.cut_all, h.cut_nil, h.map_cons, h.map_nil, h.len_nil, he_e_int32, he_e_uint8, if_true]; done) | (simp only [h.nadd0, h.nle_refl, h.cut_all, h.cut_nil, h.map_cons, h.map_nil, h.len_nil, he_e_int32, he_e_uint8, if_true]; first | rfl | (cbv; done) | (cbv; simp only [h.map_cons, h.map_nil, h.len_nil, he_e_int32, he_e_uint8]; done))
def b_cascaderef01_Right_0 (P : Prims) (c_cascaderef01_Bad : Str → Option (Int))  (v0 : Str) : Option (Bool) :=
  match c_cascaderef01_Bad v0 with
  | none => none
  | some r1 =>
    some (P.cmp .eql r1 (-1))
theorem o_cascaderef01_Right_0 (c_cascaderef01_Bad : Str → Option (Int)) (h_cascaderef01_Bad : ∀ {a0 : Str} {r0 : Int}, c_cascaderef01_Bad a0 = some r0 → ∀ stk, xpcall 18 [(.d (.str a0))] stk = some (.d (.int .i64 r0))) (stk : Stk) (m : Nat)  (v0 : Str)  {out} (hp : b_cascaderef01_Right_0 ⟨xar, xcmp, xwrap, xseq, xslt, xenc, pquo, pshf, pslen, psidx, pssub, pscat, psit, pslist, pofBytes, @plen, @pidx, @psub, @papp, @pset, @pmake, @ploop⟩ c_cascaderef01_Bad  v0 = some out) : xat 30 true 0 [] ⟨[(0, (.d (.str v0)))], ⟨m, []⟩ :: stk⟩ = (fun r0 => (some (.ret (.d (.bool r0)), stk) : Rk')) out := by
  simp only [b_cascaderef01_Right_0] at hp
  rw [h.at_, hT]
  cbv
  cases c2 : c_cascaderef01_Bad v0 with
  | none => simp only [c2] at hp; cases hp
  | some r1 =>
    simp only [c2] at hp
    have qc := h_cascaderef01_Bad c2 (⟨m, []⟩ :: stk)
    simp only [qc]
    cbv
    cases hp
    first | rfl | (cbv; done) | (simp only [h.nadd0, h.nle_refl, h.cut_all, h.cut_nil, h.map_cons, h.map_nil, h.len_nil, he_e_int32, he_e_uint8, if_true]; done) | (simp only [h.nadd0, h.nle_refl, h.cut_all, h.cut_nil, h.map_cons, h.map_nil, h.len_nil, he_e_int32, he_e_uint8, if_true]; first | rfl | (cbv; done) | (cbv; simp only [h.map_cons, h.map_nil, h.len_nil, he_e_int32, he_e_uint8]; done))
def b_cascaderef01_Runes_0 (P : Prims) (c_cascaderef01_Right : Str → Option (Bool)) (c_cascaderef01_Size : Str → Int → Option (Int × Int)) (l_2 : Str → Nat → (List Int) → Int → Option ((List Int))) (v0 : Str) : Option ((List Int)) :=
  match c_cascaderef01_Right v0 with
  | none => none
  | some r1 =>
    match r1 with
    | false =>
      some []
    | true =>
      l_2 v0 0 [] 0
theorem o_cascaderef01_Runes_0 (c_cascaderef01_Right : Str → Option (Bool)) (c_cascaderef01_Size : Str → Int → Option (Int × Int)) (h_cascaderef01_Right : ∀ {a0 : Str} {r0 : Bool}, c_cascaderef01_Right a0 = some r0 → ∀ stk, xpcall 30 [(.d (.str a0))] stk = some (.d (.bool r0))) (h_cascaderef01_Size : ∀ {a0 : Str} {a1 : Int} {r0 : Int} {r1 : Int}, c_cascaderef01_Size a0 a1 = some (r0, r1) → ∀ stk, xpcall 37 [(.d (.str a0)), (.d (.int .i64 a1))] stk = some (.d (.tup [(.int .i64 r0), (.int .i32 r1)]))) (stk : Stk) (m : Nat) (l_2 : Str → Nat → (List Int) → Int → Option ((List Int))) (v0 : Str) (h_l_2 : ∀ {v0 : Str} {o3_g : Nat} {o3 : (List Int)} {v4 : Int} {out}, l_2 v0 o3_g o3 v4 = some out → xat 22 true 2 [.lp ⟨2, [0, 3, 4], [[3]]⟩, .blk 0, .sub ⟨4, [3], [[3]]⟩] ⟨[(0, (.d (.str v0))), (3, (.msl ⟨m, [3]⟩ o3_g 0 (xlen (xmap e_int32 o3)))), (4, (.d (.int .i64 v4)))], ⟨m, [([3], (.arr o3_g 1 (xmap e_int32 o3)))]⟩ :: stk⟩ = (fun r0 => (some (.ret (.d (.sl (xmap e_int32 r0))), stk) : Rk')) out) {out} (hp : b_cascaderef01_Runes_0 ⟨xar, xcmp, xwrap, xseq, xslt, xenc, pquo, pshf, pslen, psidx, pssub, pscat, psit, pslist, pofBytes, @plen, @pidx, @psub, @papp, @pset, @pmake, @ploop⟩ c_cascaderef01_Right c_cascaderef01_Size l_2 v0 = some out) : xat 22 true 0 [] ⟨[(0, (.d (.str v0)))], ⟨m, []⟩ :: stk⟩ = (fun r0 => (some (.ret (.d (.sl (xmap e_int32 r0))), stk) : Rk')) out := by
  simp only [b_cascaderef01_Runes_0] at hp
  rw [h.at_, hT]
  cbv
  cases c2 : c_cascaderef01_Right v0 with
  | none => simp only [c2] at hp; cases hp
  | some r1 =>
    simp only [c2] at hp
    have qc := h_cascaderef01_Right c2 (⟨m, [([3], (.arr 0 1 []))]⟩ :: stk)
    simp only [qc]
    cbv
    cases r1 with
    | false =>
      simp only at hp
      cbv
      cases hp
      first | rfl | (cbv; done) | (simp only [h.nadd0, h.nle_refl, h.cut_all, h.cut_nil, h.map_cons, h.map_nil, h.len_nil, he_e_int32, he_e_uint8, if_true]; done) | (simp only [h.nadd0, h.nle_refl, h.cut_all, h.cut_nil, h.map_cons, h.map_nil, h.len_nil, he_e_int32, he_e_uint8, if_true]; first | rfl | (cbv; done) | (cbv; simp only [h.map_cons, h.map_nil, h.len_nil, he_e_int32, he_e_uint8]; done))
    | true =>
      simp only at hp
      cbv
      rw [h.at_, hT]
      cbv
      first | exact h_l_2 hp | (have q := h_l_2 hp; simp only [h.map_cons, h.map_nil, h.len_nil, he_e_int32, he_e_uint8] at q; first | exact q | (cbv; exact q))
def b_cascaderef01_Runes_2 (P : Prims) (c_cascaderef01_Right : Str → Option (Bool)) (c_cascaderef01_Size : Str → Int → Option (Int × Int))  (v0 : Str) (o3_g : Nat) (o3 : (List Int)) (v4 : Int) : Option ((Str × Nat × (List Int) × Int) ⊕ ((List Int))) :=
  match P.cmp .lss v4 (P.slen v0) with
  | false =>
    some (.inr o3)
  | true =>
    match c_cascaderef01_Size v0 v4 with
    | none => none
    | some (r5_0, r5_1) =>
      match P.app 4 o3 [r5_1] with
      | none => none
      | some l7 =>
        some (.inl (v0, o3_g + 1, l7, P.ar .add .i64 v4 r5_0))
theorem o_cascaderef01_Runes_2 (c_cascaderef01_Right : Str → Option (Bool)) (c_cascaderef01_Size : Str → Int → Option (Int × Int)) (h_cascaderef01_Right : ∀ {a0 : Str} {r0 : Bool}, c_cascaderef01_Right a0 = some r0 → ∀ stk, xpcall 30 [(.d (.str a0))] stk = some (.d (.bool r0))) (h_cascaderef01_Size : ∀ {a0 : Str} {a1 : Int} {r0 : Int} {r1 : Int}, c_cascaderef01_Size a0 a1 = some (r0, r1) → ∀ stk, xpcall 37 [(.d (.str a0)), (.d (.int .i64 a1))] stk = some (.d (.tup [(.int .i64 r0), (.int .i32 r1)]))) (stk : Stk) (m : Nat)  (v0 : Str) (o3_g : Nat) (o3 : (List Int)) (v4 : Int)  {out} (hp : b_cascaderef01_Runes_2 ⟨xar, xcmp, xwrap, xseq, xslt, xenc, pquo, pshf, pslen, psidx, pssub, pscat, psit, pslist, pofBytes, @plen, @pidx, @psub, @papp, @pset, @pmake, @ploop⟩ c_cascaderef01_Right c_cascaderef01_Size  v0 o3_g o3 v4 = some out) : xat 22 true 2 [.lp ⟨2, [0, 3, 4], [[3]]⟩, .blk 0, .sub ⟨4, [3], [[3]]⟩] ⟨[(0, (.d (.str v0))), (3, (.msl ⟨m, [3]⟩ o3_g 0 (xlen (xmap e_int32 o3)))), (4, (.d (.int .i64 v4)))], ⟨m, [([3], (.arr o3_g 1 (xmap e_int32 o3)))]⟩ :: stk⟩ = (Sum.elim (fun (v0, o3_g, o3, v4) => xat 22 true 2 [.lp ⟨2, [0, 3, 4], [[3]]⟩, .blk 0, .sub ⟨4, [3], [[3]]⟩] ⟨[(0, (.d (.str v0))), (3, (.msl ⟨m, [3]⟩ o3_g 0 (xlen (xmap e_int32 o3)))), (4, (.d (.int .i64 v4)))], ⟨m, [([3], (.arr o3_g 1 (xmap e_int32 o3)))]⟩ :: stk⟩) (fun r0 => (some (.ret (.d (.sl (xmap e_int32 r0))), stk) : Rk'))) out := by
  simp only [b_cascaderef01_Runes_2] at hp
  rw [h.at_, hT]
  cbv
  try simp only [h.slen]
  cases c4 : xcmp .lss v4 (pslen v0) with
  | false =>
    simp only [c4] at hp ⊢
    cbv
    rw [h.at_, hT]
    cbv
    cases hp
    first | rfl | (cbv; done) | (simp only [h.nadd0, h.nle_refl, h.cut_all, h.cut_nil, h.map_cons, h.map_nil, h.len_nil, he_e_int32, he_e_uint8, if_true]; done) | (simp only [h.nadd0, h.nle_refl, h.cut_all, h.cut_nil, h.map_cons, h.map_nil, h.len_nil, he_e_int32, he_e_uint8, if_true]; first | rfl | (cbv; done) | (cbv; simp only [h.map_cons, h.map_nil, h.len_nil, he_e_int32, he_e_uint8]; done))
  | true =>
    simp only [c4] at hp ⊢
    cbv
    rw [h.at_, hT]
    cbv
    cases c6 : c_cascaderef01_Size v0 v4 with
    | none => simp only [c6] at hp; cases hp
    | some y9 =>
      obtain ⟨r5_0, r5_1⟩ := y9
      simp only [c6] at hp
      have qc := h_cascaderef01_Size c6 (⟨m, [([3], (.arr o3_g 1 (xmap e_int32 o3)))]⟩ :: stk)
      simp only [qc]
      cbv
      simp only [h.allsz_nil, h.allsz_cons]
      cbv
      simp only [h.allsz_nil, h.allsz_cons]
      cbv
      cases c8 : papp 4 o3 [r5_1] with
      | none => simp only [c8] at hp; cases hp
      | some l7 =>
        simp only [c8] at hp
        obtain ⟨q1, q2, q3⟩ := h.app e_int32 c8 rfl
        simp only [h.map_cons, h.map_nil, h.len_nil, he_e_int32] at q1 q2 q3
        try simp only [h.len_nil]
        cbv
        simp only [q1, q2, q3, if_true]
        cbv
        cases hp
        first | rfl | (cbv; done) | (simp only [h.nadd0, h.nle_refl, h.cut_all, h.cut_nil, h.map_cons, h.map_nil, h.len_nil, he_e_int32, he_e_uint8, if_true]; done) | (simp only [h.nadd0, h.nle_refl, h.cut_all, h.cut_nil, h.map_cons, h.map_nil, h.len_nil, he_e_int32, he_e_uint8, if_true]; first | rfl | (cbv; done) | (cbv; simp only [h.map_cons, h.map_nil, h.len_nil, he_e_int32, he_e_uint8]; done))
def b_cascadelaw01_TextRight_0 (P : Prims) (c_cascadelaw01_awake : Option (Bool)) (c_text_Right : Str → Option (Bool)) (c_cascaderef01_Bad : Str → Option (Int)) (c_text_Bad : Str → Option (Int)) (c_cascadelaw01_same : (List Int) → (List Int) → Option (Bool)) (c_text_Runes : Str → Option ((List Int))) (c_cascaderef01_Runes : Str → Option ((List Int)))  (v0 : Str) : Option (Bool) :=
  match c_cascadelaw01_awake with
  | none => none
  | some r1 =>
    match r1 with
    | false =>
      some r1
    | true =>
      match P.cmp .gtr (P.slen v0) 400 with
      | false =>
        match c_cascaderef01_Bad v0 with
        | none => none
        | some r5 =>
          match c_text_Bad v0 with
          | none => none
          | some r7 =>
            match P.cmp .eql r7 r5 with
            | false =>
              some false
            | true =>
              match c_text_Right v0 with
              | none => none
              | some r10 =>
                match r10 with
                | false =>
                  match P.cmp .eql r5 (-1) with
                  | false =>
                    match c_text_Runes v0 with
                    | none => none
                    | some r21 =>
                      match c_cascaderef01_Runes v0 with
                      | none => none
                      | some r23 =>
                        match c_cascadelaw01_same r21 r23 with
                        | none => none
                        | some r25 =>
                          some r25
                  | true =>
                    some false
                | true =>
                  match P.cmp .eql r5 (-1) with
                  | false =>
                    some false
                  | true =>
                    match c_text_Runes v0 with
                    | none => none
                    | some r14 =>
                      match c_cascaderef01_Runes v0 with
                      | none => none
                      | some r16 =>
                        match c_cascadelaw01_same r14 r16 with
                        | none => none
                        | some r18 =>
                          some r18
      | true =>
        some r1
theorem o_cascadelaw01_TextRight_0 (c_cascadelaw01_awake : Option (Bool)) (c_text_Right : Str → Option (Bool)) (c_cascaderef01_Bad : Str → Option (Int)) (c_text_Bad : Str → Option (Int)) (c_cascadelaw01_same : (List Int) → (List Int) → Option (Bool)) (c_text_Runes : Str → Option ((List Int))) (c_cascaderef01_Runes : Str → Option ((List Int))) (h_cascadelaw01_awake : ∀ {r0 : Bool}, c_cascadelaw01_awake  = some r0 → ∀ stk, xpcall 14 [] stk = some (.d (.bool r0))) (h_text_Right : ∀ {a0 : Str} {r0 : Bool}, c_text_Right a0 = some r0 → ∀ stk, xpcall 17 [(.d (.str a0))] stk = some (.d (.bool r0))) (h_cascaderef01_Bad : ∀ {a0 : Str} {r0 : Int}, c_cascaderef01_Bad a0 = some r0 → ∀ stk, xpcall 18 [(.d (.str a0))] stk = some (.d (.int .i64 r0))) (h_text_Bad : ∀ {a0 : Str} {r0 : Int}, c_text_Bad a0 = some r0 → ∀ stk, xpcall 19 [(.d (.str a0))] stk = some (.d (.int .i64 r0))) (h_cascadelaw01_same : ∀ {a0 : (List Int)} {a1 : (List Int)} {r0 : Bool}, c_cascadelaw01_same a0 a1 = some r0 → ∀ stk, xpcall 20 [(.d (.sl (xmap e_int32 a0))), (.d (.sl (xmap e_int32 a1)))] stk = some (.d (.bool r0))) (h_text_Runes : ∀ {a0 : Str} {r0 : (List Int)}, c_text_Runes a0 = some r0 → ∀ stk, xpcall 21 [(.d (.str a0))] stk = some (.d (.sl (xmap e_int32 r0)))) (h_cascaderef01_Runes : ∀ {a0 : Str} {r0 : (List Int)}, c_cascaderef01_Runes a0 = some r0 → ∀ stk, xpcall 22 [(.d (.str a0))] stk = some (.d (.sl (xmap e_int32 r0)))) (stk : Stk) (m : Nat)  (v0 : Str)  {out} (hp : b_cascadelaw01_TextRight_0 ⟨xar, xcmp, xwrap, xseq, xslt, xenc, pquo, pshf, pslen, psidx, pssub, pscat, psit, pslist, pofBytes, @plen, @pidx, @psub, @papp, @pset, @pmake, @ploop⟩ c_cascadelaw01_awake c_text_Right c_cascaderef01_Bad c_text_Bad c_cascadelaw01_same c_text_Runes c_cascaderef01_Runes  v0 = some out) : xat 4 true 0 [] ⟨[(0, (.d (.str v0)))], ⟨m, []⟩ :: stk⟩ = (fun r0 => (some (.ret (.d (.bool r0)), stk) : Rk')) out := by
  simp only [b_cascadelaw01_TextRight_0] at hp
  rw [h.at_, hT]
  cbv
  cases c2 : c_cascadelaw01_awake with
  | none => simp only [c2] at hp; cases hp
  | some r1 =>
    simp only [c2] at hp
    have qc := h_cascadelaw01_awake c2 (⟨m, []⟩ :: stk)
    simp only [qc]
    cbv
    cases r1 with
    | false =>
      simp only at hp
      cbv
      have qc := h_cascadelaw01_awake c2 (⟨m, []⟩ :: stk)
      simp only [qc]
      cbv
      cases hp
      first | rfl | (cbv; done) | (simp only [h.nadd0, h.nle_refl, h.cut_all, h.cut_nil, h.map_cons, h.map_nil, h.len_nil, he_e_int32, he_e_uint8, if_true]; done) | (simp only [h.nadd0, h.nle_refl, h.cut_all, h.cut_nil, h.map_cons, h.map_nil, h.len_nil, he_e_int32, he_e_uint8, if_true]; first | rfl | (cbv; done) | (cbv; simp only [h.map_cons, h.map_nil, h.len_nil, he_e_int32, he_e_uint8]; done))
    | true =>
      simp only at hp
      cbv
      try simp only [h.slen]
      cases c4 : xcmp .gtr (pslen v0) 400 with
      | false =>
        simp only [c4] at hp ⊢
        cbv
        rw [h.at_, hT]
        cbv
        cases c6 : c_cascaderef01_Bad v0 with
        | none => simp only [c6] at hp; cases hp
        | some r5 =>
          simp only [c6] at hp
          have qc := h_cascaderef01_Bad c6 (⟨m, []⟩ :: stk)
          simp only [qc]
          cbv
          cases c8 : c_text_Bad v0 with
          | none => simp only [c8] at hp; cases hp
          | some r7 =>
            simp only [c8] at hp
            have qc := h_text_Bad c8 (⟨m, []⟩ :: stk)
            simp only [qc]
            cbv
            cases c9 : xcmp .eql r7 r5 with
            | false =>
              simp only [c9] at hp ⊢
              cbv
              cases hp
              first | rfl | (cbv; done) | (simp only [h.nadd0, h.nle_refl, h.cut_all, h.cut_nil, h.map_cons, h.map_nil, h.len_nil, he_e_int32, he_e_uint8, if_true]; done) | (simp only [h.nadd0, h.nle_refl, h.cut_all, h.cut_nil, h.map_cons, h.map_nil, h.len_nil, he_e_int32, he_e_uint8, if_true]; first | rfl | (cbv; done) | (cbv; simp only [h.map_cons, h.map_nil, h.len_nil, he_e_int32, he_e_uint8]; done))
            | true =>
              simp only [c9] at hp ⊢
              cbv
              cases c11 : c_text_Right v0 with
              | none => simp only [c11] at hp; cases hp
              | some r10 =>
                simp only [c11] at hp
                have qc := h_text_Right c11 (⟨m, []⟩ :: stk)
                simp only [qc]
                cbv
                cases r10 with
                | false =>
                  simp only at hp
                  cbv
                  cases c20 : xcmp .eql r5 (-1) with
                  | false =>
                    simp only [c20] at hp ⊢
                    cbv
                    cases c22 : c_text_Runes v0 with
                    | none => simp only [c22] at hp; cases hp
                    | some r21 =>
                      simp only [c22] at hp
                      have qc := h_text_Runes c22 (⟨m, []⟩ :: stk)
                      simp only [qc]
                      cbv
                      cases c24 : c_cascaderef01_Runes v0 with
                      | none => simp only [c24] at hp; cases hp
                      | some r23 =>
                        simp only [c24] at hp
                        have qc := h_cascaderef01_Runes c24 (⟨m, []⟩ :: stk)
                        simp only [qc]
                        cbv
                        cases c26 : c_cascadelaw01_same r21 r23 with
                        | none => simp only [c26] at hp; cases hp
                        | some r25 =>
                          simp only [c26] at hp
                          have qc := h_cascadelaw01_same c26 (⟨m, []⟩ :: stk)
                          simp only [qc]
                          cbv
                          cases hp
                          first | rfl | (cbv; done) | (simp only [h.nadd0, h.nle_refl, h.cut_all, h.cut_nil, h.map_cons, h.map_nil, h.len_nil, he_e_int32, he_e_uint8, if_true]; done) | (simp only [h.nadd0, h.nle_refl, h.cut_all, h.cut_nil, h.map_cons, h.map_nil, h.len_nil, he_e_int32, he_e_uint8, if_true]; first | rfl | (cbv; done) | (cbv; simp only [h.map_cons, h.map_nil, h.len_nil, he_e_int32, he_e_uint8]; done))
                  | true =>
                    simp only [c20] at hp ⊢
                    cbv
                    cases hp
                    first | rfl | (cbv; done) | (simp only [h.nadd0, h.nle_refl, h.cut_all, h.cut_nil, h.map_cons, h.map_nil, h.len_nil, he_e_int32, he_e_uint8, if_true]; done) | (simp only [h.nadd0, h.nle_refl, h.cut_all, h.cut_nil, h.map_cons, h.map_nil, h.len_nil, he_e_int32, he_e_uint8, if_true]; first | rfl | (cbv; done) | (cbv; simp only [h.map_cons, h.map_nil, h.len_nil, he_e_int32, he_e_uint8]; done))
                | true =>
                  simp only at hp
                  cbv
                  cases c13 : xcmp .eql r5 (-1) with
                  | false =>
                    simp only [c13] at hp ⊢
                    cbv
                    cases hp
                    first | rfl | (cbv; done) | (simp only [h.nadd0, h.nle_refl, h.cut_all, h.cut_nil, h.map_cons, h.map_nil, h.len_nil, he_e_int32, he_e_uint8, if_true]; done) | (simp only [h.nadd0, h.nle_refl, h.cut_all, h.cut_nil, h.map_cons, h.map_nil, h.len_nil, he_e_int32, he_e_uint8, if_true]; first | rfl | (cbv; done) | (cbv; simp only [h.map_cons, h.map_nil, h.len_nil, he_e_int32, he_e_uint8]; done))
                  | true =>
                    simp only [c13] at hp ⊢
                    cbv
                    cases c15 : c_text_Runes v0 with
                    | none => simp only [c15] at hp; cases hp
                    | some r14 =>
                      simp only [c15] at hp
                      have qc := h_text_Runes c15 (⟨m, []⟩ :: stk)
                      simp only [qc]
                      cbv
                      cases c17 : c_cascaderef01_Runes v0 with
                      | none => simp only [c17] at hp; cases hp
                      | some r16 =>
                        simp only [c17] at hp
                        have qc := h_cascaderef01_Runes c17 (⟨m, []⟩ :: stk)
                        simp only [qc]
                        cbv
                        cases c19 : c_cascadelaw01_same r14 r16 with
                        | none => simp only [c19] at hp; cases hp
                        | some r18 =>
                          simp only [c19] at hp
                          have qc := h_cascadelaw01_same c19 (⟨m, []⟩ :: stk)
                          simp only [qc]
                          cbv
                          cases hp
                          first | rfl | (cbv; done) | (simp only [h.nadd0, h.nle_refl, h.cut_all, h.cut_nil, h.map_cons, h.map_nil, h.len_nil, he_e_int32, he_e_uint8, if_true]; done) | (simp only [h.nadd0, h.nle_refl, h.cut_all, h.cut_nil, h.map_cons, h.map_nil, h.len_nil, he_e_int32, he_e_uint8, if_true]; first | rfl | (cbv; done) | (cbv; simp only [h.map_cons, h.map_nil, h.len_nil, he_e_int32, he_e_uint8]; done))
      | true =>
        simp only [c4] at hp ⊢
        cbv
        have qc := h_cascadelaw01_awake c2 (⟨m, []⟩ :: stk)
        simp only [qc]
        cbv
        cases hp
        first | rfl | (cbv; done) | (simp only [h.nadd0, h.nle_refl, h.cut_all, h.cut_nil, h.map_cons, h.map_nil, h.len_nil, he_e_int32, he_e_uint8, if_true]; done) | (simp only [h.nadd0, h.nle_refl, h.cut_all, h.cut_nil, h.map_cons, h.map_nil, h.len_nil, he_e_int32, he_e_uint8, if_true]; first | rfl | (cbv; done) | (cbv; simp only [h.map_cons, h.map_nil, h.len_nil, he_e_int32, he_e_uint8]; done))
def b_unicode_utf8_ValidRune_0 (P : Prims)  (l_1 : Option (Bool)) (v0 : Int) : Option (Bool) :=
  match P.cmp .leq 0 v0 with
  | false =>
    match P.cmp .lss 57343 v0 with
    | false =>
      l_1 
    | true =>
      match P.cmp .leq v0 1114111 with
      | false =>
        l_1 
      | true =>
        some true
  | true =>
    match P.cmp .lss v0 55296 with
    | false =>
      match P.cmp .lss 57343 v0 with
      | false =>
        l_1 
      | true =>
        match P.cmp .leq v0 1114111 with
        | false =>
          l_1 
        | true =>
          some true
    | true =>
      some true
theorem o_unicode_utf8_ValidRune_0   (stk : Stk) (m : Nat) (l_1 : Option (Bool)) (v0 : Int) (h_l_1 : ∀  {out}, l_1  = some out → xat 41 true 1 [] ⟨[], ⟨m, []⟩ :: stk⟩ = (fun r0 => (some (.ret (.d (.bool r0)), stk) : Rk')) out) {out} (hp : b_unicode_utf8_ValidRune_0 ⟨xar, xcmp, xwrap, xseq, xslt, xenc, pquo, pshf, pslen, psidx, pssub, pscat, psit, pslist, pofBytes, @plen, @pidx, @psub, @papp, @pset, @pmake, @ploop⟩  l_1 v0 = some out) : xat 41 true 0 [] ⟨[(0, (.d (.int .i32 v0)))], ⟨m, []⟩ :: stk⟩ = (fun r0 => (some (.ret (.d (.bool r0)), stk) : Rk')) out := by
  simp only [b_unicode_utf8_ValidRune_0] at hp
  rw [h.at_, hT]
  cbv
  cases c1 : xcmp .leq 0 v0 with
  | false =>
    simp only [c1] at hp ⊢
    cbv
    cases c5 : xcmp .lss 57343 v0 with
    | false =>
      simp only [c5] at hp ⊢
      cbv
      first | exact h_l_1 hp | (have q := h_l_1 hp; simp only [h.map_cons, h.map_nil, h.len_nil, he_e_int32, he_e_uint8] at q; first | exact q | (cbv; exact q))
    | true =>
      simp only [c5] at hp ⊢
      cbv
      cases c6 : xcmp .leq v0 1114111 with
      | false =>
        simp only [c6] at hp ⊢
        cbv
        first | exact h_l_1 hp | (have q := h_l_1 hp; simp only [h.map_cons, h.map_nil, h.len_nil, he_e_int32, he_e_uint8] at q; first | exact q | (cbv; exact q))
      | true =>
        simp only [c6] at hp ⊢
        cbv
        cases hp
        first | rfl | (cbv; done) | (simp only [h.nadd0, h.nle_refl, h.cut_all, h.cut_nil, h.map_cons, h.map_nil, h.len_nil, he_e_int32, he_e_uint8, if_true]; done) | (simp only [h.nadd0, h.nle_refl, h.cut_all, h.cut_nil, h.map_cons, h.map_nil, h.len_nil, he_e_int32, he_e_uint8, if_true]; first | rfl | (cbv; done) | (cbv; simp only [h.map_cons, h.map_nil, h.len_nil, he_e_int32, he_e_uint8]; done))
  | true =>
    simp only [c1] at hp ⊢
    cbv
    cases c2 : xcmp .lss v0 55296 with
    | false =>
      simp only [c2] at hp ⊢
      cbv
      cases c3 : xcmp .lss 57343 v0 with
      | false =>
        simp only [c3] at hp ⊢
        cbv
        first | exact h_l_1 hp | (have q := h_l_1 hp; simp only [h.map_cons, h.map_nil, h.len_nil, he_e_int32, he_e_uint8] at q; first | exact q | (cbv; exact q))
      | true =>
        simp only [c3] at hp ⊢
        cbv
        cases c4 : xcmp .leq v0 1114111 with
        | false =>
          simp only [c4] at hp ⊢
          cbv
          first | exact h_l_1 hp | (have q := h_l_1 hp; simp only [h.map_cons, h.map_nil, h.len_nil, he_e_int32, he_e_uint8] at q; first | exact q | (cbv; exact q))
        | true =>
          simp only [c4] at hp ⊢
          cbv
          cases hp
          first | rfl | (cbv; done) | (simp only [h.nadd0, h.nle_refl, h.cut_all, h.cut_nil, h.map_cons, h.map_nil, h.len_nil, he_e_int32, he_e_uint8, if_true]; done) | (simp only [h.nadd0, h.nle_refl, h.cut_all, h.cut_nil, h.map_cons, h.map_nil, h.len_nil, he_e_int32, he_e_uint8, if_true]; first | rfl | (cbv; done) | (cbv; simp only [h.map_cons, h.map_nil, h.len_nil, he_e_int32, he_e_uint8]; done))
    | true =>
      simp only [c2] at hp ⊢
      cbv
      cases hp
      first | rfl | (cbv; done) | (simp only [h.nadd0, h.nle_refl, h.cut_all, h.cut_nil, h.map_cons, h.map_nil, h.len_nil, he_e_int32, he_e_uint8, if_true]; done) | (simp only [h.nadd0, h.nle_refl, h.cut_all, h.cut_nil, h.map_cons, h.map_nil, h.len_nil, he_e_int32, he_e_uint8, if_true]; first | rfl | (cbv; done) | (cbv; simp only [h.map_cons, h.map_nil, h.len_nil, he_e_int32, he_e_uint8]; done))
def b_unicode_utf8_ValidRune_1 (P : Prims)    : Option (Bool) :=
  some false
theorem o_unicode_utf8_ValidRune_1   (stk : Stk) (m : Nat)    {out} (hp : b_unicode_utf8_ValidRune_1 ⟨xar, xcmp, xwrap, xseq, xslt, xenc, pquo, pshf, pslen, psidx, pssub, pscat, psit, pslist, pofBytes, @plen, @pidx, @psub, @papp, @pset, @pmake, @ploop⟩    = some out) : xat 41 true 1 [] ⟨[], ⟨m, []⟩ :: stk⟩ = (fun r0 => (some (.ret (.d (.bool r0)), stk) : Rk')) out := by
  simp only [b_unicode_utf8_ValidRune_1] at hp
  rw [h.at_, hT]
  cbv
  cases hp
  first | rfl | (cbv; done) | (simp only [h.nadd0, h.nle_refl, h.cut_all, h.cut_nil, h.map_cons, h.map_nil, h.len_nil, he_e_int32, he_e_uint8, if_true]; done) | (simp only [h.nadd0, h.nle_refl, h.cut_all, h.cut_nil, h.map_cons, h.map_nil, h.len_nil, he_e_int32, he_e_uint8, if_true]; first | rfl | (cbv; done) | (cbv; simp only [h.map_cons, h.map_nil, h.len_nil, he_e_int32, he_e_uint8]; done))
def b_text_Of_0 (P : Prims) (c_unicode_utf8_ValidRune : Int → Option (Bool)) (c_strings_Builder_WriteRune : Str → Int → Option (Str × Int)) (c_strings_Builder_String : Str → Option Str) (l_1 : (List Int) → Int → Int → Bool → Nat → Str → Option (Str × Int)) (v0 : (List Int)) : Option (Str × Int) :=
  l_1 v0 (P.len v0) 0 false 0 []
theorem o_text_Of_0 (c_unicode_utf8_ValidRune : Int → Option (Bool)) (c_strings_Builder_WriteRune : Str → Int → Option (Str × Int)) (c_strings_Builder_String : Str → Option Str) (h_unicode_utf8_ValidRune : ∀ {a0 : Int} {r0 : Bool}, c_unicode_utf8_ValidRune a0 = some r0 → ∀ stk, xpcall 41 [(.d (.int .i32 a0))] stk = some (.d (.bool r0))) (h_strings_Builder_WriteRune : ∀ {s : Str} {a : Int} {s1 : Str} {n : Int}, c_strings_Builder_WriteRune s a = some (s1, n) → ∀ stk l l1 u g, getO stk l = some (.bld 53 u (.msl l1 g 0 0)) → getO stk l1 = some (.hid 5 g s) → xfcall 42 [.ref l 0, .d (.int .i32 a)] stk = some (.d (.tup [.int .i64 n, .nili]), setO (setO stk l1 (.hid 5 (g + 1) s1)) l (.bld 53 true (.msl l1 (g + 1) 0 0)))) (h_strings_Builder_String : ∀ {s s1 : Str}, c_strings_Builder_String s = some s1 → ∀ stk l l1 u g, getO stk l = some (.bld 53 u (.msl l1 g 0 0)) → getO stk l1 = some (.hid 5 g s) → xfcall 43 [.ref l 0] stk = some (.d (.str s1), setO (setO stk l1 (.hid 5 (g + 1) [])) l (.bld 53 u .dead))) (stk : Stk) (m : Nat) (l_1 : (List Int) → Int → Int → Bool → Nat → Str → Option (Str × Int)) (v0 : (List Int)) (h_l_1 : ∀ {v7 : (List Int)} {v8 : Int} {v9 : Int} {o4_u : Bool} {o4_1_g : Nat} {o4_1_s : Str} {out}, l_1 v7 v8 v9 o4_u o4_1_g o4_1_s = some out → xat 26 true 1 [.lp ⟨1, [4, 7, 8, 9], [[4], [4, 1]]⟩, .blk 0, .sub ⟨5, [4], [[4], [4, 1]]⟩] ⟨[(4, (.ref ⟨m, [4]⟩ 0)), (7, (.d (.sl (xmap e_int32 v7)))), (8, (.d (.int .i64 v8))), (9, (.d (.int .i64 v9)))], ⟨m, [([4], (.bld 53 o4_u (.msl ⟨m, [4, 1]⟩ o4_1_g 0 0))), ([4, 1], (.hid 5 o4_1_g o4_1_s))]⟩ :: stk⟩ = (fun (r0, r1) => (some (.ret (.d (.tup [(.str r0), (.int .i64 r1)])), stk) : Rk')) out) {out} (hp : b_text_Of_0 ⟨xar, xcmp, xwrap, xseq, xslt, xenc, pquo, pshf, pslen, psidx, pssub, pscat, psit, pslist, pofBytes, @plen, @pidx, @psub, @papp, @pset, @pmake, @ploop⟩ c_unicode_utf8_ValidRune c_strings_Builder_WriteRune c_strings_Builder_String l_1 v0 = some out) : xat 26 true 0 [] ⟨[(0, (.d (.sl (xmap e_int32 v0))))], ⟨m, []⟩ :: stk⟩ = (fun (r0, r1) => (some (.ret (.d (.tup [(.str r0), (.int .i64 r1)])), stk) : Rk')) out := by
  simp only [b_text_Of_0] at hp
  rw [h.at_, hT]
  cbv
  try simp only [h.len]
  first | exact h_l_1 hp | (have q := h_l_1 hp; simp only [h.map_cons, h.map_nil, h.len_nil, he_e_int32, he_e_uint8] at q; first | exact q | (cbv; exact q))
def b_text_Of_1 (P : Prims) (c_unicode_utf8_ValidRune : Int → Option (Bool)) (c_strings_Builder_WriteRune : Str → Int → Option (Str × Int)) (c_strings_Builder_String : Str → Option Str)  (v7 : (List Int)) (v8 : Int) (v9 : Int) (o4_u : Bool) (o4_1_g : Nat) (o4_1_s : Str) : Option (((List Int) × Int × Int × Bool × Nat × Str) ⊕ (Str × Int)) :=
  match P.cmp .lss v9 v8 with
  | false =>
    match c_strings_Builder_String o4_1_s with
    | none => none
    | some s10 =>
      some (.inr (s10, 0))
  | true =>
    match P.idx v7 v9 with
    | none => none
    | some a2 =>
      match c_unicode_utf8_ValidRune a2 with
      | none => none
      | some r4 =>
        match r4 with
        | false =>
          some (.inr ([], 2))
        | true =>
          match c_strings_Builder_WriteRune o4_1_s a2 with
          | none => none
          | some (s7, s7_n) =>
            some (.inl (v7, v8, P.ar .add .i64 v9 1, true, o4_1_g + 1, s7))
theorem o_text_Of_1 (c_unicode_utf8_ValidRune : Int → Option (Bool)) (c_strings_Builder_WriteRune : Str → Int → Option (Str × Int)) (c_strings_Builder_String : Str → Option Str) (h_unicode_utf8_ValidRune : ∀ {a0 : Int} {r0 : Bool}, c_unicode_utf8_ValidRune a0 = some r0 → ∀ stk, xpcall 41 [(.d (.int .i32 a0))] stk = some (.d (.bool r0))) (h_strings_Builder_WriteRune : ∀ {s : Str} {a : Int} {s1 : Str} {n : Int}, c_strings_Builder_WriteRune s a = some (s1, n) → ∀ stk l l1 u g, getO stk l = some (.bld 53 u (.msl l1 g 0 0)) → getO stk l1 = some (.hid 5 g s) → xfcall 42 [.ref l 0, .d (.int .i32 a)] stk = some (.d (.tup [.int .i64 n, .nili]), setO (setO stk l1 (.hid 5 (g + 1) s1)) l (.bld 53 true (.msl l1 (g + 1) 0 0)))) (h_strings_Builder_String : ∀ {s s1 : Str}, c_strings_Builder_String s = some s1 → ∀ stk l l1 u g, getO stk l = some (.bld 53 u (.msl l1 g 0 0)) → getO stk l1 = some (.hid 5 g s) → xfcall 43 [.ref l 0] stk = some (.d (.str s1), setO (setO stk l1 (.hid 5 (g + 1) [])) l (.bld 53 u .dead))) (stk : Stk) (m : Nat)  (v7 : (List Int)) (v8 : Int) (v9 : Int) (o4_u : Bool) (o4_1_g : Nat) (o4_1_s : Str)  {out} (hp : b_text_Of_1 ⟨xar, xcmp, xwrap, xseq, xslt, xenc, pquo, pshf, pslen, psidx, pssub, pscat, psit, pslist, pofBytes, @plen, @pidx, @psub, @papp, @pset, @pmake, @ploop⟩ c_unicode_utf8_ValidRune c_strings_Builder_WriteRune c_strings_Builder_String  v7 v8 v9 o4_u o4_1_g o4_1_s = some out) : xat 26 true 1 [.lp ⟨1, [4, 7, 8, 9], [[4], [4, 1]]⟩, .blk 0, .sub ⟨5, [4], [[4], [4, 1]]⟩] ⟨[(4, (.ref ⟨m, [4]⟩ 0)), (7, (.d (.sl (xmap e_int32 v7)))), (8, (.d (.int .i64 v8))), (9, (.d (.int .i64 v9)))], ⟨m, [([4], (.bld 53 o4_u (.msl ⟨m, [4, 1]⟩ o4_1_g 0 0))), ([4, 1], (.hid 5 o4_1_g o4_1_s))]⟩ :: stk⟩ = (Sum.elim (fun (v7, v8, v9, o4_u, o4_1_g, o4_1_s) => xat 26 true 1 [.lp ⟨1, [4, 7, 8, 9], [[4], [4, 1]]⟩, .blk 0, .sub ⟨5, [4], [[4], [4, 1]]⟩] ⟨[(4, (.ref ⟨m, [4]⟩ 0)), (7, (.d (.sl (xmap e_int32 v7)))), (8, (.d (.int .i64 v8))), (9, (.d (.int .i64 v9)))], ⟨m, [([4], (.bld 53 o4_u (.msl ⟨m, [4, 1]⟩ o4_1_g 0 0))), ([4, 1], (.hid 5 o4_1_g o4_1_s))]⟩ :: stk⟩) (fun (r0, r1) => (some (.ret (.d (.tup [(.str r0), (.int .i64 r1)])), stk) : Rk'))) out := by
  simp only [b_text_Of_1] at hp
  rw [h.at_, hT]
  cbv
  cases c1 : xcmp .lss v9 v8 with
  | false =>
    simp only [c1] at hp ⊢
    cbv
    rw [h.at_, hT]
    cbv
    cases c11 : c_strings_Builder_String o4_1_s with
    | none => simp only [c11] at hp; cases hp
    | some s10 =>
      simp only [c11] at hp
      have qc := h_strings_Builder_String c11 (⟨m, [([4], (.bld 53 o4_u (.msl ⟨m, [4, 1]⟩ o4_1_g 0 0))), ([4, 1], (.hid 5 o4_1_g o4_1_s))]⟩ :: stk) ⟨m, [4]⟩ ⟨m, [4, 1]⟩ o4_u o4_1_g (by cbv) (by cbv)
      simp only [qc]
      cbv
      cases hp
      first | rfl | (cbv; done) | (simp only [h.nadd0, h.nle_refl, h.cut_all, h.cut_nil, h.map_cons, h.map_nil, h.len_nil, he_e_int32, he_e_uint8, if_true]; done) | (simp only [h.nadd0, h.nle_refl, h.cut_all, h.cut_nil, h.map_cons, h.map_nil, h.len_nil, he_e_int32, he_e_uint8, if_true]; first | rfl | (cbv; done) | (cbv; simp only [h.map_cons, h.map_nil, h.len_nil, he_e_int32, he_e_uint8]; done))
  | true =>
    simp only [c1] at hp ⊢
    cbv
    rw [h.at_, hT]
    cbv
    cases c3 : pidx v7 v9 with
    | none => simp only [c3] at hp; cases hp
    | some a2 =>
      simp only [c3] at hp
      obtain ⟨q1, q2⟩ := h.idx e_int32 c3
      simp only [he_e_int32] at q2
      simp only [q1, Bool.false_eq_true, if_false]
      cbv
      try simp only [q2]
      cbv
      cases c5 : c_unicode_utf8_ValidRune a2 with
      | none => simp only [c5] at hp; cases hp
      | some r4 =>
        simp only [c5] at hp
        have qc := h_unicode_utf8_ValidRune c5 (⟨m, [([4], (.bld 53 o4_u (.msl ⟨m, [4, 1]⟩ o4_1_g 0 0))), ([4, 1], (.hid 5 o4_1_g o4_1_s))]⟩ :: stk)
        simp only [qc]
        cbv
        cases r4 with
        | false =>
          simp only at hp
          cbv
          cases hp
          first | rfl | (cbv; done) | (simp only [h.nadd0, h.nle_refl, h.cut_all, h.cut_nil, h.map_cons, h.map_nil, h.len_nil, he_e_int32, he_e_uint8, if_true]; done) | (simp only [h.nadd0, h.nle_refl, h.cut_all, h.cut_nil, h.map_cons, h.map_nil, h.len_nil, he_e_int32, he_e_uint8, if_true]; first | rfl | (cbv; done) | (cbv; simp only [h.map_cons, h.map_nil, h.len_nil, he_e_int32, he_e_uint8]; done))
        | true =>
          simp only at hp
          cbv
          rw [h.at_, hT]
          cbv
          cases c8 : c_strings_Builder_WriteRune o4_1_s a2 with
          | none => simp only [c8] at hp; cases hp
          | some y9 =>
            obtain ⟨s7, s7_n⟩ := y9
            simp only [c8] at hp
            have qc := h_strings_Builder_WriteRune c8 (⟨m, [([4], (.bld 53 o4_u (.msl ⟨m, [4, 1]⟩ o4_1_g 0 0))), ([4, 1], (.hid 5 o4_1_g o4_1_s))]⟩ :: stk) ⟨m, [4]⟩ ⟨m, [4, 1]⟩ o4_u o4_1_g (by cbv) (by cbv)
            simp only [qc]
            cbv
            rw [h.at_, hT]
            cbv
            cases hp
            first | rfl | (cbv; done) | (simp only [h.nadd0, h.nle_refl, h.cut_all, h.cut_nil, h.map_cons, h.map_nil, h.len_nil, he_e_int32, he_e_uint8, if_true]; done) | (simp only [h.nadd0, h.nle_refl, h.cut_all, h.cut_nil, h.map_cons, h.map_nil, h.len_nil, he_e_int32, he_e_uint8, if_true]; first | rfl | (cbv; done) | (cbv; simp only [h.map_cons, h.map_nil, h.len_nil, he_e_int32, he_e_uint8]; done))
def b_cascaderef01_Rune_0 (P : Prims)  (l_1 : Int → Option (Str)) (v0 : Int) : Option (Str) :=
  match P.cmp .lss (P.wrap .i64 v0) 0 with
  | false =>
    match P.cmp .gtr (P.wrap .i64 v0) 1114111 with
    | false =>
      match P.cmp .geq (P.wrap .i64 v0) 55296 with
      | false =>
        l_1 (P.wrap .i64 v0)
      | true =>
        match P.cmp .lss (P.wrap .i64 v0) 57344 with
        | false =>
          l_1 (P.wrap .i64 v0)
        | true =>
          some []
    | true =>
      some []
  | true =>
    some []
theorem o_cascaderef01_Rune_0   (stk : Stk) (m : Nat) (l_1 : Int → Option (Str)) (v0 : Int) (h_l_1 : ∀ {v3 : Int} {out}, l_1 v3 = some out → xat 44 true 1 [] ⟨[(3, (.d (.int .i64 v3)))], ⟨m, []⟩ :: stk⟩ = (fun r0 => (some (.ret (.d (.str r0)), stk) : Rk')) out) {out} (hp : b_cascaderef01_Rune_0 ⟨xar, xcmp, xwrap, xseq, xslt, xenc, pquo, pshf, pslen, psidx, pssub, pscat, psit, pslist, pofBytes, @plen, @pidx, @psub, @papp, @pset, @pmake, @ploop⟩  l_1 v0 = some out) : xat 44 true 0 [] ⟨[(0, (.d (.int .i32 v0)))], ⟨m, []⟩ :: stk⟩ = (fun r0 => (some (.ret (.d (.str r0)), stk) : Rk')) out := by
  simp only [b_cascaderef01_Rune_0] at hp
  rw [h.at_, hT]
  cbv
  cases c1 : xcmp .lss (xwrap .i64 v0) 0 with
  | false =>
    simp only [c1] at hp ⊢
    cbv
    cases c2 : xcmp .gtr (xwrap .i64 v0) 1114111 with
    | false =>
      simp only [c2] at hp ⊢
      cbv
      cases c3 : xcmp .geq (xwrap .i64 v0) 55296 with
      | false =>
        simp only [c3] at hp ⊢
        cbv
        first | exact h_l_1 hp | (have q := h_l_1 hp; simp only [h.map_cons, h.map_nil, h.len_nil, he_e_int32, he_e_uint8] at q; first | exact q | (cbv; exact q))
      | true =>
        simp only [c3] at hp ⊢
        cbv
        cases c4 : xcmp .lss (xwrap .i64 v0) 57344 with
        | false =>
          simp only [c4] at hp ⊢
          cbv
          first | exact h_l_1 hp | (have q := h_l_1 hp; simp only [h.map_cons, h.map_nil, h.len_nil, he_e_int32, he_e_uint8] at q; first | exact q | (cbv; exact q))
        | true =>
          simp only [c4] at hp ⊢
          cbv
          cases hp
          first | rfl | (cbv; done) | (simp only [h.nadd0, h.nle_refl, h.cut_all, h.cut_nil, h.map_cons, h.map_nil, h.len_nil, he_e_int32, he_e_uint8, if_true]; done) | (simp only [h.nadd0, h.nle_refl, h.cut_all, h.cut_nil, h.map_cons, h.map_nil, h.len_nil, he_e_int32, he_e_uint8, if_true]; first | rfl | (cbv; done) | (cbv; simp only [h.map_cons, h.map_nil, h.len_nil, he_e_int32, he_e_uint8]; done))
    | true =>
      simp only [c2] at hp ⊢
      cbv
      cases hp
      first | rfl | (cbv; done) | (simp only [h.nadd0, h.nle_refl, h.cut_all, h.cut_nil, h.map_cons, h.map_nil, h.len_nil, he_e_int32, he_e_uint8, if_true]; done) | (simp only [h.nadd0, h.nle_refl, h.cut_all, h.cut_nil, h.map_cons, h.map_nil, h.len_nil, he_e_int32, he_e_uint8, if_true]; first | rfl | (cbv; done) | (cbv; simp only [h.map_cons, h.map_nil, h.len_nil, he_e_int32, he_e_uint8]; done))
  | true =>
    simp only [c1] at hp ⊢
    cbv
    cases hp
    first | rfl | (cbv; done) | (simp only [h.nadd0, h.nle_refl, h.cut_all, h.cut_nil, h.map_cons, h.map_nil, h.len_nil, he_e_int32, he_e_uint8, if_true]; done) | (simp only [h.nadd0, h.nle_refl, h.cut_all, h.cut_nil, h.map_cons, h.map_nil, h.len_nil, he_e_int32, he_e_uint8, if_true]; first | rfl | (cbv; done) | (cbv; simp only [h.map_cons, h.map_nil, h.len_nil, he_e_int32, he_e_uint8]; done))
def b_cascaderef01_Rune_1 (P : Prims)   (v3 : Int) : Option (Str) :=
  match P.cmp .lss v3 128 with
  | false =>
    match P.cmp .lss v3 2048 with
    | false =>
      match P.cmp .lss v3 65536 with
      | false =>
        match P.quo .quo .i64 v3 262144 with
        | none => none
        | some n20 =>
          match P.quo .quo .i64 v3 4096 with
          | none => none
          | some n22 =>
            match P.quo .rem .i64 n22 64 with
            | none => none
            | some n24 =>
              match P.quo .quo .i64 v3 64 with
              | none => none
              | some n26 =>
                match P.quo .rem .i64 n26 64 with
                | none => none
                | some n28 =>
                  match P.quo .rem .i64 v3 64 with
                  | none => none
                  | some n30 =>
                    some (P.ofBytes [P.wrap .u8 (P.ar .add .i64 240 n20), P.wrap .u8 (P.ar .add .i64 128 n24), P.wrap .u8 (P.ar .add .i64 128 n28), P.wrap .u8 (P.ar .add .i64 128 n30)])
      | true =>
        match P.quo .quo .i64 v3 4096 with
        | none => none
        | some n12 =>
          match P.quo .quo .i64 v3 64 with
          | none => none
          | some n14 =>
            match P.quo .rem .i64 n14 64 with
            | none => none
            | some n16 =>
              match P.quo .rem .i64 v3 64 with
              | none => none
              | some n18 =>
                some (P.ofBytes [P.wrap .u8 (P.ar .add .i64 224 n12), P.wrap .u8 (P.ar .add .i64 128 n16), P.wrap .u8 (P.ar .add .i64 128 n18)])
    | true =>
      match P.quo .quo .i64 v3 64 with
      | none => none
      | some n7 =>
        match P.quo .rem .i64 v3 64 with
        | none => none
        | some n9 =>
          some (P.ofBytes [P.wrap .u8 (P.ar .add .i64 192 n7), P.wrap .u8 (P.ar .add .i64 128 n9)])
  | true =>
    some (P.ofBytes [P.wrap .u8 v3])
theorem o_cascaderef01_Rune_1   (stk : Stk) (m : Nat)  (v3 : Int)  {out} (hp : b_cascaderef01_Rune_1 ⟨xar, xcmp, xwrap, xseq, xslt, xenc, pquo, pshf, pslen, psidx, pssub, pscat, psit, pslist, pofBytes, @plen, @pidx, @psub, @papp, @pset, @pmake, @ploop⟩   v3 = some out) : xat 44 true 1 [] ⟨[(3, (.d (.int .i64 v3)))], ⟨m, []⟩ :: stk⟩ = (fun r0 => (some (.ret (.d (.str r0)), stk) : Rk')) out := by
  simp only [b_cascaderef01_Rune_1] at hp
  rw [h.at_, hT]
  cbv
  cases c5 : xcmp .lss v3 128 with
  | false =>
    simp only [c5] at hp ⊢
    cbv
    rw [h.at_, hT]
    cbv
    cases c6 : xcmp .lss v3 2048 with
    | false =>
      simp only [c6] at hp ⊢
      cbv
      rw [h.at_, hT]
      cbv
      cases c11 : xcmp .lss v3 65536 with
      | false =>
        simp only [c11] at hp ⊢
        cbv
        rw [h.at_, hT]
        cbv
        cases c21 : pquo .quo .i64 v3 262144 with
        | none => simp only [c21] at hp; cases hp
        | some n20 =>
          simp only [c21] at hp
          obtain ⟨q1, q2⟩ := h.quo c21
          simp only [q1, q2, Bool.false_eq_true, if_false]
          cbv
          cases c23 : pquo .quo .i64 v3 4096 with
          | none => simp only [c23] at hp; cases hp
          | some n22 =>
            simp only [c23] at hp
            obtain ⟨q1, q2⟩ := h.quo c23
            simp only [q1, q2, Bool.false_eq_true, if_false]
            cbv
            cases c25 : pquo .rem .i64 n22 64 with
            | none => simp only [c25] at hp; cases hp
            | some n24 =>
              simp only [c25] at hp
              obtain ⟨q1, q2⟩ := h.quo c25
              simp only [q1, q2, Bool.false_eq_true, if_false]
              cbv
              cases c27 : pquo .quo .i64 v3 64 with
              | none => simp only [c27] at hp; cases hp
              | some n26 =>
                simp only [c27] at hp
                obtain ⟨q1, q2⟩ := h.quo c27
                simp only [q1, q2, Bool.false_eq_true, if_false]
                cbv
                cases c29 : pquo .rem .i64 n26 64 with
                | none => simp only [c29] at hp; cases hp
                | some n28 =>
                  simp only [c29] at hp
                  obtain ⟨q1, q2⟩ := h.quo c29
                  simp only [q1, q2, Bool.false_eq_true, if_false]
                  cbv
                  cases c31 : pquo .rem .i64 v3 64 with
                  | none => simp only [c31] at hp; cases hp
                  | some n30 =>
                    simp only [c31] at hp
                    obtain ⟨q1, q2⟩ := h.quo c31
                    simp only [q1, q2, Bool.false_eq_true, if_false]
                    cbv
                    simp only [h.allsz_nil, h.allsz_cons]
                    cbv
                    have qb := h.ofBytes e_uint8 he_e_uint8 [xwrap .u8 (xar .add .i64 240 n20), xwrap .u8 (xar .add .i64 128 n24), xwrap .u8 (xar .add .i64 128 n28), xwrap .u8 (xar .add .i64 128 n30)]
                    try simp only [h.map_cons, h.map_nil, he_e_uint8] at qb
                    simp only [qb]
                    cbv
                    cases hp
                    first | rfl | (cbv; done) | (simp only [h.nadd0, h.nle_refl, h.cut_all, h.cut_nil, h.map_cons, h.map_nil, h.len_nil, he_e_int32, he_e_uint8, if_true]; done) | (simp only [h.nadd0, h.nle_refl, h.cut_all, h.cut_nil, h.map_cons, h.map_nil, h.len_nil, he_e_int32, he_e_uint8, if_true]; first | rfl | (cbv; done) | (cbv; simp only [h.map_cons, h.map_nil, h.len_nil, he_e_int32, he_e_uint8]; done))
      | true =>
        simp only [c11] at hp ⊢
        cbv
        cases c13 : pquo .quo .i64 v3 4096 with
        | none => simp only [c13] at hp; cases hp
        | some n12 =>
          simp only [c13] at hp
          obtain ⟨q1, q2⟩ := h.quo c13
          simp only [q1, q2, Bool.false_eq_true, if_false]
          cbv
          cases c15 : pquo .quo .i64 v3 64 with
          | none => simp only [c15] at hp; cases hp
          | some n14 =>
            simp only [c15] at hp
            obtain ⟨q1, q2⟩ := h.quo c15
            simp only [q1, q2, Bool.false_eq_true, if_false]
            cbv
            cases c17 : pquo .rem .i64 n14 64 with
            | none => simp only [c17] at hp; cases hp
            | some n16 =>
              simp only [c17] at hp
              obtain ⟨q1, q2⟩ := h.quo c17
              simp only [q1, q2, Bool.false_eq_true, if_false]
              cbv
              cases c19 : pquo .rem .i64 v3 64 with
              | none => simp only [c19] at hp; cases hp
              | some n18 =>
                simp only [c19] at hp
                obtain ⟨q1, q2⟩ := h.quo c19
                simp only [q1, q2, Bool.false_eq_true, if_false]
                cbv
                simp only [h.allsz_nil, h.allsz_cons]
                cbv
                have qb := h.ofBytes e_uint8 he_e_uint8 [xwrap .u8 (xar .add .i64 224 n12), xwrap .u8 (xar .add .i64 128 n16), xwrap .u8 (xar .add .i64 128 n18)]
                try simp only [h.map_cons, h.map_nil, he_e_uint8] at qb
                simp only [qb]
                cbv
                cases hp
                first | rfl | (cbv; done) | (simp only [h.nadd0, h.nle_refl, h.cut_all, h.cut_nil, h.map_cons, h.map_nil, h.len_nil, he_e_int32, he_e_uint8, if_true]; done) | (simp only [h.nadd0, h.nle_refl, h.cut_all, h.cut_nil, h.map_cons, h.map_nil, h.len_nil, he_e_int32, he_e_uint8, if_true]; first | rfl | (cbv; done) | (cbv; simp only [h.map_cons, h.map_nil, h.len_nil, he_e_int32, he_e_uint8]; done))
    | true =>
      simp only [c6] at hp ⊢
      cbv
      cases c8 : pquo .quo .i64 v3 64 with
      | none => simp only [c8] at hp; cases hp
      | some n7 =>
        simp only [c8] at hp
        obtain ⟨q1, q2⟩ := h.quo c8
        simp only [q1, q2, Bool.false_eq_true, if_false]
        cbv
        cases c10 : pquo .rem .i64 v3 64 with
        | none => simp only [c10] at hp; cases hp
        | some n9 =>
          simp only [c10] at hp
          obtain ⟨q1, q2⟩ := h.quo c10
          simp only [q1, q2, Bool.false_eq_true, if_false]
          cbv
          simp only [h.allsz_nil, h.allsz_cons]
          cbv
          have qb := h.ofBytes e_uint8 he_e_uint8 [xwrap .u8 (xar .add .i64 192 n7), xwrap .u8 (xar .add .i64 128 n9)]
          try simp only [h.map_cons, h.map_nil, he_e_uint8] at qb
          simp only [qb]
          cbv
          cases hp
          first | rfl | (cbv; done) | (simp only [h.nadd0, h.nle_refl, h.cut_all, h.cut_nil, h.map_cons, h.map_nil, h.len_nil, he_e_int32, he_e_uint8, if_true]; done) | (simp only [h.nadd0, h.nle_refl, h.cut_all, h.cut_nil, h.map_cons, h.map_nil, h.len_nil, he_e_int32, he_e_uint8, if_true]; first | rfl | (cbv; done) | (cbv; simp only [h.map_cons, h.map_nil, h.len_nil, he_e_int32, he_e_uint8]; done))
  | true =>
    simp only [c5] at hp ⊢
    cbv
    simp only [h.allsz_nil, h.allsz_cons]
    cbv
    have qb := h.ofBytes e_uint8 he_e_uint8 [xwrap .u8 v3]
    try simp only [h.map_cons, h.map_nil, he_e_uint8] at qb
    simp only [qb]
    cbv
    cases hp
    first | rfl | (cbv; done) | (simp only [h.nadd0, h.nle_refl, h.cut_all, h.cut_nil, h.map_cons, h.map_nil, h.len_nil, he_e_int32, he_e_uint8, if_true]; done) | (simp only [h.nadd0, h.nle_refl, h.cut_all, h.cut_nil, h.map_cons, h.map_nil, h.len_nil, he_e_int32, he_e_uint8, if_true]; first | rfl | (cbv; done) | (cbv; simp only [h.map_cons, h.map_nil, h.len_nil, he_e_int32, he_e_uint8]; done))
def b_cascaderef01_Of_0 (P : Prims) (c_cascaderef01_Rune : Int → Option (Str)) (l_1 : (List Int) → Str → Int → Option (Str × Int)) (v0 : (List Int)) : Option (Str × Int) :=
  l_1 v0 [] 0
theorem o_cascaderef01_Of_0 (c_cascaderef01_Rune : Int → Option (Str)) (h_cascaderef01_Rune : ∀ {a0 : Int} {r0 : Str}, c_cascaderef01_Rune a0 = some r0 → ∀ stk, xpcall 44 [(.d (.int .i32 a0))] stk = some (.d (.str r0))) (stk : Stk) (m : Nat) (l_1 : (List Int) → Str → Int → Option (Str × Int)) (v0 : (List Int)) (h_l_1 : ∀ {v0 : (List Int)} {v4 : Str} {v5 : Int} {out}, l_1 v0 v4 v5 = some out → xat 27 true 1 [.lp ⟨1, [0, 4, 5], []⟩, .blk 0, .sub ⟨5, [4], []⟩] ⟨[(0, (.d (.sl (xmap e_int32 v0)))), (4, (.d (.str v4))), (5, (.d (.int .i64 v5)))], ⟨m, []⟩ :: stk⟩ = (fun (r0, r1) => (some (.ret (.d (.tup [(.str r0), (.int .i64 r1)])), stk) : Rk')) out) {out} (hp : b_cascaderef01_Of_0 ⟨xar, xcmp, xwrap, xseq, xslt, xenc, pquo, pshf, pslen, psidx, pssub, pscat, psit, pslist, pofBytes, @plen, @pidx, @psub, @papp, @pset, @pmake, @ploop⟩ c_cascaderef01_Rune l_1 v0 = some out) : xat 27 true 0 [] ⟨[(0, (.d (.sl (xmap e_int32 v0))))], ⟨m, []⟩ :: stk⟩ = (fun (r0, r1) => (some (.ret (.d (.tup [(.str r0), (.int .i64 r1)])), stk) : Rk')) out := by
  simp only [b_cascaderef01_Of_0] at hp
  rw [h.at_, hT]
  cbv
  first | exact h_l_1 hp | (have q := h_l_1 hp; simp only [h.map_cons, h.map_nil, h.len_nil, he_e_int32, he_e_uint8] at q; first | exact q | (cbv; exact q))
def b_cascaderef01_Of_1 (P : Prims) (c_cascaderef01_Rune : Int → Option (Str))  (v0 : (List Int)) (v4 : Str) (v5 : Int) : Option (((List Int) × Str × Int) ⊕ (Str × Int)) :=
  match P.cmp .lss v5 (P.len v0) with
  | false =>
    some (.inr (v4, 0))
  | true =>
    match P.idx v0 v5 with
    | none => none
    | some a2 =>
      match c_cascaderef01_Rune a2 with
      | none => none
      | some r4 =>
        match P.seq r4 [] with
        | false =>
          match P.scat v4 r4 with
          | none => none
          | some s7 =>
            some (.inl (v0, s7, P.ar .add .i64 v5 1))
        | true =>
          some (.inr ([], 2))
theorem o_cascaderef01_Of_1 (c_cascaderef01_Rune : Int → Option (Str)) (h_cascaderef01_Rune : ∀ {a0 : Int} {r0 : Str}, c_cascaderef01_Rune a0 = some r0 → ∀ stk, xpcall 44 [(.d (.int .i32 a0))] stk = some (.d (.str r0))) (stk : Stk) (m : Nat)  (v0 : (List Int)) (v4 : Str) (v5 : Int)  {out} (hp : b_cascaderef01_Of_1 ⟨xar, xcmp, xwrap, xseq, xslt, xenc, pquo, pshf, pslen, psidx, pssub, pscat, psit, pslist, pofBytes, @plen, @pidx, @psub, @papp, @pset, @pmake, @ploop⟩ c_cascaderef01_Rune  v0 v4 v5 = some out) : xat 27 true 1 [.lp ⟨1, [0, 4, 5], []⟩, .blk 0, .sub ⟨5, [4], []⟩] ⟨[(0, (.d (.sl (xmap e_int32 v0)))), (4, (.d (.str v4))), (5, (.d (.int .i64 v5)))], ⟨m, []⟩ :: stk⟩ = (Sum.elim (fun (v0, v4, v5) => xat 27 true 1 [.lp ⟨1, [0, 4, 5], []⟩, .blk 0, .sub ⟨5, [4], []⟩] ⟨[(0, (.d (.sl (xmap e_int32 v0)))), (4, (.d (.str v4))), (5, (.d (.int .i64 v5)))], ⟨m, []⟩ :: stk⟩) (fun (r0, r1) => (some (.ret (.d (.tup [(.str r0), (.int .i64 r1)])), stk) : Rk'))) out := by
  simp only [b_cascaderef01_Of_1] at hp
  rw [h.at_, hT]
  cbv
  try simp only [h.len]
  cases c1 : xcmp .lss v5 (plen v0) with
  | false =>
    simp only [c1] at hp ⊢
    cbv
    rw [h.at_, hT]
    cbv
    cases hp
    first | rfl | (cbv; done) | (simp only [h.nadd0, h.nle_refl, h.cut_all, h.cut_nil, h.map_cons, h.map_nil, h.len_nil, he_e_int32, he_e_uint8, if_true]; done) | (simp only [h.nadd0, h.nle_refl, h.cut_all, h.cut_nil, h.map_cons, h.map_nil, h.len_nil, he_e_int32, he_e_uint8, if_true]; first | rfl | (cbv; done) | (cbv; simp only [h.map_cons, h.map_nil, h.len_nil, he_e_int32, he_e_uint8]; done))
  | true =>
    simp only [c1] at hp ⊢
    cbv
    rw [h.at_, hT]
    cbv
    cases c3 : pidx v0 v5 with
    | none => simp only [c3] at hp; cases hp
    | some a2 =>
      simp only [c3] at hp
      obtain ⟨q1, q2⟩ := h.idx e_int32 c3
      simp only [he_e_int32] at q2
      simp only [q1, Bool.false_eq_true, if_false]
      cbv
      try simp only [q2]
      cbv
      cases c5 : c_cascaderef01_Rune a2 with
      | none => simp only [c5] at hp; cases hp
      | some r4 =>
        simp only [c5] at hp
        have qc := h_cascaderef01_Rune c5 (⟨m, []⟩ :: stk)
        simp only [qc]
        cbv
        cases c6 : xseq r4 [] with
        | false =>
          simp only [c6] at hp ⊢
          cbv
          rw [h.at_, hT]
          cbv
          cases c8 : pscat v4 r4 with
          | none => simp only [c8] at hp; cases hp
          | some s7 =>
            simp only [c8] at hp
            obtain ⟨q1, q2⟩ := h.scat c8
            simp only [q1, q2, if_true]
            cbv
            rw [h.at_, hT]
            cbv
            cases hp
            first | rfl | (cbv; done) | (simp only [h.nadd0, h.nle_refl, h.cut_all, h.cut_nil, h.map_cons, h.map_nil, h.len_nil, he_e_int32, he_e_uint8, if_true]; done) | (simp only [h.nadd0, h.nle_refl, h.cut_all, h.cut_nil, h.map_cons, h.map_nil, h.len_nil, he_e_int32, he_e_uint8, if_true]; first | rfl | (cbv; done) | (cbv; simp only [h.map_cons, h.map_nil, h.len_nil, he_e_int32, he_e_uint8]; done))
        | true =>
          simp only [c6] at hp ⊢
          cbv
          cases hp
          first | rfl | (cbv; done) | (simp only [h.nadd0, h.nle_refl, h.cut_all, h.cut_nil, h.map_cons, h.map_nil, h.len_nil, he_e_int32, he_e_uint8, if_true]; done) | (simp only [h.nadd0, h.nle_refl, h.cut_all, h.cut_nil, h.map_cons, h.map_nil, h.len_nil, he_e_int32, he_e_uint8, if_true]; first | rfl | (cbv; done) | (cbv; simp only [h.map_cons, h.map_nil, h.len_nil, he_e_int32, he_e_uint8]; done))
def b_cascadelaw01_TextOf_0 (P : Prims) (c_cascadelaw01_awake : Option (Bool)) (c_cascadelaw01_same : (List Int) → (List Int) → Option (Bool)) (c_text_Runes : Str → Option ((List Int))) (c_text_Of : (List Int) → Option (Str × Int)) (c_cascaderef01_Of : (List Int) → Option (Str × Int))  (v0 : (List Int)) : Option (Bool) :=
  match c_cascadelaw01_awake with
  | none => none
  | some r1 =>
    match r1 with
    | false =>
      some r1
    | true =>
      match P.cmp .gtr (P.len v0) 200 with
      | false =>
        match c_text_Of v0 with
        | none => none
        | some (r5_0, r5_1) =>
          match c_cascaderef01_Of v0 with
          | none => none
          | some (r7_0, r7_1) =>
            match P.seq r5_0 r7_0 with
            | false =>
              some false
            | true =>
              match P.cmp .eql r5_1 r7_1 with
              | false =>
                some false
              | true =>
                match P.cmp .neq r5_1 0 with
                | false =>
                  match c_text_Runes r5_0 with
                  | none => none
                  | some r12 =>
                    match c_cascadelaw01_same r12 v0 with
                    | none => none
                    | some r14 =>
                      some r14
                | true =>
                  some true
      | true =>
        some r1
theorem o_cascadelaw01_TextOf_0 (c_cascadelaw01_awake : Option (Bool)) (c_cascadelaw01_same : (List Int) → (List Int) → Option (Bool)) (c_text_Runes : Str → Option ((List Int))) (c_text_Of : (List Int) → Option (Str × Int)) (c_cascaderef01_Of : (List Int) → Option (Str × Int)) (h_cascadelaw01_awake : ∀ {r0 : Bool}, c_cascadelaw01_awake  = some r0 → ∀ stk, xpcall 14 [] stk = some (.d (.bool r0))) (h_cascadelaw01_same : ∀ {a0 : (List Int)} {a1 : (List Int)} {r0 : Bool}, c_cascadelaw01_same a0 a1 = some r0 → ∀ stk, xpcall 20 [(.d (.sl (xmap e_int32 a0))), (.d (.sl (xmap e_int32 a1)))] stk = some (.d (.bool r0))) (h_text_Runes : ∀ {a0 : Str} {r0 : (List Int)}, c_text_Runes a0 = some r0 → ∀ stk, xpcall 21 [(.d (.str a0))] stk = some (.d (.sl (xmap e_int32 r0)))) (h_text_Of : ∀ {a0 : (List Int)} {r0 : Str} {r1 : Int}, c_text_Of a0 = some (r0, r1) → ∀ stk, xpcall 26 [(.d (.sl (xmap e_int32 a0)))] stk = some (.d (.tup [(.str r0), (.int .i64 r1)]))) (h_cascaderef01_Of : ∀ {a0 : (List Int)} {r0 : Str} {r1 : Int}, c_cascaderef01_Of a0 = some (r0, r1) → ∀ stk, xpcall 27 [(.d (.sl (xmap e_int32 a0)))] stk = some (.d (.tup [(.str r0), (.int .i64 r1)]))) (stk : Stk) (m : Nat)  (v0 : (List Int))  {out} (hp : b_cascadelaw01_TextOf_0 ⟨xar, xcmp, xwrap, xseq, xslt, xenc, pquo, pshf, pslen, psidx, pssub, pscat, psit, pslist, pofBytes, @plen, @pidx, @psub, @papp, @pset, @pmake, @ploop⟩ c_cascadelaw01_awake c_cascadelaw01_same c_text_Runes c_text_Of c_cascaderef01_Of  v0 = some out) : xat 7 true 0 [] ⟨[(0, (.d (.sl (xmap e_int32 v0))))], ⟨m, []⟩ :: stk⟩ = (fun r0 => (some (.ret (.d (.bool r0)), stk) : Rk')) out := by
  simp only [b_cascadelaw01_TextOf_0] at hp
  rw [h.at_, hT]
  cbv
  cases c2 : c_cascadelaw01_awake with
  | none => simp only [c2] at hp; cases hp
  | some r1 =>
    simp only [c2] at hp
    have qc := h_cascadelaw01_awake c2 (⟨m, []⟩ :: stk)
    simp only [qc]
    cbv
    cases r1 with
    | false =>
      simp only at hp
      cbv
      have qc := h_cascadelaw01_awake c2 (⟨m, []⟩ :: stk)
      simp only [qc]
      cbv
      cases hp
      first | rfl | (cbv; done) | (simp only [h.nadd0, h.nle_refl, h.cut_all, h.cut_nil, h.map_cons, h.map_nil, h.len_nil, he_e_int32, he_e_uint8, if_true]; done) | (simp only [h.nadd0, h.nle_refl, h.cut_all, h.cut_nil, h.map_cons, h.map_nil, h.len_nil, he_e_int32, he_e_uint8, if_true]; first | rfl | (cbv; done) | (cbv; simp only [h.map_cons, h.map_nil, h.len_nil, he_e_int32, he_e_uint8]; done))
    | true =>
      simp only at hp
      cbv
      try simp only [h.len]
      cases c4 : xcmp .gtr (plen v0) 200 with
      | false =>
        simp only [c4] at hp ⊢
        cbv
        rw [h.at_, hT]
        cbv
        cases c6 : c_text_Of v0 with
        | none => simp only [c6] at hp; cases hp
        | some y17 =>
          obtain ⟨r5_0, r5_1⟩ := y17
          simp only [c6] at hp
          have qc := h_text_Of c6 (⟨m, []⟩ :: stk)
          simp only [qc]
          cbv
          cases c8 : c_cascaderef01_Of v0 with
          | none => simp only [c8] at hp; cases hp
          | some y16 =>
            obtain ⟨r7_0, r7_1⟩ := y16
            simp only [c8] at hp
            have qc := h_cascaderef01_Of c8 (⟨m, []⟩ :: stk)
            simp only [qc]
            cbv
            cases c9 : xseq r5_0 r7_0 with
            | false =>
              simp only [c9] at hp ⊢
              cbv
              cases hp
              first | rfl | (cbv; done) | (simp only [h.nadd0, h.nle_refl, h.cut_all, h.cut_nil, h.map_cons, h.map_nil, h.len_nil, he_e_int32, he_e_uint8, if_true]; done) | (simp only [h.nadd0, h.nle_refl, h.cut_all, h.cut_nil, h.map_cons, h.map_nil, h.len_nil, he_e_int32, he_e_uint8, if_true]; first | rfl | (cbv; done) | (cbv; simp only [h.map_cons, h.map_nil, h.len_nil, he_e_int32, he_e_uint8]; done))
            | true =>
              simp only [c9] at hp ⊢
              cbv
              cases c10 : xcmp .eql r5_1 r7_1 with
              | false =>
                simp only [c10] at hp ⊢
                cbv
                cases hp
                first | rfl | (cbv; done) | (simp only [h.nadd0, h.nle_refl, h.cut_all, h.cut_nil, h.map_cons, h.map_nil, h.len_nil, he_e_int32, he_e_uint8, if_true]; done) | (simp only [h.nadd0, h.nle_refl, h.cut_all, h.cut_nil, h.map_cons, h.map_nil, h.len_nil, he_e_int32, he_e_uint8, if_true]; first | rfl | (cbv; done) | (cbv; simp only [h.map_cons, h.map_nil, h.len_nil, he_e_int32, he_e_uint8]; done))
              | true =>
                simp only [c10] at hp ⊢
                cbv
                cases c11 : xcmp .neq r5_1 0 with
                | false =>
                  simp only [c11] at hp ⊢
                  cbv
                  cases c13 : c_text_Runes r5_0 with
                  | none => simp only [c13] at hp; cases hp
                  | some r12 =>
                    simp only [c13] at hp
                    have qc := h_text_Runes c13 (⟨m, []⟩ :: stk)
                    simp only [qc]
                    cbv
                    cases c15 : c_cascadelaw01_same r12 v0 with
                    | none => simp only [c15] at hp; cases hp
                    | some r14 =>
                      simp only [c15] at hp
                      have qc := h_cascadelaw01_same c15 (⟨m, []⟩ :: stk)
                      simp only [qc]
                      cbv
                      cases hp
                      first | rfl | (cbv; done) | (simp only [h.nadd0, h.nle_refl, h.cut_all, h.cut_nil, h.map_cons, h.map_nil, h.len_nil, he_e_int32, he_e_uint8, if_true]; done) | (simp only [h.nadd0, h.nle_refl, h.cut_all, h.cut_nil, h.map_cons, h.map_nil, h.len_nil, he_e_int32, he_e_uint8, if_true]; first | rfl | (cbv; done) | (cbv; simp only [h.map_cons, h.map_nil, h.len_nil, he_e_int32, he_e_uint8]; done))
                | true =>
                  simp only [c11] at hp ⊢
                  cbv
                  cases hp
                  first | rfl | (cbv; done) | (simp only [h.nadd0, h.nle_refl, h.cut_all, h.cut_nil, h.map_cons, h.map_nil, h.len_nil, he_e_int32, he_e_uint8, if_true]; done) | (simp only [h.nadd0, h.nle_refl, h.cut_all, h.cut_nil, h.map_cons, h.map_nil, h.len_nil, he_e_int32, he_e_uint8, if_true]; first | rfl | (cbv; done) | (cbv; simp only [h.map_cons, h.map_nil, h.len_nil, he_e_int32, he_e_uint8]; done))
      | true =>
        simp only [c4] at hp ⊢
        cbv
        have qc := h_cascadelaw01_awake c2 (⟨m, []⟩ :: stk)
        simp only [qc]
        cbv
        cases hp
        first | rfl | (cbv; done) | (simp only [h.nadd0, h.nle_refl, h.cut_all, h.cut_nil, h.map_cons, h.map_nil, h.len_nil, he_e_int32, he_e_uint8, if_true]; done) | (simp only [h.nadd0, h.nle_refl, h.cut_all, h.cut_nil, h.map_cons, h.map_nil, h.len_nil, he_e_int32, he_e_uint8, if_true]; first | rfl | (cbv; done) | (cbv; simp only [h.map_cons, h.map_nil, h.len_nil, he_e_int32, he_e_uint8]; done))
def b_quote_escape_0 (P : Prims)   (v0 : Int) : Option (Str) :=
  match P.cmp .eql v0 34 with
  | false =>
    match P.cmp .eql v0 92 with
    | false =>
      match P.cmp .eql v0 8 with
      | false =>
        match P.cmp .eql v0 12 with
        | false =>
          match P.cmp .eql v0 10 with
          | false =>
            match P.cmp .eql v0 13 with
            | false =>
              match P.cmp .eql v0 9 with
              | false =>
                match P.cmp .lss v0 32 with
                | false =>
                  some []
                | true =>
                  match P.shf .shr .i32 v0 4 with
                  | none => none
                  | some n9 =>
                    match P.ssub [48, 49, 50, 51, 52, 53, 54, 55, 56, 57, 97, 98, 99, 100, 101, 102] (some n9) (some (P.ar .add .i32 n9 1)) with
                    | none => none
                    | some s11 =>
                      match P.scat [92, 117, 48, 48] s11 with
                      | none => none
                      | some s13 =>
                        match P.ssub [48, 49, 50, 51, 52, 53, 54, 55, 56, 57, 97, 98, 99, 100, 101, 102] (some (P.ar .and .i32 v0 15)) (some (P.ar .add .i32 (P.ar .and .i32 v0 15) 1)) with
                        | none => none
                        | some s15 =>
                          match P.scat s13 s15 with
                          | none => none
                          | some s17 =>
                            some s17
              | true =>
                some [92, 116]
            | true =>
              some [92, 114]
          | true =>
            some [92, 110]
        | true =>
          some [92, 102]
      | true =>
        some [92, 98]
    | true =>
      some [92, 92]
  | true =>
    some [92, 34]
theorem o_quote_escape_0   (stk : Stk) (m : Nat)  (v0 : Int)  {out} (hp : b_quote_escape_0 ⟨xar, xcmp, xwrap, xseq, xslt, xenc, pquo, pshf, pslen, psidx, pssub, pscat, psit, pslist, pofBytes, @plen, @pidx, @psub, @papp, @pset, @pmake, @ploop⟩   v0 = some out) : xat 46 true 0 [] ⟨[(0, (.d (.int .i32 v0)))], ⟨m, []⟩ :: stk⟩ = (fun r0 => (some (.ret (.d (.str r0)), stk) : Rk')) out := by
  simp only [b_quote_escape_0] at hp
  rw [h.at_, hT]
  cbv
  cases c1 : xcmp .eql v0 34 with
  | false =>
    simp only [c1] at hp ⊢
    cbv
    cases c2 : xcmp .eql v0 92 with
    | false =>
      simp only [c2] at hp ⊢
      cbv
      cases c3 : xcmp .eql v0 8 with
      | false =>
        simp only [c3] at hp ⊢
        cbv
        cases c4 : xcmp .eql v0 12 with
        | false =>
          simp only [c4] at hp ⊢
          cbv
          cases c5 : xcmp .eql v0 10 with
          | false =>
            simp only [c5] at hp ⊢
            cbv
            cases c6 : xcmp .eql v0 13 with
            | false =>
              simp only [c6] at hp ⊢
              cbv
              cases c7 : xcmp .eql v0 9 with
              | false =>
                simp only [c7] at hp ⊢
                cbv
                rw [h.at_, hT]
                cbv
                cases c8 : xcmp .lss v0 32 with
                | false =>
                  simp only [c8] at hp ⊢
                  cbv
                  rw [h.at_, hT]
                  cbv
                  cases hp
                  first | rfl | (cbv; done) | (simp only [h.nadd0, h.nle_refl, h.cut_all, h.cut_nil, h.map_cons, h.map_nil, h.len_nil, he_e_int32, he_e_uint8, if_true]; done) | (simp only [h.nadd0, h.nle_refl, h.cut_all, h.cut_nil, h.map_cons, h.map_nil, h.len_nil, he_e_int32, he_e_uint8, if_true]; first | rfl | (cbv; done) | (cbv; simp only [h.map_cons, h.map_nil, h.len_nil, he_e_int32, he_e_uint8]; done))
                | true =>
                  simp only [c8] at hp ⊢
                  cbv
                  cases c10 : pshf .shr .i32 v0 4 with
                  | none => simp only [c10] at hp; cases hp
                  | some n9 =>
                    simp only [c10] at hp
                    obtain ⟨q1, q2⟩ := h.shf c10
                    simp only [q1, q2, Bool.false_eq_true, if_false]
                    cbv
                    obtain ⟨q1, q2⟩ := h.shf c10
                    simp only [q1, q2, Bool.false_eq_true, if_false]
                    cbv
                    cases c12 : pssub [48, 49, 50, 51, 52, 53, 54, 55, 56, 57, 97, 98, 99, 100, 101, 102] (some n9) (some (xar .add .i32 n9 1)) with
                    | none => simp only [c12] at hp; cases hp
                    | some s11 =>
                      simp only [c12] at hp
                      obtain ⟨q0, q1, q2, q3, q4⟩ := h.ssub2 c12
                      simp only [q0, q1, q2, q3, q4, Bool.false_eq_true, if_false, if_true]
                      cbv
                      try simp only [q0, q1, q2, q3, q4, if_true]
                      cbv
                      cases c14 : pscat [92, 117, 48, 48] s11 with
                      | none => simp only [c14] at hp; cases hp
                      | some s13 =>
                        simp only [c14] at hp
                        obtain ⟨q1, q2⟩ := h.scat c14
                        simp only [q1, q2, if_true]
                        cbv
                        cases c16 : pssub [48, 49, 50, 51, 52, 53, 54, 55, 56, 57, 97, 98, 99, 100, 101, 102] (some (xar .and .i32 v0 15)) (some (xar .add .i32 (xar .and .i32 v0 15) 1)) with
                        | none => simp only [c16] at hp; cases hp
                        | some s15 =>
                          simp only [c16] at hp
                          obtain ⟨q0, q1, q2, q3, q4⟩ := h.ssub2 c16
                          simp only [q0, q1, q2, q3, q4, Bool.false_eq_true, if_false, if_true]
                          cbv
                          try simp only [q0, q1, q2, q3, q4, if_true]
                          cbv
                          cases c18 : pscat s13 s15 with
                          | none => simp only [c18] at hp; cases hp
                          | some s17 =>
                            simp only [c18] at hp
                            obtain ⟨q1, q2⟩ := h.scat c18
                            simp only [q1, q2, if_true]
                            cbv
                            cases hp
                            first | rfl | (cbv; done) | (simp only [h.nadd0, h.nle_refl, h.cut_all, h.cut_nil, h.map_cons, h.map_nil, h.len_nil, he_e_int32, he_e_uint8, if_true]; done) | (simp only [h.nadd0, h.nle_refl, h.cut_all, h.cut_nil, h.map_cons, h.map_nil, h.len_nil, he_e_int32, he_e_uint8, if_true]; first | rfl | (cbv; done) | (cbv; simp only [h.map_cons, h.map_nil, h.len_nil, he_e_int32, he_e_uint8]; done))
              | true =>
                simp only [c7] at hp ⊢
                cbv
                cases hp
                first | rfl | (cbv; done) | (simp only [h.nadd0, h.nle_refl, h.cut_all, h.cut_nil, h.map_cons, h.map_nil, h.len_nil, he_e_int32, he_e_uint8, if_true]; done) | (simp only [h.nadd0, h.nle_refl, h.cut_all, h.cut_nil, h.map_cons, h.map_nil, h.len_nil, he_e_int32, he_e_uint8, if_true]; first | rfl | (cbv; done) | (cbv; simp only [h.map_cons, h.map_nil, h.len_nil, he_e_int32, he_e_uint8]; done))
            | true =>
              simp only [c6] at hp ⊢
              cbv
              cases hp
              first | rfl | (cbv; done) | (simp only [h.nadd0, h.nle_refl, h.cut_all, h.cut_nil, h.map_cons, h.map_nil, h.len_nil, he_e_int32, he_e_uint8, if_true]; done) | (simp only [h.nadd0, h.nle_refl, h.cut_all, h.cut_nil, h.map_cons, h.map_nil, h.len_nil, he_e_int32, he_e_uint8, if_true]; first | rfl | (cbv; done) | (cbv; simp only [h.map_cons, h.map_nil, h.len_nil, he_e_int32, he_e_uint8]; done))
          | true =>
            simp only [c5] at hp ⊢
            cbv
            cases hp
            first | rfl | (cbv; done) | (simp only [h.nadd0, h.nle_refl, h.cut_all, h.cut_nil, h.map_cons, h.map_nil, h.len_nil, he_e_int32, he_e_uint8, if_true]; done) | (simp only [h.nadd0, h.nle_refl, h.cut_all, h.cut_nil, h.map_cons, h.map_nil, h.len_nil, he_e_int32, he_e_uint8, if_true]; first | rfl | (cbv; done) | (cbv; simp only [h.map_cons, h.map_nil, h.len_nil, he_e_int32, he_e_uint8]; done))
        | true =>
          simp only [c4] at hp ⊢
          cbv
          cases hp
          first | rfl | (cbv; done) | (simp only [h.nadd0, h.nle_refl, h.cut_all, h.cut_nil, h.map_cons, h.map_nil, h.len_nil, he_e_int32, he_e_uint8, if_true]; done) | (simp only [h.nadd0, h.nle_refl, h.cut_all, h.cut_nil, h.map_cons, h.map_nil, h.len_nil, he_e_int32, he_e_uint8, if_true]; first | rfl | (cbv; done) | (cbv; simp only [h.map_cons, h.map_nil, h.len_nil, he_e_int32, he_e_uint8]; done))
      | true =>
        simp only [c3] at hp ⊢
        cbv
        cases hp
        first | rfl | (cbv; done) | (simp only [h.nadd0, h.nle_refl, h.cut_all, h.cut_nil, h.map_cons, h.map_nil, h.len_nil, he_e_int32, he_e_uint8, if_true]; done) | (simp only [h.nadd0, h.nle_refl, h.cut_all, h.cut_nil, h.map_cons, h.map_nil, h.len_nil, he_e_int32, he_e_uint8, if_true]; first | rfl | (cbv; done) | (cbv; simp only [h.map_cons, h.map_nil, h.len_nil, he_e_int32, he_e_uint8]; done))
    | true =>
      simp only [c2] at hp ⊢
      cbv
      cases hp
      first | rfl | (cbv; done) | (simp only [h.nadd0, h.nle_refl, h.cut_all, h.cut_nil, h.map_cons, h.map_nil, h.len_nil, he_e_int32, he_e_uint8, if_true]; done) | (simp only [h.nadd0, h.nle_refl, h.cut_all, h.cut_nil, h.map_cons, h.map_nil, h.len_nil, he_e_int32, he_e_uint8, if_true]; first | rfl | (cbv; done) | (cbv; simp only [h.map_cons, h.map_nil, h.len_nil, he_e_int32, he_e_uint8]; done))
  | true =>
    simp only [c1] at hp ⊢
    cbv
    cases hp
    first | rfl | (cbv; done) | (simp only [h.nadd0, h.nle_refl, h.cut_all, h.cut_nil, h.map_cons, h.map_nil, h.len_nil, he_e_int32, he_e_uint8, if_true]; done) | (simp only [h.nadd0, h.nle_refl, h.cut_all, h.cut_nil, h.map_cons, h.map_nil, h.len_nil, he_e_int32, he_e_uint8, if_true]; first | rfl | (cbv; done) | (cbv; simp only [h.map_cons, h.map_nil, h.len_nil, he_e_int32, he_e_uint8]; done))
def b_quote_Quote_0 (P : Prims) (c_text_Right : Str → Option (Bool)) (c_strings_Builder_WriteRune : Str → Int → Option (Str × Int)) (c_strings_Builder_String : Str → Option Str) (c_strings_Builder_WriteByte : Str → Int → Option Str) (c_quote_escape : Int → Option (Str)) (c_strings_Builder_WriteString : Str → Str → Option (Str × Int)) (l_2 : Bool → Nat → Str → Str → Nat → Option (Str × Int)) (v0 : Str) : Option (Str × Int) :=
  match c_text_Right v0 with
  | none => none
  | some r1 =>
    match r1 with
    | false =>
      some ([], 2)
    | true =>
      match c_strings_Builder_WriteByte [] 34 with
      | none => none
      | some s4 =>
        l_2 true 1 s4 v0 0
theorem o_quote_Quote_0 (c_text_Right : Str → Option (Bool)) (c_strings_Builder_WriteRune : Str → Int → Option (Str × Int)) (c_strings_Builder_String : Str → Option Str) (c_strings_Builder_WriteByte : Str → Int → Option Str) (c_quote_escape : Int → Option (Str)) (c_strings_Builder_WriteString : Str → Str → Option (Str × Int)) (h_text_Right : ∀ {a0 : Str} {r0 : Bool}, c_text_Right a0 = some r0 → ∀ stk, xpcall 17 [(.d (.str a0))] stk = some (.d (.bool r0))) (h_strings_Builder_WriteRune : ∀ {s : Str} {a : Int} {s1 : Str} {n : Int}, c_strings_Builder_WriteRune s a = some (s1, n) → ∀ stk l l1 u g, getO stk l = some (.bld 53 u (.msl l1 g 0 0)) → getO stk l1 = some (.hid 5 g s) → xfcall 42 [.ref l 0, .d (.int .i32 a)] stk = some (.d (.tup [.int .i64 n, .nili]), setO (setO stk l1 (.hid 5 (g + 1) s1)) l (.bld 53 true (.msl l1 (g + 1) 0 0)))) (h_strings_Builder_String : ∀ {s s1 : Str}, c_strings_Builder_String s = some s1 → ∀ stk l l1 u g, getO stk l = some (.bld 53 u (.msl l1 g 0 0)) → getO stk l1 = some (.hid 5 g s) → xfcall 43 [.ref l 0] stk = some (.d (.str s1), setO (setO stk l1 (.hid 5 (g + 1) [])) l (.bld 53 u .dead))) (h_strings_Builder_WriteByte : ∀ {s : Str} {a : Int} {s1 : Str}, c_strings_Builder_WriteByte s a = some s1 → ∀ stk l l1 u g, getO stk l = some (.bld 53 u (.msl l1 g 0 0)) → getO stk l1 = some (.hid 5 g s) → xfcall 45 [.ref l 0, .d (.int .u8 a)] stk = some (.d .nili, setO (setO stk l1 (.hid 5 (g + 1) s1)) l (.bld 53 true (.msl l1 (g + 1) 0 0)))) (h_quote_escape : ∀ {a0 : Int} {r0 : Str}, c_quote_escape a0 = some r0 → ∀ stk, xpcall 46 [(.d (.int .i32 a0))] stk = some (.d (.str r0))) (h_strings_Builder_WriteString : ∀ {s a : Str} {s1 : Str} {n : Int}, c_strings_Builder_WriteString s a = some (s1, n) → ∀ stk l l1 u g, getO stk l = some (.bld 53 u (.msl l1 g 0 0)) → getO stk l1 = some (.hid 5 g s) → xfcall 47 [.ref l 0, .d (.str a)] stk = some (.d (.tup [.int .i64 n, .nili]), setO (setO stk l1 (.hid 5 (g + 1) s1)) l (.bld 53 true (.msl l1 (g + 1) 0 0)))) (stk : Stk) (m : Nat) (l_2 : Bool → Nat → Str → Str → Nat → Option (Str × Int)) (v0 : Str) (h_l_2 : ∀ {o4_u : Bool} {o4_1_g : Nat} {o4_1_s : Str} {o13_s : Str} {o13_p : Nat} {out}, l_2 o4_u o4_1_g o4_1_s o13_s o13_p = some out → xat 29 true 2 [.lp ⟨2, [4, 13], [[4], [4, 1], [13]]⟩, .blk 0, .sub ⟨4, [4], [[4], [4, 1]]⟩] ⟨[(4, (.ref ⟨m, [4]⟩ 0)), (13, (.ref ⟨m, [13]⟩ 0))], ⟨m, [([4], (.bld 53 o4_u (.msl ⟨m, [4, 1]⟩ o4_1_g 0 0))), ([4, 1], (.hid 5 o4_1_g o4_1_s)), ([13], (.siter o13_s o13_p))]⟩ :: stk⟩ = (fun (r0, r1) => (some (.ret (.d (.tup [(.str r0), (.int .i64 r1)])), stk) : Rk')) out) {out} (hp : b_quote_Quote_0 ⟨xar, xcmp, xwrap, xseq, xslt, xenc, pquo, pshf, pslen, psidx, pssub, pscat, psit, pslist, pofBytes, @plen, @pidx, @psub, @papp, @pset, @pmake, @ploop⟩ c_text_Right c_strings_Builder_WriteRune c_strings_Builder_String c_strings_Builder_WriteByte c_quote_escape c_strings_Builder_WriteString l_2 v0 = some out) : xat 29 true 0 [] ⟨[(0, (.d (.str v0)))], ⟨m, []⟩ :: stk⟩ = (fun (r0, r1) => (some (.ret (.d (.tup [(.str r0), (.int .i64 r1)])), stk) : Rk')) out := by
  simp only [b_quote_Quote_0] at hp
  rw [h.at_, hT]
  cbv
  cases c2 : c_text_Right v0 with
  | none => simp only [c2] at hp; cases hp
  | some r1 =>
    simp only [c2] at hp
    have qc := h_text_Right c2 (⟨m, []⟩ :: stk)
    simp only [qc]
    cbv
    cases r1 with
    | false =>
      simp only at hp
      cbv
      cases hp
      first | rfl | (cbv; done) | (simp only [h.nadd0, h.nle_refl, h.cut_all, h.cut_nil, h.map_cons, h.map_nil, h.len_nil, he_e_int32, he_e_uint8, if_true]; done) | (simp only [h.nadd0, h.nle_refl, h.cut_all, h.cut_nil, h.map_cons, h.map_nil, h.len_nil, he_e_int32, he_e_uint8, if_true]; first | rfl | (cbv; done) | (cbv; simp only [h.map_cons, h.map_nil, h.len_nil, he_e_int32, he_e_uint8]; done))
    | true =>
      simp only at hp
      cbv
      rw [h.at_, hT]
      cbv
      cases c5 : c_strings_Builder_WriteByte [] 34 with
      | none => simp only [c5] at hp; cases hp
      | some s4 =>
        simp only [c5] at hp
        have qc := h_strings_Builder_WriteByte c5 (⟨m, [([4, 1], (.hid 5 0 [])), ([4], (.bld 53 false (.msl ⟨m, [4, 1]⟩ 0 0 0)))]⟩ :: stk) ⟨m, [4]⟩ ⟨m, [4, 1]⟩ false 0 (by cbv) (by cbv)
        simp only [qc]
        cbv
        first | exact h_l_2 hp | (have q := h_l_2 hp; simp only [h.map_cons, h.map_nil, h.len_nil, he_e_int32, he_e_uint8] at q; first | exact q | (cbv; exact q))
def b_quote_Quote_2 (P : Prims) (c_text_Right : Str → Option (Bool)) (c_strings_Builder_WriteRune : Str → Int → Option (Str × Int)) (c_strings_Builder_String : Str → Option Str) (c_strings_Builder_WriteByte : Str → Int → Option Str) (c_quote_escape : Int → Option (Str)) (c_strings_Builder_WriteString : Str → Str → Option (Str × Int))  (o4_u : Bool) (o4_1_g : Nat) (o4_1_s : Str) (o13_s : Str) (o13_p : Nat) : Option ((Bool × Nat × Str × Str × Nat) ⊕ (Str × Int)) :=
  match P.sit o13_s o13_p with
  | none =>
    match c_strings_Builder_WriteByte o4_1_s 34 with
    | none => none
    | some s20 =>
      match c_strings_Builder_String s20 with
      | none => none
      | some s22 =>
        some (.inr (s22, 0))
  | some (i8, r9, n10) =>
    match c_quote_escape r9 with
    | none => none
    | some r11 =>
      match P.seq r11 [] with
      | false =>
        match c_strings_Builder_WriteString o4_1_s r11 with
        | none => none
        | some (s17, s17_n) =>
          some (.inl (true, o4_1_g + 1, s17, o13_s, n10))
      | true =>
        match c_strings_Builder_WriteRune o4_1_s r9 with
        | none => none
        | some (s14, s14_n) =>
          some (.inl (true, o4_1_g + 1, s14, o13_s, n10))
theorem o_quote_Quote_2 (c_text_Right : Str → Option (Bool)) (c_strings_Builder_WriteRune : Str → Int → Option (Str × Int)) (c_strings_Builder_String : Str → Option Str) (c_strings_Builder_WriteByte : Str → Int → Option Str) (c_quote_escape : Int → Option (Str)) (c_strings_Builder_WriteString : Str → Str → Option (Str × Int)) (h_text_Right : ∀ {a0 : Str} {r0 : Bool}, c_text_Right a0 = some r0 → ∀ stk, xpcall 17 [(.d (.str a0))] stk = some (.d (.bool r0))) (h_strings_Builder_WriteRune : ∀ {s : Str} {a : Int} {s1 : Str} {n : Int}, c_strings_Builder_WriteRune s a = some (s1, n) → ∀ stk l l1 u g, getO stk l = some (.bld 53 u (.msl l1 g 0 0)) → getO stk l1 = some (.hid 5 g s) → xfcall 42 [.ref l 0, .d (.int .i32 a)] stk = some (.d (.tup [.int .i64 n, .nili]), setO (setO stk l1 (.hid 5 (g + 1) s1)) l (.bld 53 true (.msl l1 (g + 1) 0 0)))) (h_strings_Builder_String : ∀ {s s1 : Str}, c_strings_Builder_String s = some s1 → ∀ stk l l1 u g, getO stk l = some (.bld 53 u (.msl l1 g 0 0)) → getO stk l1 = some (.hid 5 g s) → xfcall 43 [.ref l 0] stk = some (.d (.str s1), setO (setO stk l1 (.hid 5 (g + 1) [])) l (.bld 53 u .dead))) (h_strings_Builder_WriteByte : ∀ {s : Str} {a : Int} {s1 : Str}, c_strings_Builder_WriteByte s a = some s1 → ∀ stk l l1 u g, getO stk l = some (.bld 53 u (.msl l1 g 0 0)) → getO stk l1 = some (.hid 5 g s) → xfcall 45 [.ref l 0, .d (.int .u8 a)] stk = some (.d .nili, setO (setO stk l1 (.hid 5 (g + 1) s1)) l (.bld 53 true (.msl l1 (g + 1) 0 0)))) (h_quote_escape : ∀ {a0 : Int} {r0 : Str}, c_quote_escape a0 = some r0 → ∀ stk, xpcall 46 [(.d (.int .i32 a0))] stk = some (.d (.str r0))) (h_strings_Builder_WriteString : ∀ {s a : Str} {s1 : Str} {n : Int}, c_strings_Builder_WriteString s a = some (s1, n) → ∀ stk l l1 u g, getO stk l = some (.bld 53 u (.msl l1 g 0 0)) → getO stk l1 = some (.hid 5 g s) → xfcall 47 [.ref l 0, .d (.str a)] stk = some (.d (.tup [.int .i64 n, .nili]), setO (setO stk l1 (.hid 5 (g + 1) s1)) l (.bld 53 true (.msl l1 (g + 1) 0 0)))) (stk : Stk) (m : Nat)  (o4_u : Bool) (o4_1_g : Nat) (o4_1_s : Str) (o13_s : Str) (o13_p : Nat)  {out} (hp : b_quote_Quote_2 ⟨xar, xcmp, xwrap, xseq, xslt, xenc, pquo, pshf, pslen, psidx, pssub, pscat, psit, pslist, pofBytes, @plen, @pidx, @psub, @papp, @pset, @pmake, @ploop⟩ c_text_Right c_strings_Builder_WriteRune c_strings_Builder_String c_strings_Builder_WriteByte c_quote_escape c_strings_Builder_WriteString  o4_u o4_1_g o4_1_s o13_s o13_p = some out) : xat 29 true 2 [.lp ⟨2, [4, 13], [[4], [4, 1], [13]]⟩, .blk 0, .sub ⟨4, [4], [[4], [4, 1]]⟩] ⟨[(4, (.ref ⟨m, [4]⟩ 0)), (13, (.ref ⟨m, [13]⟩ 0))], ⟨m, [([4], (.bld 53 o4_u (.msl ⟨m, [4, 1]⟩ o4_1_g 0 0))), ([4, 1], (.hid 5 o4_1_g o4_1_s)), ([13], (.siter o13_s o13_p))]⟩ :: stk⟩ = (Sum.elim (fun (o4_u, o4_1_g, o4_1_s, o13_s, o13_p) => xat 29 true 2 [.lp ⟨2, [4, 13], [[4], [4, 1], [13]]⟩, .blk 0, .sub ⟨4, [4], [[4], [4, 1]]⟩] ⟨[(4, (.ref ⟨m, [4]⟩ 0)), (13, (.ref ⟨m, [13]⟩ 0))], ⟨m, [([4], (.bld 53 o4_u (.msl ⟨m, [4, 1]⟩ o4_1_g 0 0))), ([4, 1], (.hid 5 o4_1_g o4_1_s)), ([13], (.siter o13_s o13_p))]⟩ :: stk⟩) (fun (r0, r1) => (some (.ret (.d (.tup [(.str r0), (.int .i64 r1)])), stk) : Rk'))) out := by
  simp only [b_quote_Quote_2] at hp
  rw [h.at_, hT]
  cbv
  cases c24 : psit o13_s o13_p with
  | none =>
    simp only [c24] at hp
    have q1 := h.sit0 c24
    simp only [q1, Bool.false_eq_true, if_false]
    cbv
    rw [h.at_, hT]
    cbv
    cases c21 : c_strings_Builder_WriteByte o4_1_s 34 with
    | none => simp only [c21] at hp; cases hp
    | some s20 =>
      simp only [c21] at hp
      have qc := h_strings_Builder_WriteByte c21 (⟨m, [([4], (.bld 53 o4_u (.msl ⟨m, [4, 1]⟩ o4_1_g 0 0))), ([4, 1], (.hid 5 o4_1_g o4_1_s))]⟩ :: stk) ⟨m, [4]⟩ ⟨m, [4, 1]⟩ o4_u o4_1_g (by cbv) (by cbv)
      simp only [qc]
      cbv
      cases c23 : c_strings_Builder_String s20 with
      | none => simp only [c23] at hp; cases hp
      | some s22 =>
        simp only [c23] at hp
        have qc := h_strings_Builder_String c23 (⟨m, [([4], (.bld 53 true (.msl ⟨m, [4, 1]⟩ (o4_1_g + 1) 0 0))), ([4, 1], (.hid 5 (o4_1_g + 1) s20))]⟩ :: stk) ⟨m, [4]⟩ ⟨m, [4, 1]⟩ true (o4_1_g + 1) (by cbv) (by cbv)
        simp only [qc]
        cbv
        cases hp
        first | rfl | (cbv; done) | (simp only [h.nadd0, h.nle_refl, h.cut_all, h.cut_nil, h.map_cons, h.map_nil, h.len_nil, he_e_int32, he_e_uint8, if_true]; done) | (simp only [h.nadd0, h.nle_refl, h.cut_all, h.cut_nil, h.map_cons, h.map_nil, h.len_nil, he_e_int32, he_e_uint8, if_true]; first | rfl | (cbv; done) | (cbv; simp only [h.map_cons, h.map_nil, h.len_nil, he_e_int32, he_e_uint8]; done))
  | some y25 =>
    obtain ⟨i8, r9, n10⟩ := y25
    simp only [c24] at hp
    obtain ⟨q1, q2, q3, q4⟩ := h.sit1 c24
    simp only [q1, q2, q3, q4, if_true]
    cbv
    rw [h.at_, hT]
    cbv
    cases c12 : c_quote_escape r9 with
    | none => simp only [c12] at hp; cases hp
    | some r11 =>
      simp only [c12] at hp
      have qc := h_quote_escape c12 (⟨m, [([4], (.bld 53 o4_u (.msl ⟨m, [4, 1]⟩ o4_1_g 0 0))), ([4, 1], (.hid 5 o4_1_g o4_1_s)), ([13], (.siter o13_s n10))]⟩ :: stk)
      simp only [qc]
      cbv
      cases c13 : xseq r11 [] with
      | false =>
        simp only [c13] at hp ⊢
        cbv
        cases c18 : c_strings_Builder_WriteString o4_1_s r11 with
        | none => simp only [c18] at hp; cases hp
        | some y19 =>
          obtain ⟨s17, s17_n⟩ := y19
          simp only [c18] at hp
          have qc := h_strings_Builder_WriteString c18 (⟨m, [([4], (.bld 53 o4_u (.msl ⟨m, [4, 1]⟩ o4_1_g 0 0))), ([4, 1], (.hid 5 o4_1_g o4_1_s)), ([13], (.siter o13_s n10))]⟩ :: stk) ⟨m, [4]⟩ ⟨m, [4, 1]⟩ o4_u o4_1_g (by cbv) (by cbv)
          simp only [qc]
          cbv
          cases hp
          first | rfl | (cbv; done) | (simp only [h.nadd0, h.nle_refl, h.cut_all, h.cut_nil, h.map_cons, h.map_nil, h.len_nil, he_e_int32, he_e_uint8, if_true]; done) | (simp only [h.nadd0, h.nle_refl, h.cut_all, h.cut_nil, h.map_cons, h.map_nil, h.len_nil, he_e_int32, he_e_uint8, if_true]; first | rfl | (cbv; done) | (cbv; simp only [h.map_cons, h.map_nil, h.len_nil, he_e_int32, he_e_uint8]; done))
      | true =>
        simp only [c13] at hp ⊢
        cbv
        cases c15 : c_strings_Builder_WriteRune o4_1_s r9 with
        | none => simp only [c15] at hp; cases hp
        | some y16 =>
          obtain ⟨s14, s14_n⟩ := y16
          simp only [c15] at hp
          have qc := h_strings_Builder_WriteRune c15 (⟨m, [([4], (.bld 53 o4_u (.msl ⟨m, [4, 1]⟩ o4_1_g 0 0))), ([4, 1], (.hid 5 o4_1_g o4_1_s)), ([13], (.siter o13_s n10))]⟩ :: stk) ⟨m, [4]⟩ ⟨m, [4, 1]⟩ o4_u o4_1_g (by cbv) (by cbv)
          simp only [qc]
          cbv
          cases hp
          first | rfl | (cbv; done) | (simp only [h.nadd0, h.nle_refl, h.cut_all, h.cut_nil, h.map_cons, h.map_nil, h.len_nil, he_e_int32, he_e_uint8, if_true]; done) | (simp only [h.nadd0, h.nle_refl, h.cut_all, h.cut_nil, h.map_cons, h.map_nil, h.len_nil, he_e_int32, he_e_uint8, if_true]; first | rfl | (cbv; done) | (cbv; simp only [h.map_cons, h.map_nil, h.len_nil, he_e_int32, he_e_uint8]; done))
def b_cascadelaw02_awake_0 (P : Prims) (c_quote_Quote : Str → Option (Str × Int))   : Option (Bool) :=
  match c_quote_Quote [97] with
  | none => none
  | some (r1_0, r1_1) =>
    match P.cmp .eql r1_1 0 with
    | false =>
      some false
    | true =>
      some (P.seq r1_0 [34, 97, 34])
theorem o_cascadelaw02_awake_0 (c_quote_Quote : Str → Option (Str × Int)) (h_quote_Quote : ∀ {a0 : Str} {r0 : Str} {r1 : Int}, c_quote_Quote a0 = some (r0, r1) → ∀ stk, xpcall 29 [(.d (.str a0))] stk = some (.d (.tup [(.str r0), (.int .i64 r1)]))) (stk : Stk) (m : Nat)    {out} (hp : b_cascadelaw02_awake_0 ⟨xar, xcmp, xwrap, xseq, xslt, xenc, pquo, pshf, pslen, psidx, pssub, pscat, psit, pslist, pofBytes, @plen, @pidx, @psub, @papp, @pset, @pmake, @ploop⟩ c_quote_Quote   = some out) : xat 28 true 0 [] ⟨[], ⟨m, []⟩ :: stk⟩ = (fun r0 => (some (.ret (.d (.bool r0)), stk) : Rk')) out := by
  simp only [b_cascadelaw02_awake_0] at hp
  rw [h.at_, hT]
  cbv
  cases c2 : c_quote_Quote [97] with
  | none => simp only [c2] at hp; cases hp
  | some y4 =>
    obtain ⟨r1_0, r1_1⟩ := y4
    simp only [c2] at hp
    have qc := h_quote_Quote c2 (⟨m, []⟩ :: stk)
    simp only [qc]
    cbv
    cases c3 : xcmp .eql r1_1 0 with
    | false =>
      simp only [c3] at hp ⊢
      cbv
      cases hp
      first | rfl | (cbv; done) | (simp only [h.nadd0, h.nle_refl, h.cut_all, h.cut_nil, h.map_cons, h.map_nil, h.len_nil, he_e_int32, he_e_uint8, if_true]; done) | (simp only [h.nadd0, h.nle_refl, h.cut_all, h.cut_nil, h.map_cons, h.map_nil, h.len_nil, he_e_int32, he_e_uint8, if_true]; first | rfl | (cbv; done) | (cbv; simp only [h.map_cons, h.map_nil, h.len_nil, he_e_int32, he_e_uint8]; done))
    | true =>
      simp only [c3] at hp ⊢
      cbv
      cases hp
      first | rfl | (cbv; done) | (simp only [h.nadd0, h.nle_refl, h.cut_all, h.cut_nil, h.map_cons, h.map_nil, h.len_nil, he_e_int32, he_e_uint8, if_true]; done) | (simp only [h.nadd0, h.nle_refl, h.cut_all, h.cut_nil, h.map_cons, h.map_nil, h.len_nil, he_e_int32, he_e_uint8, if_true]; first | rfl | (cbv; done) | (cbv; simp only [h.map_cons, h.map_nil, h.len_nil, he_e_int32, he_e_uint8]; done))
def b_cascaderef02_plain_0 (P : Prims)  (l_1 : Int → Int → Bool → Option (Int)) (v0 : Int) : Option (Int) :=
  match P.cmp .eql v0 34 with
  | false =>
    l_1 v0 v0 (P.cmp .eql v0 92)
  | true =>
    l_1 v0 v0 true
theorem o_cascaderef02_plain_0   (stk : Stk) (m : Nat) (l_1 : Int → Int → Bool → Option (Int)) (v0 : Int) (h_l_1 : ∀ {v0 : Int} {v3 : Int} {v4 : Bool} {out}, l_1 v0 v3 v4 = some out → xat 48 true 1 [.blk 0, .sub ⟨2, [], []⟩] ⟨[(0, (.d (.int .u8 v0))), (3, (.d (.int .u8 v3))), (4, (.d (.bool v4)))], ⟨m, []⟩ :: stk⟩ = (fun r0 => (some (.ret (.d (.int .u8 r0)), stk) : Rk')) out) {out} (hp : b_cascaderef02_plain_0 ⟨xar, xcmp, xwrap, xseq, xslt, xenc, pquo, pshf, pslen, psidx, pssub, pscat, psit, pslist, pofBytes, @plen, @pidx, @psub, @papp, @pset, @pmake, @ploop⟩  l_1 v0 = some out) : xat 48 true 0 [] ⟨[(0, (.d (.int .u8 v0)))], ⟨m, []⟩ :: stk⟩ = (fun r0 => (some (.ret (.d (.int .u8 r0)), stk) : Rk')) out := by
  simp only [b_cascaderef02_plain_0] at hp
  rw [h.at_, hT]
  cbv
  cases c1 : xcmp .eql v0 34 with
  | false =>
    simp only [c1] at hp ⊢
    cbv
    first | exact h_l_1 hp | (have q := h_l_1 hp; simp only [h.map_cons, h.map_nil, h.len_nil, he_e_int32, he_e_uint8] at q; first | exact q | (cbv; exact q))
  | true =>
    simp only [c1] at hp ⊢
    cbv
    first | exact h_l_1 hp | (have q := h_l_1 hp; simp only [h.map_cons, h.map_nil, h.len_nil, he_e_int32, he_e_uint8] at q; first | exact q | (cbv; exact q))
def b_cascaderef02_plain_1 (P : Prims)   (v0 : Int) (v3 : Int) (v4 : Bool) : Option (Int) :=
  match v4 with
  | false =>
    match P.cmp .eql v3 8 with
    | false =>
      match P.cmp .eql v3 12 with
      | false =>
        match P.cmp .eql v3 10 with
        | false =>
          match P.cmp .eql v3 13 with
          | false =>
            match P.cmp .eql v3 9 with
            | false =>
              some 0
            | true =>
              some 116
          | true =>
            some 114
        | true =>
          some 110
      | true =>
        some 102
    | true =>
      some 98
  | true =>
    some v0
theorem o_cascaderef02_plain_1   (stk : Stk) (m : Nat)  (v0 : Int) (v3 : Int) (v4 : Bool)  {out} (hp : b_cascaderef02_plain_1 ⟨xar, xcmp, xwrap, xseq, xslt, xenc, pquo, pshf, pslen, psidx, pssub, pscat, psit, pslist, pofBytes, @plen, @pidx, @psub, @papp, @pset, @pmake, @ploop⟩   v0 v3 v4 = some out) : xat 48 true 1 [.blk 0, .sub ⟨2, [], []⟩] ⟨[(0, (.d (.int .u8 v0))), (3, (.d (.int .u8 v3))), (4, (.d (.bool v4)))], ⟨m, []⟩ :: stk⟩ = (fun r0 => (some (.ret (.d (.int .u8 r0)), stk) : Rk')) out := by
  simp only [b_cascaderef02_plain_1] at hp
  rw [h.at_, hT]
  cbv
  cases v4 with
  | false =>
    simp only at hp
    cbv
    cases c3 : xcmp .eql v3 8 with
    | false =>
      simp only [c3] at hp ⊢
      cbv
      cases c4 : xcmp .eql v3 12 with
      | false =>
        simp only [c4] at hp ⊢
        cbv
        cases c5 : xcmp .eql v3 10 with
        | false =>
          simp only [c5] at hp ⊢
          cbv
          cases c6 : xcmp .eql v3 13 with
          | false =>
            simp only [c6] at hp ⊢
            cbv
            cases c7 : xcmp .eql v3 9 with
            | false =>
              simp only [c7] at hp ⊢
              cbv
              rw [h.at_, hT]
              cbv
              cases hp
              first | rfl | (cbv; done) | (simp only [h.nadd0, h.nle_refl, h.cut_all, h.cut_nil, h.map_cons, h.map_nil, h.len_nil, he_e_int32, he_e_uint8, if_true]; done) | (simp only [h.nadd0, h.nle_refl, h.cut_all, h.cut_nil, h.map_cons, h.map_nil, h.len_nil, he_e_int32, he_e_uint8, if_true]; first | rfl | (cbv; done) | (cbv; simp only [h.map_cons, h.map_nil, h.len_nil, he_e_int32, he_e_uint8]; done))
            | true =>
              simp only [c7] at hp ⊢
              cbv
              cases hp
              first | rfl | (cbv; done) | (simp only [h.nadd0, h.nle_refl, h.cut_all, h.cut_nil, h.map_cons, h.map_nil, h.len_nil, he_e_int32, he_e_uint8, if_true]; done) | (simp only [h.nadd0, h.nle_refl, h.cut_all, h.cut_nil, h.map_cons, h.map_nil, h.len_nil, he_e_int32, he_e_uint8, if_true]; first | rfl | (cbv; done) | (cbv; simp only [h.map_cons, h.map_nil, h.len_nil, he_e_int32, he_e_uint8]; done))
          | true =>
            simp only [c6] at hp ⊢
            cbv
            cases hp
            first | rfl | (cbv; done) | (simp only [h.nadd0, h.nle_refl, h.cut_all, h.cut_nil, h.map_cons, h.map_nil, h.len_nil, he_e_int32, he_e_uint8, if_true]; done) | (simp only [h.nadd0, h.nle_refl, h.cut_all, h.cut_nil, h.map_cons, h.map_nil, h.len_nil, he_e_int32, he_e_uint8, if_true]; first | rfl | (cbv; done) | (cbv; simp only [h.map_cons, h.map_nil, h.len_nil, he_e_int32, he_e_uint8]; done))
        | true =>
          simp only [c5] at hp ⊢
          cbv
          cases hp
          first | rfl | (cbv; done) | (simp only [h.nadd0, h.nle_refl, h.cut_all, h.cut_nil, h.map_cons, h.map_nil, h.len_nil, he_e_int32, he_e_uint8, if_true]; done) | (simp only [h.nadd0, h.nle_refl, h.cut_all, h.cut_nil, h.map_cons, h.map_nil, h.len_nil, he_e_int32, he_e_uint8, if_true]; first | rfl | (cbv; done) | (cbv; simp only [h.map_cons, h.map_nil, h.len_nil, he_e_int32, he_e_uint8]; done))
      | true =>
        simp only [c4] at hp ⊢
        cbv
        cases hp
        first | rfl | (cbv; done) | (simp only [h.nadd0, h.nle_refl, h.cut_all, h.cut_nil, h.map_cons, h.map_nil, h.len_nil, he_e_int32, he_e_uint8, if_true]; done) | (simp only [h.nadd0, h.nle_refl, h.cut_all, h.cut_nil, h.map_cons, h.map_nil, h.len_nil, he_e_int32, he_e_uint8, if_true]; first | rfl | (cbv; done) | (cbv; simp only [h.map_cons, h.map_nil, h.len_nil, he_e_int32, he_e_uint8]; done))
    | true =>
      simp only [c3] at hp ⊢
      cbv
      cases hp
      first | rfl | (cbv; done) | (simp only [h.nadd0, h.nle_refl, h.cut_all, h.cut_nil, h.map_cons, h.map_nil, h.len_nil, he_e_int32, he_e_uint8, if_true]; done) | (simp only [h.nadd0, h.nle_refl, h.cut_all, h.cut_nil, h.map_cons, h.map_nil, h.len_nil, he_e_int32, he_e_uint8, if_true]; first | rfl | (cbv; done) | (cbv; simp only [h.map_cons, h.map_nil, h.len_nil, he_e_int32, he_e_uint8]; done))
  | true =>
    simp only at hp
    cbv
    cases hp
    first | rfl | (cbv; done) | (simp only [h.nadd0, h.nle_refl, h.cut_all, h.cut_nil, h.map_cons, h.map_nil, h.len_nil, he_e_int32, he_e_uint8, if_true]; done) | (simp only [h.nadd0, h.nle_refl, h.cut_all, h.cut_nil, h.map_cons, h.map_nil, h.len_nil, he_e_int32, he_e_uint8, if_true]; first | rfl | (cbv; done) | (cbv; simp only [h.map_cons, h.map_nil, h.len_nil, he_e_int32, he_e_uint8]; done))
def b_cascaderef02_hex_0 (P : Prims)   (v0 : Int) : Option (Str) :=
  match P.cmp .lss v0 10 with
  | false =>
    some (P.ofBytes [P.wrap .u8 (P.ar .add .i64 87 v0)])
  | true =>
    some (P.ofBytes [P.wrap .u8 (P.ar .add .i64 48 v0)])
theorem o_cascaderef02_hex_0   (stk : Stk) (m : Nat)  (v0 : Int)  {out} (hp : b_cascaderef02_hex_0 ⟨xar, xcmp, xwrap, xseq, xslt, xenc, pquo, pshf, pslen, psidx, pssub, pscat, psit, pslist, pofBytes, @plen, @pidx, @psub, @papp, @pset, @pmake, @ploop⟩   v0 = some out) : xat 49 true 0 [] ⟨[(0, (.d (.int .i64 v0)))], ⟨m, []⟩ :: stk⟩ = (fun r0 => (some (.ret (.d (.str r0)), stk) : Rk')) out := by
  simp only [b_cascaderef02_hex_0] at hp
  rw [h.at_, hT]
  cbv
  cases c1 : xcmp .lss v0 10 with
  | false =>
    simp only [c1] at hp ⊢
    cbv
    rw [h.at_, hT]
    cbv
    simp only [h.allsz_nil, h.allsz_cons]
    cbv
    have qb := h.ofBytes e_uint8 he_e_uint8 [xwrap .u8 (xar .add .i64 87 v0)]
    try simp only [h.map_cons, h.map_nil, he_e_uint8] at qb
    simp only [qb]
    cbv
    cases hp
    first | rfl | (cbv; done) | (simp only [h.nadd0, h.nle_refl, h.cut_all, h.cut_nil, h.map_cons, h.map_nil, h.len_nil, he_e_int32, he_e_uint8, if_true]; done) | (simp only [h.nadd0, h.nle_refl, h.cut_all, h.cut_nil, h.map_cons, h.map_nil, h.len_nil, he_e_int32, he_e_uint8, if_true]; first | rfl | (cbv; done) | (cbv; simp only [h.map_cons, h.map_nil, h.len_nil, he_e_int32, he_e_uint8]; done))
  | true =>
    simp only [c1] at hp ⊢
    cbv
    simp only [h.allsz_nil, h.allsz_cons]
    cbv
    have qb := h.ofBytes e_uint8 he_e_uint8 [xwrap .u8 (xar .add .i64 48 v0)]
    try simp only [h.map_cons, h.map_nil, he_e_uint8] at qb
    simp only [qb]
    cbv
    cases hp
    first | rfl | (cbv; done) | (simp only [h.nadd0, h.nle_refl, h.cut_all, h.cut_nil, h.map_cons, h.map_nil, h.len_nil, he_e_int32, he_e_uint8, if_true]; done) | (simp only [h.nadd0, h.nle_refl, h.cut_all, h.cut_nil, h.map_cons, h.map_nil, h.len_nil, he_e_int32, he_e_uint8, if_true]; first | rfl | (cbv; done) | (cbv; simp only [h.map_cons, h.map_nil, h.len_nil, he_e_int32, he_e_uint8]; done))
def b_cascaderef02_Quote_0 (P : Prims) (c_cascaderef02_plain : Int → Option (Int)) (c_cascaderef02_hex : Int → Option (Str)) (l_1 : Str → Str → Int → Option (Str)) (v0 : Str) : Option (Str) :=
  l_1 v0 [34] 0
theorem o_cascaderef02_Quote_0 (c_cascaderef02_plain : Int → Option (Int)) (c_cascaderef02_hex : Int → Option (Str)) (h_cascaderef02_plain : ∀ {a0 : Int} {r0 : Int}, c_cascaderef02_plain a0 = some r0 → ∀ stk, xpcall 48 [(.d (.int .u8 a0))] stk = some (.d (.int .u8 r0))) (h_cascaderef02_hex : ∀ {a0 : Int} {r0 : Str}, c_cascaderef02_hex a0 = some r0 → ∀ stk, xpcall 49 [(.d (.int .i64 a0))] stk = some (.d (.str r0))) (stk : Stk) (m : Nat) (l_1 : Str → Str → Int → Option (Str)) (v0 : Str) (h_l_1 : ∀ {v0 : Str} {v3 : Str} {v4 : Int} {out}, l_1 v0 v3 v4 = some out → xat 31 true 1 [.lp ⟨1, [0, 3, 4], []⟩, .blk 0, .sub ⟨4, [3], []⟩] ⟨[(0, (.d (.str v0))), (3, (.d (.str v3))), (4, (.d (.int .i64 v4)))], ⟨m, []⟩ :: stk⟩ = (fun r0 => (some (.ret (.d (.str r0)), stk) : Rk')) out) {out} (hp : b_cascaderef02_Quote_0 ⟨xar, xcmp, xwrap, xseq, xslt, xenc, pquo, pshf, pslen, psidx, pssub, pscat, psit, pslist, pofBytes, @plen, @pidx, @psub, @papp, @pset, @pmake, @ploop⟩ c_cascaderef02_plain c_cascaderef02_hex l_1 v0 = some out) : xat 31 true 0 [] ⟨[(0, (.d (.str v0)))], ⟨m, []⟩ :: stk⟩ = (fun r0 => (some (.ret (.d (.str r0)), stk) : Rk')) out := by
  simp only [b_cascaderef02_Quote_0] at hp
  rw [h.at_, hT]
  cbv
  first | exact h_l_1 hp | (have q := h_l_1 hp; simp only [h.map_cons, h.map_nil, h.len_nil, he_e_int32, he_e_uint8] at q; first | exact q | (cbv; exact q))
def b_cascaderef02_Quote_1 (P : Prims) (c_cascaderef02_plain : Int → Option (Int)) (c_cascaderef02_hex : Int → Option (Str)) (l_3 : Str → Str → Int → Option ((Str × Str × Int) ⊕ (Str))) (v0 : Str) (v3 : Str) (v4 : Int) : Option ((Str × Str × Int) ⊕ (Str)) :=
  match P.cmp .lss v4 (P.slen v0) with
  | false =>
    match P.scat v3 [34] with
    | none => none
    | some s28 =>
      some (.inr s28)
  | true =>
    match P.sidx v0 v4 with
    | none => none
    | some b2 =>
      match c_cascaderef02_plain b2 with
      | none => none
      | some r4 =>
        match P.cmp .neq r4 0 with
        | false =>
          match P.cmp .lss b2 32 with
          | false =>
            match P.ssub v0 (some v4) (some (P.ar .add .i64 v4 1)) with
            | none => none
            | some s24 =>
              match P.scat v3 s24 with
              | none => none
              | some s26 =>
                l_3 v0 s26 v4
          | true =>
            match P.quo .quo .i64 (P.wrap .i64 b2) 16 with
            | none => none
            | some n10 =>
              match c_cascaderef02_hex n10 with
              | none => none
              | some r12 =>
                match P.scat [92, 117, 48, 48] r12 with
                | none => none
                | some s14 =>
                  match P.quo .rem .i64 (P.wrap .i64 b2) 16 with
                  | none => none
                  | some n16 =>
                    match c_cascaderef02_hex n16 with
                    | none => none
                    | some r18 =>
                      match P.scat s14 r18 with
                      | none => none
                      | some s20 =>
                        match P.scat v3 s20 with
                        | none => none
                        | some s22 =>
                          l_3 v0 s22 v4
        | true =>
          match P.scat v3 (P.ofBytes [92, r4]) with
          | none => none
          | some s7 =>
            l_3 v0 s7 v4
theorem o_cascaderef02_Quote_1 (c_cascaderef02_plain : Int → Option (Int)) (c_cascaderef02_hex : Int → Option (Str)) (h_cascaderef02_plain : ∀ {a0 : Int} {r0 : Int}, c_cascaderef02_plain a0 = some r0 → ∀ stk, xpcall 48 [(.d (.int .u8 a0))] stk = some (.d (.int .u8 r0))) (h_cascaderef02_hex : ∀ {a0 : Int} {r0 : Str}, c_cascaderef02_hex a0 = some r0 → ∀ stk, xpcall 49 [(.d (.int .i64 a0))] stk = some (.d (.str r0))) (stk : Stk) (m : Nat) (l_3 : Str → Str → Int → Option ((Str × Str × Int) ⊕ (Str))) (v0 : Str) (v3 : Str) (v4 : Int) (h_l_3 : ∀ {v0 : Str} {v3 : Str} {v4 : Int} {out}, l_3 v0 v3 v4 = some out → xat 31 true 3 [.lp ⟨1, [0, 3, 4], []⟩, .blk 0, .sub ⟨4, [3], []⟩] ⟨[(0, (.d (.str v0))), (3, (.d (.str v3))), (4, (.d (.int .i64 v4)))], ⟨m, []⟩ :: stk⟩ = (Sum.elim (fun (v0, v3, v4) => xat 31 true 1 [.lp ⟨1, [0, 3, 4], []⟩, .blk 0, .sub ⟨4, [3], []⟩] ⟨[(0, (.d (.str v0))), (3, (.d (.str v3))), (4, (.d (.int .i64 v4)))], ⟨m, []⟩ :: stk⟩) (fun r0 => (some (.ret (.d (.str r0)), stk) : Rk'))) out) {out} (hp : b_cascaderef02_Quote_1 ⟨xar, xcmp, xwrap, xseq, xslt, xenc, pquo, pshf, pslen, psidx, pssub, pscat, psit, pslist, pofBytes, @plen, @pidx, @psub, @papp, @pset, @pmake, @ploop⟩ c_cascaderef02_plain c_cascaderef02_hex l_3 v0 v3 v4 = some out) : xat 31 true 1 [.lp ⟨1, [0, 3, 4], []⟩, .blk 0, .sub ⟨4, [3], []⟩] ⟨[(0, (.d (.str v0))), (3, (.d (.str v3))), (4, (.d (.int .i64 v4)))], ⟨m, []⟩ :: stk⟩ = (Sum.elim (fun (v0, v3, v4) => xat 31 true 1 [.lp ⟨1, [0, 3, 4], []⟩, .blk 0, .sub ⟨4, [3], []⟩] ⟨[(0, (.d (.str v0))), (3, (.d (.str v3))), (4, (.d (.int .i64 v4)))], ⟨m, []⟩ :: stk⟩) (fun r0 => (some (.ret (.d (.str r0)), stk) : Rk'))) out := by
  simp only [b_cascaderef02_Quote_1] at hp
  rw [h.at_, hT]
  cbv
  try simp only [h.slen]
  cases c1 : xcmp .lss v4 (pslen v0) with
  | false =>
    simp only [c1] at hp ⊢
    cbv
    rw [h.at_, hT]
    cbv
    cases c29 : pscat v3 [34] with
    | none => simp only [c29] at hp; cases hp
    | some s28 =>
      simp only [c29] at hp
      obtain ⟨q1, q2⟩ := h.scat c29
      simp only [q1, q2, if_true]
      cbv
      cases hp
      first | rfl | (cbv; done) | (simp only [h.nadd0, h.nle_refl, h.cut_all, h.cut_nil, h.map_cons, h.map_nil, h.len_nil, he_e_int32, he_e_uint8, if_true]; done) | (simp only [h.nadd0, h.nle_refl, h.cut_all, h.cut_nil, h.map_cons, h.map_nil, h.len_nil, he_e_int32, he_e_uint8, if_true]; first | rfl | (cbv; done) | (cbv; simp only [h.map_cons, h.map_nil, h.len_nil, he_e_int32, he_e_uint8]; done))
  | true =>
    simp only [c1] at hp ⊢
    cbv
    rw [h.at_, hT]
    cbv
    cases c3 : psidx v0 v4 with
    | none => simp only [c3] at hp; cases hp
    | some b2 =>
      simp only [c3] at hp
      obtain ⟨w, q1, q2, q3⟩ := h.sidx c3
      simp only [q1, q2, q3, Bool.false_eq_true, if_false]
      cbv
      cases c5 : c_cascaderef02_plain b2 with
      | none => simp only [c5] at hp; cases hp
      | some r4 =>
        simp only [c5] at hp
        have qc := h_cascaderef02_plain c5 (⟨m, []⟩ :: stk)
        simp only [qc]
        cbv
        cases c6 : xcmp .neq r4 0 with
        | false =>
          simp only [c6] at hp ⊢
          cbv
          cases c9 : xcmp .lss b2 32 with
          | false =>
            simp only [c9] at hp ⊢
            cbv
            cases c25 : pssub v0 (some v4) (some (xar .add .i64 v4 1)) with
            | none => simp only [c25] at hp; cases hp
            | some s24 =>
              simp only [c25] at hp
              obtain ⟨q0, q1, q2, q3, q4⟩ := h.ssub2 c25
              simp only [q0, q1, q2, q3, q4, Bool.false_eq_true, if_false, if_true]
              cbv
              try simp only [q0, q1, q2, q3, q4, if_true]
              cbv
              cases c27 : pscat v3 s24 with
              | none => simp only [c27] at hp; cases hp
              | some s26 =>
                simp only [c27] at hp
                obtain ⟨q1, q2⟩ := h.scat c27
                simp only [q1, q2, if_true]
                cbv
                first | exact h_l_3 hp | (have q := h_l_3 hp; simp only [h.map_cons, h.map_nil, h.len_nil, he_e_int32, he_e_uint8] at q; first | exact q | (cbv; exact q))
          | true =>
            simp only [c9] at hp ⊢
            cbv
            cases c11 : pquo .quo .i64 (xwrap .i64 b2) 16 with
            | none => simp only [c11] at hp; cases hp
            | some n10 =>
              simp only [c11] at hp
              obtain ⟨q1, q2⟩ := h.quo c11
              simp only [q1, q2, Bool.false_eq_true, if_false]
              cbv
              cases c13 : c_cascaderef02_hex n10 with
              | none => simp only [c13] at hp; cases hp
              | some r12 =>
                simp only [c13] at hp
                have qc := h_cascaderef02_hex c13 (⟨m, []⟩ :: stk)
                simp only [qc]
                cbv
                cases c15 : pscat [92, 117, 48, 48] r12 with
                | none => simp only [c15] at hp; cases hp
                | some s14 =>
                  simp only [c15] at hp
                  obtain ⟨q1, q2⟩ := h.scat c15
                  simp only [q1, q2, if_true]
                  cbv
                  cases c17 : pquo .rem .i64 (xwrap .i64 b2) 16 with
                  | none => simp only [c17] at hp; cases hp
                  | some n16 =>
                    simp only [c17] at hp
                    obtain ⟨q1, q2⟩ := h.quo c17
                    simp only [q1, q2, Bool.false_eq_true, if_false]
                    cbv
                    cases c19 : c_cascaderef02_hex n16 with
                    | none => simp only [c19] at hp; cases hp
                    | some r18 =>
                      simp only [c19] at hp
                      have qc := h_cascaderef02_hex c19 (⟨m, []⟩ :: stk)
                      simp only [qc]
                      cbv
                      cases c21 : pscat s14 r18 with
                      | none => simp only [c21] at hp; cases hp
                      | some s20 =>
                        simp only [c21] at hp
                        obtain ⟨q1, q2⟩ := h.scat c21
                        simp only [q1, q2, if_true]
                        cbv
                        cases c23 : pscat v3 s20 with
                        | none => simp only [c23] at hp; cases hp
                        | some s22 =>
                          simp only [c23] at hp
                          obtain ⟨q1, q2⟩ := h.scat c23
                          simp only [q1, q2, if_true]
                          cbv
                          first | exact h_l_3 hp | (have q := h_l_3 hp; simp only [h.map_cons, h.map_nil, h.len_nil, he_e_int32, he_e_uint8] at q; first | exact q | (cbv; exact q))
        | true =>
          simp only [c6] at hp ⊢
          cbv
          simp only [h.allsz_nil, h.allsz_cons]
          cbv
          have qb := h.ofBytes e_uint8 he_e_uint8 [92, r4]
          try simp only [h.map_cons, h.map_nil, he_e_uint8] at qb
          simp only [qb]
          cbv
          cases c8 : pscat v3 (pofBytes [92, r4]) with
          | none => simp only [c8] at hp; cases hp
          | some s7 =>
            simp only [c8] at hp
            obtain ⟨q1, q2⟩ := h.scat c8
            simp only [q1, q2, if_true]
            cbv
            first | exact h_l_3 hp | (have q := h_l_3 hp; simp only [h.map_cons, h.map_nil, h.len_nil, he_e_int32, he_e_uint8] at q; first | exact q | (cbv; exact q))
def b_cascaderef02_Quote_3 (P : Prims) (c_cascaderef02_plain : Int → Option (Int)) (c_cascaderef02_hex : Int → Option (Str))  (v0 : Str) (v3 : Str) (v4 : Int) : Option ((Str × Str × Int) ⊕ (Str)) :=
  some (.inl (v0, v3, P.ar .add .i64 v4 1))
theorem o_cascaderef02_Quote_3 (c_cascaderef02_plain : Int → Option (Int)) (c_cascaderef02_hex : Int → Option (Str)) (h_cascaderef02_plain : ∀ {a0 : Int} {r0 : Int}, c_cascaderef02_plain a0 = some r0 → ∀ stk, xpcall 48 [(.d (.int .u8 a0))] stk = some (.d (.int .u8 r0))) (h_cascaderef02_hex : ∀ {a0 : Int} {r0 : Str}, c_cascaderef02_hex a0 = some r0 → ∀ stk, xpcall 49 [(.d (.int .i64 a0))] stk = some (.d (.str r0))) (stk : Stk) (m : Nat)  (v0 : Str) (v3 : Str) (v4 : Int)  {out} (hp : b_cascaderef02_Quote_3 ⟨xar, xcmp, xwrap, xseq, xslt, xenc, pquo, pshf, pslen, psidx, pssub, pscat, psit, pslist, pofBytes, @plen, @pidx, @psub, @papp, @pset, @pmake, @ploop⟩ c_cascaderef02_plain c_cascaderef02_hex  v0 v3 v4 = some out) : xat 31 true 3 [.lp ⟨1, [0, 3, 4], []⟩, .blk 0, .sub ⟨4, [3], []⟩] ⟨[(0, (.d (.str v0))), (3, (.d (.str v3))), (4, (.d (.int .i64 v4)))], ⟨m, []⟩ :: stk⟩ = (Sum.elim (fun (v0, v3, v4) => xat 31 true 1 [.lp ⟨1, [0, 3, 4], []⟩, .blk 0, .sub ⟨4, [3], []⟩] ⟨[(0, (.d (.str v0))), (3, (.d (.str v3))), (4, (.d (.int .i64 v4)))], ⟨m, []⟩ :: stk⟩) (fun r0 => (some (.ret (.d (.str r0)), stk) : Rk'))) out := by
  simp only [b_cascaderef02_Quote_3] at hp
  rw [h.at_, hT]
  cbv
  cases hp
  first | rfl | (cbv; done) | (simp only [h.nadd0, h.nle_refl, h.cut_all, h.cut_nil, h.map_cons, h.map_nil, h.len_nil, he_e_int32, he_e_uint8, if_true]; done) | (simp only [h.nadd0, h.nle_refl, h.cut_all, h.cut_nil, h.map_cons, h.map_nil, h.len_nil, he_e_int32, he_e_uint8, if_true]; first | rfl | (cbv; done) | (cbv; simp only [h.map_cons, h.map_nil, h.len_nil, he_e_int32, he_e_uint8]; done))
def b_cascadelaw02_QuoteTexts_0 (P : Prims) (c_cascadelaw02_awake : Option (Bool)) (c_quote_Quote : Str → Option (Str × Int)) (c_cascaderef01_Right : Str → Option (Bool)) (c_cascaderef02_Quote : Str → Option (Str))  (v0 : Str) : Option (Bool) :=
  match c_cascadelaw02_awake with
  | none => none
  | some r1 =>
    match r1 with
    | false =>
      some r1
    | true =>
      match P.cmp .gtr (P.slen v0) 400 with
      | false =>
        match c_quote_Quote v0 with
        | none => none
        | some (r5_0, r5_1) =>
          match c_cascaderef01_Right v0 with
          | none => none
          | some r7 =>
            match r7 with
            | false =>
              match P.cmp .eql r5_1 2 with
              | false =>
                some false
              | true =>
                some (P.seq r5_0 [])
            | true =>
              match P.cmp .eql r5_1 0 with
              | false =>
                some false
              | true =>
                match c_cascaderef02_Quote v0 with
                | none => none
                | some r11 =>
                  some (P.seq r5_0 r11)
      | true =>
        some r1
theorem o_cascadelaw02_QuoteTexts_0 (c_cascadelaw02_awake : Option (Bool)) (c_quote_Quote : Str → Option (Str × Int)) (c_cascaderef01_Right : Str → Option (Bool)) (c_cascaderef02_Quote : Str → Option (Str)) (h_cascadelaw02_awake : ∀ {r0 : Bool}, c_cascadelaw02_awake  = some r0 → ∀ stk, xpcall 28 [] stk = some (.d (.bool r0))) (h_quote_Quote : ∀ {a0 : Str} {r0 : Str} {r1 : Int}, c_quote_Quote a0 = some (r0, r1) → ∀ stk, xpcall 29 [(.d (.str a0))] stk = some (.d (.tup [(.str r0), (.int .i64 r1)]))) (h_cascaderef01_Right : ∀ {a0 : Str} {r0 : Bool}, c_cascaderef01_Right a0 = some r0 → ∀ stk, xpcall 30 [(.d (.str a0))] stk = some (.d (.bool r0))) (h_cascaderef02_Quote : ∀ {a0 : Str} {r0 : Str}, c_cascaderef02_Quote a0 = some r0 → ∀ stk, xpcall 31 [(.d (.str a0))] stk = some (.d (.str r0))) (stk : Stk) (m : Nat)  (v0 : Str)  {out} (hp : b_cascadelaw02_QuoteTexts_0 ⟨xar, xcmp, xwrap, xseq, xslt, xenc, pquo, pshf, pslen, psidx, pssub, pscat, psit, pslist, pofBytes, @plen, @pidx, @psub, @papp, @pset, @pmake, @ploop⟩ c_cascadelaw02_awake c_quote_Quote c_cascaderef01_Right c_cascaderef02_Quote  v0 = some out) : xat 9 true 0 [] ⟨[(0, (.d (.str v0)))], ⟨m, []⟩ :: stk⟩ = (fun r0 => (some (.ret (.d (.bool r0)), stk) : Rk')) out := by
  simp only [b_cascadelaw02_QuoteTexts_0] at hp
  rw [h.at_, hT]
  cbv
  cases c2 : c_cascadelaw02_awake with
  | none => simp only [c2] at hp; cases hp
  | some r1 =>
    simp only [c2] at hp
    have qc := h_cascadelaw02_awake c2 (⟨m, []⟩ :: stk)
    simp only [qc]
    cbv
    cases r1 with
    | false =>
      simp only at hp
      cbv
      have qc := h_cascadelaw02_awake c2 (⟨m, []⟩ :: stk)
      simp only [qc]
      cbv
      cases hp
      first | rfl | (cbv; done) | (simp only [h.nadd0, h.nle_refl, h.cut_all, h.cut_nil, h.map_cons, h.map_nil, h.len_nil, he_e_int32, he_e_uint8, if_true]; done) | (simp only [h.nadd0, h.nle_refl, h.cut_all, h.cut_nil, h.map_cons, h.map_nil, h.len_nil, he_e_int32, he_e_uint8, if_true]; first | rfl | (cbv; done) | (cbv; simp only [h.map_cons, h.map_nil, h.len_nil, he_e_int32, he_e_uint8]; done))
    | true =>
      simp only at hp
      cbv
      try simp only [h.slen]
      cases c4 : xcmp .gtr (pslen v0) 400 with
      | false =>
        simp only [c4] at hp ⊢
        cbv
        rw [h.at_, hT]
        cbv
        cases c6 : c_quote_Quote v0 with
        | none => simp only [c6] at hp; cases hp
        | some y14 =>
          obtain ⟨r5_0, r5_1⟩ := y14
          simp only [c6] at hp
          have qc := h_quote_Quote c6 (⟨m, []⟩ :: stk)
          simp only [qc]
          cbv
          cases c8 : c_cascaderef01_Right v0 with
          | none => simp only [c8] at hp; cases hp
          | some r7 =>
            simp only [c8] at hp
            have qc := h_cascaderef01_Right c8 (⟨m, []⟩ :: stk)
            simp only [qc]
            cbv
            cases r7 with
            | false =>
              simp only at hp
              cbv
              cases c13 : xcmp .eql r5_1 2 with
              | false =>
                simp only [c13] at hp ⊢
                cbv
                cases hp
                first | rfl | (cbv; done) | (simp only [h.nadd0, h.nle_refl, h.cut_all, h.cut_nil, h.map_cons, h.map_nil, h.len_nil, he_e_int32, he_e_uint8, if_true]; done) | (simp only [h.nadd0, h.nle_refl, h.cut_all, h.cut_nil, h.map_cons, h.map_nil, h.len_nil, he_e_int32, he_e_uint8, if_true]; first | rfl | (cbv; done) | (cbv; simp only [h.map_cons, h.map_nil, h.len_nil, he_e_int32, he_e_uint8]; done))
              | true =>
                simp only [c13] at hp ⊢
                cbv
                cases hp
                first | rfl | (cbv; done) | (simp only [h.nadd0, h.nle_refl, h.cut_all, h.cut_nil, h.map_cons, h.map_nil, h.len_nil, he_e_int32, he_e_uint8, if_true]; done) | (simp only [h.nadd0, h.nle_refl, h.cut_all, h.cut_nil, h.map_cons, h.map_nil, h.len_nil, he_e_int32, he_e_uint8, if_true]; first | rfl | (cbv; done) | (cbv; simp only [h.map_cons, h.map_nil, h.len_nil, he_e_int32, he_e_uint8]; done))
            | true =>
              simp only at hp
              cbv
              rw [h.at_, hT]
              cbv
              cases c10 : xcmp .eql r5_1 0 with
              | false =>
                simp only [c10] at hp ⊢
                cbv
                cases hp
                first | rfl | (cbv; done) | (simp only [h.nadd0, h.nle_refl, h.cut_all, h.cut_nil, h.map_cons, h.map_nil, h.len_nil, he_e_int32, he_e_uint8, if_true]; done) | (simp only [h.nadd0, h.nle_refl, h.cut_all, h.cut_nil, h.map_cons, h.map_nil, h.len_nil, he_e_int32, he_e_uint8, if_true]; first | rfl | (cbv; done) | (cbv; simp only [h.map_cons, h.map_nil, h.len_nil, he_e_int32, he_e_uint8]; done))
              | true =>
                simp only [c10] at hp ⊢
                cbv
                cases c12 : c_cascaderef02_Quote v0 with
                | none => simp only [c12] at hp; cases hp
                | some r11 =>
                  simp only [c12] at hp
                  have qc := h_cascaderef02_Quote c12 (⟨m, []⟩ :: stk)
                  simp only [qc]
                  cbv
                  cases hp
                  first | rfl | (cbv; done) | (simp only [h.nadd0, h.nle_refl, h.cut_all, h.cut_nil, h.map_cons, h.map_nil, h.len_nil, he_e_int32, he_e_uint8, if_true]; done) | (simp only [h.nadd0, h.nle_refl, h.cut_all, h.cut_nil, h.map_cons, h.map_nil, h.len_nil, he_e_int32, he_e_uint8, if_true]; first | rfl | (cbv; done) | (cbv; simp only [h.map_cons, h.map_nil, h.len_nil, he_e_int32, he_e_uint8]; done))
      | true =>
        simp only [c4] at hp ⊢
        cbv
        have qc := h_cascadelaw02_awake c2 (⟨m, []⟩ :: stk)
        simp only [qc]
        cbv
        cases hp
        first | rfl | (cbv; done) | (simp only [h.nadd0, h.nle_refl, h.cut_all, h.cut_nil, h.map_cons, h.map_nil, h.len_nil, he_e_int32, he_e_uint8, if_true]; done) | (simp only [h.nadd0, h.nle_refl, h.cut_all, h.cut_nil, h.map_cons, h.map_nil, h.len_nil, he_e_int32, he_e_uint8, if_true]; first | rfl | (cbv; done) | (cbv; simp only [h.map_cons, h.map_nil, h.len_nil, he_e_int32, he_e_uint8]; done))
def b_cascadelaw02_QuoteOne_0 (P : Prims) (c_cascadelaw02_awake : Option (Bool)) (c_quote_Quote : Str → Option (Str × Int)) (c_cascaderef01_Right : Str → Option (Bool)) (l_2 : Str → Option (Bool)) (v0 : Str) (v1 : Str) : Option (Bool) :=
  match c_cascadelaw02_awake with
  | none => none
  | some r1 =>
    match r1 with
    | false =>
      some r1
    | true =>
      match P.cmp .gtr (P.slen v0) 200 with
      | false =>
        match P.cmp .gtr (P.slen v1) 200 with
        | false =>
          match c_cascaderef01_Right v0 with
          | none => none
          | some r6 =>
            match r6 with
            | false =>
              some r1
            | true =>
              match c_cascaderef01_Right v1 with
              | none => none
              | some r9 =>
                match r9 with
                | false =>
                  some r1
                | true =>
                  match c_quote_Quote v0 with
                  | none => none
                  | some (r12_0, r12_1) =>
                    match c_quote_Quote v1 with
                    | none => none
                    | some (r14_0, r14_1) =>
                      match P.seq r12_0 r14_0 with
                      | false =>
                        match P.seq v0 v1 with
                        | false =>
                          match P.cmp .lss (P.slen r12_0) 2 with
                          | false =>
                            match P.sidx r12_0 0 with
                            | none => none
                            | some b27 =>
                              match P.cmp .neq b27 34 with
                              | false =>
                                match P.sidx r12_0 (P.ar .sub .i64 (P.slen r12_0) 1) with
                                | none => none
                                | some b30 =>
                                  match P.cmp .neq b30 34 with
                                  | false =>
                                    l_2 r12_0
                                  | true =>
                                    some false
                              | true =>
                                some false
                          | true =>
                            some false
                        | true =>
                          some false
                      | true =>
                        match P.seq v0 v1 with
                        | false =>
                          some false
                        | true =>
                          match P.cmp .lss (P.slen r12_0) 2 with
                          | false =>
                            match P.sidx r12_0 0 with
                            | none => none
                            | some b19 =>
                              match P.cmp .neq b19 34 with
                              | false =>
                                match P.sidx r12_0 (P.ar .sub .i64 (P.slen r12_0) 1) with
                                | none => none
                                | some b22 =>
                                  match P.cmp .neq b22 34 with
                                  | false =>
                                    l_2 r12_0
                                  | true =>
                                    some false
                              | true =>
                                some false
                          | true =>
                            some false
        | true =>
          some r1
      | true =>
        some r1
theorem o_cascadelaw02_QuoteOne_0 (c_cascadelaw02_awake : Option (Bool)) (c_quote_Quote : Str → Option (Str × Int)) (c_cascaderef01_Right : Str → Option (Bool)) (h_cascadelaw02_awake : ∀ {r0 : Bool}, c_cascadelaw02_awake  = some r0 → ∀ stk, xpcall 28 [] stk = some (.d (.bool r0))) (h_quote_Quote : ∀ {a0 : Str} {r0 : Str} {r1 : Int}, c_quote_Quote a0 = some (r0, r1) → ∀ stk, xpcall 29 [(.d (.str a0))] stk = some (.d (.tup [(.str r0), (.int .i64 r1)]))) (h_cascaderef01_Right : ∀ {a0 : Str} {r0 : Bool}, c_cascaderef01_Right a0 = some r0 → ∀ stk, xpcall 30 [(.d (.str a0))] stk = some (.d (.bool r0))) (stk : Stk) (m : Nat) (l_2 : Str → Option (Bool)) (v0 : Str) (v1 : Str) (h_l_2 : ∀ {v5 : Str} {out}, l_2 v5 = some out → xat 10 true 2 [] ⟨[(5, (.d (.str v5)))], ⟨m, []⟩ :: stk⟩ = (fun r0 => (some (.ret (.d (.bool r0)), stk) : Rk')) out) {out} (hp : b_cascadelaw02_QuoteOne_0 ⟨xar, xcmp, xwrap, xseq, xslt, xenc, pquo, pshf, pslen, psidx, pssub, pscat, psit, pslist, pofBytes, @plen, @pidx, @psub, @papp, @pset, @pmake, @ploop⟩ c_cascadelaw02_awake c_quote_Quote c_cascaderef01_Right l_2 v0 v1 = some out) : xat 10 true 0 [] ⟨[(0, (.d (.str v0))), (1, (.d (.str v1)))], ⟨m, []⟩ :: stk⟩ = (fun r0 => (some (.ret (.d (.bool r0)), stk) : Rk')) out := by
  simp only [b_cascadelaw02_QuoteOne_0] at hp
  rw [h.at_, hT]
  cbv
  cases c2 : c_cascadelaw02_awake with
  | none => simp only [c2] at hp; cases hp
  | some r1 =>
    simp only [c2] at hp
    have qc := h_cascadelaw02_awake c2 (⟨m, []⟩ :: stk)
    simp only [qc]
    cbv
    cases r1 with
    | false =>
      simp only at hp
      cbv
      have qc := h_cascadelaw02_awake c2 (⟨m, []⟩ :: stk)
      simp only [qc]
      cbv
      cases hp
      first | rfl | (cbv; done) | (simp only [h.nadd0, h.nle_refl, h.cut_all, h.cut_nil, h.map_cons, h.map_nil, h.len_nil, he_e_int32, he_e_uint8, if_true]; done) | (simp only [h.nadd0, h.nle_refl, h.cut_all, h.cut_nil, h.map_cons, h.map_nil, h.len_nil, he_e_int32, he_e_uint8, if_true]; first | rfl | (cbv; done) | (cbv; simp only [h.map_cons, h.map_nil, h.len_nil, he_e_int32, he_e_uint8]; done))
    | true =>
      simp only at hp
      cbv
      try simp only [h.slen]
      cases c4 : xcmp .gtr (pslen v0) 200 with
      | false =>
        simp only [c4] at hp ⊢
        cbv
        try simp only [h.slen]
        cases c5 : xcmp .gtr (pslen v1) 200 with
        | false =>
          simp only [c5] at hp ⊢
          cbv
          cases c7 : c_cascaderef01_Right v0 with
          | none => simp only [c7] at hp; cases hp
          | some r6 =>
            simp only [c7] at hp
            have qc := h_cascaderef01_Right c7 (⟨m, []⟩ :: stk)
            simp only [qc]
            cbv
            cases r6 with
            | false =>
              simp only at hp
              cbv
              have qc := h_cascadelaw02_awake c2 (⟨m, []⟩ :: stk)
              simp only [qc]
              cbv
              cases hp
              first | rfl | (cbv; done) | (simp only [h.nadd0, h.nle_refl, h.cut_all, h.cut_nil, h.map_cons, h.map_nil, h.len_nil, he_e_int32, he_e_uint8, if_true]; done) | (simp only [h.nadd0, h.nle_refl, h.cut_all, h.cut_nil, h.map_cons, h.map_nil, h.len_nil, he_e_int32, he_e_uint8, if_true]; first | rfl | (cbv; done) | (cbv; simp only [h.map_cons, h.map_nil, h.len_nil, he_e_int32, he_e_uint8]; done))
            | true =>
              simp only at hp
              cbv
              cases c10 : c_cascaderef01_Right v1 with
              | none => simp only [c10] at hp; cases hp
              | some r9 =>
                simp only [c10] at hp
                have qc := h_cascaderef01_Right c10 (⟨m, []⟩ :: stk)
                simp only [qc]
                cbv
                cases r9 with
                | false =>
                  simp only at hp
                  cbv
                  have qc := h_cascadelaw02_awake c2 (⟨m, []⟩ :: stk)
                  simp only [qc]
                  cbv
                  cases hp
                  first | rfl | (cbv; done) | (simp only [h.nadd0, h.nle_refl, h.cut_all, h.cut_nil, h.map_cons, h.map_nil, h.len_nil, he_e_int32, he_e_uint8, if_true]; done) | (simp only [h.nadd0, h.nle_refl, h.cut_all, h.cut_nil, h.map_cons, h.map_nil, h.len_nil, he_e_int32, he_e_uint8, if_true]; first | rfl | (cbv; done) | (cbv; simp only [h.map_cons, h.map_nil, h.len_nil, he_e_int32, he_e_uint8]; done))
                | true =>
                  simp only at hp
                  cbv
                  rw [h.at_, hT]
                  cbv
                  cases c13 : c_quote_Quote v0 with
                  | none => simp only [c13] at hp; cases hp
                  | some y34 =>
                    obtain ⟨r12_0, r12_1⟩ := y34
                    simp only [c13] at hp
                    have qc := h_quote_Quote c13 (⟨m, []⟩ :: stk)
                    simp only [qc]
                    cbv
                    cases c15 : c_quote_Quote v1 with
                    | none => simp only [c15] at hp; cases hp
                    | some y33 =>
                      obtain ⟨r14_0, r14_1⟩ := y33
                      simp only [c15] at hp
                      have qc := h_quote_Quote c15 (⟨m, []⟩ :: stk)
                      simp only [qc]
                      cbv
                      cases c16 : xseq r12_0 r14_0 with
                      | false =>
                        simp only [c16] at hp ⊢
                        cbv
                        cases c25 : xseq v0 v1 with
                        | false =>
                          simp only [c25] at hp ⊢
                          cbv
                          try simp only [h.slen]
                          cases c26 : xcmp .lss (pslen r12_0) 2 with
                          | false =>
                            simp only [c26] at hp ⊢
                            cbv
                            cases c28 : psidx r12_0 0 with
                            | none => simp only [c28] at hp; cases hp
                            | some b27 =>
                              simp only [c28] at hp
                              obtain ⟨w, q1, q2, q3⟩ := h.sidx c28
                              simp only [q1, q2, q3, Bool.false_eq_true, if_false]
                              cbv
                              cases c29 : xcmp .neq b27 34 with
                              | false =>
                                simp only [c29] at hp ⊢
                                cbv
                                try simp only [h.slen]
                                cases c31 : psidx r12_0 (xar .sub .i64 (pslen r12_0) 1) with
                                | none => simp only [c31] at hp; cases hp
                                | some b30 =>
                                  simp only [c31] at hp
                                  obtain ⟨w, q1, q2, q3⟩ := h.sidx c31
                                  simp only [q1, q2, q3, Bool.false_eq_true, if_false]
                                  cbv
                                  cases c32 : xcmp .neq b30 34 with
                                  | false =>
                                    simp only [c32] at hp ⊢
                                    cbv
                                    first | exact h_l_2 hp | (have q := h_l_2 hp; simp only [h.map_cons, h.map_nil, h.len_nil, he_e_int32, he_e_uint8] at q; first | exact q | (cbv; exact q))
                                  | true =>
                                    simp only [c32] at hp ⊢
                                    cbv
                                    cases hp
                                    first | rfl | (cbv; done) | (simp only [h.nadd0, h.nle_refl, h.cut_all, h.cut_nil, h.map_cons, h.map_nil, h.len_nil, he_e_int32, he_e_uint8, if_true]; done) | (simp only [h.nadd0, h.nle_refl, h.cut_all, h.cut_nil, h.map_cons, h.map_nil, h.len_nil, he_e_int32, he_e_uint8, if_true]; first | rfl | (cbv; done) | (cbv; simp only [h.map_cons, h.map_nil, h.len_nil, he_e_int32, he_e_uint8]; done))
                              | true =>
                                simp only [c29] at hp ⊢
                                cbv
                                cases hp
                                first | rfl | (cbv; done) | (simp only [h.nadd0, h.nle_refl, h.cut_all, h.cut_nil, h.map_cons, h.map_nil, h.len_nil, he_e_int32, he_e_uint8, if_true]; done) | (simp only [h.nadd0, h.nle_refl, h.cut_all, h.cut_nil, h.map_cons, h.map_nil, h.len_nil, he_e_int32, he_e_uint8, if_true]; first | rfl | (cbv; done) | (cbv; simp only [h.map_cons, h.map_nil, h.len_nil, he_e_int32, he_e_uint8]; done))
                          | true =>
                            simp only [c26] at hp ⊢
                            cbv
                            cases hp
                            first | rfl | (cbv; done) | (simp only [h.nadd0, h.nle_refl, h.cut_all, h.cut_nil, h.map_cons, h.map_nil, h.len_nil, he_e_int32, he_e_uint8, if_true]; done) | (simp only [h.nadd0, h.nle_refl, h.cut_all, h.cut_nil, h.map_cons, h.map_nil, h.len_nil, he_e_int32, he_e_uint8, if_true]; first | rfl | (cbv; done) | (cbv; simp only [h.map_cons, h.map_nil, h.len_nil, he_e_int32, he_e_uint8]; done))
                        | true =>
                          simp only [c25] at hp ⊢
                          cbv
                          cases hp
                          first | rfl | (cbv; done) | (simp only [h.nadd0, h.nle_refl, h.cut_all, h.cut_nil, h.map_cons, h.map_nil, h.len_nil, he_e_int32, he_e_uint8, if_true]; done) | (simp only [h.nadd0, h.nle_refl, h.cut_all, h.cut_nil, h.map_cons, h.map_nil, h.len_nil, he_e_int32, he_e_uint8, if_true]; first | rfl | (cbv; done) | (cbv; simp only [h.map_cons, h.map_nil, h.len_nil, he_e_int32, he_e_uint8]; done))
                      | true =>
                        simp only [c16] at hp ⊢
                        cbv
                        cases c17 : xseq v0 v1 with
                        | false =>
                          simp only [c17] at hp ⊢
                          cbv
                          cases hp
                          first | rfl | (cbv; done) | (simp only [h.nadd0, h.nle_refl, h.cut_all, h.cut_nil, h.map_cons, h.map_nil, h.len_nil, he_e_int32, he_e_uint8, if_true]; done) | (simp only [h.nadd0, h.nle_refl, h.cut_all, h.cut_nil, h.map_cons, h.map_nil, h.len_nil, he_e_int32, he_e_uint8, if_true]; first | rfl | (cbv; done) | (cbv; simp only [h.map_cons, h.map_nil, h.len_nil, he_e_int32, he_e_uint8]; done))
                        | true =>
                          simp only [c17] at hp ⊢
                          cbv
                          try simp only [h.slen]
                          cases c18 : xcmp .lss (pslen r12_0) 2 with
                          | false =>
                            simp only [c18] at hp ⊢
                            cbv
                            cases c20 : psidx r12_0 0 with
                            | none => simp only [c20] at hp; cases hp
                            | some b19 =>
                              simp only [c20] at hp
                              obtain ⟨w, q1, q2, q3⟩ := h.sidx c20
                              simp only [q1, q2, q3, Bool.false_eq_true, if_false]
                              cbv
                              cases c21 : xcmp .neq b19 34 with
                              | false =>
                                simp only [c21] at hp ⊢
                                cbv
                                try simp only [h.slen]
                                cases c23 : psidx r12_0 (xar .sub .i64 (pslen r12_0) 1) with
                                | none => simp only [c23] at hp; cases hp
                                | some b22 =>
                                  simp only [c23] at hp
                                  obtain ⟨w, q1, q2, q3⟩ := h.sidx c23
                                  simp only [q1, q2, q3, Bool.false_eq_true, if_false]
                                  cbv
                                  cases c24 : xcmp .neq b22 34 with
                                  | false =>
                                    simp only [c24] at hp ⊢
                                    cbv
                                    first | exact h_l_2 hp | (have q := h_l_2 hp; simp only [h.map_cons, h.map_nil, h.len_nil, he_e_int32, he_e_uint8] at q; first | exact q | (cbv; exact q))
                                  | true =>
                                    simp only [c24] at hp ⊢
                                    cbv
                                    cases hp
                                    first | rfl | (cbv; done) | (simp only [h.nadd0, h.nle_refl, h.cut_all, h.cut_nil, h.map_cons, h.map_nil, h.len_nil, he_e_int32, he_e_uint8, if_true]; done) | (simp only [h.nadd0, h.nle_refl, h.cut_all, h.cut_nil, h.map_cons, h.map_nil, h.len_nil, he_e_int32, he_e_uint8, if_true]; first | rfl | (cbv; done) | (cbv; simp only [h.map_cons, h.map_nil, h.len_nil, he_e_int32, he_e_uint8]; done))
                              | true =>
                                simp only [c21] at hp ⊢
                                cbv
                                cases hp
                                first | rfl | (cbv; done) | (simp only [h.nadd0, h.nle_refl, h.cut_all, h.cut_nil, h.map_cons, h.map_nil, h.len_nil, he_e_int32, he_e_uint8, if_true]; done) | (simp only [h.nadd0, h.nle_refl, h.cut_all, h.cut_nil, h.map_cons, h.map_nil, h.len_nil, he_e_int32, he_e_uint8, if_true]; first | rfl | (cbv; done) | (cbv; simp only [h.map_cons, h.map_nil, h.len_nil, he_e_int32, he_e_uint8]; done))
                          | true =>
                            simp only [c18] at hp ⊢
                            cbv
                            cases hp
                            first | rfl | (cbv; done) | (simp only [h.nadd0, h.nle_refl, h.cut_all, h.cut_nil, h.map_cons, h.map_nil, h.len_nil, he_e_int32, he_e_uint8, if_true]; done) | (simp only [h.nadd0, h.nle_refl, h.cut_all, h.cut_nil, h.map_cons, h.map_nil, h.len_nil, he_e_int32, he_e_uint8, if_true]; first | rfl | (cbv; done) | (cbv; simp only [h.map_cons, h.map_nil, h.len_nil, he_e_int32, he_e_uint8]; done))
        | true =>
          simp only [c5] at hp ⊢
          cbv
          have qc := h_cascadelaw02_awake c2 (⟨m, []⟩ :: stk)
          simp only [qc]
          cbv
          cases hp
          first | rfl | (cbv; done) | (simp only [h.nadd0, h.nle_refl, h.cut_all, h.cut_nil, h.map_cons, h.map_nil, h.len_nil, he_e_int32, he_e_uint8, if_true]; done) | (simp only [h.nadd0, h.nle_refl, h.cut_all, h.cut_nil, h.map_cons, h.map_nil, h.len_nil, he_e_int32, he_e_uint8, if_true]; first | rfl | (cbv; done) | (cbv; simp only [h.map_cons, h.map_nil, h.len_nil, he_e_int32, he_e_uint8]; done))
      | true =>
        simp only [c4] at hp ⊢
        cbv
        have qc := h_cascadelaw02_awake c2 (⟨m, []⟩ :: stk)
        simp only [qc]
        cbv
        cases hp
        first | rfl | (cbv; done) | (simp only [h.nadd0, h.nle_refl, h.cut_all, h.cut_nil, h.map_cons, h.map_nil, h.len_nil, he_e_int32, he_e_uint8, if_true]; done) | (simp only [h.nadd0, h.nle_refl, h.cut_all, h.cut_nil, h.map_cons, h.map_nil, h.len_nil, he_e_int32, he_e_uint8, if_true]; first | rfl | (cbv; done) | (cbv; simp only [h.map_cons, h.map_nil, h.len_nil, he_e_int32, he_e_uint8]; done))
def b_cascadelaw02_QuoteOne_2 (P : Prims) (c_cascadelaw02_awake : Option (Bool)) (c_quote_Quote : Str → Option (Str × Int)) (c_cascaderef01_Right : Str → Option (Bool)) (l_3 : Str → Int → Option (Bool)) (v5 : Str) : Option (Bool) :=
  l_3 v5 1
theorem o_cascadelaw02_QuoteOne_2 (c_cascadelaw02_awake : Option (Bool)) (c_quote_Quote : Str → Option (Str × Int)) (c_cascaderef01_Right : Str → Option (Bool)) (h_cascadelaw02_awake : ∀ {r0 : Bool}, c_cascadelaw02_awake  = some r0 → ∀ stk, xpcall 28 [] stk = some (.d (.bool r0))) (h_quote_Quote : ∀ {a0 : Str} {r0 : Str} {r1 : Int}, c_quote_Quote a0 = some (r0, r1) → ∀ stk, xpcall 29 [(.d (.str a0))] stk = some (.d (.tup [(.str r0), (.int .i64 r1)]))) (h_cascaderef01_Right : ∀ {a0 : Str} {r0 : Bool}, c_cascaderef01_Right a0 = some r0 → ∀ stk, xpcall 30 [(.d (.str a0))] stk = some (.d (.bool r0))) (stk : Stk) (m : Nat) (l_3 : Str → Int → Option (Bool)) (v5 : Str) (h_l_3 : ∀ {v5 : Str} {v9 : Int} {out}, l_3 v5 v9 = some out → xat 10 true 3 [.lp ⟨3, [5, 9], []⟩, .blk 0, .sub ⟨7, [], []⟩] ⟨[(5, (.d (.str v5))), (9, (.d (.int .i64 v9)))], ⟨m, []⟩ :: stk⟩ = (fun r0 => (some (.ret (.d (.bool r0)), stk) : Rk')) out) {out} (hp : b_cascadelaw02_QuoteOne_2 ⟨xar, xcmp, xwrap, xseq, xslt, xenc, pquo, pshf, pslen, psidx, pssub, pscat, psit, pslist, pofBytes, @plen, @pidx, @psub, @papp, @pset, @pmake, @ploop⟩ c_cascadelaw02_awake c_quote_Quote c_cascaderef01_Right l_3 v5 = some out) : xat 10 true 2 [] ⟨[(5, (.d (.str v5)))], ⟨m, []⟩ :: stk⟩ = (fun r0 => (some (.ret (.d (.bool r0)), stk) : Rk')) out := by
  simp only [b_cascadelaw02_QuoteOne_2] at hp
  rw [h.at_, hT]
  cbv
  first | exact h_l_3 hp | (have q := h_l_3 hp; simp only [h.map_cons, h.map_nil, h.len_nil, he_e_int32, he_e_uint8] at q; first | exact q | (cbv; exact q))
def b_cascadelaw02_QuoteOne_3 (P : Prims) (c_cascadelaw02_awake : Option (Bool)) (c_quote_Quote : Str → Option (Str × Int)) (c_cascaderef01_Right : Str → Option (Bool)) (l_6 : Str → Int → Option ((Str × Int) ⊕ (Bool))) (v5 : Str) (v9 : Int) : Option ((Str × Int) ⊕ (Bool)) :=
  match P.cmp .lss v9 (P.ar .sub .i64 (P.slen v5) 1) with
  | false =>
    some (.inr true)
  | true =>
    match P.sidx v5 v9 with
    | none => none
    | some b59 =>
      match P.cmp .lss b59 32 with
      | false =>
        match P.cmp .eql b59 34 with
        | false =>
          match P.cmp .eql b59 92 with
          | false =>
            l_6 v5 v9
          | true =>
            l_6 v5 (P.ar .add .i64 v9 1)
        | true =>
          some (.inr false)
      | true =>
        some (.inr false)
theorem o_cascadelaw02_QuoteOne_3 (c_cascadelaw02_awake : Option (Bool)) (c_quote_Quote : Str → Option (Str × Int)) (c_cascaderef01_Right : Str → Option (Bool)) (h_cascadelaw02_awake : ∀ {r0 : Bool}, c_cascadelaw02_awake  = some r0 → ∀ stk, xpcall 28 [] stk = some (.d (.bool r0))) (h_quote_Quote : ∀ {a0 : Str} {r0 : Str} {r1 : Int}, c_quote_Quote a0 = some (r0, r1) → ∀ stk, xpcall 29 [(.d (.str a0))] stk = some (.d (.tup [(.str r0), (.int .i64 r1)]))) (h_cascaderef01_Right : ∀ {a0 : Str} {r0 : Bool}, c_cascaderef01_Right a0 = some r0 → ∀ stk, xpcall 30 [(.d (.str a0))] stk = some (.d (.bool r0))) (stk : Stk) (m : Nat) (l_6 : Str → Int → Option ((Str × Int) ⊕ (Bool))) (v5 : Str) (v9 : Int) (h_l_6 : ∀ {v5 : Str} {v9 : Int} {out}, l_6 v5 v9 = some out → xat 10 true 6 [.lp ⟨3, [5, 9], []⟩, .blk 0, .sub ⟨7, [], []⟩] ⟨[(5, (.d (.str v5))), (9, (.d (.int .i64 v9)))], ⟨m, []⟩ :: stk⟩ = (Sum.elim (fun (v5, v9) => xat 10 true 3 [.lp ⟨3, [5, 9], []⟩, .blk 0, .sub ⟨7, [], []⟩] ⟨[(5, (.d (.str v5))), (9, (.d (.int .i64 v9)))], ⟨m, []⟩ :: stk⟩) (fun r0 => (some (.ret (.d (.bool r0)), stk) : Rk'))) out) {out} (hp : b_cascadelaw02_QuoteOne_3 ⟨xar, xcmp, xwrap, xseq, xslt, xenc, pquo, pshf, pslen, psidx, pssub, pscat, psit, pslist, pofBytes, @plen, @pidx, @psub, @papp, @pset, @pmake, @ploop⟩ c_cascadelaw02_awake c_quote_Quote c_cascaderef01_Right l_6 v5 v9 = some out) : xat 10 true 3 [.lp ⟨3, [5, 9], []⟩, .blk 0, .sub ⟨7, [], []⟩] ⟨[(5, (.d (.str v5))), (9, (.d (.int .i64 v9)))], ⟨m, []⟩ :: stk⟩ = (Sum.elim (fun (v5, v9) => xat 10 true 3 [.lp ⟨3, [5, 9], []⟩, .blk 0, .sub ⟨7, [], []⟩] ⟨[(5, (.d (.str v5))), (9, (.d (.int .i64 v9)))], ⟨m, []⟩ :: stk⟩) (fun r0 => (some (.ret (.d (.bool r0)), stk) : Rk'))) out := by
  simp only [b_cascadelaw02_QuoteOne_3] at hp
  rw [h.at_, hT]
  cbv
  try simp only [h.slen]
  cases c58 : xcmp .lss v9 (xar .sub .i64 (pslen v5) 1) with
  | false =>
    simp only [c58] at hp ⊢
    cbv
    rw [h.at_, hT]
    cbv
    cases hp
    first | rfl | (cbv; done) | (simp only [h.nadd0, h.nle_refl, h.cut_all, h.cut_nil, h.map_cons, h.map_nil, h.len_nil, he_e_int32, he_e_uint8, if_true]; done) | (simp only [h.nadd0, h.nle_refl, h.cut_all, h.cut_nil, h.map_cons, h.map_nil, h.len_nil, he_e_int32, he_e_uint8, if_true]; first | rfl | (cbv; done) | (cbv; simp only [h.map_cons, h.map_nil, h.len_nil, he_e_int32, he_e_uint8]; done))
  | true =>
    simp only [c58] at hp ⊢
    cbv
    rw [h.at_, hT]
    cbv
    cases c60 : psidx v5 v9 with
    | none => simp only [c60] at hp; cases hp
    | some b59 =>
      simp only [c60] at hp
      obtain ⟨w, q1, q2, q3⟩ := h.sidx c60
      simp only [q1, q2, q3, Bool.false_eq_true, if_false]
      cbv
      cases c61 : xcmp .lss b59 32 with
      | false =>
        simp only [c61] at hp ⊢
        cbv
        obtain ⟨w, q1, q2, q3⟩ := h.sidx c60
        simp only [q1, q2, q3, Bool.false_eq_true, if_false]
        cbv
        cases c62 : xcmp .eql b59 34 with
        | false =>
          simp only [c62] at hp ⊢
          cbv
          rw [h.at_, hT]
          cbv
          obtain ⟨w, q1, q2, q3⟩ := h.sidx c60
          simp only [q1, q2, q3, Bool.false_eq_true, if_false]
          cbv
          cases c63 : xcmp .eql b59 92 with
          | false =>
            simp only [c63] at hp ⊢
            cbv
            first | exact h_l_6 hp | (have q := h_l_6 hp; simp only [h.map_cons, h.map_nil, h.len_nil, he_e_int32, he_e_uint8] at q; first | exact q | (cbv; exact q))
          | true =>
            simp only [c63] at hp ⊢
            cbv
            first | exact h_l_6 hp | (have q := h_l_6 hp; simp only [h.map_cons, h.map_nil, h.len_nil, he_e_int32, he_e_uint8] at q; first | exact q | (cbv; exact q))
        | true =>
          simp only [c62] at hp ⊢
          cbv
          cases hp
          first | rfl | (cbv; done) | (simp only [h.nadd0, h.nle_refl, h.cut_all, h.cut_nil, h.map_cons, h.map_nil, h.len_nil, he_e_int32, he_e_uint8, if_true]; done) | (simp only [h.nadd0, h.nle_refl, h.cut_all, h.cut_nil, h.map_cons, h.map_nil, h.len_nil, he_e_int32, he_e_uint8, if_true]; first | rfl | (cbv; done) | (cbv; simp only [h.map_cons, h.map_nil, h.len_nil, he_e_int32, he_e_uint8]; done))
      | true =>
        simp only [c61] at hp ⊢
        cbv
        cases hp
        first | rfl | (cbv; done) | (simp only [h.nadd0, h.nle_refl, h.cut_all, h.cut_nil, h.map_cons, h.map_nil, h.len_nil, he_e_int32, he_e_uint8, if_true]; done) | (simp only [h.nadd0, h.nle_refl, h.cut_all, h.cut_nil, h.map_cons, h.map_nil, h.len_nil, he_e_int32, he_e_uint8, if_true]; first | rfl | (cbv; done) | (cbv; simp only [h.map_cons, h.map_nil, h.len_nil, he_e_int32, he_e_uint8]; done))
def b_cascadelaw02_QuoteOne_6 (P : Prims) (c_cascadelaw02_awake : Option (Bool)) (c_quote_Quote : Str → Option (Str × Int)) (c_cascaderef01_Right : Str → Option (Bool))  (v5 : Str) (v9 : Int) : Option ((Str × Int) ⊕ (Bool)) :=
  some (.inl (v5, P.ar .add .i64 v9 1))
theorem o_cascadelaw02_QuoteOne_6 (c_cascadelaw02_awake : Option (Bool)) (c_quote_Quote : Str → Option (Str × Int)) (c_cascaderef01_Right : Str → Option (Bool)) (h_cascadelaw02_awake : ∀ {r0 : Bool}, c_cascadelaw02_awake  = some r0 → ∀ stk, xpcall 28 [] stk = some (.d (.bool r0))) (h_quote_Quote : ∀ {a0 : Str} {r0 : Str} {r1 : Int}, c_quote_Quote a0 = some (r0, r1) → ∀ stk, xpcall 29 [(.d (.str a0))] stk = some (.d (.tup [(.str r0), (.int .i64 r1)]))) (h_cascaderef01_Right : ∀ {a0 : Str} {r0 : Bool}, c_cascaderef01_Right a0 = some r0 → ∀ stk, xpcall 30 [(.d (.str a0))] stk = some (.d (.bool r0))) (stk : Stk) (m : Nat)  (v5 : Str) (v9 : Int)  {out} (hp : b_cascadelaw02_QuoteOne_6 ⟨xar, xcmp, xwrap, xseq, xslt, xenc, pquo, pshf, pslen, psidx, pssub, pscat, psit, pslist, pofBytes, @plen, @pidx, @psub, @papp, @pset, @pmake, @ploop⟩ c_cascadelaw02_awake c_quote_Quote c_cascaderef01_Right  v5 v9 = some out) : xat 10 true 6 [.lp ⟨3, [5, 9], []⟩, .blk 0, .sub ⟨7, [], []⟩] ⟨[(5, (.d (.str v5))), (9, (.d (.int .i64 v9)))], ⟨m, []⟩ :: stk⟩ = (Sum.elim (fun (v5, v9) => xat 10 true 3 [.lp ⟨3, [5, 9], []⟩, .blk 0, .sub ⟨7, [], []⟩] ⟨[(5, (.d (.str v5))), (9, (.d (.int .i64 v9)))], ⟨m, []⟩ :: stk⟩) (fun r0 => (some (.ret (.d (.bool r0)), stk) : Rk'))) out := by
  simp only [b_cascadelaw02_QuoteOne_6] at hp
  rw [h.at_, hT]
  cbv
  cases hp
  first | rfl | (cbv; done) | (simp only [h.nadd0, h.nle_refl, h.cut_all, h.cut_nil, h.map_cons, h.map_nil, h.len_nil, he_e_int32, he_e_uint8, if_true]; done) | (simp only [h.nadd0, h.nle_refl, h.cut_all, h.cut_nil, h.map_cons, h.map_nil, h.len_nil, he_e_int32, he_e_uint8, if_true]; first | rfl | (cbv; done) | (cbv; simp only [h.map_cons, h.map_nil, h.len_nil, he_e_int32, he_e_uint8]; done))
def b_internal_stringslite_HasPrefix_0 (P : Prims)   (v0 : Str) (v1 : Str) : Option (Bool) :=
  match P.cmp .geq (P.slen v0) (P.slen v1) with
  | false =>
    some false
  | true =>
    match P.ssub v0 none (some (P.slen v1)) with
    | none => none
    | some s2 =>
      some (P.seq s2 v1)
theorem o_internal_stringslite_HasPrefix_0   (stk : Stk) (m : Nat)  (v0 : Str) (v1 : Str)  {out} (hp : b_internal_stringslite_HasPrefix_0 ⟨xar, xcmp, xwrap, xseq, xslt, xenc, pquo, pshf, pslen, psidx, pssub, pscat, psit, pslist, pofBytes, @plen, @pidx, @psub, @papp, @pset, @pmake, @ploop⟩   v0 v1 = some out) : xat 54 true 0 [] ⟨[(0, (.d (.str v0))), (1, (.d (.str v1)))], ⟨m, []⟩ :: stk⟩ = (fun r0 => (some (.ret (.d (.bool r0)), stk) : Rk')) out := by
  simp only [b_internal_stringslite_HasPrefix_0] at hp
  rw [h.at_, hT]
  cbv
  try simp only [h.slen]
  try simp only [h.slen]
  cases c1 : xcmp .geq (pslen v0) (pslen v1) with
  | false =>
    simp only [c1] at hp ⊢
    cbv
    cases hp
    first | rfl | (cbv; done) | (simp only [h.nadd0, h.nle_refl, h.cut_all, h.cut_nil, h.map_cons, h.map_nil, h.len_nil, he_e_int32, he_e_uint8, if_true]; done) | (simp only [h.nadd0, h.nle_refl, h.cut_all, h.cut_nil, h.map_cons, h.map_nil, h.len_nil, he_e_int32, he_e_uint8, if_true]; first | rfl | (cbv; done) | (cbv; simp only [h.map_cons, h.map_nil, h.len_nil, he_e_int32, he_e_uint8]; done))
  | true =>
    simp only [c1] at hp ⊢
    cbv
    try simp only [h.slen]
    cases c3 : pssub v0 none (some (pslen v1)) with
    | none => simp only [c3] at hp; cases hp
    | some s2 =>
      simp only [c3] at hp
      obtain ⟨q0, q1, q2, q3⟩ := h.ssub0 c3
      simp only [q0, q1, q2, q3, Bool.false_eq_true, if_false, if_true]
      cbv
      try simp only [q0, q1, q2, q3, if_true]
      cbv
      cases hp
      first | rfl | (cbv; done) | (simp only [h.nadd0, h.nle_refl, h.cut_all, h.cut_nil, h.map_cons, h.map_nil, h.len_nil, he_e_int32, he_e_uint8, if_true]; done) | (simp only [h.nadd0, h.nle_refl, h.cut_all, h.cut_nil, h.map_cons, h.map_nil, h.len_nil, he_e_int32, he_e_uint8, if_true]; first | rfl | (cbv; done) | (cbv; simp only [h.map_cons, h.map_nil, h.len_nil, he_e_int32, he_e_uint8]; done))
def b_strings_HasPrefix_0 (P : Prims) (c_internal_stringslite_HasPrefix : Str → Str → Option (Bool))  (v0 : Str) (v1 : Str) : Option (Bool) :=
  match c_internal_stringslite_HasPrefix v0 v1 with
  | none => none
  | some r1 =>
    some r1
theorem o_strings_HasPrefix_0 (c_internal_stringslite_HasPrefix : Str → Str → Option (Bool)) (h_internal_stringslite_HasPrefix : ∀ {a0 : Str} {a1 : Str} {r0 : Bool}, c_internal_stringslite_HasPrefix a0 a1 = some r0 → ∀ stk, xpcall 54 [(.d (.str a0)), (.d (.str a1))] stk = some (.d (.bool r0))) (stk : Stk) (m : Nat)  (v0 : Str) (v1 : Str)  {out} (hp : b_strings_HasPrefix_0 ⟨xar, xcmp, xwrap, xseq, xslt, xenc, pquo, pshf, pslen, psidx, pssub, pscat, psit, pslist, pofBytes, @plen, @pidx, @psub, @papp, @pset, @pmake, @ploop⟩ c_internal_stringslite_HasPrefix  v0 v1 = some out) : xat 40 true 0 [] ⟨[(0, (.d (.str v0))), (1, (.d (.str v1)))], ⟨m, []⟩ :: stk⟩ = (fun r0 => (some (.ret (.d (.bool r0)), stk) : Rk')) out := by
  simp only [b_strings_HasPrefix_0] at hp
  rw [h.at_, hT]
  cbv
  cases c2 : c_internal_stringslite_HasPrefix v0 v1 with
  | none => simp only [c2] at hp; cases hp
  | some r1 =>
    simp only [c2] at hp
    have qc := h_internal_stringslite_HasPrefix c2 (⟨m, []⟩ :: stk)
    simp only [qc]
    cbv
    cases hp
    first | rfl | (cbv; done) | (simp only [h.nadd0, h.nle_refl, h.cut_all, h.cut_nil, h.map_cons, h.map_nil, h.len_nil, he_e_int32, he_e_uint8, if_true]; done) | (simp only [h.nadd0, h.nle_refl, h.cut_all, h.cut_nil, h.map_cons, h.map_nil, h.len_nil, he_e_int32, he_e_uint8, if_true]; first | rfl | (cbv; done) | (cbv; simp only [h.map_cons, h.map_nil, h.len_nil, he_e_int32, he_e_uint8]; done))
def b_quote_short_0 (P : Prims)  (l_1 : Int → Int → Bool → Option (Int × Bool)) (v0 : Int) : Option (Int × Bool) :=
  match P.cmp .eql v0 34 with
  | false =>
    match P.cmp .eql v0 92 with
    | false =>
      l_1 v0 v0 (P.cmp .eql v0 47)
    | true =>
      l_1 v0 v0 true
  | true =>
    l_1 v0 v0 true
theorem o_quote_short_0   (stk : Stk) (m : Nat) (l_1 : Int → Int → Bool → Option (Int × Bool)) (v0 : Int) (h_l_1 : ∀ {v0 : Int} {v4 : Int} {v5 : Bool} {out}, l_1 v0 v4 v5 = some out → xat 57 true 1 [.blk 0, .sub ⟨2, [], []⟩] ⟨[(0, (.d (.int .u8 v0))), (4, (.d (.int .u8 v4))), (5, (.d (.bool v5)))], ⟨m, []⟩ :: stk⟩ = (fun (r0, r1) => (some (.ret (.d (.tup [(.int .i32 r0), (.bool r1)])), stk) : Rk')) out) {out} (hp : b_quote_short_0 ⟨xar, xcmp, xwrap, xseq, xslt, xenc, pquo, pshf, pslen, psidx, pssub, pscat, psit, pslist, pofBytes, @plen, @pidx, @psub, @papp, @pset, @pmake, @ploop⟩  l_1 v0 = some out) : xat 57 true 0 [] ⟨[(0, (.d (.int .u8 v0)))], ⟨m, []⟩ :: stk⟩ = (fun (r0, r1) => (some (.ret (.d (.tup [(.int .i32 r0), (.bool r1)])), stk) : Rk')) out := by
  simp only [b_quote_short_0] at hp
  rw [h.at_, hT]
  cbv
  cases c1 : xcmp .eql v0 34 with
  | false =>
    simp only [c1] at hp ⊢
    cbv
    cases c2 : xcmp .eql v0 92 with
    | false =>
      simp only [c2] at hp ⊢
      cbv
      first | exact h_l_1 hp | (have q := h_l_1 hp; simp only [h.map_cons, h.map_nil, h.len_nil, he_e_int32, he_e_uint8] at q; first | exact q | (cbv; exact q))
    | true =>
      simp only [c2] at hp ⊢
      cbv
      first | exact h_l_1 hp | (have q := h_l_1 hp; simp only [h.map_cons, h.map_nil, h.len_nil, he_e_int32, he_e_uint8] at q; first | exact q | (cbv; exact q))
  | true =>
    simp only [c1] at hp ⊢
    cbv
    first | exact h_l_1 hp | (have q := h_l_1 hp; simp only [h.map_cons, h.map_nil, h.len_nil, he_e_int32, he_e_uint8] at q; first | exact q | (cbv; exact q))
def b_quote_short_1 (P : Prims)   (v0 : Int) (v4 : Int) (v5 : Bool) : Option (Int × Bool) :=
  match v5 with
  | false =>
    match P.cmp .eql v4 98 with
    | false =>
      match P.cmp .eql v4 102 with
      | false =>
        match P.cmp .eql v4 110 with
        | false =>
          match P.cmp .eql v4 114 with
          | false =>
            match P.cmp .eql v4 116 with
            | false =>
              some (0, false)
            | true =>
              some (9, true)
          | true =>
            some (13, true)
        | true =>
          some (10, true)
      | true =>
        some (12, true)
    | true =>
      some (8, true)
  | true =>
    some (P.wrap .i32 v0, true)
theorem o_quote_short_1   (stk : Stk) (m : Nat)  (v0 : Int) (v4 : Int) (v5 : Bool)  {out} (hp : b_quote_short_1 ⟨xar, xcmp, xwrap, xseq, xslt, xenc, pquo, pshf, pslen, psidx, pssub, pscat, psit, pslist, pofBytes, @plen, @pidx, @psub, @papp, @pset, @pmake, @ploop⟩   v0 v4 v5 = some out) : xat 57 true 1 [.blk 0, .sub ⟨2, [], []⟩] ⟨[(0, (.d (.int .u8 v0))), (4, (.d (.int .u8 v4))), (5, (.d (.bool v5)))], ⟨m, []⟩ :: stk⟩ = (fun (r0, r1) => (some (.ret (.d (.tup [(.int .i32 r0), (.bool r1)])), stk) : Rk')) out := by
  simp only [b_quote_short_1] at hp
  rw [h.at_, hT]
  cbv
  cases v5 with
  | false =>
    simp only at hp
    cbv
    cases c4 : xcmp .eql v4 98 with
    | false =>
      simp only [c4] at hp ⊢
      cbv
      cases c5 : xcmp .eql v4 102 with
      | false =>
        simp only [c5] at hp ⊢
        cbv
        cases c6 : xcmp .eql v4 110 with
        | false =>
          simp only [c6] at hp ⊢
          cbv
          cases c7 : xcmp .eql v4 114 with
          | false =>
            simp only [c7] at hp ⊢
            cbv
            cases c8 : xcmp .eql v4 116 with
            | false =>
              simp only [c8] at hp ⊢
              cbv
              rw [h.at_, hT]
              cbv
              cases hp
              first | rfl | (cbv; done) | (simp only [h.nadd0, h.nle_refl, h.cut_all, h.cut_nil, h.map_cons, h.map_nil, h.len_nil, he_e_int32, he_e_uint8, if_true]; done) | (simp only [h.nadd0, h.nle_refl, h.cut_all, h.cut_nil, h.map_cons, h.map_nil, h.len_nil, he_e_int32, he_e_uint8, if_true]; first | rfl | (cbv; done) | (cbv; simp only [h.map_cons, h.map_nil, h.len_nil, he_e_int32, he_e_uint8]; done))
            | true =>
              simp only [c8] at hp ⊢
              cbv
              cases hp
              first | rfl | (cbv; done) | (simp only [h.nadd0, h.nle_refl, h.cut_all, h.cut_nil, h.map_cons, h.map_nil, h.len_nil, he_e_int32, he_e_uint8, if_true]; done) | (simp only [h.nadd0, h.nle_refl, h.cut_all, h.cut_nil, h.map_cons, h.map_nil, h.len_nil, he_e_int32, he_e_uint8, if_true]; first | rfl | (cbv; done) | (cbv; simp only [h.map_cons, h.map_nil, h.len_nil, he_e_int32, he_e_uint8]; done))
          | true =>
            simp only [c7] at hp ⊢
            cbv
            cases hp
            first | rfl | (cbv; done) | (simp only [h.nadd0, h.nle_refl, h.cut_all, h.cut_nil, h.map_cons, h.map_nil, h.len_nil, he_e_int32, he_e_uint8, if_true]; done) | (simp only [h.nadd0, h.nle_refl, h.cut_all, h.cut_nil, h.map_cons, h.map_nil, h.len_nil, he_e_int32, he_e_uint8, if_true]; first | rfl | (cbv; done) | (cbv; simp only [h.map_cons, h.map_nil, h.len_nil, he_e_int32, he_e_uint8]; done))
        | true =>
          simp only [c6] at hp ⊢
          cbv
          cases hp
          first | rfl | (cbv; done) | (simp only [h.nadd0, h.nle_refl, h.cut_all, h.cut_nil, h.map_cons, h.map_nil, h.len_nil, he_e_int32, he_e_uint8, if_true]; done) | (simp only [h.nadd0, h.nle_refl, h.cut_all, h.cut_nil, h.map_cons, h.map_nil, h.len_nil, he_e_int32, he_e_uint8, if_true]; first | rfl | (cbv; done) | (cbv; simp only [h.map_cons, h.map_nil, h.len_nil, he_e_int32, he_e_uint8]; done))
      | true =>
        simp only [c5] at hp ⊢
        cbv
        cases hp
        first | rfl | (cbv; done) | (simp only [h.nadd0, h.nle_refl, h.cut_all, h.cut_nil, h.map_cons, h.map_nil, h.len_nil, he_e_int32, he_e_uint8, if_true]; done) | (simp only [h.nadd0, h.nle_refl, h.cut_all, h.cut_nil, h.map_cons, h.map_nil, h.len_nil, he_e_int32, he_e_uint8, if_true]; first | rfl | (cbv; done) | (cbv; simp only [h.map_cons, h.map_nil, h.len_nil, he_e_int32, he_e_uint8]; done))
    | true =>
      simp only [c4] at hp ⊢
      cbv
      cases hp
      first | rfl | (cbv; done) | (simp only [h.nadd0, h.nle_refl, h.cut_all, h.cut_nil, h.map_cons, h.map_nil, h.len_nil, he_e_int32, he_e_uint8, if_true]; done) | (simp only [h.nadd0, h.nle_refl, h.cut_all, h.cut_nil, h.map_cons, h.map_nil, h.len_nil, he_e_int32, he_e_uint8, if_true]; first | rfl | (cbv; done) | (cbv; simp only [h.map_cons, h.map_nil, h.len_nil, he_e_int32, he_e_uint8]; done))
  | true =>
    simp only at hp
    cbv
    cases hp
    first | rfl | (cbv; done) | (simp only [h.nadd0, h.nle_refl, h.cut_all, h.cut_nil, h.map_cons, h.map_nil, h.len_nil, he_e_int32, he_e_uint8, if_true]; done) | (simp only [h.nadd0, h.nle_refl, h.cut_all, h.cut_nil, h.map_cons, h.map_nil, h.len_nil, he_e_int32, he_e_uint8, if_true]; first | rfl | (cbv; done) | (cbv; simp only [h.map_cons, h.map_nil, h.len_nil, he_e_int32, he_e_uint8]; done))
def b_quote_digit_0 (P : Prims)  (l_1 : Option (Int)) (v0 : Int) : Option (Int) :=
  match P.cmp .geq v0 48 with
  | false =>
    match P.cmp .geq v0 97 with
    | false =>
      match P.cmp .geq v0 65 with
      | false =>
        l_1 
      | true =>
        match P.cmp .leq v0 70 with
        | false =>
          l_1 
        | true =>
          some (P.ar .add .i32 (P.wrap .i32 (P.ar .sub .u8 v0 65)) 10)
    | true =>
      match P.cmp .leq v0 102 with
      | false =>
        match P.cmp .geq v0 65 with
        | false =>
          l_1 
        | true =>
          match P.cmp .leq v0 70 with
          | false =>
            l_1 
          | true =>
            some (P.ar .add .i32 (P.wrap .i32 (P.ar .sub .u8 v0 65)) 10)
      | true =>
        some (P.ar .add .i32 (P.wrap .i32 (P.ar .sub .u8 v0 97)) 10)
  | true =>
    match P.cmp .leq v0 57 with
    | false =>
      match P.cmp .geq v0 97 with
      | false =>
        match P.cmp .geq v0 65 with
        | false =>
          l_1 
        | true =>
          match P.cmp .leq v0 70 with
          | false =>
            l_1 
          | true =>
            some (P.ar .add .i32 (P.wrap .i32 (P.ar .sub .u8 v0 65)) 10)
      | true =>
        match P.cmp .leq v0 102 with
        | false =>
          match P.cmp .geq v0 65 with
          | false =>
            l_1 
          | true =>
            match P.cmp .leq v0 70 with
            | false =>
              l_1 
            | true =>
              some (P.ar .add .i32 (P.wrap .i32 (P.ar .sub .u8 v0 65)) 10)
        | true =>
          some (P.ar .add .i32 (P.wrap .i32 (P.ar .sub .u8 v0 97)) 10)
    | true =>
      some (P.wrap .i32 (P.ar .sub .u8 v0 48))
theorem o_quote_digit_0   (stk : Stk) (m : Nat) (l_1 : Option (Int)) (v0 : Int) (h_l_1 : ∀  {out}, l_1  = some out → xat 63 true 1 [] ⟨[], ⟨m, []⟩ :: stk⟩ = (fun r0 => (some (.ret (.d (.int .i32 r0)), stk) : Rk')) out) {out} (hp : b_quote_digit_0 ⟨xar, xcmp, xwrap, xseq, xslt, xenc, pquo, pshf, pslen, psidx, pssub, pscat, psit, pslist, pofBytes, @plen, @pidx, @psub, @papp, @pset, @pmake, @ploop⟩  l_1 v0 = some out) : xat 63 true 0 [] ⟨[(0, (.d (.int .u8 v0)))], ⟨m, []⟩ :: stk⟩ = (fun r0 => (some (.ret (.d (.int .i32 r0)), stk) : Rk')) out := by
  simp only [b_quote_digit_0] at hp
  rw [h.at_, hT]
  cbv
  cases c1 : xcmp .geq v0 48 with
  | false =>
    simp only [c1] at hp ⊢
    cbv
    cases c9 : xcmp .geq v0 97 with
    | false =>
      simp only [c9] at hp ⊢
      cbv
      cases c13 : xcmp .geq v0 65 with
      | false =>
        simp only [c13] at hp ⊢
        cbv
        first | exact h_l_1 hp | (have q := h_l_1 hp; simp only [h.map_cons, h.map_nil, h.len_nil, he_e_int32, he_e_uint8] at q; first | exact q | (cbv; exact q))
      | true =>
        simp only [c13] at hp ⊢
        cbv
        cases c14 : xcmp .leq v0 70 with
        | false =>
          simp only [c14] at hp ⊢
          cbv
          first | exact h_l_1 hp | (have q := h_l_1 hp; simp only [h.map_cons, h.map_nil, h.len_nil, he_e_int32, he_e_uint8] at q; first | exact q | (cbv; exact q))
        | true =>
          simp only [c14] at hp ⊢
          cbv
          cases hp
          first | rfl | (cbv; done) | (simp only [h.nadd0, h.nle_refl, h.cut_all, h.cut_nil, h.map_cons, h.map_nil, h.len_nil, he_e_int32, he_e_uint8, if_true]; done) | (simp only [h.nadd0, h.nle_refl, h.cut_all, h.cut_nil, h.map_cons, h.map_nil, h.len_nil, he_e_int32, he_e_uint8, if_true]; first | rfl | (cbv; done) | (cbv; simp only [h.map_cons, h.map_nil, h.len_nil, he_e_int32, he_e_uint8]; done))
    | true =>
      simp only [c9] at hp ⊢
      cbv
      cases c10 : xcmp .leq v0 102 with
      | false =>
        simp only [c10] at hp ⊢
        cbv
        cases c11 : xcmp .geq v0 65 with
        | false =>
          simp only [c11] at hp ⊢
          cbv
          first | exact h_l_1 hp | (have q := h_l_1 hp; simp only [h.map_cons, h.map_nil, h.len_nil, he_e_int32, he_e_uint8] at q; first | exact q | (cbv; exact q))
        | true =>
          simp only [c11] at hp ⊢
          cbv
          cases c12 : xcmp .leq v0 70 with
          | false =>
            simp only [c12] at hp ⊢
            cbv
            first | exact h_l_1 hp | (have q := h_l_1 hp; simp only [h.map_cons, h.map_nil, h.len_nil, he_e_int32, he_e_uint8] at q; first | exact q | (cbv; exact q))
          | true =>
            simp only [c12] at hp ⊢
            cbv
            cases hp
            first | rfl | (cbv; done) | (simp only [h.nadd0, h.nle_refl, h.cut_all, h.cut_nil, h.map_cons, h.map_nil, h.len_nil, he_e_int32, he_e_uint8, if_true]; done) | (simp only [h.nadd0, h.nle_refl, h.cut_all, h.cut_nil, h.map_cons, h.map_nil, h.len_nil, he_e_int32, he_e_uint8, if_true]; first | rfl | (cbv; done) | (cbv; simp only [h.map_cons, h.map_nil, h.len_nil, he_e_int32, he_e_uint8]; done))
      | true =>
        simp only [c10] at hp ⊢
        cbv
        cases hp
        first | rfl | (cbv; done) | (simp only [h.nadd0, h.nle_refl, h.cut_all, h.cut_nil, h.map_cons, h.map_nil, h.len_nil, he_e_int32, he_e_uint8, if_true]; done) | (simp only [h.nadd0, h.nle_refl, h.cut_all, h.cut_nil, h.map_cons, h.map_nil, h.len_nil, he_e_int32, he_e_uint8, if_true]; first | rfl | (cbv; done) | (cbv; simp only [h.map_cons, h.map_nil, h.len_nil, he_e_int32, he_e_uint8]; done))
  | true =>
    simp only [c1] at hp ⊢
    cbv
    cases c2 : xcmp .leq v0 57 with
    | false =>
      simp only [c2] at hp ⊢
      cbv
      cases c3 : xcmp .geq v0 97 with
      | false =>
        simp only [c3] at hp ⊢
        cbv
        cases c7 : xcmp .geq v0 65 with
        | false =>
          simp only [c7] at hp ⊢
          cbv
          first | exact h_l_1 hp | (have q := h_l_1 hp; simp only [h.map_cons, h.map_nil, h.len_nil, he_e_int32, he_e_uint8] at q; first | exact q | (cbv; exact q))
        | true =>
          simp only [c7] at hp ⊢
          cbv
          cases c8 : xcmp .leq v0 70 with
          | false =>
            simp only [c8] at hp ⊢
            cbv
            first | exact h_l_1 hp | (have q := h_l_1 hp; simp only [h.map_cons, h.map_nil, h.len_nil, he_e_int32, he_e_uint8] at q; first | exact q | (cbv; exact q))
          | true =>
            simp only [c8] at hp ⊢
            cbv
            cases hp
            first | rfl | (cbv; done) | (simp only [h.nadd0, h.nle_refl, h.cut_all, h.cut_nil, h.map_cons, h.map_nil, h.len_nil, he_e_int32, he_e_uint8, if_true]; done) | (simp only [h.nadd0, h.nle_refl, h.cut_all, h.cut_nil, h.map_cons, h.map_nil, h.len_nil, he_e_int32, he_e_uint8, if_true]; first | rfl | (cbv; done) | (cbv; simp only [h.map_cons, h.map_nil, h.len_nil, he_e_int32, he_e_uint8]; done))
      | true =>
        simp only [c3] at hp ⊢
        cbv
        cases c4 : xcmp .leq v0 102 with
        | false =>
          simp only [c4] at hp ⊢
          cbv
          cases c5 : xcmp .geq v0 65 with
          | false =>
            simp only [c5] at hp ⊢
            cbv
            first | exact h_l_1 hp | (have q := h_l_1 hp; simp only [h.map_cons, h.map_nil, h.len_nil, he_e_int32, he_e_uint8] at q; first | exact q | (cbv; exact q))
          | true =>
            simp only [c5] at hp ⊢
            cbv
            cases c6 : xcmp .leq v0 70 with
            | false =>
              simp only [c6] at hp ⊢
              cbv
              first | exact h_l_1 hp | (have q := h_l_1 hp; simp only [h.map_cons, h.map_nil, h.len_nil, he_e_int32, he_e_uint8] at q; first | exact q | (cbv; exact q))
            | true =>
              simp only [c6] at hp ⊢
              cbv
              cases hp
              first | rfl | (cbv; done) | (simp only [h.nadd0, h.nle_refl, h.cut_all, h.cut_nil, h.map_cons, h.map_nil, h.len_nil, he_e_int32, he_e_uint8, if_true]; done) | (simp only [h.nadd0, h.nle_refl, h.cut_all, h.cut_nil, h.map_cons, h.map_nil, h.len_nil, he_e_int32, he_e_uint8, if_true]; first | rfl | (cbv; done) | (cbv; simp only [h.map_cons, h.map_nil, h.len_nil, he_e_int32, he_e_uint8]; done))
        | true =>
          simp only [c4] at hp ⊢
          cbv
          cases hp
          first | rfl | (cbv; done) | (simp only [h.nadd0, h.nle_refl, h.cut_all, h.cut_nil, h.map_cons, h.map_nil, h.len_nil, he_e_int32, he_e_uint8, if_true]; done) | (simp only [h.nadd0, h.nle_refl, h.cut_all, h.cut_nil, h.map_cons, h.map_nil, h.len_nil, he_e_int32, he_e_uint8, if_true]; first | rfl | (cbv; done) | (cbv; simp only [h.map_cons, h.map_nil, h.len_nil, he_e_int32, he_e_uint8]; done))
    | true =>
      simp only [c2] at hp ⊢
      cbv
      cases hp
      first | rfl | (cbv; done) | (simp only [h.nadd0, h.nle_refl, h.cut_all, h.cut_nil, h.map_cons, h.map_nil, h.len_nil, he_e_int32, he_e_uint8, if_true]; done) | (simp only [h.nadd0, h.nle_refl, h.cut_all, h.cut_nil, h.map_cons, h.map_nil, h.len_nil, he_e_int32, he_e_uint8, if_true]; first | rfl | (cbv; done) | (cbv; simp only [h.map_cons, h.map_nil, h.len_nil, he_e_int32, he_e_uint8]; done))
end
end Go.Abs.A
