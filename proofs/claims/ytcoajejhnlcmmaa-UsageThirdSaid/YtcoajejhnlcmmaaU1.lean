import Derived.Test.YtcoajejhnlcmmaaAbs2
import Derived.Test.YtcoajejhnlcmmaaIrB
import Derived.Test.YtcoajejhnlcmmaaAbsFacts
set_option linter.unusedSimpArgs false
namespace Go.Abs.B
set_option maxRecDepth 100000
variable {xR : FuncId → Option RF} {xG : Nat → Option (List D)} {xcall : CallF} {xiter : (St → Rs) → St → Rs} {xlen : List D → Nat} {xnth : List D → Nat → Option D} {xcut : List D → Nat → Nat → List D} {xapp : List D → List D → List D} {xset : List D → Nat → D → List D} {xrep : Nat → D → List D} {xallsz : Nat → List D → Bool} {xslen : Str → Nat} {xsnth : Str → Nat → Option UInt8} {xscut : Str → Nat → Nat → Str} {xsapp : Str → Str → Str} {xseq : Str → Str → Bool} {xslt : Str → Str → Bool} {xofStr : Str → List D} {xtoStr : List D → Option Str} {xdec : Str → Nat → Nat × Nat} {xenc : Int → Str} {xar : BinOp → IntKind → Int → Int → Int} {xcmp : BinOp → Int → Int → Bool} {xwrap : IntKind → Int → Int} {xisz : Int → Bool} {xneg : Int → Bool} {xnat : Int → Nat} {xofN : Nat → Int} {xbyte : UInt8 → Int} {xnle : Nat → Nat → Bool} {xnadd : Nat → Nat → Nat} {xnsub : Nat → Nat → Nat} {xfits : Nat → Nat → Bool} {xfind : D → List (D × Nat × V) → Option (Option V)} {xputE : D → Nat → V → List (D × Nat × V) → Option (List (D × Nat × V))} {xfindK : D → List D → List D → Option (Option D)} {xelen : List (D × Nat × V) → Nat} {xfrzM : List (D × Nat × V) → Option (List D × List D)}
  (h : Laws xR xG xcall xiter xlen xnth xcut xapp xset xrep xallsz xslen xsnth xscut xsapp xseq xslt xofStr xtoStr xdec xenc xar xcmp xwrap xisz xneg xnat xofN xbyte xnle xnadd xnsub xfits xfind xputE xfindK xelen xfrzM)
  (hR : xR = table)
include h hR
set_option linter.unusedSectionVars false
open Facts
/-- Does a text end with a sign? -/
def ends (c : UInt8) (s : Str) : Bool := s.getLast? == some c
theorem HasSuffix_eq (s : Str) (c : UInt8) (n : Nat) (os : List (List Nat × O)) (stk : Stk) (hs : small s.length) :
    xcall F.internal_stringslite_HasSuffix [.d (.str s), .d (.str [c])] (⟨n, os⟩ :: stk) = some (.ret (.d (.bool (ends c s))), ⟨n + 1, []⟩ :: ⟨n, os⟩ :: stk) := by
  unfold small at hs
  rw [h.call, hR]
  generalize hq : ends c s = q
  cbv
  cases hc : xcmp .geq (xofN (xslen s)) (xofN (xslen [c])) with
  | false =>
    cbv
    rw [geq h, ofN h, ofN h, slen h, slen h] at hc
    have : s = [] := by
      cases s with
      | nil => rfl
      | cons a r => simp at hc; omega
    subst this
    subst hq
    rfl
  | true =>
    cbv
    rw [geq h, ofN h, ofN h, slen h, slen h] at hc
    have hc' : 1 ≤ s.length := by simp at hc; omega
    have e1 : xar BinOp.sub IntKind.i64 (xofN (xslen s)) (xofN (xslen [c])) = (s.length : Int) - 1 := by
      rw [ofN h, ofN h, slen h, slen h, sub h] <;> simp <;> omega
    have e2 : xneg ((s.length : Int) - 1) = false := by rw [neg h]; simp; omega
    have e3 : xnat ((s.length : Int) - 1) = s.length - 1 := by rw [nat h]; omega
    have e4 : xnle (s.length - 1) (xslen s) = true := by rw [nle h, slen h]; simp
    have e5 : xnle (xslen s) (xslen s) = true := by rw [nle h]; simp
    have e6 : xseq (xscut s (s.length - 1) (xslen s)) [c] = q := by
      rw [seq h, scut h, slen h, ← hq]
      unfold ends
      rw [List.take_length]
      obtain ⟨l, x, rfl⟩ : ∃ l x, s = l ++ [x] := ⟨s.dropLast, s.getLast (by rintro rfl; simp at hc'), (List.dropLast_concat_getLast _).symm⟩
      simp
    simp only [e1, e2]
    cbv
    simp only [e3, e4, e5, if_true]
    cbv
    simp only [e6]

theorem sHasSuffix_eq (s : Str) (c : UInt8) (n : Nat) (os : List (List Nat × O)) (stk : Stk) (hs : small s.length) :
    xcall F.strings_HasSuffix [.d (.str s), .d (.str [c])] (⟨n, os⟩ :: stk) = some (.ret (.d (.bool (ends c s))), ⟨n + 1, []⟩ :: ⟨n, os⟩ :: stk) := by
  have e := HasSuffix_eq h hR s c (n + 1) [] (⟨n, os⟩ :: stk) hs
  rw [h.call, hR]
  generalize ends c s = q at *
  cbv at e ⊢
  rw [e]
  cbv
theorem strict_eq (a s : Str) (n : Nat) (os : List (List Nat × O)) (stk : Stk) (hs : small s.length) :
    xcall F.usage_strict [.d (.agg [.str a, .str s])] (⟨n, os⟩ :: stk) = some (.ret (.d (.bool (ends 33 s))), ⟨n + 1, []⟩ :: ⟨n, os⟩ :: stk) := by
  have e := sHasSuffix_eq h hR s 33 (n + 1) [] (⟨n, os⟩ :: stk) hs
  rw [h.call, hR]
  generalize ends 33 s = q at *
  cbv at e ⊢
  rw [e]
  cbv
theorem list_eq (a s : Str) (n : Nat) (os : List (List Nat × O)) (stk : Stk) (hs : small s.length) :
    xcall F.usage_list [.d (.agg [.str a, .str s])] (⟨n, os⟩ :: stk) = some (.ret (.d (.bool (ends 91 s))), ⟨n + 1, []⟩ :: ⟨n, os⟩ :: stk) := by
  have e := sHasSuffix_eq h hR s 91 (n + 1) [] (⟨n, os⟩ :: stk) hs
  rw [h.call, hR]
  generalize ends 91 s = q at *
  cbv at e ⊢
  rw [e]
  cbv
theorem inner_eq (a s : Str) (n : Nat) (os : List (List Nat × O)) (stk : Stk) (hs : small s.length) (h1 : 1 ≤ s.length) :
    xcall F.usage_inner [.d (.agg [.str a, .str s])] (⟨n, os⟩ :: stk) = some (.ret (.d (.agg [.str a, .str s.dropLast])), ⟨n + 1, [([2], .cells [.d (.str a), .d (.str s.dropLast)])]⟩ :: ⟨n, os⟩ :: stk) := by
  unfold small at hs
  rw [h.call, hR]
  generalize hq : s.dropLast = q
  cbv
  have e1 : xar BinOp.sub IntKind.i64 (xofN (xslen s)) 1 = (s.length : Int) - 1 := by
    rw [ofN h, slen h, sub h] <;> omega
  have e2 : xneg ((s.length : Int) - 1) = false := by rw [neg h]; simp; omega
  have e3 : xnat ((s.length : Int) - 1) = s.length - 1 := by rw [nat h]; omega
  have e4 : xnle 0 (s.length - 1) = true := by rw [nle h]; simp
  have e5 : xnle (s.length - 1) (xslen s) = true := by rw [nle h, slen h]; simp
  have e6 : xscut s 0 (s.length - 1) = q := by rw [scut h, ← hq, List.dropLast_eq_take]; rfl
  simp only [e1, e2]
  cbv
  simp only [e3, e4, e5, if_true]
  cbv
  simp only [e6]
theorem same_self (s : Stk) : sameStk s s = true := by unfold sameStk; simp
/-- Is the one type within the other? -/
def within (n m : Str) (v l : Str) : Bool :=
  if ends 33 l then (if ends 33 v then within n m v.dropLast l.dropLast else false)
  else if ends 33 v then within n m v.dropLast l
  else if ends 91 l then (if ends 91 v then within n m v.dropLast l.dropLast else false)
  else !ends 91 v && n == m
termination_by v.length
decreasing_by all_goals (cases v <;> simp_all [ends])
omit h hR in
theorem ends_pos {c : UInt8} {s : Str} (e : ends c s = true) : 1 ≤ s.length := by
  cases s with
  | nil => simp [ends] at e
  | cons a r => simp
omit h hR in
theorem small_drop {s : Str} (e : small s.length) : small s.dropLast.length := by unfold small at *; simp; omega
theorem Within_eq (a b : Str) (v l : Str) (n : Nat) (os : List (List Nat × O)) (stk : Stk) (hv : small v.length) (hl : small l.length) :
    xcall F.usage_Within [.d (.agg [.str a, .str v]), .d (.agg [.str b, .str l])] (⟨n, os⟩ :: stk) = some (.ret (.d (.bool (within a b v l))), ⟨n + 1, []⟩ :: ⟨n, os⟩ :: stk) := by
  rw [within]
  have s1 := strict_eq h hR b l (n + 1) [] (⟨n, os⟩ :: stk) hl
  have s2 := strict_eq h hR a v (n + 1) [] (⟨n, os⟩ :: stk) hv
  have l1 := list_eq h hR b l (n + 1) [] (⟨n, os⟩ :: stk) hl
  have l2 := list_eq h hR a v (n + 1) [] (⟨n, os⟩ :: stk) hv
  have ih : ∀ l', 1 ≤ v.length → small l'.length → xcall F.usage_Within [.d (.agg [.str a, .str v.dropLast]), .d (.agg [.str b, .str l'])] (⟨n + 1, []⟩ :: ⟨n, os⟩ :: stk) = some (.ret (.d (.bool (within a b v.dropLast l'))), ⟨n + 1 + 1, []⟩ :: ⟨n + 1, []⟩ :: ⟨n, os⟩ :: stk) :=
    fun l' h1 h2 => Within_eq a b v.dropLast l' (n + 1) [] (⟨n, os⟩ :: stk) (small_drop hv) h2
  rw [h.call, hR]
  cases c1 : ends 33 l with
  | true =>
    rw [c1] at s1
    cases c2 : ends 33 v with
    | true =>
      rw [c2] at s2
      have i1 := inner_eq h hR a v (n + 1) [] (⟨n, os⟩ :: stk) hv (ends_pos c2)
      have i2 := inner_eq h hR b l (n + 1) [] (⟨n, os⟩ :: stk) hl (ends_pos c1)
      have r := ih l.dropLast (ends_pos c2) (small_drop hl)
      simp only [if_true]
      generalize within a b v.dropLast l.dropLast = q at *
      generalize v.dropLast = v' at *
      generalize l.dropLast = l' at *
      clear ih
      cbv at s1 s2 i1 i2 r ⊢
      rw [s1]
      cbv
      rw [s2]
      cbv
      rw [i1]
      cbv
      rw [i2]
      cbv
      rw [r]
      cbv
    | false =>
      rw [c2] at s2
      simp only [if_true, Bool.false_eq_true, if_false]
      clear ih
      cbv at s1 s2 ⊢
      rw [s1]
      cbv
      rw [s2]
      cbv
  | false =>
    rw [c1] at s1
    cases c2 : ends 33 v with
    | true =>
      rw [c2] at s2
      have i1 := inner_eq h hR a v (n + 1) [] (⟨n, os⟩ :: stk) hv (ends_pos c2)
      have r := ih l (ends_pos c2) hl
      simp only [if_true, Bool.false_eq_true, if_false]
      generalize within a b v.dropLast l = q at *
      generalize v.dropLast = v' at *
      clear ih
      cbv at s1 s2 i1 r ⊢
      rw [s1]
      cbv
      rw [s2]
      cbv
      rw [i1]
      cbv
      rw [r]
      cbv
    | false =>
      rw [c2] at s2
      cases c3 : ends 91 l with
      | true =>
        rw [c3] at l1
        cases c4 : ends 91 v with
        | true =>
          rw [c4] at l2
          have i1 := inner_eq h hR a v (n + 1) [] (⟨n, os⟩ :: stk) hv (ends_pos c4)
          have i2 := inner_eq h hR b l (n + 1) [] (⟨n, os⟩ :: stk) hl (ends_pos c3)
          have r := ih l.dropLast (ends_pos c4) (small_drop hl)
          simp only [if_true, Bool.false_eq_true, if_false]
          generalize within a b v.dropLast l.dropLast = q at *
          generalize v.dropLast = v' at *
          generalize l.dropLast = l' at *
          clear ih
          cbv at s1 s2 l1 l2 i1 i2 r ⊢
          rw [s1]
          cbv
          rw [s2]
          cbv
          rw [l1]
          cbv
          rw [l2]
          cbv
          rw [i1]
          cbv
          rw [i2]
          cbv
          rw [r]
          cbv
        | false =>
          rw [c4] at l2
          simp only [if_true, Bool.false_eq_true, if_false]
          clear ih
          cbv at s1 s2 l1 l2 ⊢
          rw [s1]
          cbv
          rw [s2]
          cbv
          rw [l1]
          cbv
          rw [l2]
          cbv
      | false =>
        rw [c3] at l1
        simp only [Bool.false_eq_true, if_false]
        clear ih
        have e : xseq a b = (a == b) := seq h a b
        generalize (a == b) = q at *
        cases c4 : ends 91 v with
        | true =>
          rw [c4] at l2
          cbv at s1 s2 l1 l2 ⊢
          rw [s1]
          cbv
          rw [s2]
          cbv
          rw [l1]
          cbv
          rw [l2]
          cbv
        | false =>
          rw [c4] at l2
          cbv at s1 s2 l1 l2 ⊢
          rw [s1]
          cbv
          rw [s2]
          cbv
          rw [l1]
          cbv
          rw [l2]
          cbv
          rw [e]
termination_by v.length
decreasing_by simp; omega

theorem Letter_eq (c : UInt8) (n : Nat) (os : List (List Nat × O)) (stk : Stk) : ∃ r, xcall F.cascaderef01_Letter [.d (.int .u8 (xbyte c))] (⟨n, os⟩ :: stk) = some (.ret (.d (.bool r)), ⟨n + 1, []⟩ :: ⟨n, os⟩ :: stk) := by
  obtain ⟨y, e⟩ : ∃ y, xcall F.cascaderef01_Letter [.d (.int .u8 (xbyte c))] (⟨n, os⟩ :: stk) = y := ⟨_, rfl⟩
  rw [e]
  rw [h.call, hR] at e
  generalize xbyte c = k at e
  cbv at e
  cases c1 : xcmp .geq k 97 <;> simp only [c1] at e <;> cbv at e
  · cases c2 : xcmp .geq k 65 <;> simp only [c2] at e <;> cbv at e
    · subst e; exact ⟨_, rfl⟩
    · cases c3 : xcmp .leq k 90 <;> simp only [c3] at e <;> cbv at e <;> subst e <;> exact ⟨_, rfl⟩
  · cases c2 : xcmp .leq k 122 <;> simp only [c2] at e <;> cbv at e
    · cases c3 : xcmp .geq k 65 <;> simp only [c3] at e <;> cbv at e
      · subst e; exact ⟨_, rfl⟩
      · cases c4 : xcmp .leq k 90 <;> simp only [c4] at e <;> cbv at e <;> subst e <;> exact ⟨_, rfl⟩
    · subst e; exact ⟨_, rfl⟩
theorem Digit_eq (c : UInt8) (n : Nat) (os : List (List Nat × O)) (stk : Stk) : ∃ r, xcall F.cascaderef01_Digit [.d (.int .u8 (xbyte c))] (⟨n, os⟩ :: stk) = some (.ret (.d (.bool r)), ⟨n + 1, []⟩ :: ⟨n, os⟩ :: stk) := by
  obtain ⟨y, e⟩ : ∃ y, xcall F.cascaderef01_Digit [.d (.int .u8 (xbyte c))] (⟨n, os⟩ :: stk) = y := ⟨_, rfl⟩
  rw [e]
  rw [h.call, hR] at e
  generalize xbyte c = k at e
  cbv at e
  cases c1 : xcmp .geq k 48 <;> simp only [c1] at e <;> cbv at e <;> subst e <;> exact ⟨_, rfl⟩
theorem Name_loop (s : Str) (hs : small s.length) (n : Nat) (os : List (List Nat × O)) (stk : Stk) : ∀ (k i : Nat), i + k = s.length → ∀ fr : Fr, fr.get 0 = .d (.str s) → fr.get 3 = .d (.int .i64 (xofN i)) →
    ∃ ex fr', xiter (evC (⟨xR, xG, xcall, xiter, xlen, xnth, xcut, xapp, xset, xrep, xallsz, xslen, xsnth, xscut, xsapp, xseq, xslt, xofStr, xtoStr, xdec, xenc, xar, xcmp, xwrap, xisz, xneg, xnat, xofN, xbyte, xnle, xnadd, xnsub, xfits, xfind, xputE, xfindK, xelen, xfrzM⟩ : Sys) r_cascaderef01_Name.body.r.l.r.l.l) ⟨fr, ⟨n + 1, []⟩ :: ⟨n, os⟩ :: stk⟩ = some (ex, ⟨fr', ⟨n + 1, []⟩ :: ⟨n, os⟩ :: stk⟩) ∧ ((ex = .exit 0 ∧ fr'.get 0 = .d (.str s)) ∨ (ex = .ret ∧ fr'.get 2 = .d (.bool false))) := by
  generalize hp : evC (⟨xR, xG, xcall, xiter, xlen, xnth, xcut, xapp, xset, xrep, xallsz, xslen, xsnth, xscut, xsapp, xseq, xslt, xofStr, xtoStr, xdec, xenc, xar, xcmp, xwrap, xisz, xneg, xnat, xofN, xbyte, xnle, xnadd, xnsub, xfits, xfind, xputE, xfindK, xelen, xfrzM⟩ : Sys) r_cascaderef01_Name.body.r.l.r.l.l = p
  have step : ∀ (i : Nat) (fr : Fr), fr.get 0 = .d (.str s) → fr.get 3 = .d (.int .i64 (xofN i)) →
      p ⟨fr, ⟨n + 1, []⟩ :: ⟨n, os⟩ :: stk⟩ = evC (⟨xR, xG, xcall, xiter, xlen, xnth, xcut, xapp, xset, xrep, xallsz, xslen, xsnth, xscut, xsapp, xseq, xslt, xofStr, xtoStr, xdec, xenc, xar, xcmp, xwrap, xisz, xneg, xnat, xofN, xbyte, xnle, xnadd, xnsub, xfits, xfind, xputE, xfindK, xelen, xfrzM⟩ : Sys) r_cascaderef01_Name.body.r.l.r.l.l.l ⟨[(0, .d (.str s)), (3, .d (.int .i64 (xofN i)))], ⟨n + 1, []⟩ :: ⟨n, os⟩ :: stk⟩ := by
    intro i fr h0 h3
    rw [← hp]
    exact evC_tidy (by simp only [tidyF, h0, h3]) rfl
  intro k
  induction k with
  | zero =>
    intro i hi fr h0 h3
    obtain ⟨y, e⟩ : ∃ y, xiter p ⟨fr, ⟨n + 1, []⟩ :: ⟨n, os⟩ :: stk⟩ = y := ⟨_, rfl⟩
    rw [e]
    rw [h.iter, step i fr h0 h3] at e
    have e1 : xcmp .lss (xofN i) (xofN (xslen s)) = false := by rw [lss h, ofN h, ofN h, slen h]; simp; omega
    clear step
    cbv at e
    simp only [e1] at e
    cbv at e
    subst e
    exact ⟨_, _, rfl, .inl ⟨rfl, rfl⟩⟩
  | succ k ih =>
    intro i hi fr h0 h3
    obtain ⟨y, e⟩ : ∃ y, xiter p ⟨fr, ⟨n + 1, []⟩ :: ⟨n, os⟩ :: stk⟩ = y := ⟨_, rfl⟩
    rw [e]
    have ih' := ih (i + 1) (by omega)
    rw [h.iter, step i fr h0 h3] at e
    have e1 : xcmp .lss (xofN i) (xofN (xslen s)) = true := by rw [lss h, ofN h, ofN h, slen h]; simp; omega
    obtain ⟨b, hb⟩ : ∃ b, s[i]? = some b := ⟨s[i]'(by omega), List.getElem?_eq_getElem (by omega)⟩
    have e2 : xneg (xofN i) = false := by rw [neg h, ofN h]; simp
    have e3 : xsnth s (xnat (xofN i)) = some b := by rw [snth h, nat h, ofN h]; simpa using hb
    obtain ⟨r1, f1⟩ := Letter_eq h hR b (n + 1) [] (⟨n, os⟩ :: stk)
    obtain ⟨r2, f2⟩ := Digit_eq h hR b (n + 1) [] (⟨n, os⟩ :: stk)
    have e4 : xar .add .i64 (xofN i) 1 = xofN (i + 1) := by
      unfold small at hs
      rw [ofN h, ofN h, add h] <;> omega
    clear step ih
    cbv at f1 f2
    cbv at e
    simp only [e1] at e
    cbv at e
    simp only [e2, Bool.false_eq_true, if_false, e3] at e
    cbv at e
    rw [f1] at e
    cbv at e
    cases r1 with
    | true =>
      cbv at e
      simp only [e4] at e
      subst e
      exact ih' _ rfl rfl
    | false =>
      cbv at e
      cases c5 : xcmp .eql (xofN i) 0 with
      | true =>
        simp only [c5] at e
        cbv at e
        subst e
        exact ⟨_, _, rfl, .inr ⟨rfl, rfl⟩⟩
      | false =>
        simp only [c5] at e
        cbv at e
        simp only [e2, Bool.false_eq_true, if_false, e3] at e
        cbv at e
        rw [f2] at e
        cbv at e
        cases r2 with
        | true =>
          cbv at e
          simp only [e4] at e
          subst e
          exact ih' _ rfl rfl
        | false =>
          cbv at e
          subst e
          exact ⟨_, _, rfl, .inr ⟨rfl, rfl⟩⟩
theorem Name_eq (s : Str) (hs : small s.length) (n : Nat) (os : List (List Nat × O)) (stk : Stk) : ∃ r, xcall F.cascaderef01_Name [.d (.str s)] (⟨n, os⟩ :: stk) = some (.ret (.d (.bool r)), ⟨n + 1, []⟩ :: ⟨n, os⟩ :: stk) := by
  obtain ⟨y, e⟩ : ∃ y, xcall F.cascaderef01_Name [.d (.str s)] (⟨n, os⟩ :: stk) = y := ⟨_, rfl⟩
  rw [e]
  rw [h.call, hR] at e
  obtain ⟨ex, fr', f, hc⟩ := Name_loop h hR s hs n os stk s.length 0 (Nat.zero_add _) [(3, .d (.int .i64 0)), (2, .d (.bool false)), (0, .d (.str s))] rfl (by rw [ofN h]; rfl)
  rw [hR] at f
  simp only [r_cascaderef01_Name, C.l, C.r] at f
  cbv at e
  rw [f] at e
  rcases hc with ⟨rfl, h0⟩ | ⟨rfl, h2⟩
  · cbv at e
    cbv at h0
    simp only [h0] at e
    cbv at e
    subst e
    exact ⟨_, rfl⟩
  · cbv at e
    cbv at h2
    simp only [h2] at e
    subst e
    exact ⟨_, rfl⟩
omit h hR in
/-- The signs of a type. -/
def signs (w : Str) : Prop := ∀ c ∈ w, c = 33 ∨ c = 91
omit h hR in
/-- No two ! stand beside each other. -/
def apart (w : Str) : Prop := ∀ j : Nat, w[j]? = some 33 → w[j + 1]? = some 33 → False
theorem Right_loop (a w : Str) (hs : small w.length) (n : Nat) (os : List (List Nat × O)) (stk : Stk) : ∀ (k i m : Nat), i + k = w.length → m ≤ i → (∀ j c, j < i → w[j]? = some c → c = 33 ∨ c = 91) → (∀ j : Nat, j + 1 < i → w[j]? = some 33 → w[j + 1]? = some 33 → False) → ∀ fr : Fr, fr.get 1 = .d (.iptr [.str a, .str w]) → fr.get 3 = .d (.int .i64 (xofN m)) → fr.get 4 = .d (.int .i64 (xofN i)) →
    ∃ ex fr', xiter (evC (⟨xR, xG, xcall, xiter, xlen, xnth, xcut, xapp, xset, xrep, xallsz, xslen, xsnth, xscut, xsapp, xseq, xslt, xofStr, xtoStr, xdec, xenc, xar, xcmp, xwrap, xisz, xneg, xnat, xofN, xbyte, xnle, xnadd, xnsub, xfits, xfind, xputE, xfindK, xelen, xfrzM⟩ : Sys) r_cascaderef09_RightType.body.r.r.l.r.l.l) ⟨fr, ⟨n + 1, []⟩ :: ⟨n, os⟩ :: stk⟩ = some (ex, ⟨fr', ⟨n + 1, []⟩ :: ⟨n, os⟩ :: stk⟩) ∧ ((ex = .exit 0 ∧ fr'.get 1 = .d (.iptr [.str a, .str w]) ∧ (∃ m : Nat, fr'.get 3 = .d (.int .i64 (xofN m))) ∧ signs w ∧ apart w) ∨ (ex = .ret ∧ fr'.get 2 = .d (.bool false))) := by
  generalize hp : evC (⟨xR, xG, xcall, xiter, xlen, xnth, xcut, xapp, xset, xrep, xallsz, xslen, xsnth, xscut, xsapp, xseq, xslt, xofStr, xtoStr, xdec, xenc, xar, xcmp, xwrap, xisz, xneg, xnat, xofN, xbyte, xnle, xnadd, xnsub, xfits, xfind, xputE, xfindK, xelen, xfrzM⟩ : Sys) r_cascaderef09_RightType.body.r.r.l.r.l.l = p
  have step : ∀ (i m : Nat) (fr : Fr), fr.get 1 = .d (.iptr [.str a, .str w]) → fr.get 3 = .d (.int .i64 (xofN m)) → fr.get 4 = .d (.int .i64 (xofN i)) →
      p ⟨fr, ⟨n + 1, []⟩ :: ⟨n, os⟩ :: stk⟩ = evC (⟨xR, xG, xcall, xiter, xlen, xnth, xcut, xapp, xset, xrep, xallsz, xslen, xsnth, xscut, xsapp, xseq, xslt, xofStr, xtoStr, xdec, xenc, xar, xcmp, xwrap, xisz, xneg, xnat, xofN, xbyte, xnle, xnadd, xnsub, xfits, xfind, xputE, xfindK, xelen, xfrzM⟩ : Sys) r_cascaderef09_RightType.body.r.r.l.r.l.l.l ⟨[(1, .d (.iptr [.str a, .str w])), (3, .d (.int .i64 (xofN m))), (4, .d (.int .i64 (xofN i)))], ⟨n + 1, []⟩ :: ⟨n, os⟩ :: stk⟩ := by
    intro i m fr h1 h3 h4
    rw [← hp]
    exact evC_tidy (by simp only [tidyF, h1, h3, h4]) rfl
  intro k
  induction k with
  | zero =>
    intro i m hi hm hj ha fr h1 h3 h4
    obtain ⟨y, e⟩ : ∃ y, xiter p ⟨fr, ⟨n + 1, []⟩ :: ⟨n, os⟩ :: stk⟩ = y := ⟨_, rfl⟩
    rw [e]
    rw [h.iter, step i m fr h1 h3 h4] at e
    have e1 : xcmp .lss (xofN i) (xofN (xslen w)) = false := by rw [lss h, ofN h, ofN h, slen h]; simp; omega
    clear step
    cbv at e
    simp only [e1] at e
    cbv at e
    subst e
    refine ⟨_, _, rfl, .inl ⟨rfl, rfl, ⟨m, rfl⟩, fun c hc => ?_, fun j hj1 hj2 => ?_⟩⟩
    · obtain ⟨j, hjc⟩ := List.getElem?_of_mem hc
      exact hj j c (by have := (List.getElem?_eq_some_iff.1 hjc).1; omega) hjc
    · exact ha j (by have := (List.getElem?_eq_some_iff.1 hj2).1; omega) hj1 hj2
  | succ k ih =>
    intro i m hi hm hj ha fr h1 h3 h4
    obtain ⟨y, e⟩ : ∃ y, xiter p ⟨fr, ⟨n + 1, []⟩ :: ⟨n, os⟩ :: stk⟩ = y := ⟨_, rfl⟩
    rw [e]
    rw [h.iter, step i m fr h1 h3 h4] at e
    have e1 : xcmp .lss (xofN i) (xofN (xslen w)) = true := by rw [lss h, ofN h, ofN h, slen h]; simp; omega
    obtain ⟨b, hb⟩ : ∃ b, w[i]? = some b := ⟨w[i]'(by omega), List.getElem?_eq_getElem (by omega)⟩
    have e2 : xneg (xofN i) = false := by rw [neg h, ofN h]; simp
    have e3 : xsnth w (xnat (xofN i)) = some b := by rw [snth h, nat h, ofN h]; simpa using hb
    have e4 : xar .add .i64 (xofN i) 1 = xofN (i + 1) := by
      unfold small at hs
      rw [ofN h, ofN h, add h] <;> omega
    have e5 : xar .add .i64 (xofN m) 1 = xofN (m + 1) := by
      unfold small at hs
      rw [ofN h, ofN h, add h] <;> omega
    have ih' := ih (i + 1)
    have n1 := byte_neq h b 33 (k := 33) rfl
    have n2 := byte_neq h b 91 (k := 91) rfl
    have n3 := byte_eql h b 33 (k := 33) rfl
    have n4 := byte_eql h b 91 (k := 91) rfl
    have hj' : (b = 33 ∨ b = 91) → ∀ j c, j < i + 1 → w[j]? = some c → c = 33 ∨ c = 91 := fun hb' j c hjl hjc => by
      by_cases e0 : j = i
      · subst e0; rw [hb] at hjc; cases hjc; exact hb'
      · exact hj j c (by omega) hjc
    have g1 : xcmp .gtr (xofN i) 0 = decide (0 < i) := by rw [gtr h, ofN h]; simp
    clear step ih
    cbv at e
    simp only [e1] at e
    cbv at e
    simp only [e2, Bool.false_eq_true, if_false, e3] at e
    cbv at e
    by_cases b1 : b = 33
    · subst b1
      have ih' := ih' m (by omega) (by omega) (hj' (.inl rfl))
      have haN : (∀ b', w[i - 1]? = some b' → 0 < i → b' ≠ 33) → ∀ j : Nat, j + 1 < i + 1 → w[j]? = some 33 → w[j + 1]? = some 33 → False := fun hh j hj1 hj2 hj3 => by
        by_cases e0 : j + 1 = i
        · exact hh 33 (by rw [show i - 1 = j by omega]; exact hj2) (by omega) rfl
        · exact ha j (by omega) hj2 hj3
      simp only [show ((33 : UInt8) == 33) = true from rfl, show ((33 : UInt8) == 91) = false from rfl, Bool.not_true, Bool.not_false] at n1 n2 n3 n4
      simp only [n1] at e
      cbv at e
      simp only [n3] at e
      cbv at e
      by_cases i0 : 0 < i
      · simp only [g1, i0, decide_true] at e
        cbv at e
        obtain ⟨b', hb'⟩ : ∃ b', w[i - 1]? = some b' := ⟨w[i - 1]'(by omega), List.getElem?_eq_getElem (by omega)⟩
        have q1 : xar .sub .i64 (xofN i) 1 = xofN (i - 1) := by
          unfold small at hs
          rw [ofN h, ofN h, sub h] <;> omega
        have q2 : xneg (xofN (i - 1)) = false := by rw [neg h, ofN h]; simp
        have q3 : xsnth w (xnat (xofN (i - 1))) = some b' := by rw [snth h, nat h, ofN h]; simpa using hb'
        simp only [q1, q2, Bool.false_eq_true, if_false, q3] at e
        cbv at e
        cases c5 : xcmp .eql (xbyte b') 33 with
        | true =>
          simp only [c5] at e
          cbv at e
          subst e
          exact ⟨_, _, rfl, .inr ⟨rfl, rfl⟩⟩
        | false =>
          simp only [c5] at e
          cbv at e
          simp only [n4] at e
          cbv at e
          simp only [e4] at e
          subst e
          refine ih' (haN fun b2 hb2 _ hb3 => ?_) _ rfl rfl rfl
          rw [hb'] at hb2
          cases hb2
          subst hb3
          have q5 := byte_eql h 33 33 (k := 33) rfl
          rw [q5] at c5
          cases c5
      · simp only [g1, i0, decide_false] at e
        cbv at e
        simp only [n4] at e
        cbv at e
        simp only [e4] at e
        subst e
        exact ih' (haN fun _ _ hi0 => absurd hi0 i0) _ rfl rfl rfl
    · by_cases b2 : b = 91
      · subst b2
        have ih' := ih' (m + 1) (by omega) (by omega) (hj' (.inr rfl)) (fun j hj1 hj2 hj3 => by
          by_cases e0 : j + 1 = i
          · rw [e0, hb] at hj3; cases hj3
          · exact ha j (by omega) hj2 hj3)
        simp only [show ((91 : UInt8) == 33) = false from rfl, show ((91 : UInt8) == 91) = true from rfl, Bool.not_true, Bool.not_false] at n1 n2 n3 n4
        simp only [n1] at e
        cbv at e
        simp only [n2] at e
        cbv at e
        simp only [n3] at e
        cbv at e
        simp only [n4] at e
        cbv at e
        simp only [e4, e5] at e
        subst e
        exact ih' _ rfl rfl rfl
      · have m1 : (b == 33) = false := by simpa using b1
        have m2 : (b == 91) = false := by simpa using b2
        simp only [m1, m2, Bool.not_false] at n1 n2
        simp only [n1] at e
        cbv at e
        simp only [n2] at e
        cbv at e
        subst e
        exact ⟨_, _, rfl, .inr ⟨rfl, rfl⟩⟩
theorem RightType_eq (a w : Str) (ha : small a.length) (hs : small w.length) (n : Nat) (os : List (List Nat × O)) (stk : Stk) : ∃ r, xcall F.cascaderef09_RightType [.d (.agg [.str a, .str w])] (⟨n, os⟩ :: stk) = some (.ret (.d (.bool r)), ⟨n + 1, []⟩ :: ⟨n, os⟩ :: stk) ∧ (r = true → signs w ∧ apart w) := by
  obtain ⟨y, e⟩ : ∃ y, xcall F.cascaderef09_RightType [.d (.agg [.str a, .str w])] (⟨n, os⟩ :: stk) = y := ⟨_, rfl⟩
  rw [e]
  rw [h.call, hR] at e
  obtain ⟨ex, fr', f, hc⟩ := Right_loop h hR a w hs n os stk w.length 0 0 (Nat.zero_add _) (Nat.le_refl _) (fun j c hj => by omega) (fun j hj => by omega)
    [(4, .d (.int .i64 0)), (3, .d (.int .i64 0)), (2, .d (.bool false)), (1, .d (.iptr [.str a, .str w])), (0, .d (.agg [.str a, .str w]))] rfl (by rw [ofN h]; rfl) (by rw [ofN h]; rfl)
  obtain ⟨r2, f2⟩ := Name_eq h hR a ha (n + 1) [] (⟨n, os⟩ :: stk)
  rw [hR] at f
  simp only [r_cascaderef09_RightType, C.l, C.r] at f
  cbv at f2
  cbv at e
  rw [f] at e
  rcases hc with ⟨rfl, h1, ⟨m, h3⟩, h4⟩ | ⟨rfl, h2⟩
  · cbv at e
    cbv at h1 h3
    simp only [h1, h3] at e
    cbv at e
    cases c1 : xcmp .leq (xofN m) 4 with
    | true =>
      simp only [c1] at e
      cbv at e
      rw [f2] at e
      cbv at e
      subst e
      exact ⟨_, rfl, fun _ => h4⟩
    | false =>
      simp only [c1] at e
      cbv at e
      subst e
      exact ⟨_, rfl, fun h => by cases h⟩
  · cbv at e
    cbv at h2
    simp only [h2] at e
    subst e
    exact ⟨_, rfl, fun h => by cases h⟩
theorem right_eq (a w : Str) (ha : small a.length) (hs : small w.length) (n : Nat) (os : List (List Nat × O)) (stk : Stk) : ∃ r, xcall F.cascadelaw17_right [.d (.agg [.str a, .str w])] (⟨n, os⟩ :: stk) = some (.ret (.d (.bool r)), ⟨n + 1, []⟩ :: ⟨n, os⟩ :: stk) ∧ (r = true → signs w ∧ apart w ∧ w.length ≤ 100) := by
  obtain ⟨y, e⟩ : ∃ y, xcall F.cascadelaw17_right [.d (.agg [.str a, .str w])] (⟨n, os⟩ :: stk) = y := ⟨_, rfl⟩
  rw [e]
  rw [h.call, hR] at e
  obtain ⟨r2, f2, g2⟩ := RightType_eq h hR a w ha hs (n + 1) [] (⟨n, os⟩ :: stk)
  cbv at f2
  cbv at e
  cases c1 : xcmp .leq (xofN (xslen a)) 100 with
  | true =>
    simp only [c1] at e
    cbv at e
    cases c2 : xcmp .leq (xofN (xslen w)) 100 with
    | true =>
      simp only [c2] at e
      cbv at e
      rw [f2] at e
      cbv at e
      subst e
      refine ⟨_, rfl, fun hr => ⟨(g2 hr).1, (g2 hr).2, ?_⟩⟩
      rw [leq h, ofN h, slen h] at c2
      simp at c2; omega
    | false =>
      simp only [c2] at e
      cbv at e
      subst e
      exact ⟨_, rfl, fun h => by cases h⟩
  | false =>
    simp only [c1] at e
    cbv at e
    subst e
    exact ⟨_, rfl, fun h => by cases h⟩
omit h hR in
/-- The last sign. -/
def lastI (s : Str) : Int := match s.getLast? with | none => 0 | some c => (c.toNat : Int)
theorem last_eq (a s : Str) (n : Nat) (os : List (List Nat × O)) (stk : Stk) (hs : small s.length) :
    xcall F.cascaderef17_last [.d (.agg [.str a, .str s])] (⟨n, os⟩ :: stk) = some (.ret (.d (.int .u8 (lastI s))), ⟨n + 1, []⟩ :: ⟨n, os⟩ :: stk) := by
  unfold small at hs
  rw [h.call, hR]
  generalize hq : lastI s = q
  cbv
  cases c1 : xseq s [] with
  | true =>
    cbv
    rw [seq h] at c1
    have : s = [] := by simpa using c1
    subst this
    subst hq
    rfl
  | false =>
    cbv
    rw [seq h] at c1
    have hne : s ≠ [] := by simpa using c1
    have hpos : 1 ≤ s.length := by cases s with | nil => exact absurd rfl hne | cons _ _ => simp
    obtain ⟨l, x, rfl⟩ : ∃ l x, s = l ++ [x] := ⟨s.dropLast, s.getLast hne, (List.dropLast_concat_getLast _).symm⟩
    have e1 : xar BinOp.sub IntKind.i64 (xofN (xslen (l ++ [x]))) 1 = xofN l.length := by
      rw [ofN h, ofN h, slen h, sub h] <;> simp at * <;> omega
    have e2 : xneg (xofN l.length) = false := by rw [neg h, ofN h]; simp
    have e3 : xsnth (l ++ [x]) (xnat (xofN l.length)) = some x := by rw [snth h, nat h, ofN h]; simp
    have e4 : xbyte x = q := by rw [byte h, ← hq]; simp [lastI]
    simp only [e1, e2, Bool.false_eq_true, if_false, e3, e4]
    cbv
theorem less_eq (a s : Str) (n : Nat) (os : List (List Nat × O)) (stk : Stk) (hs : small s.length) (h1 : 1 ≤ s.length) :
    xcall F.cascaderef17_less [.d (.agg [.str a, .str s])] (⟨n, os⟩ :: stk) = some (.ret (.d (.agg [.str a, .str s.dropLast])), ⟨n + 1, [([2], .cells [.d (.str a), .d (.str s.dropLast)])]⟩ :: ⟨n, os⟩ :: stk) := by
  unfold small at hs
  rw [h.call, hR]
  generalize hq : s.dropLast = q
  cbv
  have e1 : xar BinOp.sub IntKind.i64 (xofN (xslen s)) 1 = (s.length : Int) - 1 := by
    rw [ofN h, slen h, sub h] <;> omega
  have e2 : xneg ((s.length : Int) - 1) = false := by rw [neg h]; simp; omega
  have e3 : xnat ((s.length : Int) - 1) = s.length - 1 := by rw [nat h]; omega
  have e4 : xnle 0 (s.length - 1) = true := by rw [nle h]; simp
  have e5 : xnle (s.length - 1) (xslen s) = true := by rw [nle h, slen h]; simp
  have e6 : xscut s 0 (s.length - 1) = q := by rw [scut h, ← hq, List.dropLast_eq_take]; rfl
  simp only [e1, e2]
  cbv
  simp only [e3, e4, e5, if_true]
  cbv
  simp only [e6]
theorem last_is (s : Str) (c : UInt8) {k : Int} (hk : k = (c.toNat : Int)) (hc : c ≠ 0) : xcmp .eql (lastI s) k = ends c s := by
  rw [eql h, hk]
  unfold lastI ends
  cases hl : s.getLast? with
  | none =>
    have : c.toNat ≠ 0 := fun e => hc (UInt8.toNat_inj.1 (by simpa using e))
    simp; omega
  | some b =>
    rw [Bool.eq_iff_iff]
    simp only [beq_iff_eq, Int.natCast_inj, UInt8.toNat_inj, Option.some.injEq]
theorem last_zero (s : Str) (hs : signs s) (h33 : ends 33 s = false) : xcmp .eql (lastI s) 0 = !ends 91 s := by
  rw [eql h]
  unfold lastI
  unfold ends at *
  cases hl : s.getLast? with
  | none => rfl
  | some b =>
    have hb := hs b (List.mem_of_getLast? hl)
    rw [hl] at h33
    rcases hb with rfl | rfl
    · simp at h33
    · rfl
omit h hR in
theorem signs_drop {s : Str} (hs : signs s) : signs s.dropLast := fun c hc => hs c ((List.dropLast_sublist s).subset hc)
theorem refWithin_eq (a b : Str) (v l : Str) (n : Nat) (os : List (List Nat × O)) (stk : Stk) (hv : small v.length) (hl : small l.length) (hsg : signs v) :
    xcall F.cascaderef17_Within [.d (.agg [.str a, .str v]), .d (.agg [.str b, .str l])] (⟨n, os⟩ :: stk) = some (.ret (.d (.bool (within a b v l))), ⟨n + 1, []⟩ :: ⟨n, os⟩ :: stk) := by
  rw [within]
  have s1 := last_eq h hR b l (n + 1) [] (⟨n, os⟩ :: stk) hl
  have s2 := last_eq h hR a v (n + 1) [] (⟨n, os⟩ :: stk) hv
  have k1 := last_is h hR l 33 (k := 33) rfl (by decide)
  have k2 := last_is h hR v 33 (k := 33) rfl (by decide)
  have k3 := last_is h hR l 91 (k := 91) rfl (by decide)
  have k4 := last_is h hR v 91 (k := 91) rfl (by decide)
  have k5 := last_zero h hR v hsg
  have ih : ∀ l', 1 ≤ v.length → small l'.length → xcall F.cascaderef17_Within [.d (.agg [.str a, .str v.dropLast]), .d (.agg [.str b, .str l'])] (⟨n + 1, []⟩ :: ⟨n, os⟩ :: stk) = some (.ret (.d (.bool (within a b v.dropLast l'))), ⟨n + 1 + 1, []⟩ :: ⟨n + 1, []⟩ :: ⟨n, os⟩ :: stk) :=
    fun l' h1 h2 => refWithin_eq a b v.dropLast l' (n + 1) [] (⟨n, os⟩ :: stk) (small_drop hv) h2 (signs_drop hsg)
  rw [h.call, hR]
  generalize lastI l = ll at *
  generalize lastI v = lv at *
  cases c1 : ends 33 l with
  | true =>
    rw [c1] at k1
    cases c2 : ends 33 v with
    | true =>
      rw [c2] at k2
      have i1 := less_eq h hR a v (n + 1) [] (⟨n, os⟩ :: stk) hv (ends_pos c2)
      have i2 := less_eq h hR b l (n + 1) [] (⟨n, os⟩ :: stk) hl (ends_pos c1)
      have r := ih l.dropLast (ends_pos c2) (small_drop hl)
      simp only [if_true]
      generalize within a b v.dropLast l.dropLast = q at *
      generalize v.dropLast = v' at *
      generalize l.dropLast = l' at *
      clear ih
      cbv at s1 s2 i1 i2 r ⊢
      rw [s1]
      cbv
      simp only [k1]
      cbv
      rw [s2]
      cbv
      simp only [k2]
      cbv
      rw [i1]
      cbv
      rw [i2]
      cbv
      rw [r]
      cbv
    | false =>
      rw [c2] at k2
      simp only [if_true, Bool.false_eq_true, if_false]
      clear ih
      cbv at s1 s2 ⊢
      rw [s1]
      cbv
      simp only [k1]
      cbv
      rw [s2]
      cbv
      simp only [k2]
      cbv
  | false =>
    rw [c1] at k1
    cases c2 : ends 33 v with
    | true =>
      rw [c2] at k2
      have i1 := less_eq h hR a v (n + 1) [] (⟨n, os⟩ :: stk) hv (ends_pos c2)
      have r := ih l (ends_pos c2) hl
      simp only [if_true, Bool.false_eq_true, if_false]
      generalize within a b v.dropLast l = q at *
      generalize v.dropLast = v' at *
      clear ih
      cbv at s1 s2 i1 r ⊢
      rw [s1]
      cbv
      simp only [k1]
      cbv
      rw [s2]
      cbv
      simp only [k2]
      cbv
      rw [i1]
      cbv
      rw [r]
      cbv
    | false =>
      rw [c2] at k2
      cases c3 : ends 91 l with
      | true =>
        rw [c3] at k3
        cases c4 : ends 91 v with
        | true =>
          rw [c4] at k4
          have i1 := less_eq h hR a v (n + 1) [] (⟨n, os⟩ :: stk) hv (ends_pos c4)
          have i2 := less_eq h hR b l (n + 1) [] (⟨n, os⟩ :: stk) hl (ends_pos c3)
          have r := ih l.dropLast (ends_pos c4) (small_drop hl)
          simp only [if_true, Bool.false_eq_true, if_false]
          generalize within a b v.dropLast l.dropLast = q at *
          generalize v.dropLast = v' at *
          generalize l.dropLast = l' at *
          clear ih
          cbv at s1 s2 i1 i2 r ⊢
          rw [s1]
          cbv
          simp only [k1]
          cbv
          rw [s2]
          cbv
          simp only [k2]
          cbv
          rw [s1]
          cbv
          simp only [k3]
          cbv
          rw [s2]
          cbv
          simp only [k4]
          cbv
          rw [i1]
          cbv
          rw [i2]
          cbv
          rw [r]
          cbv
        | false =>
          rw [c4] at k4
          simp only [if_true, Bool.false_eq_true, if_false]
          clear ih
          cbv at s1 s2 ⊢
          rw [s1]
          cbv
          simp only [k1]
          cbv
          rw [s2]
          cbv
          simp only [k2]
          cbv
          rw [s1]
          cbv
          simp only [k3]
          cbv
          rw [s2]
          cbv
          simp only [k4]
          cbv
      | false =>
        rw [c3] at k3
        simp only [Bool.false_eq_true, if_false]
        clear ih
        have e : xseq a b = (a == b) := seq h a b
        have k5 := k5 c2
        generalize (a == b) = q at *
        cases c4 : ends 91 v with
        | true =>
          rw [c4] at k5
          simp only [Bool.not_true] at k5
          cbv at s1 s2 ⊢
          rw [s1]
          cbv
          simp only [k1]
          cbv
          rw [s2]
          cbv
          simp only [k2]
          cbv
          rw [s1]
          cbv
          simp only [k3]
          cbv
          rw [s2]
          cbv
          simp only [k5]
          cbv
        | false =>
          rw [c4] at k5
          simp only [Bool.not_false] at k5
          cbv at s1 s2 ⊢
          rw [s1]
          cbv
          simp only [k1]
          cbv
          rw [s2]
          cbv
          simp only [k2]
          cbv
          rw [s1]
          cbv
          simp only [k3]
          cbv
          rw [s2]
          cbv
          simp only [k5]
          cbv
          rw [e]
termination_by v.length
decreasing_by simp; omega
theorem awake_eq (n : Nat) (os : List (List Nat × O)) (stk : Stk) : xcall F.cascadelaw17_awake [] (⟨n, os⟩ :: stk) = some (.ret (.d (.bool true)), ⟨n + 1, []⟩ :: ⟨n, os⟩ :: stk) := by
  have r := Within_eq h hR [73, 110, 116] [73, 110, 116] [33] [] (n + 1) [] (⟨n, os⟩ :: stk) (by unfold small; simp) (by unfold small; simp)
  have hw : within [73, 110, 116] [73, 110, 116] [33] [] = true := by
    rw [within, if_neg (by decide), if_pos (by decide)]
    show within _ _ [] [] = true
    rw [within, if_neg (by decide), if_neg (by decide), if_neg (by decide)]
    rfl
  rw [hw] at r
  rw [h.call, hR]
  cbv at r ⊢
  rw [r]
  cbv
theorem UsageWithin_eq (a b v l : Str) (ha : small a.length) (hb : small b.length) (hv : small v.length) (hl : small l.length) :
    xcall F.cascadelaw17_UsageWithin [.d (.agg [.str a, .str v]), .d (.agg [.str b, .str l])] [] = some (.ret (.d (.bool true)), [⟨1, []⟩]) := by
  obtain ⟨r1, f1, g1⟩ := right_eq h hR a v ha hv 1 [] []
  obtain ⟨r2, f2, _⟩ := right_eq h hR b l hb hl 1 [] []
  have w := awake_eq h hR 1 [] []
  have p1 := Within_eq h hR a b v l 1 [] [] hv hl
  rw [h.call, hR]
  cases r1 with
  | false =>
    cbv at w f1 ⊢
    rw [w]
    cbv
    rw [f1]
    cbv
    rw [w]
    cbv
  | true =>
    have p2 := refWithin_eq h hR a b v l 1 [] [] hv hl (g1 rfl).1
    clear g1
    cases r2 with
    | false =>
      clear p1 p2
      cbv at w f1 f2 ⊢
      rw [w]
      cbv
      rw [f1]
      cbv
      rw [f2]
      cbv
      rw [w]
      cbv
    | true =>
      generalize within a b v l = q at *
      cbv at w f1 f2 p1 p2 ⊢
      rw [w]
      cbv
      rw [f1]
      cbv
      rw [f2]
      cbv
      rw [p1]
      cbv
      rw [p2]
      cbv
end Go.Abs.B
