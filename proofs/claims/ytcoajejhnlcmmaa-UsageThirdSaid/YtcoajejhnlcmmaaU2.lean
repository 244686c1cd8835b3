/- The law UsageThird comes to true. -/
import Derived.Test.YtcoajejhnlcmmaaL17
set_option linter.unusedSimpArgs false
namespace Go.Abs.B
set_option maxRecDepth 100000
variable {xR : FuncId → Option RF} {xG : Nat → Option (List D)} {xcall : CallF} {xiter : (St → Rs) → St → Rs} {xlen : List D → Nat} {xnth : List D → Nat → Option D} {xcut : List D → Nat → Nat → List D} {xapp : List D → List D → List D} {xset : List D → Nat → D → List D} {xrep : Nat → D → List D} {xallsz : Nat → List D → Bool} {xslen : Str → Nat} {xsnth : Str → Nat → Option UInt8} {xscut : Str → Nat → Nat → Str} {xsapp : Str → Str → Str} {xseq : Str → Str → Bool} {xslt : Str → Str → Bool} {xofStr : Str → List D} {xtoStr : List D → Option Str} {xdec : Str → Nat → Nat × Nat} {xenc : Int → Str} {xar : BinOp → IntKind → Int → Int → Int} {xcmp : BinOp → Int → Int → Bool} {xwrap : IntKind → Int → Int} {xisz : Int → Bool} {xneg : Int → Bool} {xnat : Int → Nat} {xofN : Nat → Int} {xbyte : UInt8 → Int} {xnle : Nat → Nat → Bool} {xnadd : Nat → Nat → Nat} {xnsub : Nat → Nat → Nat} {xfits : Nat → Nat → Bool} {xfind : D → List (D × Nat × V) → Option (Option V)} {xputE : D → Nat → V → List (D × Nat × V) → Option (List (D × Nat × V))} {xfindK : D → List D → List D → Option (Option D)} {xelen : List (D × Nat × V) → Nat} {xfrzM : List (D × Nat × V) → Option (List D × List D)}
  (h : Laws xR xG xcall xiter xlen xnth xcut xapp xset xrep xallsz xslen xsnth xscut xsapp xseq xslt xofStr xtoStr xdec xenc xar xcmp xwrap xisz xneg xnat xofN xbyte xnle xnadd xnsub xfits xfind xputE xfindK xelen xfrzM)
  (hR : xR = table)
include h hR
set_option linter.unusedSectionVars false
open Facts
theorem apart_end {v : Str} (ha : apart (v ++ [33])) : ends 33 v = false := by
  cases he : ends 33 v with
  | false => rfl
  | true =>
    have e := ends_eq he
    have hp := ends_pos he
    exfalso
    refine ha (v.length - 1) ?_ ?_
    · rw [List.getElem?_append_left (by omega), e]
      simp
    · rw [show v.length - 1 + 1 = v.length by omega]
      simp
theorem UsageThird_eq (a b c v l m : Str) (ha : small a.length) (hb : small b.length) (hc : small c.length) (hv : small v.length) (hl : small l.length) (hm : small m.length) :
    ∃ os, xcall F.cascadelaw17_UsageThird [.d (.agg [.str a, .str v]), .d (.agg [.str b, .str l]), .d (.agg [.str c, .str m])] [] = some (.ret (.d (.bool true)), [⟨1, os⟩]) := by
  obtain ⟨y, e⟩ : ∃ y, xcall F.cascadelaw17_UsageThird [.d (.agg [.str a, .str v]), .d (.agg [.str b, .str l]), .d (.agg [.str c, .str m])] [] = y := ⟨_, rfl⟩
  rw [e]
  obtain ⟨r1, f1, g1⟩ := right_eq h hR a v ha hv 1 [] []
  obtain ⟨r2, f2, g2⟩ := right_eq h hR b l hb hl 1 [] []
  obtain ⟨r3, f3, g3⟩ := right_eq h hR c m hc hm 1 [] []
  have w := awake_eq h hR 1 [] []
  have p0 := Within_eq h hR a a v v 1 [] [] hv hv
  rw [within_self] at p0
  rw [h.call, hR] at e
  cbv at w f1 f2 f3 p0 e
  rw [w] at e
  cbv at e
  rw [f1] at e
  cbv at e
  cases r1 with
  | false =>
    cbv at e
    rw [w] at e
    cbv at e
    rw [f1] at e
    cbv at e
    subst e
    exact ⟨_, rfl⟩
  | true =>
    cbv at e
    rw [f2] at e
    cbv at e
    cases r2 with
    | false =>
      cbv at e
      rw [w] at e
      cbv at e
      rw [f1] at e
      cbv at e
      rw [f2] at e
      cbv at e
      subst e
      exact ⟨_, rfl⟩
    | true =>
      cbv at e
      rw [f3] at e
      cbv at e
      cases r3 with
      | false =>
        cbv at e
        rw [w] at e
        cbv at e
        rw [f1] at e
        cbv at e
        rw [f2] at e
        cbv at e
        rw [f3] at e
        cbv at e
        subst e
        exact ⟨_, rfl⟩
      | true =>
        obtain ⟨sv, av, lv⟩ := g1 rfl
        obtain ⟨sl, al, ll⟩ := g2 rfl
        have p1 := Within_eq h hR a b v l 1 [] [] hv hl
        have p2 := Within_eq h hR b c l m 1 [] [] hl hm
        have p3 := Within_eq h hR a c v m 1 [] [] hv hm
        have p4 := Within_eq h hR b a l v 1 [] [] hl hv
        have hmore : small (v ++ [33]).length := by unfold small; simp; omega
        have z1 : xnle (xnadd (xslen v) (xslen [33])) 9223372036854775807 = true := by rw [nle h, nadd h, slen h, slen h]; simp; omega
        have z2 : xsapp v [33] = v ++ [33] := sapp h v [33]
        obtain ⟨r5, t1, t2⟩ := RightType_eq h hR a (v ++ [33]) ha hmore 1 [([7], .cells [.d (.str a), .d (.str (v ++ [33]))])] []
        have m1 : r5 = true → xcall F.usage_Within [.d (.agg [.str a, .str (v ++ [33])]), .d (.agg [.str a, .str v])] [⟨1, [([7], .cells [.d (.str a), .d (.str (v ++ [33]))])]⟩] = some (.ret (.d (.bool true)), [⟨1 + 1, []⟩, ⟨1, [([7], .cells [.d (.str a), .d (.str (v ++ [33]))])]⟩]) := fun hr => by
          rw [Within_eq h hR a a (v ++ [33]) v 1 _ [] hmore hv, (within_more a v (apart_end h hR (t2 hr).2)).1]
        have m2 : r5 = true → xcall F.usage_Within [.d (.agg [.str a, .str v]), .d (.agg [.str a, .str (v ++ [33])])] [⟨1, [([7], .cells [.d (.str a), .d (.str (v ++ [33]))])]⟩] = some (.ret (.d (.bool false)), [⟨1 + 1, []⟩, ⟨1, [([7], .cells [.d (.str a), .d (.str (v ++ [33]))])]⟩]) := fun hr => by
          rw [Within_eq h hR a a v (v ++ [33]) 1 _ [] hv hmore, (within_more a v (apart_end h hR (t2 hr).2)).2]
        clear t2
        have tr := within_trans a b c v l m
        have bo := within_both a b v l sv sl
        generalize within a b v l = q1 at *
        generalize within b c l m = q2 at *
        generalize within a c v m = q3 at *
        generalize within b a l v = q4 at *
        generalize hmm : v ++ [33] = more at *
        cbv at p1 p2 p3 p4 t1
        cbv at e
        rw [p0] at e
        cbv at e
        rw [p1] at e
        cbv at e
        cases q1 with
        | false =>
          cbv at e
          rw [p1] at e
          cbv at e
          simp only [z1, z2, if_true] at e
          cbv at e
          rw [t1] at e
          cbv at e
          cases r5 with
          | false =>
            cbv at e
            subst e
            exact ⟨_, rfl⟩
          | true =>
            have m1 := m1 rfl
            have m2 := m2 rfl
            cbv at m1 m2 e
            rw [m1] at e
            cbv at e
            rw [m2] at e
            cbv at e
            subst e
            exact ⟨_, rfl⟩
        | true =>
          cbv at e
          rw [p2] at e
          cbv at e
          cases q2 with
          | false =>
            cbv at e
            rw [p1] at e
            cbv at e
            rw [p4] at e
            cbv at e
            cases q4 with
            | false =>
              cbv at e
              simp only [z1, z2, if_true] at e
              cbv at e
              rw [t1] at e
              cbv at e
              cases r5 with
              | false =>
                cbv at e
                subst e
                exact ⟨_, rfl⟩
              | true =>
                have m1 := m1 rfl
                have m2 := m2 rfl
                cbv at m1 m2 e
                rw [m1] at e
                cbv at e
                rw [m2] at e
                cbv at e
                subst e
                exact ⟨_, rfl⟩
            | true =>
              obtain ⟨w1, w2⟩ := bo rfl rfl
              have x1 : xseq a b = true := by rw [seq h, w1]; simp
              have x2 : xseq v l = true := by rw [seq h, w2]; simp
              cbv at e
              simp only [x1, x2] at e
              cbv at e
              simp only [z1, z2, if_true] at e
              cbv at e
              rw [t1] at e
              cbv at e
              cases r5 with
              | false =>
                cbv at e
                subst e
                exact ⟨_, rfl⟩
              | true =>
                have m1 := m1 rfl
                have m2 := m2 rfl
                cbv at m1 m2 e
                rw [m1] at e
                cbv at e
                rw [m2] at e
                cbv at e
                subst e
                exact ⟨_, rfl⟩
          | true =>
            have tr := tr rfl rfl
            subst tr
            cbv at e
            rw [p3] at e
            cbv at e
            rw [p1] at e
            cbv at e
            rw [p4] at e
            cbv at e
            cases q4 with
            | false =>
              cbv at e
              simp only [z1, z2, if_true] at e
              cbv at e
              rw [t1] at e
              cbv at e
              cases r5 with
              | false =>
                cbv at e
                subst e
                exact ⟨_, rfl⟩
              | true =>
                have m1 := m1 rfl
                have m2 := m2 rfl
                cbv at m1 m2 e
                rw [m1] at e
                cbv at e
                rw [m2] at e
                cbv at e
                subst e
                exact ⟨_, rfl⟩
            | true =>
              obtain ⟨w1, w2⟩ := bo rfl rfl
              have x1 : xseq a b = true := by rw [seq h, w1]; simp
              have x2 : xseq v l = true := by rw [seq h, w2]; simp
              cbv at e
              simp only [x1, x2] at e
              cbv at e
              simp only [z1, z2, if_true] at e
              cbv at e
              rw [t1] at e
              cbv at e
              cases r5 with
              | false =>
                cbv at e
                subst e
                exact ⟨_, rfl⟩
              | true =>
                have m1 := m1 rfl
                have m2 := m2 rfl
                cbv at m1 m2 e
                rw [m1] at e
                cbv at e
                rw [m2] at e
                cbv at e
                subst e
                exact ⟨_, rfl⟩
end Go.Abs.B
