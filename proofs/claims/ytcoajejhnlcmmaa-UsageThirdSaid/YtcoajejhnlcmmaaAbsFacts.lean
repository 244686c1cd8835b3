import Derived.Test.YtcoajejhnlcmmaaAbs2
import Derived.Laws.BitsLemmas
/-! What the primitives come to. -/
set_option linter.unusedSimpArgs false
namespace Go.Abs.Facts
variable {xR : FuncId → Option RF} {xG : Nat → Option (List D)} {xcall : CallF} {xiter : (St → Rs) → St → Rs} {xlen : List D → Nat} {xnth : List D → Nat → Option D} {xcut : List D → Nat → Nat → List D} {xapp : List D → List D → List D} {xset : List D → Nat → D → List D} {xrep : Nat → D → List D} {xallsz : Nat → List D → Bool} {xslen : Str → Nat} {xsnth : Str → Nat → Option UInt8} {xscut : Str → Nat → Nat → Str} {xsapp : Str → Str → Str} {xseq : Str → Str → Bool} {xslt : Str → Str → Bool} {xofStr : Str → List D} {xtoStr : List D → Option Str} {xdec : Str → Nat → Nat × Nat} {xenc : Int → Str} {xar : BinOp → IntKind → Int → Int → Int} {xcmp : BinOp → Int → Int → Bool} {xwrap : IntKind → Int → Int} {xisz : Int → Bool} {xneg : Int → Bool} {xnat : Int → Nat} {xofN : Nat → Int} {xbyte : UInt8 → Int} {xnle : Nat → Nat → Bool} {xnadd : Nat → Nat → Nat} {xnsub : Nat → Nat → Nat} {xfits : Nat → Nat → Bool} {xfind : D → List (D × Nat × V) → Option (Option V)} {xputE : D → Nat → V → List (D × Nat × V) → Option (List (D × Nat × V))} {xfindK : D → List D → List D → Option (Option D)} {xelen : List (D × Nat × V) → Nat} {xfrzM : List (D × Nat × V) → Option (List D × List D)}
  (h : Laws xR xG xcall xiter xlen xnth xcut xapp xset xrep xallsz xslen xsnth xscut xsapp xseq xslt xofStr xtoStr xdec xenc xar xcmp xwrap xisz xneg xnat xofN xbyte xnle xnadd xnsub xfits xfind xputE xfindK xelen xfrzM)

include h
/-- Lengths that no arithmetic leaves. -/
def small (n : Nat) : Prop := n < 9223372036854775808
omit h in
theorem wrap_small {n : Int} (h1 : -9223372036854775808 ≤ n) (h2 : n ≤ 9223372036854775807) : IntKind.i64.wrap n = n := by rw [IntKind.wrap_i64]; omega
theorem ofN (n : Nat) : xofN n = (n : Int) := by rw [h.ofN]
theorem slen (s : Str) : xslen s = s.length := by rw [h.slen]
theorem len (s : List D) : xlen s = s.length := by rw [h.len]
theorem nle (a b : Nat) : xnle a b = decide (a ≤ b) := by rw [h.nle]
theorem nadd (a b : Nat) : xnadd a b = a + b := by rw [h.nadd]
theorem nsub (a b : Nat) : xnsub a b = a - b := by rw [h.nsub]
theorem nat (n : Int) : xnat n = n.toNat := by rw [h.nat]
theorem neg (n : Int) : xneg n = decide (n < 0) := by rw [h.neg]
theorem seq (s t : Str) : xseq s t = (s == t) := by rw [h.seq]
theorem sapp (s t : Str) : xsapp s t = s ++ t := by rw [h.sapp]
theorem snth (s : Str) (i : Nat) : xsnth s i = s[i]? := by rw [h.snth]
theorem scut (s : Str) (a b : Nat) : xscut s a b = (s.take b).drop a := by rw [h.scut]
theorem byte (b : UInt8) : xbyte b = (b.toNat : Int) := by rw [h.byte]
theorem add {a b : Int} (h1 : -9223372036854775808 ≤ a + b) (h2 : a + b ≤ 9223372036854775807) : xar .add .i64 a b = a + b := by rw [h.ar]; exact wrap_small h1 h2
theorem sub {a b : Int} (h1 : -9223372036854775808 ≤ a - b) (h2 : a - b ≤ 9223372036854775807) : xar .sub .i64 a b = a - b := by rw [h.ar]; exact wrap_small h1 h2
theorem lss (a b : Int) : xcmp .lss a b = decide (a < b) := by rw [h.cmp]; rfl
theorem leq (a b : Int) : xcmp .leq a b = decide (a ≤ b) := by rw [h.cmp]; rfl
theorem gtr (a b : Int) : xcmp .gtr a b = decide (a > b) := by rw [h.cmp]; rfl
theorem geq (a b : Int) : xcmp .geq a b = decide (a ≥ b) := by rw [h.cmp]; rfl
theorem eql (a b : Int) : xcmp .eql a b = (a == b) := by rw [h.cmp]; rfl
theorem neq (a b : Int) : xcmp .neq a b = (a != b) := by rw [h.cmp]; rfl
theorem byte_eql (b c : UInt8) {k : Int} (hk : k = (c.toNat : Int)) : xcmp .eql (xbyte b) k = (b == c) := by
  rw [eql h, byte h, hk, Bool.eq_iff_iff]
  simp only [beq_iff_eq, Int.natCast_inj, UInt8.toNat_inj]
theorem byte_neq (b c : UInt8) {k : Int} (hk : k = (c.toNat : Int)) : xcmp .neq (xbyte b) k = !(b == c) := by
  rw [neq h, byte h, hk]
  have : ((b.toNat : Int) == (c.toNat : Int)) = (b == c) := by
    rw [Bool.eq_iff_iff]
    simp only [beq_iff_eq, Int.natCast_inj, UInt8.toNat_inj]
  simp only [bne, this]
omit h in
theorem evC_tidy {X : Sys} {slots : List Nat} {fr fr' : Fr} {c : C} {m : Nat} {os : List (List Nat × O)} {stk : Stk} (hf : tidyF fr slots = fr') (hk : tidyOk m [] fr' = true) :
    evC X (.tidy slots [] c) ⟨fr, ⟨m, os⟩ :: stk⟩ = evC X c ⟨fr', ⟨m, []⟩ :: stk⟩ := by
  subst hf
  simp only [evC, tidy, tidyL, tidyOkL, distinct, hk, Bool.and_true, if_true]
end Go.Abs.Facts
namespace Go.Abs
/-- Parts of a code. -/
def C.l : C → C
  | .seq a _ | .cond _ a _ => a
  | .block _ c | .loop c | .tidy _ _ c => c
  | c => c
def C.r : C → C
  | .seq _ b | .cond _ _ b => b
  | c => c
end Go.Abs
