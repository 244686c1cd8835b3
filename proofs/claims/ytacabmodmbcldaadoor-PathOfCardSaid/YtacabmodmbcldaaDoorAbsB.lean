import Derived.Test.YtacabmodmbcldaaDoorAbsL
import Derived.Test.YtacabmodmbcldaaDoorAbs24
/-! A builder's methods as plain functions of its text. -/
namespace Go.Abs
def bbyte (s : Str) (c : Int) : Option Str := if 0 ≤ c ∧ c < 256 then bput 1 s [UInt8.ofNat c.toNat] else none
def bstr (s t : Str) : Option (Str × Int) := match bput t.length s t with
  | some s1 => some (s1, (t.length : Int))
  | none => none
def brune (s : Str) (r : Int) : Option (Str × Int) := if -2147483648 ≤ r ∧ r ≤ 2147483647 then match bput 4 s (Lib.encodeRune r) with
  | some s1 => some (s1, ((Lib.encodeRune r).length : Int))
  | none => none
  else none
def btext (s : Str) : Option Str := some s
theorem bldAt_of {T E : Nat} {l l1 : Lab} {stk : Stk} {u : Bool} {g : Nat} {s : Str} (h1 : getO stk l = some (.bld T u (.msl l1 g 0 0))) (h2 : getO stk l1 = some (.hid E g s)) : bldAt T E l stk = some (u, l1, g, s) := by
  unfold bldAt
  simp only [h1, h2, if_true]
theorem bbyte_at {T E : Nat} {l l1 : Lab} {stk : Stk} {u : Bool} {g : Nat} {s s1 : Str} {a : Int} (h1 : getO stk l = some (.bld T u (.msl l1 g 0 0))) (h2 : getO stk l1 = some (.hid E g s)) (h : bbyte s a = some s1) :
    effByte T E [.ref l 0, .d (.int .u8 a)] stk = some (.d .nili, setO (setO stk l1 (.hid E (g + 1) s1)) l (.bld T true (.msl l1 (g + 1) 0 0))) := by
  unfold bbyte at h
  split at h <;> try (cases h; done)
  rename_i hc
  simp only [effByte, if_pos hc, bldPut, bldAt_of h1 h2, h]
theorem bstr_at {T E : Nat} {l l1 : Lab} {stk : Stk} {u : Bool} {g : Nat} {s a s1 : Str} {n : Int} (h1 : getO stk l = some (.bld T u (.msl l1 g 0 0))) (h2 : getO stk l1 = some (.hid E g s)) (h : bstr s a = some (s1, n)) :
    effStr T E [.ref l 0, .d (.str a)] stk = some (.d (.tup [.int .i64 n, .nili]), setO (setO stk l1 (.hid E (g + 1) s1)) l (.bld T true (.msl l1 (g + 1) 0 0))) := by
  unfold bstr at h
  split at h <;> try (cases h; done)
  rename_i s2 hc
  cases h
  simp only [effStr, bldPut, bldAt_of h1 h2, hc]
theorem brune_at {T E : Nat} {l l1 : Lab} {stk : Stk} {u : Bool} {g : Nat} {s s1 : Str} {a n : Int} (h1 : getO stk l = some (.bld T u (.msl l1 g 0 0))) (h2 : getO stk l1 = some (.hid E g s)) (h : brune s a = some (s1, n)) :
    effRune T E [.ref l 0, .d (.int .i32 a)] stk = some (.d (.tup [.int .i64 n, .nili]), setO (setO stk l1 (.hid E (g + 1) s1)) l (.bld T true (.msl l1 (g + 1) 0 0))) := by
  unfold brune at h
  split at h <;> try (cases h; done)
  rename_i hr
  split at h <;> try (cases h; done)
  rename_i s2 hc
  cases h
  simp only [effRune, if_pos hr, bldPut, bldAt_of h1 h2, hc]
theorem btext_at {T E : Nat} {l l1 : Lab} {stk : Stk} {u : Bool} {g : Nat} {s s1 : Str} (h1 : getO stk l = some (.bld T u (.msl l1 g 0 0))) (h2 : getO stk l1 = some (.hid E g s)) (h : btext s = some s1) :
    effText T E [.ref l 0] stk = some (.d (.str s1), setO (setO stk l1 (.hid E (g + 1) [])) l (.bld T u .dead)) := by
  cases h
  simp only [effText, bldAt_of h1 h2]
end Go.Abs
