import Derived.Test.YtacabmodmbcldaaDoorAbsL
import Derived.Shelf.Strings.OnBuilder
import Derived.Shelf.Strings.Replace
/-! What is left to contracts: the library's texts. -/
set_option linter.unusedSimpArgs false
set_option linter.unusedVariables false
namespace Go.Abs.Q
def glob : Nat → Option (List D)
  | 0 => some [.any]
  | _ => none
def isBl (c : UInt8) : Bool := c == 32 || c == 9
def strsOf : List D → Option (List Str)
  | [] => some []
  | .str s :: r => match strsOf r with
    | some l => some (s :: l)
    | none => none
  | _ :: _ => none
theorem strsOf_map (f : Str → D) (hf : ∀ s, f s = .str s) : ∀ l : List Str, strsOf (l.map f) = some l
  | [] => rfl
  | s :: r => by simp only [List.map_cons, hf, strsOf, strsOf_map f hf r]
def ext_strings_IndexByte : List V → Option D
  | [.d (.str s), .d (.int .u8 c)] => some (.int .i64 (Lib.indexByte s c.toNat.toUInt8))
  | _ => none
def p_strings_IndexByte (s : Str) (c : Int) : Option Int := some (Lib.indexByte s c.toNat.toUInt8)
theorem x_strings_IndexByte {a0 : Str} {a1 r0 : Int} (h : p_strings_IndexByte a0 a1 = some r0) : ext_strings_IndexByte [.d (.str a0), .d (.int .u8 a1)] = some (.int .i64 r0) := by
  cases h; rfl
def ext_strings_HasPrefix : List V → Option D
  | [.d (.str s), .d (.str p)] => some (.bool (Lib.hasPrefix s p))
  | _ => none
def p_strings_HasPrefix (s p : Str) : Option Bool := some (Lib.hasPrefix s p)
theorem x_strings_HasPrefix {a0 a1 : Str} {r0 : Bool} (h : p_strings_HasPrefix a0 a1 = some r0) : ext_strings_HasPrefix [.d (.str a0), .d (.str a1)] = some (.bool r0) := by
  cases h; rfl
def ext_strings_HasSuffix : List V → Option D
  | [.d (.str s), .d (.str p)] => if s.length ≤ 9223372036854775807 then some (.bool (Lib.hasSuffix s p)) else none
  | _ => none
def p_strings_HasSuffix (s p : Str) : Option Bool := if s.length ≤ 9223372036854775807 then some (Lib.hasSuffix s p) else none
theorem x_strings_HasSuffix {a0 a1 : Str} {r0 : Bool} (h : p_strings_HasSuffix a0 a1 = some r0) : ext_strings_HasSuffix [.d (.str a0), .d (.str a1)] = some (.bool r0) := by
  unfold p_strings_HasSuffix at h
  split at h <;> cases h
  rename_i c
  simp only [ext_strings_HasSuffix, if_pos c]
def ext_strings_Contains : List V → Option D
  | [.d (.str s), .d (.str [c])] => some (.bool (decide (0 ≤ Lib.indexByte s c)))
  | _ => none
def p_strings_Contains (s : Str) : Str → Option Bool
  | [c] => some (decide (0 ≤ Lib.indexByte s c))
  | _ => none
theorem x_strings_Contains {a0 a1 : Str} {r0 : Bool} (h : p_strings_Contains a0 a1 = some r0) : ext_strings_Contains [.d (.str a0), .d (.str a1)] = some (.bool r0) := by
  unfold p_strings_Contains at h
  split at h <;> cases h
  rfl
/-- What is asked of a text, and of what is put in the place of what. -/
def repOk (s old new : Str) : Bool := decide (s.length < 4294967281) && decide (1 ≤ old.length) && decide (s.length + Lib.countB ⟨⟨s⟩⟩ ⟨⟨old⟩⟩ * new.length ≤ 140737488355328)
def ext_strings_ReplaceAll : List V → Option D
  | [.d (.str s), .d (.str old), .d (.str new)] => if repOk s old new = true then some (.str (Lib.replaceAll s old new)) else none
  | _ => none
def p_strings_ReplaceAll (s old new : Str) : Option Str := if repOk s old new = true then some (Lib.replaceAll s old new) else none
theorem x_strings_ReplaceAll {a0 a1 a2 r0 : Str} (h : p_strings_ReplaceAll a0 a1 a2 = some r0) : ext_strings_ReplaceAll [.d (.str a0), .d (.str a1), .d (.str a2)] = some (.str r0) := by
  unfold p_strings_ReplaceAll at h
  split at h <;> cases h
  rename_i c
  simp only [ext_strings_ReplaceAll, if_pos c]
def joinOk (l : List Str) (sep : Str) : Bool := decide (l.length ≤ 140737488355328) && decide ((Lib.join l sep).length ≤ 140737488355328)
def ext_strings_Join : List V → Option D
  | [.d (.sl xs), .d (.str sep)] => match strsOf xs with
    | some l => if joinOk l sep = true then some (.str (Lib.join l sep)) else none
    | none => none
  | _ => none
def p_strings_Join (l : List Str) (sep : Str) : Option Str := if joinOk l sep = true then some (Lib.join l sep) else none
theorem x_strings_Join {a0 : List Str} {a1 r0 : Str} (h : p_strings_Join a0 a1 = some r0) : ext_strings_Join [.d (.sl (a0.map fun x => .str x)), .d (.str a1)] = some (.str r0) := by
  unfold p_strings_Join at h
  split at h <;> cases h
  rename_i c
  simp only [ext_strings_Join, strsOf_map _ (fun _ => rfl), if_pos c]
def ext_strings_TrimLeft : List V → Option D
  | [.d (.str s), .d (.str [32, 9])] => some (.str (s.dropWhile isBl))
  | _ => none
def p_strings_TrimLeft (s : Str) : Str → Option Str
  | [32, 9] => some (s.dropWhile isBl)
  | _ => none
theorem x_strings_TrimLeft {a0 a1 r0 : Str} (h : p_strings_TrimLeft a0 a1 = some r0) : ext_strings_TrimLeft [.d (.str a0), .d (.str a1)] = some (.str r0) := by
  unfold p_strings_TrimLeft at h
  split at h <;> cases h
  rfl
end Go.Abs.Q
