import Derived.Test.YtbfnelnbjcfliaaDoorAbsL
import Derived.Shelf.Unicode.DecodeSlow
import Derived.Lib.Bytealg
/-! What is left to contracts: the library's decoder of runes. -/
set_option linter.unusedSimpArgs false
set_option linter.unusedVariables false
namespace Go.Abs.T
def firstTab : List D := (List.range 256).map fun c => .int .u8 (Lib.firstT c)
def rangesTab : List D := (List.range 16).flatMap fun c => [.int .u8 (Lib.accLo c), .int .u8 (Lib.accHi c)]
def glob : Nat → Option (List D)
  | 0 => some firstTab
  | 1 => some rangesTab
  | _ => none
def ext_zdj : List V → Option D
  | [.d (.str s)] => some (.tup [.int .i32 (Lib.decodeGo ⟨⟨s⟩⟩).1, .int .i64 (Lib.decodeGo ⟨⟨s⟩⟩).2])
  | _ => none
def p_zdj (s : Str) : Option (Int × Int) := some ((Lib.decodeGo ⟨⟨s⟩⟩).1, (Lib.decodeGo ⟨⟨s⟩⟩).2)
theorem x_zdj {a0 : Str} {r0 r1 : Int} (h : p_zdj a0 = some (r0, r1)) : ext_zdj [.d (.str a0)] = some (.tup [.int .i32 r0, .int .i64 r1]) := by
  cases h; rfl
end Go.Abs.T
