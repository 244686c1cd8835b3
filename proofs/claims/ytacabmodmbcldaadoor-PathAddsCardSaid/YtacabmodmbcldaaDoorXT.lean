import Derived.Test.YtacabmodmbcldaaDoorAbsL
import Derived.Shelf.Unicode.DecodeSlow
import Derived.Lib.Bytealg
/-! What is left to contracts: the library's decoder of runes. -/
set_option linter.unusedSimpArgs false
set_option linter.unusedVariables false
namespace Go.Abs.T
def firstTab : List D := (List.range 256).map fun c => .int .u8 (Lib.firstT c)
def rangesTab : List D := (List.range 16).flatMap fun c => [.int .u8 (Lib.accLo c), .int .u8 (Lib.accHi c)]
def glob : Nat → Option (List D)
  | 1 => some firstTab
  | 2 => some rangesTab
  | _ => none
def ext_zfl : List V → Option D
  | [.d (.str s)] => some (.tup [.int .i32 (Lib.decodeGo ⟨⟨s⟩⟩).1, .int .i64 (Lib.decodeGo ⟨⟨s⟩⟩).2])
  | _ => none
def p_zfl (s : Str) : Option (Int × Int) := some ((Lib.decodeGo ⟨⟨s⟩⟩).1, (Lib.decodeGo ⟨⟨s⟩⟩).2)
theorem x_zfl {a0 : Str} {r0 r1 : Int} (h : p_zfl a0 = some (r0, r1)) : ext_zfl [.d (.str a0)] = some (.tup [.int .i32 r0, .int .i64 r1]) := by
  cases h; rfl
/-- Two rows put together. -/
def catD (esz bytes : Nat) : List V → Option D
  | [.d (.sl [.sl a, .sl b])] => if (a.length + b.length) * bytes ≤ room ∧ allSz esz a = true ∧ allSz esz b = true then some (.sl (a ++ b)) else none
  | _ => none
def ext_zdr : List V → Option D := catD 5 80
end Go.Abs.T
