import Derived.Test.YtacabmodmbcldaaDoorMT2
/-! Right values: the reference's answer, and the tree's. -/
set_option linter.unusedVariables false
set_option linter.unusedSimpArgs false
namespace Go.Abs.T
open M
def headOk (k n : Int) (s : Str) (l : List Val) (f : List Par) : Bool :=
  decide ((0 ≤ k ∧ k ≤ 5) ∧ (k = 1 ∨ k = 2 ∨ n = 0) ∧ (k = 3 ∨ s = []) ∧ (k = 4 ∨ l.length = 0) ∧ (k = 5 ∨ f.length = 0) ∧ (k ≠ 1 ∨ n = 0 ∨ n = 1) ∧ -9007199254740991 ≤ n ∧ n ≤ 9007199254740991) && isT s
def keysS : List Str → List Par → Bool
  | _, [] => true
  | seen, p :: r => !seen.contains (keyOf p) && isT (keyOf p) && keysS (seen ++ [keyOf p]) r
/-- A right value of so many levels. -/
def rR : Nat → Val → Bool
  | 0, _ => false
  | d + 1, .mk k n s l f => headOk k n s l f && l.all (rR d) && keysS [] f && f.all (fun p => rR d (valOf p))
theorem keysS_drop (f : List Par) {i : Nat} (hi : i < f.length) : keysS ((f.take i).map keyOf) (f.drop i) = (!((f.take i).map keyOf).contains (keyOf f[i]) && isT (keyOf f[i]) && keysS ((f.take (i + 1)).map keyOf) (f.drop (i + 1))) := by
  rw [List.drop_eq_getElem_cons hi, keysS]
  congr 2
  rw [List.take_succ_eq_append_getElem hi, List.map_append]
  rfl
theorem keyOf_mk (k : Str) (v : Val) : keyOf (.mk k v) = k := rfl
theorem valOf_mk (k : Str) (v : Val) : valOf (.mk k v) = v := rfl
end Go.Abs.T
