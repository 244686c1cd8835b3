import Derived.Test.YtacabmodmbcldaaDoorAbs22
import Derived.WideShapes
/-! What is handed in: rows of natives. -/
set_option linter.unusedVariables false
namespace Go.Abs
section
variable {P : Program} {H : Type} {enc : TypeId × Value → H} {W : World}
end
end Go.Abs
