/-
  The three sample codings, closed.
-/
import Derived.Test.YthkgelaoidbkdaaG0
import Derived.Test.YthkgelaoidbkdaaGWPlain
set_option linter.unusedVariables false
set_option maxRecDepth 100000
namespace GW
open Go Go.RowKit
theorem fixed_100 : smithylaw07_fixed.f 100 = some true := by kernel_rfl
theorem fixed_k (k : Nat) : smithylaw07_fixed.f (k + 60) = some true := by kernel_rfl
end GW
