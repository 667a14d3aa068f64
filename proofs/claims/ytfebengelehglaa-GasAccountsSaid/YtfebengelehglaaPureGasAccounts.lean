/-
  What the law 'GasAccounts' says of plain values.
-/
import Derived.Test.YtfebengelehglaaG0
set_option linter.unusedVariables false
namespace GW
open Go Go.RowKit
theorem f6_smithylaw12_GasAccounts_true (a0 : Bool) (a1 : Bool) (a2 : Bool) : ∃ k : Nat, f6_smithylaw12_GasAccounts.f a0 a1 a2 = some true := by
  refine ⟨0, ?_⟩
  cases a0 <;> cases a1 <;> cases a2 <;> kernel_rfl
end GW
