/-
  What the law 'KeccakTurns' says of plain Lean values: both ways through all rounds come to the same; the example's hash is reckoned out.
-/
import Derived.Test.YtpljolclfgfaeaaDoorPureFixed
set_option linter.unusedVariables false
namespace GW
open Go Go.RowKit

theorem smithylaw05_KeccakTurns_true (a0 : List Int) (l0 : a0.length = 25) (w0 : ∀ y ∈ a0, inK .u64 y) : ∃ k : Nat, smithylaw05_KeccakTurns.f k a0 = some true := by
  refine ⟨200, ?_⟩
  obtain ⟨z, h1, h2, _⟩ := turns_eq a0 l0 (fun x hx => inK_u64 (w0 x hx))
  unfold smithylaw05_KeccakTurns.f
  rw [fixed_eq, h1, h2]
  simp
end GW
