/-
  What the law 'StoreTells' says of plain Lean values.
-/
import Derived.Test.YtmidfllhoogifaaPureStore
set_option linter.unusedVariables false
set_option maxRecDepth 100000
namespace GW
open Go Go.RowKit
theorem smithylaw13_StoreTells_true (a0 : L30) (w0 : Gd30 a0) : ∃ k : Nat, smithylaw13_StoreTells.f k a0 = some true := by
  refine ⟨1000, ?_⟩
  have fx : smithylaw13_fixed.f 1000 = some true := by kernel_rfl
  unfold smithylaw13_StoreTells.f
  rw [show ([(a0.1, a0.2.1, a0.2.2.1, a0.2.2.2.1, a0.2.2.2.2)] : List L30) = [a0] from rfl, fx]
  rcases great13 [a0] 1000 (by omega) with h | ⟨h, -, h2⟩
  · rw [h]; rfl
  · obtain ⟨s1, s2⟩ := h2 a0 (by simp)
    obtain ⟨b, b1, b2⟩ := rights_eq 960 a0 w0.2.2.2.2 (by omega)
    obtain ⟨e, e1, e2⟩ := empty_eq a0
    rw [h, Option.bind_some, if_neg (by simp), Option.bind_some, if_pos rfl, show store_Right.f 1000 (a0.1, a0.2.1, a0.2.2.1, a0.2.2.2.1, a0.2.2.2.2) = some b from b1, Option.bind_some, show smithyref13_Right.f 1000 (a0.1, a0.2.1, a0.2.2.1, a0.2.2.2.1, a0.2.2.2.2) = some b from b2, Option.bind_some, if_pos (by simp), show store_Empty.f (a0.1, a0.2.1, a0.2.2.1, a0.2.2.2.1, a0.2.2.2.2) = some e from e1, Option.bind_some, show smithyref13_Empty.f (a0.1, a0.2.1, a0.2.2.1, a0.2.2.2.1, a0.2.2.2.2) = some e from e2, Option.bind_some]
    simp
end GW
