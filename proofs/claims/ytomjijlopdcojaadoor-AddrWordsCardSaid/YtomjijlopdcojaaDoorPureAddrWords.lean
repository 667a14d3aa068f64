/-
  What the law 'AddrWords' says of plain Lean values.
-/
import Derived.Test.YtomjijlopdcojaaDoorPureAddr
set_option linter.unusedVariables false
set_option linter.unusedSimpArgs false
namespace GW
open Go Go.RowKit
theorem smithylaw08_AddrWords_true (a0 : List Int) (a1 : List Int) (l0 : a0.length = 20) (w0 : ∀ y ∈ a0, inK .u8 y) (l1 : a1.length = 4) (w1 : ∀ y ∈ a1, inK .u64 y) : ∃ k : Nat, smithylaw08_AddrWords.f k a0 a1 = some true := by
  refine ⟨4000, ?_⟩
  have b0 : ∀ y ∈ a0, 0 ≤ y ∧ y < 256 := fun y hy => inK_u8 (w0 y hy)
  obtain ⟨z, z1, z2⟩ := word_eq8 a0 l0 b0
  obtain ⟨q, q1, q2⟩ := of_eq8 a1 l1 (fun y hy => (inK_u64 (w1 y hy)).1)
  obtain ⟨z', y1, y2⟩ := back_eq a0 l0 b0
  obtain rfl : z = z' := Option.some.inj (z1.symm.trans y1)
  unfold smithylaw08_AddrWords.f
  rw [fixed_eq, Option.bind_some, if_pos rfl, z1, z2, Option.bind_some, Option.bind_some, if_pos (by simp), q1, q2, Option.bind_some, Option.bind_some, if_pos (by simp), Option.bind_some, y2, Option.bind_some]
  simp
end GW
