/-
  What the law 'RlpNumbers' says of plain Lean values.
-/
import Derived.Test.YthkgelaoidbkdaaPureNumber
import Derived.Test.YthkgelaoidbkdaaPureFixed
set_option linter.unusedVariables false
namespace GW
open Go Go.RowKit
theorem rd_drop0 (t : List Int) (n : Nat) : rd (t.drop n) 0 = rd t (n : Int) := by
  unfold rd
  simp [List.getElem?_drop]
theorem smithylaw07_RlpNumbers_true (a0 : List Int) (l0 : a0.length = 4) (w0 : ∀ y ∈ a0, inK .u64 y) : ∃ k : Nat, smithylaw07_RlpNumbers.f k a0 = some true := by
  obtain ⟨n, n1, e, hz⟩ := number_eq l0 w0
  refine ⟨60 + 40, ?_⟩
  unfold smithylaw07_RlpNumbers.f smithylaw07_RlpNumbers.j1
  rw [(e 60).1, (e 60).2, Option.bind_some, fixed_100, Option.bind_some, if_pos rfl, Option.bind_some, if_pos (by simp)]
  by_cases c : n = 0
  · rw [if_pos (by subst c; simp [wbytes_len])]
  · rw [if_neg (by simp [wbytes_len]; omega), if_pos (by simp [wbytes_len]; omega), rd_drop0]
    simpa using hz c
end GW
