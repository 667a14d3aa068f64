/-
  What the law 'AddrSalts' says of plain Lean values.
-/
import Derived.Test.YtomjijlopdcojaaDoorPureSalts
set_option linter.unusedVariables false
set_option linter.unusedSimpArgs false
namespace GW
open Go Go.RowKit
theorem smithylaw08_AddrSalts_true (a0 : List Int) (a1 : List Int) (a2 : List Int) (l0 : a0.length = 20) (w0 : ∀ y ∈ a0, inK .u8 y) (l1 : a1.length = 4) (w1 : ∀ y ∈ a1, inK .u64 y) (w2 : Gd27 a2) : ∃ k : Nat, smithylaw08_AddrSalts.f k a0 a1 a2 = some true := by
  refine ⟨4000, ?_⟩
  unfold smithylaw08_AddrSalts.f
  by_cases h : (3000 : Int) < (a2.length : Int)
  · rw [if_pos (by simpa using h), fixed_eq]; rfl
  · obtain ⟨z, z1, z2⟩ := create2_eq a0 a1 a2 l0 l1 (fun y hy => (inK_u64 (w1 y hy)).1) (by omega)
    rw [if_neg (by simpa using h), if_pos (by simp; omega), fixed_eq, Option.bind_some, if_pos rfl, List.nil_append, z1, Option.bind_some, z2, Option.bind_some]
    simp
end GW
