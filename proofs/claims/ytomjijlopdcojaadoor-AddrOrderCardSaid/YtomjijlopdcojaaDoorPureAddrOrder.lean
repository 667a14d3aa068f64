/-
  What the law 'AddrOrder' says of plain Lean values.
-/
import Derived.Test.YtomjijlopdcojaaDoorPureOrder
set_option linter.unusedVariables false
set_option linter.unusedSimpArgs false
namespace GW
open Go Go.RowKit
theorem smithylaw08_AddrOrder_true (a0 : List Int) (a1 : List Int) (l0 : a0.length = 20) (w0 : ∀ y ∈ a0, inK .u8 y) (l1 : a1.length = 20) (w1 : ∀ y ∈ a1, inK .u8 y) : ∃ k : Nat, smithylaw08_AddrOrder.f k a0 a1 = some true := by
  refine ⟨4000, ?_⟩
  have b0 : ∀ y ∈ a0, 0 ≤ y ∧ y < 256 := fun y hy => inK_u8 (w0 y hy)
  have b1 : ∀ y ∈ a1, 0 ≤ y ∧ y < 256 := fun y hy => inK_u8 (w1 y hy)
  obtain ⟨z, z1, z2⟩ := prec_eq a0 l0 b0
  obtain ⟨n1, n2⟩ := cmpI_neg a0 a1
  have key : ∀ y : Int, y = cmpI a0 a1 → smithylaw08_AddrOrder.j2 4000 a0 a1 y = some true := by
    intro y hy
    subst hy
    unfold smithylaw08_AddrOrder.j2
    rw [fixed_eq, Option.bind_some, if_pos rfl, compare_eq a0 a1 l0 l1 b0 b1, Option.bind_some, if_pos (by simp), compare_eq a1 a0 l1 l0 b1 b0, Option.bind_some, n1]
    have e : wr .i64 (0 - cmpI a0 a1) = - cmpI a0 a1 := by rw [wr_i64_id (by omega) (by omega)]; omega
    rw [e, if_pos (by simp), z1, Option.bind_some, z2, Option.bind_some]
    simp
  unfold smithylaw08_AddrOrder.f smithylaw08_AddrOrder.j1
  rw [less_eq a0 a1 l0 l1, less_eq a1 a0 l1 l0, n1]
  simp only [Option.bind_some]
  rcases n2 with h | h | h
  · rw [if_pos (by simp [h]), if_neg (by simp [h])]
    exact key _ h.symm
  · rw [if_neg (by simp [h]), if_neg (by simp [h])]
    exact key _ h.symm
  · rw [if_neg (by simp [h]), if_pos (by simp [h])]
    exact key _ h.symm
end GW
