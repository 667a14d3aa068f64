import Derived.Test.YtmidfllhoogifaaPureGreat
set_option linter.unusedVariables false
set_option maxRecDepth 100000
namespace GW
open Go Go.RowKit
theorem smithylaw13_StoreNil_true (a0 : Int × (List L30)) (a1 : List Int) (w0 : Gd40 a0) (l1 : a1.length = 20) (w1 : ∀ y ∈ a1, inK .u8 y) : ∃ k : Nat, smithylaw13_StoreNil.f k a0 a1 = some true := by
  refine ⟨1000, ?_⟩
  have fx : smithylaw13_fixed.f 1000 = some true := by kernel_rfl
  have e1 : store_Store_Find_0nil.f 1000 a0.1 a1 = some ((List.replicate 20 0, 0, [0, 0, 0, 0], [], []), false) := rfl
  have e2 : store_Store_Parent_0nil.f a0.1 = some (0, false) := rfl
  have e3 : store_Store_All_0nil.f 1000 0 = some [] := rfl
  have e4 : store_Store_Slot_0nil.f 1000 0 a1 [0, 0, 0, 0] = some [0, 0, 0, 0] := rfl
  unfold smithylaw13_StoreNil.f
  rw [fx, e1, e2, e3, e4]
  rcases great13 a0.2 1000 (by omega) with h | ⟨h, -, h2⟩
  · rw [h]; rfl
  · rw [h]; rfl
end GW
