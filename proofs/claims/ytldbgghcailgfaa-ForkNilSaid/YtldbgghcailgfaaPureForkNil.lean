import Derived.Test.YtldbgghcailgfaaPureAFind
set_option linter.unusedVariables false
set_option linter.unusedSimpArgs false
set_option maxRecDepth 100000
namespace GW
open Go Go.RowKit
theorem smithylaw15_ForkNil_true (a0 : L34) (w0 : Gd34 a0) : ∃ k : Nat, smithylaw15_ForkNil.f k a0 = some true := by
  refine ⟨1000, ?_⟩
  have fx : smithylaw15_fixed.f 1000 = some true := by kernel_rfl
  unfold smithylaw15_ForkNil.f
  rcases great13 [a0] 1000 (by omega) with h | ⟨h, hl, h2⟩
  · rw [h, Option.bind_some, if_pos rfl, fx]; rfl
  · rw [h, Option.bind_some, if_neg (by simp)]
    have e1 : fork_Cache_Account_0nil.f a0.1 = some ((a0.1, 0, [0, 0, 0, 0], ([] : List Int), ([] : List ((List Int) × (List Int)))), false) := rfl
    rw [e1, Option.bind_some, fx, Option.bind_some, if_pos rfl, if_pos (by simp), same_self (a0.1, 0, [0, 0, 0, 0], ([] : List Int), ([] : List ((List Int) × (List Int)))) 1000 (by show (0 : Nat) < 1000; omega) (by show (0 : Nat) < 4611686018427387904; omega)]
    rfl
end GW
