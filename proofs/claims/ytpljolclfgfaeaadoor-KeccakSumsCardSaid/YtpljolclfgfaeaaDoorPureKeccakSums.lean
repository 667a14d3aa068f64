/-
  What the law 'KeccakSums' says of plain Lean values: both hashes, and both words of them, are the same.
-/
import Derived.Test.YtpljolclfgfaeaaDoorPureSum
import Derived.Test.YtpljolclfgfaeaaDoorPureWord
set_option linter.unusedVariables false
set_option linter.unusedSimpArgs false
namespace GW
open Go Go.RowKit
theorem smithylaw05_KeccakSums_true (a0 : List Int) (w0 : Gd27 a0) : ∃ k : Nat, smithylaw05_KeccakSums.f k a0 = some true := by
  refine ⟨4000, ?_⟩
  unfold smithylaw05_KeccakSums.f
  by_cases h : 3000 < (a0.length : Int)
  · rw [if_pos (by simpa using h), fixed_eq]
    rfl
  · have hl : a0.length ≤ 3600 := by omega
    obtain ⟨z, z1, z2, z3, z4⟩ := sums_eq a0 hl
    obtain ⟨w, w1, w2⟩ := from_eq z z3 z4
    have hz : ([] : List Int) ++ a0 = a0 := rfl
    have hz2 : (z.drop 0).take 32 = z := by rw [List.drop_zero, List.take_of_length_le (by omega)]
    have e1 : keccak_Word.f 4000 a0 = some w := by
      unfold keccak_Word.f
      rw [z1, Option.bind_some, hz2, w1]
      rfl
    have e2 : smithyref05_Word.f 4000 a0 = some w := by
      unfold smithyref05_Word.f
      rw [z2, Option.bind_some, hz2]
      cases hf : smithyref01_From.f 4000 z with
      | none => rw [hf] at w2; cases w2
      | some q =>
        rw [hf] at w2
        rw [Option.bind_some] at w2 ⊢
        rw [w2]
        rfl
    rw [if_neg (by simpa using h), if_pos (by simp; omega), fixed_eq, Option.bind_some, if_pos rfl, hz, z1, z2, Option.bind_some, Option.bind_some, if_pos (by simp), e1, e2, Option.bind_some, Option.bind_some, if_pos (by simp)]
    simp
end GW
