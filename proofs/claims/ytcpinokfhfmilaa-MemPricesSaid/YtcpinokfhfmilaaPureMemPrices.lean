/-
  What the law 'MemPrices' says of plain Lean values.
-/
import Derived.Test.YtcpinokfhfmilaaPureMem
set_option linter.unusedVariables false
set_option linter.unusedSimpArgs false
namespace GW
open Go Go.RowKit
theorem smithylaw10_MemPrices_true (a0 : Int) (w0 : inK .u64 a0) : ∃ k : Nat, smithylaw10_MemPrices.f a0 = some true := by
  have h := inK_u64 w0
  refine ⟨0, ?_⟩
  unfold smithylaw10_MemPrices.f
  rw [words_mem a0 h.1 h.2, words_ref a0 h.1 h.2, fixed10]
  simp only [Option.bind_some]
  rw [if_neg (by simp)]
  by_cases h1 : 4294967296 < a0
  · have e : mem_Price.f a0 = some 18446744073709551615 := by unfold mem_Price.f; rw [if_pos (by simpa using h1)]
    simp [h1, e]
  · by_cases h2 : a0 = 4294967296
    · subst h2
      kernel_rfl
    · rw [price_mem a0 h.1 (by omega), price_ref a0 h.1 (by omega)]
      simp [h1, h2]
end GW
