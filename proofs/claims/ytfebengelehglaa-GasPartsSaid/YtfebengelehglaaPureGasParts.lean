/-
  What the law 'GasParts' says of plain Lean values.
-/
import Derived.Test.YtfebengelehglaaG0
import Derived.Test.YtfebengelehglaaGWPlain
set_option linter.unusedVariables false
namespace GW
open Go Go.RowKit
theorem fixed_eq : f11_smithylaw12_fixed.f = some true := by kernel_rfl
theorem f5_smithylaw12_GasParts_true (a0 : Int) (a1 : Int) (a2 : Int) (w0 : inK .u64 a0) (w1 : inK .u64 a1) (w2 : inK .u64 a2) : ∃ k : Nat, f5_smithylaw12_GasParts.f a0 a1 a2 = some true := by
  refine ⟨0, ?_⟩
  have h0 := inK_u64 w0
  have h1 := inK_u64 w1
  have h2 := inK_u64 w2
  have e0 : wr .u64 (Int.tdiv a0 64) = a0 / 64 := by rw [tdiv_pos h0.1]; exact wr_u64_id (by omega) (by omega)
  have e1 : wr .u64 (Int.tdiv a1 5) = a1 / 5 := by rw [tdiv_pos h1.1]; exact wr_u64_id (by omega) (by omega)
  have e2 : wr .u64 (a0 - a0 / 64) = a0 - a0 / 64 := wr_u64_id (by omega) (by omega)
  simp only [f5_smithylaw12_GasParts.f, f5_smithylaw12_GasParts.j1, f12_gas_Part.f, f13_gas_Refund.f, fixed_eq, e0, e1, e2, Option.bind_some, if_true, beq_self_eq_true, imin]
  have h3 : a0 - a0 / 64 ≤ a0 := by omega
  by_cases h : a2 < a1 / 5
  · have h4 : ¬ a1 / 5 < a2 := by omega
    have h5 : a2 ≤ a1 := by omega
    simp [h, h3, h4, h5]
  · by_cases h4 : a1 / 5 < a2
    · have h5 : a1 / 5 ≤ a1 := by omega
      simp [h, h3, h4, h5]
    · have h5 : a2 ≤ a1 := by omega
      have h6 : a2 = a1 / 5 := by omega
      simp [h, h3, h4, h5, h6]
      omega
end GW
