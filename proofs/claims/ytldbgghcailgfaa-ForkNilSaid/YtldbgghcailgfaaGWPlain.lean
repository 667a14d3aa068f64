import Derived.Test.YtldbgghcailgfaaGWOps
set_option linter.unusedVariables false
namespace GW
open Go Go.RowKit
theorem wr_i64 (x : Int) : wr .i64 x = if x % 18446744073709551616 ≥ 9223372036854775808 then x % 18446744073709551616 - 18446744073709551616 else x % 18446744073709551616 := by simp [wr, IntKind.wrap, IntKind.signed, IntKind.bits]
theorem wr_i64_id {x : Int} (h0 : -9223372036854775808 ≤ x) (h1 : x < 9223372036854775808) : wr .i64 x = x := by rw [wr_i64]; split <;> omega
end GW
