import Derived.Test.YtdajnflppnlhiaaGWOps
set_option linter.unusedVariables false
namespace GW
open Go Go.RowKit
theorem inK_u64 {x:Int}(h:inK .u64 x):0≤x∧x<18446744073709551616:=by
 have:(0:Int)≤x∧x≤18446744073709551615:=by simpa [inK,Lit.wf,IntKind.min,IntKind.max,IntKind.signed,IntKind.bits] using h
 omega
theorem wr_u64 (x:Int):wr .u64 x=x % 18446744073709551616:=by simp [wr,IntKind.wrap,IntKind.signed,IntKind.bits]
theorem wr_i64 (x:Int):wr .i64 x=if x % 18446744073709551616≥9223372036854775808 then x % 18446744073709551616 - 18446744073709551616 else x % 18446744073709551616:=by simp [wr,IntKind.wrap,IntKind.signed,IntKind.bits]
theorem wr_u64_id {x:Int}(h0:0≤x)(h1:x<18446744073709551616):wr .u64 x=x:=by rw [wr_u64]; omega
theorem wr_i64_id {x:Int}(h0 : -9223372036854775808≤x)(h1:x<9223372036854775808):wr .i64 x=x:=by rw [wr_i64]; split <;> omega
theorem tmod_pos {x y:Int}(h0:0≤x):Int.tmod x y=x % y:=Int.tmod_eq_emod_of_nonneg h0
end GW
