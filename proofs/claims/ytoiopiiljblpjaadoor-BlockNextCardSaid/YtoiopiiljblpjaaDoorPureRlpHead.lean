import Derived.Test.YtoiopiiljblpjaaDoorPureRlpTree
set_option linter.unusedVariables false
set_option linter.unusedSimpArgs false
namespace GW
open Go Go.RowKit
theorem refHead_eq (n o : Nat) (hn : n < 16777216) (ho : o = 0 ∨ o = 64) (k : Nat) : smithyref07_Head.f (k + 40) (n : Int) (o : Int) = some (hd n o) := by
  have hb := beb_len n
  by_cases h : n ≤ 55
  · unfold smithyref07_Head.f hd
    rw [if_pos (by simpa using by omega), if_pos h, wr_i64_id (x := 128 + (o : Int)) (by omega) (by omega), wr_i64_id (by omega) (by omega)]
    rcases ho with rfl | rfl <;> (simp only [wr_u8]; refine congrArg (fun x => some [x]) ?_; omega)
  · obtain ⟨n1, n2⟩ := num_small n hn (by omega) k
    unfold smithyref07_Head.f hd
    rw [if_neg (by simpa using by omega), if_neg h, wr_u64_id (by omega) (by omega), n2, Option.bind_some, wr_i64_id (x := 183 + (o : Int)) (by omega) (by omega), wr_i64_id (by omega) (by omega), if_pos (by simp; omega)]
    rcases ho with rfl | rfl <;> (simp only [wr_u8, List.singleton_append]; refine congrArg (fun x => some (x :: beb n)) ?_; omega)
end GW
