import Derived.Test.YtldbgghcailgfaaPureAGreat
set_option linter.unusedVariables false
set_option linter.unusedSimpArgs false
set_option maxRecDepth 100000
namespace GW
open Go Go.RowKit
theorem next1 (i : Nat) (h : i < 4611686018427387904) : wr .i64 ((i : Int) + 1) = ((i + 1 : Nat) : Int) := by rw [wr_i64_id (by omega) (by omega)]; omega
theorem same_l (x : L34) (hl : x.2.2.2.2.length < 4611686018427387904) : ∀ (r i q : Nat), i + r = x.2.2.2.2.length → r < q → smithyref13_Same.l1 x x q (i : Int) = some true
  | 0, i, q, hi, hq => by
    obtain ⟨q, rfl⟩ : ∃ m, q = m + 1 := ⟨q - 1, by omega⟩
    show smithyref13_Same.b1 _ _ _ _ = _
    unfold smithyref13_Same.b1
    rw [if_neg (by simp; omega)]; rfl
  | r + 1, i, q, hi, hq => by
    obtain ⟨q, rfl⟩ : ∃ m, q = m + 1 := ⟨q - 1, by omega⟩
    show smithyref13_Same.b1 _ _ _ _ = _
    unfold smithyref13_Same.b1
    rw [if_pos (by simp; omega), if_pos (by omega), if_pos (by omega), if_neg (by simp), next1 i (by omega)]
    exact same_l x hl r (i + 1) q (by omega) (by omega)
theorem same_self (x : L34) (k : Nat) (hk : x.2.2.2.2.length < k) (hl : x.2.2.2.2.length < 4611686018427387904) : smithyref13_Same.f k x x = some true := by
  unfold smithyref13_Same.f smithyref13_Same.j1
  rw [if_neg (by simp), if_neg (by simp), if_neg (by simp), if_neg (by simp), if_neg (by simp)]
  exact same_l x hl x.2.2.2.2.length 0 k (by omega) hk
end GW
