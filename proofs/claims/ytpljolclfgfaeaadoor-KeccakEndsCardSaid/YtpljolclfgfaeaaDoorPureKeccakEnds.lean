/-
  What the law 'KeccakEnds' says of plain Lean values: whatever bytes stand in the row, both hashes are the same.
-/
import Derived.Test.YtpljolclfgfaeaaDoorPureSum
set_option linter.unusedVariables false
set_option linter.unusedSimpArgs false
namespace GW
open Go Go.RowKit
theorem ends_loop (x1 x2 : Int) (n : Nat) (hn : Int.toNat (wr .i64 (130 + Int.tmod (wr .i64 x1) 16)) = n) (hb : n ≤ 3600) (d : Nat) : ∀ (k i : Nat) (y : List Int), i + d = n → d < k → y.length = n → smithylaw05_KeccakEnds.l1 4000 x1 x2 k (i : Int) y = some true := by
  induction d with
  | zero =>
    intro k i y hi hk hl
    obtain ⟨k, rfl⟩ : ∃ q, k = q + 1 := ⟨k - 1, by omega⟩
    show smithylaw05_KeccakEnds.b1 _ _ _ _ _ _ = _
    unfold smithylaw05_KeccakEnds.b1 smithylaw05_KeccakEnds.j1
    obtain ⟨h, h1, h2, _⟩ := sums_eq y (by omega)
    rw [hn, List.length_replicate, if_neg (by simp; omega), fixed_eq, Option.bind_some, if_pos rfl, h1, h2]
    simp
  | succ d ih =>
    intro k i y hi hk hl
    obtain ⟨k, rfl⟩ : ∃ q, k = q + 1 := ⟨k - 1, by omega⟩
    show smithylaw05_KeccakEnds.b1 _ _ _ _ _ _ = _
    unfold smithylaw05_KeccakEnds.b1
    have e2 : wr .i64 ((i : Int) + 1) = ((i + 1 : Nat) : Int) := by rw [wr_i64_id (by omega) (by omega)]; omega
    rw [hn, List.length_replicate, if_pos (by simp; omega), if_pos ⟨by omega, by omega⟩, e2]
    exact ih k (i + 1) _ (by omega) (by omega) (by rw [List.length_set]; exact hl)
theorem smithylaw05_KeccakEnds_true (a0 : Int) (a1 : Int) (w0 : inK .u8 a0) (w1 : inK .u8 a1) : ∃ k : Nat, smithylaw05_KeccakEnds.f k a0 a1 = some true := by
  refine ⟨4000, ?_⟩
  have h0 := inK_u8 w0
  have e1 : wr .i64 a0 = a0 := wr_i64_id (by omega) (by omega)
  have e2 : Int.tmod (wr .i64 a0) 16 = a0 % 16 := by rw [e1, tmod_pos h0.1]
  have e3 : wr .i64 (130 + Int.tmod (wr .i64 a0) 16) = 130 + a0 % 16 := by rw [e2, wr_i64_id (by omega) (by omega)]
  unfold smithylaw05_KeccakEnds.f
  have hb : Int.toNat (wr .i64 (130 + Int.tmod (wr .i64 a0) 16)) ≤ 3600 := by rw [e3]; omega
  rw [if_pos ⟨by rw [e3]; omega, by omega⟩]
  exact ends_loop a0 a1 _ rfl hb (Int.toNat (wr .i64 (130 + Int.tmod (wr .i64 a0) 16))) 4000 0 _ (by omega) (by omega) (by rw [List.length_replicate])
end GW
