/-
  What the law 'BlockReceipts' says of plain Lean values.
-/
import Derived.Test.YtoiopiiljblpjaaDoorPureGreat
set_option linter.unusedVariables false
set_option linter.unusedSimpArgs false
set_option maxRecDepth 100000
namespace GW
open Go Go.RowKit
theorem smithylaw23_BlockReceipts_true (a0 : (List Int) × Int × Bool × Int × (List Int) × (List Int) × (List ((List Int) × (List (List Int)) × (List Int))) × (List Int)) (w0 : Gd39 a0) : ∃ k : Nat, smithylaw23_BlockReceipts.f k a0 = some true := by
  refine ⟨900000 + 200, ?_⟩
  have fx := fixed23 (kF := 900000) (by omega)
  unfold smithylaw23_BlockReceipts.f
  show ((smithyref23_Great.f (900000 + 200) a0).bind _) = _
  rcases great23 a0 (900000 + 200) (by omega) with h | ⟨h, h1, h2, h3⟩
  · rw [h, Option.bind_some, if_pos rfl, fx]; rfl
  rw [h, Option.bind_some, if_neg (by simp), if_pos (by simp; omega)]
  obtain ⟨z, z1, z2, z3⟩ := receipt_eq (kF := 900000) a0 (grc_of a0 w0 h1 h2 h3) (by omega)
  show ((smithyref23_Receipt.f (900000 + 200) a0).bind _) = _
  rw [z2, Option.bind_some, fx, Option.bind_some, if_pos rfl]
  show ((block_Receipt.f (900000 + 200) a0).bind _) = _
  rw [z1, Option.bind_some, if_pos (by simp), List.nil_append, if_pos (by simp)]
  simp
end GW
