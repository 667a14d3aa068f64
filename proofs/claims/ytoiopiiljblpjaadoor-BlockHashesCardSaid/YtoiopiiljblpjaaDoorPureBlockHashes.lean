/-
  What the law 'BlockHashes' says of plain Lean values.
-/
import Derived.Test.YtoiopiiljblpjaaDoorPureRoot
set_option linter.unusedVariables false
namespace GW
open Go Go.RowKit
theorem smithylaw23_BlockHashes_true (a0 : (List Int) × Int × Int × Int × Int × (List Int) × (List Int) × (List Int) × (List Int) × (List Int)) (a1 : List (List Int)) (w0 : Gd30 a0) (w1 : Gd31 a1) : ∃ k : Nat, smithylaw23_BlockHashes.f k a0 a1 = some true := by
  obtain ⟨kF, hkF⟩ : ∃ kF : Nat, kF = 800000 := ⟨_, rfl⟩
  refine ⟨kF + 200, ?_⟩
  have hfx := fixed23 (kF := kF) (by omega)
  unfold smithylaw23_BlockHashes.f
  rw [hfx]
  by_cases c : (300 : Int) < (a1.length : Int)
  · rw [if_pos (by simpa using c)]; rfl
  · obtain ⟨z, z1, z2, _⟩ := hash_hdr (kF := kF) a0 w0 (by omega)
    obtain ⟨r, r1, r2, _⟩ := root_eq (kF := kF) a1 (by omega) (fun b hb => (w1.1 b hb).1) (by omega)
    rw [if_neg (by simpa using c), Option.bind_some, if_pos rfl, show (a0.1, a0.2.1, a0.2.2.1, a0.2.2.2.1, a0.2.2.2.2.1, a0.2.2.2.2.2.1, a0.2.2.2.2.2.2.1, a0.2.2.2.2.2.2.2.1, a0.2.2.2.2.2.2.2.2.1, a0.2.2.2.2.2.2.2.2.2) = a0 from rfl, z1, Option.bind_some, z2, Option.bind_some, if_pos (by simp), r1, Option.bind_some, r2, Option.bind_some]
    simp
end GW
