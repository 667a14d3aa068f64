/-
  DERIVED. GIVEN WITH THE SEED: THE PROGRAM's TIES (one call each: nine closed facts by the kernel) AND EACH ROW's TIE, after the 31st guide's Derived/Test/Toyas{Tie, Card}.lean. No idea stands in it: it is a product of the set-up. Laid BY PROGRAM, IN A SANDBOX (cutbox-door.mjs). By AI agents, Wed Nov 11 2026. No macro, syntax, notation, axiom, sorry.
-/
import Derived.Test.YtoiopiiljblpjaaDoorRows
import Derived.LaidByTextLater
import Derived.SevenTiedAt
import Derived.LaidSub
import Derived.LaidOnce
namespace Go.Proofs.YtoiopiiljblpjaaDoor
open Go
set_option maxRecDepth 100000
theorem seatTie1 : Tryd.prog.laidByTextLater [("smithy/keccak.constants", Rows.laid_smithy_keccak_constants), ("smithy/keccak.turns", Rows.laid_smithy_keccak_turns), ("smithy/keccak.places", Rows.laid_smithy_keccak_places)] [.data, .data, .data] true :=
  Program.laidByTextLater_by_one 24 8 25 (by kernel_rfl) (by kernel_rfl) (by kernel_rfl) (by kernel_rfl) (by kernel_rfl) (by kernel_rfl) (fun _ _ => by kernel_rfl)
theorem noOwnUnsafe : Tryd.pinned.checked.prog.headLifts.contains "ownunsafe" = false := by kernel_rfl
theorem tie : Tryd.prog.laidByTextLater [("smithy/keccak.constants", Rows.laid_smithy_keccak_constants), ("smithy/keccak.turns", Rows.laid_smithy_keccak_turns), ("smithy/keccak.places", Rows.laid_smithy_keccak_places)] [.data, .data, .data] true :=
  Program.laidByTextLater.sub seatTie1 ["smithy/keccak.constants", "smithy/keccak.turns", "smithy/keccak.places"] (by kernel_rfl) (by kernel_rfl)
theorem blockHashes_row_tie : Rows.blockHashesRow.laidByTextAt .later Tryd.pinned [.data, .data, .data] true :=
  OpenClaim.laidByTextAt_later rfl rfl tie noOwnUnsafe
theorem blockReceipts_row_tie : Rows.blockReceiptsRow.laidByTextAt .later Tryd.pinned [.data, .data, .data] true :=
  OpenClaim.laidByTextAt_later rfl rfl tie noOwnUnsafe
theorem blockNext_row_tie : Rows.blockNextRow.laidByTextAt .later Tryd.pinned [.data, .data, .data] true :=
  OpenClaim.laidByTextAt_later rfl rfl tie noOwnUnsafe
theorem blockHashesUpto_row_tie : Rows.blockHashesUptoRow.laidByTextAt .later Tryd.pinned [.data, .data, .data] true :=
  OpenClaim.laidByTextAt_later rfl rfl tie noOwnUnsafe
theorem blockReceiptsUpto_row_tie : Rows.blockReceiptsUptoRow.laidByTextAt .later Tryd.pinned [.data, .data, .data] true :=
  OpenClaim.laidByTextAt_later rfl rfl tie noOwnUnsafe
theorem blockNextUpto_row_tie : Rows.blockNextUptoRow.laidByTextAt .later Tryd.pinned [.data, .data, .data] true :=
  OpenClaim.laidByTextAt_later rfl rfl tie noOwnUnsafe
end Go.Proofs.YtoiopiiljblpjaaDoor
