/-
  DERIVED. GIVEN WITH THE SEED: THE CARDS: each row of YtnloindmiejbeaaDoorRows.lean that lists a variable, with what it lists TIED to the program's text (the seventh form; the later family's looks); each row that meets fmt, with fmt's text TOLD by the authors' own Lean function (tested against real Go, not proved from fmt's source: count such statements apart). THE CARD IS WHAT COUNTS. Prove the row's statement (the work); the ties are given (YtnloindmiejbeaaDoorTie.lean); close each card by the builder's one call (the guide's Derived/Test/ToyasCard.lean, 'card_holds'). Laid BY PROGRAM, IN A SANDBOX (cutbox-door.mjs). By AI agents, Wed Nov 11 2026. No macro, syntax, notation, axiom, sorry.
-/
import Derived.Test.YtnloindmiejbeaaDoorRows
import GoSem.ClaimSeven
namespace Go.Proofs.YtnloindmiejbeaaDoor
namespace Rows

/-- THE TIED CARD OF 'smithylaw19.TxHashes'. -/
def txHashesCard : Claim7 := { stood := { row := txHashesRow, standIns := [], harness := (true, "464e8aad35d7095127fa7941b75bf4848e0db11912b729a501d4bbcff09c7f99"), looks := false }, kinds := [], alts := [], laidByText := true, laidKinds := [.data, .data, .data], laidTests := true, laidLooks := .later }
def TxHashesCardSaid : Prop := Claim7.holds Tryd.pinned (.plain (OpenSpec.ofChange txHashesSpec)) txHashesCard

/-- THE SECOND FORM's CARD OF 'smithylaw19.TxHashes'. -/
def txHashesUptoCard : Claim7 := { stood := { row := txHashesUptoRow, standIns := [], harness := (true, "464e8aad35d7095127fa7941b75bf4848e0db11912b729a501d4bbcff09c7f99"), looks := false }, kinds := [], alts := [], laidByText := true, laidKinds := [.data, .data, .data], laidTests := true, laidLooks := .later }
def TxHashesUptoCardSaid : Prop := Claim7.holds Tryd.pinned (.plain (OpenSpec.upto txHashesSpec)) txHashesUptoCard
end Rows
end Go.Proofs.YtnloindmiejbeaaDoor
