/-
  DERIVED. GIVEN WITH THE SEED: THE CARDS: each row of YtoiopiiljblpjaaDoorRows.lean that lists a variable, with what it lists TIED to the program's text (the seventh form; the later family's looks); each row that meets fmt, with fmt's text TOLD by the authors' own Lean function (tested against real Go, not proved from fmt's source: count such statements apart). THE CARD IS WHAT COUNTS. Prove the row's statement (the work); the ties are given (YtoiopiiljblpjaaDoorTie.lean); close each card by the builder's one call (the guide's Derived/Test/ToyasCard.lean, 'card_holds'). Laid BY PROGRAM, IN A SANDBOX (cutbox-door.mjs). By AI agents, Wed Nov 11 2026. No macro, syntax, notation, axiom, sorry.
-/
import Derived.Test.YtoiopiiljblpjaaDoorRows
import GoSem.ClaimSeven
namespace Go.Proofs.YtoiopiiljblpjaaDoor
namespace Rows

/-- THE TIED CARD OF 'smithylaw23.BlockHashes'. -/
def blockHashesCard : Claim7 := { stood := { row := blockHashesRow, standIns := [], harness := (true, "d2eb227fa43279627fb17070a2d0439e2762412d83c1103d011822fc80ad32b6"), looks := false }, kinds := [], alts := [], laidByText := true, laidKinds := [.data, .data, .data], laidTests := true, laidLooks := .later }
def BlockHashesCardSaid : Prop := Claim7.holds Tryd.pinned (.plain (OpenSpec.ofChange blockHashesSpec)) blockHashesCard

/-- THE TIED CARD OF 'smithylaw23.BlockReceipts'. -/
def blockReceiptsCard : Claim7 := { stood := { row := blockReceiptsRow, standIns := [], harness := (true, "d2eb227fa43279627fb17070a2d0439e2762412d83c1103d011822fc80ad32b6"), looks := false }, kinds := [], alts := [], laidByText := true, laidKinds := [.data, .data, .data], laidTests := true, laidLooks := .later }
def BlockReceiptsCardSaid : Prop := Claim7.holds Tryd.pinned (.plain (OpenSpec.ofChange blockReceiptsSpec)) blockReceiptsCard

/-- THE TIED CARD OF 'smithylaw23.BlockNext'. -/
def blockNextCard : Claim7 := { stood := { row := blockNextRow, standIns := [], harness := (true, "d2eb227fa43279627fb17070a2d0439e2762412d83c1103d011822fc80ad32b6"), looks := false }, kinds := [], alts := [], laidByText := true, laidKinds := [.data, .data, .data], laidTests := true, laidLooks := .later }
def BlockNextCardSaid : Prop := Claim7.holds Tryd.pinned (.plain (OpenSpec.ofChange blockNextSpec)) blockNextCard

/-- THE SECOND FORM's CARD OF 'smithylaw23.BlockHashes'. -/
def blockHashesUptoCard : Claim7 := { stood := { row := blockHashesUptoRow, standIns := [], harness := (true, "d2eb227fa43279627fb17070a2d0439e2762412d83c1103d011822fc80ad32b6"), looks := false }, kinds := [], alts := [], laidByText := true, laidKinds := [.data, .data, .data], laidTests := true, laidLooks := .later }
def BlockHashesUptoCardSaid : Prop := Claim7.holds Tryd.pinned (.plain (OpenSpec.upto blockHashesSpec)) blockHashesUptoCard

/-- THE SECOND FORM's CARD OF 'smithylaw23.BlockReceipts'. -/
def blockReceiptsUptoCard : Claim7 := { stood := { row := blockReceiptsUptoRow, standIns := [], harness := (true, "d2eb227fa43279627fb17070a2d0439e2762412d83c1103d011822fc80ad32b6"), looks := false }, kinds := [], alts := [], laidByText := true, laidKinds := [.data, .data, .data], laidTests := true, laidLooks := .later }
def BlockReceiptsUptoCardSaid : Prop := Claim7.holds Tryd.pinned (.plain (OpenSpec.upto blockReceiptsSpec)) blockReceiptsUptoCard

/-- THE SECOND FORM's CARD OF 'smithylaw23.BlockNext'. -/
def blockNextUptoCard : Claim7 := { stood := { row := blockNextUptoRow, standIns := [], harness := (true, "d2eb227fa43279627fb17070a2d0439e2762412d83c1103d011822fc80ad32b6"), looks := false }, kinds := [], alts := [], laidByText := true, laidKinds := [.data, .data, .data], laidTests := true, laidLooks := .later }
def BlockNextUptoCardSaid : Prop := Claim7.holds Tryd.pinned (.plain (OpenSpec.upto blockNextSpec)) blockNextUptoCard
end Rows
end Go.Proofs.YtoiopiiljblpjaaDoor
