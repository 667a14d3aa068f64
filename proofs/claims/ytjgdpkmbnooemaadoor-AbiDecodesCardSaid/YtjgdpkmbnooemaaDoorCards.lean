/-
  DERIVED. GIVEN WITH THE SEED: THE CARDS: each row of YtjgdpkmbnooemaaDoorRows.lean that lists a variable, with what it lists TIED to the program's text (the seventh form; the later family's looks); each row that meets fmt, with fmt's text TOLD by the authors' own Lean function (tested against real Go, not proved from fmt's source: count such statements apart). THE CARD IS WHAT COUNTS. Prove the row's statement (the work); the ties are given (YtjgdpkmbnooemaaDoorTie.lean); close each card by the builder's one call (the guide's Derived/Test/ToyasCard.lean, 'card_holds'). Laid BY PROGRAM, IN A SANDBOX (cutbox-door.mjs). By AI agents, Wed Nov 11 2026. No macro, syntax, notation, axiom, sorry.
-/
import Derived.Test.YtjgdpkmbnooemaaDoorRows
import GoSem.ClaimSeven
namespace Go.Proofs.YtjgdpkmbnooemaaDoor
namespace Rows

/-- THE TIED CARD OF 'smithylaw28.AbiSelects'. -/
def abiSelectsCard : Claim7 := { stood := { row := abiSelectsRow, standIns := [], harness := (true, "c85bd58152dfbd475e847cbc9c955f06ac02edb66a3d4f773d566ba1bfd824d6"), looks := false }, kinds := [], alts := [], laidByText := true, laidKinds := [.data, .data, .data], laidTests := true, laidLooks := .later }
def AbiSelectsCardSaid : Prop := Claim7.holds Tryd.pinned (.plain (OpenSpec.ofChange abiSelectsSpec)) abiSelectsCard

/-- THE TIED CARD OF 'smithylaw28.AbiTypes'. -/
def abiTypesCard : Claim7 := { stood := { row := abiTypesRow, standIns := [], harness := (true, "c85bd58152dfbd475e847cbc9c955f06ac02edb66a3d4f773d566ba1bfd824d6"), looks := false }, kinds := [], alts := [], laidByText := true, laidKinds := [.data, .data, .data], laidTests := true, laidLooks := .later }
def AbiTypesCardSaid : Prop := Claim7.holds Tryd.pinned (.plain (OpenSpec.ofChange abiTypesSpec)) abiTypesCard

/-- THE TIED CARD OF 'smithylaw28.AbiEncodes'. -/
def abiEncodesCard : Claim7 := { stood := { row := abiEncodesRow, standIns := [], harness := (true, "c85bd58152dfbd475e847cbc9c955f06ac02edb66a3d4f773d566ba1bfd824d6"), looks := false }, kinds := [], alts := [], laidByText := true, laidKinds := [.data, .data, .data], laidTests := true, laidLooks := .later }
def AbiEncodesCardSaid : Prop := Claim7.holds Tryd.pinned (.plain (OpenSpec.ofChange abiEncodesSpec)) abiEncodesCard

/-- THE TIED CARD OF 'smithylaw28.AbiDecodes'. -/
def abiDecodesCard : Claim7 := { stood := { row := abiDecodesRow, standIns := [], harness := (true, "c85bd58152dfbd475e847cbc9c955f06ac02edb66a3d4f773d566ba1bfd824d6"), looks := false }, kinds := [], alts := [], laidByText := true, laidKinds := [.data, .data, .data], laidTests := true, laidLooks := .later }
def AbiDecodesCardSaid : Prop := Claim7.holds Tryd.pinned (.plain (OpenSpec.ofChange abiDecodesSpec)) abiDecodesCard

/-- THE SECOND FORM's CARD OF 'smithylaw28.AbiSelects'. -/
def abiSelectsUptoCard : Claim7 := { stood := { row := abiSelectsUptoRow, standIns := [], harness := (true, "c85bd58152dfbd475e847cbc9c955f06ac02edb66a3d4f773d566ba1bfd824d6"), looks := false }, kinds := [], alts := [], laidByText := true, laidKinds := [.data, .data, .data], laidTests := true, laidLooks := .later }
def AbiSelectsUptoCardSaid : Prop := Claim7.holds Tryd.pinned (.plain (OpenSpec.upto abiSelectsSpec)) abiSelectsUptoCard

/-- THE SECOND FORM's CARD OF 'smithylaw28.AbiTypes'. -/
def abiTypesUptoCard : Claim7 := { stood := { row := abiTypesUptoRow, standIns := [], harness := (true, "c85bd58152dfbd475e847cbc9c955f06ac02edb66a3d4f773d566ba1bfd824d6"), looks := false }, kinds := [], alts := [], laidByText := true, laidKinds := [.data, .data, .data], laidTests := true, laidLooks := .later }
def AbiTypesUptoCardSaid : Prop := Claim7.holds Tryd.pinned (.plain (OpenSpec.upto abiTypesSpec)) abiTypesUptoCard

/-- THE SECOND FORM's CARD OF 'smithylaw28.AbiEncodes'. -/
def abiEncodesUptoCard : Claim7 := { stood := { row := abiEncodesUptoRow, standIns := [], harness := (true, "c85bd58152dfbd475e847cbc9c955f06ac02edb66a3d4f773d566ba1bfd824d6"), looks := false }, kinds := [], alts := [], laidByText := true, laidKinds := [.data, .data, .data], laidTests := true, laidLooks := .later }
def AbiEncodesUptoCardSaid : Prop := Claim7.holds Tryd.pinned (.plain (OpenSpec.upto abiEncodesSpec)) abiEncodesUptoCard

/-- THE SECOND FORM's CARD OF 'smithylaw28.AbiDecodes'. -/
def abiDecodesUptoCard : Claim7 := { stood := { row := abiDecodesUptoRow, standIns := [], harness := (true, "c85bd58152dfbd475e847cbc9c955f06ac02edb66a3d4f773d566ba1bfd824d6"), looks := false }, kinds := [], alts := [], laidByText := true, laidKinds := [.data, .data, .data], laidTests := true, laidLooks := .later }
def AbiDecodesUptoCardSaid : Prop := Claim7.holds Tryd.pinned (.plain (OpenSpec.upto abiDecodesSpec)) abiDecodesUptoCard
end Rows
end Go.Proofs.YtjgdpkmbnooemaaDoor
