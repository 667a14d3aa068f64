/-
  DERIVED. GIVEN WITH THE SEED: THE CARDS: each row of YtkohappfcfimmaaDoorRows.lean that lists a variable, with what it lists TIED to the program's text (the seventh form; the later family's looks); each row that meets fmt, with fmt's text TOLD by the authors' own Lean function (tested against real Go, not proved from fmt's source: count such statements apart). THE CARD IS WHAT COUNTS. Prove the row's statement (the work); the ties are given (YtkohappfcfimmaaDoorTie.lean); close each card by the builder's one call (the guide's Derived/Test/ToyasCard.lean, 'card_holds'). Laid BY PROGRAM, IN A SANDBOX (cutbox-door.mjs). By AI agents, Wed Nov 11 2026. No macro, syntax, notation, axiom, sorry.
-/
import Derived.Test.YtkohappfcfimmaaDoorRows
import GoSem.ClaimSeven
namespace Go.Proofs.YtkohappfcfimmaaDoor
namespace Rows

/-- THE TIED CARD OF 'smithylaw29.BloomJoins'. -/
def bloomJoinsCard : Claim7 := { stood := { row := bloomJoinsRow, standIns := [], harness := (true, "9af21d10efcf6bf185d4c580a18b217e67b3519a6cc1240695eeaa32e7b3a927"), looks := false }, kinds := [], alts := [], laidByText := true, laidKinds := [.data, .data, .data], laidTests := true, laidLooks := .later }
def BloomJoinsCardSaid : Prop := Claim7.holds Tryd.pinned (.plain (OpenSpec.ofChange bloomJoinsSpec)) bloomJoinsCard

/-- THE TIED CARD OF 'smithylaw29.BloomOf'. -/
def bloomOfCard : Claim7 := { stood := { row := bloomOfRow, standIns := [], harness := (true, "9af21d10efcf6bf185d4c580a18b217e67b3519a6cc1240695eeaa32e7b3a927"), looks := false }, kinds := [], alts := [], laidByText := true, laidKinds := [.data, .data, .data], laidTests := true, laidLooks := .later }
def BloomOfCardSaid : Prop := Claim7.holds Tryd.pinned (.plain (OpenSpec.ofChange bloomOfSpec)) bloomOfCard

/-- THE TIED CARD OF 'smithylaw29.BloomHas'. -/
def bloomHasCard : Claim7 := { stood := { row := bloomHasRow, standIns := [], harness := (true, "9af21d10efcf6bf185d4c580a18b217e67b3519a6cc1240695eeaa32e7b3a927"), looks := false }, kinds := [], alts := [], laidByText := true, laidKinds := [.data, .data, .data], laidTests := true, laidLooks := .later }
def BloomHasCardSaid : Prop := Claim7.holds Tryd.pinned (.plain (OpenSpec.ofChange bloomHasSpec)) bloomHasCard

/-- THE TIED CARD OF 'smithylaw29.BloomFinds'. -/
def bloomFindsCard : Claim7 := { stood := { row := bloomFindsRow, standIns := [], harness := (true, "9af21d10efcf6bf185d4c580a18b217e67b3519a6cc1240695eeaa32e7b3a927"), looks := false }, kinds := [], alts := [], laidByText := true, laidKinds := [.data, .data, .data], laidTests := true, laidLooks := .later }
def BloomFindsCardSaid : Prop := Claim7.holds Tryd.pinned (.plain (OpenSpec.ofChange bloomFindsSpec)) bloomFindsCard

/-- THE SECOND FORM's CARD OF 'smithylaw29.BloomJoins'. -/
def bloomJoinsUptoCard : Claim7 := { stood := { row := bloomJoinsUptoRow, standIns := [], harness := (true, "9af21d10efcf6bf185d4c580a18b217e67b3519a6cc1240695eeaa32e7b3a927"), looks := false }, kinds := [], alts := [], laidByText := true, laidKinds := [.data, .data, .data], laidTests := true, laidLooks := .later }
def BloomJoinsUptoCardSaid : Prop := Claim7.holds Tryd.pinned (.plain (OpenSpec.upto bloomJoinsSpec)) bloomJoinsUptoCard

/-- THE SECOND FORM's CARD OF 'smithylaw29.BloomOf'. -/
def bloomOfUptoCard : Claim7 := { stood := { row := bloomOfUptoRow, standIns := [], harness := (true, "9af21d10efcf6bf185d4c580a18b217e67b3519a6cc1240695eeaa32e7b3a927"), looks := false }, kinds := [], alts := [], laidByText := true, laidKinds := [.data, .data, .data], laidTests := true, laidLooks := .later }
def BloomOfUptoCardSaid : Prop := Claim7.holds Tryd.pinned (.plain (OpenSpec.upto bloomOfSpec)) bloomOfUptoCard

/-- THE SECOND FORM's CARD OF 'smithylaw29.BloomHas'. -/
def bloomHasUptoCard : Claim7 := { stood := { row := bloomHasUptoRow, standIns := [], harness := (true, "9af21d10efcf6bf185d4c580a18b217e67b3519a6cc1240695eeaa32e7b3a927"), looks := false }, kinds := [], alts := [], laidByText := true, laidKinds := [.data, .data, .data], laidTests := true, laidLooks := .later }
def BloomHasUptoCardSaid : Prop := Claim7.holds Tryd.pinned (.plain (OpenSpec.upto bloomHasSpec)) bloomHasUptoCard

/-- THE SECOND FORM's CARD OF 'smithylaw29.BloomFinds'. -/
def bloomFindsUptoCard : Claim7 := { stood := { row := bloomFindsUptoRow, standIns := [], harness := (true, "9af21d10efcf6bf185d4c580a18b217e67b3519a6cc1240695eeaa32e7b3a927"), looks := false }, kinds := [], alts := [], laidByText := true, laidKinds := [.data, .data, .data], laidTests := true, laidLooks := .later }
def BloomFindsUptoCardSaid : Prop := Claim7.holds Tryd.pinned (.plain (OpenSpec.upto bloomFindsSpec)) bloomFindsUptoCard
end Rows
end Go.Proofs.YtkohappfcfimmaaDoor
