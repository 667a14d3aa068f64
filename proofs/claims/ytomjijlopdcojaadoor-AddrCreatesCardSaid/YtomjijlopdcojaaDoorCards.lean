/-
  DERIVED. GIVEN WITH THE SEED: THE CARDS: each row of YtomjijlopdcojaaDoorRows.lean that lists a variable, with what it lists TIED to the program's text (the seventh form; the later family's looks); each row that meets fmt, with fmt's text TOLD by the authors' own Lean function (tested against real Go, not proved from fmt's source: count such statements apart). THE CARD IS WHAT COUNTS. Prove the row's statement (the work); the ties are given (YtomjijlopdcojaaDoorTie.lean); close each card by the builder's one call (the guide's Derived/Test/ToyasCard.lean, 'card_holds'). Laid BY PROGRAM, IN A SANDBOX (cutbox-door.mjs). By AI agents, Wed Nov 11 2026. No macro, syntax, notation, axiom, sorry.
-/
import Derived.Test.YtomjijlopdcojaaDoorRows
import GoSem.ClaimSeven
namespace Go.Proofs.YtomjijlopdcojaaDoor
namespace Rows

/-- THE TIED CARD OF 'smithylaw08.AddrSalts'. -/
def addrSaltsCard : Claim7 := { stood := { row := addrSaltsRow, standIns := [], harness := (true, "6e41411dcda3255fb54864f8a779d35024cfb90389bf64b96a24d159b86e9081"), looks := false }, kinds := [], alts := [], laidByText := true, laidKinds := [.data, .data, .data], laidTests := true, laidLooks := .later }
def AddrSaltsCardSaid : Prop := Claim7.holds Tryd.pinned (.plain (OpenSpec.ofChange addrSaltsSpec)) addrSaltsCard

/-- THE TIED CARD OF 'smithylaw08.AddrWords'. -/
def addrWordsCard : Claim7 := { stood := { row := addrWordsRow, standIns := [], harness := (true, "6e41411dcda3255fb54864f8a779d35024cfb90389bf64b96a24d159b86e9081"), looks := false }, kinds := [], alts := [], laidByText := true, laidKinds := [.data, .data, .data], laidTests := true, laidLooks := .later }
def AddrWordsCardSaid : Prop := Claim7.holds Tryd.pinned (.plain (OpenSpec.ofChange addrWordsSpec)) addrWordsCard

/-- THE TIED CARD OF 'smithylaw08.AddrOrder'. -/
def addrOrderCard : Claim7 := { stood := { row := addrOrderRow, standIns := [], harness := (true, "6e41411dcda3255fb54864f8a779d35024cfb90389bf64b96a24d159b86e9081"), looks := false }, kinds := [], alts := [], laidByText := true, laidKinds := [.data, .data, .data], laidTests := true, laidLooks := .later }
def AddrOrderCardSaid : Prop := Claim7.holds Tryd.pinned (.plain (OpenSpec.ofChange addrOrderSpec)) addrOrderCard

/-- THE TIED CARD OF 'smithylaw08.AddrCreates'. -/
def addrCreatesCard : Claim7 := { stood := { row := addrCreatesRow, standIns := [], harness := (true, "6e41411dcda3255fb54864f8a779d35024cfb90389bf64b96a24d159b86e9081"), looks := false }, kinds := [], alts := [], laidByText := true, laidKinds := [.data, .data, .data], laidTests := true, laidLooks := .later }
def AddrCreatesCardSaid : Prop := Claim7.holds Tryd.pinned (.plain (OpenSpec.ofChange addrCreatesSpec)) addrCreatesCard

/-- THE SECOND FORM's CARD OF 'smithylaw08.AddrSalts'. -/
def addrSaltsUptoCard : Claim7 := { stood := { row := addrSaltsUptoRow, standIns := [], harness := (true, "6e41411dcda3255fb54864f8a779d35024cfb90389bf64b96a24d159b86e9081"), looks := false }, kinds := [], alts := [], laidByText := true, laidKinds := [.data, .data, .data], laidTests := true, laidLooks := .later }
def AddrSaltsUptoCardSaid : Prop := Claim7.holds Tryd.pinned (.plain (OpenSpec.upto addrSaltsSpec)) addrSaltsUptoCard

/-- THE SECOND FORM's CARD OF 'smithylaw08.AddrWords'. -/
def addrWordsUptoCard : Claim7 := { stood := { row := addrWordsUptoRow, standIns := [], harness := (true, "6e41411dcda3255fb54864f8a779d35024cfb90389bf64b96a24d159b86e9081"), looks := false }, kinds := [], alts := [], laidByText := true, laidKinds := [.data, .data, .data], laidTests := true, laidLooks := .later }
def AddrWordsUptoCardSaid : Prop := Claim7.holds Tryd.pinned (.plain (OpenSpec.upto addrWordsSpec)) addrWordsUptoCard

/-- THE SECOND FORM's CARD OF 'smithylaw08.AddrOrder'. -/
def addrOrderUptoCard : Claim7 := { stood := { row := addrOrderUptoRow, standIns := [], harness := (true, "6e41411dcda3255fb54864f8a779d35024cfb90389bf64b96a24d159b86e9081"), looks := false }, kinds := [], alts := [], laidByText := true, laidKinds := [.data, .data, .data], laidTests := true, laidLooks := .later }
def AddrOrderUptoCardSaid : Prop := Claim7.holds Tryd.pinned (.plain (OpenSpec.upto addrOrderSpec)) addrOrderUptoCard

/-- THE SECOND FORM's CARD OF 'smithylaw08.AddrCreates'. -/
def addrCreatesUptoCard : Claim7 := { stood := { row := addrCreatesUptoRow, standIns := [], harness := (true, "6e41411dcda3255fb54864f8a779d35024cfb90389bf64b96a24d159b86e9081"), looks := false }, kinds := [], alts := [], laidByText := true, laidKinds := [.data, .data, .data], laidTests := true, laidLooks := .later }
def AddrCreatesUptoCardSaid : Prop := Claim7.holds Tryd.pinned (.plain (OpenSpec.upto addrCreatesSpec)) addrCreatesUptoCard
end Rows
end Go.Proofs.YtomjijlopdcojaaDoor
