/-
  DERIVED. GIVEN WITH THE SEED: THE CARDS: each row of YtnlabeglboomlaaGreatDoorRows.lean that lists a variable, with what it lists TIED to the program's text (the seventh form; the later family's looks); each row that meets fmt, with fmt's text TOLD by the authors' own Lean function (tested against real Go, not proved from fmt's source: count such statements apart). THE CARD IS WHAT COUNTS. Prove the row's statement (the work); the ties are given (YtnlabeglboomlaaGreatDoorTie.lean); close each card by the builder's one call (the guide's Derived/Test/ToyasCard.lean, 'card_holds'). Laid BY PROGRAM, IN A SANDBOX (cutbox-door.mjs). By AI agents, Wed Nov 11 2026. No macro, syntax, notation, axiom, sorry.
-/
import Derived.Test.YtnlabeglboomlaaGreatDoorRows
import GoSem.ClaimSeven
namespace Go.Proofs.YtnlabeglboomlaaGreatDoor
namespace Rows

/-- THE TIED CARD OF 'garboardlaw24.LedgerTotals'. -/
def ledgerTotalsCard : Claim7 := { stood := { row := ledgerTotalsRow, standIns := [], harness := (true, "d1b3f3366f7d554a8603a12f1889b7c7e73d85650dcd79a9cb5bebc6dd8f1f8e"), looks := true }, kinds := [], alts := [], laidByText := true, laidKinds := [.data, .data, .data, .data, .sentinel, .sentinel, .pinned], laidTests := true, laidLooks := .later }
def LedgerTotalsCardSaid : Prop := Claim7.holds Tryz.pinned (.plain (OpenSpec.ofChange ledgerTotalsSpec)) ledgerTotalsCard

/-- THE TIED CARD OF 'garboardlaw24.LedgerAft'. -/
def ledgerAftCard : Claim7 := { stood := { row := ledgerAftRow, standIns := [], harness := (true, "d1b3f3366f7d554a8603a12f1889b7c7e73d85650dcd79a9cb5bebc6dd8f1f8e"), looks := true }, kinds := [], alts := [], laidByText := true, laidKinds := [.data, .data, .data, .data, .sentinel, .sentinel, .pinned], laidTests := true, laidLooks := .later }
def LedgerAftCardSaid : Prop := Claim7.holds Tryz.pinned (.plain (OpenSpec.ofChange ledgerAftSpec)) ledgerAftCard

/-- THE TIED CARD OF 'garboardlaw24.LedgerOrder'. -/
def ledgerOrderCard : Claim7 := { stood := { row := ledgerOrderRow, standIns := [], harness := (true, "d1b3f3366f7d554a8603a12f1889b7c7e73d85650dcd79a9cb5bebc6dd8f1f8e"), looks := true }, kinds := [], alts := [], laidByText := true, laidKinds := [.data, .data, .data, .data, .sentinel, .sentinel, .pinned], laidTests := true, laidLooks := .later }
def LedgerOrderCardSaid : Prop := Claim7.holds Tryz.pinned (.plain (OpenSpec.ofChange ledgerOrderSpec)) ledgerOrderCard

/-- THE TIED CARD OF 'garboardlaw24.LedgerAdds'. -/
def ledgerAddsCard : Claim7 := { stood := { row := ledgerAddsRow, standIns := [], harness := (true, "d1b3f3366f7d554a8603a12f1889b7c7e73d85650dcd79a9cb5bebc6dd8f1f8e"), looks := true }, kinds := [], alts := [], laidByText := true, laidKinds := [.data, .data, .data, .data, .sentinel, .sentinel, .pinned], laidTests := true, laidLooks := .later }
def LedgerAddsCardSaid : Prop := Claim7.holds Tryz.pinned (.plain (OpenSpec.ofChange ledgerAddsSpec)) ledgerAddsCard

/-- THE TIED CARD OF 'garboardlaw24.LedgerUndone'. -/
def ledgerUndoneCard : Claim7 := { stood := { row := ledgerUndoneRow, standIns := [], harness := (true, "d1b3f3366f7d554a8603a12f1889b7c7e73d85650dcd79a9cb5bebc6dd8f1f8e"), looks := true }, kinds := [], alts := [], laidByText := true, laidKinds := [.data, .data, .data, .data, .sentinel, .sentinel, .pinned], laidTests := true, laidLooks := .later }
def LedgerUndoneCardSaid : Prop := Claim7.holds Tryz.pinned (.plain (OpenSpec.ofChange ledgerUndoneSpec)) ledgerUndoneCard

/-- THE TIED CARD OF 'garboardlaw24.LedgerShares'. -/
def ledgerSharesCard : Claim7 := { stood := { row := ledgerSharesRow, standIns := [], harness := (true, "d1b3f3366f7d554a8603a12f1889b7c7e73d85650dcd79a9cb5bebc6dd8f1f8e"), looks := true }, kinds := [], alts := [], laidByText := true, laidKinds := [.data, .data, .data, .data, .sentinel, .sentinel, .pinned], laidTests := true, laidLooks := .later }
def LedgerSharesCardSaid : Prop := Claim7.holds Tryz.pinned (.plain (OpenSpec.ofChange ledgerSharesSpec)) ledgerSharesCard

/-- THE TIED CARD OF 'garboardlaw24.LedgerMoves'. -/
def ledgerMovesCard : Claim7 := { stood := { row := ledgerMovesRow, standIns := [], harness := (true, "d1b3f3366f7d554a8603a12f1889b7c7e73d85650dcd79a9cb5bebc6dd8f1f8e"), looks := true }, kinds := [], alts := [], laidByText := true, laidKinds := [.data, .data, .data, .data, .sentinel, .sentinel, .pinned], laidTests := true, laidLooks := .later }
def LedgerMovesCardSaid : Prop := Claim7.holds Tryz.pinned (.plain (OpenSpec.ofChange ledgerMovesSpec)) ledgerMovesCard

/-- THE SECOND FORM's CARD OF 'garboardlaw24.LedgerTotals'. -/
def ledgerTotalsUptoCard : Claim7 := { stood := { row := ledgerTotalsUptoRow, standIns := [], harness := (true, "d1b3f3366f7d554a8603a12f1889b7c7e73d85650dcd79a9cb5bebc6dd8f1f8e"), looks := true }, kinds := [], alts := [], laidByText := true, laidKinds := [.data, .data, .data, .data, .sentinel, .sentinel, .pinned], laidTests := true, laidLooks := .later }
def LedgerTotalsUptoCardSaid : Prop := Claim7.holds Tryz.pinned (.plain (OpenSpec.upto ledgerTotalsSpec)) ledgerTotalsUptoCard

/-- THE SECOND FORM's CARD OF 'garboardlaw24.LedgerAft'. -/
def ledgerAftUptoCard : Claim7 := { stood := { row := ledgerAftUptoRow, standIns := [], harness := (true, "d1b3f3366f7d554a8603a12f1889b7c7e73d85650dcd79a9cb5bebc6dd8f1f8e"), looks := true }, kinds := [], alts := [], laidByText := true, laidKinds := [.data, .data, .data, .data, .sentinel, .sentinel, .pinned], laidTests := true, laidLooks := .later }
def LedgerAftUptoCardSaid : Prop := Claim7.holds Tryz.pinned (.plain (OpenSpec.upto ledgerAftSpec)) ledgerAftUptoCard

/-- THE SECOND FORM's CARD OF 'garboardlaw24.LedgerOrder'. -/
def ledgerOrderUptoCard : Claim7 := { stood := { row := ledgerOrderUptoRow, standIns := [], harness := (true, "d1b3f3366f7d554a8603a12f1889b7c7e73d85650dcd79a9cb5bebc6dd8f1f8e"), looks := true }, kinds := [], alts := [], laidByText := true, laidKinds := [.data, .data, .data, .data, .sentinel, .sentinel, .pinned], laidTests := true, laidLooks := .later }
def LedgerOrderUptoCardSaid : Prop := Claim7.holds Tryz.pinned (.plain (OpenSpec.upto ledgerOrderSpec)) ledgerOrderUptoCard

/-- THE SECOND FORM's CARD OF 'garboardlaw24.LedgerAdds'. -/
def ledgerAddsUptoCard : Claim7 := { stood := { row := ledgerAddsUptoRow, standIns := [], harness := (true, "d1b3f3366f7d554a8603a12f1889b7c7e73d85650dcd79a9cb5bebc6dd8f1f8e"), looks := true }, kinds := [], alts := [], laidByText := true, laidKinds := [.data, .data, .data, .data, .sentinel, .sentinel, .pinned], laidTests := true, laidLooks := .later }
def LedgerAddsUptoCardSaid : Prop := Claim7.holds Tryz.pinned (.plain (OpenSpec.upto ledgerAddsSpec)) ledgerAddsUptoCard

/-- THE SECOND FORM's CARD OF 'garboardlaw24.LedgerUndone'. -/
def ledgerUndoneUptoCard : Claim7 := { stood := { row := ledgerUndoneUptoRow, standIns := [], harness := (true, "d1b3f3366f7d554a8603a12f1889b7c7e73d85650dcd79a9cb5bebc6dd8f1f8e"), looks := true }, kinds := [], alts := [], laidByText := true, laidKinds := [.data, .data, .data, .data, .sentinel, .sentinel, .pinned], laidTests := true, laidLooks := .later }
def LedgerUndoneUptoCardSaid : Prop := Claim7.holds Tryz.pinned (.plain (OpenSpec.upto ledgerUndoneSpec)) ledgerUndoneUptoCard

/-- THE SECOND FORM's CARD OF 'garboardlaw24.LedgerShares'. -/
def ledgerSharesUptoCard : Claim7 := { stood := { row := ledgerSharesUptoRow, standIns := [], harness := (true, "d1b3f3366f7d554a8603a12f1889b7c7e73d85650dcd79a9cb5bebc6dd8f1f8e"), looks := true }, kinds := [], alts := [], laidByText := true, laidKinds := [.data, .data, .data, .data, .sentinel, .sentinel, .pinned], laidTests := true, laidLooks := .later }
def LedgerSharesUptoCardSaid : Prop := Claim7.holds Tryz.pinned (.plain (OpenSpec.upto ledgerSharesSpec)) ledgerSharesUptoCard

/-- THE SECOND FORM's CARD OF 'garboardlaw24.LedgerMoves'. -/
def ledgerMovesUptoCard : Claim7 := { stood := { row := ledgerMovesUptoRow, standIns := [], harness := (true, "d1b3f3366f7d554a8603a12f1889b7c7e73d85650dcd79a9cb5bebc6dd8f1f8e"), looks := true }, kinds := [], alts := [], laidByText := true, laidKinds := [.data, .data, .data, .data, .sentinel, .sentinel, .pinned], laidTests := true, laidLooks := .later }
def LedgerMovesUptoCardSaid : Prop := Claim7.holds Tryz.pinned (.plain (OpenSpec.upto ledgerMovesSpec)) ledgerMovesUptoCard
end Rows
end Go.Proofs.YtnlabeglboomlaaGreatDoor
