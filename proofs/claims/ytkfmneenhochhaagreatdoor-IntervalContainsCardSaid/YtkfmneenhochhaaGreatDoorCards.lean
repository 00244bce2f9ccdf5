/-
  DERIVED. GIVEN WITH THE SEED: THE CARDS: each row of YtkfmneenhochhaaGreatDoorRows.lean that lists a variable, with what it lists TIED to the program's text (the seventh form; the later family's looks); each row that meets fmt, with fmt's text TOLD by the authors' own Lean function (tested against real Go, not proved from fmt's source: count such statements apart). THE CARD IS WHAT COUNTS. Prove the row's statement (the work); the ties are given (YtkfmneenhochhaaGreatDoorTie.lean); close each card by the builder's one call (the guide's Derived/Test/ToyasCard.lean, 'card_holds'). Laid BY PROGRAM, IN A SANDBOX (cutbox-door.mjs). By AI agents, Wed Nov 11 2026. No macro, syntax, notation, axiom, sorry.
-/
import Derived.Test.YtkfmneenhochhaaGreatDoorRows
import GoSem.ClaimSeven
namespace Go.Proofs.YtkfmneenhochhaaGreatDoor
namespace Rows

/-- THE TIED CARD OF 'garboardlaw04.IntervalForms'. -/
def intervalFormsCard : Claim7 := { stood := { row := intervalFormsRow, standIns := [], harness := (true, "2e4db9b6ead0d903654a31c1c3bfab41fe875af4fd76cf6978f8e0324cdf1e1a"), looks := true }, kinds := [], alts := [], laidByText := true, laidKinds := [.data, .data, .data, .sentinel, .sentinel], laidTests := true, laidLooks := .later }
def IntervalFormsCardSaid : Prop := Claim7.holds Tryz.pinned (.plain (OpenSpec.ofChange intervalFormsSpec)) intervalFormsCard

/-- THE TIED CARD OF 'garboardlaw04.IntervalComputes'. -/
def intervalComputesCard : Claim7 := { stood := { row := intervalComputesRow, standIns := [], harness := (true, "2e4db9b6ead0d903654a31c1c3bfab41fe875af4fd76cf6978f8e0324cdf1e1a"), looks := true }, kinds := [], alts := [], laidByText := true, laidKinds := [.data, .data, .data, .sentinel, .sentinel], laidTests := true, laidLooks := .later }
def IntervalComputesCardSaid : Prop := Claim7.holds Tryz.pinned (.plain (OpenSpec.ofChange intervalComputesSpec)) intervalComputesCard

/-- THE TIED CARD OF 'garboardlaw04.IntervalNarrows'. -/
def intervalNarrowsCard : Claim7 := { stood := { row := intervalNarrowsRow, standIns := [], harness := (true, "2e4db9b6ead0d903654a31c1c3bfab41fe875af4fd76cf6978f8e0324cdf1e1a"), looks := true }, kinds := [], alts := [], laidByText := true, laidKinds := [.data, .data, .data, .sentinel, .sentinel], laidTests := true, laidLooks := .later }
def IntervalNarrowsCardSaid : Prop := Claim7.holds Tryz.pinned (.plain (OpenSpec.ofChange intervalNarrowsSpec)) intervalNarrowsCard

/-- THE TIED CARD OF 'garboardlaw04.IntervalRounds'. -/
def intervalRoundsCard : Claim7 := { stood := { row := intervalRoundsRow, standIns := [], harness := (true, "2e4db9b6ead0d903654a31c1c3bfab41fe875af4fd76cf6978f8e0324cdf1e1a"), looks := true }, kinds := [], alts := [], laidByText := true, laidKinds := [.data, .data, .data, .sentinel, .sentinel], laidTests := true, laidLooks := .later }
def IntervalRoundsCardSaid : Prop := Claim7.holds Tryz.pinned (.plain (OpenSpec.ofChange intervalRoundsSpec)) intervalRoundsCard

/-- THE TIED CARD OF 'garboardlaw04.IntervalJoins'. -/
def intervalJoinsCard : Claim7 := { stood := { row := intervalJoinsRow, standIns := [], harness := (true, "2e4db9b6ead0d903654a31c1c3bfab41fe875af4fd76cf6978f8e0324cdf1e1a"), looks := true }, kinds := [], alts := [], laidByText := true, laidKinds := [.data, .data, .data, .sentinel, .sentinel], laidTests := true, laidLooks := .later }
def IntervalJoinsCardSaid : Prop := Claim7.holds Tryz.pinned (.plain (OpenSpec.ofChange intervalJoinsSpec)) intervalJoinsCard

/-- THE TIED CARD OF 'garboardlaw04.IntervalEnds'. -/
def intervalEndsCard : Claim7 := { stood := { row := intervalEndsRow, standIns := [], harness := (true, "2e4db9b6ead0d903654a31c1c3bfab41fe875af4fd76cf6978f8e0324cdf1e1a"), looks := true }, kinds := [], alts := [], laidByText := true, laidKinds := [.data, .data, .data, .sentinel, .sentinel], laidTests := true, laidLooks := .later }
def IntervalEndsCardSaid : Prop := Claim7.holds Tryz.pinned (.plain (OpenSpec.ofChange intervalEndsSpec)) intervalEndsCard

/-- THE TIED CARD OF 'garboardlaw04.IntervalContains'. -/
def intervalContainsCard : Claim7 := { stood := { row := intervalContainsRow, standIns := [], harness := (true, "2e4db9b6ead0d903654a31c1c3bfab41fe875af4fd76cf6978f8e0324cdf1e1a"), looks := true }, kinds := [], alts := [], laidByText := true, laidKinds := [.data, .data, .data, .sentinel, .sentinel], laidTests := true, laidLooks := .later }
def IntervalContainsCardSaid : Prop := Claim7.holds Tryz.pinned (.plain (OpenSpec.ofChange intervalContainsSpec)) intervalContainsCard

/-- THE SECOND FORM's CARD OF 'garboardlaw04.IntervalForms'. -/
def intervalFormsUptoCard : Claim7 := { stood := { row := intervalFormsUptoRow, standIns := [], harness := (true, "2e4db9b6ead0d903654a31c1c3bfab41fe875af4fd76cf6978f8e0324cdf1e1a"), looks := true }, kinds := [], alts := [], laidByText := true, laidKinds := [.data, .data, .data, .sentinel, .sentinel], laidTests := true, laidLooks := .later }
def IntervalFormsUptoCardSaid : Prop := Claim7.holds Tryz.pinned (.plain (OpenSpec.upto intervalFormsSpec)) intervalFormsUptoCard

/-- THE SECOND FORM's CARD OF 'garboardlaw04.IntervalComputes'. -/
def intervalComputesUptoCard : Claim7 := { stood := { row := intervalComputesUptoRow, standIns := [], harness := (true, "2e4db9b6ead0d903654a31c1c3bfab41fe875af4fd76cf6978f8e0324cdf1e1a"), looks := true }, kinds := [], alts := [], laidByText := true, laidKinds := [.data, .data, .data, .sentinel, .sentinel], laidTests := true, laidLooks := .later }
def IntervalComputesUptoCardSaid : Prop := Claim7.holds Tryz.pinned (.plain (OpenSpec.upto intervalComputesSpec)) intervalComputesUptoCard

/-- THE SECOND FORM's CARD OF 'garboardlaw04.IntervalNarrows'. -/
def intervalNarrowsUptoCard : Claim7 := { stood := { row := intervalNarrowsUptoRow, standIns := [], harness := (true, "2e4db9b6ead0d903654a31c1c3bfab41fe875af4fd76cf6978f8e0324cdf1e1a"), looks := true }, kinds := [], alts := [], laidByText := true, laidKinds := [.data, .data, .data, .sentinel, .sentinel], laidTests := true, laidLooks := .later }
def IntervalNarrowsUptoCardSaid : Prop := Claim7.holds Tryz.pinned (.plain (OpenSpec.upto intervalNarrowsSpec)) intervalNarrowsUptoCard

/-- THE SECOND FORM's CARD OF 'garboardlaw04.IntervalRounds'. -/
def intervalRoundsUptoCard : Claim7 := { stood := { row := intervalRoundsUptoRow, standIns := [], harness := (true, "2e4db9b6ead0d903654a31c1c3bfab41fe875af4fd76cf6978f8e0324cdf1e1a"), looks := true }, kinds := [], alts := [], laidByText := true, laidKinds := [.data, .data, .data, .sentinel, .sentinel], laidTests := true, laidLooks := .later }
def IntervalRoundsUptoCardSaid : Prop := Claim7.holds Tryz.pinned (.plain (OpenSpec.upto intervalRoundsSpec)) intervalRoundsUptoCard

/-- THE SECOND FORM's CARD OF 'garboardlaw04.IntervalJoins'. -/
def intervalJoinsUptoCard : Claim7 := { stood := { row := intervalJoinsUptoRow, standIns := [], harness := (true, "2e4db9b6ead0d903654a31c1c3bfab41fe875af4fd76cf6978f8e0324cdf1e1a"), looks := true }, kinds := [], alts := [], laidByText := true, laidKinds := [.data, .data, .data, .sentinel, .sentinel], laidTests := true, laidLooks := .later }
def IntervalJoinsUptoCardSaid : Prop := Claim7.holds Tryz.pinned (.plain (OpenSpec.upto intervalJoinsSpec)) intervalJoinsUptoCard

/-- THE SECOND FORM's CARD OF 'garboardlaw04.IntervalEnds'. -/
def intervalEndsUptoCard : Claim7 := { stood := { row := intervalEndsUptoRow, standIns := [], harness := (true, "2e4db9b6ead0d903654a31c1c3bfab41fe875af4fd76cf6978f8e0324cdf1e1a"), looks := true }, kinds := [], alts := [], laidByText := true, laidKinds := [.data, .data, .data, .sentinel, .sentinel], laidTests := true, laidLooks := .later }
def IntervalEndsUptoCardSaid : Prop := Claim7.holds Tryz.pinned (.plain (OpenSpec.upto intervalEndsSpec)) intervalEndsUptoCard

/-- THE SECOND FORM's CARD OF 'garboardlaw04.IntervalContains'. -/
def intervalContainsUptoCard : Claim7 := { stood := { row := intervalContainsUptoRow, standIns := [], harness := (true, "2e4db9b6ead0d903654a31c1c3bfab41fe875af4fd76cf6978f8e0324cdf1e1a"), looks := true }, kinds := [], alts := [], laidByText := true, laidKinds := [.data, .data, .data, .sentinel, .sentinel], laidTests := true, laidLooks := .later }
def IntervalContainsUptoCardSaid : Prop := Claim7.holds Tryz.pinned (.plain (OpenSpec.upto intervalContainsSpec)) intervalContainsUptoCard
end Rows
end Go.Proofs.YtkfmneenhochhaaGreatDoor
