/-
  DERIVED. GIVEN WITH THE SEED: THE CARDS: each row of YtolehnkoocnenaaGreatDoorRows.lean that lists a variable, with what it lists TIED to the program's text (the seventh form; the later family's looks); each row that meets fmt, with fmt's text TOLD by the authors' own Lean function (tested against real Go, not proved from fmt's source: count such statements apart). THE CARD IS WHAT COUNTS. Prove the row's statement (the work); the ties are given (YtolehnkoocnenaaGreatDoorTie.lean); close each card by the builder's one call (the guide's Derived/Test/ToyasCard.lean, 'card_holds'). Laid BY PROGRAM, IN A SANDBOX (cutbox-door.mjs). By AI agents, Wed Nov 11 2026. No macro, syntax, notation, axiom, sorry.
-/
import Derived.Test.YtolehnkoocnenaaGreatDoorRows
import GoSem.ClaimSeven
namespace Go.Proofs.YtolehnkoocnenaaGreatDoor
namespace Rows

/-- THE TIED CARD OF 'garboardlaw06.AngleEncloses'. -/
def angleEnclosesCard : Claim7 := { stood := { row := angleEnclosesRow, standIns := [], harness := (true, "04edcd713e7f9b5df50d819d13fac607dbb154bd3669885a6095c61f9c8fce72"), looks := true }, kinds := [], alts := [], laidByText := true, laidKinds := [.data, .data, .data, .sentinel, .sentinel], laidTests := true, laidLooks := .later }
def AngleEnclosesCardSaid : Prop := Claim7.holds Tryz.pinned (.plain (OpenSpec.ofChange angleEnclosesSpec)) angleEnclosesCard

/-- THE TIED CARD OF 'garboardlaw06.AngleFinds'. -/
def angleFindsCard : Claim7 := { stood := { row := angleFindsRow, standIns := [], harness := (true, "04edcd713e7f9b5df50d819d13fac607dbb154bd3669885a6095c61f9c8fce72"), looks := true }, kinds := [], alts := [], laidByText := true, laidKinds := [.data, .data, .data, .sentinel, .sentinel], laidTests := true, laidLooks := .later }
def AngleFindsCardSaid : Prop := Claim7.holds Tryz.pinned (.plain (OpenSpec.ofChange angleFindsSpec)) angleFindsCard

/-- THE TIED CARD OF 'garboardlaw06.AngleTightens'. -/
def angleTightensCard : Claim7 := { stood := { row := angleTightensRow, standIns := [], harness := (true, "04edcd713e7f9b5df50d819d13fac607dbb154bd3669885a6095c61f9c8fce72"), looks := true }, kinds := [], alts := [], laidByText := true, laidKinds := [.data, .data, .data, .sentinel, .sentinel], laidTests := true, laidLooks := .later }
def AngleTightensCardSaid : Prop := Claim7.holds Tryz.pinned (.plain (OpenSpec.ofChange angleTightensSpec)) angleTightensCard

/-- THE TIED CARD OF 'garboardlaw06.AngleBrackets'. -/
def angleBracketsCard : Claim7 := { stood := { row := angleBracketsRow, standIns := [], harness := (true, "04edcd713e7f9b5df50d819d13fac607dbb154bd3669885a6095c61f9c8fce72"), looks := true }, kinds := [], alts := [], laidByText := true, laidKinds := [.data, .data, .data, .sentinel, .sentinel], laidTests := true, laidLooks := .later }
def AngleBracketsCardSaid : Prop := Claim7.holds Tryz.pinned (.plain (OpenSpec.ofChange angleBracketsSpec)) angleBracketsCard

/-- THE TIED CARD OF 'garboardlaw06.AngleComputes'. -/
def angleComputesCard : Claim7 := { stood := { row := angleComputesRow, standIns := [], harness := (true, "04edcd713e7f9b5df50d819d13fac607dbb154bd3669885a6095c61f9c8fce72"), looks := true }, kinds := [], alts := [], laidByText := true, laidKinds := [.data, .data, .data, .sentinel, .sentinel], laidTests := true, laidLooks := .later }
def AngleComputesCardSaid : Prop := Claim7.holds Tryz.pinned (.plain (OpenSpec.ofChange angleComputesSpec)) angleComputesCard

/-- THE TIED CARD OF 'garboardlaw06.AngleCircle'. -/
def angleCircleCard : Claim7 := { stood := { row := angleCircleRow, standIns := [], harness := (true, "04edcd713e7f9b5df50d819d13fac607dbb154bd3669885a6095c61f9c8fce72"), looks := true }, kinds := [], alts := [], laidByText := true, laidKinds := [.data, .data, .data, .sentinel, .sentinel], laidTests := true, laidLooks := .later }
def AngleCircleCardSaid : Prop := Claim7.holds Tryz.pinned (.plain (OpenSpec.ofChange angleCircleSpec)) angleCircleCard

/-- THE TIED CARD OF 'garboardlaw06.AngleAdds'. -/
def angleAddsCard : Claim7 := { stood := { row := angleAddsRow, standIns := [], harness := (true, "04edcd713e7f9b5df50d819d13fac607dbb154bd3669885a6095c61f9c8fce72"), looks := true }, kinds := [], alts := [], laidByText := true, laidKinds := [.data, .data, .data, .sentinel, .sentinel], laidTests := true, laidLooks := .later }
def AngleAddsCardSaid : Prop := Claim7.holds Tryz.pinned (.plain (OpenSpec.ofChange angleAddsSpec)) angleAddsCard

/-- THE TIED CARD OF 'garboardlaw06.AngleOrder'. -/
def angleOrderCard : Claim7 := { stood := { row := angleOrderRow, standIns := [], harness := (true, "04edcd713e7f9b5df50d819d13fac607dbb154bd3669885a6095c61f9c8fce72"), looks := true }, kinds := [], alts := [], laidByText := true, laidKinds := [.data, .data, .data, .sentinel, .sentinel], laidTests := true, laidLooks := .later }
def AngleOrderCardSaid : Prop := Claim7.holds Tryz.pinned (.plain (OpenSpec.ofChange angleOrderSpec)) angleOrderCard

/-- THE SECOND FORM's CARD OF 'garboardlaw06.AngleEncloses'. -/
def angleEnclosesUptoCard : Claim7 := { stood := { row := angleEnclosesUptoRow, standIns := [], harness := (true, "04edcd713e7f9b5df50d819d13fac607dbb154bd3669885a6095c61f9c8fce72"), looks := true }, kinds := [], alts := [], laidByText := true, laidKinds := [.data, .data, .data, .sentinel, .sentinel], laidTests := true, laidLooks := .later }
def AngleEnclosesUptoCardSaid : Prop := Claim7.holds Tryz.pinned (.plain (OpenSpec.upto angleEnclosesSpec)) angleEnclosesUptoCard

/-- THE SECOND FORM's CARD OF 'garboardlaw06.AngleFinds'. -/
def angleFindsUptoCard : Claim7 := { stood := { row := angleFindsUptoRow, standIns := [], harness := (true, "04edcd713e7f9b5df50d819d13fac607dbb154bd3669885a6095c61f9c8fce72"), looks := true }, kinds := [], alts := [], laidByText := true, laidKinds := [.data, .data, .data, .sentinel, .sentinel], laidTests := true, laidLooks := .later }
def AngleFindsUptoCardSaid : Prop := Claim7.holds Tryz.pinned (.plain (OpenSpec.upto angleFindsSpec)) angleFindsUptoCard

/-- THE SECOND FORM's CARD OF 'garboardlaw06.AngleTightens'. -/
def angleTightensUptoCard : Claim7 := { stood := { row := angleTightensUptoRow, standIns := [], harness := (true, "04edcd713e7f9b5df50d819d13fac607dbb154bd3669885a6095c61f9c8fce72"), looks := true }, kinds := [], alts := [], laidByText := true, laidKinds := [.data, .data, .data, .sentinel, .sentinel], laidTests := true, laidLooks := .later }
def AngleTightensUptoCardSaid : Prop := Claim7.holds Tryz.pinned (.plain (OpenSpec.upto angleTightensSpec)) angleTightensUptoCard

/-- THE SECOND FORM's CARD OF 'garboardlaw06.AngleBrackets'. -/
def angleBracketsUptoCard : Claim7 := { stood := { row := angleBracketsUptoRow, standIns := [], harness := (true, "04edcd713e7f9b5df50d819d13fac607dbb154bd3669885a6095c61f9c8fce72"), looks := true }, kinds := [], alts := [], laidByText := true, laidKinds := [.data, .data, .data, .sentinel, .sentinel], laidTests := true, laidLooks := .later }
def AngleBracketsUptoCardSaid : Prop := Claim7.holds Tryz.pinned (.plain (OpenSpec.upto angleBracketsSpec)) angleBracketsUptoCard

/-- THE SECOND FORM's CARD OF 'garboardlaw06.AngleComputes'. -/
def angleComputesUptoCard : Claim7 := { stood := { row := angleComputesUptoRow, standIns := [], harness := (true, "04edcd713e7f9b5df50d819d13fac607dbb154bd3669885a6095c61f9c8fce72"), looks := true }, kinds := [], alts := [], laidByText := true, laidKinds := [.data, .data, .data, .sentinel, .sentinel], laidTests := true, laidLooks := .later }
def AngleComputesUptoCardSaid : Prop := Claim7.holds Tryz.pinned (.plain (OpenSpec.upto angleComputesSpec)) angleComputesUptoCard

/-- THE SECOND FORM's CARD OF 'garboardlaw06.AngleCircle'. -/
def angleCircleUptoCard : Claim7 := { stood := { row := angleCircleUptoRow, standIns := [], harness := (true, "04edcd713e7f9b5df50d819d13fac607dbb154bd3669885a6095c61f9c8fce72"), looks := true }, kinds := [], alts := [], laidByText := true, laidKinds := [.data, .data, .data, .sentinel, .sentinel], laidTests := true, laidLooks := .later }
def AngleCircleUptoCardSaid : Prop := Claim7.holds Tryz.pinned (.plain (OpenSpec.upto angleCircleSpec)) angleCircleUptoCard

/-- THE SECOND FORM's CARD OF 'garboardlaw06.AngleAdds'. -/
def angleAddsUptoCard : Claim7 := { stood := { row := angleAddsUptoRow, standIns := [], harness := (true, "04edcd713e7f9b5df50d819d13fac607dbb154bd3669885a6095c61f9c8fce72"), looks := true }, kinds := [], alts := [], laidByText := true, laidKinds := [.data, .data, .data, .sentinel, .sentinel], laidTests := true, laidLooks := .later }
def AngleAddsUptoCardSaid : Prop := Claim7.holds Tryz.pinned (.plain (OpenSpec.upto angleAddsSpec)) angleAddsUptoCard

/-- THE SECOND FORM's CARD OF 'garboardlaw06.AngleOrder'. -/
def angleOrderUptoCard : Claim7 := { stood := { row := angleOrderUptoRow, standIns := [], harness := (true, "04edcd713e7f9b5df50d819d13fac607dbb154bd3669885a6095c61f9c8fce72"), looks := true }, kinds := [], alts := [], laidByText := true, laidKinds := [.data, .data, .data, .sentinel, .sentinel], laidTests := true, laidLooks := .later }
def AngleOrderUptoCardSaid : Prop := Claim7.holds Tryz.pinned (.plain (OpenSpec.upto angleOrderSpec)) angleOrderUptoCard
end Rows
end Go.Proofs.YtolehnkoocnenaaGreatDoor
