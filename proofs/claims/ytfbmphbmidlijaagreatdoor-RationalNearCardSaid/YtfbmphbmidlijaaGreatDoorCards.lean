/-
  DERIVED. GIVEN WITH THE SEED: THE CARDS: each row of YtfbmphbmidlijaaGreatDoorRows.lean that lists a variable, with what it lists TIED to the program's text (the seventh form; the later family's looks); each row that meets fmt, with fmt's text TOLD by the authors' own Lean function (tested against real Go, not proved from fmt's source: count such statements apart). THE CARD IS WHAT COUNTS. Prove the row's statement (the work); the ties are given (YtfbmphbmidlijaaGreatDoorTie.lean); close each card by the builder's one call (the guide's Derived/Test/ToyasCard.lean, 'card_holds'). Laid BY PROGRAM, IN A SANDBOX (cutbox-door.mjs). By AI agents, Wed Nov 11 2026. No macro, syntax, notation, axiom, sorry.
-/
import Derived.Test.YtfbmphbmidlijaaGreatDoorRows
import GoSem.ClaimSeven
namespace Go.Proofs.YtfbmphbmidlijaaGreatDoor
namespace Rows

/-- THE TIED CARD OF 'garboardlaw03.RationalForms'. -/
def rationalFormsCard : Claim7 := { stood := { row := rationalFormsRow, standIns := [], harness := (true, "ada17ae2a8bd1b31e81428e342ac8471cb81d67db6cffe5b14f0328003d9b66e"), looks := true }, kinds := [], alts := [], laidByText := true, laidKinds := [.data, .data, .data, .data, .sentinel, .sentinel, .pinned], laidTests := true, laidLooks := .later }
def RationalFormsCardSaid : Prop := Claim7.holds Tryz.pinned (.plain (OpenSpec.ofChange rationalFormsSpec)) rationalFormsCard

/-- THE TIED CARD OF 'garboardlaw03.RationalComputes'. -/
def rationalComputesCard : Claim7 := { stood := { row := rationalComputesRow, standIns := [], harness := (true, "ada17ae2a8bd1b31e81428e342ac8471cb81d67db6cffe5b14f0328003d9b66e"), looks := true }, kinds := [], alts := [], laidByText := true, laidKinds := [.data, .data, .data, .data, .sentinel, .sentinel, .pinned], laidTests := true, laidLooks := .later }
def RationalComputesCardSaid : Prop := Claim7.holds Tryz.pinned (.plain (OpenSpec.ofChange rationalComputesSpec)) rationalComputesCard

/-- THE TIED CARD OF 'garboardlaw03.RationalTexts'. -/
def rationalTextsCard : Claim7 := { stood := { row := rationalTextsRow, standIns := [], harness := (true, "ada17ae2a8bd1b31e81428e342ac8471cb81d67db6cffe5b14f0328003d9b66e"), looks := true }, kinds := [], alts := [], laidByText := true, laidKinds := [.data, .data, .data, .data, .sentinel, .sentinel, .pinned], laidTests := true, laidLooks := .later }
def RationalTextsCardSaid : Prop := Claim7.holds Tryz.pinned (.plain (OpenSpec.ofChange rationalTextsSpec)) rationalTextsCard

/-- THE TIED CARD OF 'garboardlaw03.RationalSimplest'. -/
def rationalSimplestCard : Claim7 := { stood := { row := rationalSimplestRow, standIns := [], harness := (true, "ada17ae2a8bd1b31e81428e342ac8471cb81d67db6cffe5b14f0328003d9b66e"), looks := true }, kinds := [], alts := [], laidByText := true, laidKinds := [.data, .data, .data, .data, .sentinel, .sentinel, .pinned], laidTests := true, laidLooks := .later }
def RationalSimplestCardSaid : Prop := Claim7.holds Tryz.pinned (.plain (OpenSpec.ofChange rationalSimplestSpec)) rationalSimplestCard

/-- THE TIED CARD OF 'garboardlaw03.RationalField'. -/
def rationalFieldCard : Claim7 := { stood := { row := rationalFieldRow, standIns := [], harness := (true, "ada17ae2a8bd1b31e81428e342ac8471cb81d67db6cffe5b14f0328003d9b66e"), looks := true }, kinds := [], alts := [], laidByText := true, laidKinds := [.data, .data, .data, .data, .sentinel, .sentinel, .pinned], laidTests := true, laidLooks := .later }
def RationalFieldCardSaid : Prop := Claim7.holds Tryz.pinned (.plain (OpenSpec.ofChange rationalFieldSpec)) rationalFieldCard

/-- THE TIED CARD OF 'garboardlaw03.RationalOrder'. -/
def rationalOrderCard : Claim7 := { stood := { row := rationalOrderRow, standIns := [], harness := (true, "ada17ae2a8bd1b31e81428e342ac8471cb81d67db6cffe5b14f0328003d9b66e"), looks := true }, kinds := [], alts := [], laidByText := true, laidKinds := [.data, .data, .data, .data, .sentinel, .sentinel, .pinned], laidTests := true, laidLooks := .later }
def RationalOrderCardSaid : Prop := Claim7.holds Tryz.pinned (.plain (OpenSpec.ofChange rationalOrderSpec)) rationalOrderCard

/-- THE TIED CARD OF 'garboardlaw03.RationalParts'. -/
def rationalPartsCard : Claim7 := { stood := { row := rationalPartsRow, standIns := [], harness := (true, "ada17ae2a8bd1b31e81428e342ac8471cb81d67db6cffe5b14f0328003d9b66e"), looks := true }, kinds := [], alts := [], laidByText := true, laidKinds := [.data, .data, .data, .data, .sentinel, .sentinel, .pinned], laidTests := true, laidLooks := .later }
def RationalPartsCardSaid : Prop := Claim7.holds Tryz.pinned (.plain (OpenSpec.ofChange rationalPartsSpec)) rationalPartsCard

/-- THE TIED CARD OF 'garboardlaw03.RationalNear'. -/
def rationalNearCard : Claim7 := { stood := { row := rationalNearRow, standIns := [], harness := (true, "ada17ae2a8bd1b31e81428e342ac8471cb81d67db6cffe5b14f0328003d9b66e"), looks := true }, kinds := [], alts := [], laidByText := true, laidKinds := [.data, .data, .data, .data, .sentinel, .sentinel, .pinned], laidTests := true, laidLooks := .later }
def RationalNearCardSaid : Prop := Claim7.holds Tryz.pinned (.plain (OpenSpec.ofChange rationalNearSpec)) rationalNearCard

/-- THE SECOND FORM's CARD OF 'garboardlaw03.RationalForms'. -/
def rationalFormsUptoCard : Claim7 := { stood := { row := rationalFormsUptoRow, standIns := [], harness := (true, "ada17ae2a8bd1b31e81428e342ac8471cb81d67db6cffe5b14f0328003d9b66e"), looks := true }, kinds := [], alts := [], laidByText := true, laidKinds := [.data, .data, .data, .data, .sentinel, .sentinel, .pinned], laidTests := true, laidLooks := .later }
def RationalFormsUptoCardSaid : Prop := Claim7.holds Tryz.pinned (.plain (OpenSpec.upto rationalFormsSpec)) rationalFormsUptoCard

/-- THE SECOND FORM's CARD OF 'garboardlaw03.RationalComputes'. -/
def rationalComputesUptoCard : Claim7 := { stood := { row := rationalComputesUptoRow, standIns := [], harness := (true, "ada17ae2a8bd1b31e81428e342ac8471cb81d67db6cffe5b14f0328003d9b66e"), looks := true }, kinds := [], alts := [], laidByText := true, laidKinds := [.data, .data, .data, .data, .sentinel, .sentinel, .pinned], laidTests := true, laidLooks := .later }
def RationalComputesUptoCardSaid : Prop := Claim7.holds Tryz.pinned (.plain (OpenSpec.upto rationalComputesSpec)) rationalComputesUptoCard

/-- THE SECOND FORM's CARD OF 'garboardlaw03.RationalTexts'. -/
def rationalTextsUptoCard : Claim7 := { stood := { row := rationalTextsUptoRow, standIns := [], harness := (true, "ada17ae2a8bd1b31e81428e342ac8471cb81d67db6cffe5b14f0328003d9b66e"), looks := true }, kinds := [], alts := [], laidByText := true, laidKinds := [.data, .data, .data, .data, .sentinel, .sentinel, .pinned], laidTests := true, laidLooks := .later }
def RationalTextsUptoCardSaid : Prop := Claim7.holds Tryz.pinned (.plain (OpenSpec.upto rationalTextsSpec)) rationalTextsUptoCard

/-- THE SECOND FORM's CARD OF 'garboardlaw03.RationalSimplest'. -/
def rationalSimplestUptoCard : Claim7 := { stood := { row := rationalSimplestUptoRow, standIns := [], harness := (true, "ada17ae2a8bd1b31e81428e342ac8471cb81d67db6cffe5b14f0328003d9b66e"), looks := true }, kinds := [], alts := [], laidByText := true, laidKinds := [.data, .data, .data, .data, .sentinel, .sentinel, .pinned], laidTests := true, laidLooks := .later }
def RationalSimplestUptoCardSaid : Prop := Claim7.holds Tryz.pinned (.plain (OpenSpec.upto rationalSimplestSpec)) rationalSimplestUptoCard

/-- THE SECOND FORM's CARD OF 'garboardlaw03.RationalField'. -/
def rationalFieldUptoCard : Claim7 := { stood := { row := rationalFieldUptoRow, standIns := [], harness := (true, "ada17ae2a8bd1b31e81428e342ac8471cb81d67db6cffe5b14f0328003d9b66e"), looks := true }, kinds := [], alts := [], laidByText := true, laidKinds := [.data, .data, .data, .data, .sentinel, .sentinel, .pinned], laidTests := true, laidLooks := .later }
def RationalFieldUptoCardSaid : Prop := Claim7.holds Tryz.pinned (.plain (OpenSpec.upto rationalFieldSpec)) rationalFieldUptoCard

/-- THE SECOND FORM's CARD OF 'garboardlaw03.RationalOrder'. -/
def rationalOrderUptoCard : Claim7 := { stood := { row := rationalOrderUptoRow, standIns := [], harness := (true, "ada17ae2a8bd1b31e81428e342ac8471cb81d67db6cffe5b14f0328003d9b66e"), looks := true }, kinds := [], alts := [], laidByText := true, laidKinds := [.data, .data, .data, .data, .sentinel, .sentinel, .pinned], laidTests := true, laidLooks := .later }
def RationalOrderUptoCardSaid : Prop := Claim7.holds Tryz.pinned (.plain (OpenSpec.upto rationalOrderSpec)) rationalOrderUptoCard

/-- THE SECOND FORM's CARD OF 'garboardlaw03.RationalParts'. -/
def rationalPartsUptoCard : Claim7 := { stood := { row := rationalPartsUptoRow, standIns := [], harness := (true, "ada17ae2a8bd1b31e81428e342ac8471cb81d67db6cffe5b14f0328003d9b66e"), looks := true }, kinds := [], alts := [], laidByText := true, laidKinds := [.data, .data, .data, .data, .sentinel, .sentinel, .pinned], laidTests := true, laidLooks := .later }
def RationalPartsUptoCardSaid : Prop := Claim7.holds Tryz.pinned (.plain (OpenSpec.upto rationalPartsSpec)) rationalPartsUptoCard

/-- THE SECOND FORM's CARD OF 'garboardlaw03.RationalNear'. -/
def rationalNearUptoCard : Claim7 := { stood := { row := rationalNearUptoRow, standIns := [], harness := (true, "ada17ae2a8bd1b31e81428e342ac8471cb81d67db6cffe5b14f0328003d9b66e"), looks := true }, kinds := [], alts := [], laidByText := true, laidKinds := [.data, .data, .data, .data, .sentinel, .sentinel, .pinned], laidTests := true, laidLooks := .later }
def RationalNearUptoCardSaid : Prop := Claim7.holds Tryz.pinned (.plain (OpenSpec.upto rationalNearSpec)) rationalNearUptoCard
end Rows
end Go.Proofs.YtfbmphbmidlijaaGreatDoor
