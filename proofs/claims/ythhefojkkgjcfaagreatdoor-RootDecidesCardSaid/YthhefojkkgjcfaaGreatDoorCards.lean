/-
  DERIVED. GIVEN WITH THE SEED: THE CARDS: each row of YthhefojkkgjcfaaGreatDoorRows.lean that lists a variable, with what it lists TIED to the program's text (the seventh form; the later family's looks); each row that meets fmt, with fmt's text TOLD by the authors' own Lean function (tested against real Go, not proved from fmt's source: count such statements apart). THE CARD IS WHAT COUNTS. Prove the row's statement (the work); the ties are given (YthhefojkkgjcfaaGreatDoorTie.lean); close each card by the builder's one call (the guide's Derived/Test/ToyasCard.lean, 'card_holds'). Laid BY PROGRAM, IN A SANDBOX (cutbox-door.mjs). By AI agents, Wed Nov 11 2026. No macro, syntax, notation, axiom, sorry.
-/
import Derived.Test.YthhefojkkgjcfaaGreatDoorRows
import GoSem.ClaimSeven
namespace Go.Proofs.YthhefojkkgjcfaaGreatDoor
namespace Rows

/-- THE TIED CARD OF 'garboardlaw05.RootEncloses'. -/
def rootEnclosesCard : Claim7 := { stood := { row := rootEnclosesRow, standIns := [], harness := (true, "ccefe64f8d04dc07a6ff93fb371ea52ce7235b2895dac858a5feb0bb8b9fbed9"), looks := true }, kinds := [], alts := [], laidByText := true, laidKinds := [.data, .data, .data, .sentinel, .sentinel], laidTests := true, laidLooks := .later }
def RootEnclosesCardSaid : Prop := Claim7.holds Tryz.pinned (.plain (OpenSpec.ofChange rootEnclosesSpec)) rootEnclosesCard

/-- THE TIED CARD OF 'garboardlaw05.RootSigns'. -/
def rootSignsCard : Claim7 := { stood := { row := rootSignsRow, standIns := [], harness := (true, "ccefe64f8d04dc07a6ff93fb371ea52ce7235b2895dac858a5feb0bb8b9fbed9"), looks := true }, kinds := [], alts := [], laidByText := true, laidKinds := [.data, .data, .data, .sentinel, .sentinel], laidTests := true, laidLooks := .later }
def RootSignsCardSaid : Prop := Claim7.holds Tryz.pinned (.plain (OpenSpec.ofChange rootSignsSpec)) rootSignsCard

/-- THE TIED CARD OF 'garboardlaw05.RootExact'. -/
def rootExactCard : Claim7 := { stood := { row := rootExactRow, standIns := [], harness := (true, "ccefe64f8d04dc07a6ff93fb371ea52ce7235b2895dac858a5feb0bb8b9fbed9"), looks := true }, kinds := [], alts := [], laidByText := true, laidKinds := [.data, .data, .data, .sentinel, .sentinel], laidTests := true, laidLooks := .later }
def RootExactCardSaid : Prop := Claim7.holds Tryz.pinned (.plain (OpenSpec.ofChange rootExactSpec)) rootExactCard

/-- THE TIED CARD OF 'garboardlaw05.RootNorms'. -/
def rootNormsCard : Claim7 := { stood := { row := rootNormsRow, standIns := [], harness := (true, "ccefe64f8d04dc07a6ff93fb371ea52ce7235b2895dac858a5feb0bb8b9fbed9"), looks := true }, kinds := [], alts := [], laidByText := true, laidKinds := [.data, .data, .data, .sentinel, .sentinel], laidTests := true, laidLooks := .later }
def RootNormsCardSaid : Prop := Claim7.holds Tryz.pinned (.plain (OpenSpec.ofChange rootNormsSpec)) rootNormsCard

/-- THE TIED CARD OF 'garboardlaw05.RootBetween'. -/
def rootBetweenCard : Claim7 := { stood := { row := rootBetweenRow, standIns := [], harness := (true, "ccefe64f8d04dc07a6ff93fb371ea52ce7235b2895dac858a5feb0bb8b9fbed9"), looks := true }, kinds := [], alts := [], laidByText := true, laidKinds := [.data, .data, .data, .sentinel, .sentinel], laidTests := true, laidLooks := .later }
def RootBetweenCardSaid : Prop := Claim7.holds Tryz.pinned (.plain (OpenSpec.ofChange rootBetweenSpec)) rootBetweenCard

/-- THE TIED CARD OF 'garboardlaw05.RootFiner'. -/
def rootFinerCard : Claim7 := { stood := { row := rootFinerRow, standIns := [], harness := (true, "ccefe64f8d04dc07a6ff93fb371ea52ce7235b2895dac858a5feb0bb8b9fbed9"), looks := true }, kinds := [], alts := [], laidByText := true, laidKinds := [.data, .data, .data, .sentinel, .sentinel], laidTests := true, laidLooks := .later }
def RootFinerCardSaid : Prop := Claim7.holds Tryz.pinned (.plain (OpenSpec.ofChange rootFinerSpec)) rootFinerCard

/-- THE TIED CARD OF 'garboardlaw05.RootDecides'. -/
def rootDecidesCard : Claim7 := { stood := { row := rootDecidesRow, standIns := [], harness := (true, "ccefe64f8d04dc07a6ff93fb371ea52ce7235b2895dac858a5feb0bb8b9fbed9"), looks := true }, kinds := [], alts := [], laidByText := true, laidKinds := [.data, .data, .data, .sentinel, .sentinel], laidTests := true, laidLooks := .later }
def RootDecidesCardSaid : Prop := Claim7.holds Tryz.pinned (.plain (OpenSpec.ofChange rootDecidesSpec)) rootDecidesCard

/-- THE SECOND FORM's CARD OF 'garboardlaw05.RootEncloses'. -/
def rootEnclosesUptoCard : Claim7 := { stood := { row := rootEnclosesUptoRow, standIns := [], harness := (true, "ccefe64f8d04dc07a6ff93fb371ea52ce7235b2895dac858a5feb0bb8b9fbed9"), looks := true }, kinds := [], alts := [], laidByText := true, laidKinds := [.data, .data, .data, .sentinel, .sentinel], laidTests := true, laidLooks := .later }
def RootEnclosesUptoCardSaid : Prop := Claim7.holds Tryz.pinned (.plain (OpenSpec.upto rootEnclosesSpec)) rootEnclosesUptoCard

/-- THE SECOND FORM's CARD OF 'garboardlaw05.RootSigns'. -/
def rootSignsUptoCard : Claim7 := { stood := { row := rootSignsUptoRow, standIns := [], harness := (true, "ccefe64f8d04dc07a6ff93fb371ea52ce7235b2895dac858a5feb0bb8b9fbed9"), looks := true }, kinds := [], alts := [], laidByText := true, laidKinds := [.data, .data, .data, .sentinel, .sentinel], laidTests := true, laidLooks := .later }
def RootSignsUptoCardSaid : Prop := Claim7.holds Tryz.pinned (.plain (OpenSpec.upto rootSignsSpec)) rootSignsUptoCard

/-- THE SECOND FORM's CARD OF 'garboardlaw05.RootExact'. -/
def rootExactUptoCard : Claim7 := { stood := { row := rootExactUptoRow, standIns := [], harness := (true, "ccefe64f8d04dc07a6ff93fb371ea52ce7235b2895dac858a5feb0bb8b9fbed9"), looks := true }, kinds := [], alts := [], laidByText := true, laidKinds := [.data, .data, .data, .sentinel, .sentinel], laidTests := true, laidLooks := .later }
def RootExactUptoCardSaid : Prop := Claim7.holds Tryz.pinned (.plain (OpenSpec.upto rootExactSpec)) rootExactUptoCard

/-- THE SECOND FORM's CARD OF 'garboardlaw05.RootNorms'. -/
def rootNormsUptoCard : Claim7 := { stood := { row := rootNormsUptoRow, standIns := [], harness := (true, "ccefe64f8d04dc07a6ff93fb371ea52ce7235b2895dac858a5feb0bb8b9fbed9"), looks := true }, kinds := [], alts := [], laidByText := true, laidKinds := [.data, .data, .data, .sentinel, .sentinel], laidTests := true, laidLooks := .later }
def RootNormsUptoCardSaid : Prop := Claim7.holds Tryz.pinned (.plain (OpenSpec.upto rootNormsSpec)) rootNormsUptoCard

/-- THE SECOND FORM's CARD OF 'garboardlaw05.RootBetween'. -/
def rootBetweenUptoCard : Claim7 := { stood := { row := rootBetweenUptoRow, standIns := [], harness := (true, "ccefe64f8d04dc07a6ff93fb371ea52ce7235b2895dac858a5feb0bb8b9fbed9"), looks := true }, kinds := [], alts := [], laidByText := true, laidKinds := [.data, .data, .data, .sentinel, .sentinel], laidTests := true, laidLooks := .later }
def RootBetweenUptoCardSaid : Prop := Claim7.holds Tryz.pinned (.plain (OpenSpec.upto rootBetweenSpec)) rootBetweenUptoCard

/-- THE SECOND FORM's CARD OF 'garboardlaw05.RootFiner'. -/
def rootFinerUptoCard : Claim7 := { stood := { row := rootFinerUptoRow, standIns := [], harness := (true, "ccefe64f8d04dc07a6ff93fb371ea52ce7235b2895dac858a5feb0bb8b9fbed9"), looks := true }, kinds := [], alts := [], laidByText := true, laidKinds := [.data, .data, .data, .sentinel, .sentinel], laidTests := true, laidLooks := .later }
def RootFinerUptoCardSaid : Prop := Claim7.holds Tryz.pinned (.plain (OpenSpec.upto rootFinerSpec)) rootFinerUptoCard

/-- THE SECOND FORM's CARD OF 'garboardlaw05.RootDecides'. -/
def rootDecidesUptoCard : Claim7 := { stood := { row := rootDecidesUptoRow, standIns := [], harness := (true, "ccefe64f8d04dc07a6ff93fb371ea52ce7235b2895dac858a5feb0bb8b9fbed9"), looks := true }, kinds := [], alts := [], laidByText := true, laidKinds := [.data, .data, .data, .sentinel, .sentinel], laidTests := true, laidLooks := .later }
def RootDecidesUptoCardSaid : Prop := Claim7.holds Tryz.pinned (.plain (OpenSpec.upto rootDecidesSpec)) rootDecidesUptoCard
end Rows
end Go.Proofs.YthhefojkkgjcfaaGreatDoor
