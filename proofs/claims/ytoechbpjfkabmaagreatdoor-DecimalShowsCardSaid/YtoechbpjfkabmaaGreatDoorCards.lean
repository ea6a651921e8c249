/-
  DERIVED. GIVEN WITH THE SEED: THE CARDS: each row of YtoechbpjfkabmaaGreatDoorRows.lean that lists a variable, with what it lists TIED to the program's text (the seventh form; the later family's looks); each row that meets fmt, with fmt's text TOLD by the authors' own Lean function (tested against real Go, not proved from fmt's source: count such statements apart). THE CARD IS WHAT COUNTS. Prove the row's statement (the work); the ties are given (YtoechbpjfkabmaaGreatDoorTie.lean); close each card by the builder's one call (the guide's Derived/Test/ToyasCard.lean, 'card_holds'). Laid BY PROGRAM, IN A SANDBOX (cutbox-door.mjs). By AI agents, Wed Nov 11 2026. No macro, syntax, notation, axiom, sorry.
-/
import Derived.Test.YtoechbpjfkabmaaGreatDoorRows
import GoSem.ClaimSeven
namespace Go.Proofs.YtoechbpjfkabmaaGreatDoor
namespace Rows

/-- THE TIED CARD OF 'theodolitelaw2.WholeSigns'. -/
def wholeSignsCard : Claim7 := { stood := { row := wholeSignsRow, standIns := [], harness := (true, "3c2b8ffdf73c12d6572566df131026bd4d6d420728a61cf0395205b52998c885"), looks := true }, kinds := [], alts := [], laidByText := true, laidKinds := [.data, .data, .data, .data, .sentinel, .sentinel, .pinned], laidTests := true, laidLooks := .later }
def WholeSignsCardSaid : Prop := Claim7.holds Tryz.pinned (.plain (OpenSpec.ofChange wholeSignsSpec)) wholeSignsCard

/-- THE TIED CARD OF 'theodolitelaw4.DecimalTells'. -/
def decimalTellsCard : Claim7 := { stood := { row := decimalTellsRow, standIns := [], harness := (true, "3c2b8ffdf73c12d6572566df131026bd4d6d420728a61cf0395205b52998c885"), looks := true }, kinds := [], alts := [], laidByText := true, laidKinds := [.data, .data, .data, .data, .sentinel, .sentinel, .pinned], laidTests := true, laidLooks := .later }
def DecimalTellsCardSaid : Prop := Claim7.holds Tryz.pinned (.plain (OpenSpec.ofChange decimalTellsSpec)) decimalTellsCard

/-- THE TIED CARD OF 'theodolitelaw4.DecimalBack'. -/
def decimalBackCard : Claim7 := { stood := { row := decimalBackRow, standIns := [], harness := (true, "3c2b8ffdf73c12d6572566df131026bd4d6d420728a61cf0395205b52998c885"), looks := true }, kinds := [], alts := [], laidByText := true, laidKinds := [.data, .data, .data, .data, .sentinel, .sentinel, .pinned], laidTests := true, laidLooks := .later }
def DecimalBackCardSaid : Prop := Claim7.holds Tryz.pinned (.plain (OpenSpec.ofChange decimalBackSpec)) decimalBackCard

/-- THE TIED CARD OF 'theodolitelaw4.DecimalForms'. -/
def decimalFormsCard : Claim7 := { stood := { row := decimalFormsRow, standIns := [], harness := (true, "3c2b8ffdf73c12d6572566df131026bd4d6d420728a61cf0395205b52998c885"), looks := true }, kinds := [], alts := [], laidByText := true, laidKinds := [.data, .data, .data, .data, .sentinel, .sentinel, .pinned], laidTests := true, laidLooks := .later }
def DecimalFormsCardSaid : Prop := Claim7.holds Tryz.pinned (.plain (OpenSpec.ofChange decimalFormsSpec)) decimalFormsCard

/-- THE TIED CARD OF 'theodolitelaw4.DecimalShows'. -/
def decimalShowsCard : Claim7 := { stood := { row := decimalShowsRow, standIns := [], harness := (true, "3c2b8ffdf73c12d6572566df131026bd4d6d420728a61cf0395205b52998c885"), looks := true }, kinds := [], alts := [], laidByText := true, laidKinds := [.data, .data, .data, .data, .sentinel, .sentinel, .pinned], laidTests := true, laidLooks := .later }
def DecimalShowsCardSaid : Prop := Claim7.holds Tryz.pinned (.plain (OpenSpec.ofChange decimalShowsSpec)) decimalShowsCard

/-- THE TIED CARD OF 'theodolitelaw3.RatBetween'. -/
def ratBetweenCard : Claim7 := { stood := { row := ratBetweenRow, standIns := [], harness := (true, "3c2b8ffdf73c12d6572566df131026bd4d6d420728a61cf0395205b52998c885"), looks := true }, kinds := [], alts := [], laidByText := true, laidKinds := [.data, .data, .data, .data, .sentinel, .sentinel, .pinned], laidTests := true, laidLooks := .later }
def RatBetweenCardSaid : Prop := Claim7.holds Tryz.pinned (.plain (OpenSpec.ofChange ratBetweenSpec)) ratBetweenCard

/-- THE TIED CARD OF 'theodolitelaw3.RatOrder'. -/
def ratOrderCard : Claim7 := { stood := { row := ratOrderRow, standIns := [], harness := (true, "3c2b8ffdf73c12d6572566df131026bd4d6d420728a61cf0395205b52998c885"), looks := true }, kinds := [], alts := [], laidByText := true, laidKinds := [.data, .data, .data, .data, .sentinel, .sentinel, .pinned], laidTests := true, laidLooks := .later }
def RatOrderCardSaid : Prop := Claim7.holds Tryz.pinned (.plain (OpenSpec.ofChange ratOrderSpec)) ratOrderCard

/-- THE TIED CARD OF 'theodolitelaw3.RatFloors'. -/
def ratFloorsCard : Claim7 := { stood := { row := ratFloorsRow, standIns := [], harness := (true, "3c2b8ffdf73c12d6572566df131026bd4d6d420728a61cf0395205b52998c885"), looks := true }, kinds := [], alts := [], laidByText := true, laidKinds := [.data, .data, .data, .data, .sentinel, .sentinel, .pinned], laidTests := true, laidLooks := .later }
def RatFloorsCardSaid : Prop := Claim7.holds Tryz.pinned (.plain (OpenSpec.ofChange ratFloorsSpec)) ratFloorsCard

/-- THE TIED CARD OF 'theodolitelaw3.RatInts'. -/
def ratIntsCard : Claim7 := { stood := { row := ratIntsRow, standIns := [], harness := (true, "3c2b8ffdf73c12d6572566df131026bd4d6d420728a61cf0395205b52998c885"), looks := true }, kinds := [], alts := [], laidByText := true, laidKinds := [.data, .data, .data, .data, .sentinel, .sentinel, .pinned], laidTests := true, laidLooks := .later }
def RatIntsCardSaid : Prop := Claim7.holds Tryz.pinned (.plain (OpenSpec.ofChange ratIntsSpec)) ratIntsCard

/-- THE TIED CARD OF 'theodolitelaw3.RatSums'. -/
def ratSumsCard : Claim7 := { stood := { row := ratSumsRow, standIns := [], harness := (true, "3c2b8ffdf73c12d6572566df131026bd4d6d420728a61cf0395205b52998c885"), looks := true }, kinds := [], alts := [], laidByText := true, laidKinds := [.data, .data, .data, .data, .sentinel, .sentinel, .pinned], laidTests := true, laidLooks := .later }
def RatSumsCardSaid : Prop := Claim7.holds Tryz.pinned (.plain (OpenSpec.ofChange ratSumsSpec)) ratSumsCard

/-- THE TIED CARD OF 'theodolitelaw3.RatField'. -/
def ratFieldCard : Claim7 := { stood := { row := ratFieldRow, standIns := [], harness := (true, "3c2b8ffdf73c12d6572566df131026bd4d6d420728a61cf0395205b52998c885"), looks := true }, kinds := [], alts := [], laidByText := true, laidKinds := [.data, .data, .data, .data, .sentinel, .sentinel, .pinned], laidTests := true, laidLooks := .later }
def RatFieldCardSaid : Prop := Claim7.holds Tryz.pinned (.plain (OpenSpec.ofChange ratFieldSpec)) ratFieldCard

/-- THE SECOND FORM's CARD OF 'theodolitelaw2.WholeSigns'. -/
def wholeSignsUptoCard : Claim7 := { stood := { row := wholeSignsUptoRow, standIns := [], harness := (true, "3c2b8ffdf73c12d6572566df131026bd4d6d420728a61cf0395205b52998c885"), looks := true }, kinds := [], alts := [], laidByText := true, laidKinds := [.data, .data, .data, .data, .sentinel, .sentinel, .pinned], laidTests := true, laidLooks := .later }
def WholeSignsUptoCardSaid : Prop := Claim7.holds Tryz.pinned (.plain (OpenSpec.upto wholeSignsSpec)) wholeSignsUptoCard

/-- THE SECOND FORM's CARD OF 'theodolitelaw4.DecimalTells'. -/
def decimalTellsUptoCard : Claim7 := { stood := { row := decimalTellsUptoRow, standIns := [], harness := (true, "3c2b8ffdf73c12d6572566df131026bd4d6d420728a61cf0395205b52998c885"), looks := true }, kinds := [], alts := [], laidByText := true, laidKinds := [.data, .data, .data, .data, .sentinel, .sentinel, .pinned], laidTests := true, laidLooks := .later }
def DecimalTellsUptoCardSaid : Prop := Claim7.holds Tryz.pinned (.plain (OpenSpec.upto decimalTellsSpec)) decimalTellsUptoCard

/-- THE SECOND FORM's CARD OF 'theodolitelaw4.DecimalBack'. -/
def decimalBackUptoCard : Claim7 := { stood := { row := decimalBackUptoRow, standIns := [], harness := (true, "3c2b8ffdf73c12d6572566df131026bd4d6d420728a61cf0395205b52998c885"), looks := true }, kinds := [], alts := [], laidByText := true, laidKinds := [.data, .data, .data, .data, .sentinel, .sentinel, .pinned], laidTests := true, laidLooks := .later }
def DecimalBackUptoCardSaid : Prop := Claim7.holds Tryz.pinned (.plain (OpenSpec.upto decimalBackSpec)) decimalBackUptoCard

/-- THE SECOND FORM's CARD OF 'theodolitelaw4.DecimalForms'. -/
def decimalFormsUptoCard : Claim7 := { stood := { row := decimalFormsUptoRow, standIns := [], harness := (true, "3c2b8ffdf73c12d6572566df131026bd4d6d420728a61cf0395205b52998c885"), looks := true }, kinds := [], alts := [], laidByText := true, laidKinds := [.data, .data, .data, .data, .sentinel, .sentinel, .pinned], laidTests := true, laidLooks := .later }
def DecimalFormsUptoCardSaid : Prop := Claim7.holds Tryz.pinned (.plain (OpenSpec.upto decimalFormsSpec)) decimalFormsUptoCard

/-- THE SECOND FORM's CARD OF 'theodolitelaw4.DecimalShows'. -/
def decimalShowsUptoCard : Claim7 := { stood := { row := decimalShowsUptoRow, standIns := [], harness := (true, "3c2b8ffdf73c12d6572566df131026bd4d6d420728a61cf0395205b52998c885"), looks := true }, kinds := [], alts := [], laidByText := true, laidKinds := [.data, .data, .data, .data, .sentinel, .sentinel, .pinned], laidTests := true, laidLooks := .later }
def DecimalShowsUptoCardSaid : Prop := Claim7.holds Tryz.pinned (.plain (OpenSpec.upto decimalShowsSpec)) decimalShowsUptoCard

/-- THE SECOND FORM's CARD OF 'theodolitelaw3.RatBetween'. -/
def ratBetweenUptoCard : Claim7 := { stood := { row := ratBetweenUptoRow, standIns := [], harness := (true, "3c2b8ffdf73c12d6572566df131026bd4d6d420728a61cf0395205b52998c885"), looks := true }, kinds := [], alts := [], laidByText := true, laidKinds := [.data, .data, .data, .data, .sentinel, .sentinel, .pinned], laidTests := true, laidLooks := .later }
def RatBetweenUptoCardSaid : Prop := Claim7.holds Tryz.pinned (.plain (OpenSpec.upto ratBetweenSpec)) ratBetweenUptoCard

/-- THE SECOND FORM's CARD OF 'theodolitelaw3.RatOrder'. -/
def ratOrderUptoCard : Claim7 := { stood := { row := ratOrderUptoRow, standIns := [], harness := (true, "3c2b8ffdf73c12d6572566df131026bd4d6d420728a61cf0395205b52998c885"), looks := true }, kinds := [], alts := [], laidByText := true, laidKinds := [.data, .data, .data, .data, .sentinel, .sentinel, .pinned], laidTests := true, laidLooks := .later }
def RatOrderUptoCardSaid : Prop := Claim7.holds Tryz.pinned (.plain (OpenSpec.upto ratOrderSpec)) ratOrderUptoCard

/-- THE SECOND FORM's CARD OF 'theodolitelaw3.RatFloors'. -/
def ratFloorsUptoCard : Claim7 := { stood := { row := ratFloorsUptoRow, standIns := [], harness := (true, "3c2b8ffdf73c12d6572566df131026bd4d6d420728a61cf0395205b52998c885"), looks := true }, kinds := [], alts := [], laidByText := true, laidKinds := [.data, .data, .data, .data, .sentinel, .sentinel, .pinned], laidTests := true, laidLooks := .later }
def RatFloorsUptoCardSaid : Prop := Claim7.holds Tryz.pinned (.plain (OpenSpec.upto ratFloorsSpec)) ratFloorsUptoCard

/-- THE SECOND FORM's CARD OF 'theodolitelaw3.RatInts'. -/
def ratIntsUptoCard : Claim7 := { stood := { row := ratIntsUptoRow, standIns := [], harness := (true, "3c2b8ffdf73c12d6572566df131026bd4d6d420728a61cf0395205b52998c885"), looks := true }, kinds := [], alts := [], laidByText := true, laidKinds := [.data, .data, .data, .data, .sentinel, .sentinel, .pinned], laidTests := true, laidLooks := .later }
def RatIntsUptoCardSaid : Prop := Claim7.holds Tryz.pinned (.plain (OpenSpec.upto ratIntsSpec)) ratIntsUptoCard

/-- THE SECOND FORM's CARD OF 'theodolitelaw3.RatSums'. -/
def ratSumsUptoCard : Claim7 := { stood := { row := ratSumsUptoRow, standIns := [], harness := (true, "3c2b8ffdf73c12d6572566df131026bd4d6d420728a61cf0395205b52998c885"), looks := true }, kinds := [], alts := [], laidByText := true, laidKinds := [.data, .data, .data, .data, .sentinel, .sentinel, .pinned], laidTests := true, laidLooks := .later }
def RatSumsUptoCardSaid : Prop := Claim7.holds Tryz.pinned (.plain (OpenSpec.upto ratSumsSpec)) ratSumsUptoCard

/-- THE SECOND FORM's CARD OF 'theodolitelaw3.RatField'. -/
def ratFieldUptoCard : Claim7 := { stood := { row := ratFieldUptoRow, standIns := [], harness := (true, "3c2b8ffdf73c12d6572566df131026bd4d6d420728a61cf0395205b52998c885"), looks := true }, kinds := [], alts := [], laidByText := true, laidKinds := [.data, .data, .data, .data, .sentinel, .sentinel, .pinned], laidTests := true, laidLooks := .later }
def RatFieldUptoCardSaid : Prop := Claim7.holds Tryz.pinned (.plain (OpenSpec.upto ratFieldSpec)) ratFieldUptoCard
end Rows
end Go.Proofs.YtoechbpjfkabmaaGreatDoor
