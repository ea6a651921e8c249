/-
  DERIVED. GIVEN WITH THE SEED: THE CARDS: each row of YtgdpephlpdonnaaGreatDoorRows.lean that lists a variable, with what it lists TIED to the program's text (the seventh form; the later family's looks); each row that meets fmt, with fmt's text TOLD by the authors' own Lean function (tested against real Go, not proved from fmt's source: count such statements apart). THE CARD IS WHAT COUNTS. Prove the row's statement (the work); the ties are given (YtgdpephlpdonnaaGreatDoorTie.lean); close each card by the builder's one call (the guide's Derived/Test/ToyasCard.lean, 'card_holds'). Laid BY PROGRAM, IN A SANDBOX (cutbox-door.mjs). By AI agents, Wed Nov 11 2026. No macro, syntax, notation, axiom, sorry.
-/
import Derived.Test.YtgdpephlpdonnaaGreatDoorRows
import GoSem.ClaimSeven
namespace Go.Proofs.YtgdpephlpdonnaaGreatDoor
namespace Rows

/-- THE TIED CARD OF 'theodolitelaw4.DecimalTells'. -/
def decimalTellsCard : Claim7 := { stood := { row := decimalTellsRow, standIns := [], harness := (true, "4aba787e73ca39de4577ea05173e7e3bf3cdaae199792a5a7ab6e2b6547e911d"), looks := true }, kinds := [], alts := [], laidByText := true, laidKinds := [.data, .data, .data, .data, .sentinel, .sentinel, .pinned], laidTests := true, laidLooks := .later }
def DecimalTellsCardSaid : Prop := Claim7.holds Tryz.pinned (.plain (OpenSpec.ofChange decimalTellsSpec)) decimalTellsCard

/-- THE TIED CARD OF 'theodolitelaw4.DecimalBack'. -/
def decimalBackCard : Claim7 := { stood := { row := decimalBackRow, standIns := [], harness := (true, "4aba787e73ca39de4577ea05173e7e3bf3cdaae199792a5a7ab6e2b6547e911d"), looks := true }, kinds := [], alts := [], laidByText := true, laidKinds := [.data, .data, .data, .data, .sentinel, .sentinel, .pinned], laidTests := true, laidLooks := .later }
def DecimalBackCardSaid : Prop := Claim7.holds Tryz.pinned (.plain (OpenSpec.ofChange decimalBackSpec)) decimalBackCard

/-- THE TIED CARD OF 'theodolitelaw4.DecimalForms'. -/
def decimalFormsCard : Claim7 := { stood := { row := decimalFormsRow, standIns := [], harness := (true, "4aba787e73ca39de4577ea05173e7e3bf3cdaae199792a5a7ab6e2b6547e911d"), looks := true }, kinds := [], alts := [], laidByText := true, laidKinds := [.data, .data, .data, .data, .sentinel, .sentinel, .pinned], laidTests := true, laidLooks := .later }
def DecimalFormsCardSaid : Prop := Claim7.holds Tryz.pinned (.plain (OpenSpec.ofChange decimalFormsSpec)) decimalFormsCard

/-- THE SECOND FORM's CARD OF 'theodolitelaw4.DecimalTells'. -/
def decimalTellsUptoCard : Claim7 := { stood := { row := decimalTellsUptoRow, standIns := [], harness := (true, "4aba787e73ca39de4577ea05173e7e3bf3cdaae199792a5a7ab6e2b6547e911d"), looks := true }, kinds := [], alts := [], laidByText := true, laidKinds := [.data, .data, .data, .data, .sentinel, .sentinel, .pinned], laidTests := true, laidLooks := .later }
def DecimalTellsUptoCardSaid : Prop := Claim7.holds Tryz.pinned (.plain (OpenSpec.upto decimalTellsSpec)) decimalTellsUptoCard

/-- THE SECOND FORM's CARD OF 'theodolitelaw4.DecimalBack'. -/
def decimalBackUptoCard : Claim7 := { stood := { row := decimalBackUptoRow, standIns := [], harness := (true, "4aba787e73ca39de4577ea05173e7e3bf3cdaae199792a5a7ab6e2b6547e911d"), looks := true }, kinds := [], alts := [], laidByText := true, laidKinds := [.data, .data, .data, .data, .sentinel, .sentinel, .pinned], laidTests := true, laidLooks := .later }
def DecimalBackUptoCardSaid : Prop := Claim7.holds Tryz.pinned (.plain (OpenSpec.upto decimalBackSpec)) decimalBackUptoCard

/-- THE SECOND FORM's CARD OF 'theodolitelaw4.DecimalForms'. -/
def decimalFormsUptoCard : Claim7 := { stood := { row := decimalFormsUptoRow, standIns := [], harness := (true, "4aba787e73ca39de4577ea05173e7e3bf3cdaae199792a5a7ab6e2b6547e911d"), looks := true }, kinds := [], alts := [], laidByText := true, laidKinds := [.data, .data, .data, .data, .sentinel, .sentinel, .pinned], laidTests := true, laidLooks := .later }
def DecimalFormsUptoCardSaid : Prop := Claim7.holds Tryz.pinned (.plain (OpenSpec.upto decimalFormsSpec)) decimalFormsUptoCard
end Rows
end Go.Proofs.YtgdpephlpdonnaaGreatDoor
