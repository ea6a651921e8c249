/-
  DERIVED. GIVEN WITH THE SEED: THE CARDS: each row of YtcbagnlidecmkaaGreatDoorRows.lean that lists a variable, with what it lists TIED to the program's text (the seventh form; the later family's looks); each row that meets fmt, with fmt's text TOLD by the authors' own Lean function (tested against real Go, not proved from fmt's source: count such statements apart). THE CARD IS WHAT COUNTS. Prove the row's statement (the work); the ties are given (YtcbagnlidecmkaaGreatDoorTie.lean); close each card by the builder's one call (the guide's Derived/Test/ToyasCard.lean, 'card_holds'). Laid BY PROGRAM, IN A SANDBOX (cutbox-door.mjs). By AI agents, Wed Nov 11 2026. No macro, syntax, notation, axiom, sorry.
-/
import Derived.Test.YtcbagnlidecmkaaGreatDoorRows
import GoSem.ClaimSeven
namespace Go.Proofs.YtcbagnlidecmkaaGreatDoor
namespace Rows

/-- THE TIED CARD OF 'theodolitelaw13.ScriptBack'. -/
def scriptBackCard : Claim7 := { stood := { row := scriptBackRow, standIns := [], harness := (true, "ce98386cf92ee909611d8f475a7439d7508d95c6f9edccd6c2fa505ae8991454"), looks := true }, kinds := [], alts := [], laidByText := true, laidKinds := [.data, .data, .data, .data, .sentinel, .sentinel, .listed, .data, .pinned], laidTests := true, laidLooks := .later }
def ScriptBackCardSaid : Prop := Claim7.holds Tryz.pinned (.plain (OpenSpec.ofChange scriptBackSpec)) scriptBackCard

/-- THE TIED CARD OF 'theodolitelaw13.ScriptForms'. -/
def scriptFormsCard : Claim7 := { stood := { row := scriptFormsRow, standIns := [], harness := (true, "ce98386cf92ee909611d8f475a7439d7508d95c6f9edccd6c2fa505ae8991454"), looks := true }, kinds := [], alts := [], laidByText := true, laidKinds := [.data, .data, .data, .data, .sentinel, .sentinel, .listed, .data, .pinned], laidTests := true, laidLooks := .later }
def ScriptFormsCardSaid : Prop := Claim7.holds Tryz.pinned (.plain (OpenSpec.ofChange scriptFormsSpec)) scriptFormsCard

/-- THE TIED CARD OF 'theodolitelaw13.ScriptParams'. -/
def scriptParamsCard : Claim7 := { stood := { row := scriptParamsRow, standIns := [], harness := (true, "ce98386cf92ee909611d8f475a7439d7508d95c6f9edccd6c2fa505ae8991454"), looks := true }, kinds := [], alts := [], laidByText := true, laidKinds := [.data, .data, .data, .data, .sentinel, .sentinel, .listed, .data, .pinned], laidTests := true, laidLooks := .later }
def ScriptParamsCardSaid : Prop := Claim7.holds Tryz.pinned (.plain (OpenSpec.ofChange scriptParamsSpec)) scriptParamsCard

/-- THE TIED CARD OF 'theodolitelaw13.ScriptReads'. -/
def scriptReadsCard : Claim7 := { stood := { row := scriptReadsRow, standIns := [], harness := (true, "ce98386cf92ee909611d8f475a7439d7508d95c6f9edccd6c2fa505ae8991454"), looks := true }, kinds := [], alts := [], laidByText := true, laidKinds := [.data, .data, .data, .data, .sentinel, .sentinel, .listed, .data, .pinned], laidTests := true, laidLooks := .later }
def ScriptReadsCardSaid : Prop := Claim7.holds Tryz.pinned (.plain (OpenSpec.ofChange scriptReadsSpec)) scriptReadsCard

/-- THE TIED CARD OF 'theodolitelaw13.ScriptLevels'. -/
def scriptLevelsCard : Claim7 := { stood := { row := scriptLevelsRow, standIns := [], harness := (true, "ce98386cf92ee909611d8f475a7439d7508d95c6f9edccd6c2fa505ae8991454"), looks := true }, kinds := [], alts := [], laidByText := true, laidKinds := [.data, .data, .data, .data, .sentinel, .sentinel, .listed, .data, .pinned], laidTests := true, laidLooks := .later }
def ScriptLevelsCardSaid : Prop := Claim7.holds Tryz.pinned (.plain (OpenSpec.ofChange scriptLevelsSpec)) scriptLevelsCard

/-- THE SECOND FORM's CARD OF 'theodolitelaw13.ScriptBack'. -/
def scriptBackUptoCard : Claim7 := { stood := { row := scriptBackUptoRow, standIns := [], harness := (true, "ce98386cf92ee909611d8f475a7439d7508d95c6f9edccd6c2fa505ae8991454"), looks := true }, kinds := [], alts := [], laidByText := true, laidKinds := [.data, .data, .data, .data, .sentinel, .sentinel, .listed, .data, .pinned], laidTests := true, laidLooks := .later }
def ScriptBackUptoCardSaid : Prop := Claim7.holds Tryz.pinned (.plain (OpenSpec.upto scriptBackSpec)) scriptBackUptoCard

/-- THE SECOND FORM's CARD OF 'theodolitelaw13.ScriptForms'. -/
def scriptFormsUptoCard : Claim7 := { stood := { row := scriptFormsUptoRow, standIns := [], harness := (true, "ce98386cf92ee909611d8f475a7439d7508d95c6f9edccd6c2fa505ae8991454"), looks := true }, kinds := [], alts := [], laidByText := true, laidKinds := [.data, .data, .data, .data, .sentinel, .sentinel, .listed, .data, .pinned], laidTests := true, laidLooks := .later }
def ScriptFormsUptoCardSaid : Prop := Claim7.holds Tryz.pinned (.plain (OpenSpec.upto scriptFormsSpec)) scriptFormsUptoCard

/-- THE SECOND FORM's CARD OF 'theodolitelaw13.ScriptParams'. -/
def scriptParamsUptoCard : Claim7 := { stood := { row := scriptParamsUptoRow, standIns := [], harness := (true, "ce98386cf92ee909611d8f475a7439d7508d95c6f9edccd6c2fa505ae8991454"), looks := true }, kinds := [], alts := [], laidByText := true, laidKinds := [.data, .data, .data, .data, .sentinel, .sentinel, .listed, .data, .pinned], laidTests := true, laidLooks := .later }
def ScriptParamsUptoCardSaid : Prop := Claim7.holds Tryz.pinned (.plain (OpenSpec.upto scriptParamsSpec)) scriptParamsUptoCard

/-- THE SECOND FORM's CARD OF 'theodolitelaw13.ScriptReads'. -/
def scriptReadsUptoCard : Claim7 := { stood := { row := scriptReadsUptoRow, standIns := [], harness := (true, "ce98386cf92ee909611d8f475a7439d7508d95c6f9edccd6c2fa505ae8991454"), looks := true }, kinds := [], alts := [], laidByText := true, laidKinds := [.data, .data, .data, .data, .sentinel, .sentinel, .listed, .data, .pinned], laidTests := true, laidLooks := .later }
def ScriptReadsUptoCardSaid : Prop := Claim7.holds Tryz.pinned (.plain (OpenSpec.upto scriptReadsSpec)) scriptReadsUptoCard

/-- THE SECOND FORM's CARD OF 'theodolitelaw13.ScriptLevels'. -/
def scriptLevelsUptoCard : Claim7 := { stood := { row := scriptLevelsUptoRow, standIns := [], harness := (true, "ce98386cf92ee909611d8f475a7439d7508d95c6f9edccd6c2fa505ae8991454"), looks := true }, kinds := [], alts := [], laidByText := true, laidKinds := [.data, .data, .data, .data, .sentinel, .sentinel, .listed, .data, .pinned], laidTests := true, laidLooks := .later }
def ScriptLevelsUptoCardSaid : Prop := Claim7.holds Tryz.pinned (.plain (OpenSpec.upto scriptLevelsSpec)) scriptLevelsUptoCard
end Rows
end Go.Proofs.YtcbagnlidecmkaaGreatDoor
