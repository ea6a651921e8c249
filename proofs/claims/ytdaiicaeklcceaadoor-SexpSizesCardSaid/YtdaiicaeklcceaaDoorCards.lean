/-
  DERIVED. GIVEN WITH THE SEED: THE CARDS: each row of YtdaiicaeklcceaaDoorRows.lean that lists a variable, with what it lists TIED to the program's text (the seventh form; the later family's looks); each row that meets fmt, with fmt's text TOLD by the authors' own Lean function (tested against real Go, not proved from fmt's source: count such statements apart). THE CARD IS WHAT COUNTS. Prove the row's statement (the work); the ties are given (YtdaiicaeklcceaaDoorTie.lean); close each card by the builder's one call (the guide's Derived/Test/ToyasCard.lean, 'card_holds'). Laid BY PROGRAM, IN A SANDBOX (cutbox-door.mjs). By AI agents, Wed Nov 11 2026. No macro, syntax, notation, axiom, sorry.
-/
import Derived.Test.YtdaiicaeklcceaaDoorRows
import GoSem.ClaimSeven
namespace Go.Proofs.YtdaiicaeklcceaaDoor
namespace Rows

/-- THE TIED CARD OF 'theodolitelaw12.SexpReads'. -/
def sexpReadsCard : Claim7 := { stood := { row := sexpReadsRow, standIns := [], harness := (true, "b2489ad45cffd56d18d4f691039e2c8365f9f67e619732d3e456a471e5b229ce"), looks := false }, kinds := [], alts := [], laidByText := true, laidKinds := [.data, .listed, .data, .pinned], laidTests := true, laidLooks := .later }
def SexpReadsCardSaid : Prop := Claim7.holds Tryd.pinned (.plain (OpenSpec.ofChange sexpReadsSpec)) sexpReadsCard

/-- THE TIED CARD OF 'theodolitelaw12.SexpBack'. -/
def sexpBackCard : Claim7 := { stood := { row := sexpBackRow, standIns := [], harness := (true, "b2489ad45cffd56d18d4f691039e2c8365f9f67e619732d3e456a471e5b229ce"), looks := false }, kinds := [], alts := [], laidByText := true, laidKinds := [.data, .listed, .data, .pinned], laidTests := true, laidLooks := .later }
def SexpBackCardSaid : Prop := Claim7.holds Tryd.pinned (.plain (OpenSpec.ofChange sexpBackSpec)) sexpBackCard

/-- THE TIED CARD OF 'theodolitelaw12.SexpDeep'. -/
def sexpDeepCard : Claim7 := { stood := { row := sexpDeepRow, standIns := [], harness := (true, "b2489ad45cffd56d18d4f691039e2c8365f9f67e619732d3e456a471e5b229ce"), looks := false }, kinds := [], alts := [], laidByText := true, laidKinds := [.data, .listed, .data, .pinned], laidTests := true, laidLooks := .later }
def SexpDeepCardSaid : Prop := Claim7.holds Tryd.pinned (.plain (OpenSpec.ofChange sexpDeepSpec)) sexpDeepCard

/-- THE TIED CARD OF 'theodolitelaw12.SexpSizes'. -/
def sexpSizesCard : Claim7 := { stood := { row := sexpSizesRow, standIns := [], harness := (true, "b2489ad45cffd56d18d4f691039e2c8365f9f67e619732d3e456a471e5b229ce"), looks := false }, kinds := [], alts := [], laidByText := true, laidKinds := [.data, .listed, .data, .pinned], laidTests := true, laidLooks := .later }
def SexpSizesCardSaid : Prop := Claim7.holds Tryd.pinned (.plain (OpenSpec.ofChange sexpSizesSpec)) sexpSizesCard

/-- THE SECOND FORM's CARD OF 'theodolitelaw12.SexpReads'. -/
def sexpReadsUptoCard : Claim7 := { stood := { row := sexpReadsUptoRow, standIns := [], harness := (true, "b2489ad45cffd56d18d4f691039e2c8365f9f67e619732d3e456a471e5b229ce"), looks := false }, kinds := [], alts := [], laidByText := true, laidKinds := [.data, .listed, .data, .pinned], laidTests := true, laidLooks := .later }
def SexpReadsUptoCardSaid : Prop := Claim7.holds Tryd.pinned (.plain (OpenSpec.upto sexpReadsSpec)) sexpReadsUptoCard

/-- THE SECOND FORM's CARD OF 'theodolitelaw12.SexpBack'. -/
def sexpBackUptoCard : Claim7 := { stood := { row := sexpBackUptoRow, standIns := [], harness := (true, "b2489ad45cffd56d18d4f691039e2c8365f9f67e619732d3e456a471e5b229ce"), looks := false }, kinds := [], alts := [], laidByText := true, laidKinds := [.data, .listed, .data, .pinned], laidTests := true, laidLooks := .later }
def SexpBackUptoCardSaid : Prop := Claim7.holds Tryd.pinned (.plain (OpenSpec.upto sexpBackSpec)) sexpBackUptoCard

/-- THE SECOND FORM's CARD OF 'theodolitelaw12.SexpDeep'. -/
def sexpDeepUptoCard : Claim7 := { stood := { row := sexpDeepUptoRow, standIns := [], harness := (true, "b2489ad45cffd56d18d4f691039e2c8365f9f67e619732d3e456a471e5b229ce"), looks := false }, kinds := [], alts := [], laidByText := true, laidKinds := [.data, .listed, .data, .pinned], laidTests := true, laidLooks := .later }
def SexpDeepUptoCardSaid : Prop := Claim7.holds Tryd.pinned (.plain (OpenSpec.upto sexpDeepSpec)) sexpDeepUptoCard

/-- THE SECOND FORM's CARD OF 'theodolitelaw12.SexpSizes'. -/
def sexpSizesUptoCard : Claim7 := { stood := { row := sexpSizesUptoRow, standIns := [], harness := (true, "b2489ad45cffd56d18d4f691039e2c8365f9f67e619732d3e456a471e5b229ce"), looks := false }, kinds := [], alts := [], laidByText := true, laidKinds := [.data, .listed, .data, .pinned], laidTests := true, laidLooks := .later }
def SexpSizesUptoCardSaid : Prop := Claim7.holds Tryd.pinned (.plain (OpenSpec.upto sexpSizesSpec)) sexpSizesUptoCard
end Rows
end Go.Proofs.YtdaiicaeklcceaaDoor
