/-
  No cell of these rows narrows 'for every input' (looked for: loops, veiled, ifaces, maps, wideKeys, modest, calm, conditions, laid).
  DERIVED. THE GIVEN ROWS OF THIS SEAT. 6 by the template 'for every input the law returns true; each argument reads behind the call as it read before'; 0 by the template 'total and deterministic' (their statements: YtbdccebpehogjaaTotals.lean).
  GIVEN WITH THE SEED: the statements are not yours to turn. If you find one false, say at which input.
  Laid BY PROGRAM, IN A SANDBOX (cutbox-rows.mjs): the forced cells as the released guide's own fill.sh prints them over the translation ff8a4167eea8482a… (all of the seat's roots in one cut). By AI agents, Wed Nov 11 2026. No macro, syntax, notation, axiom, sorry.
-/
import Derived.Test.YtbdccebpehogjaaChecked
import GoSem.Claim
import GoSem.ClaimJoined
import GoSem.ClaimMapViews
import Derived.JoinedTies
import Derived.KernelRfl
namespace Go.Proofs.Ytbdccebpehogjaa
/- THE CELL 'sum', in the pinned program and in every row, IS THE sha256 OF THE DUMP (.gsa) THAT YtbdccebpehogjaaProg.lean LOADS. Nothing in Lean hashes anything: it is a label: what it is worth is what the hold of that sum in a sandbox is worth. -/
noncomputable def Try.pinned : Pinned := { name := "ytbdccebpehogjaa", sum := "ff8a4167eea8482a5cd655245c76b60924e6bb3f682729ff51dd780a99ab357a", checked := Try.checked }
namespace Rows
def none {H : Type} : Left H := { results := [], args := [] }

/-- 'theodolitelaw5.QuickTells': WHATEVER THE INPUT: true; the input reads as it did. -/
def quickTellsSpec : ChangeSpec := { name := "quickTells", fn := fun _ => fun
  | [d1, d2] => { results := [.lit (.bool true)], args := [d1, d2] }
  | _ => none }
def quickTellsRow : OpenClaim := { program := "ytbdccebpehogjaa", sum := "ff8a4167eea8482a5cd655245c76b60924e6bb3f682729ff51dd780a99ab357a", func := "theodolite/theodolitelaw5.QuickTells", spec := "quickTells", inPlace := ["math/bits.Sub64", "math/bits.Add64", "math.Float64frombits", "math.Float64bits"], named := ["math/bits.divideError", "math/bits.overflowError"], apart := false }
def QuickTellsSaid : Prop := quickTellsRow.holds Try.pinned (OpenSpec.ofChange quickTellsSpec)

/-- ITS FALSE NEIGHBOUR: 'it returns false'. Refute it at one input. -/
def quickTellsWrong : ChangeSpec := { name := "quickTells", fn := fun _ => fun
  | [d1, d2] => { results := [.lit (.bool false)], args := [d1, d2] }
  | _ => none }
def QuickTellsWrongFalsely : Prop := quickTellsRow.holds Try.pinned (OpenSpec.ofChange quickTellsWrong)

/-- 'theodolitelaw5.QuickHolds': WHATEVER THE INPUT: true; the input reads as it did. -/
def quickHoldsSpec : ChangeSpec := { name := "quickHolds", fn := fun _ => fun
  | [d] => { results := [.lit (.bool true)], args := [d] }
  | _ => none }
def quickHoldsRow : OpenClaim := { program := "ytbdccebpehogjaa", sum := "ff8a4167eea8482a5cd655245c76b60924e6bb3f682729ff51dd780a99ab357a", func := "theodolite/theodolitelaw5.QuickHolds", spec := "quickHolds", inPlace := ["math/bits.Sub64", "math/bits.Add64", "math.Float64frombits", "math.Float64bits"], named := ["math/bits.divideError", "math/bits.overflowError"], apart := false }
def QuickHoldsSaid : Prop := quickHoldsRow.holds Try.pinned (OpenSpec.ofChange quickHoldsSpec)

/-- ITS FALSE NEIGHBOUR: 'it returns false'. Refute it at one input. -/
def quickHoldsWrong : ChangeSpec := { name := "quickHolds", fn := fun _ => fun
  | [d] => { results := [.lit (.bool false)], args := [d] }
  | _ => none }
def QuickHoldsWrongFalsely : Prop := quickHoldsRow.holds Try.pinned (OpenSpec.ofChange quickHoldsWrong)

/-- 'theodolitelaw5.QuickSure': WHATEVER THE INPUT: true; the input reads as it did. -/
def quickSureSpec : ChangeSpec := { name := "quickSure", fn := fun _ => fun
  | [d1, d2] => { results := [.lit (.bool true)], args := [d1, d2] }
  | _ => none }
def quickSureRow : OpenClaim := { program := "ytbdccebpehogjaa", sum := "ff8a4167eea8482a5cd655245c76b60924e6bb3f682729ff51dd780a99ab357a", func := "theodolite/theodolitelaw5.QuickSure", spec := "quickSure", inPlace := ["math/bits.Sub64", "math/bits.Add64", "math.Float64frombits", "math.Float64bits"], named := ["math/bits.divideError", "math/bits.overflowError"], apart := false }
def QuickSureSaid : Prop := quickSureRow.holds Try.pinned (OpenSpec.ofChange quickSureSpec)

/-- ITS FALSE NEIGHBOUR: 'it returns false'. Refute it at one input. -/
def quickSureWrong : ChangeSpec := { name := "quickSure", fn := fun _ => fun
  | [d1, d2] => { results := [.lit (.bool false)], args := [d1, d2] }
  | _ => none }
def QuickSureWrongFalsely : Prop := quickSureRow.holds Try.pinned (OpenSpec.ofChange quickSureWrong)

/-- 'theodolitelaw5.QuickAdds': WHATEVER THE INPUT: true; the input reads as it did. -/
def quickAddsSpec : ChangeSpec := { name := "quickAdds", fn := fun _ => fun
  | [d1, d2, d3, d4] => { results := [.lit (.bool true)], args := [d1, d2, d3, d4] }
  | _ => none }
def quickAddsRow : OpenClaim := { program := "ytbdccebpehogjaa", sum := "ff8a4167eea8482a5cd655245c76b60924e6bb3f682729ff51dd780a99ab357a", func := "theodolite/theodolitelaw5.QuickAdds", spec := "quickAdds", inPlace := ["math.Float64bits", "math.Float64frombits", "math/bits.Sub64", "math/bits.Add64"], named := ["math/bits.divideError", "math/bits.overflowError"], apart := false }
def QuickAddsSaid : Prop := quickAddsRow.holds Try.pinned (OpenSpec.ofChange quickAddsSpec)

/-- ITS FALSE NEIGHBOUR: 'it returns false'. Refute it at one input. -/
def quickAddsWrong : ChangeSpec := { name := "quickAdds", fn := fun _ => fun
  | [d1, d2, d3, d4] => { results := [.lit (.bool false)], args := [d1, d2, d3, d4] }
  | _ => none }
def QuickAddsWrongFalsely : Prop := quickAddsRow.holds Try.pinned (OpenSpec.ofChange quickAddsWrong)

/-- 'theodolitelaw5.QuickOrder': WHATEVER THE INPUT: true; the input reads as it did. -/
def quickOrderSpec : ChangeSpec := { name := "quickOrder", fn := fun _ => fun
  | [d1, d2] => { results := [.lit (.bool true)], args := [d1, d2] }
  | _ => none }
def quickOrderRow : OpenClaim := { program := "ytbdccebpehogjaa", sum := "ff8a4167eea8482a5cd655245c76b60924e6bb3f682729ff51dd780a99ab357a", func := "theodolite/theodolitelaw5.QuickOrder", spec := "quickOrder", inPlace := ["math/bits.Sub64", "math/bits.Add64", "math.Float64frombits", "math.Float64bits"], named := ["math/bits.divideError", "math/bits.overflowError"], apart := false }
def QuickOrderSaid : Prop := quickOrderRow.holds Try.pinned (OpenSpec.ofChange quickOrderSpec)

/-- ITS FALSE NEIGHBOUR: 'it returns false'. Refute it at one input. -/
def quickOrderWrong : ChangeSpec := { name := "quickOrder", fn := fun _ => fun
  | [d1, d2] => { results := [.lit (.bool false)], args := [d1, d2] }
  | _ => none }
def QuickOrderWrongFalsely : Prop := quickOrderRow.holds Try.pinned (OpenSpec.ofChange quickOrderWrong)

/-- 'theodolitelaw5.QuickWhole': WHATEVER THE INPUT: true; the input reads as it did. -/
def quickWholeSpec : ChangeSpec := { name := "quickWhole", fn := fun _ => fun
  | [d1, d2] => { results := [.lit (.bool true)], args := [d1, d2] }
  | _ => none }
def quickWholeRow : OpenClaim := { program := "ytbdccebpehogjaa", sum := "ff8a4167eea8482a5cd655245c76b60924e6bb3f682729ff51dd780a99ab357a", func := "theodolite/theodolitelaw5.QuickWhole", spec := "quickWhole", inPlace := ["math/bits.Sub64", "math/bits.Add64", "math.Float64frombits", "math.Float64bits"], named := ["math/bits.divideError", "math/bits.overflowError"], apart := false }
def QuickWholeSaid : Prop := quickWholeRow.holds Try.pinned (OpenSpec.ofChange quickWholeSpec)

/-- ITS FALSE NEIGHBOUR: 'it returns false'. Refute it at one input. -/
def quickWholeWrong : ChangeSpec := { name := "quickWhole", fn := fun _ => fun
  | [d1, d2] => { results := [.lit (.bool false)], args := [d1, d2] }
  | _ => none }
def QuickWholeWrongFalsely : Prop := quickWholeRow.holds Try.pinned (OpenSpec.ofChange quickWholeWrong)

/- THE SECOND FORM. 'bulk': how many values and letters a reading holds, each counted each time it is reached (what is shared counts as often as it is met; a slice's spare places count too). A statement '..UptoSaid' is the law's where the arguments, and the package variables that the reading takes, are together of bulk at most 1048576: NARROWER than '..Said'. Prove '..Said' where nothing that the law and all that it calls make is longer than what came in: it says more and counts as full. Else prove '..UptoSaid'. A law counts once. -/
mutual
def uptoBulk {H : Type} : DataW H → Nat
  | .lit (.string bytes) => bytes.length + 1
  | .lit _ => 1
  | .nil => 1
  | .ptr d => uptoBulk d + 1
  | .slice elems spare => uptoBulkAll elems + uptoBulkAll spare + 1
  | .agg parts => uptoBulkAll parts + 1
  | .iface _ d => uptoBulk d + 1
  | .map entries => uptoBulkEntries entries + 1
  | .held _ => 1
def uptoBulkAll {H : Type} : List (DataW H) → Nat
  | [] => 0
  | d :: r => uptoBulk d + uptoBulkAll r
def uptoBulkEntries {H : Type} : List (Lit × DataW H) → Nat
  | [] => 0
  | x :: r => uptoBulkEntry x + uptoBulkEntries r
def uptoBulkEntry {H : Type} : Lit × DataW H → Nat
  | (.string bytes, d) => bytes.length + uptoBulk d + 1
  | (_, d) => uptoBulk d + 1
 end
def uptoSmall : (H : Type) → List (DataW H) → Bool := fun _ ds => decide (uptoBulkAll ds ≤ 1048576)
def OpenSpec.upto (s : _root_.Go.ChangeSpec) : _root_.Go.OpenSpec := { _root_.Go.OpenSpec.ofChange s with cond := some uptoSmall }

/-- 'theodolitelaw5.QuickTells', WHERE WHAT IT READS IS OF BULK AT MOST 1048576: true; the input reads as it did. -/
def quickTellsUptoRow : OpenClaim := { program := "ytbdccebpehogjaa", sum := "ff8a4167eea8482a5cd655245c76b60924e6bb3f682729ff51dd780a99ab357a", func := "theodolite/theodolitelaw5.QuickTells", spec := "quickTells", inPlace := ["math/bits.Sub64", "math/bits.Add64", "math.Float64frombits", "math.Float64bits"], named := ["math/bits.divideError", "math/bits.overflowError"], apart := false, narrowed := true }
def QuickTellsUptoSaid : Prop := quickTellsUptoRow.holds Try.pinned (OpenSpec.upto quickTellsSpec)

/-- 'theodolitelaw5.QuickHolds', WHERE WHAT IT READS IS OF BULK AT MOST 1048576: true; the input reads as it did. -/
def quickHoldsUptoRow : OpenClaim := { program := "ytbdccebpehogjaa", sum := "ff8a4167eea8482a5cd655245c76b60924e6bb3f682729ff51dd780a99ab357a", func := "theodolite/theodolitelaw5.QuickHolds", spec := "quickHolds", inPlace := ["math/bits.Sub64", "math/bits.Add64", "math.Float64frombits", "math.Float64bits"], named := ["math/bits.divideError", "math/bits.overflowError"], apart := false, narrowed := true }
def QuickHoldsUptoSaid : Prop := quickHoldsUptoRow.holds Try.pinned (OpenSpec.upto quickHoldsSpec)

/-- 'theodolitelaw5.QuickSure', WHERE WHAT IT READS IS OF BULK AT MOST 1048576: true; the input reads as it did. -/
def quickSureUptoRow : OpenClaim := { program := "ytbdccebpehogjaa", sum := "ff8a4167eea8482a5cd655245c76b60924e6bb3f682729ff51dd780a99ab357a", func := "theodolite/theodolitelaw5.QuickSure", spec := "quickSure", inPlace := ["math/bits.Sub64", "math/bits.Add64", "math.Float64frombits", "math.Float64bits"], named := ["math/bits.divideError", "math/bits.overflowError"], apart := false, narrowed := true }
def QuickSureUptoSaid : Prop := quickSureUptoRow.holds Try.pinned (OpenSpec.upto quickSureSpec)

/-- 'theodolitelaw5.QuickAdds', WHERE WHAT IT READS IS OF BULK AT MOST 1048576: true; the input reads as it did. -/
def quickAddsUptoRow : OpenClaim := { program := "ytbdccebpehogjaa", sum := "ff8a4167eea8482a5cd655245c76b60924e6bb3f682729ff51dd780a99ab357a", func := "theodolite/theodolitelaw5.QuickAdds", spec := "quickAdds", inPlace := ["math.Float64bits", "math.Float64frombits", "math/bits.Sub64", "math/bits.Add64"], named := ["math/bits.divideError", "math/bits.overflowError"], apart := false, narrowed := true }
def QuickAddsUptoSaid : Prop := quickAddsUptoRow.holds Try.pinned (OpenSpec.upto quickAddsSpec)

/-- 'theodolitelaw5.QuickOrder', WHERE WHAT IT READS IS OF BULK AT MOST 1048576: true; the input reads as it did. -/
def quickOrderUptoRow : OpenClaim := { program := "ytbdccebpehogjaa", sum := "ff8a4167eea8482a5cd655245c76b60924e6bb3f682729ff51dd780a99ab357a", func := "theodolite/theodolitelaw5.QuickOrder", spec := "quickOrder", inPlace := ["math/bits.Sub64", "math/bits.Add64", "math.Float64frombits", "math.Float64bits"], named := ["math/bits.divideError", "math/bits.overflowError"], apart := false, narrowed := true }
def QuickOrderUptoSaid : Prop := quickOrderUptoRow.holds Try.pinned (OpenSpec.upto quickOrderSpec)

/-- 'theodolitelaw5.QuickWhole', WHERE WHAT IT READS IS OF BULK AT MOST 1048576: true; the input reads as it did. -/
def quickWholeUptoRow : OpenClaim := { program := "ytbdccebpehogjaa", sum := "ff8a4167eea8482a5cd655245c76b60924e6bb3f682729ff51dd780a99ab357a", func := "theodolite/theodolitelaw5.QuickWhole", spec := "quickWhole", inPlace := ["math/bits.Sub64", "math/bits.Add64", "math.Float64frombits", "math.Float64bits"], named := ["math/bits.divideError", "math/bits.overflowError"], apart := false, narrowed := true }
def QuickWholeUptoSaid : Prop := quickWholeUptoRow.holds Try.pinned (OpenSpec.upto quickWholeSpec)

end Rows
end Go.Proofs.Ytbdccebpehogjaa
