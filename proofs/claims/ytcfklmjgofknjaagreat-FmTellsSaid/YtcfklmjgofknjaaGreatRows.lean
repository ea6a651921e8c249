/-
  No cell of these rows narrows 'for every input' (looked for: loops, veiled, ifaces, maps, wideKeys, modest, calm, conditions, laid).
  DERIVED. THE GIVEN ROWS OF THIS SEAT. 6 by the template 'for every input the law returns true; each argument reads behind the call as it read before'; 0 by the template 'total and deterministic' (their statements: YtcfklmjgofknjaaGreatTotals.lean).
  GIVEN WITH THE SEED: the statements are not yours to turn. If you find one false, say at which input.
  Laid BY PROGRAM, IN A SANDBOX (cutbox-rows.mjs): the forced cells as the released guide's own fill.sh prints them over the translation 739abfd1e720cba2… (all of the seat's roots in one cut). By AI agents, Wed Nov 11 2026. No macro, syntax, notation, axiom, sorry.
-/
import Derived.Test.YtcfklmjgofknjaaGreatChecked
import GoSem.Claim
import GoSem.ClaimJoined
import GoSem.ClaimMapViews
import Derived.JoinedTies
import Derived.KernelRfl
namespace Go.Proofs.YtcfklmjgofknjaaGreat
/- THE CELL 'sum', in the pinned program and in every row, IS THE sha256 OF THE DUMP (.gsa) THAT YtcfklmjgofknjaaGreatProg.lean LOADS. Nothing in Lean hashes anything: it is a label: what it is worth is what the hold of that sum in a sandbox is worth. -/
noncomputable def Tryz.pinned : Pinned := { name := "ytcfklmjgofknjaagreat", sum := "739abfd1e720cba2bdf230569e8e0445b1ebcf3ebff6d7592d4a736e830454eb", checked := Tryz.checked }
namespace Rows
def none {H : Type} : Left H := { results := [], args := [] }

/-- 'theodolitelaw23.FmTells': WHATEVER THE INPUT: true; the input reads as it did. -/
def fmTellsSpec : ChangeSpec := { name := "fmTells", fn := fun _ => fun
  | [d1, d2, d3, d4, d5, d6] => { results := [.lit (.bool true)], args := [d1, d2, d3, d4, d5, d6] }
  | _ => none }
def fmTellsRow : OpenClaim := { program := "ytcfklmjgofknjaagreat", sum := "739abfd1e720cba2bdf230569e8e0445b1ebcf3ebff6d7592d4a736e830454eb", func := "theodolite/theodolitelaw23.FmTells", spec := "fmTells", inPlace := ["math/bits.Sub64", "math/bits.Add64"], unfollowed := true, recurses := true, named := ["math/bits.divideError", "math/bits.overflowError"], apart := false }
def FmTellsSaid : Prop := fmTellsRow.holds Tryz.pinned (OpenSpec.ofChange fmTellsSpec)

/-- ITS FALSE NEIGHBOUR: 'it returns false'. Refute it at one input. -/
def fmTellsWrong : ChangeSpec := { name := "fmTells", fn := fun _ => fun
  | [d1, d2, d3, d4, d5, d6] => { results := [.lit (.bool false)], args := [d1, d2, d3, d4, d5, d6] }
  | _ => none }
def FmTellsWrongFalsely : Prop := fmTellsRow.holds Tryz.pinned (OpenSpec.ofChange fmTellsWrong)

/-- 'theodolitelaw23.FmTrue': WHATEVER THE INPUT: true; the input reads as it did. -/
def fmTrueSpec : ChangeSpec := { name := "fmTrue", fn := fun _ => fun
  | [d1, d2, d3, d4, d5] => { results := [.lit (.bool true)], args := [d1, d2, d3, d4, d5] }
  | _ => none }
def fmTrueRow : OpenClaim := { program := "ytcfklmjgofknjaagreat", sum := "739abfd1e720cba2bdf230569e8e0445b1ebcf3ebff6d7592d4a736e830454eb", func := "theodolite/theodolitelaw23.FmTrue", spec := "fmTrue", inPlace := ["math/bits.Sub64", "math/bits.Add64"], unfollowed := true, recurses := true, named := ["math/bits.divideError", "math/bits.overflowError"], apart := false }
def FmTrueSaid : Prop := fmTrueRow.holds Tryz.pinned (OpenSpec.ofChange fmTrueSpec)

/-- ITS FALSE NEIGHBOUR: 'it returns false'. Refute it at one input. -/
def fmTrueWrong : ChangeSpec := { name := "fmTrue", fn := fun _ => fun
  | [d1, d2, d3, d4, d5] => { results := [.lit (.bool false)], args := [d1, d2, d3, d4, d5] }
  | _ => none }
def FmTrueWrongFalsely : Prop := fmTrueRow.holds Tryz.pinned (OpenSpec.ofChange fmTrueWrong)

/-- 'theodolitelaw23.FmFalse': WHATEVER THE INPUT: true; the input reads as it did. -/
def fmFalseSpec : ChangeSpec := { name := "fmFalse", fn := fun _ => fun
  | [d1, d2, d3, d4, d5, d6, d7, d8, d9] => { results := [.lit (.bool true)], args := [d1, d2, d3, d4, d5, d6, d7, d8, d9] }
  | _ => none }
def fmFalseRow : OpenClaim := { program := "ytcfklmjgofknjaagreat", sum := "739abfd1e720cba2bdf230569e8e0445b1ebcf3ebff6d7592d4a736e830454eb", func := "theodolite/theodolitelaw23.FmFalse", spec := "fmFalse", inPlace := ["math/bits.Sub64", "math/bits.Add64"], unfollowed := true, recurses := true, named := ["math/bits.divideError", "math/bits.overflowError"], apart := false }
def FmFalseSaid : Prop := fmFalseRow.holds Tryz.pinned (OpenSpec.ofChange fmFalseSpec)

/-- ITS FALSE NEIGHBOUR: 'it returns false'. Refute it at one input. -/
def fmFalseWrong : ChangeSpec := { name := "fmFalse", fn := fun _ => fun
  | [d1, d2, d3, d4, d5, d6, d7, d8, d9] => { results := [.lit (.bool false)], args := [d1, d2, d3, d4, d5, d6, d7, d8, d9] }
  | _ => none }
def FmFalseWrongFalsely : Prop := fmFalseRow.holds Tryz.pinned (OpenSpec.ofChange fmFalseWrong)

/-- 'theodolitelaw23.FmHole': WHATEVER THE INPUT: true; the input reads as it did. -/
def fmHoleSpec : ChangeSpec := { name := "fmHole", fn := fun _ => fun
  | [d1, d2, d3] => { results := [.lit (.bool true)], args := [d1, d2, d3] }
  | _ => none }
def fmHoleRow : OpenClaim := { program := "ytcfklmjgofknjaagreat", sum := "739abfd1e720cba2bdf230569e8e0445b1ebcf3ebff6d7592d4a736e830454eb", func := "theodolite/theodolitelaw23.FmHole", spec := "fmHole", inPlace := ["math/bits.Sub64", "math/bits.Add64"], unfollowed := true, recurses := true, named := ["math/bits.divideError", "math/bits.overflowError"], apart := false }
def FmHoleSaid : Prop := fmHoleRow.holds Tryz.pinned (OpenSpec.ofChange fmHoleSpec)

/-- ITS FALSE NEIGHBOUR: 'it returns false'. Refute it at one input. -/
def fmHoleWrong : ChangeSpec := { name := "fmHole", fn := fun _ => fun
  | [d1, d2, d3] => { results := [.lit (.bool false)], args := [d1, d2, d3] }
  | _ => none }
def FmHoleWrongFalsely : Prop := fmHoleRow.holds Tryz.pinned (OpenSpec.ofChange fmHoleWrong)

/-- 'theodolitelaw23.FmEquals': WHATEVER THE INPUT: true; the input reads as it did. -/
def fmEqualsSpec : ChangeSpec := { name := "fmEquals", fn := fun _ => fun
  | [d1, d2, d3, d4, d5, d6, d7] => { results := [.lit (.bool true)], args := [d1, d2, d3, d4, d5, d6, d7] }
  | _ => none }
def fmEqualsRow : OpenClaim := { program := "ytcfklmjgofknjaagreat", sum := "739abfd1e720cba2bdf230569e8e0445b1ebcf3ebff6d7592d4a736e830454eb", func := "theodolite/theodolitelaw23.FmEquals", spec := "fmEquals", inPlace := ["math/bits.Sub64", "math/bits.Add64"], unfollowed := true, recurses := true, named := ["math/bits.divideError", "math/bits.overflowError"], apart := false }
def FmEqualsSaid : Prop := fmEqualsRow.holds Tryz.pinned (OpenSpec.ofChange fmEqualsSpec)

/-- ITS FALSE NEIGHBOUR: 'it returns false'. Refute it at one input. -/
def fmEqualsWrong : ChangeSpec := { name := "fmEquals", fn := fun _ => fun
  | [d1, d2, d3, d4, d5, d6, d7] => { results := [.lit (.bool false)], args := [d1, d2, d3, d4, d5, d6, d7] }
  | _ => none }
def FmEqualsWrongFalsely : Prop := fmEqualsRow.holds Tryz.pinned (OpenSpec.ofChange fmEqualsWrong)

/-- 'theodolitelaw23.FmBounds': WHATEVER THE INPUT: true; the input reads as it did. -/
def fmBoundsSpec : ChangeSpec := { name := "fmBounds", fn := fun _ => fun
  | [d1, d2, d3, d4, d5, d6] => { results := [.lit (.bool true)], args := [d1, d2, d3, d4, d5, d6] }
  | _ => none }
def fmBoundsRow : OpenClaim := { program := "ytcfklmjgofknjaagreat", sum := "739abfd1e720cba2bdf230569e8e0445b1ebcf3ebff6d7592d4a736e830454eb", func := "theodolite/theodolitelaw23.FmBounds", spec := "fmBounds", inPlace := ["math/bits.Sub64", "math/bits.Add64"], unfollowed := true, recurses := true, named := ["math/bits.divideError", "math/bits.overflowError"], apart := false }
def FmBoundsSaid : Prop := fmBoundsRow.holds Tryz.pinned (OpenSpec.ofChange fmBoundsSpec)

/-- ITS FALSE NEIGHBOUR: 'it returns false'. Refute it at one input. -/
def fmBoundsWrong : ChangeSpec := { name := "fmBounds", fn := fun _ => fun
  | [d1, d2, d3, d4, d5, d6] => { results := [.lit (.bool false)], args := [d1, d2, d3, d4, d5, d6] }
  | _ => none }
def FmBoundsWrongFalsely : Prop := fmBoundsRow.holds Tryz.pinned (OpenSpec.ofChange fmBoundsWrong)

/- THE SECOND FORM. 'bulk': how many values and letters a reading holds, each counted each time it is reached (what is shared counts as often as it is met; a slice's spare places count too). A statement '..UptoSaid' is the law's where the arguments, and the package variables that the reading takes, are together of bulk at most 1048576: NARROWER than '..Said'. Prove '..Said' where nothing that the law and all that it calls make is longer than what came in: it says more and counts as full. Else prove '..UptoSaid'. A law counts once. -/
mutual
def uptoBulk {H : Type} : DataW H → Nat
  | .lit (.string bytes) => bytes.length + 1
  | .lit _ => 1
  | .nil => 1
  | .ptr d => uptoBulk d + 1
  | .slice elems spare => uptoBulkAll elems + uptoBulkAll spare + 1
  | .agg parts => uptoBulkAll parts + 1
  | .iface _ d => uptoBulk d + 1
  | .map entries => uptoBulkEntries entries + 1
  | .held _ => 1
def uptoBulkAll {H : Type} : List (DataW H) → Nat
  | [] => 0
  | d :: r => uptoBulk d + uptoBulkAll r
def uptoBulkEntries {H : Type} : List (Lit × DataW H) → Nat
  | [] => 0
  | x :: r => uptoBulkEntry x + uptoBulkEntries r
def uptoBulkEntry {H : Type} : Lit × DataW H → Nat
  | (.string bytes, d) => bytes.length + uptoBulk d + 1
  | (_, d) => uptoBulk d + 1
 end
def uptoSmall : (H : Type) → List (DataW H) → Bool := fun _ ds => decide (uptoBulkAll ds ≤ 1048576)
def OpenSpec.upto (s : _root_.Go.ChangeSpec) : _root_.Go.OpenSpec := { _root_.Go.OpenSpec.ofChange s with cond := some uptoSmall }

/-- 'theodolitelaw23.FmTells', WHERE WHAT IT READS IS OF BULK AT MOST 1048576: true; the input reads as it did. -/
def fmTellsUptoRow : OpenClaim := { program := "ytcfklmjgofknjaagreat", sum := "739abfd1e720cba2bdf230569e8e0445b1ebcf3ebff6d7592d4a736e830454eb", func := "theodolite/theodolitelaw23.FmTells", spec := "fmTells", inPlace := ["math/bits.Sub64", "math/bits.Add64"], unfollowed := true, recurses := true, named := ["math/bits.divideError", "math/bits.overflowError"], apart := false, narrowed := true }
def FmTellsUptoSaid : Prop := fmTellsUptoRow.holds Tryz.pinned (OpenSpec.upto fmTellsSpec)

/-- 'theodolitelaw23.FmTrue', WHERE WHAT IT READS IS OF BULK AT MOST 1048576: true; the input reads as it did. -/
def fmTrueUptoRow : OpenClaim := { program := "ytcfklmjgofknjaagreat", sum := "739abfd1e720cba2bdf230569e8e0445b1ebcf3ebff6d7592d4a736e830454eb", func := "theodolite/theodolitelaw23.FmTrue", spec := "fmTrue", inPlace := ["math/bits.Sub64", "math/bits.Add64"], unfollowed := true, recurses := true, named := ["math/bits.divideError", "math/bits.overflowError"], apart := false, narrowed := true }
def FmTrueUptoSaid : Prop := fmTrueUptoRow.holds Tryz.pinned (OpenSpec.upto fmTrueSpec)

/-- 'theodolitelaw23.FmFalse', WHERE WHAT IT READS IS OF BULK AT MOST 1048576: true; the input reads as it did. -/
def fmFalseUptoRow : OpenClaim := { program := "ytcfklmjgofknjaagreat", sum := "739abfd1e720cba2bdf230569e8e0445b1ebcf3ebff6d7592d4a736e830454eb", func := "theodolite/theodolitelaw23.FmFalse", spec := "fmFalse", inPlace := ["math/bits.Sub64", "math/bits.Add64"], unfollowed := true, recurses := true, named := ["math/bits.divideError", "math/bits.overflowError"], apart := false, narrowed := true }
def FmFalseUptoSaid : Prop := fmFalseUptoRow.holds Tryz.pinned (OpenSpec.upto fmFalseSpec)

/-- 'theodolitelaw23.FmHole', WHERE WHAT IT READS IS OF BULK AT MOST 1048576: true; the input reads as it did. -/
def fmHoleUptoRow : OpenClaim := { program := "ytcfklmjgofknjaagreat", sum := "739abfd1e720cba2bdf230569e8e0445b1ebcf3ebff6d7592d4a736e830454eb", func := "theodolite/theodolitelaw23.FmHole", spec := "fmHole", inPlace := ["math/bits.Sub64", "math/bits.Add64"], unfollowed := true, recurses := true, named := ["math/bits.divideError", "math/bits.overflowError"], apart := false, narrowed := true }
def FmHoleUptoSaid : Prop := fmHoleUptoRow.holds Tryz.pinned (OpenSpec.upto fmHoleSpec)

/-- 'theodolitelaw23.FmEquals', WHERE WHAT IT READS IS OF BULK AT MOST 1048576: true; the input reads as it did. -/
def fmEqualsUptoRow : OpenClaim := { program := "ytcfklmjgofknjaagreat", sum := "739abfd1e720cba2bdf230569e8e0445b1ebcf3ebff6d7592d4a736e830454eb", func := "theodolite/theodolitelaw23.FmEquals", spec := "fmEquals", inPlace := ["math/bits.Sub64", "math/bits.Add64"], unfollowed := true, recurses := true, named := ["math/bits.divideError", "math/bits.overflowError"], apart := false, narrowed := true }
def FmEqualsUptoSaid : Prop := fmEqualsUptoRow.holds Tryz.pinned (OpenSpec.upto fmEqualsSpec)

/-- 'theodolitelaw23.FmBounds', WHERE WHAT IT READS IS OF BULK AT MOST 1048576: true; the input reads as it did. -/
def fmBoundsUptoRow : OpenClaim := { program := "ytcfklmjgofknjaagreat", sum := "739abfd1e720cba2bdf230569e8e0445b1ebcf3ebff6d7592d4a736e830454eb", func := "theodolite/theodolitelaw23.FmBounds", spec := "fmBounds", inPlace := ["math/bits.Sub64", "math/bits.Add64"], unfollowed := true, recurses := true, named := ["math/bits.divideError", "math/bits.overflowError"], apart := false, narrowed := true }
def FmBoundsUptoSaid : Prop := fmBoundsUptoRow.holds Tryz.pinned (OpenSpec.upto fmBoundsSpec)

end Rows
end Go.Proofs.YtcfklmjgofknjaaGreat
